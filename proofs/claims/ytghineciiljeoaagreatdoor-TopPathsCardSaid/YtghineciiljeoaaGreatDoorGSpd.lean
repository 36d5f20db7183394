/- The formulas of some functions, printed by a program (wip/cw/CwGen). -/
import Derived.Test.YtghineciiljeoaaGreatDoorNam
set_option linter.unusedVariables false
set_option maxRecDepth 100000
namespace Go.Proofs.YtghineciiljeoaaGreatDoor
open Go Go.CW

/-- bytes.Equal -/
def bytes_Equal_F (p0 : Value) (p1 : Value) (w : World) (R : KV) : Prop :=
 ∃ (s0 : ByteArray), ((Sem.run @Go.Proofs.Tryz.prog (Go.convert 34 9 p0) w) = (.ok (.string s0) w)) ∧
 ∃ (s1 : ByteArray), ((Sem.run @Go.Proofs.Tryz.prog (Go.convert 34 9 p1) w) = (.ok (.string s1) w)) ∧
 R (.bool (ByteArray.toList s0 == ByteArray.toList s1)) w

theorem bytes_Equal_wp (p0 : Value) (p1 : Value) (w : World) (R : KV) (h : bytes_Equal_F p0 p1 w R) : Go.CW.Spec Tryz.prog 134 #[p0, p1] w R :=
  spec_of Tryz.func134 (by kernel_rfl) (show bytes_Equal_F p0 p1 w R = _ by kernel_rfl) h

end Go.Proofs.YtghineciiljeoaaGreatDoor
