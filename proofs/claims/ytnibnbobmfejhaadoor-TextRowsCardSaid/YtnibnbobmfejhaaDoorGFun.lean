/- The formulas of some functions, printed by a program (wip/cw/CwGen). -/
import Derived.Test.YtnibnbobmfejhaaDoorFacts
set_option linter.unusedVariables false
set_option maxRecDepth 100000
namespace Go.Proofs.YtnibnbobmfejhaaDoor
open Go Go.CW

/-- slices.Clip[[]byte,byte] -/
def slices_Clip___F (p0 : Value) (w : World) (R : KV) : Prop :=
 ∃ m0 : Nat, ((Go.CW.sliceLen p0) = (some m0)) ∧
 ∃ m1 : Nat, ((Go.CW.sliceLen p0) = (some m1)) ∧
 ∃ v2 : Value, ((Go.CW.subSlice p0 1 none (some (.int .i64 ((m0 : Nat) : Int))) (some (.int .i64 ((m1 : Nat) : Int)))) = (some v2)) ∧
 R v2 w

theorem slices_Clip___wp (p0 : Value) (w : World) (R : KV) (h : slices_Clip___F p0 w R) : Go.CW.Spec Tryd.prog 25 #[p0] w R :=
  spec_of Tryd.func25 (by kernel_rfl) (show slices_Clip___F p0 w R = _ by kernel_rfl) h

end Go.Proofs.YtnibnbobmfejhaaDoor
