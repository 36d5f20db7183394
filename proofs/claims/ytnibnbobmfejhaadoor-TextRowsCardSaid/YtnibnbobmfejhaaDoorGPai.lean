/- The formulas of some functions, printed by a program (wip/cw/CwGen). -/
import Derived.Test.YtnibnbobmfejhaaDoorNam
set_option linter.unusedVariables false
set_option maxRecDepth 100000
namespace Go.Proofs.YtnibnbobmfejhaaDoor
open Go Go.CW

/-- strconv.ParseInt -/
def strconv_ParseInt_F (p0 : ByteArray) (p1 : Int) (p2 : Int) (w : World) (R : KV) : Prop :=
 Go.CW.Spec Tryd.prog 35 #[(.string p0), (.int .i64 p1), (.int .i64 p2)] w fun v0 w1 =>
 ∃ (n2 : Int) (v3 : Value), ((v0 : Value) = (.tuple #[(.int .i64 n2), v3])) ∧
 ∃ (b4 : Bool), ((Sem.run @Go.Proofs.Tryd.prog (Go.binOp Go.BinOp.neq 51 v3 .nilIface) w1) = (.ok (.bool b4) w1)) ∧
 (∀ (a5 : @Go.Operand), ∀ (v6 : @Go.Value), (Sem.run @Go.Proofs.Tryd.prog (Go.eqGuard Go.BinOp.neq 51 a5 (@Go.Operand.const v6) v3 .nilIface) w1) = (.ok PUnit.unit w1)) ∧
 cond b4
 (Go.CW.Spec Tryd.prog 36 #[(.string (ByteArray.mk #[80, 97, 114, 115, 101, 73, 110, 116])), (.string p0), (.int .i64 p1), (.int .i64 p2), v3] w1 fun v7 w8 =>
 R (.tuple #[(.int .i64 n2), v7]) w8)
 (R (.tuple #[(.int .i64 n2), .nilIface]) w1)

theorem strconv_ParseInt_wp (p0 : ByteArray) (p1 : Int) (p2 : Int) (w : World) (R : KV) (h : strconv_ParseInt_F p0 p1 p2 w R) : Go.CW.Spec Tryd.prog 23 #[(.string p0), (.int .i64 p1), (.int .i64 p2)] w R :=
  spec_of Tryd.func23 (by kernel_rfl) (show strconv_ParseInt_F p0 p1 p2 w R = _ by kernel_rfl) h

end Go.Proofs.YtnibnbobmfejhaaDoor
