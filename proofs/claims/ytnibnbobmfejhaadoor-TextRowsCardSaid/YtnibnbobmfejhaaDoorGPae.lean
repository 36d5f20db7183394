/- The formulas of some functions, printed by a program (wip/cw/CwGen). -/
import Derived.Test.YtnibnbobmfejhaaDoorNam
set_option linter.unusedVariables false
set_option maxRecDepth 100000
namespace Go.Proofs.YtnibnbobmfejhaaDoor
open Go Go.CW

/-- internal/strconv.ParseInt -/
def istrconv_ParseInt_F (p0 : ByteArray) (p1 : Int) (p2 : Int) (w : World) (R : KV) : Prop :=
 cond (ByteArray.toList p0 == ByteArray.toList (ByteArray.mk #[]))
 (∃ (v0 : Value), ((Sem.run @Go.Proofs.Tryd.prog (Go.Instr.makeInterface 68 (.int .i64 (2 : Int))) w) = (.ok v0 w)) ∧
 R (.tuple #[(.int .i64 (0 : Int)), v0]) w)
 ((inR (0 : Int) (ByteArray.size p0)) ∧
 JoinP [.str, .bool]
 (fun (s1 : ByteArray) => fun (b2 : Bool) => fun (w3 : World) =>
 Go.CW.Spec Tryd.prog 44 #[(.string s1), (.int .i64 p1), (.int .i64 p2)] w3 fun v4 w5 =>
 ∃ (n6 : Int) (v7 : Value), ((v4 : Value) = (.tuple #[(.int .u64 n6), v7])) ∧
 JoinP [.bool]
 (fun (b8 : Bool) => fun (w9 : World) =>
 cond b8
 (R (.tuple #[(.int .i64 (0 : Int)), v7]) w9)
 (JoinP [.int .i64]
 (fun (n10 : Int) => fun (w11 : World) =>
 leK (IntKind.wrap .u64 (IntKind.wrap .i64 (n10 - (1 : Int)))) (JoinP [.bool]
 (fun (b12 : Bool) => fun (w13 : World) =>
 cond b12
 (∃ (v14 : Value), ((Sem.run @Go.Proofs.Tryd.prog (Go.Instr.makeInterface 68 (.int .i64 (1 : Int))) w13) = (.ok v14 w13)) ∧
 R (.tuple #[(.int .i64 (IntKind.wrap .i64 (IntKind.wrap .u64 ((IntKind.wrap .u64 ((1 : Int) * ((2 : Int) ^ (min (Int.toNat (IntKind.wrap .u64 (IntKind.wrap .i64 (n10 - (1 : Int))))) 64)))) - (1 : Int))))), v14]) w13)
 (JoinP [.bool]
 (fun (b15 : Bool) => fun (w16 : World) =>
 cond b15
 (∃ (v17 : Value), ((Sem.run @Go.Proofs.Tryd.prog (Go.Instr.makeInterface 68 (.int .i64 (1 : Int))) w16) = (.ok v17 w16)) ∧
 R (.tuple #[(.int .i64 (IntKind.wrap .i64 ((0 : Int) - (IntKind.wrap .i64 (IntKind.wrap .u64 ((1 : Int) * ((2 : Int) ^ (min (Int.toNat (IntKind.wrap .u64 (IntKind.wrap .i64 (n10 - (1 : Int))))) 64)))))))), v17]) w16)
 (JoinP [.int .i64]
 (fun (n18 : Int) => fun (w19 : World) =>
 R (.tuple #[(.int .i64 n18), .nilIface]) w19)
 (fun j20 =>
 cond b2
 (j20 (IntKind.wrap .i64 ((0 : Int) - (IntKind.wrap .i64 n6))) w16)
 (j20 (IntKind.wrap .i64 n6) w16))))
 (fun j21 =>
 cond b2
 (j21 (decide (n6 > (IntKind.wrap .u64 ((1 : Int) * ((2 : Int) ^ (min (Int.toNat (IntKind.wrap .u64 (IntKind.wrap .i64 (n10 - (1 : Int))))) 64)))))) w13)
 (j21 false w13))))
 (fun j22 =>
 cond (!b2)
 (j22 (decide (n6 ≥ (IntKind.wrap .u64 ((1 : Int) * ((2 : Int) ^ (min (Int.toNat (IntKind.wrap .u64 (IntKind.wrap .i64 (n10 - (1 : Int))))) 64)))))) w11)
 (j22 false w11))))
 (fun j23 =>
 cond (p2 == (0 : Int))
 (j23 (64 : Int) w9)
 (j23 p2 w9))))
 (fun j24 =>
 ∃ (b25 : Bool), ((Sem.run @Go.Proofs.Tryd.prog (Go.binOp Go.BinOp.neq 51 v7 .nilIface) w5) = (.ok (.bool b25) w5)) ∧
 (∀ (a26 : @Go.Operand), ∀ (v27 : @Go.Value), (Sem.run @Go.Proofs.Tryd.prog (Go.eqGuard Go.BinOp.neq 51 a26 (@Go.Operand.const v27) v7 .nilIface) w5) = (.ok PUnit.unit w5)) ∧
 cond b25
 (∃ (v28 : Value), ((Sem.run @Go.Proofs.Tryd.prog (Go.Instr.makeInterface 68 (.int .i64 (1 : Int))) w5) = (.ok v28 w5)) ∧
 ∃ (b29 : Bool), ((Sem.run @Go.Proofs.Tryd.prog (Go.binOp Go.BinOp.neq 51 v7 v28) w5) = (.ok (.bool b29) w5)) ∧
 (∀ (a30 : @Go.Operand), ∀ (b31 : @Go.Operand), (Sem.run @Go.Proofs.Tryd.prog (Go.eqGuard Go.BinOp.neq 51 a30 b31 v7 v28) w5) = (.ok PUnit.unit w5)) ∧
 j24 b29 w5)
 (j24 false w5)))
 (fun j32 =>
 cond ((((UInt8.toNat (@ByteArray.get! p0 (@Int.toNat (@OfNat.ofNat @Int 0 (@instOfNat 0))))) : Nat) : Int) == (43 : Int))
 (∃ (m33 : Nat) (m34 : Nat) (m35 : Nat), ((Go.CW.boundsOf (ByteArray.size p0) (ByteArray.size p0) (some (.int .i64 (1 : Int))) none none) = (some (m33, (m34, m35)))) ∧
 j32 (ByteArray.extract p0 m33 m34) false w)
 (cond ((((UInt8.toNat (@ByteArray.get! p0 (@Int.toNat (@OfNat.ofNat @Int 0 (@instOfNat 0))))) : Nat) : Int) == (45 : Int))
 (∃ (m36 : Nat) (m37 : Nat) (m38 : Nat), ((Go.CW.boundsOf (ByteArray.size p0) (ByteArray.size p0) (some (.int .i64 (1 : Int))) none none) = (some (m36, (m37, m38)))) ∧
 j32 (ByteArray.extract p0 m36 m37) true w)
 (j32 p0 false w))))

theorem istrconv_ParseInt_wp (p0 : ByteArray) (p1 : Int) (p2 : Int) (w : World) (R : KV) (h : istrconv_ParseInt_F p0 p1 p2 w R) : Go.CW.Spec Tryd.prog 35 #[(.string p0), (.int .i64 p1), (.int .i64 p2)] w R :=
  spec_of Tryd.func35 (by kernel_rfl) (show istrconv_ParseInt_F p0 p1 p2 w R = _ by kernel_rfl) h

end Go.Proofs.YtnibnbobmfejhaaDoor
