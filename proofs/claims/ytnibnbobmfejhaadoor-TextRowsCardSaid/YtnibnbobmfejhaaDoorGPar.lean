/- The formulas of some functions, printed by a program (wip/cw/CwGen). -/
import Derived.Test.YtnibnbobmfejhaaDoorNam
set_option linter.unusedVariables false
set_option maxRecDepth 100000
namespace Go.Proofs.YtnibnbobmfejhaaDoor
open Go Go.CW

/-- internal/strconv.ParseUint -/
def strconv_ParseUint_F (p0 : ByteArray) (p1 : Int) (p2 : Int) (w : World) (R : KV) : Prop :=
 cond (ByteArray.toList p0 == ByteArray.toList (ByteArray.mk #[]))
 (∃ (v0 : Value), ((Sem.run @Go.Proofs.Tryd.prog (Go.Instr.makeInterface 68 (.int .i64 (2 : Int))) w) = (.ok v0 w)) ∧
 R (.tuple #[(.int .u64 (0 : Int)), v0]) w)
 (JoinP [.str, .int .i64]
 (fun (s1 : ByteArray) => fun (n2 : Int) => fun (w3 : World) =>
 JoinP [.int .i64]
 (fun (n4 : Int) => fun (w5 : World) =>
 JoinP [.int .u64]
 (fun (n6 : Int) => fun (w7 : World) =>
 leK (IntKind.wrap .u64 n4) (∃ (v8 : Value) (w9 : World), ((Sem.run @Go.Proofs.Tryd.prog (Go.convert 9 32 (.string s1)) w7) = (.ok v8 w9)) ∧
 ∃ (m10 : Nat), ((Go.CW.sliceLen v8) = (some m10)) ∧
 LoopP [.bool, .int .u64, .int .i64]
 (fun j11 => fun (b12 : Bool) => fun (n13 : Int) => fun (n14 : Int) => fun (w15 : World) =>
 cond (decide (n14 < ((m10 : Nat) : Int)))
 (JoinP [.bool, .int .u64]
 (fun (b16 : Bool) => fun (n17 : Int) => fun (w18 : World) =>
 j11 b16 n17 (IntKind.wrap .i64 (n14 + (1 : Int))) w18)
 (fun j19 =>
 ∃ (a20 : Addr), ((Go.CW.sliceAt v8 n14 1) = (some a20)) ∧
 ∃ (n21 : Int), ((Go.World.cell? w15 a20) = (some (.int .u8 n21))) ∧
 JoinP [.bool, .int .u8]
 (fun (b22 : Bool) => fun (n23 : Int) => fun (w24 : World) =>
 cond (decide (n23 ≥ (IntKind.wrap .u8 n2)))
 (∃ (v25 : Value), ((Sem.run @Go.Proofs.Tryd.prog (Go.Instr.makeInterface 68 (.int .i64 (2 : Int))) w24) = (.ok v25 w24)) ∧
 R (.tuple #[(.int .u64 (0 : Int)), v25]) w24)
 (cond (decide (n13 ≥ n6))
 (∃ (v26 : Value), ((Sem.run @Go.Proofs.Tryd.prog (Go.Instr.makeInterface 68 (.int .i64 (1 : Int))) w24) = (.ok v26 w24)) ∧
 R (.tuple #[(.int .u64 (IntKind.wrap .u64 ((IntKind.wrap .u64 ((1 : Int) * ((2 : Int) ^ (min (Int.toNat (IntKind.wrap .u64 n4)) 64)))) - (1 : Int)))), v26]) w24)
 (JoinP [.bool]
 (fun (b27 : Bool) => fun (w28 : World) =>
 cond b27
 (∃ (v29 : Value), ((Sem.run @Go.Proofs.Tryd.prog (Go.Instr.makeInterface 68 (.int .i64 (1 : Int))) w28) = (.ok v29 w28)) ∧
 R (.tuple #[(.int .u64 (IntKind.wrap .u64 ((IntKind.wrap .u64 ((1 : Int) * ((2 : Int) ^ (min (Int.toNat (IntKind.wrap .u64 n4)) 64)))) - (1 : Int)))), v29]) w28)
 (j19 b22 (IntKind.wrap .u64 ((IntKind.wrap .u64 (n13 * (IntKind.wrap .u64 n2))) + (IntKind.wrap .u64 n23))) w28))
 (fun j30 =>
 cond (decide ((IntKind.wrap .u64 ((IntKind.wrap .u64 (n13 * (IntKind.wrap .u64 n2))) + (IntKind.wrap .u64 n23))) < (IntKind.wrap .u64 (n13 * (IntKind.wrap .u64 n2)))))
 (j30 true w24)
 (j30 (decide ((IntKind.wrap .u64 ((IntKind.wrap .u64 (n13 * (IntKind.wrap .u64 n2))) + (IntKind.wrap .u64 n23))) > (IntKind.wrap .u64 ((IntKind.wrap .u64 ((1 : Int) * ((2 : Int) ^ (min (Int.toNat (IntKind.wrap .u64 n4)) 64)))) - (1 : Int))))) w24)))))
 (fun j31 =>
 JoinP [.bool]
 (fun (b32 : Bool) => fun (w33 : World) =>
 cond b32
 (j19 true n13 w33)
 (JoinP [.bool]
 (fun (b34 : Bool) => fun (w35 : World) =>
 cond b34
 (j31 b12 (IntKind.wrap .u8 (n21 - (48 : Int))) w35)
 (JoinP [.bool]
 (fun (b36 : Bool) => fun (w37 : World) =>
 cond b36
 (Go.CW.Spec Tryd.prog 55 #[(.int .u8 n21)] w37 fun v38 w39 =>
 ∃ (n40 : Int), ((v38 : Value) = (.int .u8 n40)) ∧
 j31 b12 (IntKind.wrap .u8 ((IntKind.wrap .u8 (n40 - (97 : Int))) + (10 : Int))) w39)
 (∃ (v41 : Value), ((Sem.run @Go.Proofs.Tryd.prog (Go.Instr.makeInterface 68 (.int .i64 (2 : Int))) w37) = (.ok v41 w37)) ∧
 R (.tuple #[(.int .u64 (0 : Int)), v41]) w37))
 (fun j42 =>
 Go.CW.Spec Tryd.prog 55 #[(.int .u8 n21)] w35 fun v43 w44 =>
 ∃ (n45 : Int), ((v43 : Value) = (.int .u8 n45)) ∧
 cond (decide ((97 : Int) ≤ n45))
 (Go.CW.Spec Tryd.prog 55 #[(.int .u8 n21)] w44 fun v46 w47 =>
 ∃ (n48 : Int), ((v46 : Value) = (.int .u8 n48)) ∧
 j42 (decide (n48 ≤ (122 : Int))) w47)
 (j42 false w44))))
 (fun j49 =>
 cond (decide ((48 : Int) ≤ n21))
 (j49 (decide (n21 ≤ (57 : Int))) w33)
 (j49 false w33))))
 (fun j50 =>
 cond (n21 == (95 : Int))
 (j50 (p1 == (0 : Int)) w15)
 (j50 false w15)))))
 (JoinP [.bool]
 (fun (b51 : Bool) => fun (w52 : World) =>
 cond b51
 (∃ (v53 : Value), ((Sem.run @Go.Proofs.Tryd.prog (Go.Instr.makeInterface 68 (.int .i64 (2 : Int))) w52) = (.ok v53 w52)) ∧
 R (.tuple #[(.int .u64 (0 : Int)), v53]) w52)
 (R (.tuple #[(.int .u64 n13), .nilIface]) w52))
 (fun j54 =>
 cond b12
 (Go.CW.Spec Tryd.prog 56 #[(.string p0)] w15 fun v55 w56 =>
 ∃ (b57 : Bool), ((v55 : Value) = (.bool b57)) ∧
 j54 (!b57) w56)
 (j54 false w15))))
 (fun s58 => s58 false (0 : Int) (0 : Int) w9)))
 (fun j59 =>
 cond (n2 == (10 : Int))
 (j59 (1844674407370955162 : Int) w5)
 (cond (n2 == (16 : Int))
 (j59 (1152921504606846976 : Int) w5)
 (nzK (IntKind.wrap .u64 n2) (j59 (IntKind.wrap .u64 ((IntKind.wrap .u64 (Int.tdiv (18446744073709551615 : Int) (IntKind.wrap .u64 n2))) + (1 : Int))) w5)))))
 (fun j60 =>
 cond (p2 == (0 : Int))
 (j60 (64 : Int) w3)
 (JoinP [.bool]
 (fun (b61 : Bool) => fun (w62 : World) =>
 cond b61
 (∃ (v63 : Value), ((Sem.run @Go.Proofs.Tryd.prog (Go.Instr.makeInterface 68 (.int .i64 (4 : Int))) w62) = (.ok v63 w62)) ∧
 R (.tuple #[(.int .u64 (0 : Int)), v63]) w62)
 (j60 p2 w62))
 (fun j64 =>
 cond (decide (p2 < (0 : Int)))
 (j64 true w3)
 (j64 (decide (p2 > (64 : Int))) w3)))))
 (fun j65 =>
 JoinP [.bool]
 (fun (b66 : Bool) => fun (w67 : World) =>
 cond b66
 (j65 p0 p1 w67)
 (cond (p1 == (0 : Int))
 ((inR (0 : Int) (ByteArray.size p0)) ∧
 cond ((((UInt8.toNat (@ByteArray.get! p0 (@Int.toNat (@OfNat.ofNat @Int 0 (@instOfNat 0))))) : Nat) : Int) == (48 : Int))
 (JoinP [.str, .int .i64]
 (fun (s68 : ByteArray) => fun (n69 : Int) => fun (w70 : World) =>
 j65 s68 n69 w70)
 (fun j71 =>
 JoinP [.bool]
 (fun (b72 : Bool) => fun (w73 : World) =>
 cond b72
 (∃ (m74 : Nat) (m75 : Nat) (m76 : Nat), ((Go.CW.boundsOf (ByteArray.size p0) (ByteArray.size p0) (some (.int .i64 (2 : Int))) none none) = (some (m74, (m75, m76)))) ∧
 j71 (ByteArray.extract p0 m74 m75) (2 : Int) w73)
 (JoinP [.bool]
 (fun (b77 : Bool) => fun (w78 : World) =>
 cond b77
 (∃ (m79 : Nat) (m80 : Nat) (m81 : Nat), ((Go.CW.boundsOf (ByteArray.size p0) (ByteArray.size p0) (some (.int .i64 (2 : Int))) none none) = (some (m79, (m80, m81)))) ∧
 j71 (ByteArray.extract p0 m79 m80) (8 : Int) w78)
 (JoinP [.bool]
 (fun (b82 : Bool) => fun (w83 : World) =>
 cond b82
 (∃ (m84 : Nat) (m85 : Nat) (m86 : Nat), ((Go.CW.boundsOf (ByteArray.size p0) (ByteArray.size p0) (some (.int .i64 (2 : Int))) none none) = (some (m84, (m85, m86)))) ∧
 j71 (ByteArray.extract p0 m84 m85) (16 : Int) w83)
 (∃ (m87 : Nat) (m88 : Nat) (m89 : Nat), ((Go.CW.boundsOf (ByteArray.size p0) (ByteArray.size p0) (some (.int .i64 (1 : Int))) none none) = (some (m87, (m88, m89)))) ∧
 j71 (ByteArray.extract p0 m87 m88) (8 : Int) w83))
 (fun j90 =>
 cond (decide ((((ByteArray.size p0) : Nat) : Int) ≥ (3 : Int)))
 ((inR (1 : Int) (ByteArray.size p0)) ∧
 Go.CW.Spec Tryd.prog 55 #[(.int .u8 (((UInt8.toNat (@ByteArray.get! p0 (@Int.toNat (@OfNat.ofNat @Int 1 (@instOfNat 1))))) : Nat) : Int))] w78 fun v91 w92 =>
 ∃ (n93 : Int), ((v91 : Value) = (.int .u8 n93)) ∧
 j90 (n93 == (120 : Int)) w92)
 (j90 false w78))))
 (fun j94 =>
 cond (decide ((((ByteArray.size p0) : Nat) : Int) ≥ (3 : Int)))
 ((inR (1 : Int) (ByteArray.size p0)) ∧
 Go.CW.Spec Tryd.prog 55 #[(.int .u8 (((UInt8.toNat (@ByteArray.get! p0 (@Int.toNat (@OfNat.ofNat @Int 1 (@instOfNat 1))))) : Nat) : Int))] w73 fun v95 w96 =>
 ∃ (n97 : Int), ((v95 : Value) = (.int .u8 n97)) ∧
 j94 (n97 == (111 : Int)) w96)
 (j94 false w73))))
 (fun j98 =>
 cond (decide ((((ByteArray.size p0) : Nat) : Int) ≥ (3 : Int)))
 ((inR (1 : Int) (ByteArray.size p0)) ∧
 Go.CW.Spec Tryd.prog 55 #[(.int .u8 (((UInt8.toNat (@ByteArray.get! p0 (@Int.toNat (@OfNat.ofNat @Int 1 (@instOfNat 1))))) : Nat) : Int))] w67 fun v99 w100 =>
 ∃ (n101 : Int), ((v99 : Value) = (.int .u8 n101)) ∧
 j98 (n101 == (98 : Int)) w100)
 (j98 false w67))))
 (j65 p0 (10 : Int) w67))
 (∃ (v102 : Value), ((Sem.run @Go.Proofs.Tryd.prog (Go.Instr.makeInterface 68 (.int .i64 (3 : Int))) w67) = (.ok v102 w67)) ∧
 R (.tuple #[(.int .u64 (0 : Int)), v102]) w67)))
 (fun j103 =>
 cond (decide ((2 : Int) ≤ p1))
 (j103 (decide (p1 ≤ (36 : Int))) w)
 (j103 false w))))

theorem strconv_ParseUint_wp (p0 : ByteArray) (p1 : Int) (p2 : Int) (w : World) (R : KV) (h : strconv_ParseUint_F p0 p1 p2 w R) : Go.CW.Spec Tryd.prog 44 #[(.string p0), (.int .i64 p1), (.int .i64 p2)] w R :=
  spec_of Tryd.func44 (by kernel_rfl) (show strconv_ParseUint_F p0 p1 p2 w R = _ by kernel_rfl) h

end Go.Proofs.YtnibnbobmfejhaaDoor
