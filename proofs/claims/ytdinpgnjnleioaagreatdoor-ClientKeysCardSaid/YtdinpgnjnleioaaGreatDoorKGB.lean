/- Texts of this seat, one behind the other: GTxt, GEnc, GPar, GPai, GPae, GLgn. -/
import Derived.Test.YtdinpgnjnleioaaGreatDoorKNam
set_option linter.unusedVariables false
set_option maxRecDepth 100000
namespace Go.Proofs.YtdinpgnjnleioaaGreatDoor
section
open Go Go.CW
def q142F (p0 : ByteArray) (w : World) (R : KV) : Prop :=
 bindW (World.alloc w (.cells #[.int .i64 0] 3)) fun w0 =>
 St1 w0 ⟨w.heap.size, 0, none⟩ ∧
 bindW (World.setCell w0 ⟨w.heap.size, 0, none⟩ (.int .i64 10)) fun w1 =>
 JoinP [.str, .int .i64]
 (fun (s2 : ByteArray) => fun (n3 : Int) => fun w4 =>
 JoinP [.bool]
 (fun (b5 : Bool) => fun w6 =>
 cond b5
 (R (.tuple #[.int .i64 0, .bool false]) w6)
 (∃ n7, World.cell? w6 ⟨w.heap.size, 0, none⟩ = some (.int .i64 n7) ∧
 CW.Spec Tryz.prog 231 #[(.string s2), .int .i64 n7, .int .i64 64] w6 fun v8 w9 =>
 ∃ n10 v11, v8 = .tuple #[.int .i64 n10, v11] ∧
 R (.tuple #[.int .i64 n10, .bool true]) w9))
 (fun j12 =>
 cond (ByteArray.toList s2 == ByteArray.toList (ByteArray.mk #[]))
 (j12 true w4)
 (cond (decide ((((ByteArray.size s2) : Nat) : Int) > n3))
 (j12 true w4)
 (CW.Spec Tryz.prog 175 #[(.string s2), (.func (.func 230) #[] #[(.pointer (some ⟨w.heap.size, 0, none⟩))])] w4 fun v13 w14 =>
 ∃ b15, v13 = .bool b15 ∧
 j12 (!b15) w14))))
 (fun j16 =>
 CW.Spec Tryz.prog 220 #[(.string p0), (.string (ByteArray.mk #[48, 120]))] w1 fun v17 w18 =>
 ∃ s19 b20, v17 = .tuple #[(.string s19), .bool b20] ∧
 cond b20
 ((St1 w18 ⟨w.heap.size, 0, none⟩) ∧
 bindW (World.setCell w18 ⟨w.heap.size, 0, none⟩ (.int .i64 16)) fun w21 =>
 j16 s19 (7 : Int) w21)
 (JoinP [.bool]
 (fun (b22 : Bool) => fun w23 =>
 cond b22
 (R (.tuple #[.int .i64 0, .bool false]) w23)
 (j16 p0 (9 : Int) w23))
 (fun j24 =>
 cond (decide ((((ByteArray.size p0) : Nat) : Int) > 1))
 ((inR (0 : Int) (ByteArray.size p0)) ∧
 j24 ((((UInt8.toNat (@ByteArray.get! p0 (@Int.toNat (@OfNat.ofNat @Int 0 (@instOfNat 0))))) : Nat) : Int) == 48) w18)
 (j24 false w18))))
theorem q142W (p0 w R) (h : q142F p0 w R) : CW.Spec Tryz.prog 215 #[(.string p0)] w R :=
 sp Tryz.func215 h
def q137F (p0 : ByteArray) (p1 : ByteArray) (w : World) (R : KV) : Prop :=
 CW.Spec Tryz.prog 222 #[(.string p1), (.string (ByteArray.mk #[44]))] w fun v0 w1 =>
 CW.Spec Tryz.prog 222 #[(.string p0), (.string (ByteArray.mk #[44]))] w1 fun v2 w3 =>
 ∃ m4, sliceLen v2 = some m4 ∧
 LoopP [.int .i64]
 (fun j5 => fun (n6 : Int) => fun w7 =>
 cond (decide (n6 < ((m4 : Nat) : Int)))
 (∃ a8, sliceAt v2 n6 1 = some a8 ∧
 ∃ s9, World.cell? w7 a8 = some (.string s9) ∧
 CW.Spec Tryz.prog 158 #[v0, (.string s9)] w7 fun v10 w11 =>
 ∃ b12, v10 = .bool b12 ∧
 cond b12
 (R (.tuple #[(.string s9), .bool true]) w11)
 (j5 (IntKind.wrap .i64 (n6 + 1)) w11))
 (R (.tuple #[(.string (ByteArray.mk #[])), .bool false]) w7))
 (fun s13 => s13 (0 : Int) w3)
theorem q137W (p0 p1 w R) (h : q137F p0 p1 w R) : CW.Spec Tryz.prog 203 #[(.string p0), (.string p1)] w R :=
 sp Tryz.func203 h
def q140F (p0 : ByteArray) (w : World) (R : KV) : Prop :=
 CW.Spec Tryz.prog 220 #[(.string p0), (.string (ByteArray.mk #[105, 113, 110, 46]))] w fun v0 w1 =>
 ∃ s2 b3, v0 = .tuple #[(.string s2), .bool b3] ∧
 JoinP [.bool]
 (fun (b4 : Bool) => fun w5 =>
 R (.bool b4) w5)
 (fun j6 =>
 cond b3
 (cond (!(ByteArray.toList s2 == ByteArray.toList (ByteArray.mk #[])))
 (cond (decide ((((ByteArray.size s2) : Nat) : Int) ≤ 219))
 (CW.Spec Tryz.prog 175 #[(.string s2), (.func (.func 221) #[] #[])] w1 fun v7 w8 =>
 ∃ b9, v7 = .bool b9 ∧
 j6 b9 w8)
 (j6 false w1))
 (j6 false w1))
 (j6 false w1))
theorem q140W (p0 w R) (h : q140F p0 w R) : CW.Spec Tryz.prog 196 #[(.string p0)] w R :=
 sp Tryz.func196 h
def q115F (p0 : ByteArray) (p1 : ByteArray) (w : World) (R : KV) : Prop :=
 CW.Spec Tryz.prog 238 #[(.string p0), (.string p1)] w fun v0 w1 =>
 ∃ s2 b3, v0 = .tuple #[(.string s2), .bool b3] ∧
 R (.tuple #[(.string s2), .bool b3]) w1
theorem q115W (p0 p1 w R) (h : q115F p0 p1 w R) : CW.Spec Tryz.prog 220 #[(.string p0), (.string p1)] w R :=
 sp Tryz.func220 h
def q143F (p0 : Int) (p1 : Value) (w : World) (R : KV) : Prop :=
 JoinP [.bool]
 (fun (b0 : Bool) => fun w1 =>
 R (.bool b0) w1)
 (fun j2 =>
 CW.Spec Tryz.prog 173 #[.int .u8 p0, .int .u8 48, .int .u8 57] w fun v3 w4 =>
 ∃ b5, v3 = .bool b5 ∧
 cond b5
 (j2 true w4)
 (withAddr p1 fun a6 =>
 ∃ n7, World.cell? w4 a6 = some (.int .i64 n7) ∧
 cond (n7 == 16)
 (CW.Spec Tryz.prog 173 #[.int .u8 p0, .int .u8 97, .int .u8 102] w4 fun v8 w9 =>
 ∃ b10, v8 = .bool b10 ∧
 cond b10
 (j2 true w9)
 (CW.Spec Tryz.prog 173 #[.int .u8 p0, .int .u8 65, .int .u8 70] w9 fun v11 w12 =>
 ∃ b13, v11 = .bool b13 ∧
 j2 b13 w12))
 (j2 false w4)))
theorem q143W (p0 p1 w R) (h : q143F p0 p1 w R) : CW.Spec Tryz.prog 230 #[.int .u8 p0, p1] w R :=
 sp Tryz.func230 h
def q144F (p0 : Int) (p1 : Int) (p2 : Int) (w : World) (R : KV) : Prop :=
 JoinP [.bool]
 (fun (b0 : Bool) => fun w1 =>
 R (.bool b0) w1)
 (fun j2 =>
 cond (decide (p0 ≥ p1))
 (j2 (decide (p0 ≤ p2)) w)
 (j2 false w))
theorem q144W (p0 p1 p2 w R) (h : q144F p0 p1 p2 w R) : CW.Spec Tryz.prog 173 #[.int .u8 p0, .int .u8 p1, .int .u8 p2] w R :=
 sp Tryz.func173 h
def q145F (p0 : ByteArray) (p1 : Value) (w : World) (R : KV) : Prop :=
 LoopP [.int .i64]
 (fun j0 => fun (n1 : Int) => fun w2 =>
 cond (decide (n1 < (((ByteArray.size p0) : Nat) : Int)))
 ((inR n1 (ByteArray.size p0)) ∧
 CW.callU Tryz.prog p1 #[(.int .u8 (((UInt8.toNat (@ByteArray.get! p0 (@Int.toNat n1))) : Nat) : Int))] w2 fun v3 w4 =>
 ∃ b5, v3 = .bool b5 ∧
 cond (!b5)
 (R (.bool false) w4)
 (j0 (IntKind.wrap .i64 (n1 + 1)) w4))
 (R (.bool true) w2))
 (fun s6 => s6 (0 : Int) w)
theorem q145W (p0 p1 w R) (h : q145F p0 p1 w R) : CW.Spec Tryz.prog 175 #[(.string p0), p1] w R :=
 sp Tryz.func175 h
def q103F (p0 : Value) (p1 : ByteArray) (w : World) (R : KV) : Prop :=
 CW.Spec Tryz.prog 205 #[p0, (.string p1)] w fun v0 w1 =>
 ∃ n2, v0 = .int .i64 n2 ∧
 R (.bool (decide (n2 ≥ 0))) w1
theorem q103W (p0 p1 w R) (h : q103F p0 p1 w R) : CW.Spec Tryz.prog 158 #[p0, (.string p1)] w R :=
 sp Tryz.func158 h
def q141F (p0 : Int) (w : World) (R : KV) : Prop :=
 JoinP [.bool]
 (fun (b0 : Bool) => fun w1 =>
 R (.bool b0) w1)
 (fun j2 =>
 CW.Spec Tryz.prog 173 #[.int .u8 p0, .int .u8 97, .int .u8 122] w fun v3 w4 =>
 ∃ b5, v3 = .bool b5 ∧
 cond b5
 (j2 true w4)
 (CW.Spec Tryz.prog 173 #[.int .u8 p0, .int .u8 48, .int .u8 57] w4 fun v6 w7 =>
 ∃ b8, v6 = .bool b8 ∧
 cond b8
 (j2 true w7)
 (cond (p0 == 46)
 (j2 true w7)
 (cond (p0 == 45)
 (j2 true w7)
 (j2 (p0 == 58) w7)))))
theorem q141W (p0 w R) (h : q141F p0 w R) : CW.Spec Tryz.prog 221 #[.int .u8 p0] w R :=
 sp Tryz.func221 h
def q116F (p0 : ByteArray) (p1 : ByteArray) (w : World) (R : KV) : Prop :=
 CW.Spec Tryz.prog 248 #[(.string p0), (.string p1)] w fun v0 w1 =>
 ∃ b2, v0 = .bool b2 ∧
 cond (!b2)
 (R (.tuple #[(.string p0), .bool false]) w1)
 (∃ m3 m4 m5, ((Go.CW.boundsOf (ByteArray.size p0) (ByteArray.size p0) (some (.int .i64 (((ByteArray.size p1) : Nat) : Int))) none none) = (some (m3, (m4, m5)))) ∧
 R (.tuple #[(.string (ByteArray.extract p0 m3 m4)), .bool true]) w1)
theorem q116W (p0 p1 w R) (h : q116F p0 p1 w R) : CW.Spec Tryz.prog 238 #[(.string p0), (.string p1)] w R :=
 sp Tryz.func238 h
def q110F (p0 : Value) (p1 : ByteArray) (w : World) (R : KV) : Prop :=
 ∃ m0, sliceLen p0 = some m0 ∧
 LoopP [.int .i64]
 (fun j1 => fun (n2 : Int) => fun w3 =>
 cond (decide (n2 < ((m0 : Nat) : Int)))
 (∃ a4, sliceAt p0 n2 1 = some a4 ∧
 ∃ s5, World.cell? w3 a4 = some (.string s5) ∧
 cond (ByteArray.toList p1 == ByteArray.toList s5)
 (R (.int .i64 n2) w3)
 (j1 (IntKind.wrap .i64 (n2 + 1)) w3))
 (R (.int .i64 (-1 : Int)) w3))
 (fun s6 => s6 (0 : Int) w)
theorem q110W (p0 p1 w R) (h : q110F p0 p1 w R) : CW.Spec Tryz.prog 205 #[p0, (.string p1)] w R :=
 sp Tryz.func205 h
def q117F (p0 : ByteArray) (p1 : ByteArray) (w : World) (R : KV) : Prop :=
 JoinP [.bool]
 (fun (b0 : Bool) => fun w1 =>
 R (.bool b0) w1)
 (fun j2 =>
 cond (decide ((((ByteArray.size p0) : Nat) : Int) ≥ (((ByteArray.size p1) : Nat) : Int)))
 (∃ m3 m4 m5, ((Go.CW.boundsOf (ByteArray.size p0) (ByteArray.size p0) none (some (.int .i64 (((ByteArray.size p1) : Nat) : Int))) none) = (some (m3, (m4, m5)))) ∧
 j2 (ByteArray.toList (ByteArray.extract p0 m3 m4) == ByteArray.toList p1) w)
 (j2 false w))
theorem q117W (p0 p1 w R) (h : q117F p0 p1 w R) : CW.Spec Tryz.prog 248 #[(.string p0), (.string p1)] w R :=
 sp Tryz.func248 h
def q135F (p0 : ByteArray) (p1 : ByteArray) (w : World) (R : KV) : Prop :=
 CW.Spec Tryz.prog 216 #[(.string p0)] w fun v0 w1 =>
 ∃ b2 b3, v0 = .tuple #[.bool b2, .bool b3] ∧
 CW.Spec Tryz.prog 216 #[(.string p1)] w1 fun v4 w5 =>
 ∃ b6 b7, v4 = .tuple #[.bool b6, .bool b7] ∧
 JoinP [.bool]
 (fun (b8 : Bool) => fun w9 =>
 cond b8
 (R (.tuple #[(.string (ByteArray.mk #[])), .bool false]) w9)
 (JoinP [.bool]
 (fun (b10 : Bool) => fun w11 =>
 cond b10
 (R (.tuple #[(.string (ByteArray.mk #[89, 101, 115])), .bool true]) w11)
 (R (.tuple #[(.string (ByteArray.mk #[78, 111])), .bool true]) w11))
 (fun j12 =>
 cond b2
 (j12 b6 w9)
 (j12 false w9))))
 (fun j13 =>
 cond (!b3)
 (j13 true w5)
 (j13 (!b7) w5))
theorem q135W (p0 p1 w R) (h : q135F p0 p1 w R) : CW.Spec Tryz.prog 201 #[(.string p0), (.string p1)] w R :=
 sp Tryz.func201 h
def q136F (p0 : ByteArray) (w : World) (R : KV) : Prop :=
 JoinP [.bool, .bool]
 (fun (b0 : Bool) => fun (b1 : Bool) => fun w2 =>
 R (.tuple #[.bool b0, .bool b1]) w2)
 (fun j3 =>
 cond (ByteArray.toList p0 == ByteArray.toList (ByteArray.mk #[89, 101, 115]))
 (j3 (ByteArray.toList p0 == ByteArray.toList (ByteArray.mk #[89, 101, 115])) true w)
 (j3 (ByteArray.toList p0 == ByteArray.toList (ByteArray.mk #[89, 101, 115])) (ByteArray.toList p0 == ByteArray.toList (ByteArray.mk #[78, 111])) w))
theorem q136W (p0 w R) (h : q136F p0 w R) : CW.Spec Tryz.prog 216 #[(.string p0)] w R :=
 sp Tryz.func216 h
end
section
open Go Go.CW
def q139F (p0 : Value) (w : World) (R : KV) : Prop :=
 ∃ v0 w1, Sem.run Tryz.prog (Instr.makeMap 211 none) w = .ok v0 w1 ∧
 ∃ m2, sliceLen p0 = some m2 ∧
 LoopP [.val, .bool, .int .i64]
 (fun j3 v4 => fun (b5 : Bool) => fun (n6 : Int) => fun w7 =>
 cond (decide (n6 < ((m2 : Nat) : Int)))
 (JoinP [.val, .bool]
 (fun v8 => fun (b9 : Bool) => fun w10 =>
 j3 v8 b9 (IntKind.wrap .i64 (n6 + 1)) w10)
 (fun j11 =>
 ∃ a12, sliceAt p0 n6 2 = some a12 ∧
 ∃ s13 s14, (ldCells w7 a12 2 #[(.string s13), (.string s14)]) ∧
 bindW (World.alloc w7 (.cells #[(.string (ByteArray.mk #[])), (.string (ByteArray.mk #[]))] 212)) fun w15 =>
 StRow w15 ⟨w7.heap.size, 0, none⟩ #[(.string s13), (.string s14)] ∧
 bindW (stRow w15 ⟨w7.heap.size, 0, none⟩ #[(.string s13), (.string s14)]) fun w16 =>
 JoinP [.bool]
 (fun (b17 : Bool) => fun w18 =>
 ∃ s19, World.cell? w18 (Addr.add ⟨w7.heap.size, 0, none⟩ 0) = some (.string s19) ∧
 ∃ w20, ((Sem.run Tryz.prog (Instr.mapUpdate 211 v0 (.string s19) (.bool true)) w18) = (.ok PUnit.unit w20)) ∧
 ∃ m21, sliceLen v4 = some m21 ∧
 cond (decide (((m21 : Nat) : Int) ≤ 4096))
 (∃ s22, World.cell? w20 (Addr.add ⟨w7.heap.size, 0, none⟩ 0) = some (.string s22) ∧
 (((ByteArray.size s22) + 1) ≤ 9223372036854775807) ∧
 ∃ s23, World.cell? w20 (Addr.add ⟨w7.heap.size, 0, none⟩ 1) = some (.string s23) ∧
 (((ByteArray.size (s22 ++ (ByteArray.mk #[61]))) + (ByteArray.size s23)) ≤ 9223372036854775807) ∧
 (((ByteArray.size ((s22 ++ (ByteArray.mk #[61])) ++ s23)) + 1) ≤ 9223372036854775807) ∧
 ∃ v24 w25, Sem.run Tryz.prog (Builtin.append_ #[33, 9] 33 #[v4, (.string (((s22 ++ (ByteArray.mk #[61])) ++ s23) ++ (ByteArray.mk #[0])))]) w20 = .ok v24 w25 ∧
 j11 v24 b17 w25)
 (j11 v4 b17 w20))
 (fun j26 =>
 cond b5
 (j26 true w16)
 (∃ s27 s28, (ldCells w16 ⟨w7.heap.size, 0, none⟩ 2 #[(.string s27), (.string s28)]) ∧
 CW.Spec Tryz.prog 131 #[(.agg #[(.string s27), (.string s28)])] w16 fun v29 w30 =>
 ∃ b31, v29 = .bool b31 ∧
 cond (!b31)
 (j26 true w30)
 (∃ s32, World.cell? w30 (Addr.add ⟨w7.heap.size, 0, none⟩ 0) = some (.string s32) ∧
 ∃ b33, ((Sem.run Tryz.prog (Instr.lookup 211 v0 (.string s32) false) w30) = (.ok (.bool b33) w30)) ∧
 j26 b33 w30)))))
 (cond b5
 (R (.tuple #[nvc, .int .i64 1]) w7)
 (∃ m34, sliceLen v4 = some m34 ∧
 cond (decide (((m34 : Nat) : Int) > 4096))
 (R (.tuple #[nvc, .int .i64 5]) w7)
 (CW.Spec Tryz.prog 72 #[v4] w7 fun v35 w36 =>
 R (.tuple #[v35, .int .i64 0]) w36))))
 (fun s37 => s37 nvc false (0 : Int) w1)
theorem q139W (p0 w R) (h : q139F p0 w R) : CW.Spec Tryz.prog 88 #[p0] w R :=
 sp Tryz.func88 h
def q138F (p0 : Value) (w : World) (R : KV) : Prop :=
 ∃ m0, sliceLen p0 = some m0 ∧
 cond (decide (((m0 : Nat) : Int) > 4096))
 (R (.tuple #[nvc, .int .i64 5]) w)
 (∃ v1 w2, Sem.run Tryz.prog (Instr.makeMap 211 none) w = .ok v1 w2 ∧
 ∃ s3, ((Sem.run Tryz.prog (Go.convert 33 9 p0) w2) = (.ok (.string s3) w2)) ∧
 LoopP [.val, .str]
 (fun j4 v5 => fun (s6 : ByteArray) => fun w7 =>
 cond (!(ByteArray.toList s6 == ByteArray.toList (ByteArray.mk #[])))
 (CW.Spec Tryz.prog 155 #[(.string s6), (.string (ByteArray.mk #[0]))] w7 fun v8 w9 =>
 ∃ s10 s11 b12, v8 = .tuple #[(.string s10), (.string s11), .bool b12] ∧
 CW.Spec Tryz.prog 155 #[(.string s10), (.string (ByteArray.mk #[61]))] w9 fun v13 w14 =>
 ∃ s15 s16 b17, v13 = .tuple #[(.string s15), (.string s16), .bool b17] ∧
 bindW (World.alloc w14 (.cells #[(.string (ByteArray.mk #[])), (.string (ByteArray.mk #[]))] 212)) fun w18 =>
 StRow w18 ⟨w14.heap.size, 0, none⟩ #[(.string s15), (.string s16)] ∧
 bindW (stRow w18 ⟨w14.heap.size, 0, none⟩ #[(.string s15), (.string s16)]) fun w19 =>
 JoinP [.bool]
 (fun (b20 : Bool) => fun w21 =>
 cond b20
 (R (.tuple #[nvc, .int .i64 2]) w21)
 (∃ w22, ((Sem.run Tryz.prog (Instr.mapUpdate 211 v1 (.string s15) (.bool true)) w21) = (.ok PUnit.unit w22)) ∧
 ∃ s23 s24, (ldCells w22 ⟨w14.heap.size, 0, none⟩ 2 #[(.string s23), (.string s24)]) ∧
 bindW (World.alloc w22 (.cells #[(.string s23), (.string s24)] 212)) fun w25 =>
 ∃ v26 w27, Sem.run Tryz.prog (Builtin.append_ #[174, 174] 174 #[v5, (.slice (some ⟨w22.heap.size, 0, none⟩) 1 1)]) w25 = .ok v26 w27 ∧
 j4 v26 s11 w27))
 (fun j28 =>
 cond (!b12)
 (j28 true w19)
 (cond (!b17)
 (j28 true w19)
 (∃ s29 s30, (ldCells w19 ⟨w14.heap.size, 0, none⟩ 2 #[(.string s29), (.string s30)]) ∧
 CW.Spec Tryz.prog 131 #[(.agg #[(.string s29), (.string s30)])] w19 fun v31 w32 =>
 ∃ b33, v31 = .bool b33 ∧
 cond (!b33)
 (j28 true w32)
 (∃ b34, ((Sem.run Tryz.prog (Instr.lookup 211 v1 (.string s15) false) w32) = (.ok (.bool b34) w32)) ∧
 j28 b34 w32)))))
 (CW.Spec Tryz.prog 156 #[v5] w7 fun v35 w36 =>
 R (.tuple #[v35, .int .i64 0]) w36))
 (fun s37 => s37 nvc s3 w2))
theorem q138W (p0 w R) (h : q138F p0 w R) : CW.Spec Tryz.prog 114 #[p0] w R :=
 sp Tryz.func114 h
def q146F (p0_0 : ByteArray) (p0_1 : ByteArray) (w : World) (R : KV) : Prop :=
 bindW (World.alloc w (.cells #[(.string p0_0), (.string p0_1)] 212)) fun w0 =>
 JoinP [.bool]
 (fun (b1 : Bool) => fun w2 =>
 R (.bool b1) w2)
 (fun j3 =>
 ∃ s4, World.cell? w0 (Addr.add ⟨w.heap.size, 0, none⟩ 0) = some (.string s4) ∧
 cond (!(ByteArray.toList s4 == ByteArray.toList (ByteArray.mk #[])))
 (∃ s5, World.cell? w0 (Addr.add ⟨w.heap.size, 0, none⟩ 0) = some (.string s5) ∧
 cond (decide ((((ByteArray.size s5) : Nat) : Int) ≤ 63))
 (∃ s6, World.cell? w0 (Addr.add ⟨w.heap.size, 0, none⟩ 0) = some (.string s6) ∧
 CW.Spec Tryz.prog 175 #[(.string s6), (.func (.func 172) #[] #[])] w0 fun v7 w8 =>
 ∃ b9, v7 = .bool b9 ∧
 cond b9
 (∃ s10, World.cell? w8 (Addr.add ⟨w.heap.size, 0, none⟩ 1) = some (.string s10) ∧
 cond (decide ((((ByteArray.size s10) : Nat) : Int) ≤ 255))
 (∃ s11, World.cell? w8 (Addr.add ⟨w.heap.size, 0, none⟩ 1) = some (.string s11) ∧
 CW.Spec Tryz.prog 174 #[(.string s11), .int .u8 0] w8 fun v12 w13 =>
 ∃ n14, v12 = .int .i64 n14 ∧
 j3 (decide (n14 < 0)) w13)
 (j3 false w8))
 (j3 false w8))
 (j3 false w0))
 (j3 false w0))
theorem q146W (p0_0 p0_1 w R) (h : q146F p0_0 p0_1 w R) : CW.Spec Tryz.prog 131 #[(.agg #[(.string p0_0), (.string p0_1)])] w R :=
 sp Tryz.func131 h
def q147F (p0 : Int) (w : World) (R : KV) : Prop :=
 JoinP [.bool]
 (fun (b0 : Bool) => fun w1 =>
 R (.bool b0) w1)
 (fun j2 =>
 CW.Spec Tryz.prog 173 #[.int .u8 p0, .int .u8 65, .int .u8 90] w fun v3 w4 =>
 ∃ b5, v3 = .bool b5 ∧
 cond b5
 (j2 true w4)
 (CW.Spec Tryz.prog 173 #[.int .u8 p0, .int .u8 97, .int .u8 122] w4 fun v6 w7 =>
 ∃ b8, v6 = .bool b8 ∧
 cond b8
 (j2 true w7)
 (CW.Spec Tryz.prog 173 #[.int .u8 p0, .int .u8 48, .int .u8 57] w7 fun v9 w10 =>
 ∃ b11, v9 = .bool b11 ∧
 cond b11
 (j2 true w10)
 (CW.Spec Tryz.prog 174 #[(.string (ByteArray.mk #[46, 45, 43, 64, 95])), .int .u8 p0] w10 fun v12 w13 =>
 ∃ n14, v12 = .int .i64 n14 ∧
 j2 (decide (n14 ≥ 0)) w13))))
theorem q147W (p0 w R) (h : q147F p0 w R) : CW.Spec Tryz.prog 172 #[.int .u8 p0] w R :=
 sp Tryz.func172 h
def q97F (p0 : Value) (w : World) (R : KV) : Prop :=
 ∃ m0, sliceLen p0 = some m0 ∧
 ∃ m1, sliceLen p0 = some m1 ∧
 ∃ v2, ((subSlice p0 2 none (some (.int .i64 (m0 : Nat))) (some (.int .i64 (m1 : Nat)))) = (some v2)) ∧
 R v2 w
theorem q97W (p0 w R) (h : q97F p0 w R) : CW.Spec Tryz.prog 156 #[p0] w R :=
 sp Tryz.func156 h
def q114F (p0 : Int) (w : World) (R : KV) : Prop :=
 R (.int .u8 (bitsI .or .u8 p0 (32 : Int))) w
theorem q114W (p0 w R) (h : q114F p0 w R) : CW.Spec Tryz.prog 262 #[.int .u8 p0] w R :=
 sp Tryz.func262 h
end
section
open Go Go.CW
def q113F (p0 : ByteArray) (p1 : Int) (p2 : Int) (w : World) (R : KV) : Prop :=
 cond (ByteArray.toList p0 == ByteArray.toList (ByteArray.mk #[]))
 (∃ v0, Sem.run Tryz.prog (Instr.makeInterface 316 (.int .i64 2)) w = .ok v0 w ∧
 R (.tuple #[.int .u64 0, v0]) w)
 (JoinP [.str, .int .i64]
 (fun (s1 : ByteArray) => fun (n2 : Int) => fun w3 =>
 JoinP [.int .i64]
 (fun (n4 : Int) => fun w5 =>
 JoinP [.int .u64]
 (fun (n6 : Int) => fun w7 =>
 leK (IntKind.wrap .u64 n4) (∃ v8 w9, Sem.run Tryz.prog (Go.convert 9 33 (.string s1)) w7 = .ok v8 w9 ∧
 ∃ m10, sliceLen v8 = some m10 ∧
 LoopP [.bool, .int .u64, .int .i64]
 (fun j11 => fun (b12 : Bool) => fun (n13 : Int) => fun (n14 : Int) => fun w15 =>
 cond (decide (n14 < ((m10 : Nat) : Int)))
 (JoinP [.bool, .int .u64]
 (fun (b16 : Bool) => fun (n17 : Int) => fun w18 =>
 j11 b16 n17 (IntKind.wrap .i64 (n14 + 1)) w18)
 (fun j19 =>
 ∃ a20, sliceAt v8 n14 1 = some a20 ∧
 ∃ n21, World.cell? w15 a20 = some (.int .u8 n21) ∧
 JoinP [.bool, .int .u8]
 (fun (b22 : Bool) => fun (n23 : Int) => fun w24 =>
 cond (decide (n23 ≥ (IntKind.wrap .u8 n2)))
 (∃ v25, Sem.run Tryz.prog (Instr.makeInterface 316 (.int .i64 2)) w24 = .ok v25 w24 ∧
 R (.tuple #[.int .u64 0, v25]) w24)
 (cond (decide (n13 ≥ n6))
 (∃ v26, Sem.run Tryz.prog (Instr.makeInterface 316 (.int .i64 1)) w24 = .ok v26 w24 ∧
 R (.tuple #[(.int .u64 (IntKind.wrap .u64 ((IntKind.wrap .u64 ((1 : Int) * ((2 : Int) ^ (min (Int.toNat (IntKind.wrap .u64 n4)) 64)))) - 1))), v26]) w24)
 (JoinP [.bool]
 (fun (b27 : Bool) => fun w28 =>
 cond b27
 (∃ v29, Sem.run Tryz.prog (Instr.makeInterface 316 (.int .i64 1)) w28 = .ok v29 w28 ∧
 R (.tuple #[(.int .u64 (IntKind.wrap .u64 ((IntKind.wrap .u64 ((1 : Int) * ((2 : Int) ^ (min (Int.toNat (IntKind.wrap .u64 n4)) 64)))) - 1))), v29]) w28)
 (j19 b22 (IntKind.wrap .u64 ((IntKind.wrap .u64 (n13 * (IntKind.wrap .u64 n2))) + (IntKind.wrap .u64 n23))) w28))
 (fun j30 =>
 cond (decide ((IntKind.wrap .u64 ((IntKind.wrap .u64 (n13 * (IntKind.wrap .u64 n2))) + (IntKind.wrap .u64 n23))) < (IntKind.wrap .u64 (n13 * (IntKind.wrap .u64 n2)))))
 (j30 true w24)
 (j30 (decide ((IntKind.wrap .u64 ((IntKind.wrap .u64 (n13 * (IntKind.wrap .u64 n2))) + (IntKind.wrap .u64 n23))) > (IntKind.wrap .u64 ((IntKind.wrap .u64 ((1 : Int) * ((2 : Int) ^ (min (Int.toNat (IntKind.wrap .u64 n4)) 64)))) - 1)))) w24)))))
 (fun j31 =>
 JoinP [.bool]
 (fun (b32 : Bool) => fun w33 =>
 cond b32
 (j19 true n13 w33)
 (JoinP [.bool]
 (fun (b34 : Bool) => fun w35 =>
 cond b34
 (j31 b12 (IntKind.wrap .u8 (n21 - 48)) w35)
 (JoinP [.bool]
 (fun (b36 : Bool) => fun w37 =>
 cond b36
 (CW.Spec Tryz.prog 262 #[.int .u8 n21] w37 fun v38 w39 =>
 ∃ n40, v38 = .int .u8 n40 ∧
 j31 b12 (IntKind.wrap .u8 ((IntKind.wrap .u8 (n40 - 97)) + 10)) w39)
 (∃ v41, Sem.run Tryz.prog (Instr.makeInterface 316 (.int .i64 2)) w37 = .ok v41 w37 ∧
 R (.tuple #[.int .u64 0, v41]) w37))
 (fun j42 =>
 CW.Spec Tryz.prog 262 #[.int .u8 n21] w35 fun v43 w44 =>
 ∃ n45, v43 = .int .u8 n45 ∧
 cond (decide ((97 : Int) ≤ n45))
 (CW.Spec Tryz.prog 262 #[.int .u8 n21] w44 fun v46 w47 =>
 ∃ n48, v46 = .int .u8 n48 ∧
 j42 (decide (n48 ≤ 122)) w47)
 (j42 false w44))))
 (fun j49 =>
 cond (decide ((48 : Int) ≤ n21))
 (j49 (decide (n21 ≤ 57)) w33)
 (j49 false w33))))
 (fun j50 =>
 cond (n21 == 95)
 (j50 (p1 == 0) w15)
 (j50 false w15)))))
 (JoinP [.bool]
 (fun (b51 : Bool) => fun w52 =>
 cond b51
 (∃ v53, Sem.run Tryz.prog (Instr.makeInterface 316 (.int .i64 2)) w52 = .ok v53 w52 ∧
 R (.tuple #[.int .u64 0, v53]) w52)
 (R (.tuple #[.int .u64 n13, .nilIface]) w52))
 (fun j54 =>
 cond b12
 (CW.Spec Tryz.prog 263 #[(.string p0)] w15 fun v55 w56 =>
 ∃ b57, v55 = .bool b57 ∧
 j54 (!b57) w56)
 (j54 false w15))))
 (fun s58 => s58 false (0 : Int) (0 : Int) w9)))
 (fun j59 =>
 cond (n2 == 10)
 (j59 (1844674407370955162 : Int) w5)
 (cond (n2 == 16)
 (j59 (1152921504606846976 : Int) w5)
 (nzK (IntKind.wrap .u64 n2) (j59 (IntKind.wrap .u64 ((IntKind.wrap .u64 (Int.tdiv (18446744073709551615 : Int) (IntKind.wrap .u64 n2))) + 1)) w5)))))
 (fun j60 =>
 cond (p2 == 0)
 (j60 (64 : Int) w3)
 (JoinP [.bool]
 (fun (b61 : Bool) => fun w62 =>
 cond b61
 (∃ v63, Sem.run Tryz.prog (Instr.makeInterface 316 (.int .i64 4)) w62 = .ok v63 w62 ∧
 R (.tuple #[.int .u64 0, v63]) w62)
 (j60 p2 w62))
 (fun j64 =>
 cond (decide (p2 < 0))
 (j64 true w3)
 (j64 (decide (p2 > 64)) w3)))))
 (fun j65 =>
 JoinP [.bool]
 (fun (b66 : Bool) => fun w67 =>
 cond b66
 (j65 p0 p1 w67)
 (cond (p1 == 0)
 ((inR (0 : Int) (ByteArray.size p0)) ∧
 cond ((((UInt8.toNat (@ByteArray.get! p0 (@Int.toNat (@OfNat.ofNat @Int 0 (@instOfNat 0))))) : Nat) : Int) == 48)
 (JoinP [.str, .int .i64]
 (fun (s68 : ByteArray) => fun (n69 : Int) => fun w70 =>
 j65 s68 n69 w70)
 (fun j71 =>
 JoinP [.bool]
 (fun (b72 : Bool) => fun w73 =>
 cond b72
 (∃ m74 m75 m76, ((Go.CW.boundsOf (ByteArray.size p0) (ByteArray.size p0) (some (.int .i64 2)) none none) = (some (m74, (m75, m76)))) ∧
 j71 (ByteArray.extract p0 m74 m75) (2 : Int) w73)
 (JoinP [.bool]
 (fun (b77 : Bool) => fun w78 =>
 cond b77
 (∃ m79 m80 m81, ((Go.CW.boundsOf (ByteArray.size p0) (ByteArray.size p0) (some (.int .i64 2)) none none) = (some (m79, (m80, m81)))) ∧
 j71 (ByteArray.extract p0 m79 m80) (8 : Int) w78)
 (JoinP [.bool]
 (fun (b82 : Bool) => fun w83 =>
 cond b82
 (∃ m84 m85 m86, ((Go.CW.boundsOf (ByteArray.size p0) (ByteArray.size p0) (some (.int .i64 2)) none none) = (some (m84, (m85, m86)))) ∧
 j71 (ByteArray.extract p0 m84 m85) (16 : Int) w83)
 (∃ m87 m88 m89, ((Go.CW.boundsOf (ByteArray.size p0) (ByteArray.size p0) (some (.int .i64 1)) none none) = (some (m87, (m88, m89)))) ∧
 j71 (ByteArray.extract p0 m87 m88) (8 : Int) w83))
 (fun j90 =>
 cond (decide ((((ByteArray.size p0) : Nat) : Int) ≥ 3))
 ((inR (1 : Int) (ByteArray.size p0)) ∧
 CW.Spec Tryz.prog 262 #[(.int .u8 (((UInt8.toNat (@ByteArray.get! p0 (@Int.toNat (@OfNat.ofNat @Int 1 (@instOfNat 1))))) : Nat) : Int))] w78 fun v91 w92 =>
 ∃ n93, v91 = .int .u8 n93 ∧
 j90 (n93 == 120) w92)
 (j90 false w78))))
 (fun j94 =>
 cond (decide ((((ByteArray.size p0) : Nat) : Int) ≥ 3))
 ((inR (1 : Int) (ByteArray.size p0)) ∧
 CW.Spec Tryz.prog 262 #[(.int .u8 (((UInt8.toNat (@ByteArray.get! p0 (@Int.toNat (@OfNat.ofNat @Int 1 (@instOfNat 1))))) : Nat) : Int))] w73 fun v95 w96 =>
 ∃ n97, v95 = .int .u8 n97 ∧
 j94 (n97 == 111) w96)
 (j94 false w73))))
 (fun j98 =>
 cond (decide ((((ByteArray.size p0) : Nat) : Int) ≥ 3))
 ((inR (1 : Int) (ByteArray.size p0)) ∧
 CW.Spec Tryz.prog 262 #[(.int .u8 (((UInt8.toNat (@ByteArray.get! p0 (@Int.toNat (@OfNat.ofNat @Int 1 (@instOfNat 1))))) : Nat) : Int))] w67 fun v99 w100 =>
 ∃ n101, v99 = .int .u8 n101 ∧
 j98 (n101 == 98) w100)
 (j98 false w67))))
 (j65 p0 (10 : Int) w67))
 (∃ v102, Sem.run Tryz.prog (Instr.makeInterface 316 (.int .i64 3)) w67 = .ok v102 w67 ∧
 R (.tuple #[.int .u64 0, v102]) w67)))
 (fun j103 =>
 cond (decide ((2 : Int) ≤ p1))
 (j103 (decide (p1 ≤ 36)) w)
 (j103 false w))))
theorem q113W (p0 p1 p2 w R) (h : q113F p0 p1 p2 w R) : CW.Spec Tryz.prog 254 #[(.string p0), .int .i64 p1, .int .i64 p2] w R :=
 sp Tryz.func254 h
end
section
open Go Go.CW
def q112F (p0 : ByteArray) (p1 : Int) (p2 : Int) (w : World) (R : KV) : Prop :=
 CW.Spec Tryz.prog 245 #[(.string p0), .int .i64 p1, .int .i64 p2] w fun v0 w1 =>
 ∃ n2 v3, v0 = .tuple #[.int .i64 n2, v3] ∧
 ∃ b4, ((Sem.run Tryz.prog (Go.binOp Go.BinOp.neq 300 v3 .nilIface) w1) = (.ok (.bool b4) w1)) ∧
 (∀ (a5 : @Go.Operand), ∀ (v6 : @Go.Value), (Sem.run Tryz.prog (Go.eqGuard Go.BinOp.neq 300 a5 (@Go.Operand.const v6) v3 .nilIface) w1) = (.ok PUnit.unit w1)) ∧
 cond b4
 (CW.Spec Tryz.prog 246 #[(.string (ByteArray.mk #[80, 97, 114, 115, 101, 73, 110, 116])), (.string p0), .int .i64 p1, .int .i64 p2, v3] w1 fun v7 w8 =>
 R (.tuple #[.int .i64 n2, v7]) w8)
 (R (.tuple #[.int .i64 n2, .nilIface]) w1)
theorem q112W (p0 p1 p2 w R) (h : q112F p0 p1 p2 w R) : CW.Spec Tryz.prog 231 #[(.string p0), .int .i64 p1, .int .i64 p2] w R :=
 sp Tryz.func231 h
end
section
open Go Go.CW
def q67F (p0 : ByteArray) (p1 : Int) (p2 : Int) (w : World) (R : KV) : Prop :=
 cond (ByteArray.toList p0 == ByteArray.toList (ByteArray.mk #[]))
 (∃ v0, Sem.run Tryz.prog (Instr.makeInterface 316 (.int .i64 2)) w = .ok v0 w ∧
 R (.tuple #[.int .i64 0, v0]) w)
 ((inR (0 : Int) (ByteArray.size p0)) ∧
 JoinP [.str, .bool]
 (fun (s1 : ByteArray) => fun (b2 : Bool) => fun w3 =>
 CW.Spec Tryz.prog 254 #[(.string s1), .int .i64 p1, .int .i64 p2] w3 fun v4 w5 =>
 ∃ n6 v7, v4 = .tuple #[.int .u64 n6, v7] ∧
 JoinP [.bool]
 (fun (b8 : Bool) => fun w9 =>
 cond b8
 (R (.tuple #[.int .i64 0, v7]) w9)
 (JoinP [.int .i64]
 (fun (n10 : Int) => fun w11 =>
 leK (IntKind.wrap .u64 (IntKind.wrap .i64 (n10 - 1))) (JoinP [.bool]
 (fun (b12 : Bool) => fun w13 =>
 cond b12
 (∃ v14, Sem.run Tryz.prog (Instr.makeInterface 316 (.int .i64 1)) w13 = .ok v14 w13 ∧
 R (.tuple #[(.int .i64 (IntKind.wrap .i64 (IntKind.wrap .u64 ((IntKind.wrap .u64 ((1 : Int) * ((2 : Int) ^ (min (Int.toNat (IntKind.wrap .u64 (IntKind.wrap .i64 (n10 - 1)))) 64)))) - 1)))), v14]) w13)
 (JoinP [.bool]
 (fun (b15 : Bool) => fun w16 =>
 cond b15
 (∃ v17, Sem.run Tryz.prog (Instr.makeInterface 316 (.int .i64 1)) w16 = .ok v17 w16 ∧
 R (.tuple #[(.int .i64 (IntKind.wrap .i64 ((0 : Int) - (IntKind.wrap .i64 (IntKind.wrap .u64 ((1 : Int) * ((2 : Int) ^ (min (Int.toNat (IntKind.wrap .u64 (IntKind.wrap .i64 (n10 - 1)))) 64)))))))), v17]) w16)
 (JoinP [.int .i64]
 (fun (n18 : Int) => fun w19 =>
 R (.tuple #[.int .i64 n18, .nilIface]) w19)
 (fun j20 =>
 cond b2
 (j20 (IntKind.wrap .i64 ((0 : Int) - (IntKind.wrap .i64 n6))) w16)
 (j20 (IntKind.wrap .i64 n6) w16))))
 (fun j21 =>
 cond b2
 (j21 (decide (n6 > (IntKind.wrap .u64 ((1 : Int) * ((2 : Int) ^ (min (Int.toNat (IntKind.wrap .u64 (IntKind.wrap .i64 (n10 - 1)))) 64)))))) w13)
 (j21 false w13))))
 (fun j22 =>
 cond (!b2)
 (j22 (decide (n6 ≥ (IntKind.wrap .u64 ((1 : Int) * ((2 : Int) ^ (min (Int.toNat (IntKind.wrap .u64 (IntKind.wrap .i64 (n10 - 1)))) 64)))))) w11)
 (j22 false w11))))
 (fun j23 =>
 cond (p2 == 0)
 (j23 (64 : Int) w9)
 (j23 p2 w9))))
 (fun j24 =>
 ∃ b25, ((Sem.run Tryz.prog (Go.binOp Go.BinOp.neq 300 v7 .nilIface) w5) = (.ok (.bool b25) w5)) ∧
 (∀ (a26 : @Go.Operand), ∀ (v27 : @Go.Value), (Sem.run Tryz.prog (Go.eqGuard Go.BinOp.neq 300 a26 (@Go.Operand.const v27) v7 .nilIface) w5) = (.ok PUnit.unit w5)) ∧
 cond b25
 (∃ v28, Sem.run Tryz.prog (Instr.makeInterface 316 (.int .i64 1)) w5 = .ok v28 w5 ∧
 ∃ b29, ((Sem.run Tryz.prog (Go.binOp Go.BinOp.neq 300 v7 v28) w5) = (.ok (.bool b29) w5)) ∧
 (∀ (a30 : @Go.Operand), ∀ (b31 : @Go.Operand), (Sem.run Tryz.prog (Go.eqGuard Go.BinOp.neq 300 a30 b31 v7 v28) w5) = (.ok PUnit.unit w5)) ∧
 j24 b29 w5)
 (j24 false w5)))
 (fun j32 =>
 cond ((((UInt8.toNat (@ByteArray.get! p0 (@Int.toNat (@OfNat.ofNat @Int 0 (@instOfNat 0))))) : Nat) : Int) == 43)
 (∃ m33 m34 m35, ((Go.CW.boundsOf (ByteArray.size p0) (ByteArray.size p0) (some (.int .i64 1)) none none) = (some (m33, (m34, m35)))) ∧
 j32 (ByteArray.extract p0 m33 m34) false w)
 (cond ((((UInt8.toNat (@ByteArray.get! p0 (@Int.toNat (@OfNat.ofNat @Int 0 (@instOfNat 0))))) : Nat) : Int) == 45)
 (∃ m36 m37 m38, ((Go.CW.boundsOf (ByteArray.size p0) (ByteArray.size p0) (some (.int .i64 1)) none none) = (some (m36, (m37, m38)))) ∧
 j32 (ByteArray.extract p0 m36 m37) true w)
 (j32 p0 false w))))
theorem q67W (p0 p1 p2 w R) (h : q67F p0 p1 p2 w R) : CW.Spec Tryz.prog 245 #[(.string p0), .int .i64 p1, .int .i64 p2] w R :=
 sp Tryz.func245 h
end
section
open Go Go.CW
def q68F (p0_0 : ByteArray) (p0_1 : Int) (p0_2 : Int) (p0_3 : Bool) (p0_4 : Bool) (w : World) (R : KV) : Prop :=
 bindW (World.alloc w (.cells #[(.string p0_0), .int .i64 p0_1, .int .i64 p0_2, .bool p0_3, .bool p0_4] 54)) fun w0 =>
 JoinP [.str]
 (fun (s1 : ByteArray) => fun w2 =>
 bindW (World.drew w2) fun w3 =>
 ∃ s4, World.cell? w3 (Addr.add ⟨w.heap.size, 0, none⟩ 0) = some (.string s4) ∧
 ∃ n5, World.cell? w3 (Addr.add ⟨w.heap.size, 0, none⟩ 1) = some (.int .i64 n5) ∧
 ∃ n6, World.cell? w3 (Addr.add ⟨w.heap.size, 0, none⟩ 2) = some (.int .i64 n6) ∧
 ∃ b7, World.cell? w3 (Addr.add ⟨w.heap.size, 0, none⟩ 3) = some (.bool b7) ∧
 bindW (World.drew w2) fun w8 =>
 CW.Spec Tryz.prog 132 #[.int .i64 n5] w8 fun v9 w10 =>
 ∃ s11, (v9 = (.string s11)) ∧
 (∃ s12, World.cell? w10 (Addr.add ⟨w.heap.size, 0, none⟩ 0) = some (.string s12) ∧
 ((.string s12) : Value) = (.string s4)) ∧
 (∃ n13, World.cell? w10 (Addr.add ⟨w.heap.size, 0, none⟩ 2) = some (.int .i64 n13) ∧
 ((.int .i64 n13) : Value) = (.int .i64 n6)) ∧
 (∃ b14, World.cell? w10 (Addr.add ⟨w.heap.size, 0, none⟩ 3) = some (.bool b14) ∧
 ((.bool b14) : Value) = (.bool b7)) ∧
 CW.Spec Tryz.prog 132 #[.int .i64 n6] w10 fun v15 w16 =>
 ∃ s17, (v15 = (.string s17)) ∧
 (∃ s18, World.cell? w16 (Addr.add ⟨w.heap.size, 0, none⟩ 0) = some (.string s18) ∧
 ((.string s18) : Value) = (.string s4)) ∧
 (∃ b19, World.cell? w16 (Addr.add ⟨w.heap.size, 0, none⟩ 3) = some (.bool b19) ∧
 ((.bool b19) : Value) = (.bool b7)) ∧
 CW.Spec Tryz.prog 133 #[.bool b7] w16 fun v20 w21 =>
 ∃ s22, (v20 = (.string s22)) ∧
 (∃ s23, World.cell? w21 (Addr.add ⟨w.heap.size, 0, none⟩ 0) = some (.string s23) ∧
 ((.string s23) : Value) = (.string s4)) ∧
 bindW (World.alloc w21 (.cells #[(.string (ByteArray.mk #[73, 110, 105, 116, 105, 97, 116, 111, 114, 78, 97, 109, 101])), (.string s4), (.string (ByteArray.mk #[77, 97, 120, 82, 101, 99, 118, 68, 97, 116, 97, 83, 101, 103, 109, 101, 110, 116, 76, 101, 110, 103, 116, 104])), (.string s11), (.string (ByteArray.mk #[77, 97, 120, 66, 117, 114, 115, 116, 76, 101, 110, 103, 116, 104])), (.string s17), (.string (ByteArray.mk #[73, 109, 109, 101, 100, 105, 97, 116, 101, 68, 97, 116, 97])), (.string s22), (.string (ByteArray.mk #[72, 101, 97, 100, 101, 114, 68, 105, 103, 101, 115, 116])), (.string s1)] 212)) fun w24 =>
 bindW (World.alloc w21 (.cells #[(.string (ByteArray.mk #[73, 110, 105, 116, 105, 97, 116, 111, 114, 78, 97, 109, 101])), (.string s4), (.string (ByteArray.mk #[77, 97, 120, 82, 101, 99, 118, 68, 97, 116, 97, 83, 101, 103, 109, 101, 110, 116, 76, 101, 110, 103, 116, 104])), (.string s11), (.string (ByteArray.mk #[77, 97, 120, 66, 117, 114, 115, 116, 76, 101, 110, 103, 116, 104])), (.string s17), (.string (ByteArray.mk #[73, 109, 109, 101, 100, 105, 97, 116, 101, 68, 97, 116, 97])), (.string s22), (.string (ByteArray.mk #[72, 101, 97, 100, 101, 114, 68, 105, 103, 101, 115, 116])), (.string s1)] 212)) fun w25 =>
 R (.slice (some ⟨w21.heap.size, 0, none⟩) 5 5) w25)
 (fun j26 =>
 ∃ b27, World.cell? w0 (Addr.add ⟨w.heap.size, 0, none⟩ 4) = some (.bool b27) ∧
 cond b27
 (j26 (ByteArray.mk #[67, 82, 67, 51, 50, 67, 44, 78, 111, 110, 101]) w0)
 (j26 (ByteArray.mk #[78, 111, 110, 101]) w0))
theorem q68W (p0_0 p0_1 p0_2 p0_3 p0_4 w R) (h : q68F p0_0 p0_1 p0_2 p0_3 p0_4 w R) : CW.Spec Tryz.prog 89 #[(.agg #[(.string p0_0), .int .i64 p0_1, .int .i64 p0_2, .bool p0_3, .bool p0_4])] w R :=
 sp Tryz.func89 h
def q80F (p0 : Bool) (w : World) (R : KV) : Prop :=
 cond p0
 (R (.string (ByteArray.mk #[89, 101, 115])) w)
 (R (.string (ByteArray.mk #[78, 111])) w)
theorem q80W (p0 w R) (h : q80F p0 w R) : CW.Spec Tryz.prog 133 #[.bool p0] w R :=
 sp Tryz.func133 h
def q69F (p0_0 : ByteArray) (p0_1 : Int) (p0_2 : Int) (p0_3 : Bool) (p0_4 : Bool) (p1 : Value) (p2 : Value) (w : World) (R : KV) : Prop :=
 bindW (World.alloc w (.cells #[(.string p0_0), .int .i64 p0_1, .int .i64 p0_2, .bool p0_3, .bool p0_4] 54)) fun w0 =>
 bindW (World.alloc w0 (.cells #[(.string (ByteArray.mk #[])), .int .i64 0, .int .i64 0, .bool false, .bool false] 54)) fun w1 =>
 ∃ s2 n3 n4 b5 b6, (ldCells w1 ⟨w.heap.size, 0, none⟩ 5 #[(.string s2), .int .i64 n3, .int .i64 n4, .bool b5, .bool b6]) ∧
 bindW (World.alloc w1 (.cells #[(.string (ByteArray.mk #[])), .int .i64 0, .int .i64 0, .bool false, .bool false] 54)) fun w7 =>
 StRow w7 ⟨w1.heap.size, 0, none⟩ #[(.string s2), .int .i64 n3, .int .i64 n4, .bool b5, .bool b6] ∧
 bindW (stRow w7 ⟨w1.heap.size, 0, none⟩ #[(.string s2), .int .i64 n3, .int .i64 n4, .bool b5, .bool b6]) fun w8 =>
 St1 w8 (Addr.add ⟨w1.heap.size, 0, none⟩ 0) ∧
 bindW (World.setCell w8 (Addr.add ⟨w1.heap.size, 0, none⟩ 0) (.string (ByteArray.mk #[]))) fun w9 =>
 St1 w9 (Addr.add ⟨w1.heap.size, 0, none⟩ 4) ∧
 bindW (World.setCell w9 (Addr.add ⟨w1.heap.size, 0, none⟩ 4) (.bool false)) fun w10 =>
 CW.Spec Tryz.prog 157 #[] w10 fun v11 w12 =>
 ∃ m13, sliceLen p2 = some m13 ∧
 JoinP [.val, .int .i64]
 (fun v14 => fun (n15 : Int) => fun w16 =>
 JoinP [.int .i64]
 (fun (n17 : Int) => fun w18 =>
 cond (n17 != 0)
 ((StRow w18 ⟨w0.heap.size, 0, none⟩ #[(.string (ByteArray.mk #[])), .int .i64 0, .int .i64 0, .bool false, .bool false]) ∧
 bindW (stRow w18 ⟨w0.heap.size, 0, none⟩ #[(.string (ByteArray.mk #[])), .int .i64 0, .int .i64 0, .bool false, .bool false]) fun w19 =>
 ∃ s20 n21 n22 b23 b24, (ldCells w19 ⟨w0.heap.size, 0, none⟩ 5 #[(.string s20), .int .i64 n21, .int .i64 n22, .bool b23, .bool b24]) ∧
 R (.tuple #[nvc, (.agg #[(.string s20), .int .i64 n21, .int .i64 n22, .bool b23, .bool b24]), .int .i64 n17]) w19)
 (bindW (World.drew w18) fun w25 =>
 ∃ s26 n27 n28 b29 b30, (ldCells w25 ⟨w1.heap.size, 0, none⟩ 5 #[(.string s26), .int .i64 n27, .int .i64 n28, .bool b29, .bool b30]) ∧
 bindW (World.drew w18) fun w31 =>
 CW.Spec Tryz.prog 156 #[v14] w31 fun v32 w33 =>
 (∃ s34 n35 n36 b37 b38, (ldCells w33 ⟨w1.heap.size, 0, none⟩ 5 #[(.string s34), .int .i64 n35, .int .i64 n36, .bool b37, .bool b38]) ∧
 ((.agg #[(.string s34), .int .i64 n35, .int .i64 n36, .bool b37, .bool b38]) : Value) = (.agg #[(.string s26), .int .i64 n27, .int .i64 n28, .bool b29, .bool b30])) ∧
 StRow w33 ⟨w0.heap.size, 0, none⟩ #[(.string s26), .int .i64 n27, .int .i64 n28, .bool b29, .bool b30] ∧
 bindW (stRow w33 ⟨w0.heap.size, 0, none⟩ #[(.string s26), .int .i64 n27, .int .i64 n28, .bool b29, .bool b30]) fun w39 =>
 bindW (stRow w33 ⟨w0.heap.size, 0, none⟩ #[(.string s26), .int .i64 n27, .int .i64 n28, .bool b29, .bool b30]) fun w40 =>
 ∃ s41 n42 n43 b44 b45, (ldCells w40 ⟨w0.heap.size, 0, none⟩ 5 #[(.string s41), .int .i64 n42, .int .i64 n43, .bool b44, .bool b45]) ∧
 R (.tuple #[v32, (.agg #[(.string s41), .int .i64 n42, .int .i64 n43, .bool b44, .bool b45]), .int .i64 0]) w40))
 (fun j46 =>
 cond (n15 != 0)
 (j46 n15 w16)
 (∃ s47, World.cell? w16 (Addr.add ⟨w1.heap.size, 0, none⟩ 0) = some (.string s47) ∧
 cond (ByteArray.toList s47 == ByteArray.toList (ByteArray.mk #[]))
 (j46 (3 : Int) w16)
 (∃ s48, World.cell? w16 (Addr.add ⟨w1.heap.size, 0, none⟩ 0) = some (.string s48) ∧
 CW.Spec Tryz.prog 158 #[p1, (.string s48)] w16 fun v49 w50 =>
 ∃ b51, v49 = .bool b51 ∧
 cond (!b51)
 (j46 (2 : Int) w50)
 (j46 n15 w50)))))
 (fun j52 =>
 LoopP [.val, .int .i64, .int .i64]
 (fun j53 v54 => fun (n55 : Int) => fun (n56 : Int) => fun w57 =>
 cond (decide (n56 < ((m13 : Nat) : Int)))
 (JoinP [.val, .int .i64]
 (fun v58 => fun (n59 : Int) => fun w60 =>
 j53 v58 n59 (IntKind.wrap .i64 (n56 + 1)) w60)
 (fun j61 =>
 ∃ a62, sliceAt p2 n56 2 = some a62 ∧
 ∃ s63 s64, (ldCells w57 a62 2 #[(.string s63), (.string s64)]) ∧
 bindW (World.alloc w57 (.cells #[(.string (ByteArray.mk #[])), (.string (ByteArray.mk #[]))] 212)) fun w65 =>
 StRow w65 ⟨w57.heap.size, 0, none⟩ #[(.string s63), (.string s64)] ∧
 bindW (stRow w65 ⟨w57.heap.size, 0, none⟩ #[(.string s63), (.string s64)]) fun w66 =>
 ∃ s67, World.cell? w66 (Addr.add ⟨w57.heap.size, 0, none⟩ 0) = some (.string s67) ∧
 ∃ v68 b69, ((Sem.run Tryz.prog (Instr.lookup 236 v11 (.string s67) true) w66) = (.ok (.tuple #[v68, .bool b69]) w66)) ∧
 cond (!b69)
 (∃ s70, World.cell? w66 (Addr.add ⟨w57.heap.size, 0, none⟩ 0) = some (.string s70) ∧
 bindW (World.alloc w66 (.cells #[(.string s70), (.string (ByteArray.mk #[78, 111, 116, 85, 110, 100, 101, 114, 115, 116, 111, 111, 100]))] 212)) fun w71 =>
 ∃ v72 w73, Sem.run Tryz.prog (Builtin.append_ #[174, 174] 174 #[v54, (.slice (some ⟨w66.heap.size, 0, none⟩) 1 1)]) w71 = .ok v72 w73 ∧
 j61 v72 n55 w73)
 (∃ s74, World.cell? w66 (Addr.add ⟨w57.heap.size, 0, none⟩ 1) = some (.string s74) ∧
 CW.callU Tryz.prog v68 #[(.pointer (some ⟨w1.heap.size, 0, none⟩)), (.string s74)] w66 fun v75 w76 =>
 ∃ s77 b78 b79, v75 = .tuple #[(.string s77), .bool b78, .bool b79] ∧
 cond (!b79)
 (j52 v54 (1 : Int) w76)
 (cond b78
 (∃ s80, World.cell? w76 (Addr.add ⟨w57.heap.size, 0, none⟩ 0) = some (.string s80) ∧
 bindW (World.alloc w76 (.cells #[(.string s80), (.string s77)] 212)) fun w81 =>
 ∃ v82 w83, Sem.run Tryz.prog (Builtin.append_ #[174, 174] 174 #[v54, (.slice (some ⟨w76.heap.size, 0, none⟩) 1 1)]) w81 = .ok v82 w83 ∧
 j61 v82 n55 w83)
 (j61 v54 n55 w76)))))
 (j52 v54 n55 w57))
 (fun s84 => s84 nvc (0 : Int) (0 : Int) w12))
theorem q69W (p0_0 p0_1 p0_2 p0_3 p0_4 p1 p2 w R) (h : q69F p0_0 p0_1 p0_2 p0_3 p0_4 p1 p2 w R) : CW.Spec Tryz.prog 115 #[(.agg #[(.string p0_0), .int .i64 p0_1, .int .i64 p0_2, .bool p0_3, .bool p0_4]), p1, p2] w R :=
 sp Tryz.func115 h
def q70F  (w : World) (R : KV) : Prop :=
 bindW (World.alloc w (.cells #[(.string (ByteArray.mk #[])), .int .i64 0, .int .i64 0, .bool false, .bool false] 54)) fun w0 =>
 StRow w0 ⟨w.heap.size, 0, none⟩ #[(.string (ByteArray.mk #[])), .int .i64 4096, .int .i64 8192, .bool true, .bool true] ∧
 bindW (stRow w0 ⟨w.heap.size, 0, none⟩ #[(.string (ByteArray.mk #[])), .int .i64 4096, .int .i64 8192, .bool true, .bool true]) fun w1 =>
 ∃ s2 n3 n4 b5 b6, (ldCells w1 ⟨w.heap.size, 0, none⟩ 5 #[(.string s2), .int .i64 n3, .int .i64 n4, .bool b5, .bool b6]) ∧
 R (.agg #[(.string s2), .int .i64 n3, .int .i64 n4, .bool b5, .bool b6]) w1
theorem q70W  (w : World) (R : KV) (h : q70F  w R) : CW.Spec Tryz.prog 116 #[] w R :=
 sp Tryz.func116 h
def q72F  (w : World) (R : KV) : Prop :=
 ∃ v0 w1, Sem.run Tryz.prog (Instr.makeMap 236 none) w = .ok v0 w1 ∧
 ∃ w2, ((Sem.run Tryz.prog (Instr.mapUpdate 236 v0 (.string (ByteArray.mk #[73, 110, 105, 116, 105, 97, 116, 111, 114, 78, 97, 109, 101])) (.func (.func 195) #[] #[])) w1) = (.ok PUnit.unit w2)) ∧
 ∃ w3, ((Sem.run Tryz.prog (Instr.mapUpdate 236 v0 (.string (ByteArray.mk #[77, 97, 120, 82, 101, 99, 118, 68, 97, 116, 97, 83, 101, 103, 109, 101, 110, 116, 76, 101, 110, 103, 116, 104])) (.func (.func 197) #[] #[])) w2) = (.ok PUnit.unit w3)) ∧
 ∃ w4, ((Sem.run Tryz.prog (Instr.mapUpdate 236 v0 (.string (ByteArray.mk #[77, 97, 120, 66, 117, 114, 115, 116, 76, 101, 110, 103, 116, 104])) (.func (.func 199) #[] #[])) w3) = (.ok PUnit.unit w4)) ∧
 ∃ w5, ((Sem.run Tryz.prog (Instr.mapUpdate 236 v0 (.string (ByteArray.mk #[73, 109, 109, 101, 100, 105, 97, 116, 101, 68, 97, 116, 97])) (.func (.func 200) #[] #[])) w4) = (.ok PUnit.unit w5)) ∧
 ∃ w6, ((Sem.run Tryz.prog (Instr.mapUpdate 236 v0 (.string (ByteArray.mk #[72, 101, 97, 100, 101, 114, 68, 105, 103, 101, 115, 116])) (.func (.func 202) #[] #[])) w5) = (.ok PUnit.unit w6)) ∧
 ∃ w7, ((Sem.run Tryz.prog (Instr.mapUpdate 236 v0 (.string (ByteArray.mk #[84, 97, 114, 103, 101, 116, 78, 97, 109, 101])) (.func (.func 204) #[] #[])) w6) = (.ok PUnit.unit w7)) ∧
 R v0 w7
theorem q72W  (w : World) (R : KV) (h : q72F  w R) : CW.Spec Tryz.prog 157 #[] w R :=
 sp Tryz.func157 h
def q73F (p0 : Option Addr) (p1 : ByteArray) (w : World) (R : KV) : Prop :=
 withAddr (.pointer p0) fun a0 =>
 St1 w (Addr.add a0 0) ∧
 bindW (World.setCell w (Addr.add a0 0) (.string p1)) fun w1 =>
 CW.Spec Tryz.prog 196 #[(.string p1)] w1 fun v2 w3 =>
 ∃ b4, v2 = .bool b4 ∧
 R (.tuple #[(.string (ByteArray.mk #[])), .bool false, .bool b4]) w3
theorem q73W (p0 p1 w R) (h : q73F p0 p1 w R) : CW.Spec Tryz.prog 195 #[.pointer p0, (.string p1)] w R :=
 sp Tryz.func195 h
def q74F (p0 : Option Addr) (p1 : ByteArray) (w : World) (R : KV) : Prop :=
 withAddr (.pointer p0) fun a0 =>
 CW.Spec Tryz.prog 198 #[(.pointer (some (Addr.add a0 1))), (.string p1)] w fun v1 w2 =>
 ∃ b3, v1 = .bool b3 ∧
 R (.tuple #[(.string (ByteArray.mk #[])), .bool false, .bool b3]) w2
theorem q74W (p0 p1 w R) (h : q74F p0 p1 w R) : CW.Spec Tryz.prog 197 #[.pointer p0, (.string p1)] w R :=
 sp Tryz.func197 h
def q79F (p0 : Option Addr) (p1 : ByteArray) (w : World) (R : KV) : Prop :=
 CW.Spec Tryz.prog 215 #[(.string p1)] w fun v0 w1 =>
 ∃ n2 b3, v0 = .tuple #[.int .i64 n2, .bool b3] ∧
 JoinP [.bool]
 (fun (b4 : Bool) => fun w5 =>
 cond b4
 (R (.bool false) w5)
 (withAddr (.pointer p0) fun a6 =>
 ∃ n7, World.cell? w5 a6 = some (.int .i64 n7) ∧
 withAddr (.pointer p0) fun a8 =>
 St1 w5 a8 ∧
 bindW (World.setCell w5 a8 (.int .i64 (if n2 < n7 then n2 else n7))) fun w9 =>
 R (.bool true) w9))
 (fun j10 =>
 cond (!b3)
 (j10 true w1)
 (cond (decide (n2 < 512))
 (j10 true w1)
 (j10 (decide (n2 > 16777215)) w1)))
theorem q79W (p0 p1 w R) (h : q79F p0 p1 w R) : CW.Spec Tryz.prog 198 #[.pointer p0, (.string p1)] w R :=
 sp Tryz.func198 h
def q75F (p0 : Option Addr) (p1 : ByteArray) (w : World) (R : KV) : Prop :=
 withAddr (.pointer p0) fun a0 =>
 CW.Spec Tryz.prog 198 #[(.pointer (some (Addr.add a0 2))), (.string p1)] w fun v1 w2 =>
 ∃ b3, v1 = .bool b3 ∧
 withAddr (.pointer p0) fun a4 =>
 ∃ n5, World.cell? w2 (Addr.add a4 2) = some (.int .i64 n5) ∧
 CW.Spec Tryz.prog 132 #[.int .i64 n5] w2 fun v6 w7 =>
 ∃ s8, (v6 = (.string s8)) ∧
 R (.tuple #[(.string s8), .bool true, .bool b3]) w7
theorem q75W (p0 p1 w R) (h : q75F p0 p1 w R) : CW.Spec Tryz.prog 199 #[.pointer p0, (.string p1)] w R :=
 sp Tryz.func199 h
def q76F (p0 : Option Addr) (p1 : ByteArray) (w : World) (R : KV) : Prop :=
 withAddr (.pointer p0) fun a0 =>
 ∃ b1, World.cell? w (Addr.add a0 3) = some (.bool b1) ∧
 CW.Spec Tryz.prog 133 #[.bool b1] w fun v2 w3 =>
 ∃ s4, (v2 = (.string s4)) ∧
 CW.Spec Tryz.prog 201 #[(.string s4), (.string p1)] w3 fun v5 w6 =>
 ∃ s7 b8, v5 = .tuple #[(.string s7), .bool b8] ∧
 withAddr (.pointer p0) fun a9 =>
 St1 w6 (Addr.add a9 3) ∧
 bindW (World.setCell w6 (Addr.add a9 3) (.bool (ByteArray.toList s7 == ByteArray.toList (ByteArray.mk #[89, 101, 115])))) fun w10 =>
 R (.tuple #[(.string s7), .bool true, .bool b8]) w10
theorem q76W (p0 p1 w R) (h : q76F p0 p1 w R) : CW.Spec Tryz.prog 200 #[.pointer p0, (.string p1)] w R :=
 sp Tryz.func200 h
def q77F (p0 : Option Addr) (p1 : ByteArray) (w : World) (R : KV) : Prop :=
 CW.Spec Tryz.prog 203 #[(.string p1), (.string (ByteArray.mk #[67, 82, 67, 51, 50, 67, 44, 78, 111, 110, 101]))] w fun v0 w1 =>
 ∃ s2 b3, v0 = .tuple #[(.string s2), .bool b3] ∧
 JoinP [.str]
 (fun (s4 : ByteArray) => fun w5 =>
 withAddr (.pointer p0) fun a6 =>
 St1 w5 (Addr.add a6 4) ∧
 bindW (World.setCell w5 (Addr.add a6 4) (.bool (ByteArray.toList s4 == ByteArray.toList (ByteArray.mk #[67, 82, 67, 51, 50, 67])))) fun w7 =>
 R (.tuple #[(.string s4), .bool true, .bool true]) w7)
 (fun j8 =>
 cond (!b3)
 (j8 (ByteArray.mk #[82, 101, 106, 101, 99, 116]) w1)
 (j8 s2 w1))
theorem q77W (p0 p1 w R) (h : q77F p0 p1 w R) : CW.Spec Tryz.prog 202 #[.pointer p0, (.string p1)] w R :=
 sp Tryz.func202 h
def q78F (p0 : Option Addr) (p1 : ByteArray) (w : World) (R : KV) : Prop :=
 R (.tuple #[(.string (ByteArray.mk #[])), .bool false, .bool true]) w
theorem q78W (p0 p1 w R) (h : q78F p0 p1 w R) : CW.Spec Tryz.prog 204 #[.pointer p0, (.string p1)] w R :=
 sp Tryz.func204 h
def q71F (p0_0 : ByteArray) (p0_1 : Int) (p0_2 : Int) (p0_3 : Bool) (p0_4 : Bool) (p1 : Value) (w : World) (R : KV) : Prop :=
 bindW (World.alloc w (.cells #[(.string p0_0), .int .i64 p0_1, .int .i64 p0_2, .bool p0_3, .bool p0_4] 54)) fun w0 =>
 bindW (World.alloc w0 (.cells #[(.string (ByteArray.mk #[])), .int .i64 0, .int .i64 0, .bool false, .bool false] 54)) fun w1 =>
 ∃ s2 n3 n4 b5 b6, (ldCells w1 ⟨w.heap.size, 0, none⟩ 5 #[(.string s2), .int .i64 n3, .int .i64 n4, .bool b5, .bool b6]) ∧
 bindW (World.alloc w1 (.cells #[(.string (ByteArray.mk #[])), .int .i64 0, .int .i64 0, .bool false, .bool false] 54)) fun w7 =>
 StRow w7 ⟨w1.heap.size, 0, none⟩ #[(.string s2), .int .i64 n3, .int .i64 n4, .bool b5, .bool b6] ∧
 bindW (stRow w7 ⟨w1.heap.size, 0, none⟩ #[(.string s2), .int .i64 n3, .int .i64 n4, .bool b5, .bool b6]) fun w8 =>
 St1 w8 (Addr.add ⟨w1.heap.size, 0, none⟩ 4) ∧
 bindW (World.setCell w8 (Addr.add ⟨w1.heap.size, 0, none⟩ 4) (.bool false)) fun w9 =>
 ∃ m10, sliceLen p1 = some m10 ∧
 LoopP [.int .i64]
 (fun j11 => fun (n12 : Int) => fun w13 =>
 cond (decide (n12 < ((m10 : Nat) : Int)))
 (∃ a14, sliceAt p1 n12 2 = some a14 ∧
 ∃ s15 s16, (ldCells w13 a14 2 #[(.string s15), (.string s16)]) ∧
 bindW (World.alloc w13 (.cells #[(.string (ByteArray.mk #[])), (.string (ByteArray.mk #[]))] 212)) fun w17 =>
 StRow w17 ⟨w13.heap.size, 0, none⟩ #[(.string s15), (.string s16)] ∧
 bindW (stRow w17 ⟨w13.heap.size, 0, none⟩ #[(.string s15), (.string s16)]) fun w18 =>
 ∃ s19, World.cell? w18 (Addr.add ⟨w13.heap.size, 0, none⟩ 0) = some (.string s19) ∧
 JoinP [.bool]
 (fun (b20 : Bool) => fun w21 =>
 cond (!b20)
 ((StRow w21 ⟨w0.heap.size, 0, none⟩ #[(.string (ByteArray.mk #[])), .int .i64 0, .int .i64 0, .bool false, .bool false]) ∧
 bindW (stRow w21 ⟨w0.heap.size, 0, none⟩ #[(.string (ByteArray.mk #[])), .int .i64 0, .int .i64 0, .bool false, .bool false]) fun w22 =>
 ∃ s23 n24 n25 b26 b27, (ldCells w22 ⟨w0.heap.size, 0, none⟩ 5 #[(.string s23), .int .i64 n24, .int .i64 n25, .bool b26, .bool b27]) ∧
 R (.tuple #[(.agg #[(.string s23), .int .i64 n24, .int .i64 n25, .bool b26, .bool b27]), .int .i64 2]) w22)
 (j11 (IntKind.wrap .i64 (n12 + 1)) w21))
 (fun j28 =>
 cond (ByteArray.toList s19 == ByteArray.toList (ByteArray.mk #[77, 97, 120, 66, 117, 114, 115, 116, 76, 101, 110, 103, 116, 104]))
 (∃ s29, World.cell? w18 (Addr.add ⟨w13.heap.size, 0, none⟩ 1) = some (.string s29) ∧
 CW.Spec Tryz.prog 215 #[(.string s29)] w18 fun v30 w31 =>
 ∃ n32 b33, v30 = .tuple #[.int .i64 n32, .bool b33] ∧
 ∃ n34, World.cell? w31 (Addr.add ⟨w1.heap.size, 0, none⟩ 2) = some (.int .i64 n34) ∧
 St1 w31 (Addr.add ⟨w1.heap.size, 0, none⟩ 2) ∧
 bindW (World.setCell w31 (Addr.add ⟨w1.heap.size, 0, none⟩ 2) (.int .i64 (if n32 < n34 then n32 else n34))) fun w35 =>
 j28 b33 w35)
 (cond (ByteArray.toList s19 == ByteArray.toList (ByteArray.mk #[73, 109, 109, 101, 100, 105, 97, 116, 101, 68, 97, 116, 97]))
 (∃ s36, World.cell? w18 (Addr.add ⟨w13.heap.size, 0, none⟩ 1) = some (.string s36) ∧
 CW.Spec Tryz.prog 216 #[(.string s36)] w18 fun v37 w38 =>
 ∃ b39 b40, v37 = .tuple #[.bool b39, .bool b40] ∧
 ∃ b41, World.cell? w38 (Addr.add ⟨w1.heap.size, 0, none⟩ 3) = some (.bool b41) ∧
 cond b41
 ((St1 w38 (Addr.add ⟨w1.heap.size, 0, none⟩ 3)) ∧
 bindW (World.setCell w38 (Addr.add ⟨w1.heap.size, 0, none⟩ 3) (.bool b39)) fun w42 =>
 j28 b40 w42)
 ((St1 w38 (Addr.add ⟨w1.heap.size, 0, none⟩ 3)) ∧
 bindW (World.setCell w38 (Addr.add ⟨w1.heap.size, 0, none⟩ 3) (.bool false)) fun w43 =>
 j28 b40 w43))
 (cond (ByteArray.toList s19 == ByteArray.toList (ByteArray.mk #[72, 101, 97, 100, 101, 114, 68, 105, 103, 101, 115, 116]))
 (∃ b44, World.cell? w18 (Addr.add ⟨w.heap.size, 0, none⟩ 4) = some (.bool b44) ∧
 cond b44
 (∃ s45, World.cell? w18 (Addr.add ⟨w13.heap.size, 0, none⟩ 1) = some (.string s45) ∧
 St1 w18 (Addr.add ⟨w1.heap.size, 0, none⟩ 4) ∧
 bindW (World.setCell w18 (Addr.add ⟨w1.heap.size, 0, none⟩ 4) (.bool (ByteArray.toList s45 == ByteArray.toList (ByteArray.mk #[67, 82, 67, 51, 50, 67])))) fun w46 =>
 j28 true w46)
 ((St1 w18 (Addr.add ⟨w1.heap.size, 0, none⟩ 4)) ∧
 bindW (World.setCell w18 (Addr.add ⟨w1.heap.size, 0, none⟩ 4) (.bool false)) fun w47 =>
 j28 true w47))
 (j28 true w18)))))
 (∃ s48 n49 n50 b51 b52, (ldCells w13 ⟨w1.heap.size, 0, none⟩ 5 #[(.string s48), .int .i64 n49, .int .i64 n50, .bool b51, .bool b52]) ∧
 StRow w13 ⟨w0.heap.size, 0, none⟩ #[(.string s48), .int .i64 n49, .int .i64 n50, .bool b51, .bool b52] ∧
 bindW (stRow w13 ⟨w0.heap.size, 0, none⟩ #[(.string s48), .int .i64 n49, .int .i64 n50, .bool b51, .bool b52]) fun w53 =>
 ∃ s54 n55 n56 b57 b58, (ldCells w53 ⟨w0.heap.size, 0, none⟩ 5 #[(.string s54), .int .i64 n55, .int .i64 n56, .bool b57, .bool b58]) ∧
 R (.tuple #[(.agg #[(.string s54), .int .i64 n55, .int .i64 n56, .bool b57, .bool b58]), .int .i64 0]) w53))
 (fun s59 => s59 (0 : Int) w9)
theorem q71W (p0_0 p0_1 p0_2 p0_3 p0_4 p1 w R) (h : q71F p0_0 p0_1 p0_2 p0_3 p0_4 p1 w R) : CW.Spec Tryz.prog 180 #[(.agg #[(.string p0_0), .int .i64 p0_1, .int .i64 p0_2, .bool p0_3, .bool p0_4]), p1] w R :=
 sp Tryz.func180 h
end
end Go.Proofs.YtdinpgnjnleioaaGreatDoor
