/- Texts of this seat, one behind the other: GWit, GTwn, GDsk, GRng, GSto. -/
import Derived.Test.YtghineciiljeoaaGreatDoorQNam
set_option linter.unusedVariables false
set_option maxRecDepth 100000
namespace Go.Proofs.YtghineciiljeoaaGreatDoor
section
open Go Go.CW
def q1F (p0 : Value) (p1 : Int) (w : World) (R : KV) : Prop :=
 CW.Spec Tryz.prog 85 #[p0] w fun v0 w1 =>
 JoinP [.bool]
 (fun (b2 : Bool) => fun (w3 : World) =>
 cond b2
 (R v0 w3)
 (LoopP [.val]
 (fun j4 => fun (v5 : Value) => fun (w6 : World) =>
 ∃ m7, sliceLen v5 = some m7 ∧
 nzK p1 (cond ((Int.tmod ((m7 : Nat) : Int) p1) != 0)
 (bindW (World.alloc w6 (.cells #[.int .u8 0] 5)) fun w8 =>
 ∃ (v9 : Value) (w10 : World), ((Sem.run Tryz.prog (Builtin.append_ #[34, 34] 34 #[v5, (.slice (some ⟨w6.heap.size, 0, none⟩) 1 1)]) w8) = (.ok v9 w10)) ∧
 j4 v9 w10)
 (CW.Spec Tryz.prog 96 #[v5] w6 fun v11 w12 =>
 R v11 w12)))
 (fun s13 => s13 v0 w3)))
 (fun j14 =>
 cond (decide (p1 < 1))
 (j14 true w1)
 (j14 (decide (p1 > 4096)) w1))
theorem q1W (p0 p1 w R) (h : q1F p0 p1 w R) : CW.Spec Tryz.prog 252 #[p0, .int .i64 p1] w R :=
 sp Tryz.func252 h
end
section
open Go Go.CW
def q119F (p0 : Option Addr) (p1 : Int) (p2 : Value) (w : World) (R : KV) : Prop :=
 bindW (World.alloc w (.cells #[.pointer p0] 86)) fun w0 =>
 bindW (World.alloc w0 (.cells #[.int .i64 p1] 3)) fun w1 =>
 ∃ (o2 : Option Addr), ((World.cell? w1 ⟨w.heap.size, 0, none⟩) = (some (.pointer o2))) ∧
 ∃ (n3 : Int), ((World.cell? w1 ⟨w0.heap.size, 0, none⟩) = (some (.int .i64 n3))) ∧
 CW.Spec Tryz.prog 187 #[.pointer o2, .int .i64 n3] w1 fun v4 w5 =>
 ∃ (b6 : Bool), v4 = .bool b6 ∧
 cond (!b6)
 (R (.int .i64 1) w5)
 (CW.Spec Tryz.prog 188 #[.int .u64 1, p2] w5 fun v7 w8 =>
 ∃ (v9 : Value) (n10 : Int), v7 = .tuple #[v9, .int .i64 n10] ∧
 bindW (World.alloc w8 (.cells #[.slice none 0 0] 34)) fun w11 =>
 oneK v9 ((St1 w11 ⟨w8.heap.size, 0, none⟩) ∧
 bindW (World.setCell w11 ⟨w8.heap.size, 0, none⟩ v9) fun w12 =>
 cond (n10 != 0)
 (R (.int .i64 n10) w12)
 (∃ (o13 : Option Addr), ((World.cell? w12 ⟨w.heap.size, 0, none⟩) = (some (.pointer o13))) ∧
 ((isOne (.func (.func 189) #[] #[(.pointer (some ⟨w.heap.size, 0, none⟩)), (.pointer (some ⟨w0.heap.size, 0, none⟩))])) = true) ∧
 ((isOne (.func (.func 191) #[] #[(.pointer (some ⟨w.heap.size, 0, none⟩)), (.pointer (some ⟨w0.heap.size, 0, none⟩)), (.pointer (some ⟨w8.heap.size, 0, none⟩))])) = true) ∧
 ((isOne (.func (.func 192) #[.pointer o13] #[])) = true) ∧
 bindW (World.alloc w12 (.cells #[(.func (.func 189) #[] #[(.pointer (some ⟨w.heap.size, 0, none⟩)), (.pointer (some ⟨w0.heap.size, 0, none⟩))]), (.func (.func 191) #[] #[(.pointer (some ⟨w.heap.size, 0, none⟩)), (.pointer (some ⟨w0.heap.size, 0, none⟩)), (.pointer (some ⟨w8.heap.size, 0, none⟩))]), (.func (.func 192) #[.pointer o13] #[])] 225)) fun w14 =>
 ∃ (m15 : Nat), ((sliceLen (.slice (some ⟨w12.heap.size, 0, none⟩) 3 3)) = (some m15)) ∧
 LoopP [.int .i64]
 (fun j16 => fun (n17 : Int) => fun (w18 : World) =>
 cond (decide (n17 < ((m15 : Nat) : Int)))
 (∃ a19, sliceAt (.slice (some ⟨w12.heap.size, 0, none⟩) 3 3) n17 1 = some a19 ∧
 ∃ v20, World.cell? w18 a19 = some v20 ∧
 CW.callU Tryz.prog v20 #[] w18 fun v21 w22 =>
 ∃ (n23 : Int), v21 = .int .i64 n23 ∧
 cond (n23 != 0)
 (R (.int .i64 n23) w22)
 (j16 (IntKind.wrap .i64 (n17 + 1)) w22))
 (R (.int .i64 0) w18))
 (fun s24 => s24 (0 : Int) w14))))
theorem q119W (p0 p1 p2 w R) (h : q119F p0 p1 p2 w R) : CW.Spec Tryz.prog 103 #[.pointer p0, .int .i64 p1, p2] w R :=
 sp Tryz.func103 h
def q122F (p0 : Option Addr) (p1 : Int) (w : World) (R : KV) : Prop :=
 CW.Spec Tryz.prog 187 #[.pointer p0, .int .i64 p1] w fun v0 w1 =>
 ∃ (b2 : Bool), v0 = .bool b2 ∧
 cond (!b2)
 (R (.tuple #[.pointer none, .int .i64 1]) w1)
 (bindW (World.alloc w1 (.cells #[.pointer p0, .int .i64 p1, .int .u64 0, .slice none 0 0] 311)) fun w3 =>
 LoopP [.bool, .int .i64]
 (fun j4 => fun (b5 : Bool) => fun (n6 : Int) => fun (w7 : World) =>
 cond (decide (n6 < 2))
 (JoinP [.bool]
 (fun (b8 : Bool) => fun (w9 : World) =>
 j4 b8 (IntKind.wrap .i64 (n6 + 1)) w9)
 (fun j10 =>
 CW.Spec Tryz.prog 193 #[.pointer p0, (.int .i64 (IntKind.wrap .i64 (p1 + n6)))] w7 fun v11 w12 =>
 ∃ (v13 : Value) (n14 : Int), v11 = .tuple #[v13, .int .i64 n14] ∧
 cond (n14 != 0)
 (R (.tuple #[.pointer none, .int .i64 n14]) w12)
 (CW.Spec Tryz.prog 194 #[v13] w12 fun v15 w16 =>
 ∃ (n17 : Int) (v18 : Value) (n19 : Int), v15 = .tuple #[.int .u64 n17, v18, .int .i64 n19] ∧
 JoinP [.bool]
 (fun (b20 : Bool) => fun (w21 : World) =>
 cond b20
 (j10 b5 w21)
 ((St1 w21 (Addr.add ⟨w1.heap.size, 0, none⟩ 2)) ∧
 bindW (World.setCell w21 (Addr.add ⟨w1.heap.size, 0, none⟩ 2) (.int .u64 n17)) fun w22 =>
 oneK v18 ((St1 w22 (Addr.add ⟨w1.heap.size, 0, none⟩ 3)) ∧
 bindW (World.setCell w22 (Addr.add ⟨w1.heap.size, 0, none⟩ 3) v18) fun w23 =>
 j10 true w23)))
 (fun j24 =>
 cond (n19 != 0)
 (j24 true w16)
 (cond ((IntKind.wrap .i64 (Int.tmod n17 (2 : Int))) != n6)
 (j24 true w16)
 (cond b5
 (∃ n25, World.cell? w16 (Addr.add ⟨w1.heap.size, 0, none⟩ 2) = some (.int .u64 n25) ∧
 j24 (decide (n17 < n25)) w16)
 (j24 false w16)))))))
 (cond (!b5)
 (R (.tuple #[.pointer none, .int .i64 2]) w7)
 (R (.tuple #[(.pointer (some ⟨w1.heap.size, 0, none⟩)), .int .i64 0]) w7)))
 (fun s26 => s26 false (0 : Int) w3))
theorem q122W (p0 p1 w R) (h : q122F p0 p1 w R) : CW.Spec Tryz.prog 105 #[.pointer p0, .int .i64 p1] w R :=
 sp Tryz.func105 h
def q125F (p0 : Option Addr) (w : World) (R : KV) : Prop :=
 withAddr (.pointer p0) fun a0 =>
 ∃ v1, World.cell? w (Addr.add a0 3) = some v1 ∧
 CW.Spec Tryz.prog 85 #[v1] w fun v2 w3 =>
 CW.Spec Tryz.prog 96 #[v2] w3 fun v4 w5 =>
 R v4 w5
theorem q125W (p0 w R) (h : q125F p0 w R) : CW.Spec Tryz.prog 107 #[.pointer p0] w R :=
 sp Tryz.func107 h
def q124F (p0 : Option Addr) (p1 : Value) (w : World) (R : KV) : Prop :=
 withAddr (.pointer p0) fun a0 =>
 ∃ n1, World.cell? w (Addr.add a0 2) = some (.int .u64 n1) ∧
 CW.Spec Tryz.prog 188 #[(.int .u64 (IntKind.wrap .u64 (n1 + 1))), p1] w fun v2 w3 =>
 ∃ (v4 : Value) (n5 : Int), v2 = .tuple #[v4, .int .i64 n5] ∧
 cond (n5 != 0)
 (R (.int .i64 n5) w3)
 (bindW (World.drew w3) fun w6 =>
 withAddr (.pointer p0) fun a7 =>
 ∃ (o8 : Option Addr), ((World.cell? w6 (Addr.add a7 0)) = (some (.pointer o8))) ∧
 withAddr (.pointer p0) fun a9 =>
 ∃ n10, World.cell? w6 (Addr.add a9 1) = some (.int .i64 n10) ∧
 withAddr (.pointer p0) fun a11 =>
 ∃ n12, World.cell? w6 (Addr.add a11 2) = some (.int .u64 n12) ∧
 bindW (World.drew w3) fun w13 =>
 CW.Spec Tryz.prog 190 #[.pointer o8, (.int .i64 (IntKind.wrap .i64 (n10 + (IntKind.wrap .i64 (Int.tmod (IntKind.wrap .u64 (n12 + 1)) (2 : Int)))))), v4] w13 fun v14 w15 =>
 ∃ (n16 : Int), v14 = .int .i64 n16 ∧
 cond (n16 != 0)
 (R (.int .i64 n16) w15)
 (withAddr (.pointer p0) fun a17 =>
 ∃ (o18 : Option Addr), ((World.cell? w15 (Addr.add a17 0)) = (some (.pointer o18))) ∧
 CW.Spec Tryz.prog 192 #[.pointer o18] w15 fun v19 w20 =>
 ∃ (n21 : Int), v19 = .int .i64 n21 ∧
 cond (n21 != 0)
 (R (.int .i64 n21) w20)
 (bindW (World.drew w20) fun w22 =>
 withAddr (.pointer p0) fun a23 =>
 ∃ n24, World.cell? w22 (Addr.add a23 2) = some (.int .u64 n24) ∧
 bindW (World.drew w20) fun w25 =>
 CW.Spec Tryz.prog 85 #[p1] w25 fun v26 w27 =>
 (∃ n28, World.cell? w27 (Addr.add a23 2) = some (.int .u64 n28) ∧
 ((.int .u64 n28) : Value) = (.int .u64 n24)) ∧
 withAddr (.pointer p0) fun a29 =>
 (St1 w27 (Addr.add a29 2)) ∧
 bindW (World.setCell w27 (Addr.add a29 2) (.int .u64 (IntKind.wrap .u64 (n24 + 1)))) fun w30 =>
 withAddr (.pointer p0) fun a31 =>
 bindW (World.setCell w27 (Addr.add a29 2) (.int .u64 (IntKind.wrap .u64 (n24 + 1)))) fun w32 =>
 oneK v26 ((St1 w32 (Addr.add a31 3)) ∧
 bindW (World.setCell w32 (Addr.add a31 3) v26) fun w33 =>
 bindW (World.setCell w32 (Addr.add a31 3) v26) fun w34 =>
 R (.int .i64 0) w34))))
theorem q124W (p0 p1 w R) (h : q124F p0 p1 w R) : CW.Spec Tryz.prog 110 #[.pointer p0, p1] w R :=
 sp Tryz.func110 h
def q127F (p0 : Option Addr) (p1 : Int) (w : World) (R : KV) : Prop :=
 JoinP [.bool]
 (fun (b0 : Bool) => fun (w1 : World) =>
 R (.bool b0) w1)
 (fun j2 =>
 cond (decide (p1 ≥ 0))
 (CW.Spec Tryz.prog 111 #[.pointer p0] w fun v3 w4 =>
 ∃ (n5 : Int), v3 = .int .i64 n5 ∧
 j2 (decide (p1 < (IntKind.wrap .i64 (n5 - 1)))) w4)
 (j2 false w))
theorem q127W (p0 p1 w R) (h : q127F p0 p1 w R) : CW.Spec Tryz.prog 187 #[.pointer p0, .int .i64 p1] w R :=
 sp Tryz.func187 h
def q123F (p0 : Int) (p1 : Value) (w : World) (R : KV) : Prop :=
 ∃ m0, sliceLen p1 = some m0 ∧
 cond (decide (((m0 : Nat) : Int) > 488))
 (R (.tuple #[.slice none 0 0, .int .i64 5]) w)
 (bindW (World.alloc w (.cells #[.int .u8 84, .int .u8 87, .int .u8 73, .int .u8 78] 5)) fun w1 =>
 ∃ (v2 : Value) (w3 : World), ((Sem.run Tryz.prog (Go.convert 34 34 (.slice (some ⟨w.heap.size, 0, none⟩) 4 4)) w1) = (.ok v2 w3)) ∧
 CW.Spec Tryz.prog 120 #[v2, .int .u64 p0, .int .i64 8] w3 fun v4 w5 =>
 ∃ m6, sliceLen p1 = some m6 ∧
 CW.Spec Tryz.prog 120 #[v4, (.int .u64 (IntKind.wrap .u64 ((m6 : Nat) : Int))), .int .i64 2] w5 fun v7 w8 =>
 ∃ (v9 : Value) (w10 : World), ((Sem.run Tryz.prog (Builtin.append_ #[34, 34] 34 #[v7, p1]) w8) = (.ok v9 w10)) ∧
 CW.Spec Tryz.prog 252 #[v9, .int .i64 508] w10 fun v11 w12 =>
 CW.Spec Tryz.prog 218 #[v11] w12 fun v13 w14 =>
 R (.tuple #[v13, .int .i64 0]) w14)
theorem q123W (p0 p1 w R) (h : q123F p0 p1 w R) : CW.Spec Tryz.prog 188 #[.int .u64 p0, p1] w R :=
 sp Tryz.func188 h
def q120F (p0 : Value) (p1 : Value) (w : World) (R : KV) : Prop :=
 withAddr p0 fun a0 =>
 ∃ (o1 : Option Addr), ((World.cell? w a0) = (some (.pointer o1))) ∧
 withAddr p1 fun a2 =>
 ∃ n3, World.cell? w a2 = some (.int .i64 n3) ∧
 CW.Spec Tryz.prog 190 #[.pointer o1, .int .i64 n3, .slice none 0 0] w fun v4 w5 =>
 ∃ (n6 : Int), v4 = .int .i64 n6 ∧
 R (.int .i64 n6) w5
theorem q120W (p0 p1 w R) (h : q120F p0 p1 w R) : CW.Spec Tryz.prog 189 #[p0, p1] w R :=
 sp Tryz.func189 h
def q121F (p0 : Value) (p1 : Value) (p2 : Value) (w : World) (R : KV) : Prop :=
 withAddr p0 fun a0 =>
 ∃ (o1 : Option Addr), ((World.cell? w a0) = (some (.pointer o1))) ∧
 withAddr p1 fun a2 =>
 ∃ n3, World.cell? w a2 = some (.int .i64 n3) ∧
 withAddr p2 fun a4 =>
 ∃ v5, World.cell? w a4 = some v5 ∧
 CW.Spec Tryz.prog 190 #[.pointer o1, (.int .i64 (IntKind.wrap .i64 (n3 + 1))), v5] w fun v6 w7 =>
 ∃ (n8 : Int), v6 = .int .i64 n8 ∧
 R (.int .i64 n8) w7
theorem q121W (p0 p1 p2 w R) (h : q121F p0 p1 p2 w R) : CW.Spec Tryz.prog 191 #[p0, p1, p2] w R :=
 sp Tryz.func191 h
def q126F (p0 : Value) (w : World) (R : KV) : Prop :=
 ∃ m0, sliceLen p0 = some m0 ∧
 cond (((m0 : Nat) : Int) != 512)
 (R (.tuple #[.int .u64 0, .slice none 0 0, .int .i64 3]) w)
 (CW.Spec Tryz.prog 29 #[p0] w fun v1 w2 =>
 ∃ (v3 : Value) (n4 : Int), v1 = .tuple #[v3, .int .i64 n4] ∧
 cond (n4 != 0)
 (R (.tuple #[.int .u64 0, .slice none 0 0, .int .i64 n4]) w2)
 (CW.Spec Tryz.prog 148 #[v3, .int .i64 4, .int .i64 8] w2 fun v5 w6 =>
 ∃ (n7 : Int) (b8 : Bool), v5 = .tuple #[.int .u64 n7, .bool b8] ∧
 CW.Spec Tryz.prog 148 #[v3, .int .i64 12, .int .i64 2] w6 fun v9 w10 =>
 ∃ (n11 : Int) (b12 : Bool), v9 = .tuple #[.int .u64 n11, .bool b12] ∧
 cond (decide (n11 > 488))
 (R (.tuple #[.int .u64 0, .slice none 0 0, .int .i64 2]) w10)
 (∃ (v13 : Value), ((subSlice v3 1 (some (.int .i64 14)) (some (.int .i64 (IntKind.wrap .i64 ((14 : Int) + (IntKind.wrap .i64 n11))))) none) = (some v13)) ∧
 CW.Spec Tryz.prog 85 #[v13] w10 fun v14 w15 =>
 CW.Spec Tryz.prog 96 #[v14] w15 fun v16 w17 =>
 CW.Spec Tryz.prog 188 #[.int .u64 n7, v16] w17 fun v18 w19 =>
 ∃ (v20 : Value) (n21 : Int), v18 = .tuple #[v20, .int .i64 n21] ∧
 CW.Spec Tryz.prog 134 #[v20, p0] w19 fun v22 w23 =>
 ∃ (b24 : Bool), v22 = .bool b24 ∧
 cond (!b24)
 (R (.tuple #[.int .u64 0, .slice none 0 0, .int .i64 2]) w23)
 (R (.tuple #[.int .u64 n7, v16, .int .i64 0]) w23))))
theorem q126W (p0 w R) (h : q126F p0 w R) : CW.Spec Tryz.prog 194 #[p0] w R :=
 sp Tryz.func194 h
end
section
open Go Go.CW
def q30F (p0 : Int) (w : World) (R : KV) : Prop :=
 JoinP [.bool]
 (fun (b0 : Bool) => fun (w1 : World) =>
 cond b0
 (R (.tuple #[.pointer none, .int .i64 1]) w1)
 (∃ (v2 : Value) (w3 : World), ((Sem.run Tryz.prog (Instr.makeMap 199 none) w1) = (.ok v2 w3)) ∧
 oneK v2 (bindW (World.alloc w3 (.cells #[.int .i64 p0, v2, .bool false, .bool false, .int .i64 0, .slice none 0 0, .int .i64 0] 201)) fun w4 =>
 R (.tuple #[(.pointer (some ⟨w3.heap.size, 0, none⟩)), .int .i64 0]) w4)))
 (fun j5 =>
 cond (decide (p0 < 1))
 (j5 true w)
 (j5 (decide (p0 > 4096)) w))
theorem q30W (p0 w R) (h : q30F p0 w R) : CW.Spec Tryz.prog 36 #[.int .i64 p0] w R :=
 sp Tryz.func36 h
def q26F (p0 : Option Addr) (p1 : Int) (p2 : Value) (w : World) (R : KV) : Prop :=
 CW.Spec Tryz.prog 253 #[.pointer p0] w fun v0 w1 =>
 ∃ (n2 : Int), v0 = .int .i64 n2 ∧
 cond (n2 != 0)
 (R (.int .i64 n2) w1)
 (JoinP [.bool]
 (fun (b3 : Bool) => fun (w4 : World) =>
 cond b3
 (R (.int .i64 1) w4)
 (CW.Spec Tryz.prog 255 #[.pointer p0] w4 fun v5 w6 =>
 ∃ (n7 : Int), v5 = .int .i64 n7 ∧
 cond (n7 != 0)
 (R (.int .i64 n7) w6)
 (JoinP []
 (fun (w8 : World) =>
 bindW (World.drew w8) fun w9 =>
 withAddr (.pointer p0) fun a10 =>
 ∃ v11, World.cell? w9 (Addr.add a10 1) = some v11 ∧
 ∃ (o12 : Option Addr), ((Sem.run Tryz.prog (Instr.lookup 199 v11 (.int .i64 p1) false) w9) = (.ok (.pointer o12) w9)) ∧
 withAddr (.pointer p0) fun a13 =>
 ∃ v14, World.cell? w9 (Addr.add a13 1) = some v14 ∧
 ∃ (o15 : Option Addr), ((Sem.run Tryz.prog (Instr.lookup 199 v14 (.int .i64 p1) false) w9) = (.ok (.pointer o15) w9)) ∧
 withAddr (.pointer o15) fun a16 =>
 ∃ v17, World.cell? w9 (Addr.add a16 1) = some v17 ∧
 bindW (World.drew w8) fun w18 =>
 CW.Spec Tryz.prog 85 #[p2] w18 fun v19 w20 =>
 (∃ v21, World.cell? w20 (Addr.add a10 1) = some v21 ∧
 (v21 : Value) = v11) ∧
 (∃ (o22 : Option Addr), ((Sem.run Tryz.prog (Instr.lookup 199 v11 (.int .i64 p1) false) w20) = (.ok (.pointer o22) w20)) ∧
 ((.pointer o22) : Value) = (.pointer o12)) ∧
 (∃ v23, World.cell? w20 (Addr.add a13 1) = some v23 ∧
 (v23 : Value) = v14) ∧
 (∃ (o24 : Option Addr), ((Sem.run Tryz.prog (Instr.lookup 199 v14 (.int .i64 p1) false) w20) = (.ok (.pointer o24) w20)) ∧
 ((.pointer o24) : Value) = (.pointer o15)) ∧
 (∃ v25, World.cell? w20 (Addr.add a16 1) = some v25 ∧
 (v25 : Value) = v17) ∧
 oneK v19 ((∃ (v26 : Value), ((World.cell? (World.alloc w20 (.cells #[v19] 34)) (Addr.add a10 1)) = (some v26)) ∧
 (v26 : Value) = v11) ∧
 (∃ (o27 : Option Addr), ((Sem.run Tryz.prog (Instr.lookup 199 v11 (.int .i64 p1) false) (World.alloc w20 (.cells #[v19] 34))) = (.ok (.pointer o27) (World.alloc w20 (.cells #[v19] 34)))) ∧
 ((.pointer o27) : Value) = (.pointer o12)) ∧
 (∃ (v28 : Value), ((World.cell? (World.alloc w20 (.cells #[v19] 34)) (Addr.add a13 1)) = (some v28)) ∧
 (v28 : Value) = v14) ∧
 (∃ (o29 : Option Addr), ((Sem.run Tryz.prog (Instr.lookup 199 v14 (.int .i64 p1) false) (World.alloc w20 (.cells #[v19] 34))) = (.ok (.pointer o29) (World.alloc w20 (.cells #[v19] 34)))) ∧
 ((.pointer o29) : Value) = (.pointer o15)) ∧
 (∃ (v30 : Value), ((World.cell? (World.alloc w20 (.cells #[v19] 34)) (Addr.add a16 1)) = (some v30)) ∧
 (v30 : Value) = v17) ∧
 bindW (World.alloc w20 (.cells #[v19] 34)) fun w31 =>
 bindW (World.alloc w20 (.cells #[v19] 34)) fun w32 =>
 ∃ (v33 : Value) (w34 : World), ((Sem.run Tryz.prog (Builtin.append_ #[143, 143] 143 #[v17, (.slice (some ⟨w20.heap.size, 0, none⟩) 1 1)]) w32) = (.ok v33 w34)) ∧
 (∃ v35, World.cell? w34 (Addr.add a10 1) = some v35 ∧
 (v35 : Value) = v11) ∧
 (∃ (o36 : Option Addr), ((Sem.run Tryz.prog (Instr.lookup 199 v11 (.int .i64 p1) false) w34) = (.ok (.pointer o36) w34)) ∧
 ((.pointer o36) : Value) = (.pointer o12)) ∧
 withAddr (.pointer o12) fun a37 =>
 oneK v33 ((St1 w34 (Addr.add a37 1)) ∧
 bindW (World.setCell w34 (Addr.add a37 1) v33) fun w38 =>
 bindW (World.setCell w34 (Addr.add a37 1) v33) fun w39 =>
 R (.int .i64 0) w39)))
 (fun j40 =>
 withAddr (.pointer p0) fun a41 =>
 ∃ v42, World.cell? w6 (Addr.add a41 1) = some v42 ∧
 ∃ (o43 : Option Addr), ((Sem.run Tryz.prog (Instr.lookup 199 v42 (.int .i64 p1) false) w6) = (.ok (.pointer o43) w6)) ∧
 ∃ (b44 : Bool), ((Go.CW.isNilP (.pointer o43)) = (some b44)) ∧
 cond b44
 (withAddr (.pointer p0) fun a45 =>
 ∃ v46, World.cell? w6 (Addr.add a45 1) = some v46 ∧
 bindW (World.alloc w6 (.cells #[.slice none 0 0, .slice none 0 0] 234)) fun w47 =>
 ∃ (w48 : World), ((Sem.run Tryz.prog (Instr.mapUpdate 199 v46 (.int .i64 p1) (.pointer (some ⟨w6.heap.size, 0, none⟩))) w47) = (.ok PUnit.unit w48)) ∧
 j40 w48)
 (j40 w6)))))
 (fun j49 =>
 CW.Spec Tryz.prog 254 #[.pointer p0, .int .i64 p1] w1 fun v50 w51 =>
 ∃ (b52 : Bool), v50 = .bool b52 ∧
 cond (!b52)
 (j49 true w51)
 (∃ m53, sliceLen p2 = some m53 ∧
 j49 (decide (((m53 : Nat) : Int) > 512)) w51)))
theorem q26W (p0 p1 p2 w R) (h : q26F p0 p1 p2 w R) : CW.Spec Tryz.prog 190 #[.pointer p0, .int .i64 p1, p2] w R :=
 sp Tryz.func190 h
def q22F (p0 : Option Addr) (w : World) (R : KV) : Prop :=
 CW.Spec Tryz.prog 253 #[.pointer p0] w fun v0 w1 =>
 ∃ (n2 : Int), v0 = .int .i64 n2 ∧
 cond (n2 != 0)
 (R (.int .i64 n2) w1)
 (CW.Spec Tryz.prog 255 #[.pointer p0] w1 fun v3 w4 =>
 ∃ (n5 : Int), v3 = .int .i64 n5 ∧
 cond (n5 != 0)
 (R (.int .i64 n5) w4)
 (withAddr (.pointer p0) fun a6 =>
 ∃ v7, World.cell? w4 (Addr.add a6 1) = some v7 ∧
 ∃ (v8 : Value) (w9 : World), ((Sem.run Tryz.prog (Instr.range 199 v7) w4) = (.ok v8 w9)) ∧
 LoopP []
 (fun j10 => fun (w11 : World) =>
 ((∃ (w12 : World), ((Sem.run Tryz.prog (Instr.next v8 false 0) w11) = (.ok (.tuple #[.bool false]) w12)) ∧
 R (.int .i64 0) w12) ∨
 (∃ (v13 : Value) (v14 : Value) (w15 : World), ((Sem.run Tryz.prog (Instr.next v8 false 0) w11) = (.ok (.tuple #[.bool true, v13, v14]) w15)) ∧
 ((∃ (n16 : Int) (o17 : Option Addr), ((Sem.run Tryz.prog (Instr.entry v8) w15) = (.ok (.tuple #[.int .i64 n16, .pointer o17]) w15)) ∧
 CW.Spec Tryz.prog 256 #[.pointer o17] w15 fun v18 w19 =>
 withAddr (.pointer o17) fun a20 =>
 oneK v18 ((St1 w19 (Addr.add a20 0)) ∧
 bindW (World.setCell w19 (Addr.add a20 0) v18) fun w21 =>
 withAddr (.pointer o17) fun a22 =>
 (St1 w21 (Addr.add a22 1)) ∧
 bindW (World.setCell w21 (Addr.add a22 1) (.slice none 0 0)) fun w23 =>
 j10 w23)) ∨
 (((∃ (n24 : Int) (n25 : Int) (n26 : Int) (n27 : Int) (v28 : Value) (n29 : Int), ((Sem.run Tryz.prog (Instr.entry v8) w15) = (.ok (.tuple #[.int .u64 n24, (.agg #[.int .i64 n25, .int .i64 n26, .int .i64 n27, v28, .int .i64 n29])]) w15)) ∧
 CW.Spec Tryz.prog 256 #[(.agg #[.int .i64 n25, .int .i64 n26, .int .i64 n27, v28, .int .i64 n29])] w15 fun v30 w31 =>
 False) ∨
 (False)))))))
 (fun s32 => s32 w9)))
theorem q22W (p0 w R) (h : q22F p0 w R) : CW.Spec Tryz.prog 192 #[.pointer p0] w R :=
 sp Tryz.func192 h
def q24F (p0 : Option Addr) (p1 : Int) (w : World) (R : KV) : Prop :=
 CW.Spec Tryz.prog 253 #[.pointer p0] w fun v0 w1 =>
 ∃ (n2 : Int), v0 = .int .i64 n2 ∧
 cond (n2 != 0)
 (R (.tuple #[.slice none 0 0, .int .i64 n2]) w1)
 (CW.Spec Tryz.prog 254 #[.pointer p0, .int .i64 p1] w1 fun v3 w4 =>
 ∃ (b5 : Bool), v3 = .bool b5 ∧
 cond (!b5)
 (R (.tuple #[.slice none 0 0, .int .i64 1]) w4)
 (∃ (v6 : Value) (w7 : World), ((Sem.run Tryz.prog (Instr.makeSlice 34 (.int .i64 512) (.int .i64 512)) w4) = (.ok v6 w7)) ∧
 JoinP []
 (fun (w8 : World) =>
 R (.tuple #[v6, .int .i64 0]) w8)
 (fun j9 =>
 withAddr (.pointer p0) fun a10 =>
 ∃ v11, World.cell? w7 (Addr.add a10 1) = some v11 ∧
 ∃ (o12 : Option Addr), ((Sem.run Tryz.prog (Instr.lookup 199 v11 (.int .i64 p1) false) w7) = (.ok (.pointer o12) w7)) ∧
 ∃ (b13 : Bool), ((Go.CW.isNilP (.pointer o12)) = (some b13)) ∧
 cond (!b13)
 (CW.Spec Tryz.prog 256 #[.pointer o12] w7 fun v14 w15 =>
 ∃ (n16 : Int) (w17 : World), ((Sem.run Tryz.prog (Builtin.copy_ #[34, 34] 3 #[v6, v14]) w15) = (.ok (.int .i64 n16) w17)) ∧
 j9 w17)
 (j9 w7))))
theorem q24W (p0 p1 w R) (h : q24F p0 p1 w R) : CW.Spec Tryz.prog 193 #[.pointer p0, .int .i64 p1] w R :=
 sp Tryz.func193 h
def q21F (p0 : Option Addr) (p1 : Value) (w : World) (R : KV) : Prop :=
 withAddr (.pointer p0) fun a0 =>
 ∃ (b1 : Bool), ((World.cell? w (Addr.add a0 2)) = (some (.bool b1))) ∧
 cond b1
 (R (.tuple #[]) w)
 (withAddr (.pointer p0) fun a2 =>
 (St1 w (Addr.add a2 2)) ∧
 bindW (World.setCell w (Addr.add a2 2) (.bool true)) fun w3 =>
 withAddr (.pointer p0) fun a4 =>
 (St1 w3 (Addr.add a4 4)) ∧
 bindW (World.setCell w3 (Addr.add a4 4) (.int .i64 0)) fun w5 =>
 withAddr (.pointer p0) fun a6 =>
 ∃ (b7 : Bool), ((World.cell? w5 (Addr.add a6 3)) = (some (.bool b7))) ∧
 cond b7
 (R (.tuple #[]) w5)
 (withAddr (.pointer p0) fun a8 =>
 ∃ v9, World.cell? w5 (Addr.add a8 1) = some v9 ∧
 CW.Spec Tryz.prog 123 #[v9] w5 fun v10 w11 =>
 CW.Spec Tryz.prog 122 #[v10] w11 fun v12 w13 =>
 ∃ m14, sliceLen v12 = some m14 ∧
 LoopP [.int .i64, .int .i64]
 (fun j15 => fun (n16 : Int) => fun (n17 : Int) => fun (w18 : World) =>
 cond (decide (n17 < ((m14 : Nat) : Int)))
 (JoinP [.int .i64]
 (fun (n19 : Int) => fun (w20 : World) =>
 j15 n19 (IntKind.wrap .i64 (n17 + 1)) w20)
 (fun j21 =>
 ∃ a22, sliceAt v12 n17 1 = some a22 ∧
 ∃ n23, World.cell? w18 a22 = some (.int .i64 n23) ∧
 withAddr (.pointer p0) fun a24 =>
 ∃ v25, World.cell? w18 (Addr.add a24 1) = some v25 ∧
 ∃ (o26 : Option Addr), ((Sem.run Tryz.prog (Instr.lookup 199 v25 (.int .i64 n23) false) w18) = (.ok (.pointer o26) w18)) ∧
 withAddr (.pointer o26) fun a27 =>
 ∃ v28, World.cell? w18 (Addr.add a27 1) = some v28 ∧
 ∃ m29, sliceLen v28 = some m29 ∧
 cond (((m29 : Nat) : Int) == 0)
 (j21 n16 w18)
 (JoinP [.int .i64]
 (fun (n30 : Int) => fun (w31 : World) =>
 JoinP []
 (fun (w32 : World) =>
 withAddr (.pointer o26) fun a33 =>
 (St1 w32 (Addr.add a33 1)) ∧
 bindW (World.setCell w32 (Addr.add a33 1) (.slice none 0 0)) fun w34 =>
 j21 (IntKind.wrap .i64 (n16 + 1)) w34)
 (fun j35 =>
 cond (decide (n30 > 0))
 (withAddr (.pointer o26) fun a36 =>
 ∃ v37, World.cell? w31 (Addr.add a36 1) = some v37 ∧
 ∃ a38, sliceAt v37 (IntKind.wrap .i64 (n30 - 1)) 1 = some a38 ∧
 ∃ v39, World.cell? w31 a38 = some v39 ∧
 withAddr (.pointer o26) fun a40 =>
 oneK v39 ((St1 w31 (Addr.add a40 0)) ∧
 bindW (World.setCell w31 (Addr.add a40 0) v39) fun w41 =>
 j35 w41))
 (j35 w31)))
 (fun j42 =>
 ∃ m43, sliceLen p1 = some m43 ∧
 cond (decide (n16 < ((m43 : Nat) : Int)))
 (∃ a44, sliceAt p1 n16 1 = some a44 ∧
 ∃ n45, World.cell? w18 a44 = some (.int .i64 n45) ∧
 nzK (IntKind.wrap .i64 (((m29 : Nat) : Int) + 1)) (cond (decide ((Int.tmod n45 (IntKind.wrap .i64 (((m29 : Nat) : Int) + 1))) < 0))
 (j42 (IntKind.wrap .i64 ((Int.tmod n45 (IntKind.wrap .i64 (((m29 : Nat) : Int) + 1))) + (IntKind.wrap .i64 (((m29 : Nat) : Int) + 1)))) w18)
 (j42 (Int.tmod n45 (IntKind.wrap .i64 (((m29 : Nat) : Int) + 1))) w18)))
 (j42 (0 : Int) w18)))))
 (R (.tuple #[]) w18))
 (fun s46 => s46 (0 : Int) (0 : Int) w13)))
theorem q21W (p0 p1 w R) (h : q21F p0 p1 w R) : CW.Spec Tryz.prog 47 #[.pointer p0, p1] w R :=
 sp Tryz.func47 h
def q23F (p0 : Option Addr) (w : World) (R : KV) : Prop :=
 withAddr (.pointer p0) fun a0 =>
 (St1 w (Addr.add a0 2)) ∧
 bindW (World.setCell w (Addr.add a0 2) (.bool false)) fun w1 =>
 withAddr (.pointer p0) fun a2 =>
 (St1 w1 (Addr.add a2 4)) ∧
 bindW (World.setCell w1 (Addr.add a2 4) (.int .i64 0)) fun w3 =>
 R (.tuple #[]) w3
theorem q23W (p0 w R) (h : q23F p0 w R) : CW.Spec Tryz.prog 41 #[.pointer p0] w R :=
 sp Tryz.func41 h
def q25F (p0 : Option Addr) (w : World) (R : KV) : Prop :=
 withAddr (.pointer p0) fun a0 =>
 ∃ n1, World.cell? w (Addr.add a0 0) = some (.int .i64 n1) ∧
 R (.int .i64 n1) w
theorem q25W (p0 w R) (h : q25F p0 w R) : CW.Spec Tryz.prog 111 #[.pointer p0] w R :=
 sp Tryz.func111 h
def q29F (p0 : Option Addr) (w : World) (R : KV) : Prop :=
 withAddr (.pointer p0) fun a0 =>
 ∃ (b1 : Bool), ((World.cell? w (Addr.add a0 3)) = (some (.bool b1))) ∧
 cond b1
 (R (.int .i64 9) w)
 (withAddr (.pointer p0) fun a2 =>
 ∃ (b3 : Bool), ((World.cell? w (Addr.add a2 2)) = (some (.bool b3))) ∧
 cond b3
 (R (.int .i64 8) w)
 (R (.int .i64 0) w))
theorem q29W (p0 w R) (h : q29F p0 w R) : CW.Spec Tryz.prog 253 #[.pointer p0] w R :=
 sp Tryz.func253 h
def q28F (p0 : Option Addr) (p1 : Int) (w : World) (R : KV) : Prop :=
 JoinP [.bool]
 (fun (b0 : Bool) => fun (w1 : World) =>
 R (.bool b0) w1)
 (fun j2 =>
 cond (decide (p1 ≥ 0))
 (withAddr (.pointer p0) fun a3 =>
 ∃ n4, World.cell? w (Addr.add a3 0) = some (.int .i64 n4) ∧
 j2 (decide (p1 < n4)) w)
 (j2 false w))
theorem q28W (p0 p1 w R) (h : q28F p0 p1 w R) : CW.Spec Tryz.prog 254 #[.pointer p0, .int .i64 p1] w R :=
 sp Tryz.func254 h
def q27F (p0 : Option Addr) (w : World) (R : KV) : Prop :=
 JoinP []
 (fun (w0 : World) =>
 withAddr (.pointer p0) fun a1 =>
 ∃ n2, World.cell? w0 (Addr.add a1 6) = some (.int .i64 n2) ∧
 withAddr (.pointer p0) fun a3 =>
 (St1 w0 (Addr.add a3 6)) ∧
 bindW (World.setCell w0 (Addr.add a3 6) (.int .i64 (IntKind.wrap .i64 (n2 + 1)))) fun w4 =>
 R (.int .i64 0) w4)
 (fun j5 =>
 withAddr (.pointer p0) fun a6 =>
 ∃ n7, World.cell? w (Addr.add a6 4) = some (.int .i64 n7) ∧
 cond (decide (n7 > 0))
 (withAddr (.pointer p0) fun a8 =>
 ∃ n9, World.cell? w (Addr.add a8 4) = some (.int .i64 n9) ∧
 withAddr (.pointer p0) fun a10 =>
 (St1 w (Addr.add a10 4)) ∧
 bindW (World.setCell w (Addr.add a10 4) (.int .i64 (IntKind.wrap .i64 (n9 - 1)))) fun w11 =>
 withAddr (.pointer p0) fun a12 =>
 ∃ n13, World.cell? w11 (Addr.add a12 4) = some (.int .i64 n13) ∧
 cond (n13 == 0)
 (withAddr (.pointer p0) fun a14 =>
 ∃ v15, World.cell? w11 (Addr.add a14 5) = some v15 ∧
 CW.Spec Tryz.prog 47 #[.pointer p0, v15] w11 fun v16 w17 =>
 v16 = .tuple #[] ∧
 R (.int .i64 8) w17)
 (j5 w11))
 (j5 w))
theorem q27W (p0 w R) (h : q27F p0 w R) : CW.Spec Tryz.prog 255 #[.pointer p0] w R :=
 sp Tryz.func255 h
def q31F (p0 : Option Addr) (w : World) (R : KV) : Prop :=
 withAddr (.pointer p0) fun a0 =>
 ∃ v1, World.cell? w (Addr.add a0 1) = some v1 ∧
 ∃ m2, sliceLen v1 = some m2 ∧
 cond (decide (((m2 : Nat) : Int) > 0))
 (withAddr (.pointer p0) fun a3 =>
 ∃ v4, World.cell? w (Addr.add a3 1) = some v4 ∧
 ∃ a5, sliceAt v4 (IntKind.wrap .i64 (((m2 : Nat) : Int) - 1)) 1 = some a5 ∧
 ∃ v6, World.cell? w a5 = some v6 ∧
 R v6 w)
 (withAddr (.pointer p0) fun a7 =>
 ∃ v8, World.cell? w (Addr.add a7 0) = some v8 ∧
 R v8 w)
theorem q31W (p0 w R) (h : q31F p0 w R) : CW.Spec Tryz.prog 256 #[.pointer p0] w R :=
 sp Tryz.func256 h
end
section
open Go Go.CW
def q74F (p0 : Option Addr) (p1 : Int) (p2 : Int) (p3 : Int) (p4 : Int) (p5 : Int) (w : World) (R : KV) : Prop :=
 JoinP [.bool]
 (fun (b0 : Bool) => fun (w1 : World) =>
 cond b0
 (R (.tuple #[.pointer none, .slice none 0 0, .int .i64 1]) w1)
 (bindW (World.alloc w1 (.cells #[.pointer p0, .int .i64 p1, .int .i64 p2, .int .u64 p3, .int .i64 p4, .int .i64 0, .int .u32 p5, .slice none 0 0] 320)) fun w2 =>
 CW.Spec Tryz.prog 193 #[.pointer p0, .int .i64 p1] w2 fun v3 w4 =>
 ∃ (v5 : Value) (n6 : Int), v3 = .tuple #[v5, .int .i64 n6] ∧
 cond (n6 != 0)
 (R (.tuple #[.pointer none, .slice none 0 0, .int .i64 n6]) w4)
 (LoopP [.val, .int .u32]
 (fun j7 => fun (v8 : Value) => fun (n9 : Int) => fun (w10 : World) =>
 CW.Spec Tryz.prog 257 #[(.pointer (some ⟨w1.heap.size, 0, none⟩)), .int .u32 n9] w10 fun v11 w12 =>
 ∃ (v13 : Value) (n14 : Int) (b15 : Bool) (n16 : Int), v11 = .tuple #[v13, .int .u32 n14, .bool b15, .int .i64 n16] ∧
 cond (n16 != 0)
 (R (.tuple #[.pointer none, .slice none 0 0, .int .i64 n16]) w12)
 (cond (!b15)
 (CW.Spec Tryz.prog 147 #[v8] w12 fun v17 w18 =>
 R (.tuple #[(.pointer (some ⟨w1.heap.size, 0, none⟩)), v17, .int .i64 0]) w18)
 (CW.Spec Tryz.prog 201 #[(.pointer (some ⟨w1.heap.size, 0, none⟩)), v13] w12 fun v19 w20 =>
 v19 = .tuple #[] ∧
 CW.Spec Tryz.prog 85 #[v13] w20 fun v21 w22 =>
 CW.Spec Tryz.prog 96 #[v21] w22 fun v23 w24 =>
 oneK v23 (bindW (World.alloc w24 (.cells #[v23] 34)) fun w25 =>
 ∃ (v26 : Value) (w27 : World), ((Sem.run Tryz.prog (Builtin.append_ #[143, 143] 143 #[v8, (.slice (some ⟨w24.heap.size, 0, none⟩) 1 1)]) w25) = (.ok v26 w27)) ∧
 j7 v26 n14 w27))))
 (fun s28 => s28 (.slice none 0 0) (0 : Int) w4))))
 (fun j29 =>
 cond (decide (p2 < 2))
 (j29 true w)
 (cond (decide (p1 < 0))
 (j29 true w)
 (CW.Spec Tryz.prog 111 #[.pointer p0] w fun v30 w31 =>
 ∃ (n32 : Int), v30 = .int .i64 n32 ∧
 cond (decide (p1 > n32))
 (j29 true w31)
 (CW.Spec Tryz.prog 111 #[.pointer p0] w31 fun v33 w34 =>
 ∃ (n35 : Int), v33 = .int .i64 n35 ∧
 cond (decide (p2 > (IntKind.wrap .i64 (n35 - p1))))
 (j29 true w34)
 (cond (decide (p4 < 0))
 (j29 true w34)
 (cond (decide (p4 ≥ p2))
 (j29 true w34)
 (j29 (decide (p3 > 4611686018427387904)) w34)))))))
theorem q74W (p0 p1 p2 p3 p4 p5 w R) (h : q74F p0 p1 p2 p3 p4 p5 w R) : CW.Spec Tryz.prog 196 #[.pointer p0, .int .i64 p1, .int .i64 p2, .int .u64 p3, .int .i64 p4, .int .u32 p5] w R :=
 sp Tryz.func196 h
def q73F (p0 : Int) (w : World) (R : KV) : Prop :=
 JoinP [.int .i64]
 (fun (n0 : Int) => fun (w1 : World) =>
 R (.int .i64 (if n0 < 1 then (1 : Int) else n0)) w1)
 (fun j2 =>
 cond (decide (p0 > (IntKind.wrap .i64 ((IntKind.wrap .i64 (Int.tdiv (if p0 < 0 then (0 : Int) else p0) (480 : Int))) * 480))))
 (j2 (IntKind.wrap .i64 ((IntKind.wrap .i64 (Int.tdiv (if p0 < 0 then (0 : Int) else p0) (480 : Int))) + 1)) w)
 (j2 (IntKind.wrap .i64 (Int.tdiv (if p0 < 0 then (0 : Int) else p0) (480 : Int))) w))
theorem q73W (p0 w R) (h : q73F p0 w R) : CW.Spec Tryz.prog 197 #[.int .i64 p0] w R :=
 sp Tryz.func197 h
def q76F (p0 : Option Addr) (w : World) (R : KV) : Prop :=
 bindW (World.drew w) fun w0 =>
 withAddr (.pointer p0) fun a1 =>
 ∃ n2, World.cell? w0 (Addr.add a1 3) = some (.int .u64 n2) ∧
 withAddr (.pointer p0) fun a3 =>
 ∃ v4, World.cell? w0 (Addr.add a3 7) = some v4 ∧
 ∃ m5, sliceLen v4 = some m5 ∧
 bindW (World.drew w) fun w6 =>
 R (.int .u64 (IntKind.wrap .u64 (n2 + (IntKind.wrap .u64 ((m5 : Nat) : Int))))) w6
theorem q76W (p0 w R) (h : q76F p0 w R) : CW.Spec Tryz.prog 199 #[.pointer p0] w R :=
 sp Tryz.func199 h
def q75F (p0 : Int) (p1 : Int) (p2 : Int) (p3 : Int) (p4 : Value) (w : World) (R : KV) : Prop :=
 JoinP [.bool]
 (fun (b0 : Bool) => fun (w1 : World) =>
 cond b0
 (R (.tuple #[.slice none 0 0, .int .i64 1]) w1)
 (∃ m2, sliceLen p4 = some m2 ∧
 cond (decide (((m2 : Nat) : Int) > 480))
 (R (.tuple #[.slice none 0 0, .int .i64 5]) w1)
 (bindW (World.alloc w1 (.cells #[.int .u8 82, .int .u8 73, .int .u8 78, .int .u8 71] 5)) fun w3 =>
 ∃ (v4 : Value) (w5 : World), ((Sem.run Tryz.prog (Go.convert 34 34 (.slice (some ⟨w1.heap.size, 0, none⟩) 4 4)) w3) = (.ok v4 w5)) ∧
 CW.Spec Tryz.prog 120 #[v4, .int .u64 p0, .int .i64 8] w5 fun v6 w7 =>
 CW.Spec Tryz.prog 120 #[v6, (.int .u64 (IntKind.wrap .u64 p1)), .int .i64 4] w7 fun v8 w9 =>
 ∃ m10, sliceLen p4 = some m10 ∧
 bindW (World.alloc w9 (.cells #[.int .i64 p2, .int .i64 p3, (.int .i64 (m10 : Nat))] 3)) fun w11 =>
 ∃ (m12 : Nat), ((sliceLen (.slice (some ⟨w9.heap.size, 0, none⟩) 3 3)) = (some m12)) ∧
 LoopP [.val, .int .i64]
 (fun j13 => fun (v14 : Value) => fun (n15 : Int) => fun (w16 : World) =>
 cond (decide (n15 < ((m12 : Nat) : Int)))
 (∃ a17, sliceAt (.slice (some ⟨w9.heap.size, 0, none⟩) 3 3) n15 1 = some a17 ∧
 ∃ n18, World.cell? w16 a17 = some (.int .i64 n18) ∧
 CW.Spec Tryz.prog 120 #[v14, (.int .u64 (IntKind.wrap .u64 n18)), .int .i64 2] w16 fun v19 w20 =>
 j13 v19 (IntKind.wrap .i64 (n15 + 1)) w20)
 (∃ (v21 : Value) (w22 : World), ((Sem.run Tryz.prog (Builtin.append_ #[34, 34] 34 #[v14, p4]) w16) = (.ok v21 w22)) ∧
 CW.Spec Tryz.prog 252 #[v21, .int .i64 508] w22 fun v23 w24 =>
 CW.Spec Tryz.prog 218 #[v23] w24 fun v25 w26 =>
 R (.tuple #[v25, .int .i64 0]) w26))
 (fun s27 => s27 v8 (0 : Int) w11))))
 (fun j28 =>
 cond (decide (p2 < 0))
 (j28 true w)
 (cond (decide (p2 ≥ p3))
 (j28 true w)
 (j28 (decide (p3 > 65535)) w)))
theorem q75W (p0 p1 p2 p3 p4 w R) (h : q75F p0 p1 p2 p3 p4 w R) : CW.Spec Tryz.prog 200 #[.int .u64 p0, .int .u32 p1, .int .i64 p2, .int .i64 p3, p4] w R :=
 sp Tryz.func200 h
def q77F (p0 : Option Addr) (p1 : Value) (w : World) (R : KV) : Prop :=
 bindW (World.drew w) fun w0 =>
 withAddr (.pointer p0) fun a1 =>
 ∃ v2, World.cell? w0 (Addr.add a1 7) = some v2 ∧
 withAddr (.pointer p0) fun a3 =>
 ∃ n4, World.cell? w0 (Addr.add a3 4) = some (.int .i64 n4) ∧
 bindW (World.drew w) fun w5 =>
 CW.Spec Tryz.prog 85 #[p1] w5 fun v6 w7 =>
 (∃ v8, World.cell? w7 (Addr.add a1 7) = some v8 ∧
 (v8 : Value) = v2) ∧
 (∃ n9, World.cell? w7 (Addr.add a3 4) = some (.int .i64 n9) ∧
 ((.int .i64 n9) : Value) = (.int .i64 n4)) ∧
 oneK v6 ((∃ (v10 : Value), ((World.cell? (World.alloc w7 (.cells #[.int .i64 n4, v6] 375)) (Addr.add a1 7)) = (some v10)) ∧
 (v10 : Value) = v2) ∧
 bindW (World.alloc w7 (.cells #[.int .i64 n4, v6] 375)) fun w11 =>
 bindW (World.alloc w7 (.cells #[.int .i64 n4, v6] 375)) fun w12 =>
 ∃ (v13 : Value) (w14 : World), ((Sem.run Tryz.prog (Builtin.append_ #[318, 318] 318 #[v2, (.slice (some ⟨w7.heap.size, 0, none⟩) 1 1)]) w12) = (.ok v13 w14)) ∧
 withAddr (.pointer p0) fun a15 =>
 oneK v13 ((St1 w14 (Addr.add a15 7)) ∧
 bindW (World.setCell w14 (Addr.add a15 7) v13) fun w16 =>
 bindW (World.setCell w14 (Addr.add a15 7) v13) fun w17 =>
 bindW (World.drew w17) fun w18 =>
 withAddr (.pointer p0) fun a19 =>
 ∃ n20, World.cell? w18 (Addr.add a19 5) = some (.int .i64 n20) ∧
 ∃ m21, sliceLen p1 = some m21 ∧
 bindW (World.drew w17) fun w22 =>
 CW.Spec Tryz.prog 197 #[(.int .i64 (m21 : Nat))] w22 fun v23 w24 =>
 ∃ (n25 : Int), v23 = .int .i64 n25 ∧
 (∃ n26, World.cell? w24 (Addr.add a19 5) = some (.int .i64 n26) ∧
 ((.int .i64 n26) : Value) = (.int .i64 n20)) ∧
 withAddr (.pointer p0) fun a27 =>
 (St1 w24 (Addr.add a27 5)) ∧
 bindW (World.setCell w24 (Addr.add a27 5) (.int .i64 (IntKind.wrap .i64 (n20 + n25)))) fun w28 =>
 bindW (World.setCell w24 (Addr.add a27 5) (.int .i64 (IntKind.wrap .i64 (n20 + n25)))) fun w29 =>
 bindW (World.drew w29) fun w30 =>
 withAddr (.pointer p0) fun a31 =>
 ∃ n32, World.cell? w30 (Addr.add a31 4) = some (.int .i64 n32) ∧
 ∃ m33, sliceLen p1 = some m33 ∧
 withAddr (.pointer p0) fun a34 =>
 ∃ n35, World.cell? w30 (Addr.add a34 2) = some (.int .i64 n35) ∧
 bindW (World.drew w29) fun w36 =>
 CW.Spec Tryz.prog 197 #[(.int .i64 (m33 : Nat))] w36 fun v37 w38 =>
 ∃ (n39 : Int), v37 = .int .i64 n39 ∧
 (∃ n40, World.cell? w38 (Addr.add a31 4) = some (.int .i64 n40) ∧
 ((.int .i64 n40) : Value) = (.int .i64 n32)) ∧
 (∃ n41, World.cell? w38 (Addr.add a34 2) = some (.int .i64 n41) ∧
 ((.int .i64 n41) : Value) = (.int .i64 n35)) ∧
 nzK n35 (withAddr (.pointer p0) fun a42 =>
 (St1 w38 (Addr.add a42 4)) ∧
 bindW (World.setCell w38 (Addr.add a42 4) (.int .i64 (Int.tmod (IntKind.wrap .i64 (n32 + n39)) n35))) fun w43 =>
 bindW (World.setCell w38 (Addr.add a42 4) (.int .i64 (Int.tmod (IntKind.wrap .i64 (n32 + n39)) n35))) fun w44 =>
 R (.tuple #[]) w44)))
theorem q77W (p0 p1 w R) (h : q77F p0 p1 w R) : CW.Spec Tryz.prog 201 #[.pointer p0, p1] w R :=
 sp Tryz.func201 h
def q78F (p0 : Option Addr) (p1 : Int) (w : World) (R : KV) : Prop :=
 JoinP [.val, .int .u32, .bool]
 (fun (v0 : Value) => fun (n1 : Int) => fun (b2 : Bool) => fun (w3 : World) =>
 R (.tuple #[v0, .int .u32 n1, .bool b2, .int .i64 0]) w3)
 (fun j4 =>
 LoopP [.val, .int .u32, .bool, .int .i64, .int .i64]
 (fun j5 => fun (v6 : Value) => fun (n7 : Int) => fun (b8 : Bool) => fun (n9 : Int) => fun (n10 : Int) => fun (w11 : World) =>
 cond (decide (n10 < n9))
 (bindW (World.drew w11) fun w12 =>
 withAddr (.pointer p0) fun a13 =>
 ∃ n14, World.cell? w12 (Addr.add a13 5) = some (.int .i64 n14) ∧
 withAddr (.pointer p0) fun a15 =>
 ∃ n16, World.cell? w12 (Addr.add a15 2) = some (.int .i64 n16) ∧
 bindW (World.drew w11) fun w17 =>
 cond (decide ((IntKind.wrap .i64 (n14 + n10)) ≥ n16))
 (R (.tuple #[.slice none 0 0, .int .u32 0, .bool false, .int .i64 0]) w17)
 (bindW (World.drew w17) fun w18 =>
 withAddr (.pointer p0) fun a19 =>
 ∃ (o20 : Option Addr), ((World.cell? w18 (Addr.add a19 0)) = (some (.pointer o20))) ∧
 withAddr (.pointer p0) fun a21 =>
 ∃ n22, World.cell? w18 (Addr.add a21 1) = some (.int .i64 n22) ∧
 withAddr (.pointer p0) fun a23 =>
 ∃ n24, World.cell? w18 (Addr.add a23 4) = some (.int .i64 n24) ∧
 withAddr (.pointer p0) fun a25 =>
 ∃ n26, World.cell? w18 (Addr.add a25 2) = some (.int .i64 n26) ∧
 nzK n26 (bindW (World.drew w17) fun w27 =>
 CW.Spec Tryz.prog 193 #[.pointer o20, (.int .i64 (IntKind.wrap .i64 (n22 + (Int.tmod (IntKind.wrap .i64 (n24 + n10)) n26))))] w27 fun v28 w29 =>
 ∃ (v30 : Value) (n31 : Int), v28 = .tuple #[v30, .int .i64 n31] ∧
 cond (n31 != 0)
 (R (.tuple #[.slice none 0 0, .int .u32 0, .bool false, .int .i64 n31]) w29)
 (CW.Spec Tryz.prog 295 #[v30] w29 fun v32 w33 =>
 ∃ (n34 : Int) (n35 : Int) (n36 : Int) (n37 : Int) (v38 : Value) (n39 : Int), v32 = .tuple #[.int .u64 n34, .int .u32 n35, .int .i64 n36, .int .i64 n37, v38, .int .i64 n39] ∧
 JoinP [.bool]
 (fun (b40 : Bool) => fun (w41 : World) =>
 cond b40
 (j4 v6 n7 b8 w41)
 (JoinP [.int .u32, .int .i64]
 (fun (n42 : Int) => fun (n43 : Int) => fun (w44 : World) =>
 JoinP [.bool]
 (fun (b45 : Bool) => fun (w46 : World) =>
 JoinP [.bool]
 (fun (b47 : Bool) => fun (w48 : World) =>
 cond b47
 (j4 v6 n42 b8 w48)
 (∃ (v49 : Value) (w50 : World), ((Sem.run Tryz.prog (Builtin.append_ #[34, 34] 34 #[v6, v38]) w48) = (.ok v49 w50)) ∧
 j5 v49 n42 (n10 == (IntKind.wrap .i64 (n43 - 1))) n43 (IntKind.wrap .i64 (n10 + 1)) w50))
 (fun j51 =>
 cond (n37 != n43)
 (j51 true w46)
 (cond (n35 != n42)
 (j51 true w46)
 (j51 (!b45) w46))))
 (fun j52 =>
 cond (decide (n36 < (IntKind.wrap .i64 (n37 - 1))))
 (∃ m53, sliceLen v38 = some m53 ∧
 cond (((m53 : Nat) : Int) == 480)
 (j52 true w44)
 (cond (n36 == (IntKind.wrap .i64 (n37 - 1)))
 (∃ m54, sliceLen v38 = some m54 ∧
 cond (decide (((m54 : Nat) : Int) > 0))
 (j52 true w44)
 (j52 (n37 == 1) w44))
 (j52 false w44)))
 (cond (n36 == (IntKind.wrap .i64 (n37 - 1)))
 (∃ m55, sliceLen v38 = some m55 ∧
 cond (decide (((m55 : Nat) : Int) > 0))
 (j52 true w44)
 (j52 (n37 == 1) w44))
 (j52 false w44))))
 (fun j56 =>
 cond (n10 == 0)
 (j56 n35 n37 w41)
 (j56 n7 n9 w41))))
 (fun j57 =>
 cond (n39 != 0)
 (j57 true w33)
 (CW.Spec Tryz.prog 199 #[.pointer p0] w33 fun v58 w59 =>
 ∃ (n60 : Int), v58 = .int .u64 n60 ∧
 cond (n34 != n60)
 (j57 true w59)
 (cond (n36 != n10)
 (j57 true w59)
 (cond (decide (n35 < p1))
 (j57 true w59)
 (withAddr (.pointer p0) fun a61 =>
 ∃ n62, World.cell? w59 (Addr.add a61 6) = some (.int .u32 n62) ∧
 j57 (decide (n35 > n62)) w59)))))))))
 (j4 v6 n7 b8 w11))
 (fun s63 => s63 (.slice none 0 0) (0 : Int) false (1 : Int) (0 : Int) w))
theorem q78W (p0 p1 w R) (h : q78F p0 p1 w R) : CW.Spec Tryz.prog 257 #[.pointer p0, .int .u32 p1] w R :=
 sp Tryz.func257 h
def q79F (p0 : Value) (w : World) (R : KV) : Prop :=
 ∃ m0, sliceLen p0 = some m0 ∧
 cond (((m0 : Nat) : Int) != 512)
 (R (.tuple #[.int .u64 0, .int .u32 0, .int .i64 0, .int .i64 0, .slice none 0 0, .int .i64 3]) w)
 (CW.Spec Tryz.prog 29 #[p0] w fun v1 w2 =>
 ∃ (v3 : Value) (n4 : Int), v1 = .tuple #[v3, .int .i64 n4] ∧
 bindW (World.alloc w2 (.cells #[.slice none 0 0] 34)) fun w5 =>
 oneK v3 ((St1 w5 ⟨w2.heap.size, 0, none⟩) ∧
 bindW (World.setCell w5 ⟨w2.heap.size, 0, none⟩ v3) fun w6 =>
 cond (n4 != 0)
 (R (.tuple #[.int .u64 0, .int .u32 0, .int .i64 0, .int .i64 0, .slice none 0 0, .int .i64 n4]) w6)
 (CW.Spec Tryz.prog 335 #[.int .i64 4, .int .i64 8, (.pointer (some ⟨w2.heap.size, 0, none⟩))] w6 fun v7 w8 =>
 ∃ (n9 : Int), v7 = .int .u64 n9 ∧
 CW.Spec Tryz.prog 335 #[.int .i64 12, .int .i64 4, (.pointer (some ⟨w2.heap.size, 0, none⟩))] w8 fun v10 w11 =>
 ∃ (n12 : Int), v10 = .int .u64 n12 ∧
 CW.Spec Tryz.prog 335 #[.int .i64 16, .int .i64 2, (.pointer (some ⟨w2.heap.size, 0, none⟩))] w11 fun v13 w14 =>
 ∃ (n15 : Int), v13 = .int .u64 n15 ∧
 CW.Spec Tryz.prog 335 #[.int .i64 18, .int .i64 2, (.pointer (some ⟨w2.heap.size, 0, none⟩))] w14 fun v16 w17 =>
 ∃ (n18 : Int), v16 = .int .u64 n18 ∧
 CW.Spec Tryz.prog 335 #[.int .i64 20, .int .i64 2, (.pointer (some ⟨w2.heap.size, 0, none⟩))] w17 fun v19 w20 =>
 ∃ (n21 : Int), v19 = .int .u64 n21 ∧
 cond (decide ((IntKind.wrap .i64 n21) > 480))
 (R (.tuple #[.int .u64 0, .int .u32 0, .int .i64 0, .int .i64 0, .slice none 0 0, .int .i64 2]) w20)
 (∃ (v22 : Value), ((World.cell? w20 ⟨w2.heap.size, 0, none⟩) = (some v22)) ∧
 ∃ (v23 : Value), ((subSlice v22 1 (some (.int .i64 22)) (some (.int .i64 (IntKind.wrap .i64 ((22 : Int) + (IntKind.wrap .i64 n21))))) none) = (some v23)) ∧
 CW.Spec Tryz.prog 85 #[v23] w20 fun v24 w25 =>
 CW.Spec Tryz.prog 96 #[v24] w25 fun v26 w27 =>
 CW.Spec Tryz.prog 200 #[.int .u64 n9, (.int .u32 (IntKind.wrap .u32 n12)), (.int .i64 (IntKind.wrap .i64 n15)), (.int .i64 (IntKind.wrap .i64 n18)), v26] w27 fun v28 w29 =>
 ∃ (v30 : Value) (n31 : Int), v28 = .tuple #[v30, .int .i64 n31] ∧
 JoinP [.bool]
 (fun (b32 : Bool) => fun (w33 : World) =>
 cond b32
 (R (.tuple #[.int .u64 0, .int .u32 0, .int .i64 0, .int .i64 0, .slice none 0 0, .int .i64 2]) w33)
 (R (.tuple #[.int .u64 n9, (.int .u32 (IntKind.wrap .u32 n12)), (.int .i64 (IntKind.wrap .i64 n15)), (.int .i64 (IntKind.wrap .i64 n18)), v26, .int .i64 0]) w33))
 (fun j34 =>
 cond (n31 != 0)
 (j34 true w29)
 (CW.Spec Tryz.prog 134 #[v30, p0] w29 fun v35 w36 =>
 ∃ (b37 : Bool), v35 = .bool b37 ∧
 j34 (!b37) w36))))))
theorem q79W (p0 w R) (h : q79F p0 w R) : CW.Spec Tryz.prog 295 #[p0] w R :=
 sp Tryz.func295 h
def q80F (p0 : Int) (p1 : Int) (p2 : Value) (w : World) (R : KV) : Prop :=
 withAddr p2 fun a0 =>
 ∃ v1, World.cell? w a0 = some v1 ∧
 CW.Spec Tryz.prog 148 #[v1, .int .i64 p0, .int .i64 p1] w fun v2 w3 =>
 ∃ (n4 : Int) (b5 : Bool), v2 = .tuple #[.int .u64 n4, .bool b5] ∧
 R (.int .u64 n4) w3
theorem q80W (p0 p1 p2 w R) (h : q80F p0 p1 p2 w R) : CW.Spec Tryz.prog 335 #[.int .i64 p0, .int .i64 p1, p2] w R :=
 sp Tryz.func335 h
def q84F (p0 : Value) (w : World) (R : KV) : Prop :=
 ∃ m0, sliceLen p0 = some m0 ∧
 ∃ m1, sliceLen p0 = some m1 ∧
 ∃ (v2 : Value), ((subSlice p0 1 none (some (.int .i64 (m0 : Nat))) (some (.int .i64 (m1 : Nat)))) = (some v2)) ∧
 R v2 w
theorem q84W (p0 w R) (h : q84F p0 w R) : CW.Spec Tryz.prog 147 #[p0] w R :=
 sp Tryz.func147 h
end
section
open Go Go.CW
def q105F  (w : World) (R : KV) : Prop :=
 R (.int .i64 354) w
theorem q105W  (w : World) (R : KV) (h : q105F  w R) : CW.Spec Tryz.prog 43 #[] w R :=
 sp Tryz.func43 h
def q104F (p0 : Option Addr) (w : World) (R : KV) : Prop :=
 CW.Spec Tryz.prog 111 #[.pointer p0] w fun v0 w1 =>
 ∃ (n2 : Int), v0 = .int .i64 n2 ∧
 cond (decide (n2 < 354))
 (R (.int .i64 1) w1)
 (JoinP [.int .u32]
 (fun (n3 : Int) => fun (w4 : World) =>
 CW.Spec Tryz.prog 113 #[.int .u32 n3] w4 fun v5 w6 =>
 ∃ (n7 : Int), v5 = .int .u64 n7 ∧
 CW.Spec Tryz.prog 114 #[(.agg #[.int .u64 0, .int .u32 n3, .int .i64 0, .int .u64 0, .int .i64 0, .int .u64 n7, .int .i64 0])] w6 fun v8 w9 =>
 CW.Spec Tryz.prog 103 #[.pointer p0, .int .i64 0, v8] w9 fun v10 w11 =>
 ∃ (n12 : Int), v10 = .int .i64 n12 ∧
 R (.int .i64 n12) w11)
 (fun j13 =>
 CW.Spec Tryz.prog 105 #[.pointer p0, .int .i64 0] w1 fun v14 w15 =>
 ∃ (o16 : Option Addr) (n17 : Int), v14 = .tuple #[.pointer o16, .int .i64 n17] ∧
 cond (n17 == 0)
 (CW.Spec Tryz.prog 107 #[.pointer o16] w15 fun v18 w19 =>
 CW.Spec Tryz.prog 112 #[v18] w19 fun v20 w21 =>
 ∃ (n22 : Int) (n23 : Int) (n24 : Int) (n25 : Int) (n26 : Int) (n27 : Int) (n28 : Int) (b29 : Bool), v20 = .tuple #[(.agg #[.int .u64 n22, .int .u32 n23, .int .i64 n24, .int .u64 n25, .int .i64 n26, .int .u64 n27, .int .i64 n28]), .bool b29] ∧
 bindW (World.alloc w21 (.cells #[.int .u64 0, .int .u32 0, .int .i64 0, .int .u64 0, .int .i64 0, .int .u64 0, .int .i64 0] 215)) fun w30 =>
 (StRow w30 ⟨w21.heap.size, 0, none⟩ #[.int .u64 n22, .int .u32 n23, .int .i64 n24, .int .u64 n25, .int .i64 n26, .int .u64 n27, .int .i64 n28]) ∧
 bindW (stRow w30 ⟨w21.heap.size, 0, none⟩ #[.int .u64 n22, .int .u32 n23, .int .i64 n24, .int .u64 n25, .int .i64 n26, .int .u64 n27, .int .i64 n28]) fun w31 =>
 cond b29
 (∃ n32, World.cell? w31 (Addr.add ⟨w21.heap.size, 0, none⟩ 1) = some (.int .u32 n32) ∧
 j13 (IntKind.wrap .u32 (n32 + 1)) w31)
 (j13 (1 : Int) w31))
 (j13 (1 : Int) w15)))
theorem q104W (p0 w R) (h : q104F p0 w R) : CW.Spec Tryz.prog 44 #[.pointer p0] w R :=
 sp Tryz.func44 h
def q106F (p0 : Option Addr) (w : World) (R : KV) : Prop :=
 CW.Spec Tryz.prog 111 #[.pointer p0] w fun v0 w1 =>
 ∃ (n2 : Int), v0 = .int .i64 n2 ∧
 cond (decide (n2 < 354))
 (R (.tuple #[.pointer none, .int .i64 2]) w1)
 (CW.Spec Tryz.prog 105 #[.pointer p0, .int .i64 0] w1 fun v3 w4 =>
 ∃ (o5 : Option Addr) (n6 : Int), v3 = .tuple #[.pointer o5, .int .i64 n6] ∧
 cond (n6 != 0)
 (R (.tuple #[.pointer none, .int .i64 n6]) w4)
 (CW.Spec Tryz.prog 107 #[.pointer o5] w4 fun v7 w8 =>
 CW.Spec Tryz.prog 112 #[v7] w8 fun v9 w10 =>
 ∃ (n11 : Int) (n12 : Int) (n13 : Int) (n14 : Int) (n15 : Int) (n16 : Int) (n17 : Int) (b18 : Bool), v9 = .tuple #[(.agg #[.int .u64 n11, .int .u32 n12, .int .i64 n13, .int .u64 n14, .int .i64 n15, .int .u64 n16, .int .i64 n17]), .bool b18] ∧
 bindW (World.alloc w10 (.cells #[.int .u64 0, .int .u32 0, .int .i64 0, .int .u64 0, .int .i64 0, .int .u64 0, .int .i64 0] 215)) fun w19 =>
 (StRow w19 ⟨w10.heap.size, 0, none⟩ #[.int .u64 n11, .int .u32 n12, .int .i64 n13, .int .u64 n14, .int .i64 n15, .int .u64 n16, .int .i64 n17]) ∧
 bindW (stRow w19 ⟨w10.heap.size, 0, none⟩ #[.int .u64 n11, .int .u32 n12, .int .i64 n13, .int .u64 n14, .int .i64 n15, .int .u64 n16, .int .i64 n17]) fun w20 =>
 cond (!b18)
 (R (.tuple #[.pointer none, .int .i64 2]) w20)
 (∃ (n21 : Int) (n22 : Int) (n23 : Int) (n24 : Int) (n25 : Int) (n26 : Int) (n27 : Int), (ldCells w20 ⟨w10.heap.size, 0, none⟩ 7 #[.int .u64 n21, .int .u32 n22, .int .i64 n23, .int .u64 n24, .int .i64 n25, .int .u64 n26, .int .i64 n27]) ∧
 bindW (World.alloc w20 (.cells #[.pointer p0, .pointer o5, .pointer none, .int .u64 n21, .int .u32 n22, .int .i64 n23, .int .u64 n24, .int .i64 n25, .int .u64 n26, .int .i64 n27, .slice none 0 0, .slice none 0 0] 222)) fun w28 =>
 ∃ n29, World.cell? w28 (Addr.add ⟨w10.heap.size, 0, none⟩ 2) = some (.int .i64 n29) ∧
 ∃ n30, World.cell? w28 (Addr.add ⟨w10.heap.size, 0, none⟩ 4) = some (.int .i64 n30) ∧
 CW.Spec Tryz.prog 115 #[(.pointer (some ⟨w20.heap.size, 0, none⟩)), .int .i64 n29, .int .i64 n30] w28 fun v31 w32 =>
 ∃ (v33 : Value) (n34 : Int), v31 = .tuple #[v33, .int .i64 n34] ∧
 oneK v33 ((St1 w32 (Addr.add ⟨w20.heap.size, 0, none⟩ 10)) ∧
 bindW (World.setCell w32 (Addr.add ⟨w20.heap.size, 0, none⟩ 10) v33) fun w35 =>
 cond (n34 != 0)
 (R (.tuple #[.pointer none, .int .i64 n34]) w35)
 (∃ n36, World.cell? w35 (Addr.add ⟨w10.heap.size, 0, none⟩ 1) = some (.int .u32 n36) ∧
 (St1 w35 (Addr.add ⟨w10.heap.size, 0, none⟩ 1)) ∧
 bindW (World.setCell w35 (Addr.add ⟨w10.heap.size, 0, none⟩ 1) (.int .u32 (IntKind.wrap .u32 (n36 + 1)))) fun w37 =>
 ∃ (n38 : Int) (n39 : Int) (n40 : Int) (n41 : Int) (n42 : Int) (n43 : Int) (n44 : Int), (ldCells w37 ⟨w10.heap.size, 0, none⟩ 7 #[.int .u64 n38, .int .u32 n39, .int .i64 n40, .int .u64 n41, .int .i64 n42, .int .u64 n43, .int .i64 n44]) ∧
 CW.Spec Tryz.prog 116 #[(.pointer (some ⟨w20.heap.size, 0, none⟩)), (.agg #[.int .u64 n38, .int .u32 n39, .int .i64 n40, .int .u64 n41, .int .i64 n42, .int .u64 n43, .int .i64 n44])] w37 fun v45 w46 =>
 ∃ (n47 : Int), v45 = .int .i64 n47 ∧
 cond (n47 != 0)
 (R (.tuple #[.pointer none, .int .i64 n47]) w46)
 (CW.Spec Tryz.prog 117 #[(.pointer (some ⟨w20.heap.size, 0, none⟩))] w46 fun v48 w49 =>
 ∃ (n50 : Int), v48 = .int .i64 n50 ∧
 cond (n50 != 0)
 (R (.tuple #[.pointer none, .int .i64 n50]) w49)
 (R (.tuple #[(.pointer (some ⟨w20.heap.size, 0, none⟩)), .int .i64 0]) w49)))))))
theorem q106W (p0 w R) (h : q106F p0 w R) : CW.Spec Tryz.prog 45 #[.pointer p0] w R :=
 sp Tryz.func45 h
def q107F (p0 : Option Addr) (w : World) (R : KV) : Prop :=
 bindW (World.drew w) fun w0 =>
 withAddr (.pointer p0) fun a1 =>
 ∃ n2, World.cell? w0 (Addr.add (Addr.add a1 3) 3) = some (.int .u64 n2) ∧
 withAddr (.pointer p0) fun a3 =>
 ∃ v4, World.cell? w0 (Addr.add a3 10) = some v4 ∧
 bindW (World.drew w) fun w5 =>
 CW.Spec Tryz.prog 85 #[v4] w5 fun v6 w7 =>
 (∃ n8, World.cell? w7 (Addr.add (Addr.add a1 3) 3) = some (.int .u64 n8) ∧
 ((.int .u64 n8) : Value) = (.int .u64 n2)) ∧
 CW.Spec Tryz.prog 96 #[v6] w7 fun v9 w10 =>
 (∃ n11, World.cell? w10 (Addr.add (Addr.add a1 3) 3) = some (.int .u64 n11) ∧
 ((.int .u64 n11) : Value) = (.int .u64 n2)) ∧
 R (.tuple #[.int .u64 n2, v9]) w10
theorem q107W (p0 w R) (h : q107F p0 w R) : CW.Spec Tryz.prog 51 #[.pointer p0] w R :=
 sp Tryz.func51 h
def q108F (p0 : Option Addr) (w : World) (R : KV) : Prop :=
 withAddr (.pointer p0) fun a0 =>
 ∃ n1, World.cell? w (Addr.add (Addr.add a0 3) 0) = some (.int .u64 n1) ∧
 R (.int .u64 n1) w
theorem q108W (p0 w R) (h : q108F p0 w R) : CW.Spec Tryz.prog 53 #[.pointer p0] w R :=
 sp Tryz.func53 h
def q117F (p0 : Value) (w : World) (R : KV) : Prop :=
 bindW (World.alloc w (.cells (Value.cells p0) 34)) fun w0 =>
 bindW (World.alloc w0 (.cells #[.int .u64 0, .int .u32 0, .int .i64 0, .int .u64 0, .int .i64 0, .int .u64 0, .int .i64 0] 215)) fun w1 =>
 ∃ (v2 : Value), ((World.cell? w1 ⟨w.heap.size, 0, none⟩) = (some v2)) ∧
 ∃ m3, sliceLen v2 = some m3 ∧
 cond (((m3 : Nat) : Int) != 35)
 ((StRow w1 ⟨w0.heap.size, 0, none⟩ #[.int .u64 0, .int .u32 0, .int .i64 0, .int .u64 0, .int .i64 0, .int .u64 0, .int .i64 0]) ∧
 bindW (stRow w1 ⟨w0.heap.size, 0, none⟩ #[.int .u64 0, .int .u32 0, .int .i64 0, .int .u64 0, .int .i64 0, .int .u64 0, .int .i64 0]) fun w4 =>
 ∃ (n5 : Int) (n6 : Int) (n7 : Int) (n8 : Int) (n9 : Int) (n10 : Int) (n11 : Int), (ldCells w4 ⟨w0.heap.size, 0, none⟩ 7 #[.int .u64 n5, .int .u32 n6, .int .i64 n7, .int .u64 n8, .int .i64 n9, .int .u64 n10, .int .i64 n11]) ∧
 R (.tuple #[(.agg #[.int .u64 n5, .int .u32 n6, .int .i64 n7, .int .u64 n8, .int .i64 n9, .int .u64 n10, .int .i64 n11]), .bool false]) w4)
 (bindW (World.alloc w1 (.cells #[.int .i64 0] 3)) fun w12 =>
 (St1 w12 ⟨w1.heap.size, 0, none⟩) ∧
 bindW (World.setCell w12 ⟨w1.heap.size, 0, none⟩ (.int .i64 0)) fun w13 =>
 CW.Spec Tryz.prog 195 #[.int .i64 8, (.pointer (some ⟨w.heap.size, 0, none⟩)), (.pointer (some ⟨w1.heap.size, 0, none⟩))] w13 fun v14 w15 =>
 ∃ (n16 : Int), v14 = .int .u64 n16 ∧
 CW.Spec Tryz.prog 195 #[.int .i64 4, (.pointer (some ⟨w.heap.size, 0, none⟩)), (.pointer (some ⟨w1.heap.size, 0, none⟩))] w15 fun v17 w18 =>
 ∃ (n19 : Int), v17 = .int .u64 n19 ∧
 CW.Spec Tryz.prog 195 #[.int .i64 1, (.pointer (some ⟨w.heap.size, 0, none⟩)), (.pointer (some ⟨w1.heap.size, 0, none⟩))] w18 fun v20 w21 =>
 ∃ (n22 : Int), v20 = .int .u64 n22 ∧
 CW.Spec Tryz.prog 195 #[.int .i64 8, (.pointer (some ⟨w.heap.size, 0, none⟩)), (.pointer (some ⟨w1.heap.size, 0, none⟩))] w21 fun v23 w24 =>
 ∃ (n25 : Int), v23 = .int .u64 n25 ∧
 CW.Spec Tryz.prog 195 #[.int .i64 4, (.pointer (some ⟨w.heap.size, 0, none⟩)), (.pointer (some ⟨w1.heap.size, 0, none⟩))] w24 fun v26 w27 =>
 ∃ (n28 : Int), v26 = .int .u64 n28 ∧
 CW.Spec Tryz.prog 195 #[.int .i64 8, (.pointer (some ⟨w.heap.size, 0, none⟩)), (.pointer (some ⟨w1.heap.size, 0, none⟩))] w27 fun v29 w30 =>
 ∃ (n31 : Int), v29 = .int .u64 n31 ∧
 CW.Spec Tryz.prog 195 #[.int .i64 2, (.pointer (some ⟨w.heap.size, 0, none⟩)), (.pointer (some ⟨w1.heap.size, 0, none⟩))] w30 fun v32 w33 =>
 ∃ (n34 : Int), v32 = .int .u64 n34 ∧
 bindW (World.alloc w33 (.cells #[.int .u64 0, .int .u32 0, .int .i64 0, .int .u64 0, .int .i64 0, .int .u64 0, .int .i64 0] 215)) fun w35 =>
 (StRow w35 ⟨w33.heap.size, 0, none⟩ #[.int .u64 n16, (.int .u32 (IntKind.wrap .u32 n19)), (.int .i64 (IntKind.wrap .i64 n22)), .int .u64 n25, (.int .i64 (IntKind.wrap .i64 n28)), .int .u64 n31, (.int .i64 (IntKind.wrap .i64 n34))]) ∧
 bindW (stRow w35 ⟨w33.heap.size, 0, none⟩ #[.int .u64 n16, (.int .u32 (IntKind.wrap .u32 n19)), (.int .i64 (IntKind.wrap .i64 n22)), .int .u64 n25, (.int .i64 (IntKind.wrap .i64 n28)), .int .u64 n31, (.int .i64 (IntKind.wrap .i64 n34))]) fun w36 =>
 JoinP [.bool]
 (fun (b37 : Bool) => fun (w38 : World) =>
 ∃ (n39 : Int) (n40 : Int) (n41 : Int) (n42 : Int) (n43 : Int) (n44 : Int) (n45 : Int), (ldCells w38 ⟨w0.heap.size, 0, none⟩ 7 #[.int .u64 n39, .int .u32 n40, .int .i64 n41, .int .u64 n42, .int .i64 n43, .int .u64 n44, .int .i64 n45]) ∧
 R (.tuple #[(.agg #[.int .u64 n39, .int .u32 n40, .int .i64 n41, .int .u64 n42, .int .i64 n43, .int .u64 n44, .int .i64 n45]), .bool b37]) w38)
 (fun j46 =>
 bindW (World.drew w36) fun w47 =>
 ∃ (n48 : Int) (n49 : Int) (n50 : Int) (n51 : Int) (n52 : Int) (n53 : Int) (n54 : Int), (ldCells w47 ⟨w33.heap.size, 0, none⟩ 7 #[.int .u64 n48, .int .u32 n49, .int .i64 n50, .int .u64 n51, .int .i64 n52, .int .u64 n53, .int .i64 n54]) ∧
 ∃ n55, World.cell? w47 (Addr.add ⟨w33.heap.size, 0, none⟩ 2) = some (.int .i64 n55) ∧
 cond (decide (n55 ≤ 1))
 (∃ n56, World.cell? w47 (Addr.add ⟨w33.heap.size, 0, none⟩ 4) = some (.int .i64 n56) ∧
 bindW (World.drew w36) fun w57 =>
 (StRow w57 ⟨w0.heap.size, 0, none⟩ #[.int .u64 n48, .int .u32 n49, .int .i64 n50, .int .u64 n51, .int .i64 n52, .int .u64 n53, .int .i64 n54]) ∧
 (∃ (n58 : Int), ((World.cell? (stRow w57 ⟨w0.heap.size, 0, none⟩ #[.int .u64 n48, .int .u32 n49, .int .i64 n50, .int .u64 n51, .int .i64 n52, .int .u64 n53, .int .i64 n54]) (Addr.add ⟨w33.heap.size, 0, none⟩ 4)) = (some (.int .i64 n58))) ∧
 ((.int .i64 n58) : Value) = (.int .i64 n56)) ∧
 bindW (stRow w57 ⟨w0.heap.size, 0, none⟩ #[.int .u64 n48, .int .u32 n49, .int .i64 n50, .int .u64 n51, .int .i64 n52, .int .u64 n53, .int .i64 n54]) fun w59 =>
 bindW (stRow w57 ⟨w0.heap.size, 0, none⟩ #[.int .u64 n48, .int .u32 n49, .int .i64 n50, .int .u64 n51, .int .i64 n52, .int .u64 n53, .int .i64 n54]) fun w60 =>
 j46 (decide (n56 ≤ 24576)) w60)
 (bindW (World.drew w36) fun w61 =>
 (StRow w61 ⟨w0.heap.size, 0, none⟩ #[.int .u64 n48, .int .u32 n49, .int .i64 n50, .int .u64 n51, .int .i64 n52, .int .u64 n53, .int .i64 n54]) ∧
 (True) ∧
 bindW (stRow w61 ⟨w0.heap.size, 0, none⟩ #[.int .u64 n48, .int .u32 n49, .int .i64 n50, .int .u64 n51, .int .i64 n52, .int .u64 n53, .int .i64 n54]) fun w62 =>
 bindW (stRow w61 ⟨w0.heap.size, 0, none⟩ #[.int .u64 n48, .int .u32 n49, .int .i64 n50, .int .u64 n51, .int .i64 n52, .int .u64 n53, .int .i64 n54]) fun w63 =>
 j46 false w63)))
theorem q117W (p0 w R) (h : q117F p0 w R) : CW.Spec Tryz.prog 112 #[p0] w R :=
 sp Tryz.func112 h
def q115F (p0 : Int) (w : World) (R : KV) : Prop :=
 R (.int .u64 (IntKind.wrap .u64 ((IntKind.wrap .u64 p0) * 4294967296))) w
theorem q115W (p0 w R) (h : q115F p0 w R) : CW.Spec Tryz.prog 113 #[.int .u32 p0] w R :=
 sp Tryz.func113 h
def q116F (p0_0 : Int) (p0_1 : Int) (p0_2 : Int) (p0_3 : Int) (p0_4 : Int) (p0_5 : Int) (p0_6 : Int) (w : World) (R : KV) : Prop :=
 bindW (World.alloc w (.cells #[.int .u64 p0_0, .int .u32 p0_1, .int .i64 p0_2, .int .u64 p0_3, .int .i64 p0_4, .int .u64 p0_5, .int .i64 p0_6] 215)) fun w0 =>
 bindW (World.drew w0) fun w1 =>
 ∃ n2, World.cell? w1 (Addr.add ⟨w.heap.size, 0, none⟩ 0) = some (.int .u64 n2) ∧
 ∃ n3, World.cell? w1 (Addr.add ⟨w.heap.size, 0, none⟩ 1) = some (.int .u32 n3) ∧
 ∃ n4, World.cell? w1 (Addr.add ⟨w.heap.size, 0, none⟩ 2) = some (.int .i64 n4) ∧
 bindW (World.drew w0) fun w5 =>
 CW.Spec Tryz.prog 120 #[.slice none 0 0, .int .u64 n2, .int .i64 8] w5 fun v6 w7 =>
 (∃ n8, World.cell? w7 (Addr.add ⟨w.heap.size, 0, none⟩ 1) = some (.int .u32 n8) ∧
 ((.int .u32 n8) : Value) = (.int .u32 n3)) ∧
 (∃ n9, World.cell? w7 (Addr.add ⟨w.heap.size, 0, none⟩ 2) = some (.int .i64 n9) ∧
 ((.int .i64 n9) : Value) = (.int .i64 n4)) ∧
 CW.Spec Tryz.prog 120 #[v6, (.int .u64 (IntKind.wrap .u64 n3)), .int .i64 4] w7 fun v10 w11 =>
 (∃ n12, World.cell? w11 (Addr.add ⟨w.heap.size, 0, none⟩ 2) = some (.int .i64 n12) ∧
 ((.int .i64 n12) : Value) = (.int .i64 n4)) ∧
 CW.Spec Tryz.prog 120 #[v10, (.int .u64 (IntKind.wrap .u64 n4)), .int .i64 1] w11 fun v13 w14 =>
 bindW (World.drew w14) fun w15 =>
 ∃ n16, World.cell? w15 (Addr.add ⟨w.heap.size, 0, none⟩ 3) = some (.int .u64 n16) ∧
 ∃ n17, World.cell? w15 (Addr.add ⟨w.heap.size, 0, none⟩ 4) = some (.int .i64 n17) ∧
 bindW (World.drew w14) fun w18 =>
 CW.Spec Tryz.prog 120 #[v13, .int .u64 n16, .int .i64 8] w18 fun v19 w20 =>
 (∃ n21, World.cell? w20 (Addr.add ⟨w.heap.size, 0, none⟩ 4) = some (.int .i64 n21) ∧
 ((.int .i64 n21) : Value) = (.int .i64 n17)) ∧
 CW.Spec Tryz.prog 120 #[v19, (.int .u64 (IntKind.wrap .u64 n17)), .int .i64 4] w20 fun v22 w23 =>
 bindW (World.drew w23) fun w24 =>
 ∃ n25, World.cell? w24 (Addr.add ⟨w.heap.size, 0, none⟩ 5) = some (.int .u64 n25) ∧
 ∃ n26, World.cell? w24 (Addr.add ⟨w.heap.size, 0, none⟩ 6) = some (.int .i64 n26) ∧
 bindW (World.drew w23) fun w27 =>
 CW.Spec Tryz.prog 120 #[v22, .int .u64 n25, .int .i64 8] w27 fun v28 w29 =>
 (∃ n30, World.cell? w29 (Addr.add ⟨w.heap.size, 0, none⟩ 6) = some (.int .i64 n30) ∧
 ((.int .i64 n30) : Value) = (.int .i64 n26)) ∧
 CW.Spec Tryz.prog 120 #[v28, (.int .u64 (IntKind.wrap .u64 n26)), .int .i64 2] w29 fun v31 w32 =>
 R v31 w32
theorem q116W (p0_0 p0_1 p0_2 p0_3 p0_4 p0_5 p0_6 w R) (h : q116F p0_0 p0_1 p0_2 p0_3 p0_4 p0_5 p0_6 w R) : CW.Spec Tryz.prog 114 #[(.agg #[.int .u64 p0_0, .int .u32 p0_1, .int .i64 p0_2, .int .u64 p0_3, .int .i64 p0_4, .int .u64 p0_5, .int .i64 p0_6])] w R :=
 sp Tryz.func114 h
def q113F (p0 : Option Addr) (p1 : Int) (p2 : Int) (w : World) (R : KV) : Prop :=
 LoopP [.val, .int .i64]
 (fun j0 => fun (v1 : Value) => fun (n2 : Int) => fun (w3 : World) =>
 ∃ m4, sliceLen v1 = some m4 ∧
 cond (decide (((m4 : Nat) : Int) ≥ p2))
 (∃ (v5 : Value), ((subSlice v1 1 none (some (.int .i64 p2)) none) = (some v5)) ∧
 CW.Spec Tryz.prog 96 #[v5] w3 fun v6 w7 =>
 R (.tuple #[v6, .int .i64 0]) w7)
 (withAddr (.pointer p0) fun a8 =>
 ∃ (o9 : Option Addr), ((World.cell? w3 (Addr.add a8 0)) = (some (.pointer o9))) ∧
 CW.Spec Tryz.prog 193 #[.pointer o9, (.int .i64 (IntKind.wrap .i64 ((IntKind.wrap .i64 ((2 : Int) + (IntKind.wrap .i64 (p1 * 48)))) + n2)))] w3 fun v10 w11 =>
 ∃ (v12 : Value) (n13 : Int), v10 = .tuple #[v12, .int .i64 n13] ∧
 cond (n13 != 0)
 (R (.tuple #[.slice none 0 0, .int .i64 n13]) w11)
 (∃ (v14 : Value) (w15 : World), ((Sem.run Tryz.prog (Builtin.append_ #[34, 34] 34 #[v1, v12]) w11) = (.ok v14 w15)) ∧
 j0 v14 (IntKind.wrap .i64 (n2 + 1)) w15)))
 (fun s16 => s16 (.slice none 0 0) (0 : Int) w)
theorem q113W (p0 p1 p2 w R) (h : q113F p0 p1 p2 w R) : CW.Spec Tryz.prog 115 #[.pointer p0, .int .i64 p1, .int .i64 p2] w R :=
 sp Tryz.func115 h
def q112F (p0 : Option Addr) (p1_0 : Int) (p1_1 : Int) (p1_2 : Int) (p1_3 : Int) (p1_4 : Int) (p1_5 : Int) (p1_6 : Int) (w : World) (R : KV) : Prop :=
 bindW (World.alloc w (.cells #[.int .u64 p1_0, .int .u32 p1_1, .int .i64 p1_2, .int .u64 p1_3, .int .i64 p1_4, .int .u64 p1_5, .int .i64 p1_6] 215)) fun w0 =>
 bindW (World.drew w0) fun w1 =>
 withAddr (.pointer p0) fun a2 =>
 ∃ (o3 : Option Addr), ((World.cell? w1 (Addr.add a2 1)) = (some (.pointer o3))) ∧
 ∃ (n4 : Int) (n5 : Int) (n6 : Int) (n7 : Int) (n8 : Int) (n9 : Int) (n10 : Int), (ldCells w1 ⟨w.heap.size, 0, none⟩ 7 #[.int .u64 n4, .int .u32 n5, .int .i64 n6, .int .u64 n7, .int .i64 n8, .int .u64 n9, .int .i64 n10]) ∧
 bindW (World.drew w0) fun w11 =>
 CW.Spec Tryz.prog 114 #[(.agg #[.int .u64 n4, .int .u32 n5, .int .i64 n6, .int .u64 n7, .int .i64 n8, .int .u64 n9, .int .i64 n10])] w11 fun v12 w13 =>
 (∃ (o14 : Option Addr), ((World.cell? w13 (Addr.add a2 1)) = (some (.pointer o14))) ∧
 ((.pointer o14) : Value) = (.pointer o3)) ∧
 CW.Spec Tryz.prog 110 #[.pointer o3, v12] w13 fun v15 w16 =>
 ∃ (n17 : Int), v15 = .int .i64 n17 ∧
 cond (n17 != 0)
 (R (.int .i64 n17) w16)
 (∃ (n18 : Int) (n19 : Int) (n20 : Int) (n21 : Int) (n22 : Int) (n23 : Int) (n24 : Int), (ldCells w16 ⟨w.heap.size, 0, none⟩ 7 #[.int .u64 n18, .int .u32 n19, .int .i64 n20, .int .u64 n21, .int .i64 n22, .int .u64 n23, .int .i64 n24]) ∧
 withAddr (.pointer p0) fun a25 =>
 (StRow w16 (Addr.add a25 3) #[.int .u64 n18, .int .u32 n19, .int .i64 n20, .int .u64 n21, .int .i64 n22, .int .u64 n23, .int .i64 n24]) ∧
 bindW (stRow w16 (Addr.add a25 3) #[.int .u64 n18, .int .u32 n19, .int .i64 n20, .int .u64 n21, .int .i64 n22, .int .u64 n23, .int .i64 n24]) fun w26 =>
 R (.int .i64 0) w26)
theorem q112W (p0 p1_0 p1_1 p1_2 p1_3 p1_4 p1_5 p1_6 w R) (h : q112F p0 p1_0 p1_1 p1_2 p1_3 p1_4 p1_5 p1_6 w R) : CW.Spec Tryz.prog 116 #[.pointer p0, (.agg #[.int .u64 p1_0, .int .u32 p1_1, .int .i64 p1_2, .int .u64 p1_3, .int .i64 p1_4, .int .u64 p1_5, .int .i64 p1_6])] w R :=
 sp Tryz.func116 h
def q111F (p0 : Option Addr) (w : World) (R : KV) : Prop :=
 bindW (World.drew w) fun w0 =>
 withAddr (.pointer p0) fun a1 =>
 ∃ (o2 : Option Addr), ((World.cell? w0 (Addr.add a1 0)) = (some (.pointer o2))) ∧
 withAddr (.pointer p0) fun a3 =>
 ∃ n4, World.cell? w0 (Addr.add (Addr.add a3 3) 5) = some (.int .u64 n4) ∧
 withAddr (.pointer p0) fun a5 =>
 ∃ n6, World.cell? w0 (Addr.add (Addr.add a5 3) 6) = some (.int .i64 n6) ∧
 withAddr (.pointer p0) fun a7 =>
 ∃ n8, World.cell? w0 (Addr.add (Addr.add a7 3) 1) = some (.int .u32 n8) ∧
 bindW (World.drew w) fun w9 =>
 CW.Spec Tryz.prog 196 #[.pointer o2, .int .i64 98, .int .i64 256, .int .u64 n4, .int .i64 n6, .int .u32 n8] w9 fun v10 w11 =>
 ∃ (o12 : Option Addr) (v13 : Value) (n14 : Int), v10 = .tuple #[.pointer o12, v13, .int .i64 n14] ∧
 cond (n14 != 0)
 (R (.int .i64 n14) w11)
 (withAddr (.pointer p0) fun a15 =>
 (St1 w11 (Addr.add a15 2)) ∧
 bindW (World.setCell w11 (Addr.add a15 2) (.pointer o12)) fun w16 =>
 withAddr (.pointer p0) fun a17 =>
 (St1 w16 (Addr.add a17 11)) ∧
 bindW (World.setCell w16 (Addr.add a17 11) (.slice none 0 0)) fun w18 =>
 ∃ m19, sliceLen v13 = some m19 ∧
 JoinP []
 (fun (w20 : World) =>
 R (.int .i64 0) w20)
 (fun j21 =>
 LoopP [.int .i64]
 (fun j22 => fun (n23 : Int) => fun (w24 : World) =>
 cond (decide (n23 < ((m19 : Nat) : Int)))
 (∃ a25, sliceAt v13 n23 1 = some a25 ∧
 ∃ v26, World.cell? w24 a25 = some v26 ∧
 CW.Spec Tryz.prog 148 #[v26, .int .i64 0, .int .i64 8] w24 fun v27 w28 =>
 ∃ (n29 : Int) (b30 : Bool), v27 = .tuple #[.int .u64 n29, .bool b30] ∧
 CW.Spec Tryz.prog 148 #[v26, .int .i64 8, .int .i64 8] w28 fun v31 w32 =>
 ∃ (n33 : Int) (b34 : Bool), v31 = .tuple #[.int .u64 n33, .bool b34] ∧
 JoinP [.bool]
 (fun (b35 : Bool) => fun (w36 : World) =>
 cond b35
 (j21 w36)
 (bindW (World.drew w36) fun w37 =>
 withAddr (.pointer p0) fun a38 =>
 ∃ v39, World.cell? w37 (Addr.add a38 11) = some v39 ∧
 ∃ (v40 : Value), ((subSlice v26 1 (some (.int .i64 16)) none none) = (some v40)) ∧
 bindW (World.drew w36) fun w41 =>
 CW.Spec Tryz.prog 85 #[v40] w41 fun v42 w43 =>
 (∃ v44, World.cell? w43 (Addr.add a38 11) = some v44 ∧
 (v44 : Value) = v39) ∧
 oneK v42 ((∃ (v45 : Value), ((World.cell? (World.alloc w43 (.cells #[.int .u64 n29, .int .u64 n33, v42] 108)) (Addr.add a38 11)) = (some v45)) ∧
 (v45 : Value) = v39) ∧
 bindW (World.alloc w43 (.cells #[.int .u64 n29, .int .u64 n33, v42] 108)) fun w46 =>
 bindW (World.alloc w43 (.cells #[.int .u64 n29, .int .u64 n33, v42] 108)) fun w47 =>
 ∃ (v48 : Value) (w49 : World), ((Sem.run Tryz.prog (Builtin.append_ #[220, 220] 220 #[v39, (.slice (some ⟨w43.heap.size, 0, none⟩) 1 1)]) w47) = (.ok v48 w49)) ∧
 withAddr (.pointer p0) fun a50 =>
 oneK v48 ((St1 w49 (Addr.add a50 11)) ∧
 bindW (World.setCell w49 (Addr.add a50 11) v48) fun w51 =>
 bindW (World.setCell w49 (Addr.add a50 11) v48) fun w52 =>
 j22 (IntKind.wrap .i64 (n23 + 1)) w52))))
 (fun j53 =>
 cond (!b34)
 (j53 true w32)
 (CW.Spec Tryz.prog 118 #[.pointer p0] w32 fun v54 w55 =>
 ∃ (n56 : Int), v54 = .int .u64 n56 ∧
 j53 (n29 != (IntKind.wrap .u64 (n56 + 1))) w55)))
 (j21 w24))
 (fun s57 => s57 (0 : Int) w18)))
theorem q111W (p0 w R) (h : q111F p0 w R) : CW.Spec Tryz.prog 117 #[.pointer p0] w R :=
 sp Tryz.func117 h
def q110F (p0 : Option Addr) (w : World) (R : KV) : Prop :=
 bindW (World.drew w) fun w0 =>
 withAddr (.pointer p0) fun a1 =>
 ∃ n2, World.cell? w0 (Addr.add (Addr.add a1 3) 3) = some (.int .u64 n2) ∧
 withAddr (.pointer p0) fun a3 =>
 ∃ v4, World.cell? w0 (Addr.add a3 11) = some v4 ∧
 ∃ m5, sliceLen v4 = some m5 ∧
 bindW (World.drew w) fun w6 =>
 R (.int .u64 (IntKind.wrap .u64 (n2 + (IntKind.wrap .u64 ((m5 : Nat) : Int))))) w6
theorem q110W (p0 w R) (h : q110F p0 w R) : CW.Spec Tryz.prog 118 #[.pointer p0] w R :=
 sp Tryz.func118 h
def q118F (p0 : Int) (p1 : Value) (p2 : Value) (w : World) (R : KV) : Prop :=
 withAddr p1 fun a0 =>
 ∃ v1, World.cell? w a0 = some v1 ∧
 withAddr p2 fun a2 =>
 ∃ n3, World.cell? w a2 = some (.int .i64 n3) ∧
 CW.Spec Tryz.prog 148 #[v1, .int .i64 n3, .int .i64 p0] w fun v4 w5 =>
 ∃ (n6 : Int) (b7 : Bool), v4 = .tuple #[.int .u64 n6, .bool b7] ∧
 withAddr p2 fun a8 =>
 ∃ n9, World.cell? w5 a8 = some (.int .i64 n9) ∧
 withAddr p2 fun a10 =>
 (St1 w5 a10) ∧
 bindW (World.setCell w5 a10 (.int .i64 (IntKind.wrap .i64 (n9 + p0)))) fun w11 =>
 R (.int .u64 n6) w11
theorem q118W (p0 p1 p2 w R) (h : q118F p0 p1 p2 w R) : CW.Spec Tryz.prog 195 #[.int .i64 p0, p1, p2] w R :=
 sp Tryz.func195 h
end
end Go.Proofs.YtghineciiljeoaaGreatDoor
