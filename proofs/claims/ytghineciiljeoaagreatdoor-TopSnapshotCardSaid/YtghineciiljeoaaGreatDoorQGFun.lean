/- The formulas of some functions, printed by a program (wip/cw/CwGen). -/
import Derived.Test.YtghineciiljeoaaGreatDoorQFacts
set_option linter.unusedVariables false
set_option maxRecDepth 100000
namespace Go.Proofs.YtghineciiljeoaaGreatDoor
open Go Go.CW
def q0F (p0 : Value) (p1 : Int) (p2 : Int) (w : World) (R : KV) : Prop :=
 JoinP [.bool]
 (fun (b0 : Bool) => fun (w1 : World) =>
 cond b0
 (R (.tuple #[.int .u64 0, .bool false]) w1)
 (∃ v2 : Value, ((subSlice p0 1 (some (.int .i64 p1)) (some (.int .i64 (IntKind.wrap .i64 (p1 + p2)))) none) = (some v2)) ∧
 ∃ m3 : Nat, ((sliceLen v2) = (some m3)) ∧
 LoopP [.int .u64, .int .i64]
 (fun j4 => fun (n5 : Int) => fun (n6 : Int) => fun (w7 : World) =>
 cond (decide (n6 < ((m3 : Nat) : Int)))
 (∃ a8 : Addr, ((sliceAt v2 n6 1) = (some a8)) ∧
 ∃ n9 : Int, ((World.cell? w7 a8) = (some (.int .u8 n9))) ∧
 j4 (bitsI .or .u64 (IntKind.wrap .u64 (n5 * 256)) (IntKind.wrap .u64 n9)) (IntKind.wrap .i64 (n6 + 1)) w7)
 (R (.tuple #[.int .u64 n5, .bool true]) w7))
 (fun s10 => s10 (0 : Int) (0 : Int) w1)))
 (fun j11 =>
 cond (decide (p2 < 1))
 (j11 true w)
 (cond (decide (p2 > 8))
 (j11 true w)
 (cond (decide (p1 < 0))
 (j11 true w)
 (∃ m12 : Nat, ((sliceLen p0) = (some m12)) ∧
 cond (decide (p1 > ((m12 : Nat) : Int)))
 (j11 true w)
 (∃ m13 : Nat, ((sliceLen p0) = (some m13)) ∧
 j11 (decide (p2 > (IntKind.wrap .i64 (((m13 : Nat) : Int) - p1)))) w)))))
theorem q0W (p0 p1 p2 w R) (h : q0F p0 p1 p2 w R) : CW.Spec Tryz.prog 148 #[p0, .int .i64 p1, .int .i64 p2] w R :=
 sp Tryz.func148 h
def q2F (p0 : Value) (p1 : Int) (p2 : Int) (w : World) (R : KV) : Prop :=
 CW.Spec Tryz.prog 85 #[p0] w fun v0 w1 =>
 JoinP [.bool]
 (fun (b2 : Bool) => fun (w3 : World) =>
 cond b2
 (R v0 w3)
 (LoopP [.val, .int .i64]
 (fun j4 => fun (v5 : Value) => fun (n6 : Int) => fun (w7 : World) =>
 cond (decide (n6 ≥ 0))
 (leK (IntKind.wrap .i64 ((8 : Int) * n6)) (∃ v8 : Value, ∃ w9 : World, ((Sem.run Tryz.prog (Builtin.append_ #[34, 34] 34 #[v5, (.slice (some ⟨w7.heap.size, 0, none⟩) 1 1)]) (World.alloc w7 (.cells #[(.int .u8 (IntKind.wrap .u8 (Int.fdiv p1 ((2 : Int) ^ (min (Int.toNat (IntKind.wrap .i64 ((8 : Int) * n6))) 64)))))] 5))) = (.ok v8 w9)) ∧
 j4 v8 (IntKind.wrap .i64 (n6 - 1)) w9))
 (CW.Spec Tryz.prog 96 #[v5] w7 fun v10 w11 =>
 R v10 w11))
 (fun s12 => s12 v0 (IntKind.wrap .i64 (p2 - 1)) w3)))
 (fun j13 =>
 cond (decide (p2 < 1))
 (j13 true w1)
 (j13 (decide (p2 > 8)) w1))
theorem q2W (p0 p1 p2 w R) (h : q2F p0 p1 p2 w R) : CW.Spec Tryz.prog 120 #[p0, .int .u64 p1, .int .i64 p2] w R :=
 sp Tryz.func120 h
def q85F (p0 : Value) (w : World) (R : KV) : Prop :=
 ∃ m0 : Nat, ((sliceLen p0) = (some m0)) ∧
 ∃ m1 : Nat, ((sliceLen p0) = (some m1)) ∧
 ∃ v2 : Value, ((subSlice p0 1 none (some (.int .i64 (m0 : Nat))) (some (.int .i64 (m1 : Nat)))) = (some v2)) ∧
 R v2 w
theorem q85W (p0 w R) (h : q85F p0 w R) : CW.Spec Tryz.prog 96 #[p0] w R :=
 sp Tryz.func96 h
def q87F (p0 : Value) (w : World) (R : KV) : Prop :=
 ∃ b0 : Bool, ((Go.CW.isNilS p0) = (some b0)) ∧
 cond b0
 (R (.slice none 0 0) w)
 (∃ v1 : Value, ∃ w2 : World, ((Sem.run Tryz.prog (Builtin.append_ #[34, 34] 34 #[(.slice (some ⟨w.heap.size, 0, none⟩) 0 0), p0]) (World.alloc w (.cells #[] 5))) = (.ok v1 w2)) ∧
 R v1 w2)
theorem q87W (p0 w R) (h : q87F p0 w R) : CW.Spec Tryz.prog 85 #[p0] w R :=
 sp Tryz.func85 h
def q15F (p0 : Value) (w : World) (R : KV) : Prop :=
 ∃ m0 : Nat, ((sliceLen p0) = (some m0)) ∧
 cond (decide (((m0 : Nat) : Int) < 4))
 (R (.tuple #[.slice none 0 0, .int .i64 3]) w)
 (∃ m1 : Nat, ((sliceLen p0) = (some m1)) ∧
 ∃ v2 : Value, ((subSlice p0 1 none (some (.int .i64 (IntKind.wrap .i64 (((m1 : Nat) : Int) - 4)))) none) = (some v2)) ∧
 ∃ m3 : Nat, ((sliceLen v2) = (some m3)) ∧
 ∃ v4 : Value, ((subSlice p0 1 (some (.int .i64 (m3 : Nat))) none none) = (some v4)) ∧
 CW.Spec Tryz.prog 95 #[v2] (World.drew w) fun v5 w6 =>
 ∃ n7 : Int, v5 = .int .u32 n7 ∧
 CW.Spec Tryz.prog 94 #[.slice none 0 0, .int .u32 n7] w6 fun v8 w9 =>
 CW.Spec Tryz.prog 93 #[v8, v4] w9 fun v10 w11 =>
 ∃ b12 : Bool, v10 = .bool b12 ∧
 cond (!b12)
 (R (.tuple #[.slice none 0 0, .int .i64 4]) w11)
 (CW.Spec Tryz.prog 85 #[v2] w11 fun v13 w14 =>
 CW.Spec Tryz.prog 96 #[v13] w14 fun v15 w16 =>
 R (.tuple #[v15, .int .i64 0]) w16))
theorem q15W (p0 w R) (h : q15F p0 w R) : CW.Spec Tryz.prog 29 #[p0] w R :=
 sp Tryz.func29 h
def q16F (p0 : Value) (w : World) (R : KV) : Prop :=
 CW.Spec Tryz.prog 85 #[p0] w fun v0 w1 =>
 CW.Spec Tryz.prog 95 #[p0] w1 fun v2 w3 =>
 ∃ n4 : Int, v2 = .int .u32 n4 ∧
 CW.Spec Tryz.prog 94 #[v0, .int .u32 n4] w3 fun v5 w6 =>
 CW.Spec Tryz.prog 96 #[v5] w6 fun v7 w8 =>
 R v7 w8
theorem q16W (p0 w R) (h : q16F p0 w R) : CW.Spec Tryz.prog 218 #[p0] w R :=
 sp Tryz.func218 h
def q89F (p0 : Value) (p1 : Value) (w : World) (R : KV) : Prop :=
 ∃ m0 : Nat, ((sliceLen p0) = (some m0)) ∧
 ∃ m1 : Nat, ((sliceLen p1) = (some m1)) ∧
 cond (((m0 : Nat) : Int) != ((m1 : Nat) : Int))
 (R (.bool false) w)
 (∃ m2 : Nat, ((sliceLen p0) = (some m2)) ∧
 LoopP [.int .i64]
 (fun j3 => fun (n4 : Int) => fun (w5 : World) =>
 cond (decide (n4 < ((m2 : Nat) : Int)))
 (∃ a6 : Addr, ((sliceAt p0 n4 1) = (some a6)) ∧
 ∃ n7 : Int, ((World.cell? (World.drew w5) a6) = (some (.int .u8 n7))) ∧
 ∃ a8 : Addr, ((sliceAt p1 n4 1) = (some a8)) ∧
 ∃ n9 : Int, ((World.cell? (World.drew w5) a8) = (some (.int .u8 n9))) ∧
 cond (n7 != n9)
 (R (.bool false) (World.drew w5))
 (j3 (IntKind.wrap .i64 (n4 + 1)) (World.drew w5)))
 (R (.bool true) w5))
 (fun s10 => s10 (0 : Int) w))
theorem q89W (p0 p1 w R) (h : q89F p0 p1 w R) : CW.Spec Tryz.prog 93 #[p0, p1] w R :=
 sp Tryz.func93 h
def q18F (p0 : Value) (p1 : Int) (w : World) (R : KV) : Prop :=
 ∃ v0 : Value, ∃ w1 : World, ((Sem.run Tryz.prog (Builtin.append_ #[34, 34] 34 #[p0, (.slice (some ⟨w.heap.size, 0, none⟩) 4 4)]) (World.alloc w (.cells #[(.int .u8 (IntKind.wrap .u8 p1)), (.int .u8 (IntKind.wrap .u8 (Int.fdiv p1 (256 : Int)))), (.int .u8 (IntKind.wrap .u8 (Int.fdiv p1 (65536 : Int)))), (.int .u8 (IntKind.wrap .u8 (Int.fdiv p1 (16777216 : Int))))] 5))) = (.ok v0 w1)) ∧
 R v0 w1
theorem q18W (p0 p1 w R) (h : q18F p0 p1 w R) : CW.Spec Tryz.prog 94 #[p0, .int .u32 p1] w R :=
 sp Tryz.func94 h
def q17F (p0 : Value) (w : World) (R : KV) : Prop :=
 CW.Spec Tryz.prog 183 #[.int .u32 0, p0] w fun v0 w1 =>
 ∃ n2 : Int, v0 = .int .u32 n2 ∧
 R (.int .u32 n2) w1
theorem q17W (p0 w R) (h : q17F p0 w R) : CW.Spec Tryz.prog 95 #[p0] w R :=
 sp Tryz.func95 h
def q14F (p0 : Int) (p1 : Value) (w : World) (R : KV) : Prop :=
 CW.Spec Tryz.prog 250 #[] w fun v0 w1 =>
 ∃ n2 : Int, ∃ n3 : Int, ∃ n4 : Int, ∃ n5 : Int, ∃ n6 : Int, ∃ n7 : Int, ∃ n8 : Int, ∃ n9 : Int, ∃ n10 : Int, ∃ n11 : Int, ∃ n12 : Int, ∃ n13 : Int, ∃ n14 : Int, ∃ n15 : Int, ∃ n16 : Int, ∃ n17 : Int, v0 = .agg #[.int .u32 n2, .int .u32 n3, .int .u32 n4, .int .u32 n5, .int .u32 n6, .int .u32 n7, .int .u32 n8, .int .u32 n9, .int .u32 n10, .int .u32 n11, .int .u32 n12, .int .u32 n13, .int .u32 n14, .int .u32 n15, .int .u32 n16, .int .u32 n17] ∧
 CW.Spec Tryz.prog 249 #[(.agg #[.int .u32 n2, .int .u32 n3, .int .u32 n4, .int .u32 n5, .int .u32 n6, .int .u32 n7, .int .u32 n8, .int .u32 n9, .int .u32 n10, .int .u32 n11, .int .u32 n12, .int .u32 n13, .int .u32 n14, .int .u32 n15, .int .u32 n16, .int .u32 n17]), .int .u32 p0, p1] w1 fun v18 w19 =>
 ∃ n20 : Int, v18 = .int .u32 n20 ∧
 R (.int .u32 n20) w19
theorem q14W (p0 p1 w R) (h : q14F p0 p1 w R) : CW.Spec Tryz.prog 183 #[.int .u32 p0, p1] w R :=
 sp Tryz.func183 h
def q19F (p0_0 : Int) (p0_1 : Int) (p0_2 : Int) (p0_3 : Int) (p0_4 : Int) (p0_5 : Int) (p0_6 : Int) (p0_7 : Int) (p0_8 : Int) (p0_9 : Int) (p0_10 : Int) (p0_11 : Int) (p0_12 : Int) (p0_13 : Int) (p0_14 : Int) (p0_15 : Int) (p1 : Int) (p2 : Value) (w : World) (R : KV) : Prop :=
 ∃ m0 : Nat, ((sliceLen p2) = (some m0)) ∧
 LoopP [.int .u32, .int .i64]
 (fun j1 => fun (n2 : Int) => fun (n3 : Int) => fun (w4 : World) =>
 cond (decide (n3 < ((m0 : Nat) : Int)))
 (∃ a5 : Addr, ((sliceAt p2 n3 1) = (some a5)) ∧
 ∃ n6 : Int, ((World.cell? w4 a5) = (some (.int .u8 n6))) ∧
 (inR (bitsI .and .u32 (bitsI .xor .u32 n2 (IntKind.wrap .u32 n6)) (15 : Int)) 16) ∧
 ∃ n7 : Int, ((World.cell? w4 (Addr.add ⟨w.heap.size, 0, none⟩ ((Int.toNat (bitsI .and .u32 (bitsI .xor .u32 n2 (IntKind.wrap .u32 n6)) (15 : Int))) * 1))) = (some (.int .u32 n7))) ∧
 (inR (bitsI .and .u32 (bitsI .xor .u32 (Int.fdiv (bitsI .xor .u32 n2 (IntKind.wrap .u32 n6)) (16 : Int)) n7) (15 : Int)) 16) ∧
 ∃ n8 : Int, ((World.cell? w4 (Addr.add ⟨w.heap.size, 0, none⟩ ((Int.toNat (bitsI .and .u32 (bitsI .xor .u32 (Int.fdiv (bitsI .xor .u32 n2 (IntKind.wrap .u32 n6)) (16 : Int)) n7) (15 : Int))) * 1))) = (some (.int .u32 n8))) ∧
 j1 (bitsI .xor .u32 (Int.fdiv (bitsI .xor .u32 (Int.fdiv (bitsI .xor .u32 n2 (IntKind.wrap .u32 n6)) (16 : Int)) n7) (16 : Int)) n8) (IntKind.wrap .i64 (n3 + 1)) w4)
 (R (.int .u32 (bitsI .xor .u32 (4294967295 : Int) n2)) w4))
 (fun s9 => s9 (bitsI .xor .u32 (4294967295 : Int) p1) (0 : Int) (World.alloc w (.cells #[.int .u32 p0_0, .int .u32 p0_1, .int .u32 p0_2, .int .u32 p0_3, .int .u32 p0_4, .int .u32 p0_5, .int .u32 p0_6, .int .u32 p0_7, .int .u32 p0_8, .int .u32 p0_9, .int .u32 p0_10, .int .u32 p0_11, .int .u32 p0_12, .int .u32 p0_13, .int .u32 p0_14, .int .u32 p0_15] 369)))
theorem q19W (p0_0 p0_1 p0_2 p0_3 p0_4 p0_5 p0_6 p0_7 p0_8 p0_9 p0_10 p0_11 p0_12 p0_13 p0_14 p0_15 p1 p2 w R) (h : q19F p0_0 p0_1 p0_2 p0_3 p0_4 p0_5 p0_6 p0_7 p0_8 p0_9 p0_10 p0_11 p0_12 p0_13 p0_14 p0_15 p1 p2 w R) : CW.Spec Tryz.prog 249 #[(.agg #[.int .u32 p0_0, .int .u32 p0_1, .int .u32 p0_2, .int .u32 p0_3, .int .u32 p0_4, .int .u32 p0_5, .int .u32 p0_6, .int .u32 p0_7, .int .u32 p0_8, .int .u32 p0_9, .int .u32 p0_10, .int .u32 p0_11, .int .u32 p0_12, .int .u32 p0_13, .int .u32 p0_14, .int .u32 p0_15]), .int .u32 p1, p2] w R :=
 sp Tryz.func249 h
def q20F  (w : World) (R : KV) : Prop :=
 LoopP [.int .i64]
 (fun j0 => fun (n1 : Int) => fun (w2 : World) =>
 cond (decide (n1 < 16))
 (LoopP [.int .u32, .int .i64]
 (fun j3 => fun (n4 : Int) => fun (n5 : Int) => fun (w6 : World) =>
 cond (decide (n5 < 4))
 (j3 (bitsI .xor .u32 (Int.fdiv n4 (2 : Int)) (bitsI .and .u32 (IntKind.wrap .u32 ((0 : Int) - (bitsI .and .u32 n4 (1 : Int)))) (2197175160 : Int))) (IntKind.wrap .i64 (n5 + 1)) w6)
 ((inR n1 16) ∧
 (St1 w6 (Addr.add ⟨(Array.size (World.heap (World.alloc w (.cells #[.int .u32 0, .int .u32 0, .int .u32 0, .int .u32 0, .int .u32 0, .int .u32 0, .int .u32 0, .int .u32 0, .int .u32 0, .int .u32 0, .int .u32 0, .int .u32 0, .int .u32 0, .int .u32 0, .int .u32 0, .int .u32 0] 369)))), 0, none⟩ ((Int.toNat n1) * 1))) ∧
 j0 (IntKind.wrap .i64 (n1 + 1)) (World.setCell w6 (Addr.add ⟨(Array.size (World.heap (World.alloc w (.cells #[.int .u32 0, .int .u32 0, .int .u32 0, .int .u32 0, .int .u32 0, .int .u32 0, .int .u32 0, .int .u32 0, .int .u32 0, .int .u32 0, .int .u32 0, .int .u32 0, .int .u32 0, .int .u32 0, .int .u32 0, .int .u32 0] 369)))), 0, none⟩ ((Int.toNat n1) * 1)) (.int .u32 n4))))
 (fun s7 => s7 (IntKind.wrap .u32 n1) (0 : Int) w2))
 (∃ n8 : Int, ∃ n9 : Int, ∃ n10 : Int, ∃ n11 : Int, ∃ n12 : Int, ∃ n13 : Int, ∃ n14 : Int, ∃ n15 : Int, ∃ n16 : Int, ∃ n17 : Int, ∃ n18 : Int, ∃ n19 : Int, ∃ n20 : Int, ∃ n21 : Int, ∃ n22 : Int, ∃ n23 : Int, (ldCells w2 ⟨(Array.size (World.heap (World.alloc w (.cells #[.int .u32 0, .int .u32 0, .int .u32 0, .int .u32 0, .int .u32 0, .int .u32 0, .int .u32 0, .int .u32 0, .int .u32 0, .int .u32 0, .int .u32 0, .int .u32 0, .int .u32 0, .int .u32 0, .int .u32 0, .int .u32 0] 369)))), 0, none⟩ 16 #[.int .u32 n8, .int .u32 n9, .int .u32 n10, .int .u32 n11, .int .u32 n12, .int .u32 n13, .int .u32 n14, .int .u32 n15, .int .u32 n16, .int .u32 n17, .int .u32 n18, .int .u32 n19, .int .u32 n20, .int .u32 n21, .int .u32 n22, .int .u32 n23]) ∧
 (StRow w2 ⟨w.heap.size, 0, none⟩ #[.int .u32 n8, .int .u32 n9, .int .u32 n10, .int .u32 n11, .int .u32 n12, .int .u32 n13, .int .u32 n14, .int .u32 n15, .int .u32 n16, .int .u32 n17, .int .u32 n18, .int .u32 n19, .int .u32 n20, .int .u32 n21, .int .u32 n22, .int .u32 n23]) ∧
 ∃ n24 : Int, ∃ n25 : Int, ∃ n26 : Int, ∃ n27 : Int, ∃ n28 : Int, ∃ n29 : Int, ∃ n30 : Int, ∃ n31 : Int, ∃ n32 : Int, ∃ n33 : Int, ∃ n34 : Int, ∃ n35 : Int, ∃ n36 : Int, ∃ n37 : Int, ∃ n38 : Int, ∃ n39 : Int, (ldCells (stRow w2 ⟨w.heap.size, 0, none⟩ #[.int .u32 n8, .int .u32 n9, .int .u32 n10, .int .u32 n11, .int .u32 n12, .int .u32 n13, .int .u32 n14, .int .u32 n15, .int .u32 n16, .int .u32 n17, .int .u32 n18, .int .u32 n19, .int .u32 n20, .int .u32 n21, .int .u32 n22, .int .u32 n23]) ⟨w.heap.size, 0, none⟩ 16 #[.int .u32 n24, .int .u32 n25, .int .u32 n26, .int .u32 n27, .int .u32 n28, .int .u32 n29, .int .u32 n30, .int .u32 n31, .int .u32 n32, .int .u32 n33, .int .u32 n34, .int .u32 n35, .int .u32 n36, .int .u32 n37, .int .u32 n38, .int .u32 n39]) ∧
 R (.agg #[.int .u32 n24, .int .u32 n25, .int .u32 n26, .int .u32 n27, .int .u32 n28, .int .u32 n29, .int .u32 n30, .int .u32 n31, .int .u32 n32, .int .u32 n33, .int .u32 n34, .int .u32 n35, .int .u32 n36, .int .u32 n37, .int .u32 n38, .int .u32 n39]) (stRow w2 ⟨w.heap.size, 0, none⟩ #[.int .u32 n8, .int .u32 n9, .int .u32 n10, .int .u32 n11, .int .u32 n12, .int .u32 n13, .int .u32 n14, .int .u32 n15, .int .u32 n16, .int .u32 n17, .int .u32 n18, .int .u32 n19, .int .u32 n20, .int .u32 n21, .int .u32 n22, .int .u32 n23])))
 (fun s40 => s40 (0 : Int) (World.alloc (World.alloc w (.cells #[.int .u32 0, .int .u32 0, .int .u32 0, .int .u32 0, .int .u32 0, .int .u32 0, .int .u32 0, .int .u32 0, .int .u32 0, .int .u32 0, .int .u32 0, .int .u32 0, .int .u32 0, .int .u32 0, .int .u32 0, .int .u32 0] 369)) (.cells #[.int .u32 0, .int .u32 0, .int .u32 0, .int .u32 0, .int .u32 0, .int .u32 0, .int .u32 0, .int .u32 0, .int .u32 0, .int .u32 0, .int .u32 0, .int .u32 0, .int .u32 0, .int .u32 0, .int .u32 0, .int .u32 0] 369)))
theorem q20W  (w : World) (R : KV) (h : q20F  w R) : CW.Spec Tryz.prog 250 #[] w R :=
 sp Tryz.func250 h
end Go.Proofs.YtghineciiljeoaaGreatDoor
