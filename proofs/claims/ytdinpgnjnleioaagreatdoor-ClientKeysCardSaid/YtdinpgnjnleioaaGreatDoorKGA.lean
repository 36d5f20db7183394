/- Texts of this seat, one behind the other: GFun, GWit, GPdu, GSen, GWrg, GCdb, GCdd, GPrm. -/
import Derived.Test.YtdinpgnjnleioaaGreatDoorKNam
set_option linter.unusedVariables false
set_option maxRecDepth 100000
namespace Go.Proofs.YtdinpgnjnleioaaGreatDoor
section
open Go Go.CW
def q1F (p0 : Value) (p1 : Int) (p2 : Int) (w : World) (R : KV) : Prop :=
 JoinP [.bool]
 (fun (b0 : Bool) => fun w1 =>
 cond b0
 (R (.tuple #[.int .u64 0, .bool false]) w1)
 (∃ v2 : Value, ((subSlice p0 1 (some (.int .i64 p1)) (some (.int .i64 (IntKind.wrap .i64 (p1 + p2)))) none) = (some v2)) ∧
 ∃ m3 : Nat, ((sliceLen v2) = (some m3)) ∧
 LoopP [.int .u64, .int .i64]
 (fun j4 => fun (n5 : Int) => fun (n6 : Int) => fun w7 =>
 cond (decide (n6 < ((m3 : Nat) : Int)))
 (∃ a8 : Addr, ((sliceAt v2 n6 1) = (some a8)) ∧
 ∃ n9 : Int, World.cell? w7 a8 = some (.int .u8 n9) ∧
 j4 (bitsI .or .u64 (IntKind.wrap .u64 (n5 * 256)) (IntKind.wrap .u64 n9)) (IntKind.wrap .i64 (n6 + 1)) w7)
 (R (.tuple #[.int .u64 n5, .bool true]) w7))
 (fun s10 => s10 (0 : Int) (0 : Int) w1)))
 (fun j11 =>
 cond (decide (p2 < 1))
 (j11 true w)
 (cond (decide (p2 > 8))
 (j11 true w)
 (cond (decide (p1 < 0))
 (j11 true w)
 (∃ m12 : Nat, ((sliceLen p0) = (some m12)) ∧
 cond (decide (p1 > ((m12 : Nat) : Int)))
 (j11 true w)
 (∃ m13 : Nat, ((sliceLen p0) = (some m13)) ∧
 j11 (decide (p2 > (IntKind.wrap .i64 (((m13 : Nat) : Int) - p1)))) w)))))
theorem q1W (p0 p1 p2 w R) (h : q1F p0 p1 p2 w R) : CW.Spec Tryz.prog 185 #[p0, .int .i64 p1, .int .i64 p2] w R :=
 sp Tryz.func185 h
def q4F (p0 : Value) (p1 : Int) (p2 : Int) (w : World) (R : KV) : Prop :=
 CW.Spec Tryz.prog 86 #[p0] w fun v0 w1 =>
 JoinP [.bool]
 (fun (b2 : Bool) => fun w3 =>
 cond b2
 (R v0 w3)
 (LoopP [.val, .int .i64]
 (fun j4 v5 => fun (n6 : Int) => fun w7 =>
 cond (decide (n6 ≥ 0))
 (leK (IntKind.wrap .i64 ((8 : Int) * n6)) (∃ v8 : Value, ∃ w9 : World, Sem.run Tryz.prog (Builtin.append_ #[33, 33] 33 #[v5, (.slice (some ⟨w7.heap.size, 0, none⟩) 1 1)]) (World.alloc w7 (.cells #[(.int .u8 (IntKind.wrap .u8 (Int.fdiv p1 ((2 : Int) ^ (min (Int.toNat (IntKind.wrap .i64 ((8 : Int) * n6))) 64)))))] 5)) = .ok v8 w9 ∧
 j4 v8 (IntKind.wrap .i64 (n6 - 1)) w9))
 (CW.Spec Tryz.prog 72 #[v5] w7 fun v10 w11 =>
 R v10 w11))
 (fun s12 => s12 v0 (IntKind.wrap .i64 (p2 - 1)) w3)))
 (fun j13 =>
 cond (decide (p2 < 1))
 (j13 true w1)
 (j13 (decide (p2 > 8)) w1))
theorem q4W (p0 p1 p2 w R) (h : q4F p0 p1 p2 w R) : CW.Spec Tryz.prog 84 #[p0, .int .u64 p1, .int .i64 p2] w R :=
 sp Tryz.func84 h
def q99F (p0 : Value) (w : World) (R : KV) : Prop :=
 ∃ m0 : Nat, ((sliceLen p0) = (some m0)) ∧
 ∃ m1 : Nat, ((sliceLen p0) = (some m1)) ∧
 ∃ v2 : Value, ((subSlice p0 1 none (some (.int .i64 (m0 : Nat))) (some (.int .i64 (m1 : Nat)))) = (some v2)) ∧
 R v2 w
theorem q99W (p0 w R) (h : q99F p0 w R) : CW.Spec Tryz.prog 72 #[p0] w R :=
 sp Tryz.func72 h
def q101F (p0 : Value) (w : World) (R : KV) : Prop :=
 ∃ b0 : Bool, ((Go.CW.isNilS p0) = (some b0)) ∧
 cond b0
 (R nvc w)
 (∃ v1 : Value, ∃ w2 : World, Sem.run Tryz.prog (Builtin.append_ #[33, 33] 33 #[(.slice (some ⟨w.heap.size, 0, none⟩) 0 0), p0]) (World.alloc w (.cells #[] 5)) = .ok v1 w2 ∧
 R v1 w2)
theorem q101W (p0 w R) (h : q101F p0 w R) : CW.Spec Tryz.prog 86 #[p0] w R :=
 sp Tryz.func86 h
def q0F (p0 : Int) (p1 : Int) (w : World) (R : KV) : Prop :=
 R (.int .i64 (IntKind.wrap .i64 (IntKind.wrap .i32 (IntKind.wrap .u32 (p1 - p0))))) w
theorem q0W (p0 p1 w R) (h : q0F p0 p1 w R) : CW.Spec Tryz.prog 135 #[.int .u32 p0, .int .u32 p1] w R :=
 sp Tryz.func135 h
def q106F (p0 : Value) (p1 : Value) (w : World) (R : KV) : Prop :=
 ∃ m0 : Nat, ((sliceLen p0) = (some m0)) ∧
 ∃ m1 : Nat, ((sliceLen p1) = (some m1)) ∧
 cond (((m0 : Nat) : Int) != ((m1 : Nat) : Int))
 (R (.bool false) w)
 (∃ m2 : Nat, ((sliceLen p0) = (some m2)) ∧
 LoopP [.int .i64]
 (fun j3 => fun (n4 : Int) => fun w5 =>
 cond (decide (n4 < ((m2 : Nat) : Int)))
 (∃ a6 : Addr, ((sliceAt p0 n4 1) = (some a6)) ∧
 ∃ n7 : Int, World.cell? (World.drew w5) a6 = some (.int .u8 n7) ∧
 ∃ a8 : Addr, ((sliceAt p1 n4 1) = (some a8)) ∧
 ∃ n9 : Int, World.cell? (World.drew w5) a8 = some (.int .u8 n9) ∧
 cond (n7 != n9)
 (R (.bool false) (World.drew w5))
 (j3 (IntKind.wrap .i64 (n4 + 1)) (World.drew w5)))
 (R (.bool true) w5))
 (fun s10 => s10 (0 : Int) w))
theorem q106W (p0 p1 w R) (h : q106F p0 p1 w R) : CW.Spec Tryz.prog 144 #[p0, p1] w R :=
 sp Tryz.func144 h
def q32F (p0 : Value) (w : World) (R : KV) : Prop :=
 CW.Spec Tryz.prog 217 #[.int .u32 0, p0] w fun v0 w1 =>
 ∃ n2 : Int, v0 = .int .u32 n2 ∧
 R (.int .u32 n2) w1
theorem q32W (p0 w R) (h : q32F p0 w R) : CW.Spec Tryz.prog 186 #[p0] w R :=
 sp Tryz.func186 h
def q2F (p0 : Int) (p1 : Int) (w : World) (R : KV) : Prop :=
 CW.Spec Tryz.prog 135 #[.int .u32 p0, .int .u32 p1] w fun v0 w1 =>
 ∃ n2 : Int, v0 = .int .i64 n2 ∧
 R (.bool (decide (n2 > 0))) w1
theorem q2W (p0 p1 w R) (h : q2F p0 p1 w R) : CW.Spec Tryz.prog 137 #[.int .u32 p0, .int .u32 p1] w R :=
 sp Tryz.func137 h
def q31F (p0 : Int) (p1 : Value) (w : World) (R : KV) : Prop :=
 CW.Spec Tryz.prog 233 #[] w fun v0 w1 =>
 ∃ n2 : Int, ∃ n3 : Int, ∃ n4 : Int, ∃ n5 : Int, ∃ n6 : Int, ∃ n7 : Int, ∃ n8 : Int, ∃ n9 : Int, ∃ n10 : Int, ∃ n11 : Int, ∃ n12 : Int, ∃ n13 : Int, ∃ n14 : Int, ∃ n15 : Int, ∃ n16 : Int, ∃ n17 : Int, v0 = .agg #[.int .u32 n2, .int .u32 n3, .int .u32 n4, .int .u32 n5, .int .u32 n6, .int .u32 n7, .int .u32 n8, .int .u32 n9, .int .u32 n10, .int .u32 n11, .int .u32 n12, .int .u32 n13, .int .u32 n14, .int .u32 n15, .int .u32 n16, .int .u32 n17] ∧
 CW.Spec Tryz.prog 232 #[(.agg #[.int .u32 n2, .int .u32 n3, .int .u32 n4, .int .u32 n5, .int .u32 n6, .int .u32 n7, .int .u32 n8, .int .u32 n9, .int .u32 n10, .int .u32 n11, .int .u32 n12, .int .u32 n13, .int .u32 n14, .int .u32 n15, .int .u32 n16, .int .u32 n17]), .int .u32 p0, p1] w1 fun v18 w19 =>
 ∃ n20 : Int, v18 = .int .u32 n20 ∧
 R (.int .u32 n20) w19
theorem q31W (p0 p1 w R) (h : q31F p0 p1 w R) : CW.Spec Tryz.prog 217 #[.int .u32 p0, p1] w R :=
 sp Tryz.func217 h
def q33F (p0_0 : Int) (p0_1 : Int) (p0_2 : Int) (p0_3 : Int) (p0_4 : Int) (p0_5 : Int) (p0_6 : Int) (p0_7 : Int) (p0_8 : Int) (p0_9 : Int) (p0_10 : Int) (p0_11 : Int) (p0_12 : Int) (p0_13 : Int) (p0_14 : Int) (p0_15 : Int) (p1 : Int) (p2 : Value) (w : World) (R : KV) : Prop :=
 ∃ m0 : Nat, ((sliceLen p2) = (some m0)) ∧
 LoopP [.int .u32, .int .i64]
 (fun j1 => fun (n2 : Int) => fun (n3 : Int) => fun w4 =>
 cond (decide (n3 < ((m0 : Nat) : Int)))
 (∃ a5 : Addr, ((sliceAt p2 n3 1) = (some a5)) ∧
 ∃ n6 : Int, World.cell? w4 a5 = some (.int .u8 n6) ∧
 (inR (bitsI .and .u32 (bitsI .xor .u32 n2 (IntKind.wrap .u32 n6)) (15 : Int)) 16) ∧
 ∃ n7 : Int, World.cell? w4 (Addr.add ⟨w.heap.size, 0, none⟩ ((Int.toNat (bitsI .and .u32 (bitsI .xor .u32 n2 (IntKind.wrap .u32 n6)) (15 : Int))) * 1)) = some (.int .u32 n7) ∧
 (inR (bitsI .and .u32 (bitsI .xor .u32 (Int.fdiv (bitsI .xor .u32 n2 (IntKind.wrap .u32 n6)) (16 : Int)) n7) (15 : Int)) 16) ∧
 ∃ n8 : Int, World.cell? w4 (Addr.add ⟨w.heap.size, 0, none⟩ ((Int.toNat (bitsI .and .u32 (bitsI .xor .u32 (Int.fdiv (bitsI .xor .u32 n2 (IntKind.wrap .u32 n6)) (16 : Int)) n7) (15 : Int))) * 1)) = some (.int .u32 n8) ∧
 j1 (bitsI .xor .u32 (Int.fdiv (bitsI .xor .u32 (Int.fdiv (bitsI .xor .u32 n2 (IntKind.wrap .u32 n6)) (16 : Int)) n7) (16 : Int)) n8) (IntKind.wrap .i64 (n3 + 1)) w4)
 (R (.int .u32 (bitsI .xor .u32 (4294967295 : Int) n2)) w4))
 (fun s9 => s9 (bitsI .xor .u32 (4294967295 : Int) p1) (0 : Int) (World.alloc w (.cells #[.int .u32 p0_0, .int .u32 p0_1, .int .u32 p0_2, .int .u32 p0_3, .int .u32 p0_4, .int .u32 p0_5, .int .u32 p0_6, .int .u32 p0_7, .int .u32 p0_8, .int .u32 p0_9, .int .u32 p0_10, .int .u32 p0_11, .int .u32 p0_12, .int .u32 p0_13, .int .u32 p0_14, .int .u32 p0_15] 304)))
theorem q33W (p0_0 p0_1 p0_2 p0_3 p0_4 p0_5 p0_6 p0_7 p0_8 p0_9 p0_10 p0_11 p0_12 p0_13 p0_14 p0_15 p1 p2 w R) (h : q33F p0_0 p0_1 p0_2 p0_3 p0_4 p0_5 p0_6 p0_7 p0_8 p0_9 p0_10 p0_11 p0_12 p0_13 p0_14 p0_15 p1 p2 w R) : CW.Spec Tryz.prog 232 #[(.agg #[.int .u32 p0_0, .int .u32 p0_1, .int .u32 p0_2, .int .u32 p0_3, .int .u32 p0_4, .int .u32 p0_5, .int .u32 p0_6, .int .u32 p0_7, .int .u32 p0_8, .int .u32 p0_9, .int .u32 p0_10, .int .u32 p0_11, .int .u32 p0_12, .int .u32 p0_13, .int .u32 p0_14, .int .u32 p0_15]), .int .u32 p1, p2] w R :=
 sp Tryz.func232 h
def q34F  (w : World) (R : KV) : Prop :=
 LoopP [.int .i64]
 (fun j0 => fun (n1 : Int) => fun w2 =>
 cond (decide (n1 < 16))
 (LoopP [.int .u32, .int .i64]
 (fun j3 => fun (n4 : Int) => fun (n5 : Int) => fun w6 =>
 cond (decide (n5 < 4))
 (j3 (bitsI .xor .u32 (Int.fdiv n4 (2 : Int)) (bitsI .and .u32 (IntKind.wrap .u32 ((0 : Int) - (bitsI .and .u32 n4 (1 : Int)))) (2197175160 : Int))) (IntKind.wrap .i64 (n5 + 1)) w6)
 ((inR n1 16) ∧
 St1 w6 (Addr.add ⟨(Array.size (World.heap (World.alloc w (.cells #[.int .u32 0, .int .u32 0, .int .u32 0, .int .u32 0, .int .u32 0, .int .u32 0, .int .u32 0, .int .u32 0, .int .u32 0, .int .u32 0, .int .u32 0, .int .u32 0, .int .u32 0, .int .u32 0, .int .u32 0, .int .u32 0] 304)))), 0, none⟩ ((Int.toNat n1) * 1)) ∧
 j0 (IntKind.wrap .i64 (n1 + 1)) (World.setCell w6 (Addr.add ⟨(Array.size (World.heap (World.alloc w (.cells #[.int .u32 0, .int .u32 0, .int .u32 0, .int .u32 0, .int .u32 0, .int .u32 0, .int .u32 0, .int .u32 0, .int .u32 0, .int .u32 0, .int .u32 0, .int .u32 0, .int .u32 0, .int .u32 0, .int .u32 0, .int .u32 0] 304)))), 0, none⟩ ((Int.toNat n1) * 1)) (.int .u32 n4))))
 (fun s7 => s7 (IntKind.wrap .u32 n1) (0 : Int) w2))
 (∃ n8 : Int, ∃ n9 : Int, ∃ n10 : Int, ∃ n11 : Int, ∃ n12 : Int, ∃ n13 : Int, ∃ n14 : Int, ∃ n15 : Int, ∃ n16 : Int, ∃ n17 : Int, ∃ n18 : Int, ∃ n19 : Int, ∃ n20 : Int, ∃ n21 : Int, ∃ n22 : Int, ∃ n23 : Int, (ldCells w2 ⟨(Array.size (World.heap (World.alloc w (.cells #[.int .u32 0, .int .u32 0, .int .u32 0, .int .u32 0, .int .u32 0, .int .u32 0, .int .u32 0, .int .u32 0, .int .u32 0, .int .u32 0, .int .u32 0, .int .u32 0, .int .u32 0, .int .u32 0, .int .u32 0, .int .u32 0] 304)))), 0, none⟩ 16 #[.int .u32 n8, .int .u32 n9, .int .u32 n10, .int .u32 n11, .int .u32 n12, .int .u32 n13, .int .u32 n14, .int .u32 n15, .int .u32 n16, .int .u32 n17, .int .u32 n18, .int .u32 n19, .int .u32 n20, .int .u32 n21, .int .u32 n22, .int .u32 n23]) ∧
 StRow w2 ⟨w.heap.size, 0, none⟩ #[.int .u32 n8, .int .u32 n9, .int .u32 n10, .int .u32 n11, .int .u32 n12, .int .u32 n13, .int .u32 n14, .int .u32 n15, .int .u32 n16, .int .u32 n17, .int .u32 n18, .int .u32 n19, .int .u32 n20, .int .u32 n21, .int .u32 n22, .int .u32 n23] ∧
 ∃ n24 : Int, ∃ n25 : Int, ∃ n26 : Int, ∃ n27 : Int, ∃ n28 : Int, ∃ n29 : Int, ∃ n30 : Int, ∃ n31 : Int, ∃ n32 : Int, ∃ n33 : Int, ∃ n34 : Int, ∃ n35 : Int, ∃ n36 : Int, ∃ n37 : Int, ∃ n38 : Int, ∃ n39 : Int, (ldCells (stRow w2 ⟨w.heap.size, 0, none⟩ #[.int .u32 n8, .int .u32 n9, .int .u32 n10, .int .u32 n11, .int .u32 n12, .int .u32 n13, .int .u32 n14, .int .u32 n15, .int .u32 n16, .int .u32 n17, .int .u32 n18, .int .u32 n19, .int .u32 n20, .int .u32 n21, .int .u32 n22, .int .u32 n23]) ⟨w.heap.size, 0, none⟩ 16 #[.int .u32 n24, .int .u32 n25, .int .u32 n26, .int .u32 n27, .int .u32 n28, .int .u32 n29, .int .u32 n30, .int .u32 n31, .int .u32 n32, .int .u32 n33, .int .u32 n34, .int .u32 n35, .int .u32 n36, .int .u32 n37, .int .u32 n38, .int .u32 n39]) ∧
 R (.agg #[.int .u32 n24, .int .u32 n25, .int .u32 n26, .int .u32 n27, .int .u32 n28, .int .u32 n29, .int .u32 n30, .int .u32 n31, .int .u32 n32, .int .u32 n33, .int .u32 n34, .int .u32 n35, .int .u32 n36, .int .u32 n37, .int .u32 n38, .int .u32 n39]) (stRow w2 ⟨w.heap.size, 0, none⟩ #[.int .u32 n8, .int .u32 n9, .int .u32 n10, .int .u32 n11, .int .u32 n12, .int .u32 n13, .int .u32 n14, .int .u32 n15, .int .u32 n16, .int .u32 n17, .int .u32 n18, .int .u32 n19, .int .u32 n20, .int .u32 n21, .int .u32 n22, .int .u32 n23])))
 (fun s40 => s40 (0 : Int) (World.alloc (World.alloc w (.cells #[.int .u32 0, .int .u32 0, .int .u32 0, .int .u32 0, .int .u32 0, .int .u32 0, .int .u32 0, .int .u32 0, .int .u32 0, .int .u32 0, .int .u32 0, .int .u32 0, .int .u32 0, .int .u32 0, .int .u32 0, .int .u32 0] 304)) (.cells #[.int .u32 0, .int .u32 0, .int .u32 0, .int .u32 0, .int .u32 0, .int .u32 0, .int .u32 0, .int .u32 0, .int .u32 0, .int .u32 0, .int .u32 0, .int .u32 0, .int .u32 0, .int .u32 0, .int .u32 0, .int .u32 0] 304)))
theorem q34W  (w : World) (R : KV) (h : q34F  w R) : CW.Spec Tryz.prog 233 #[] w R :=
 sp Tryz.func233 h
def q64F (p0 : Value) (p1 : Int) (p2 : Int) (w : World) (R : KV) : Prop :=
 JoinP [.bool]
 (fun (b0 : Bool) => fun w1 =>
 cond b0
 (R p0 w1)
 (LoopP [.val, .int .i64]
 (fun j2 v3 => fun (n4 : Int) => fun w5 =>
 cond (decide (n4 ≥ 0))
 (leK (IntKind.wrap .u64 ((8 : Int) * (IntKind.wrap .u64 n4))) (∃ v6 : Value, ∃ w7 : World, Sem.run Tryz.prog (Builtin.append_ #[33, 33] 33 #[v3, (.slice (some ⟨w5.heap.size, 0, none⟩) 1 1)]) (World.alloc w5 (.cells #[(.int .u8 (IntKind.wrap .u8 (Int.fdiv p1 ((2 : Int) ^ (min (Int.toNat (IntKind.wrap .u64 ((8 : Int) * (IntKind.wrap .u64 n4)))) 64)))))] 5)) = .ok v6 w7 ∧
 j2 v6 (IntKind.wrap .i64 (n4 - 1)) w7))
 (R v3 w5))
 (fun s8 => s8 p0 (IntKind.wrap .i64 (p2 - 1)) w1)))
 (fun j9 =>
 cond (decide (p2 < 1))
 (j9 true w)
 (j9 (decide (p2 > 8)) w))
theorem q64W (p0 p1 p2 w R) (h : q64F p0 p1 p2 w R) : CW.Spec Tryz.prog 34 #[p0, .int .u64 p1, .int .i64 p2] w R :=
 sp Tryz.func34 h
end
section
open Go Go.CW
def q3F (p0 : Value) (p1 : Int) (w : World) (R : KV) : Prop :=
 CW.Spec Tryz.prog 86 #[p0] w fun v0 w1 =>
 JoinP [.bool]
 (fun (b2 : Bool) => fun w3 =>
 cond b2
 (R v0 w3)
 (LoopP [.val]
 (fun j4 v5 => fun w6 =>
 ∃ m7, sliceLen v5 = some m7 ∧
 nzK p1 (cond ((Int.tmod ((m7 : Nat) : Int) p1) != 0)
 (bindW (World.alloc w6 (.cells #[.int .u8 0] 5)) fun w8 =>
 ∃ v9 w10, Sem.run Tryz.prog (Builtin.append_ #[33, 33] 33 #[v5, (.slice (some ⟨w6.heap.size, 0, none⟩) 1 1)]) w8 = .ok v9 w10 ∧
 j4 v9 w10)
 (CW.Spec Tryz.prog 72 #[v5] w6 fun v11 w12 =>
 R v11 w12)))
 (fun s13 => s13 v0 w3)))
 (fun j14 =>
 cond (decide (p1 < 1))
 (j14 true w1)
 (j14 (decide (p1 > 4096)) w1))
theorem q3W (p0 p1 w R) (h : q3F p0 p1 w R) : CW.Spec Tryz.prog 178 #[p0, .int .i64 p1] w R :=
 sp Tryz.func178 h
end
section
open Go Go.CW
def q84F  (w : World) (R : KV) : Prop :=
 bindW (World.alloc w (.cells #[nvc, .int .i64 0] 159)) fun w0 =>
 R (.pointer (some ⟨w.heap.size, 0, none⟩)) w0
theorem q84W  (w : World) (R : KV) (h : q84F  w R) : CW.Spec Tryz.prog 29 #[] w R :=
 sp Tryz.func29 h
def q87F (p0 : Option Addr) (p1 : Value) (w : World) (R : KV) : Prop :=
 withAddr (.pointer p0) fun a0 =>
 ∃ n1, World.cell? w (Addr.add a0 1) = some (.int .i64 n1) ∧
 cond (n1 == 0)
 (withAddr (.pointer p0) fun a2 =>
 ∃ v3, World.cell? w (Addr.add a2 0) = some v3 ∧
 ∃ v4 w5, Sem.run Tryz.prog (Builtin.append_ #[33, 33] 33 #[v3, p1]) w = .ok v4 w5 ∧
 withAddr (.pointer p0) fun a6 =>
 oneK v4 ((St1 w5 (Addr.add a6 0)) ∧
 bindW (World.setCell w5 (Addr.add a6 0) v4) fun w7 =>
 R (.tuple #[]) w7))
 (R (.tuple #[]) w)
theorem q87W (p0 p1 w R) (h : q87F p0 p1 w R) : CW.Spec Tryz.prog 66 #[.pointer p0, p1] w R :=
 sp Tryz.func66 h
def q86F (p0 : Option Addr) (w : World) (R : KV) : Prop :=
 bindW (World.alloc w (.cells (pdc 0 false 0 0 0 0 0 0 0 0 0 0 0 0 0 0 0 0 0 0 0 0 0 0 0 0 nvc) 152)) fun w0 =>
 withAddr (.pointer p0) fun a1 =>
 ∃ n2, World.cell? w0 (Addr.add a1 1) = some (.int .i64 n2) ∧
 cond (n2 != 0)
 ((StRow w0 ⟨w.heap.size, 0, none⟩ (pdc 0 false 0 0 0 0 0 0 0 0 0 0 0 0 0 0 0 0 0 0 0 0 0 0 0 0 nvc)) ∧
 bindW (stRow w0 ⟨w.heap.size, 0, none⟩ (pdc 0 false 0 0 0 0 0 0 0 0 0 0 0 0 0 0 0 0 0 0 0 0 0 0 0 0 nvc)) fun w3 =>
 ∃ n4 b5 n6 n7 n8 n9 n10 n11 n12 n13 n14 n15 n16 n17 n18 n19 n20 n21 n22 n23 n24 n25 n26 n27 n28 n29 v30, (ldCells w3 ⟨w.heap.size, 0, none⟩ 27 (pdc n4 b5 n6 n7 n8 n9 n10 n11 n12 n13 n14 n15 n16 n17 n18 n19 n20 n21 n22 n23 n24 n25 n26 n27 n28 n29 v30)) ∧
 R (.tuple #[(.agg (pdc n4 b5 n6 n7 n8 n9 n10 n11 n12 n13 n14 n15 n16 n17 n18 n19 n20 n21 n22 n23 n24 n25 n26 n27 n28 n29 v30)), .bool false]) w3)
 (withAddr (.pointer p0) fun a31 =>
 ∃ v32, World.cell? w0 (Addr.add a31 0) = some v32 ∧
 CW.Spec Tryz.prog 108 #[v32] w0 fun v33 w34 =>
 ∃ n35 b36 n37 n38 n39 n40 n41 n42 n43 n44 n45 n46 n47 n48 n49 n50 n51 n52 n53 n54 n55 n56 n57 n58 n59 n60 v61 n62 n63, v33 = .tuple #[(.agg (pdc n35 b36 n37 n38 n39 n40 n41 n42 n43 n44 n45 n46 n47 n48 n49 n50 n51 n52 n53 n54 n55 n56 n57 n58 n59 n60 v61)), .int .i64 n62, .int .i64 n63] ∧
 bindW (World.alloc w34 (.cells (pdc 0 false 0 0 0 0 0 0 0 0 0 0 0 0 0 0 0 0 0 0 0 0 0 0 0 0 nvc) 152)) fun w64 =>
 StRow w64 ⟨w34.heap.size, 0, none⟩ (pdc n35 b36 n37 n38 n39 n40 n41 n42 n43 n44 n45 n46 n47 n48 n49 n50 n51 n52 n53 n54 n55 n56 n57 n58 n59 n60 v61) ∧
 bindW (stRow w64 ⟨w34.heap.size, 0, none⟩ (pdc n35 b36 n37 n38 n39 n40 n41 n42 n43 n44 n45 n46 n47 n48 n49 n50 n51 n52 n53 n54 n55 n56 n57 n58 n59 n60 v61)) fun w65 =>
 JoinP []
 (fun w66 =>
 StRow w66 ⟨w.heap.size, 0, none⟩ (pdc 0 false 0 0 0 0 0 0 0 0 0 0 0 0 0 0 0 0 0 0 0 0 0 0 0 0 nvc) ∧
 bindW (stRow w66 ⟨w.heap.size, 0, none⟩ (pdc 0 false 0 0 0 0 0 0 0 0 0 0 0 0 0 0 0 0 0 0 0 0 0 0 0 0 nvc)) fun w67 =>
 ∃ n68 b69 n70 n71 n72 n73 n74 n75 n76 n77 n78 n79 n80 n81 n82 n83 n84 n85 n86 n87 n88 n89 n90 n91 n92 n93 v94, (ldCells w67 ⟨w.heap.size, 0, none⟩ 27 (pdc n68 b69 n70 n71 n72 n73 n74 n75 n76 n77 n78 n79 n80 n81 n82 n83 n84 n85 n86 n87 n88 n89 n90 n91 n92 n93 v94)) ∧
 R (.tuple #[(.agg (pdc n68 b69 n70 n71 n72 n73 n74 n75 n76 n77 n78 n79 n80 n81 n82 n83 n84 n85 n86 n87 n88 n89 n90 n91 n92 n93 v94)), .bool false]) w67)
 (fun j95 =>
 LoopP []
 (fun j96 w97 =>
 cond (n63 == 0)
 (withAddr (.pointer p0) fun a98 =>
 ∃ v99, World.cell? w97 (Addr.add a98 0) = some v99 ∧
 ∃ v100, ((subSlice v99 1 (some (.int .i64 n62)) none none) = (some v100)) ∧
 CW.Spec Tryz.prog 86 #[v100] w97 fun v101 w102 =>
 withAddr (.pointer p0) fun a103 =>
 oneK v101 ((St1 w102 (Addr.add a103 0)) ∧
 bindW (World.setCell w102 (Addr.add a103 0) v101) fun w104 =>
 ∃ n105 b106 n107 n108 n109 n110 n111 n112 n113 n114 n115 n116 n117 n118 n119 n120 n121 n122 n123 n124 n125 n126 n127 n128 n129 n130 v131, (ldCells w104 ⟨w34.heap.size, 0, none⟩ 27 (pdc n105 b106 n107 n108 n109 n110 n111 n112 n113 n114 n115 n116 n117 n118 n119 n120 n121 n122 n123 n124 n125 n126 n127 n128 n129 n130 v131)) ∧
 StRow w104 ⟨w.heap.size, 0, none⟩ (pdc n105 b106 n107 n108 n109 n110 n111 n112 n113 n114 n115 n116 n117 n118 n119 n120 n121 n122 n123 n124 n125 n126 n127 n128 n129 n130 v131) ∧
 bindW (stRow w104 ⟨w.heap.size, 0, none⟩ (pdc n105 b106 n107 n108 n109 n110 n111 n112 n113 n114 n115 n116 n117 n118 n119 n120 n121 n122 n123 n124 n125 n126 n127 n128 n129 n130 v131)) fun w132 =>
 ∃ n133 b134 n135 n136 n137 n138 n139 n140 n141 n142 n143 n144 n145 n146 n147 n148 n149 n150 n151 n152 n153 n154 n155 n156 n157 n158 v159, (ldCells w132 ⟨w.heap.size, 0, none⟩ 27 (pdc n133 b134 n135 n136 n137 n138 n139 n140 n141 n142 n143 n144 n145 n146 n147 n148 n149 n150 n151 n152 n153 n154 n155 n156 n157 n158 v159)) ∧
 R (.tuple #[(.agg (pdc n133 b134 n135 n136 n137 n138 n139 n140 n141 n142 n143 n144 n145 n146 n147 n148 n149 n150 n151 n152 n153 n154 n155 n156 n157 n158 v159)), .bool true]) w132))
 (cond (n63 == 3)
 (j95 w97)
 (withAddr (.pointer p0) fun a160 =>
 St1 w97 (Addr.add a160 1) ∧
 bindW (World.setCell w97 (Addr.add a160 1) (.int .i64 n63)) fun w161 =>
 withAddr (.pointer p0) fun a162 =>
 St1 w161 (Addr.add a162 0) ∧
 bindW (World.setCell w161 (Addr.add a162 0) nvc) fun w163 =>
 j95 w163)))
 (fun s164 => s164 w65)))
theorem q86W (p0 w R) (h : q86F p0 w R) : CW.Spec Tryz.prog 67 #[.pointer p0] w R :=
 sp Tryz.func67 h
def q85F (p0 : Option Addr) (w : World) (R : KV) : Prop :=
 withAddr (.pointer p0) fun a0 =>
 ∃ n1, World.cell? w (Addr.add a0 1) = some (.int .i64 n1) ∧
 R (.int .i64 n1) w
theorem q85W (p0 w R) (h : q85F p0 w R) : CW.Spec Tryz.prog 68 #[.pointer p0] w R :=
 sp Tryz.func68 h
def q82F (p0_0 : Int) (p0_1 : Bool) (p0_2 : Int) (p0_3 : Int) (p0_4 : Int) (p0_5 : Int) (p0_6 : Int) (p0_7 : Int) (p0_8 : Int) (p0_9 : Int) (p0_10 : Int) (p0_11 : Int) (p0_12 : Int) (p0_13 : Int) (p0_14 : Int) (p0_15 : Int) (p0_16 : Int) (p0_17 : Int) (p0_18 : Int) (p0_19 : Int) (p0_20 : Int) (p0_21 : Int) (p0_22 : Int) (p0_23 : Int) (p0_24 : Int) (p0_25 : Int) (p0_26 : Value) (w : World) (R : KV) : Prop :=
 bindW (World.alloc w (.cells (pdc p0_0 p0_1 p0_2 p0_3 p0_4 p0_5 p0_6 p0_7 p0_8 p0_9 p0_10 p0_11 p0_12 p0_13 p0_14 p0_15 p0_16 p0_17 p0_18 p0_19 p0_20 p0_21 p0_22 p0_23 p0_24 p0_25 p0_26) 152)) fun w0 =>
 JoinP [.bool]
 (fun (b1 : Bool) => fun w2 =>
 cond b1
 (R (.tuple #[nvc, .int .i64 1]) w2)
 (∃ v3, World.cell? w2 (Addr.add ⟨w.heap.size, 0, none⟩ 26) = some v3 ∧
 ∃ m4, sliceLen v3 = some m4 ∧
 cond (decide (((m4 : Nat) : Int) > 4096))
 (R (.tuple #[nvc, .int .i64 5]) w2)
 (∃ n5, World.cell? w2 (Addr.add ⟨w.heap.size, 0, none⟩ 2) = some (.int .i64 n5) ∧
 JoinP [.int .u8]
 (fun (n6 : Int) => fun w7 =>
 ∃ n8, World.cell? w7 (Addr.add ⟨w.heap.size, 0, none⟩ 0) = some (.int .i64 n8) ∧
 ∃ n9, World.cell? w7 (Addr.add ⟨w.heap.size, 0, none⟩ 3) = some (.int .i64 n9) ∧
 bindW (World.alloc w7 (.cells #[(.int .u8 (IntKind.wrap .u8 n8)), .int .u8 n6, (.int .u8 (IntKind.wrap .u8 n9)), .int .u8 0] 5)) fun w10 =>
 ∃ v11, World.cell? w10 (Addr.add ⟨w.heap.size, 0, none⟩ 26) = some v11 ∧
 ∃ m12, sliceLen v11 = some m12 ∧
 CW.Spec Tryz.prog 84 #[(.slice (some ⟨w7.heap.size, 0, none⟩) 4 4), (.int .u64 (IntKind.wrap .u64 ((m12 : Nat) : Int))), .int .i64 4] w10 fun v13 w14 =>
 ∃ n15, World.cell? w14 (Addr.add ⟨w.heap.size, 0, none⟩ 4) = some (.int .u32 n15) ∧
 ∃ n16, World.cell? w14 (Addr.add ⟨w.heap.size, 0, none⟩ 5) = some (.int .u32 n16) ∧
 ∃ n17, World.cell? w14 (Addr.add ⟨w.heap.size, 0, none⟩ 6) = some (.int .u32 n17) ∧
 ∃ n18, World.cell? w14 (Addr.add ⟨w.heap.size, 0, none⟩ 7) = some (.int .u32 n18) ∧
 ∃ n19, World.cell? w14 (Addr.add ⟨w.heap.size, 0, none⟩ 8) = some (.int .u32 n19) ∧
 ∃ n20, World.cell? w14 (Addr.add ⟨w.heap.size, 0, none⟩ 9) = some (.int .u32 n20) ∧
 bindW (World.alloc w14 (.cells #[.int .u32 n15, .int .u32 n16, .int .u32 n17, .int .u32 n18, .int .u32 n19, .int .u32 n20] 38)) fun w21 =>
 ∃ m22, ((sliceLen (.slice (some ⟨w14.heap.size, 0, none⟩) 6 6)) = (some m22)) ∧
 LoopP [.val, .int .i64]
 (fun j23 v24 => fun (n25 : Int) => fun w26 =>
 cond (decide (n25 < ((m22 : Nat) : Int)))
 (∃ a27, sliceAt (.slice (some ⟨w14.heap.size, 0, none⟩) 6 6) n25 1 = some a27 ∧
 ∃ n28, World.cell? w26 a27 = some (.int .u32 n28) ∧
 CW.Spec Tryz.prog 84 #[v24, (.int .u64 (IntKind.wrap .u64 n28)), .int .i64 4] w26 fun v29 w30 =>
 j23 v29 (IntKind.wrap .i64 (n25 + 1)) w30)
 (∃ v31 w32, Sem.run Tryz.prog (Builtin.append_ #[33, 33] 33 #[v24, (.slice (some (Addr.add ⟨w.heap.size, 0, none⟩ 10)) 16 16)]) w26 = .ok v31 w32 ∧
 CW.Spec Tryz.prog 145 #[v31] w32 fun v33 w34 =>
 ∃ v35 w36, Sem.run Tryz.prog (Builtin.append_ #[33, 33] 33 #[v31, v33]) w34 = .ok v35 w36 ∧
 JoinP [.val]
 (fun v37 w38 =>
 CW.Spec Tryz.prog 72 #[v37] w38 fun v39 w40 =>
 R (.tuple #[v39, .int .i64 0]) w40)
 (fun j41 =>
 ∃ v42, World.cell? w36 (Addr.add ⟨w.heap.size, 0, none⟩ 26) = some v42 ∧
 ∃ m43, sliceLen v42 = some m43 ∧
 cond (decide (((m43 : Nat) : Int) > 0))
 (∃ v44, World.cell? w36 (Addr.add ⟨w.heap.size, 0, none⟩ 26) = some v44 ∧
 CW.Spec Tryz.prog 178 #[v44, .int .i64 4] w36 fun v45 w46 =>
 CW.Spec Tryz.prog 145 #[v45] w46 fun v47 w48 =>
 oneK v35 (oneK v45 (oneK v47 (bindW (World.alloc w48 (.cells #[v35, v45, v47] 33)) fun w49 =>
 CW.Spec Tryz.prog 179 #[(.slice (some ⟨w48.heap.size, 0, none⟩) 3 3)] w49 fun v50 w51 =>
 j41 v50 w51))))
 (j41 v35 w36))))
 (fun s52 => s52 v13 (0 : Int) w21))
 (fun j53 =>
 ∃ b54, World.cell? w2 (Addr.add ⟨w.heap.size, 0, none⟩ 1) = some (.bool b54) ∧
 cond b54
 (j53 (bitsI .or .u8 (IntKind.wrap .u8 n5) (128 : Int)) w2)
 (j53 (IntKind.wrap .u8 n5) w2)))))
 (fun j55 =>
 ∃ n56, World.cell? w0 (Addr.add ⟨w.heap.size, 0, none⟩ 0) = some (.int .i64 n56) ∧
 CW.Spec Tryz.prog 177 #[.int .i64 n56] w0 fun v57 w58 =>
 ∃ b59, v57 = .bool b59 ∧
 cond (!b59)
 (j55 (!b59) w58)
 (JoinP [.bool]
 (fun (b60 : Bool) => fun w61 =>
 cond b60
 (j55 b60 w61)
 (∃ n62, World.cell? w61 (Addr.add ⟨w.heap.size, 0, none⟩ 3) = some (.int .i64 n62) ∧
 cond (decide (n62 < 0))
 (j55 true w61)
 (∃ n63, World.cell? w61 (Addr.add ⟨w.heap.size, 0, none⟩ 3) = some (.int .i64 n63) ∧
 j55 (decide (n63 > 255)) w61)))
 (fun j64 =>
 ∃ n65, World.cell? w58 (Addr.add ⟨w.heap.size, 0, none⟩ 2) = some (.int .i64 n65) ∧
 cond (decide (n65 < 0))
 (j64 true w58)
 (∃ n66, World.cell? w58 (Addr.add ⟨w.heap.size, 0, none⟩ 2) = some (.int .i64 n66) ∧
 j64 (decide (n66 ≥ 128)) w58))))
theorem q82W (p0_0 p0_1 p0_2 p0_3 p0_4 p0_5 p0_6 p0_7 p0_8 p0_9 p0_10 p0_11 p0_12 p0_13 p0_14 p0_15 p0_16 p0_17 p0_18 p0_19 p0_20 p0_21 p0_22 p0_23 p0_24 p0_25 p0_26 w R) (h : q82F p0_0 p0_1 p0_2 p0_3 p0_4 p0_5 p0_6 p0_7 p0_8 p0_9 p0_10 p0_11 p0_12 p0_13 p0_14 p0_15 p0_16 p0_17 p0_18 p0_19 p0_20 p0_21 p0_22 p0_23 p0_24 p0_25 p0_26 w R) : CW.Spec Tryz.prog 134 #[(.agg (pdc p0_0 p0_1 p0_2 p0_3 p0_4 p0_5 p0_6 p0_7 p0_8 p0_9 p0_10 p0_11 p0_12 p0_13 p0_14 p0_15 p0_16 p0_17 p0_18 p0_19 p0_20 p0_21 p0_22 p0_23 p0_24 p0_25 p0_26))] w R :=
 sp Tryz.func134 h
def q81F (p0 : Value) (w : World) (R : KV) : Prop :=
 bindW (World.alloc w (.cells (pdc 0 false 0 0 0 0 0 0 0 0 0 0 0 0 0 0 0 0 0 0 0 0 0 0 0 0 nvc) 152)) fun w0 =>
 CW.Spec Tryz.prog 143 #[p0] w0 fun v1 w2 =>
 ∃ n3 b4 n5 n6 n7 n8 n9 n10 n11 n12 n13 n14 n15 n16 n17 n18 n19 n20 n21 n22 n23 n24 n25 n26 n27 n28 v29 n30 n31, v1 = .tuple #[(.agg (pdc n3 b4 n5 n6 n7 n8 n9 n10 n11 n12 n13 n14 n15 n16 n17 n18 n19 n20 n21 n22 n23 n24 n25 n26 n27 n28 v29)), .int .i64 n30, .int .i64 n31] ∧
 bindW (World.alloc w2 (.cells (pdc 0 false 0 0 0 0 0 0 0 0 0 0 0 0 0 0 0 0 0 0 0 0 0 0 0 0 nvc) 152)) fun w32 =>
 StRow w32 ⟨w2.heap.size, 0, none⟩ (pdc n3 b4 n5 n6 n7 n8 n9 n10 n11 n12 n13 n14 n15 n16 n17 n18 n19 n20 n21 n22 n23 n24 n25 n26 n27 n28 v29) ∧
 bindW (stRow w32 ⟨w2.heap.size, 0, none⟩ (pdc n3 b4 n5 n6 n7 n8 n9 n10 n11 n12 n13 n14 n15 n16 n17 n18 n19 n20 n21 n22 n23 n24 n25 n26 n27 n28 v29)) fun w33 =>
 JoinP [.bool]
 (fun (b34 : Bool) => fun w35 =>
 cond b34
 (cond (n31 != 0)
 ((StRow w35 ⟨w.heap.size, 0, none⟩ (pdc 0 false 0 0 0 0 0 0 0 0 0 0 0 0 0 0 0 0 0 0 0 0 0 0 0 0 nvc)) ∧
 bindW (stRow w35 ⟨w.heap.size, 0, none⟩ (pdc 0 false 0 0 0 0 0 0 0 0 0 0 0 0 0 0 0 0 0 0 0 0 0 0 0 0 nvc)) fun w36 =>
 ∃ n37 b38 n39 n40 n41 n42 n43 n44 n45 n46 n47 n48 n49 n50 n51 n52 n53 n54 n55 n56 n57 n58 n59 n60 n61 n62 v63, (ldCells w36 ⟨w.heap.size, 0, none⟩ 27 (pdc n37 b38 n39 n40 n41 n42 n43 n44 n45 n46 n47 n48 n49 n50 n51 n52 n53 n54 n55 n56 n57 n58 n59 n60 n61 n62 v63)) ∧
 R (.tuple #[(.agg (pdc n37 b38 n39 n40 n41 n42 n43 n44 n45 n46 n47 n48 n49 n50 n51 n52 n53 n54 n55 n56 n57 n58 n59 n60 n61 n62 v63)), .int .i64 0, .int .i64 n31]) w36)
 (∃ n64 b65 n66 n67 n68 n69 n70 n71 n72 n73 n74 n75 n76 n77 n78 n79 n80 n81 n82 n83 n84 n85 n86 n87 n88 n89 v90, (ldCells w35 ⟨w2.heap.size, 0, none⟩ 27 (pdc n64 b65 n66 n67 n68 n69 n70 n71 n72 n73 n74 n75 n76 n77 n78 n79 n80 n81 n82 n83 n84 n85 n86 n87 n88 n89 v90)) ∧
 StRow w35 ⟨w.heap.size, 0, none⟩ (pdc n64 b65 n66 n67 n68 n69 n70 n71 n72 n73 n74 n75 n76 n77 n78 n79 n80 n81 n82 n83 n84 n85 n86 n87 n88 n89 v90) ∧
 bindW (stRow w35 ⟨w.heap.size, 0, none⟩ (pdc n64 b65 n66 n67 n68 n69 n70 n71 n72 n73 n74 n75 n76 n77 n78 n79 n80 n81 n82 n83 n84 n85 n86 n87 n88 n89 v90)) fun w91 =>
 ∃ n92 b93 n94 n95 n96 n97 n98 n99 n100 n101 n102 n103 n104 n105 n106 n107 n108 n109 n110 n111 n112 n113 n114 n115 n116 n117 v118, (ldCells w91 ⟨w.heap.size, 0, none⟩ 27 (pdc n92 b93 n94 n95 n96 n97 n98 n99 n100 n101 n102 n103 n104 n105 n106 n107 n108 n109 n110 n111 n112 n113 n114 n115 n116 n117 v118)) ∧
 R (.tuple #[(.agg (pdc n92 b93 n94 n95 n96 n97 n98 n99 n100 n101 n102 n103 n104 n105 n106 n107 n108 n109 n110 n111 n112 n113 n114 n115 n116 n117 v118)), .int .i64 52, .int .i64 0]) w91))
 (∃ v119, ((subSlice p0 1 (some (.int .i64 52)) none none) = (some v119)) ∧
 ∃ m120, sliceLen v119 = some m120 ∧
 cond (decide (((m120 : Nat) : Int) < (IntKind.wrap .i64 ((IntKind.wrap .i64 ((IntKind.wrap .i64 (Int.tdiv (IntKind.wrap .i64 (n30 + 3)) (4 : Int))) * 4)) + 4))))
 ((StRow w35 ⟨w.heap.size, 0, none⟩ (pdc 0 false 0 0 0 0 0 0 0 0 0 0 0 0 0 0 0 0 0 0 0 0 0 0 0 0 nvc)) ∧
 bindW (stRow w35 ⟨w.heap.size, 0, none⟩ (pdc 0 false 0 0 0 0 0 0 0 0 0 0 0 0 0 0 0 0 0 0 0 0 0 0 0 0 nvc)) fun w121 =>
 ∃ n122 b123 n124 n125 n126 n127 n128 n129 n130 n131 n132 n133 n134 n135 n136 n137 n138 n139 n140 n141 n142 n143 n144 n145 n146 n147 v148, (ldCells w121 ⟨w.heap.size, 0, none⟩ 27 (pdc n122 b123 n124 n125 n126 n127 n128 n129 n130 n131 n132 n133 n134 n135 n136 n137 n138 n139 n140 n141 n142 n143 n144 n145 n146 n147 v148)) ∧
 R (.tuple #[(.agg (pdc n122 b123 n124 n125 n126 n127 n128 n129 n130 n131 n132 n133 n134 n135 n136 n137 n138 n139 n140 n141 n142 n143 n144 n145 n146 n147 v148)), .int .i64 0, .int .i64 3]) w121)
 (bindW (World.drew w35) fun w149 =>
 ∃ v150, ((subSlice v119 1 none (some (.int .i64 (IntKind.wrap .i64 ((IntKind.wrap .i64 (Int.tdiv (IntKind.wrap .i64 (n30 + 3)) (4 : Int))) * 4)))) none) = (some v150)) ∧
 ∃ v151, ((subSlice v119 1 (some (.int .i64 (IntKind.wrap .i64 ((IntKind.wrap .i64 (Int.tdiv (IntKind.wrap .i64 (n30 + 3)) (4 : Int))) * 4)))) (some (.int .i64 (IntKind.wrap .i64 ((IntKind.wrap .i64 ((IntKind.wrap .i64 (Int.tdiv (IntKind.wrap .i64 (n30 + 3)) (4 : Int))) * 4)) + 4)))) none) = (some v151)) ∧
 bindW (World.drew w35) fun w152 =>
 CW.Spec Tryz.prog 145 #[v150] w152 fun v153 w154 =>
 CW.Spec Tryz.prog 144 #[v153, v151] w154 fun v155 w156 =>
 ∃ b157, v155 = .bool b157 ∧
 cond (!b157)
 ((StRow w156 ⟨w.heap.size, 0, none⟩ (pdc 0 false 0 0 0 0 0 0 0 0 0 0 0 0 0 0 0 0 0 0 0 0 0 0 0 0 nvc)) ∧
 bindW (stRow w156 ⟨w.heap.size, 0, none⟩ (pdc 0 false 0 0 0 0 0 0 0 0 0 0 0 0 0 0 0 0 0 0 0 0 0 0 0 0 nvc)) fun w158 =>
 ∃ n159 b160 n161 n162 n163 n164 n165 n166 n167 n168 n169 n170 n171 n172 n173 n174 n175 n176 n177 n178 n179 n180 n181 n182 n183 n184 v185, (ldCells w158 ⟨w.heap.size, 0, none⟩ 27 (pdc n159 b160 n161 n162 n163 n164 n165 n166 n167 n168 n169 n170 n171 n172 n173 n174 n175 n176 n177 n178 n179 n180 n181 n182 n183 n184 v185)) ∧
 R (.tuple #[(.agg (pdc n159 b160 n161 n162 n163 n164 n165 n166 n167 n168 n169 n170 n171 n172 n173 n174 n175 n176 n177 n178 n179 n180 n181 n182 n183 n184 v185)), .int .i64 0, .int .i64 4]) w158)
 (∃ v186, ((subSlice v119 1 (some (.int .i64 n30)) (some (.int .i64 (IntKind.wrap .i64 ((IntKind.wrap .i64 (Int.tdiv (IntKind.wrap .i64 (n30 + 3)) (4 : Int))) * 4)))) none) = (some v186)) ∧
 ∃ m187, sliceLen v186 = some m187 ∧
 LoopP [.int .i64]
 (fun j188 => fun (n189 : Int) => fun w190 =>
 cond (decide (n189 < ((m187 : Nat) : Int)))
 (∃ a191, sliceAt v186 n189 1 = some a191 ∧
 ∃ n192, World.cell? w190 a191 = some (.int .u8 n192) ∧
 cond (n192 != 0)
 ((StRow w190 ⟨w.heap.size, 0, none⟩ (pdc 0 false 0 0 0 0 0 0 0 0 0 0 0 0 0 0 0 0 0 0 0 0 0 0 0 0 nvc)) ∧
 bindW (stRow w190 ⟨w.heap.size, 0, none⟩ (pdc 0 false 0 0 0 0 0 0 0 0 0 0 0 0 0 0 0 0 0 0 0 0 0 0 0 0 nvc)) fun w193 =>
 ∃ n194 b195 n196 n197 n198 n199 n200 n201 n202 n203 n204 n205 n206 n207 n208 n209 n210 n211 n212 n213 n214 n215 n216 n217 n218 n219 v220, (ldCells w193 ⟨w.heap.size, 0, none⟩ 27 (pdc n194 b195 n196 n197 n198 n199 n200 n201 n202 n203 n204 n205 n206 n207 n208 n209 n210 n211 n212 n213 n214 n215 n216 n217 n218 n219 v220)) ∧
 R (.tuple #[(.agg (pdc n194 b195 n196 n197 n198 n199 n200 n201 n202 n203 n204 n205 n206 n207 n208 n209 n210 n211 n212 n213 n214 n215 n216 n217 n218 n219 v220)), .int .i64 0, .int .i64 2]) w193)
 (j188 (IntKind.wrap .i64 (n189 + 1)) w190))
 (∃ v221, ((subSlice v119 1 none (some (.int .i64 n30)) none) = (some v221)) ∧
 CW.Spec Tryz.prog 86 #[v221] w190 fun v222 w223 =>
 CW.Spec Tryz.prog 72 #[v222] w223 fun v224 w225 =>
 oneK v224 ((St1 w225 (Addr.add ⟨w2.heap.size, 0, none⟩ 26)) ∧
 bindW (World.setCell w225 (Addr.add ⟨w2.heap.size, 0, none⟩ 26) v224) fun w226 =>
 ∃ n227 b228 n229 n230 n231 n232 n233 n234 n235 n236 n237 n238 n239 n240 n241 n242 n243 n244 n245 n246 n247 n248 n249 n250 n251 n252 v253, (ldCells w226 ⟨w2.heap.size, 0, none⟩ 27 (pdc n227 b228 n229 n230 n231 n232 n233 n234 n235 n236 n237 n238 n239 n240 n241 n242 n243 n244 n245 n246 n247 n248 n249 n250 n251 n252 v253)) ∧
 StRow w226 ⟨w.heap.size, 0, none⟩ (pdc n227 b228 n229 n230 n231 n232 n233 n234 n235 n236 n237 n238 n239 n240 n241 n242 n243 n244 n245 n246 n247 n248 n249 n250 n251 n252 v253) ∧
 bindW (stRow w226 ⟨w.heap.size, 0, none⟩ (pdc n227 b228 n229 n230 n231 n232 n233 n234 n235 n236 n237 n238 n239 n240 n241 n242 n243 n244 n245 n246 n247 n248 n249 n250 n251 n252 v253)) fun w254 =>
 ∃ n255 b256 n257 n258 n259 n260 n261 n262 n263 n264 n265 n266 n267 n268 n269 n270 n271 n272 n273 n274 n275 n276 n277 n278 n279 n280 v281, (ldCells w254 ⟨w.heap.size, 0, none⟩ 27 (pdc n255 b256 n257 n258 n259 n260 n261 n262 n263 n264 n265 n266 n267 n268 n269 n270 n271 n272 n273 n274 n275 n276 n277 n278 n279 n280 v281)) ∧
 R (.tuple #[(.agg (pdc n255 b256 n257 n258 n259 n260 n261 n262 n263 n264 n265 n266 n267 n268 n269 n270 n271 n272 n273 n274 n275 n276 n277 n278 n279 n280 v281)), (.int .i64 (IntKind.wrap .i64 ((IntKind.wrap .i64 ((52 : Int) + (IntKind.wrap .i64 ((IntKind.wrap .i64 (Int.tdiv (IntKind.wrap .i64 (n30 + 3)) (4 : Int))) * 4)))) + 4))), .int .i64 0]) w254)))
 (fun s282 => s282 (0 : Int) w156)))))
 (fun j283 =>
 cond (n31 != 0)
 (j283 true w33)
 (j283 (n30 == 0) w33))
theorem q81W (p0 w R) (h : q81F p0 w R) : CW.Spec Tryz.prog 108 #[p0] w R :=
 sp Tryz.func108 h
def q83F (p0 : Int) (w : World) (R : KV) : Prop :=
 JoinP [.bool]
 (fun (b0 : Bool) => fun w1 =>
 cond b0
 (R (.bool true) w1)
 (R (.bool false) w1))
 (fun j2 =>
 cond (p0 == 0)
 (j2 (p0 == 0) w)
 (cond (p0 == 1)
 (j2 (p0 == 1) w)
 (cond (p0 == 2)
 (j2 (p0 == 2) w)
 (cond (p0 == 3)
 (j2 (p0 == 3) w)
 (cond (p0 == 5)
 (j2 (p0 == 5) w)
 (cond (p0 == 6)
 (j2 (p0 == 6) w)
 (cond (p0 == 32)
 (j2 (p0 == 32) w)
 (cond (p0 == 33)
 (j2 (p0 == 33) w)
 (cond (p0 == 34)
 (j2 (p0 == 34) w)
 (cond (p0 == 35)
 (j2 (p0 == 35) w)
 (cond (p0 == 37)
 (j2 (p0 == 37) w)
 (cond (p0 == 38)
 (j2 (p0 == 38) w)
 (cond (p0 == 49)
 (j2 (p0 == 49) w)
 (j2 (p0 == 63) w))))))))))))))
theorem q83W (p0 w R) (h : q83F p0 w R) : CW.Spec Tryz.prog 177 #[.int .i64 p0] w R :=
 sp Tryz.func177 h
def q89F (p0 : Value) (w : World) (R : KV) : Prop :=
 CW.Spec Tryz.prog 186 #[p0] w fun v0 w1 =>
 ∃ n2, v0 = .int .u32 n2 ∧
 CW.Spec Tryz.prog 84 #[nvc, (.int .u64 (IntKind.wrap .u64 n2)), .int .i64 4] w1 fun v3 w4 =>
 CW.Spec Tryz.prog 187 #[v3] w4 fun v5 w6 =>
 v5 = .tuple #[] ∧
 R v3 w6
theorem q89W (p0 w R) (h : q89F p0 w R) : CW.Spec Tryz.prog 145 #[p0] w R :=
 sp Tryz.func145 h
def q102F (p0 : Value) (w : World) (R : KV) : Prop :=
 ∃ m0, sliceLen p0 = some m0 ∧
 LoopP [.int .i64, .int .i64]
 (fun j1 => fun (n2 : Int) => fun (n3 : Int) => fun w4 =>
 cond (decide (n3 < ((m0 : Nat) : Int)))
 (JoinP [.int .i64]
 (fun (n5 : Int) => fun w6 =>
 j1 n5 (IntKind.wrap .i64 (n3 + 1)) w6)
 (fun j7 =>
 ∃ a8, sliceAt p0 n3 1 = some a8 ∧
 ∃ v9, World.cell? w4 a8 = some v9 ∧
 ∃ m10, sliceLen v9 = some m10 ∧
 cond (decide ((IntKind.wrap .i64 (n2 + ((m10 : Nat) : Int))) < 0))
 (∃ v11, Sem.run Tryz.prog (Instr.makeInterface 9 (.string (ByteArray.mk #[108, 101, 110, 32, 111, 117, 116, 32, 111, 102, 32, 114, 97, 110, 103, 101]))) w4 = .ok v11 w4 ∧
 False)
 (j7 (IntKind.wrap .i64 (n2 + ((m10 : Nat) : Int))) w4)))
 (CW.Spec Tryz.prog 214 #[nvc, .int .i64 n2] w4 fun v12 w13 =>
 ∃ m14, sliceLen p0 = some m14 ∧
 LoopP [.val, .int .i64]
 (fun j15 v16 => fun (n17 : Int) => fun w18 =>
 cond (decide (n17 < ((m14 : Nat) : Int)))
 (∃ a19, sliceAt p0 n17 1 = some a19 ∧
 ∃ v20, World.cell? w18 a19 = some v20 ∧
 ∃ v21 w22, Sem.run Tryz.prog (Builtin.append_ #[33, 33] 33 #[v16, v20]) w18 = .ok v21 w22 ∧
 j15 v21 (IntKind.wrap .i64 (n17 + 1)) w22)
 (R v16 w18))
 (fun s23 => s23 v12 (0 : Int) w13)))
 (fun s24 => s24 (0 : Int) (0 : Int) w)
theorem q102W (p0 w R) (h : q102F p0 w R) : CW.Spec Tryz.prog 179 #[p0] w R :=
 sp Tryz.func179 h
def q88F (p0 : Value) (w : World) (R : KV) : Prop :=
 bindW (World.alloc w (.cells (pdc 0 false 0 0 0 0 0 0 0 0 0 0 0 0 0 0 0 0 0 0 0 0 0 0 0 0 nvc) 152)) fun w0 =>
 CW.Spec Tryz.prog 185 #[p0, .int .i64 4, .int .i64 4] w0 fun v1 w2 =>
 ∃ n3 b4, v1 = .tuple #[.int .u64 n3, .bool b4] ∧
 ∃ m5, sliceLen p0 = some m5 ∧
 cond (decide (((m5 : Nat) : Int) < 52))
 ((StRow w2 ⟨w.heap.size, 0, none⟩ (pdc 0 false 0 0 0 0 0 0 0 0 0 0 0 0 0 0 0 0 0 0 0 0 0 0 0 0 nvc)) ∧
 bindW (stRow w2 ⟨w.heap.size, 0, none⟩ (pdc 0 false 0 0 0 0 0 0 0 0 0 0 0 0 0 0 0 0 0 0 0 0 0 0 0 0 nvc)) fun w6 =>
 ∃ n7 b8 n9 n10 n11 n12 n13 n14 n15 n16 n17 n18 n19 n20 n21 n22 n23 n24 n25 n26 n27 n28 n29 n30 n31 n32 v33, (ldCells w6 ⟨w.heap.size, 0, none⟩ 27 (pdc n7 b8 n9 n10 n11 n12 n13 n14 n15 n16 n17 n18 n19 n20 n21 n22 n23 n24 n25 n26 n27 n28 n29 n30 n31 n32 v33)) ∧
 R (.tuple #[(.agg (pdc n7 b8 n9 n10 n11 n12 n13 n14 n15 n16 n17 n18 n19 n20 n21 n22 n23 n24 n25 n26 n27 n28 n29 n30 n31 n32 v33)), .int .i64 0, .int .i64 3]) w6)
 (bindW (World.drew w2) fun w34 =>
 ∃ v35, ((subSlice p0 1 none (some (.int .i64 48)) none) = (some v35)) ∧
 ∃ v36, ((subSlice p0 1 (some (.int .i64 48)) (some (.int .i64 52)) none) = (some v36)) ∧
 bindW (World.drew w2) fun w37 =>
 CW.Spec Tryz.prog 145 #[v35] w37 fun v38 w39 =>
 CW.Spec Tryz.prog 144 #[v38, v36] w39 fun v40 w41 =>
 ∃ b42, v40 = .bool b42 ∧
 cond (!b42)
 ((StRow w41 ⟨w.heap.size, 0, none⟩ (pdc 0 false 0 0 0 0 0 0 0 0 0 0 0 0 0 0 0 0 0 0 0 0 0 0 0 0 nvc)) ∧
 bindW (stRow w41 ⟨w.heap.size, 0, none⟩ (pdc 0 false 0 0 0 0 0 0 0 0 0 0 0 0 0 0 0 0 0 0 0 0 0 0 0 0 nvc)) fun w43 =>
 ∃ n44 b45 n46 n47 n48 n49 n50 n51 n52 n53 n54 n55 n56 n57 n58 n59 n60 n61 n62 n63 n64 n65 n66 n67 n68 n69 v70, (ldCells w43 ⟨w.heap.size, 0, none⟩ 27 (pdc n44 b45 n46 n47 n48 n49 n50 n51 n52 n53 n54 n55 n56 n57 n58 n59 n60 n61 n62 n63 n64 n65 n66 n67 n68 n69 v70)) ∧
 R (.tuple #[(.agg (pdc n44 b45 n46 n47 n48 n49 n50 n51 n52 n53 n54 n55 n56 n57 n58 n59 n60 n61 n62 n63 n64 n65 n66 n67 n68 n69 v70)), .int .i64 0, .int .i64 4]) w43)
 (JoinP [.bool]
 (fun (b71 : Bool) => fun w72 =>
 cond b71
 ((StRow w72 ⟨w.heap.size, 0, none⟩ (pdc 0 false 0 0 0 0 0 0 0 0 0 0 0 0 0 0 0 0 0 0 0 0 0 0 0 0 nvc)) ∧
 bindW (stRow w72 ⟨w.heap.size, 0, none⟩ (pdc 0 false 0 0 0 0 0 0 0 0 0 0 0 0 0 0 0 0 0 0 0 0 0 0 0 0 nvc)) fun w73 =>
 ∃ n74 b75 n76 n77 n78 n79 n80 n81 n82 n83 n84 n85 n86 n87 n88 n89 n90 n91 n92 n93 n94 n95 n96 n97 n98 n99 v100, (ldCells w73 ⟨w.heap.size, 0, none⟩ 27 (pdc n74 b75 n76 n77 n78 n79 n80 n81 n82 n83 n84 n85 n86 n87 n88 n89 n90 n91 n92 n93 n94 n95 n96 n97 n98 n99 v100)) ∧
 R (.tuple #[(.agg (pdc n74 b75 n76 n77 n78 n79 n80 n81 n82 n83 n84 n85 n86 n87 n88 n89 n90 n91 n92 n93 n94 n95 n96 n97 n98 n99 v100)), .int .i64 0, .int .i64 2]) w73)
 (cond (decide (n3 > 4096))
 ((StRow w72 ⟨w.heap.size, 0, none⟩ (pdc 0 false 0 0 0 0 0 0 0 0 0 0 0 0 0 0 0 0 0 0 0 0 0 0 0 0 nvc)) ∧
 bindW (stRow w72 ⟨w.heap.size, 0, none⟩ (pdc 0 false 0 0 0 0 0 0 0 0 0 0 0 0 0 0 0 0 0 0 0 0 0 0 0 0 nvc)) fun w101 =>
 ∃ n102 b103 n104 n105 n106 n107 n108 n109 n110 n111 n112 n113 n114 n115 n116 n117 n118 n119 n120 n121 n122 n123 n124 n125 n126 n127 v128, (ldCells w101 ⟨w.heap.size, 0, none⟩ 27 (pdc n102 b103 n104 n105 n106 n107 n108 n109 n110 n111 n112 n113 n114 n115 n116 n117 n118 n119 n120 n121 n122 n123 n124 n125 n126 n127 v128)) ∧
 R (.tuple #[(.agg (pdc n102 b103 n104 n105 n106 n107 n108 n109 n110 n111 n112 n113 n114 n115 n116 n117 n118 n119 n120 n121 n122 n123 n124 n125 n126 n127 v128)), .int .i64 0, .int .i64 5]) w101)
 (bindW (World.drew w72) fun w129 =>
 ∃ a130, sliceAt p0 (0 : Int) 1 = some a130 ∧
 ∃ n131, World.cell? w129 a130 = some (.int .u8 n131) ∧
 ∃ a132, sliceAt p0 (1 : Int) 1 = some a132 ∧
 ∃ n133, World.cell? w129 a132 = some (.int .u8 n133) ∧
 ∃ a134, sliceAt p0 (1 : Int) 1 = some a134 ∧
 ∃ n135, World.cell? w129 a134 = some (.int .u8 n135) ∧
 ∃ a136, sliceAt p0 (2 : Int) 1 = some a136 ∧
 ∃ n137, World.cell? w129 a136 = some (.int .u8 n137) ∧
 ∃ v138, ((subSlice p0 1 (some (.int .i64 32)) none none) = (some v138)) ∧
 ∃ v139, Sem.run Tryz.prog (Instr.arrayAt 44 v138) w129 = .ok v139 w129 ∧
 withAddr v139 fun a140 =>
 ∃ n141 n142 n143 n144 n145 n146 n147 n148 n149 n150 n151 n152 n153 n154 n155 n156, (ldCells w129 a140 16 #[.int .u8 n141, .int .u8 n142, .int .u8 n143, .int .u8 n144, .int .u8 n145, .int .u8 n146, .int .u8 n147, .int .u8 n148, .int .u8 n149, .int .u8 n150, .int .u8 n151, .int .u8 n152, .int .u8 n153, .int .u8 n154, .int .u8 n155, .int .u8 n156]) ∧
 bindW (World.drew w72) fun w157 =>
 (∃ n158, World.cell? (World.alloc w157 (.cells (pdc 0 false 0 0 0 0 0 0 0 0 0 0 0 0 0 0 0 0 0 0 0 0 0 0 0 0 nvc) 152)) a130 = some (.int .u8 n158) ∧
 ((.int .u8 n158) : Value) = (.int .u8 n131)) ∧
 (∃ n159, World.cell? (World.alloc w157 (.cells (pdc 0 false 0 0 0 0 0 0 0 0 0 0 0 0 0 0 0 0 0 0 0 0 0 0 0 0 nvc) 152)) a132 = some (.int .u8 n159) ∧
 ((.int .u8 n159) : Value) = (.int .u8 n133)) ∧
 (∃ n160, World.cell? (World.alloc w157 (.cells (pdc 0 false 0 0 0 0 0 0 0 0 0 0 0 0 0 0 0 0 0 0 0 0 0 0 0 0 nvc) 152)) a134 = some (.int .u8 n160) ∧
 ((.int .u8 n160) : Value) = (.int .u8 n135)) ∧
 (∃ n161, World.cell? (World.alloc w157 (.cells (pdc 0 false 0 0 0 0 0 0 0 0 0 0 0 0 0 0 0 0 0 0 0 0 0 0 0 0 nvc) 152)) a136 = some (.int .u8 n161) ∧
 ((.int .u8 n161) : Value) = (.int .u8 n137)) ∧
 (∃ v162, ((Sem.run Tryz.prog (Instr.arrayAt 44 v138) (World.alloc w157 (.cells (pdc 0 false 0 0 0 0 0 0 0 0 0 0 0 0 0 0 0 0 0 0 0 0 0 0 0 0 nvc) 152))) = (.ok v162 (World.alloc w157 (.cells (pdc 0 false 0 0 0 0 0 0 0 0 0 0 0 0 0 0 0 0 0 0 0 0 0 0 0 0 nvc) 152)))) ∧
 (v162 : Value) = v139) ∧
 (withAddr v139 fun a163 =>
 ∃ n164 n165 n166 n167 n168 n169 n170 n171 n172 n173 n174 n175 n176 n177 n178 n179, (ldCells (World.alloc w157 (.cells (pdc 0 false 0 0 0 0 0 0 0 0 0 0 0 0 0 0 0 0 0 0 0 0 0 0 0 0 nvc) 152)) a163 16 #[.int .u8 n164, .int .u8 n165, .int .u8 n166, .int .u8 n167, .int .u8 n168, .int .u8 n169, .int .u8 n170, .int .u8 n171, .int .u8 n172, .int .u8 n173, .int .u8 n174, .int .u8 n175, .int .u8 n176, .int .u8 n177, .int .u8 n178, .int .u8 n179]) ∧
 ((.agg #[.int .u8 n164, .int .u8 n165, .int .u8 n166, .int .u8 n167, .int .u8 n168, .int .u8 n169, .int .u8 n170, .int .u8 n171, .int .u8 n172, .int .u8 n173, .int .u8 n174, .int .u8 n175, .int .u8 n176, .int .u8 n177, .int .u8 n178, .int .u8 n179]) : Value) = (.agg #[.int .u8 n141, .int .u8 n142, .int .u8 n143, .int .u8 n144, .int .u8 n145, .int .u8 n146, .int .u8 n147, .int .u8 n148, .int .u8 n149, .int .u8 n150, .int .u8 n151, .int .u8 n152, .int .u8 n153, .int .u8 n154, .int .u8 n155, .int .u8 n156])) ∧
 bindW (World.alloc w157 (.cells (pdc 0 false 0 0 0 0 0 0 0 0 0 0 0 0 0 0 0 0 0 0 0 0 0 0 0 0 nvc) 152)) fun w180 =>
 bindW (World.alloc w157 (.cells (pdc 0 false 0 0 0 0 0 0 0 0 0 0 0 0 0 0 0 0 0 0 0 0 0 0 0 0 nvc) 152)) fun w181 =>
 StRow w181 ⟨w157.heap.size, 0, none⟩ (pdc (IntKind.wrap .i64 n131) ((bitsI .and .u8 n133 (128 : Int)) != 0) (IntKind.wrap .i64 (bitsI .andNot .u8 n135 (128 : Int))) (IntKind.wrap .i64 n137) 0 0 0 0 0 0 n141 n142 n143 n144 n145 n146 n147 n148 n149 n150 n151 n152 n153 n154 n155 n156 nvc) ∧
 bindW (stRow w181 ⟨w157.heap.size, 0, none⟩ (pdc (IntKind.wrap .i64 n131) ((bitsI .and .u8 n133 (128 : Int)) != 0) (IntKind.wrap .i64 (bitsI .andNot .u8 n135 (128 : Int))) (IntKind.wrap .i64 n137) 0 0 0 0 0 0 n141 n142 n143 n144 n145 n146 n147 n148 n149 n150 n151 n152 n153 n154 n155 n156 nvc)) fun w182 =>
 bindW (stRow w181 ⟨w157.heap.size, 0, none⟩ (pdc (IntKind.wrap .i64 n131) ((bitsI .and .u8 n133 (128 : Int)) != 0) (IntKind.wrap .i64 (bitsI .andNot .u8 n135 (128 : Int))) (IntKind.wrap .i64 n137) 0 0 0 0 0 0 n141 n142 n143 n144 n145 n146 n147 n148 n149 n150 n151 n152 n153 n154 n155 n156 nvc)) fun w183 =>
 bindW (World.alloc w183 (.cells #[(.pointer (some (Addr.add ⟨w157.heap.size, 0, none⟩ 4))), (.pointer (some (Addr.add ⟨w157.heap.size, 0, none⟩ 5))), (.pointer (some (Addr.add ⟨w157.heap.size, 0, none⟩ 6))), (.pointer (some (Addr.add ⟨w157.heap.size, 0, none⟩ 7))), (.pointer (some (Addr.add ⟨w157.heap.size, 0, none⟩ 8))), (.pointer (some (Addr.add ⟨w157.heap.size, 0, none⟩ 9)))] 269)) fun w184 =>
 ∃ m185, ((sliceLen (.slice (some ⟨w183.heap.size, 0, none⟩) 6 6)) = (some m185)) ∧
 LoopP [.int .i64]
 (fun j186 => fun (n187 : Int) => fun w188 =>
 cond (decide (n187 < ((m185 : Nat) : Int)))
 (∃ a189, sliceAt (.slice (some ⟨w183.heap.size, 0, none⟩) 6 6) n187 1 = some a189 ∧
 ∃ o190, World.cell? w188 a189 = some (.pointer o190) ∧
 CW.Spec Tryz.prog 185 #[p0, (.int .i64 (IntKind.wrap .i64 ((8 : Int) + (IntKind.wrap .i64 ((4 : Int) * n187))))), .int .i64 4] w188 fun v191 w192 =>
 ∃ n193 b194, v191 = .tuple #[.int .u64 n193, .bool b194] ∧
 withAddr (.pointer o190) fun a195 =>
 St1 w192 a195 ∧
 bindW (World.setCell w192 a195 (.int .u32 (IntKind.wrap .u32 n193))) fun w196 =>
 j186 (IntKind.wrap .i64 (n187 + 1)) w196)
 (∃ n197 b198 n199 n200 n201 n202 n203 n204 n205 n206 n207 n208 n209 n210 n211 n212 n213 n214 n215 n216 n217 n218 n219 n220 n221 n222 v223, (ldCells w188 ⟨w157.heap.size, 0, none⟩ 27 (pdc n197 b198 n199 n200 n201 n202 n203 n204 n205 n206 n207 n208 n209 n210 n211 n212 n213 n214 n215 n216 n217 n218 n219 n220 n221 n222 v223)) ∧
 StRow w188 ⟨w.heap.size, 0, none⟩ (pdc n197 b198 n199 n200 n201 n202 n203 n204 n205 n206 n207 n208 n209 n210 n211 n212 n213 n214 n215 n216 n217 n218 n219 n220 n221 n222 v223) ∧
 bindW (stRow w188 ⟨w.heap.size, 0, none⟩ (pdc n197 b198 n199 n200 n201 n202 n203 n204 n205 n206 n207 n208 n209 n210 n211 n212 n213 n214 n215 n216 n217 n218 n219 n220 n221 n222 v223)) fun w224 =>
 ∃ n225 b226 n227 n228 n229 n230 n231 n232 n233 n234 n235 n236 n237 n238 n239 n240 n241 n242 n243 n244 n245 n246 n247 n248 n249 n250 v251, (ldCells w224 ⟨w.heap.size, 0, none⟩ 27 (pdc n225 b226 n227 n228 n229 n230 n231 n232 n233 n234 n235 n236 n237 n238 n239 n240 n241 n242 n243 n244 n245 n246 n247 n248 n249 n250 v251)) ∧
 R (.tuple #[(.agg (pdc n225 b226 n227 n228 n229 n230 n231 n232 n233 n234 n235 n236 n237 n238 n239 n240 n241 n242 n243 n244 n245 n246 n247 n248 n249 n250 v251)), (.int .i64 (IntKind.wrap .i64 n3)), .int .i64 0]) w224))
 (fun s252 => s252 (0 : Int) w184))))
 (fun j253 =>
 ∃ a254, sliceAt p0 (0 : Int) 1 = some a254 ∧
 ∃ n255, World.cell? w41 a254 = some (.int .u8 n255) ∧
 CW.Spec Tryz.prog 177 #[(.int .i64 (IntKind.wrap .i64 n255))] w41 fun v256 w257 =>
 ∃ b258, v256 = .bool b258 ∧
 cond (!b258)
 (j253 true w257)
 (∃ a259, sliceAt p0 (3 : Int) 1 = some a259 ∧
 ∃ n260, World.cell? w257 a259 = some (.int .u8 n260) ∧
 j253 (n260 != 0) w257))))
theorem q88W (p0 w R) (h : q88F p0 w R) : CW.Spec Tryz.prog 143 #[p0] w R :=
 sp Tryz.func143 h
def q111F (p0 : Value) (w : World) (R : KV) : Prop :=
 ∃ m0, sliceLen p0 = some m0 ∧
 LoopP [.int .i64, .int .i64]
 (fun j1 => fun (n2 : Int) => fun (n3 : Int) => fun w4 =>
 cond (decide (n2 < n3))
 (bindW (World.drew w4) fun w5 =>
 ∃ a6, sliceAt p0 n3 1 = some a6 ∧
 ∃ n7, World.cell? w5 a6 = some (.int .u8 n7) ∧
 ∃ a8, sliceAt p0 n2 1 = some a8 ∧
 ∃ n9, World.cell? w5 a8 = some (.int .u8 n9) ∧
 ∃ a10, sliceAt p0 n2 1 = some a10 ∧
 bindW (World.drew w4) fun w11 =>
 St1 w11 a10 ∧
 bindW (World.setCell w11 a10 (.int .u8 n7)) fun w12 =>
 ∃ a13, sliceAt p0 n3 1 = some a13 ∧
 bindW (World.setCell w11 a10 (.int .u8 n7)) fun w14 =>
 St1 w14 a13 ∧
 bindW (World.setCell w14 a13 (.int .u8 n9)) fun w15 =>
 bindW (World.setCell w14 a13 (.int .u8 n9)) fun w16 =>
 j1 (IntKind.wrap .i64 (n2 + 1)) (IntKind.wrap .i64 (n3 - 1)) w16)
 (R (.tuple #[]) w4))
 (fun s17 => s17 (0 : Int) (IntKind.wrap .i64 (((m0 : Nat) : Int) - 1)) w)
theorem q111W (p0 w R) (h : q111F p0 w R) : CW.Spec Tryz.prog 187 #[p0] w R :=
 sp Tryz.func187 h
def q107F (p0 : Value) (p1 : Int) (w : World) (R : KV) : Prop :=
 JoinP []
 (fun w0 =>
 JoinP [.val]
 (fun v1 w2 =>
 R v1 w2)
 (fun j3 =>
 ∃ n4, ((Sem.run Tryz.prog (Builtin.cap_ #[33] 3 #[p0]) w0) = (.ok (.int .i64 n4) w0)) ∧
 ∃ m5, sliceLen p0 = some m5 ∧
 cond (decide ((IntKind.wrap .i64 (p1 - (IntKind.wrap .i64 (n4 - ((m5 : Nat) : Int))))) > 0))
 (∃ n6, ((Sem.run Tryz.prog (Builtin.cap_ #[33] 3 #[p0]) w0) = (.ok (.int .i64 n6) w0)) ∧
 ∃ v7, ((subSlice p0 1 none (some (.int .i64 n6)) none) = (some v7)) ∧
 ∃ v8 w9, Sem.run Tryz.prog (Builtin.append_ #[33, 3] 33 #[v7, (.int .i64 (IntKind.wrap .i64 (p1 - (IntKind.wrap .i64 (n4 - ((m5 : Nat) : Int))))))]) w0 = .ok v8 w9 ∧
 ∃ m10, sliceLen p0 = some m10 ∧
 ∃ v11, ((subSlice v8 1 none (some (.int .i64 (m10 : Nat))) none) = (some v11)) ∧
 j3 v11 w9)
 (j3 p0 w0)))
 (fun j12 =>
 cond (decide (p1 < 0))
 (∃ v13, Sem.run Tryz.prog (Instr.makeInterface 9 (.string (ByteArray.mk #[99, 97, 110, 110, 111, 116, 32, 98, 101, 32, 110, 101, 103, 97, 116, 105, 118, 101]))) w = .ok v13 w ∧
 False)
 (j12 w))
theorem q107W (p0 p1 w R) (h : q107F p0 p1 w R) : CW.Spec Tryz.prog 214 #[p0, .int .i64 p1] w R :=
 sp Tryz.func214 h
end
section
open Go Go.CW
def q93F (p0_0 : Int) (p0_1 : Int) (p0_2 : Int) (p0_3 : Value) (p0_4 : Int) (w : World) (R : KV) : Prop :=
 bindW (World.alloc w (.cells (r5c p0_0 p0_1 p0_2 p0_3 p0_4) 69)) fun w0 =>
 ∃ v1 w2, Sem.run Tryz.prog (Instr.makeSlice 33 (.int .i64 18) (.int .i64 18)) w0 = .ok v1 w2 ∧
 CW.Spec Tryz.prog 218 #[v1] w2 fun v3 w4 =>
 JoinP [.int .u8]
 (fun (n5 : Int) => fun w6 =>
 bindW (World.alloc w6 (.cells #[.int .u8 n5] 5)) fun w7 =>
 CW.callU Tryz.prog v3 #[.int .i64 0, (.slice (some ⟨w6.heap.size, 0, none⟩) 1 1)] w7 fun v8 w9 =>
 v8 = .tuple #[] ∧
 ∃ n10, World.cell? w9 (Addr.add ⟨w.heap.size, 0, none⟩ 1) = some (.int .i64 n10) ∧
 bindW (World.alloc w9 (.cells #[(.int .u8 (IntKind.wrap .u8 (bitsI .and .i64 n10 (15 : Int))))] 5)) fun w11 =>
 CW.callU Tryz.prog v3 #[.int .i64 2, (.slice (some ⟨w9.heap.size, 0, none⟩) 1 1)] w11 fun v12 w13 =>
 v12 = .tuple #[] ∧
 ∃ n14, World.cell? w13 (Addr.add ⟨w.heap.size, 0, none⟩ 4) = some (.int .i64 n14) ∧
 CW.Spec Tryz.prog 84 #[nvc, (.int .u64 (IntKind.wrap .u64 n14)), .int .i64 4] w13 fun v15 w16 =>
 CW.callU Tryz.prog v3 #[.int .i64 3, v15] w16 fun v17 w18 =>
 v17 = .tuple #[] ∧
 bindW (World.alloc w18 (.cells #[.int .u8 10] 5)) fun w19 =>
 CW.callU Tryz.prog v3 #[.int .i64 7, (.slice (some ⟨w18.heap.size, 0, none⟩) 1 1)] w19 fun v20 w21 =>
 v20 = .tuple #[] ∧
 ∃ n22, World.cell? w21 (Addr.add ⟨w.heap.size, 0, none⟩ 2) = some (.int .i64 n22) ∧
 CW.Spec Tryz.prog 84 #[nvc, (.int .u64 (IntKind.wrap .u64 n22)), .int .i64 2] w21 fun v23 w24 =>
 CW.callU Tryz.prog v3 #[.int .i64 12, v23] w24 fun v25 w26 =>
 v25 = .tuple #[] ∧
 R v1 w26)
 (fun j27 =>
 ∃ n28, World.cell? w4 (Addr.add ⟨w.heap.size, 0, none⟩ 4) = some (.int .i64 n28) ∧
 cond ((IntKind.wrap .u32 n28) != 0)
 (j27 (240 : Int) w4)
 (j27 (112 : Int) w4))
theorem q93W (p0_0 p0_1 p0_2 p0_3 p0_4 w R) (h : q93F p0_0 p0_1 p0_2 p0_3 p0_4 w R) : CW.Spec Tryz.prog 190 #[(.agg (r5c p0_0 p0_1 p0_2 p0_3 p0_4))] w R :=
 sp Tryz.func190 h
def q95F (p0 : Value) (w : World) (R : KV) : Prop :=
 bindW (World.alloc w (.cells (Value.cells p0) 33)) fun w0 =>
 R (.func (.func 234) #[] #[(.pointer (some ⟨w.heap.size, 0, none⟩))]) w0
theorem q95W (p0 w R) (h : q95F p0 w R) : CW.Spec Tryz.prog 218 #[p0] w R :=
 sp Tryz.func218 h
def q96F (p0 : Int) (p1 : Value) (p2 : Value) (w : World) (R : KV) : Prop :=
 withAddr p2 fun a0 =>
 ∃ v1, World.cell? w a0 = some v1 ∧
 ∃ v2, ((subSlice v1 1 (some (.int .i64 p0)) none none) = (some v2)) ∧
 ∃ n3 w4, ((Sem.run Tryz.prog (Builtin.copy_ #[33, 33] 3 #[v2, p1]) w) = (.ok (.int .i64 n3) w4)) ∧
 R (.tuple #[]) w4
theorem q96W (p0 p1 p2 w R) (h : q96F p0 p1 p2 w R) : CW.Spec Tryz.prog 234 #[.int .i64 p0, p1, p2] w R :=
 sp Tryz.func234 h
def q92F (p0 : Value) (w : World) (R : KV) : Prop :=
 ∃ m0, sliceLen p0 = some m0 ∧
 cond (decide (((m0 : Nat) : Int) < 18))
 (R (.tuple #[.int .i64 0, .int .i64 0, .int .i64 0, .int .i64 3]) w)
 (JoinP [.bool]
 (fun (b1 : Bool) => fun w2 =>
 cond b1
 (R (.tuple #[.int .i64 0, .int .i64 0, .int .i64 0, .int .i64 2]) w2)
 (CW.Spec Tryz.prog 185 #[p0, .int .i64 12, .int .i64 2] w2 fun v3 w4 =>
 ∃ n5 b6, v3 = .tuple #[.int .u64 n5, .bool b6] ∧
 JoinP [.int .i64]
 (fun (n7 : Int) => fun w8 =>
 ∃ a9, sliceAt p0 (2 : Int) 1 = some a9 ∧
 ∃ n10, World.cell? w8 a9 = some (.int .u8 n10) ∧
 R (.tuple #[(.int .i64 (IntKind.wrap .i64 (bitsI .and .u8 n10 (15 : Int)))), (.int .i64 (IntKind.wrap .i64 n5)), .int .i64 n7, .int .i64 0]) w8)
 (fun j11 =>
 ∃ a12, sliceAt p0 (0 : Int) 1 = some a12 ∧
 ∃ n13, World.cell? w4 a12 = some (.int .u8 n13) ∧
 cond ((bitsI .and .u8 n13 (128 : Int)) != 0)
 (CW.Spec Tryz.prog 185 #[p0, .int .i64 3, .int .i64 4] w4 fun v14 w15 =>
 ∃ n16 b17, v14 = .tuple #[.int .u64 n16, .bool b17] ∧
 j11 (IntKind.wrap .i64 n16) w15)
 (j11 (0 : Int) w4))))
 (fun j18 =>
 ∃ a19, sliceAt p0 (0 : Int) 1 = some a19 ∧
 ∃ n20, World.cell? w a19 = some (.int .u8 n20) ∧
 cond ((bitsI .andNot .u8 n20 (128 : Int)) != 112)
 (j18 true w)
 (∃ a21, sliceAt p0 (7 : Int) 1 = some a21 ∧
 ∃ n22, World.cell? w a21 = some (.int .u8 n22) ∧
 j18 (n22 != 10) w)))
theorem q92W (p0 w R) (h : q92F p0 w R) : CW.Spec Tryz.prog 183 #[p0] w R :=
 sp Tryz.func183 h
end
section
open Go Go.CW
def q94F (p0 : Int) (p1 : Int) (w : World) (R : KV) : Prop :=
 StRow (World.alloc w (.cells (r5c 0 0 0 nvc 0) 69)) ⟨w.heap.size, 0, none⟩ (r5c 2 p0 p1 nvc 0) ∧
 ∃ n0 : Int, ∃ n1 : Int, ∃ n2 : Int, ∃ v3 : Value, ∃ n4 : Int, (ldCells (stRow (World.alloc w (.cells (r5c 0 0 0 nvc 0) 69)) ⟨w.heap.size, 0, none⟩ (r5c 2 p0 p1 nvc 0)) ⟨w.heap.size, 0, none⟩ 5 (r5c n0 n1 n2 v3 n4)) ∧
 R (.agg (r5c n0 n1 n2 v3 n4)) (stRow (World.alloc w (.cells (r5c 0 0 0 nvc 0) 69)) ⟨w.heap.size, 0, none⟩ (r5c 2 p0 p1 nvc 0))
theorem q94W (p0 p1 w R) (h : q94F p0 p1 w R) : CW.Spec Tryz.prog 147 #[.int .i64 p0, .int .i64 p1] w R :=
 sp Tryz.func147 h
end
section
open Go Go.CW
def q7F (p0_0 : Int) (p0_1 : Int) (p0_2 : Int) (p0_3 : Value) (p0_4 : Int) (p0_5 : Int) (p0_6 : Int) (p0_7 : Bool) (w : World) (R : KV) : Prop :=
 CW.Spec Tryz.prog 82 #[(.func (.func 83) #[] #[(.pointer (some ⟨w.heap.size, 0, none⟩))])] (World.alloc w (.cells (r8c p0_0 p0_1 p0_2 p0_3 p0_4 p0_5 p0_6 p0_7) 64)) fun v0 w1 =>
 ∃ n2 : Int, ∃ n3 : Int, ∃ n4 : Int, ∃ b5 : Bool, ∃ b6 : Bool, ∃ b7 : Bool, ∃ b8 : Bool, ∃ b9 : Bool, ∃ b10 : Bool, ∃ b11 : Bool, v0 = .tuple #[(.agg #[.int .i64 n2, .int .u8 n3, .int .u8 n4, .bool b5, .bool b6, .bool b7, .bool b8, .bool b9, .bool b10]), .bool b11] ∧
 StRow (World.alloc w1 (.cells #[.int .i64 0, .int .u8 0, .int .u8 0, .bool false, .bool false, .bool false, .bool false, .bool false, .bool false] 167)) ⟨w1.heap.size, 0, none⟩ #[.int .i64 n2, .int .u8 n3, .int .u8 n4, .bool b5, .bool b6, .bool b7, .bool b8, .bool b9, .bool b10] ∧
 JoinP [.bool]
 (fun (b12 : Bool) => fun w13 =>
 cond b12
 (R (.tuple #[nvc, .int .i64 1]) w13)
 (∃ v14 : Value, ∃ w15 : World, Sem.run Tryz.prog (Instr.makeSlice 33 (.int .i64 16) (.int .i64 16)) w13 = .ok v14 w15 ∧
 ∃ n16 : Int, World.cell? (World.drew w15) (Addr.add ⟨w1.heap.size, 0, none⟩ 1) = some (.int .u8 n16) ∧
 ∃ n17 : Int, World.cell? (World.drew w15) (Addr.add ⟨w1.heap.size, 0, none⟩ 2) = some (.int .u8 n17) ∧
 ∃ a18 : Addr, ((sliceAt v14 (0 : Int) 1) = (some a18)) ∧
 St1 (World.drew w15) a18 ∧
 (∃ n19 : Int, World.cell? (World.setCell (World.drew w15) a18 (.int .u8 n16)) (Addr.add ⟨w1.heap.size, 0, none⟩ 2) = some (.int .u8 n19) ∧
 ((.int .u8 n19) : Value) = (.int .u8 n17)) ∧
 ∃ a20 : Addr, ((sliceAt v14 (1 : Int) 1) = (some a20)) ∧
 St1 (World.setCell (World.drew w15) a18 (.int .u8 n16)) a20 ∧
 JoinP []
 (fun w21 =>
 JoinP []
 (fun w22 =>
 JoinP []
 (fun w23 =>
 JoinP []
 (fun w24 =>
 R (.tuple #[v14, .int .i64 0]) w24)
 (fun j25 =>
 ∃ b26 : Bool, World.cell? w23 (Addr.add ⟨w1.heap.size, 0, none⟩ 4) = some (.bool b26) ∧
 cond b26
 (∃ v27 : Value, ((subSlice v14 1 (some (.int .i64 10)) none none) = (some v27)) ∧
 ∃ n28 : Int, World.cell? (World.drew w23) (Addr.add ⟨w.heap.size, 0, none⟩ 2) = some (.int .i64 n28) ∧
 CW.Spec Tryz.prog 84 #[nvc, (.int .u64 (IntKind.wrap .u64 n28)), .int .i64 4] (World.drew w23) fun v29 w30 =>
 ∃ n31 : Int, ∃ w32 : World, ((Sem.run Tryz.prog (Builtin.copy_ #[33, 33] 3 #[v27, v29]) w30) = (.ok (.int .i64 n31) w32)) ∧
 j25 w32)
 (∃ b33 : Bool, World.cell? w23 (Addr.add ⟨w1.heap.size, 0, none⟩ 5) = some (.bool b33) ∧
 cond b33
 (∃ n34 : Int, World.cell? w23 (Addr.add ⟨w.heap.size, 0, none⟩ 2) = some (.int .i64 n34) ∧
 ∃ a35 : Addr, ((sliceAt v14 (13 : Int) 1) = (some a35)) ∧
 St1 w23 a35 ∧
 j25 (World.setCell w23 a35 (.int .u8 (IntKind.wrap .u8 n34))))
 (j25 w23))))
 (fun j36 =>
 ∃ b37 : Bool, World.cell? w22 (Addr.add ⟨w1.heap.size, 0, none⟩ 3) = some (.bool b37) ∧
 cond b37
 (∃ v38 : Value, ((subSlice v14 1 (some (.int .i64 2)) none none) = (some v38)) ∧
 ∃ n39 : Int, World.cell? (World.drew w22) (Addr.add ⟨w.heap.size, 0, none⟩ 1) = some (.int .i64 n39) ∧
 CW.Spec Tryz.prog 84 #[nvc, (.int .u64 (IntKind.wrap .u64 n39)), .int .i64 8] (World.drew w22) fun v40 w41 =>
 ∃ n42 : Int, ∃ w43 : World, ((Sem.run Tryz.prog (Builtin.copy_ #[33, 33] 3 #[v38, v40]) w41) = (.ok (.int .i64 n42) w43)) ∧
 j36 w43)
 (j36 w22)))
 (fun j44 =>
 ∃ b45 : Bool, World.cell? w21 (Addr.add ⟨w1.heap.size, 0, none⟩ 7) = some (.bool b45) ∧
 cond b45
 (∃ n46 : Int, World.cell? w21 (Addr.add ⟨w.heap.size, 0, none⟩ 6) = some (.int .i64 n46) ∧
 ∃ a47 : Addr, ((sliceAt v14 (2 : Int) 1) = (some a47)) ∧
 St1 w21 a47 ∧
 j44 (World.setCell w21 a47 (.int .u8 (IntKind.wrap .u8 n46))))
 (j44 w21)))
 (fun j48 =>
 JoinP [.bool]
 (fun (b49 : Bool) => fun w50 =>
 cond b49
 (∃ a51 : Addr, ((sliceAt v14 (1 : Int) 1) = (some a51)) ∧
 St1 w50 a51 ∧
 j48 (World.setCell w50 a51 (.int .u8 8)))
 (j48 w50))
 (fun j52 =>
 ∃ b53 : Bool, World.cell? (World.setCell (World.setCell (World.drew w15) a18 (.int .u8 n16)) a20 (.int .u8 n17)) (Addr.add ⟨w1.heap.size, 0, none⟩ 6) = some (.bool b53) ∧
 cond b53
 (∃ b54 : Bool, World.cell? (World.setCell (World.setCell (World.drew w15) a18 (.int .u8 n16)) a20 (.int .u8 n17)) (Addr.add ⟨w.heap.size, 0, none⟩ 7) = some (.bool b54) ∧
 j52 b54 (World.setCell (World.setCell (World.drew w15) a18 (.int .u8 n16)) a20 (.int .u8 n17)))
 (j52 false (World.setCell (World.setCell (World.drew w15) a18 (.int .u8 n16)) a20 (.int .u8 n17)))))))
 (fun j55 =>
 cond (!b11)
 (j55 (!b11) (stRow (World.alloc w1 (.cells #[.int .i64 0, .int .u8 0, .int .u8 0, .bool false, .bool false, .bool false, .bool false, .bool false, .bool false] 167)) ⟨w1.heap.size, 0, none⟩ #[.int .i64 n2, .int .u8 n3, .int .u8 n4, .bool b5, .bool b6, .bool b7, .bool b8, .bool b9, .bool b10]))
 (JoinP [.bool]
 (fun (b56 : Bool) => fun w57 =>
 cond b56
 (j55 b56 w57)
 (JoinP [.bool]
 (fun (b58 : Bool) => fun w59 =>
 cond b58
 (j55 b58 w59)
 (JoinP [.bool]
 (fun (b60 : Bool) => fun w61 =>
 cond b60
 (j55 b60 w61)
 (∃ b62 : Bool, World.cell? w61 (Addr.add ⟨w1.heap.size, 0, none⟩ 7) = some (.bool b62) ∧
 cond b62
 (∃ n63 : Int, World.cell? w61 (Addr.add ⟨w.heap.size, 0, none⟩ 6) = some (.int .i64 n63) ∧
 cond (decide (n63 < 0))
 (j55 true w61)
 (∃ n64 : Int, World.cell? w61 (Addr.add ⟨w.heap.size, 0, none⟩ 6) = some (.int .i64 n64) ∧
 j55 (decide (n64 > 15)) w61))
 (j55 false w61)))
 (fun j65 =>
 ∃ b66 : Bool, World.cell? w59 (Addr.add ⟨w1.heap.size, 0, none⟩ 5) = some (.bool b66) ∧
 cond b66
 (∃ n67 : Int, World.cell? w59 (Addr.add ⟨w.heap.size, 0, none⟩ 2) = some (.int .i64 n67) ∧
 j65 (decide (n67 > 255)) w59)
 (j65 false w59))))
 (fun j68 =>
 ∃ b69 : Bool, World.cell? w57 (Addr.add ⟨w1.heap.size, 0, none⟩ 4) = some (.bool b69) ∧
 cond b69
 (∃ n70 : Int, World.cell? w57 (Addr.add ⟨w.heap.size, 0, none⟩ 2) = some (.int .i64 n70) ∧
 j68 (decide (n70 > 4294967295)) w57)
 (j68 false w57))))
 (fun j71 =>
 ∃ b72 : Bool, World.cell? (stRow (World.alloc w1 (.cells #[.int .i64 0, .int .u8 0, .int .u8 0, .bool false, .bool false, .bool false, .bool false, .bool false, .bool false] 167)) ⟨w1.heap.size, 0, none⟩ #[.int .i64 n2, .int .u8 n3, .int .u8 n4, .bool b5, .bool b6, .bool b7, .bool b8, .bool b9, .bool b10]) (Addr.add ⟨w1.heap.size, 0, none⟩ 3) = some (.bool b72) ∧
 cond b72
 (∃ n73 : Int, World.cell? (stRow (World.alloc w1 (.cells #[.int .i64 0, .int .u8 0, .int .u8 0, .bool false, .bool false, .bool false, .bool false, .bool false, .bool false] 167)) ⟨w1.heap.size, 0, none⟩ #[.int .i64 n2, .int .u8 n3, .int .u8 n4, .bool b5, .bool b6, .bool b7, .bool b8, .bool b9, .bool b10]) (Addr.add ⟨w.heap.size, 0, none⟩ 1) = some (.int .i64 n73) ∧
 cond (decide (n73 < 0))
 (j71 true (stRow (World.alloc w1 (.cells #[.int .i64 0, .int .u8 0, .int .u8 0, .bool false, .bool false, .bool false, .bool false, .bool false, .bool false] 167)) ⟨w1.heap.size, 0, none⟩ #[.int .i64 n2, .int .u8 n3, .int .u8 n4, .bool b5, .bool b6, .bool b7, .bool b8, .bool b9, .bool b10]))
 (∃ n74 : Int, World.cell? (stRow (World.alloc w1 (.cells #[.int .i64 0, .int .u8 0, .int .u8 0, .bool false, .bool false, .bool false, .bool false, .bool false, .bool false] 167)) ⟨w1.heap.size, 0, none⟩ #[.int .i64 n2, .int .u8 n3, .int .u8 n4, .bool b5, .bool b6, .bool b7, .bool b8, .bool b9, .bool b10]) (Addr.add ⟨w.heap.size, 0, none⟩ 2) = some (.int .i64 n74) ∧
 j71 (decide (n74 < 0)) (stRow (World.alloc w1 (.cells #[.int .i64 0, .int .u8 0, .int .u8 0, .bool false, .bool false, .bool false, .bool false, .bool false, .bool false] 167)) ⟨w1.heap.size, 0, none⟩ #[.int .i64 n2, .int .u8 n3, .int .u8 n4, .bool b5, .bool b6, .bool b7, .bool b8, .bool b9, .bool b10])))
 (j71 false (stRow (World.alloc w1 (.cells #[.int .i64 0, .int .u8 0, .int .u8 0, .bool false, .bool false, .bool false, .bool false, .bool false, .bool false] 167)) ⟨w1.heap.size, 0, none⟩ #[.int .i64 n2, .int .u8 n3, .int .u8 n4, .bool b5, .bool b6, .bool b7, .bool b8, .bool b9, .bool b10])))))
theorem q7W (p0_0 p0_1 p0_2 p0_3 p0_4 p0_5 p0_6 p0_7 w R) (h : q7F p0_0 p0_1 p0_2 p0_3 p0_4 p0_5 p0_6 p0_7 w R) : CW.Spec Tryz.prog 41 #[(.agg (r8c p0_0 p0_1 p0_2 p0_3 p0_4 p0_5 p0_6 p0_7))] w R :=
 sp Tryz.func41 h
def q12F (p0 : Value) (w : World) (R : KV) : Prop :=
 CW.Spec Tryz.prog 129 #[] (World.alloc (World.alloc w (.cells #[.int .i64 0, .int .u8 0, .int .u8 0, .bool false, .bool false, .bool false, .bool false, .bool false, .bool false] 167)) (.cells #[.int .i64 0, .int .u8 0, .int .u8 0, .bool false, .bool false, .bool false, .bool false, .bool false, .bool false] 167)) fun v0 w1 =>
 ∃ m2 : Nat, ((sliceLen v0) = (some m2)) ∧
 JoinP [.bool]
 (fun (b3 : Bool) => fun w4 =>
 ∃ n5 : Int, ∃ n6 : Int, ∃ n7 : Int, ∃ b8 : Bool, ∃ b9 : Bool, ∃ b10 : Bool, ∃ b11 : Bool, ∃ b12 : Bool, ∃ b13 : Bool, (ldCells w4 ⟨(Array.size (World.heap (World.alloc w (.cells #[.int .i64 0, .int .u8 0, .int .u8 0, .bool false, .bool false, .bool false, .bool false, .bool false, .bool false] 167)))), 0, none⟩ 9 #[.int .i64 n5, .int .u8 n6, .int .u8 n7, .bool b8, .bool b9, .bool b10, .bool b11, .bool b12, .bool b13]) ∧
 StRow w4 ⟨w.heap.size, 0, none⟩ #[.int .i64 n5, .int .u8 n6, .int .u8 n7, .bool b8, .bool b9, .bool b10, .bool b11, .bool b12, .bool b13] ∧
 ∃ n14 : Int, ∃ n15 : Int, ∃ n16 : Int, ∃ b17 : Bool, ∃ b18 : Bool, ∃ b19 : Bool, ∃ b20 : Bool, ∃ b21 : Bool, ∃ b22 : Bool, (ldCells (stRow w4 ⟨w.heap.size, 0, none⟩ #[.int .i64 n5, .int .u8 n6, .int .u8 n7, .bool b8, .bool b9, .bool b10, .bool b11, .bool b12, .bool b13]) ⟨w.heap.size, 0, none⟩ 9 #[.int .i64 n14, .int .u8 n15, .int .u8 n16, .bool b17, .bool b18, .bool b19, .bool b20, .bool b21, .bool b22]) ∧
 R (.tuple #[(.agg #[.int .i64 n14, .int .u8 n15, .int .u8 n16, .bool b17, .bool b18, .bool b19, .bool b20, .bool b21, .bool b22]), .bool b3]) (stRow w4 ⟨w.heap.size, 0, none⟩ #[.int .i64 n5, .int .u8 n6, .int .u8 n7, .bool b8, .bool b9, .bool b10, .bool b11, .bool b12, .bool b13]))
 (fun j23 =>
 LoopP [.bool, .int .i64]
 (fun j24 => fun (b25 : Bool) => fun (n26 : Int) => fun w27 =>
 cond (decide (n26 < ((m2 : Nat) : Int)))
 (∃ a28 : Addr, ((sliceAt v0 n26 9) = (some a28)) ∧
 ∃ n29 : Int, ∃ n30 : Int, ∃ n31 : Int, ∃ b32 : Bool, ∃ b33 : Bool, ∃ b34 : Bool, ∃ b35 : Bool, ∃ b36 : Bool, ∃ b37 : Bool, (ldCells w27 a28 9 #[.int .i64 n29, .int .u8 n30, .int .u8 n31, .bool b32, .bool b33, .bool b34, .bool b35, .bool b36, .bool b37]) ∧
 StRow (World.alloc w27 (.cells #[.int .i64 0, .int .u8 0, .int .u8 0, .bool false, .bool false, .bool false, .bool false, .bool false, .bool false] 167)) ⟨w27.heap.size, 0, none⟩ #[.int .i64 n29, .int .u8 n30, .int .u8 n31, .bool b32, .bool b33, .bool b34, .bool b35, .bool b36, .bool b37] ∧
 ∃ n38 : Int, ∃ n39 : Int, ∃ n40 : Int, ∃ b41 : Bool, ∃ b42 : Bool, ∃ b43 : Bool, ∃ b44 : Bool, ∃ b45 : Bool, ∃ b46 : Bool, (ldCells (stRow (World.alloc w27 (.cells #[.int .i64 0, .int .u8 0, .int .u8 0, .bool false, .bool false, .bool false, .bool false, .bool false, .bool false] 167)) ⟨w27.heap.size, 0, none⟩ #[.int .i64 n29, .int .u8 n30, .int .u8 n31, .bool b32, .bool b33, .bool b34, .bool b35, .bool b36, .bool b37]) ⟨w27.heap.size, 0, none⟩ 9 #[.int .i64 n38, .int .u8 n39, .int .u8 n40, .bool b41, .bool b42, .bool b43, .bool b44, .bool b45, .bool b46]) ∧
 CW.callU Tryz.prog p0 #[(.agg #[.int .i64 n38, .int .u8 n39, .int .u8 n40, .bool b41, .bool b42, .bool b43, .bool b44, .bool b45, .bool b46])] (stRow (World.alloc w27 (.cells #[.int .i64 0, .int .u8 0, .int .u8 0, .bool false, .bool false, .bool false, .bool false, .bool false, .bool false] 167)) ⟨w27.heap.size, 0, none⟩ #[.int .i64 n29, .int .u8 n30, .int .u8 n31, .bool b32, .bool b33, .bool b34, .bool b35, .bool b36, .bool b37]) fun v47 w48 =>
 ∃ b49 : Bool, v47 = .bool b49 ∧
 cond b49
 (∃ n50 : Int, ∃ n51 : Int, ∃ n52 : Int, ∃ b53 : Bool, ∃ b54 : Bool, ∃ b55 : Bool, ∃ b56 : Bool, ∃ b57 : Bool, ∃ b58 : Bool, (ldCells w48 ⟨w27.heap.size, 0, none⟩ 9 #[.int .i64 n50, .int .u8 n51, .int .u8 n52, .bool b53, .bool b54, .bool b55, .bool b56, .bool b57, .bool b58]) ∧
 StRow w48 ⟨(Array.size (World.heap (World.alloc w (.cells #[.int .i64 0, .int .u8 0, .int .u8 0, .bool false, .bool false, .bool false, .bool false, .bool false, .bool false] 167)))), 0, none⟩ #[.int .i64 n50, .int .u8 n51, .int .u8 n52, .bool b53, .bool b54, .bool b55, .bool b56, .bool b57, .bool b58] ∧
 j23 true (stRow w48 ⟨(Array.size (World.heap (World.alloc w (.cells #[.int .i64 0, .int .u8 0, .int .u8 0, .bool false, .bool false, .bool false, .bool false, .bool false, .bool false] 167)))), 0, none⟩ #[.int .i64 n50, .int .u8 n51, .int .u8 n52, .bool b53, .bool b54, .bool b55, .bool b56, .bool b57, .bool b58]))
 (j24 b25 (IntKind.wrap .i64 (n26 + 1)) w48))
 (j23 b25 w27))
 (fun s59 => s59 false (0 : Int) w1))
theorem q12W (p0 w R) (h : q12F p0 w R) : CW.Spec Tryz.prog 82 #[p0] w R :=
 sp Tryz.func82 h
def q8F (p0_0 : Int) (p0_1 : Int) (p0_2 : Int) (p0_3 : Bool) (p0_4 : Bool) (p0_5 : Bool) (p0_6 : Bool) (p0_7 : Bool) (p0_8 : Bool) (p1 : Value) (w : World) (R : KV) : Prop :=
 ∃ n0 : Int, World.cell? (World.alloc w (.cells #[.int .i64 p0_0, .int .u8 p0_1, .int .u8 p0_2, .bool p0_3, .bool p0_4, .bool p0_5, .bool p0_6, .bool p0_7, .bool p0_8] 167)) (Addr.add ⟨w.heap.size, 0, none⟩ 0) = some (.int .i64 n0) ∧
 withAddr p1 fun a1 =>
 ∃ n2 : Int, World.cell? (World.alloc w (.cells #[.int .i64 p0_0, .int .u8 p0_1, .int .u8 p0_2, .bool p0_3, .bool p0_4, .bool p0_5, .bool p0_6, .bool p0_7, .bool p0_8] 167)) (Addr.add a1 0) = some (.int .i64 n2) ∧
 R (.bool (n0 == n2)) (World.alloc w (.cells #[.int .i64 p0_0, .int .u8 p0_1, .int .u8 p0_2, .bool p0_3, .bool p0_4, .bool p0_5, .bool p0_6, .bool p0_7, .bool p0_8] 167))
theorem q8W (p0_0 p0_1 p0_2 p0_3 p0_4 p0_5 p0_6 p0_7 p0_8 p1 w R) (h : q8F p0_0 p0_1 p0_2 p0_3 p0_4 p0_5 p0_6 p0_7 p0_8 p1 w R) : CW.Spec Tryz.prog 83 #[(.agg #[.int .i64 p0_0, .int .u8 p0_1, .int .u8 p0_2, .bool p0_3, .bool p0_4, .bool p0_5, .bool p0_6, .bool p0_7, .bool p0_8]), p1] w R :=
 sp Tryz.func83 h
def q9F (p0_0 : Int) (p0_1 : Int) (p0_2 : Int) (p0_3 : Value) (p0_4 : Int) (p0_5 : Int) (p0_6 : Int) (p0_7 : Bool) (w : World) (R : KV) : Prop :=
 ∃ n0 : Int, World.cell? (World.alloc w (.cells (r8c p0_0 p0_1 p0_2 p0_3 p0_4 p0_5 p0_6 p0_7) 64)) (Addr.add ⟨w.heap.size, 0, none⟩ 0) = some (.int .i64 n0) ∧
 cond (n0 == 3)
 (∃ n1 : Int, World.cell? (World.alloc w (.cells (r8c p0_0 p0_1 p0_2 p0_3 p0_4 p0_5 p0_6 p0_7) 64)) (Addr.add ⟨w.heap.size, 0, none⟩ 2) = some (.int .i64 n1) ∧
 CW.Spec Tryz.prog 130 #[.int .i64 n1] (World.alloc w (.cells (r8c p0_0 p0_1 p0_2 p0_3 p0_4 p0_5 p0_6 p0_7) 64)) fun v2 w3 =>
 ∃ n4 : Int, v2 = .int .i64 n4 ∧
 R (.int .i64 n4) w3)
 (cond (n0 == 6)
 (∃ n5 : Int, World.cell? (World.alloc w (.cells (r8c p0_0 p0_1 p0_2 p0_3 p0_4 p0_5 p0_6 p0_7) 64)) (Addr.add ⟨w.heap.size, 0, none⟩ 2) = some (.int .i64 n5) ∧
 CW.Spec Tryz.prog 130 #[.int .i64 n5] (World.alloc w (.cells (r8c p0_0 p0_1 p0_2 p0_3 p0_4 p0_5 p0_6 p0_7) 64)) fun v6 w7 =>
 ∃ n8 : Int, v6 = .int .i64 n8 ∧
 R (.int .i64 (IntKind.wrap .i64 ((2 : Int) * n8))) w7)
 (JoinP [.bool]
 (fun (b9 : Bool) => fun w10 =>
 cond b9
 (R (.int .i64 24) w10)
 (R (.int .i64 0) w10))
 (fun j11 =>
 cond (n0 == 10)
 (j11 (n0 == 10) (World.alloc w (.cells (r8c p0_0 p0_1 p0_2 p0_3 p0_4 p0_5 p0_6 p0_7) 64)))
 (cond (n0 == 11)
 (j11 (n0 == 11) (World.alloc w (.cells (r8c p0_0 p0_1 p0_2 p0_3 p0_4 p0_5 p0_6 p0_7) 64)))
 (cond (n0 == 12)
 (j11 (n0 == 12) (World.alloc w (.cells (r8c p0_0 p0_1 p0_2 p0_3 p0_4 p0_5 p0_6 p0_7) 64)))
 (cond (n0 == 13)
 (j11 (n0 == 13) (World.alloc w (.cells (r8c p0_0 p0_1 p0_2 p0_3 p0_4 p0_5 p0_6 p0_7) 64)))
 (cond (n0 == 14)
 (j11 (n0 == 14) (World.alloc w (.cells (r8c p0_0 p0_1 p0_2 p0_3 p0_4 p0_5 p0_6 p0_7) 64)))
 (j11 (n0 == 15) (World.alloc w (.cells (r8c p0_0 p0_1 p0_2 p0_3 p0_4 p0_5 p0_6 p0_7) 64))))))))))
theorem q9W (p0_0 p0_1 p0_2 p0_3 p0_4 p0_5 p0_6 p0_7 w R) (h : q9F p0_0 p0_1 p0_2 p0_3 p0_4 p0_5 p0_6 p0_7 w R) : CW.Spec Tryz.prog 87 #[(.agg (r8c p0_0 p0_1 p0_2 p0_3 p0_4 p0_5 p0_6 p0_7))] w R :=
 sp Tryz.func87 h
def q11F  (w : World) (R : KV) : Prop :=
 R (.slice (some ⟨w.heap.size, 0, none⟩) 17 17) (World.alloc w (.cells #[.int .i64 1, .int .u8 0, .int .u8 0, .bool false, .bool false, .bool false, .bool false, .bool false, .bool false, .int .i64 9, .int .u8 3, .int .u8 0, .bool false, .bool false, .bool false, .bool false, .bool false, .bool false, .int .i64 8, .int .u8 18, .int .u8 0, .bool false, .bool false, .bool false, .bool false, .bool false, .bool false, .int .i64 7, .int .u8 37, .int .u8 0, .bool false, .bool false, .bool false, .bool false, .bool false, .bool false, .int .i64 2, .int .u8 136, .int .u8 0, .bool true, .bool true, .bool false, .bool false, .bool false, .bool false, .int .i64 3, .int .u8 138, .int .u8 0, .bool true, .bool true, .bool false, .bool true, .bool false, .bool false, .int .i64 4, .int .u8 145, .int .u8 0, .bool true, .bool true, .bool false, .bool false, .bool false, .bool false, .int .i64 5, .int .u8 66, .int .u8 0, .bool true, .bool true, .bool false, .bool false, .bool false, .bool false, .int .i64 6, .int .u8 137, .int .u8 0, .bool true, .bool false, .bool true, .bool true, .bool false, .bool false, .int .i64 10, .int .u8 95, .int .u8 0, .bool false, .bool false, .bool false, .bool false, .bool false, .bool true, .int .i64 12, .int .u8 95, .int .u8 1, .bool false, .bool false, .bool false, .bool false, .bool true, .bool true, .int .i64 13, .int .u8 95, .int .u8 2, .bool false, .bool false, .bool false, .bool false, .bool true, .bool true, .int .i64 14, .int .u8 95, .int .u8 3, .bool false, .bool false, .bool false, .bool false, .bool false, .bool true, .int .i64 15, .int .u8 95, .int .u8 4, .bool false, .bool false, .bool false, .bool false, .bool true, .bool true, .int .i64 11, .int .u8 95, .int .u8 6, .bool false, .bool false, .bool false, .bool false, .bool false, .bool true, .int .i64 16, .int .u8 94, .int .u8 0, .bool false, .bool false, .bool false, .bool false, .bool false, .bool true, .int .i64 17, .int .u8 94, .int .u8 1, .bool false, .bool false, .bool false, .bool false, .bool false, .bool true] 167))
theorem q11W  (w : World) (R : KV) (h : q11F  w R) : CW.Spec Tryz.prog 129 #[] w R :=
 sp Tryz.func129 h
def q13F (p0 : Int) (w : World) (R : KV) : Prop :=
 JoinP [.bool]
 (fun (b0 : Bool) => fun w1 =>
 cond b0
 (R (.int .i64 0) w1)
 (R (.int .i64 (IntKind.wrap .i64 (p0 * 8))) w1))
 (fun j2 =>
 cond (decide (p0 < 0))
 (j2 true w)
 (j2 (decide (p0 > 32)) w))
theorem q13W (p0 w R) (h : q13F p0 w R) : CW.Spec Tryz.prog 130 #[.int .i64 p0] w R :=
 sp Tryz.func130 h
def q6F (p0_0 : Int) (p0_1 : Int) (p0_2 : Int) (p0_3 : Bool) (p0_4 : Bool) (p0_5 : Bool) (p0_6 : Bool) (p0_7 : Bool) (p0_8 : Bool) (p1 : Value) (w : World) (R : KV) : Prop :=
 JoinP [.bool]
 (fun (b0 : Bool) => fun w1 =>
 R (.bool b0) w1)
 (fun j2 =>
 ∃ n3 : Int, World.cell? (World.drew (World.alloc w (.cells #[.int .i64 p0_0, .int .u8 p0_1, .int .u8 p0_2, .bool p0_3, .bool p0_4, .bool p0_5, .bool p0_6, .bool p0_7, .bool p0_8] 167))) (Addr.add ⟨w.heap.size, 0, none⟩ 1) = some (.int .u8 n3) ∧
 withAddr p1 fun a4 =>
 ∃ v5 : Value, World.cell? (World.drew (World.alloc w (.cells #[.int .i64 p0_0, .int .u8 p0_1, .int .u8 p0_2, .bool p0_3, .bool p0_4, .bool p0_5, .bool p0_6, .bool p0_7, .bool p0_8] 167))) a4 = some v5 ∧
 ∃ a6 : Addr, ((sliceAt v5 (0 : Int) 1) = (some a6)) ∧
 ∃ n7 : Int, World.cell? (World.drew (World.alloc w (.cells #[.int .i64 p0_0, .int .u8 p0_1, .int .u8 p0_2, .bool p0_3, .bool p0_4, .bool p0_5, .bool p0_6, .bool p0_7, .bool p0_8] 167))) a6 = some (.int .u8 n7) ∧
 cond (n3 == n7)
 (∃ b8 : Bool, World.cell? (World.drew (World.alloc w (.cells #[.int .i64 p0_0, .int .u8 p0_1, .int .u8 p0_2, .bool p0_3, .bool p0_4, .bool p0_5, .bool p0_6, .bool p0_7, .bool p0_8] 167))) (Addr.add ⟨w.heap.size, 0, none⟩ 8) = some (.bool b8) ∧
 cond (!b8)
 (j2 true (World.drew (World.alloc w (.cells #[.int .i64 p0_0, .int .u8 p0_1, .int .u8 p0_2, .bool p0_3, .bool p0_4, .bool p0_5, .bool p0_6, .bool p0_7, .bool p0_8] 167))))
 (∃ n9 : Int, World.cell? (World.drew (World.alloc w (.cells #[.int .i64 p0_0, .int .u8 p0_1, .int .u8 p0_2, .bool p0_3, .bool p0_4, .bool p0_5, .bool p0_6, .bool p0_7, .bool p0_8] 167))) (Addr.add ⟨w.heap.size, 0, none⟩ 2) = some (.int .u8 n9) ∧
 withAddr p1 fun a10 =>
 ∃ v11 : Value, World.cell? (World.drew (World.alloc w (.cells #[.int .i64 p0_0, .int .u8 p0_1, .int .u8 p0_2, .bool p0_3, .bool p0_4, .bool p0_5, .bool p0_6, .bool p0_7, .bool p0_8] 167))) a10 = some v11 ∧
 ∃ a12 : Addr, ((sliceAt v11 (1 : Int) 1) = (some a12)) ∧
 ∃ n13 : Int, World.cell? (World.drew (World.alloc w (.cells #[.int .i64 p0_0, .int .u8 p0_1, .int .u8 p0_2, .bool p0_3, .bool p0_4, .bool p0_5, .bool p0_6, .bool p0_7, .bool p0_8] 167))) a12 = some (.int .u8 n13) ∧
 j2 (n9 == n13) (World.drew (World.alloc w (.cells #[.int .i64 p0_0, .int .u8 p0_1, .int .u8 p0_2, .bool p0_3, .bool p0_4, .bool p0_5, .bool p0_6, .bool p0_7, .bool p0_8] 167)))))
 (j2 false (World.drew (World.alloc w (.cells #[.int .i64 p0_0, .int .u8 p0_1, .int .u8 p0_2, .bool p0_3, .bool p0_4, .bool p0_5, .bool p0_6, .bool p0_7, .bool p0_8] 167)))))
theorem q6W (p0_0 p0_1 p0_2 p0_3 p0_4 p0_5 p0_6 p0_7 p0_8 p1 w R) (h : q6F p0_0 p0_1 p0_2 p0_3 p0_4 p0_5 p0_6 p0_7 p0_8 p1 w R) : CW.Spec Tryz.prog 188 #[(.agg #[.int .i64 p0_0, .int .u8 p0_1, .int .u8 p0_2, .bool p0_3, .bool p0_4, .bool p0_5, .bool p0_6, .bool p0_7, .bool p0_8]), p1] w R :=
 sp Tryz.func188 h
def q10F (p0_0 : Int) (p0_1 : Int) (p0_2 : Int) (p0_3 : Bool) (p0_4 : Bool) (p0_5 : Bool) (p0_6 : Bool) (p0_7 : Bool) (p0_8 : Bool) (p1 : Int) (w : World) (R : KV) : Prop :=
 JoinP [.bool]
 (fun (b0 : Bool) => fun w1 =>
 cond b0
 (R (.bool true) w1)
 (R (.bool false) w1))
 (fun j2 =>
 cond (p1 == 0)
 (j2 (p1 == 0) (World.alloc w (.cells #[.int .i64 p0_0, .int .u8 p0_1, .int .u8 p0_2, .bool p0_3, .bool p0_4, .bool p0_5, .bool p0_6, .bool p0_7, .bool p0_8] 167)))
 (JoinP [.bool]
 (fun (b3 : Bool) => fun w4 =>
 cond b3
 (j2 b3 w4)
 (JoinP [.bool]
 (fun (b5 : Bool) => fun w6 =>
 cond b5
 (j2 b5 w6)
 (JoinP [.bool]
 (fun (b7 : Bool) => fun w8 =>
 cond b7
 (j2 b7 w8)
 (JoinP [.bool]
 (fun (b9 : Bool) => fun w10 =>
 cond b9
 (j2 b9 w10)
 (cond (p1 == 13)
 (∃ b11 : Bool, World.cell? w10 (Addr.add ⟨w.heap.size, 0, none⟩ 5) = some (.bool b11) ∧
 j2 b11 w10)
 (j2 false w10)))
 (fun j12 =>
 cond (decide (p1 ≥ 10))
 (cond (decide (p1 < 14))
 (∃ b13 : Bool, World.cell? w8 (Addr.add ⟨w.heap.size, 0, none⟩ 4) = some (.bool b13) ∧
 j12 b13 w8)
 (j12 false w8))
 (j12 false w8))))
 (fun j14 =>
 cond (decide (p1 ≥ 2))
 (cond (decide (p1 < 10))
 (∃ b15 : Bool, World.cell? w6 (Addr.add ⟨w.heap.size, 0, none⟩ 3) = some (.bool b15) ∧
 j14 b15 w6)
 (j14 false w6))
 (j14 false w6))))
 (fun j16 =>
 cond (p1 == 2)
 (∃ b17 : Bool, World.cell? w4 (Addr.add ⟨w.heap.size, 0, none⟩ 7) = some (.bool b17) ∧
 j16 b17 w4)
 (j16 false w4))))
 (fun j18 =>
 cond (p1 == 1)
 (∃ b19 : Bool, World.cell? (World.alloc w (.cells #[.int .i64 p0_0, .int .u8 p0_1, .int .u8 p0_2, .bool p0_3, .bool p0_4, .bool p0_5, .bool p0_6, .bool p0_7, .bool p0_8] 167)) (Addr.add ⟨w.heap.size, 0, none⟩ 8) = some (.bool b19) ∧
 j18 b19 (World.alloc w (.cells #[.int .i64 p0_0, .int .u8 p0_1, .int .u8 p0_2, .bool p0_3, .bool p0_4, .bool p0_5, .bool p0_6, .bool p0_7, .bool p0_8] 167)))
 (j18 false (World.alloc w (.cells #[.int .i64 p0_0, .int .u8 p0_1, .int .u8 p0_2, .bool p0_3, .bool p0_4, .bool p0_5, .bool p0_6, .bool p0_7, .bool p0_8] 167))))))
theorem q10W (p0_0 p0_1 p0_2 p0_3 p0_4 p0_5 p0_6 p0_7 p0_8 p1 w R) (h : q10F p0_0 p0_1 p0_2 p0_3 p0_4 p0_5 p0_6 p0_7 p0_8 p1 w R) : CW.Spec Tryz.prog 189 #[(.agg #[.int .i64 p0_0, .int .u8 p0_1, .int .u8 p0_2, .bool p0_3, .bool p0_4, .bool p0_5, .bool p0_6, .bool p0_7, .bool p0_8]), .int .i64 p1] w R :=
 sp Tryz.func189 h
end
section
open Go Go.CW
def q5F (p0 : Value) (w : World) (R : KV) : Prop :=
 bindW (World.alloc w (.cells (Value.cells p0) 33)) fun w0 =>
 bindW (World.alloc w0 (.cells (r8c 0 0 0 nvc 0 0 0 false) 64)) fun w1 =>
 bindW (World.alloc w1 (.cells (r5c 0 0 0 nvc 0) 69)) fun w2 =>
 ∃ v3, World.cell? w2 ⟨w.heap.size, 0, none⟩ = some v3 ∧
 ∃ m4, sliceLen v3 = some m4 ∧
 cond (decide (((m4 : Nat) : Int) < 16))
 (CW.Spec Tryz.prog 147 #[.int .i64 5, .int .i64 8192] w2 fun v5 w6 =>
 ∃ n7 n8 n9 v10 n11, v5 = .agg (r5c n7 n8 n9 v10 n11) ∧
 StRow w6 ⟨w0.heap.size, 0, none⟩ (r8c 0 0 0 nvc 0 0 0 false) ∧
 bindW (stRow w6 ⟨w0.heap.size, 0, none⟩ (r8c 0 0 0 nvc 0 0 0 false)) fun w12 =>
 StRow w12 ⟨w1.heap.size, 0, none⟩ (r5c n7 n8 n9 v10 n11) ∧
 bindW (stRow w12 ⟨w1.heap.size, 0, none⟩ (r5c n7 n8 n9 v10 n11)) fun w13 =>
 ∃ n14 n15 n16 v17 n18 n19 n20 b21, (ldCells w13 ⟨w0.heap.size, 0, none⟩ 8 (r8c n14 n15 n16 v17 n18 n19 n20 b21)) ∧
 ∃ n22 n23 n24 v25 n26, (ldCells w13 ⟨w1.heap.size, 0, none⟩ 5 (r5c n22 n23 n24 v25 n26)) ∧
 R (.tuple #[(.agg (r8c n14 n15 n16 v17 n18 n19 n20 b21)), (.agg (r5c n22 n23 n24 v25 n26)), .bool false]) w13)
 (CW.Spec Tryz.prog 82 #[(.func (.func 188) #[] #[(.pointer (some ⟨w.heap.size, 0, none⟩))])] w2 fun v27 w28 =>
 ∃ n29 n30 n31 b32 b33 b34 b35 b36 b37 b38, v27 = .tuple #[(.agg #[.int .i64 n29, .int .u8 n30, .int .u8 n31, .bool b32, .bool b33, .bool b34, .bool b35, .bool b36, .bool b37]), .bool b38] ∧
 bindW (World.alloc w28 (.cells #[.int .i64 0, .int .u8 0, .int .u8 0, .bool false, .bool false, .bool false, .bool false, .bool false, .bool false] 167)) fun w39 =>
 StRow w39 ⟨w28.heap.size, 0, none⟩ #[.int .i64 n29, .int .u8 n30, .int .u8 n31, .bool b32, .bool b33, .bool b34, .bool b35, .bool b36, .bool b37] ∧
 bindW (stRow w39 ⟨w28.heap.size, 0, none⟩ #[.int .i64 n29, .int .u8 n30, .int .u8 n31, .bool b32, .bool b33, .bool b34, .bool b35, .bool b36, .bool b37]) fun w40 =>
 cond (!b38)
 (CW.Spec Tryz.prog 147 #[.int .i64 5, .int .i64 8192] w40 fun v41 w42 =>
 ∃ n43 n44 n45 v46 n47, v41 = .agg (r5c n43 n44 n45 v46 n47) ∧
 StRow w42 ⟨w0.heap.size, 0, none⟩ (r8c 0 0 0 nvc 0 0 0 false) ∧
 bindW (stRow w42 ⟨w0.heap.size, 0, none⟩ (r8c 0 0 0 nvc 0 0 0 false)) fun w48 =>
 StRow w48 ⟨w1.heap.size, 0, none⟩ (r5c n43 n44 n45 v46 n47) ∧
 bindW (stRow w48 ⟨w1.heap.size, 0, none⟩ (r5c n43 n44 n45 v46 n47)) fun w49 =>
 ∃ n50 n51 n52 v53 n54 n55 n56 b57, (ldCells w49 ⟨w0.heap.size, 0, none⟩ 8 (r8c n50 n51 n52 v53 n54 n55 n56 b57)) ∧
 ∃ n58 n59 n60 v61 n62, (ldCells w49 ⟨w1.heap.size, 0, none⟩ 5 (r5c n58 n59 n60 v61 n62)) ∧
 R (.tuple #[(.agg (r8c n50 n51 n52 v53 n54 n55 n56 b57)), (.agg (r5c n58 n59 n60 v61 n62)), .bool false]) w49)
 (∃ n63, World.cell? w40 (Addr.add ⟨w28.heap.size, 0, none⟩ 0) = some (.int .i64 n63) ∧
 bindW (World.alloc w40 (.cells (r8c 0 0 0 nvc 0 0 0 false) 64)) fun w64 =>
 StRow w64 ⟨w40.heap.size, 0, none⟩ (r8c n63 0 0 nvc 0 0 0 false) ∧
 bindW (stRow w64 ⟨w40.heap.size, 0, none⟩ (r8c n63 0 0 nvc 0 0 0 false)) fun w65 =>
 ∃ v66, World.cell? w65 ⟨w.heap.size, 0, none⟩ = some v66 ∧
 ∃ v67, ((subSlice v66 1 none (some (.int .i64 16)) none) = (some v67)) ∧
 ∃ m68, sliceLen v67 = some m68 ∧
 LoopP [.bool, .int .i64]
 (fun j69 => fun (b70 : Bool) => fun (n71 : Int) => fun w72 =>
 cond (decide (n71 < ((m68 : Nat) : Int)))
 (JoinP [.bool]
 (fun (b73 : Bool) => fun w74 =>
 j69 b73 (IntKind.wrap .i64 (n71 + 1)) w74)
 (fun j75 =>
 ∃ a76, sliceAt v67 n71 1 = some a76 ∧
 ∃ n77, World.cell? w72 a76 = some (.int .u8 n77) ∧
 ∃ n78 n79 n80 b81 b82 b83 b84 b85 b86, (ldCells w72 ⟨w28.heap.size, 0, none⟩ 9 #[.int .i64 n78, .int .u8 n79, .int .u8 n80, .bool b81, .bool b82, .bool b83, .bool b84, .bool b85, .bool b86]) ∧
 CW.Spec Tryz.prog 189 #[(.agg #[.int .i64 n78, .int .u8 n79, .int .u8 n80, .bool b81, .bool b82, .bool b83, .bool b84, .bool b85, .bool b86]), .int .i64 n71] w72 fun v87 w88 =>
 ∃ b89, v87 = .bool b89 ∧
 cond b89
 (j75 b70 w88)
 (JoinP [.bool]
 (fun (b90 : Bool) => fun w91 =>
 cond b90
 ((St1 w91 (Addr.add ⟨w40.heap.size, 0, none⟩ 7)) ∧
 bindW (World.setCell w91 (Addr.add ⟨w40.heap.size, 0, none⟩ 7) (.bool true)) fun w92 =>
 j75 b70 w92)
 (cond b70
 (j75 true w91)
 (j75 (n77 != 0) w91)))
 (fun j93 =>
 cond (n71 == 1)
 (∃ b94, World.cell? w88 (Addr.add ⟨w28.heap.size, 0, none⟩ 6) = some (.bool b94) ∧
 cond b94
 (j93 (n77 == 8) w88)
 (j93 false w88))
 (j93 false w88)))))
 (JoinP [.bool]
 (fun (b95 : Bool) => fun w96 =>
 JoinP []
 (fun w97 =>
 cond b95
 (CW.Spec Tryz.prog 147 #[.int .i64 5, .int .i64 9216] w97 fun v98 w99 =>
 ∃ n100 n101 n102 v103 n104, v98 = .agg (r5c n100 n101 n102 v103 n104) ∧
 StRow w99 ⟨w0.heap.size, 0, none⟩ (r8c 0 0 0 nvc 0 0 0 false) ∧
 bindW (stRow w99 ⟨w0.heap.size, 0, none⟩ (r8c 0 0 0 nvc 0 0 0 false)) fun w105 =>
 StRow w105 ⟨w1.heap.size, 0, none⟩ (r5c n100 n101 n102 v103 n104) ∧
 bindW (stRow w105 ⟨w1.heap.size, 0, none⟩ (r5c n100 n101 n102 v103 n104)) fun w106 =>
 ∃ n107 n108 n109 v110 n111 n112 n113 b114, (ldCells w106 ⟨w0.heap.size, 0, none⟩ 8 (r8c n107 n108 n109 v110 n111 n112 n113 b114)) ∧
 ∃ n115 n116 n117 v118 n119, (ldCells w106 ⟨w1.heap.size, 0, none⟩ 5 (r5c n115 n116 n117 v118 n119)) ∧
 R (.tuple #[(.agg (r8c n107 n108 n109 v110 n111 n112 n113 b114)), (.agg (r5c n115 n116 n117 v118 n119)), .bool false]) w106)
 (∃ n120 n121 n122 v123 n124 n125 n126 b127, (ldCells w97 ⟨w40.heap.size, 0, none⟩ 8 (r8c n120 n121 n122 v123 n124 n125 n126 b127)) ∧
 StRow w97 ⟨w0.heap.size, 0, none⟩ (r8c n120 n121 n122 v123 n124 n125 n126 b127) ∧
 bindW (stRow w97 ⟨w0.heap.size, 0, none⟩ (r8c n120 n121 n122 v123 n124 n125 n126 b127)) fun w128 =>
 StRow w128 ⟨w1.heap.size, 0, none⟩ (r5c 0 0 0 nvc 0) ∧
 bindW (stRow w128 ⟨w1.heap.size, 0, none⟩ (r5c 0 0 0 nvc 0)) fun w129 =>
 ∃ n130 n131 n132 v133 n134 n135 n136 b137, (ldCells w129 ⟨w0.heap.size, 0, none⟩ 8 (r8c n130 n131 n132 v133 n134 n135 n136 b137)) ∧
 ∃ n138 n139 n140 v141 n142, (ldCells w129 ⟨w1.heap.size, 0, none⟩ 5 (r5c n138 n139 n140 v141 n142)) ∧
 R (.tuple #[(.agg (r8c n130 n131 n132 v133 n134 n135 n136 b137)), (.agg (r5c n138 n139 n140 v141 n142)), .bool true]) w129))
 (fun j143 =>
 ∃ b144, World.cell? w96 (Addr.add ⟨w28.heap.size, 0, none⟩ 4) = some (.bool b144) ∧
 cond b144
 (∃ v145, World.cell? w96 ⟨w.heap.size, 0, none⟩ = some v145 ∧
 CW.Spec Tryz.prog 185 #[v145, .int .i64 10, .int .i64 4] w96 fun v146 w147 =>
 ∃ n148 b149, v146 = .tuple #[.int .u64 n148, .bool b149] ∧
 St1 w147 (Addr.add ⟨w40.heap.size, 0, none⟩ 2) ∧
 bindW (World.setCell w147 (Addr.add ⟨w40.heap.size, 0, none⟩ 2) (.int .i64 (IntKind.wrap .i64 n148))) fun w150 =>
 j143 w150)
 (∃ b151, World.cell? w96 (Addr.add ⟨w28.heap.size, 0, none⟩ 5) = some (.bool b151) ∧
 cond b151
 (∃ v152, World.cell? w96 ⟨w.heap.size, 0, none⟩ = some v152 ∧
 ∃ a153, sliceAt v152 (13 : Int) 1 = some a153 ∧
 ∃ n154, World.cell? w96 a153 = some (.int .u8 n154) ∧
 St1 w96 (Addr.add ⟨w40.heap.size, 0, none⟩ 2) ∧
 bindW (World.setCell w96 (Addr.add ⟨w40.heap.size, 0, none⟩ 2) (.int .i64 (IntKind.wrap .i64 n154))) fun w155 =>
 j143 w155)
 (∃ b156, World.cell? w96 (Addr.add ⟨w28.heap.size, 0, none⟩ 7) = some (.bool b156) ∧
 cond b156
 (∃ v157, World.cell? w96 ⟨w.heap.size, 0, none⟩ = some v157 ∧
 ∃ a158, sliceAt v157 (2 : Int) 1 = some a158 ∧
 ∃ n159, World.cell? w96 a158 = some (.int .u8 n159) ∧
 St1 w96 (Addr.add ⟨w40.heap.size, 0, none⟩ 6) ∧
 bindW (World.setCell w96 (Addr.add ⟨w40.heap.size, 0, none⟩ 6) (.int .i64 (IntKind.wrap .i64 n159))) fun w160 =>
 j143 w160)
 (j143 w96)))))
 (fun j161 =>
 ∃ b162, World.cell? w72 (Addr.add ⟨w28.heap.size, 0, none⟩ 3) = some (.bool b162) ∧
 cond b162
 (∃ v163, World.cell? w72 ⟨w.heap.size, 0, none⟩ = some v163 ∧
 CW.Spec Tryz.prog 185 #[v163, .int .i64 2, .int .i64 8] w72 fun v164 w165 =>
 ∃ n166 b167, v164 = .tuple #[.int .u64 n166, .bool b167] ∧
 JoinP [.bool]
 (fun (b168 : Bool) => fun w169 =>
 St1 w169 (Addr.add ⟨w40.heap.size, 0, none⟩ 1) ∧
 bindW (World.setCell w169 (Addr.add ⟨w40.heap.size, 0, none⟩ 1) (.int .i64 (IntKind.wrap .i64 n166))) fun w170 =>
 j161 b168 w170)
 (fun j171 =>
 cond b70
 (j171 true w165)
 (j171 (decide (n166 > 4611686018427387904)) w165)))
 (j161 b70 w72))))
 (fun s172 => s172 false (0 : Int) w65)))
theorem q5W (p0 w R) (h : q5F p0 w R) : CW.Spec Tryz.prog 146 #[p0] w R :=
 sp Tryz.func146 h
end
section
open Go Go.CW
def q91F (p0 : Int) (p1 : Int) (w : World) (R : KV) : Prop :=
 CW.Spec Tryz.prog 84 #[nvc, .int .u64 p0, .int .i64 8] w fun v0 w1 =>
 CW.Spec Tryz.prog 84 #[v0, .int .u64 p1, .int .i64 8] w1 fun v2 w3 =>
 CW.Spec Tryz.prog 84 #[v2, .int .u64 0, .int .i64 8] w3 fun v4 w5 =>
 R v4 w5
theorem q91W (p0 p1 w R) (h : q91F p0 p1 w R) : CW.Spec Tryz.prog 85 #[.int .u64 p0, .int .u64 p1] w R :=
 sp Tryz.func85 h
def q90F (p0 : Value) (w : World) (R : KV) : Prop :=
 CW.Spec Tryz.prog 147 #[.int .i64 5, .int .i64 9728] (World.alloc w (.cells (r5c 0 0 0 nvc 0) 69)) fun v0 w1 =>
 ∃ n2 : Int, ∃ n3 : Int, ∃ n4 : Int, ∃ v5 : Value, ∃ n6 : Int, v0 = .agg (r5c n2 n3 n4 v5 n6) ∧
 StRow (World.alloc w1 (.cells (r5c 0 0 0 nvc 0) 69)) ⟨w1.heap.size, 0, none⟩ (r5c n2 n3 n4 v5 n6) ∧
 ∃ m7 : Nat, ((sliceLen p0) = (some m7)) ∧
 cond (((m7 : Nat) : Int) != 24)
 (∃ n8 : Int, ∃ n9 : Int, ∃ n10 : Int, ∃ v11 : Value, ∃ n12 : Int, (ldCells (World.drew (stRow (World.alloc w1 (.cells (r5c 0 0 0 nvc 0) 69)) ⟨w1.heap.size, 0, none⟩ (r5c n2 n3 n4 v5 n6))) ⟨w1.heap.size, 0, none⟩ 5 (r5c n8 n9 n10 v11 n12)) ∧
 StRow (World.drew (stRow (World.alloc w1 (.cells (r5c 0 0 0 nvc 0) 69)) ⟨w1.heap.size, 0, none⟩ (r5c n2 n3 n4 v5 n6))) ⟨w.heap.size, 0, none⟩ (r5c n8 n9 n10 v11 n12) ∧
 ∃ n13 : Int, ∃ n14 : Int, ∃ n15 : Int, ∃ v16 : Value, ∃ n17 : Int, (ldCells (stRow (World.drew (stRow (World.alloc w1 (.cells (r5c 0 0 0 nvc 0) 69)) ⟨w1.heap.size, 0, none⟩ (r5c n2 n3 n4 v5 n6))) ⟨w.heap.size, 0, none⟩ (r5c n8 n9 n10 v11 n12)) ⟨w.heap.size, 0, none⟩ 5 (r5c n13 n14 n15 v16 n17)) ∧
 R (.tuple #[.int .u64 0, .int .u64 0, (.agg (r5c n13 n14 n15 v16 n17)), .bool false]) (stRow (World.drew (stRow (World.alloc w1 (.cells (r5c 0 0 0 nvc 0) 69)) ⟨w1.heap.size, 0, none⟩ (r5c n2 n3 n4 v5 n6))) ⟨w.heap.size, 0, none⟩ (r5c n8 n9 n10 v11 n12)))
 (CW.Spec Tryz.prog 185 #[p0, .int .i64 0, .int .i64 8] (stRow (World.alloc w1 (.cells (r5c 0 0 0 nvc 0) 69)) ⟨w1.heap.size, 0, none⟩ (r5c n2 n3 n4 v5 n6)) fun v18 w19 =>
 ∃ n20 : Int, ∃ b21 : Bool, v18 = .tuple #[.int .u64 n20, .bool b21] ∧
 CW.Spec Tryz.prog 185 #[p0, .int .i64 8, .int .i64 8] w19 fun v22 w23 =>
 ∃ n24 : Int, ∃ b25 : Bool, v22 = .tuple #[.int .u64 n24, .bool b25] ∧
 CW.Spec Tryz.prog 185 #[p0, .int .i64 16, .int .i64 8] w23 fun v26 w27 =>
 ∃ n28 : Int, ∃ b29 : Bool, v26 = .tuple #[.int .u64 n28, .bool b29] ∧
 cond (n28 != 0)
 (∃ n30 : Int, ∃ n31 : Int, ∃ n32 : Int, ∃ v33 : Value, ∃ n34 : Int, (ldCells (World.drew w27) ⟨w1.heap.size, 0, none⟩ 5 (r5c n30 n31 n32 v33 n34)) ∧
 StRow (World.drew w27) ⟨w.heap.size, 0, none⟩ (r5c n30 n31 n32 v33 n34) ∧
 ∃ n35 : Int, ∃ n36 : Int, ∃ n37 : Int, ∃ v38 : Value, ∃ n39 : Int, (ldCells (stRow (World.drew w27) ⟨w.heap.size, 0, none⟩ (r5c n30 n31 n32 v33 n34)) ⟨w.heap.size, 0, none⟩ 5 (r5c n35 n36 n37 v38 n39)) ∧
 R (.tuple #[.int .u64 0, .int .u64 0, (.agg (r5c n35 n36 n37 v38 n39)), .bool false]) (stRow (World.drew w27) ⟨w.heap.size, 0, none⟩ (r5c n30 n31 n32 v33 n34)))
 ((StRow w27 ⟨w.heap.size, 0, none⟩ (r5c 0 0 0 nvc 0)) ∧
 ∃ n40 : Int, ∃ n41 : Int, ∃ n42 : Int, ∃ v43 : Value, ∃ n44 : Int, (ldCells (stRow w27 ⟨w.heap.size, 0, none⟩ (r5c 0 0 0 nvc 0)) ⟨w.heap.size, 0, none⟩ 5 (r5c n40 n41 n42 v43 n44)) ∧
 R (.tuple #[.int .u64 n20, .int .u64 n24, (.agg (r5c n40 n41 n42 v43 n44)), .bool true]) (stRow w27 ⟨w.heap.size, 0, none⟩ (r5c 0 0 0 nvc 0))))
theorem q90W (p0 w R) (h : q90F p0 w R) : CW.Spec Tryz.prog 191 #[p0] w R :=
 sp Tryz.func191 h
end
end Go.Proofs.YtdinpgnjnleioaaGreatDoor
