/- The formulas of some functions, printed by a program (wip/cw/CwGen). -/
import Derived.Test.YtmbdbplobnkleaaFacts
set_option linter.unusedVariables false
set_option maxRecDepth 100000
namespace Go.Proofs.Ytmbdbplobnkleaa
open Go Go.CW

/-- slices.Clone[[]byte,byte] -/
def slices_Clone___F (p0 : Value) (w : World) (R : KV) : Prop :=
 ∃ b0 : Bool, ((Go.CW.isNilS p0) = (some b0)) ∧
 cond b0
 (R (.slice none 0 0) w)
 (∃ v1 : Value, ∃ w2 : World, ((Sem.run @Go.Proofs.Try.prog (Go.Builtin.append_ #[28, 28] 28 #[(.slice (some ⟨w.heap.size, 0, none⟩) 0 0), p0]) (World.alloc w (.cells #[] 5))) = (.ok v1 w2)) ∧
 R v1 w2)

theorem slices_Clone___wp (p0 : Value) (w : World) (R : KV) (h : slices_Clone___F p0 w R) : Go.CW.Spec Try.prog 14 #[p0] w R :=
  spec_of Try.func14 (by kernel_rfl) (show slices_Clone___F p0 w R = _ by kernel_rfl) h

/-- slices.Clip[[]byte,byte] -/
def slices_Clip___F (p0 : Value) (w : World) (R : KV) : Prop :=
 ∃ m0 : Nat, ((Go.CW.sliceLen p0) = (some m0)) ∧
 ∃ m1 : Nat, ((Go.CW.sliceLen p0) = (some m1)) ∧
 ∃ v2 : Value, ((Go.CW.subSlice p0 1 none (some (.int .i64 ((m0 : Nat) : Int))) (some (.int .i64 ((m1 : Nat) : Int)))) = (some v2)) ∧
 R v2 w

theorem slices_Clip___wp (p0 : Value) (w : World) (R : KV) (h : slices_Clip___F p0 w R) : Go.CW.Spec Try.prog 34 #[p0] w R :=
  spec_of Try.func34 (by kernel_rfl) (show slices_Clip___F p0 w R = _ by kernel_rfl) h

/-- gemel/bin.Get -/
def bin_Get_F (p0 : Value) (p1 : Int) (p2 : Int) (w : World) (R : KV) : Prop :=
 JoinP [.bool]
 (fun (b0 : Bool) => fun (w1 : World) =>
 cond b0
 (R (.tuple #[(.int .u64 (0 : Int)), (.bool false)]) w1)
 (∃ v2 : Value, ((Go.CW.subSlice p0 1 (some (.int .i64 p1)) (some (.int .i64 (IntKind.wrap .i64 (p1 + p2)))) none) = (some v2)) ∧
 ∃ m3 : Nat, ((Go.CW.sliceLen v2) = (some m3)) ∧
 LoopP [.int .u64, .int .i64]
 (fun j4 => fun (n5 : Int) => fun (n6 : Int) => fun (w7 : World) =>
 cond (decide (n6 < ((m3 : Nat) : Int)))
 (∃ a8 : Addr, ((Go.CW.sliceAt v2 n6 1) = (some a8)) ∧
 ∃ n9 : Int, ((Go.World.cell? w7 a8) = (some (.int .u8 n9))) ∧
 j4 (bitsI .or .u64 (IntKind.wrap .u64 (n5 * (256 : Int))) (IntKind.wrap .u64 n9)) (IntKind.wrap .i64 (n6 + (1 : Int))) w7)
 (R (.tuple #[(.int .u64 n5), (.bool true)]) w7))
 (fun s10 => s10 (0 : Int) (0 : Int) w1)))
 (fun j11 =>
 cond (decide (p2 < (1 : Int)))
 (j11 true w)
 (cond (decide (p2 > (8 : Int)))
 (j11 true w)
 (cond (decide (p1 < (0 : Int)))
 (j11 true w)
 (∃ m12 : Nat, ((Go.CW.sliceLen p0) = (some m12)) ∧
 cond (decide (p1 > ((m12 : Nat) : Int)))
 (j11 true w)
 (∃ m13 : Nat, ((Go.CW.sliceLen p0) = (some m13)) ∧
 j11 (decide (p2 > (IntKind.wrap .i64 (((m13 : Nat) : Int) - p1)))) w)))))

theorem bin_Get_wp (p0 : Value) (p1 : Int) (p2 : Int) (w : World) (R : KV) (h : bin_Get_F p0 p1 p2 w R) : Go.CW.Spec Try.prog 46 #[p0, (.int .i64 p1), (.int .i64 p2)] w R :=
  spec_of Try.func46 (by kernel_rfl) (show bin_Get_F p0 p1 p2 w R = _ by kernel_rfl) h

/-- gemel/bin.Put -/
def bin_Put_F (p0 : Value) (p1 : Int) (p2 : Int) (w : World) (R : KV) : Prop :=
 Go.CW.Spec Try.prog 14 #[p0] w fun v0 w1 =>
 JoinP [.bool]
 (fun (b2 : Bool) => fun (w3 : World) =>
 cond b2
 (R v0 w3)
 (LoopP [.val, .int .i64]
 (fun j4 => fun (v5 : Value) => fun (n6 : Int) => fun (w7 : World) =>
 cond (decide (n6 ≥ (0 : Int)))
 (leK (IntKind.wrap .i64 ((8 : Int) * n6)) (∃ v8 : Value, ∃ w9 : World, ((Sem.run @Go.Proofs.Try.prog (Go.Builtin.append_ #[28, 28] 28 #[v5, (.slice (some ⟨w7.heap.size, 0, none⟩) 1 1)]) (World.alloc w7 (.cells #[(.int .u8 (IntKind.wrap .u8 (Int.fdiv p1 ((2 : Int) ^ (min (Int.toNat (IntKind.wrap .i64 ((8 : Int) * n6))) 64)))))] 5))) = (.ok v8 w9)) ∧
 j4 v8 (IntKind.wrap .i64 (n6 - (1 : Int))) w9))
 (Go.CW.Spec Try.prog 34 #[v5] w7 fun v10 w11 =>
 R v10 w11))
 (fun s12 => s12 v0 (IntKind.wrap .i64 (p2 - (1 : Int))) w3)))
 (fun j13 =>
 cond (decide (p2 < (1 : Int)))
 (j13 true w1)
 (j13 (decide (p2 > (8 : Int))) w1))

theorem bin_Put_wp (p0 : Value) (p1 : Int) (p2 : Int) (w : World) (R : KV) (h : bin_Put_F p0 p1 p2 w R) : Go.CW.Spec Try.prog 47 #[p0, (.int .u64 p1), (.int .i64 p2)] w R :=
  spec_of Try.func47 (by kernel_rfl) (show bin_Put_F p0 p1 p2 w R = _ by kernel_rfl) h

/-- gemel/crc.Open -/
def crc_Open_F (p0 : Value) (w : World) (R : KV) : Prop :=
 ∃ m0 : Nat, ((Go.CW.sliceLen p0) = (some m0)) ∧
 cond (decide (((m0 : Nat) : Int) < (4 : Int)))
 (R (.tuple #[(.slice none 0 0), (.int .i64 (3 : Int))]) w)
 (∃ m1 : Nat, ((Go.CW.sliceLen p0) = (some m1)) ∧
 ∃ v2 : Value, ((Go.CW.subSlice p0 1 none (some (.int .i64 (IntKind.wrap .i64 (((m1 : Nat) : Int) - (4 : Int))))) none) = (some v2)) ∧
 ∃ m3 : Nat, ((Go.CW.sliceLen v2) = (some m3)) ∧
 ∃ v4 : Value, ((Go.CW.subSlice p0 1 (some (.int .i64 ((m3 : Nat) : Int))) none none) = (some v4)) ∧
 Go.CW.Spec Try.prog 45 #[v2] (World.drew w) fun v5 w6 =>
 ∃ n7 : Int, ((v5 : Value) = (.int .u32 n7)) ∧
 Go.CW.Spec Try.prog 44 #[(.slice none 0 0), (.int .u32 n7)] w6 fun v8 w9 =>
 Go.CW.Spec Try.prog 43 #[v8, v4] w9 fun v10 w11 =>
 ∃ b12 : Bool, ((v10 : Value) = (.bool b12)) ∧
 cond (!b12)
 (R (.tuple #[(.slice none 0 0), (.int .i64 (4 : Int))]) w11)
 (Go.CW.Spec Try.prog 14 #[v2] w11 fun v13 w14 =>
 Go.CW.Spec Try.prog 34 #[v13] w14 fun v15 w16 =>
 R (.tuple #[v15, (.int .i64 (0 : Int))]) w16))

theorem crc_Open_wp (p0 : Value) (w : World) (R : KV) (h : crc_Open_F p0 w R) : Go.CW.Spec Try.prog 30 #[p0] w R :=
  spec_of Try.func30 (by kernel_rfl) (show crc_Open_F p0 w R = _ by kernel_rfl) h

/-- slices.Equal[[]byte,byte] -/
def slices_Equal___F (p0 : Value) (p1 : Value) (w : World) (R : KV) : Prop :=
 ∃ m0 : Nat, ((Go.CW.sliceLen p0) = (some m0)) ∧
 ∃ m1 : Nat, ((Go.CW.sliceLen p1) = (some m1)) ∧
 cond (((m0 : Nat) : Int) != ((m1 : Nat) : Int))
 (R (.bool false) w)
 (∃ m2 : Nat, ((Go.CW.sliceLen p0) = (some m2)) ∧
 LoopP [.int .i64]
 (fun j3 => fun (n4 : Int) => fun (w5 : World) =>
 cond (decide (n4 < ((m2 : Nat) : Int)))
 (∃ a6 : Addr, ((Go.CW.sliceAt p0 n4 1) = (some a6)) ∧
 ∃ n7 : Int, ((Go.World.cell? (World.drew w5) a6) = (some (.int .u8 n7))) ∧
 ∃ a8 : Addr, ((Go.CW.sliceAt p1 n4 1) = (some a8)) ∧
 ∃ n9 : Int, ((Go.World.cell? (World.drew w5) a8) = (some (.int .u8 n9))) ∧
 cond (n7 != n9)
 (R (.bool false) (World.drew w5))
 (j3 (IntKind.wrap .i64 (n4 + (1 : Int))) (World.drew w5)))
 (R (.bool true) w5))
 (fun s10 => s10 (0 : Int) w))

theorem slices_Equal___wp (p0 : Value) (p1 : Value) (w : World) (R : KV) (h : slices_Equal___F p0 p1 w R) : Go.CW.Spec Try.prog 43 #[p0, p1] w R :=
  spec_of Try.func43 (by kernel_rfl) (show slices_Equal___F p0 p1 w R = _ by kernel_rfl) h

/-- gemel/crc.low -/
def crc_low_F (p0 : Value) (p1 : Int) (w : World) (R : KV) : Prop :=
 ∃ v0 : Value, ∃ w1 : World, ((Sem.run @Go.Proofs.Try.prog (Go.Builtin.append_ #[28, 28] 28 #[p0, (.slice (some ⟨w.heap.size, 0, none⟩) 4 4)]) (World.alloc w (.cells #[(.int .u8 (IntKind.wrap .u8 p1)), (.int .u8 (IntKind.wrap .u8 (Int.fdiv p1 (256 : Int)))), (.int .u8 (IntKind.wrap .u8 (Int.fdiv p1 (65536 : Int)))), (.int .u8 (IntKind.wrap .u8 (Int.fdiv p1 (16777216 : Int))))] 5))) = (.ok v0 w1)) ∧
 R v0 w1

theorem crc_low_wp (p0 : Value) (p1 : Int) (w : World) (R : KV) (h : crc_low_F p0 p1 w R) : Go.CW.Spec Try.prog 44 #[p0, (.int .u32 p1)] w R :=
  spec_of Try.func44 (by kernel_rfl) (show crc_low_F p0 p1 w R = _ by kernel_rfl) h

/-- gemel/crc.Sum -/
def crc_Sum_F (p0 : Value) (w : World) (R : KV) : Prop :=
 Go.CW.Spec Try.prog 49 #[(.int .u32 (0 : Int)), p0] w fun v0 w1 =>
 ∃ n2 : Int, ((v0 : Value) = (.int .u32 n2)) ∧
 R (.int .u32 n2) w1

theorem crc_Sum_wp (p0 : Value) (w : World) (R : KV) (h : crc_Sum_F p0 w R) : Go.CW.Spec Try.prog 45 #[p0] w R :=
  spec_of Try.func45 (by kernel_rfl) (show crc_Sum_F p0 w R = _ by kernel_rfl) h

/-- gemel/crc.More -/
def crc_More_F (p0 : Int) (p1 : Value) (w : World) (R : KV) : Prop :=
 Go.CW.Spec Try.prog 51 #[] w fun v0 w1 =>
 ∃ n2 : Int, ∃ n3 : Int, ∃ n4 : Int, ∃ n5 : Int, ∃ n6 : Int, ∃ n7 : Int, ∃ n8 : Int, ∃ n9 : Int, ∃ n10 : Int, ∃ n11 : Int, ∃ n12 : Int, ∃ n13 : Int, ∃ n14 : Int, ∃ n15 : Int, ∃ n16 : Int, ∃ n17 : Int, ((v0 : Value) = (.agg #[(.int .u32 n2), (.int .u32 n3), (.int .u32 n4), (.int .u32 n5), (.int .u32 n6), (.int .u32 n7), (.int .u32 n8), (.int .u32 n9), (.int .u32 n10), (.int .u32 n11), (.int .u32 n12), (.int .u32 n13), (.int .u32 n14), (.int .u32 n15), (.int .u32 n16), (.int .u32 n17)])) ∧
 Go.CW.Spec Try.prog 50 #[(.agg #[(.int .u32 n2), (.int .u32 n3), (.int .u32 n4), (.int .u32 n5), (.int .u32 n6), (.int .u32 n7), (.int .u32 n8), (.int .u32 n9), (.int .u32 n10), (.int .u32 n11), (.int .u32 n12), (.int .u32 n13), (.int .u32 n14), (.int .u32 n15), (.int .u32 n16), (.int .u32 n17)]), (.int .u32 p0), p1] w1 fun v18 w19 =>
 ∃ n20 : Int, ((v18 : Value) = (.int .u32 n20)) ∧
 R (.int .u32 n20) w19

theorem crc_More_wp (p0 : Int) (p1 : Value) (w : World) (R : KV) (h : crc_More_F p0 p1 w R) : Go.CW.Spec Try.prog 49 #[(.int .u32 p0), p1] w R :=
  spec_of Try.func49 (by kernel_rfl) (show crc_More_F p0 p1 w R = _ by kernel_rfl) h

/-- gemel/crc.run -/
def crc_run_F (p0_0 : Int) (p0_1 : Int) (p0_2 : Int) (p0_3 : Int) (p0_4 : Int) (p0_5 : Int) (p0_6 : Int) (p0_7 : Int) (p0_8 : Int) (p0_9 : Int) (p0_10 : Int) (p0_11 : Int) (p0_12 : Int) (p0_13 : Int) (p0_14 : Int) (p0_15 : Int) (p1 : Int) (p2 : Value) (w : World) (R : KV) : Prop :=
 ∃ m0 : Nat, ((Go.CW.sliceLen p2) = (some m0)) ∧
 LoopP [.int .u32, .int .i64]
 (fun j1 => fun (n2 : Int) => fun (n3 : Int) => fun (w4 : World) =>
 cond (decide (n3 < ((m0 : Nat) : Int)))
 (∃ a5 : Addr, ((Go.CW.sliceAt p2 n3 1) = (some a5)) ∧
 ∃ n6 : Int, ((Go.World.cell? w4 a5) = (some (.int .u8 n6))) ∧
 (inR (bitsI .and .u32 (bitsI .xor .u32 n2 (IntKind.wrap .u32 n6)) (15 : Int)) 16) ∧
 ∃ n7 : Int, ((Go.World.cell? w4 (Addr.add ⟨w.heap.size, 0, none⟩ ((Int.toNat (bitsI .and .u32 (bitsI .xor .u32 n2 (IntKind.wrap .u32 n6)) (15 : Int))) * 1))) = (some (.int .u32 n7))) ∧
 (inR (bitsI .and .u32 (bitsI .xor .u32 (Int.fdiv (bitsI .xor .u32 n2 (IntKind.wrap .u32 n6)) (16 : Int)) n7) (15 : Int)) 16) ∧
 ∃ n8 : Int, ((Go.World.cell? w4 (Addr.add ⟨w.heap.size, 0, none⟩ ((Int.toNat (bitsI .and .u32 (bitsI .xor .u32 (Int.fdiv (bitsI .xor .u32 n2 (IntKind.wrap .u32 n6)) (16 : Int)) n7) (15 : Int))) * 1))) = (some (.int .u32 n8))) ∧
 j1 (bitsI .xor .u32 (Int.fdiv (bitsI .xor .u32 (Int.fdiv (bitsI .xor .u32 n2 (IntKind.wrap .u32 n6)) (16 : Int)) n7) (16 : Int)) n8) (IntKind.wrap .i64 (n3 + (1 : Int))) w4)
 (R (.int .u32 (bitsI .xor .u32 (4294967295 : Int) n2)) w4))
 (fun s9 => s9 (bitsI .xor .u32 (4294967295 : Int) p1) (0 : Int) (World.alloc w (.cells #[(.int .u32 p0_0), (.int .u32 p0_1), (.int .u32 p0_2), (.int .u32 p0_3), (.int .u32 p0_4), (.int .u32 p0_5), (.int .u32 p0_6), (.int .u32 p0_7), (.int .u32 p0_8), (.int .u32 p0_9), (.int .u32 p0_10), (.int .u32 p0_11), (.int .u32 p0_12), (.int .u32 p0_13), (.int .u32 p0_14), (.int .u32 p0_15)] 102)))

theorem crc_run_wp (p0_0 : Int) (p0_1 : Int) (p0_2 : Int) (p0_3 : Int) (p0_4 : Int) (p0_5 : Int) (p0_6 : Int) (p0_7 : Int) (p0_8 : Int) (p0_9 : Int) (p0_10 : Int) (p0_11 : Int) (p0_12 : Int) (p0_13 : Int) (p0_14 : Int) (p0_15 : Int) (p1 : Int) (p2 : Value) (w : World) (R : KV) (h : crc_run_F p0_0 p0_1 p0_2 p0_3 p0_4 p0_5 p0_6 p0_7 p0_8 p0_9 p0_10 p0_11 p0_12 p0_13 p0_14 p0_15 p1 p2 w R) : Go.CW.Spec Try.prog 50 #[(.agg #[(.int .u32 p0_0), (.int .u32 p0_1), (.int .u32 p0_2), (.int .u32 p0_3), (.int .u32 p0_4), (.int .u32 p0_5), (.int .u32 p0_6), (.int .u32 p0_7), (.int .u32 p0_8), (.int .u32 p0_9), (.int .u32 p0_10), (.int .u32 p0_11), (.int .u32 p0_12), (.int .u32 p0_13), (.int .u32 p0_14), (.int .u32 p0_15)]), (.int .u32 p1), p2] w R :=
  spec_of Try.func50 (by kernel_rfl) (show crc_run_F p0_0 p0_1 p0_2 p0_3 p0_4 p0_5 p0_6 p0_7 p0_8 p0_9 p0_10 p0_11 p0_12 p0_13 p0_14 p0_15 p1 p2 w R = _ by kernel_rfl) h

/-- gemel/crc.table -/
def crc_table_F  (w : World) (R : KV) : Prop :=
 LoopP [.int .i64]
 (fun j0 => fun (n1 : Int) => fun (w2 : World) =>
 cond (decide (n1 < (16 : Int)))
 (LoopP [.int .u32, .int .i64]
 (fun j3 => fun (n4 : Int) => fun (n5 : Int) => fun (w6 : World) =>
 cond (decide (n5 < (4 : Int)))
 (j3 (bitsI .xor .u32 (Int.fdiv n4 (2 : Int)) (bitsI .and .u32 (IntKind.wrap .u32 ((0 : Int) - (bitsI .and .u32 n4 (1 : Int)))) (2197175160 : Int))) (IntKind.wrap .i64 (n5 + (1 : Int))) w6)
 ((inR n1 16) ∧
 (St1 w6 (Addr.add ⟨(Array.size (World.heap (World.alloc w (.cells #[(.int .u32 (0 : Int)), (.int .u32 (0 : Int)), (.int .u32 (0 : Int)), (.int .u32 (0 : Int)), (.int .u32 (0 : Int)), (.int .u32 (0 : Int)), (.int .u32 (0 : Int)), (.int .u32 (0 : Int)), (.int .u32 (0 : Int)), (.int .u32 (0 : Int)), (.int .u32 (0 : Int)), (.int .u32 (0 : Int)), (.int .u32 (0 : Int)), (.int .u32 (0 : Int)), (.int .u32 (0 : Int)), (.int .u32 (0 : Int))] 102)))), 0, none⟩ ((Int.toNat n1) * 1))) ∧
 j0 (IntKind.wrap .i64 (n1 + (1 : Int))) (World.setCell w6 (Addr.add ⟨(Array.size (World.heap (World.alloc w (.cells #[(.int .u32 (0 : Int)), (.int .u32 (0 : Int)), (.int .u32 (0 : Int)), (.int .u32 (0 : Int)), (.int .u32 (0 : Int)), (.int .u32 (0 : Int)), (.int .u32 (0 : Int)), (.int .u32 (0 : Int)), (.int .u32 (0 : Int)), (.int .u32 (0 : Int)), (.int .u32 (0 : Int)), (.int .u32 (0 : Int)), (.int .u32 (0 : Int)), (.int .u32 (0 : Int)), (.int .u32 (0 : Int)), (.int .u32 (0 : Int))] 102)))), 0, none⟩ ((Int.toNat n1) * 1)) (.int .u32 n4))))
 (fun s7 => s7 (IntKind.wrap .u32 n1) (0 : Int) w2))
 (∃ n8 : Int, ∃ n9 : Int, ∃ n10 : Int, ∃ n11 : Int, ∃ n12 : Int, ∃ n13 : Int, ∃ n14 : Int, ∃ n15 : Int, ∃ n16 : Int, ∃ n17 : Int, ∃ n18 : Int, ∃ n19 : Int, ∃ n20 : Int, ∃ n21 : Int, ∃ n22 : Int, ∃ n23 : Int, (ldCells w2 ⟨(Array.size (World.heap (World.alloc w (.cells #[(.int .u32 (0 : Int)), (.int .u32 (0 : Int)), (.int .u32 (0 : Int)), (.int .u32 (0 : Int)), (.int .u32 (0 : Int)), (.int .u32 (0 : Int)), (.int .u32 (0 : Int)), (.int .u32 (0 : Int)), (.int .u32 (0 : Int)), (.int .u32 (0 : Int)), (.int .u32 (0 : Int)), (.int .u32 (0 : Int)), (.int .u32 (0 : Int)), (.int .u32 (0 : Int)), (.int .u32 (0 : Int)), (.int .u32 (0 : Int))] 102)))), 0, none⟩ 16 #[(.int .u32 n8), (.int .u32 n9), (.int .u32 n10), (.int .u32 n11), (.int .u32 n12), (.int .u32 n13), (.int .u32 n14), (.int .u32 n15), (.int .u32 n16), (.int .u32 n17), (.int .u32 n18), (.int .u32 n19), (.int .u32 n20), (.int .u32 n21), (.int .u32 n22), (.int .u32 n23)]) ∧
 (StRow w2 ⟨w.heap.size, 0, none⟩ #[(.int .u32 n8), (.int .u32 n9), (.int .u32 n10), (.int .u32 n11), (.int .u32 n12), (.int .u32 n13), (.int .u32 n14), (.int .u32 n15), (.int .u32 n16), (.int .u32 n17), (.int .u32 n18), (.int .u32 n19), (.int .u32 n20), (.int .u32 n21), (.int .u32 n22), (.int .u32 n23)]) ∧
 ∃ n24 : Int, ∃ n25 : Int, ∃ n26 : Int, ∃ n27 : Int, ∃ n28 : Int, ∃ n29 : Int, ∃ n30 : Int, ∃ n31 : Int, ∃ n32 : Int, ∃ n33 : Int, ∃ n34 : Int, ∃ n35 : Int, ∃ n36 : Int, ∃ n37 : Int, ∃ n38 : Int, ∃ n39 : Int, (ldCells (stRow w2 ⟨w.heap.size, 0, none⟩ #[(.int .u32 n8), (.int .u32 n9), (.int .u32 n10), (.int .u32 n11), (.int .u32 n12), (.int .u32 n13), (.int .u32 n14), (.int .u32 n15), (.int .u32 n16), (.int .u32 n17), (.int .u32 n18), (.int .u32 n19), (.int .u32 n20), (.int .u32 n21), (.int .u32 n22), (.int .u32 n23)]) ⟨w.heap.size, 0, none⟩ 16 #[(.int .u32 n24), (.int .u32 n25), (.int .u32 n26), (.int .u32 n27), (.int .u32 n28), (.int .u32 n29), (.int .u32 n30), (.int .u32 n31), (.int .u32 n32), (.int .u32 n33), (.int .u32 n34), (.int .u32 n35), (.int .u32 n36), (.int .u32 n37), (.int .u32 n38), (.int .u32 n39)]) ∧
 R (.agg #[(.int .u32 n24), (.int .u32 n25), (.int .u32 n26), (.int .u32 n27), (.int .u32 n28), (.int .u32 n29), (.int .u32 n30), (.int .u32 n31), (.int .u32 n32), (.int .u32 n33), (.int .u32 n34), (.int .u32 n35), (.int .u32 n36), (.int .u32 n37), (.int .u32 n38), (.int .u32 n39)]) (stRow w2 ⟨w.heap.size, 0, none⟩ #[(.int .u32 n8), (.int .u32 n9), (.int .u32 n10), (.int .u32 n11), (.int .u32 n12), (.int .u32 n13), (.int .u32 n14), (.int .u32 n15), (.int .u32 n16), (.int .u32 n17), (.int .u32 n18), (.int .u32 n19), (.int .u32 n20), (.int .u32 n21), (.int .u32 n22), (.int .u32 n23)])))
 (fun s40 => s40 (0 : Int) (World.alloc (World.alloc w (.cells #[(.int .u32 (0 : Int)), (.int .u32 (0 : Int)), (.int .u32 (0 : Int)), (.int .u32 (0 : Int)), (.int .u32 (0 : Int)), (.int .u32 (0 : Int)), (.int .u32 (0 : Int)), (.int .u32 (0 : Int)), (.int .u32 (0 : Int)), (.int .u32 (0 : Int)), (.int .u32 (0 : Int)), (.int .u32 (0 : Int)), (.int .u32 (0 : Int)), (.int .u32 (0 : Int)), (.int .u32 (0 : Int)), (.int .u32 (0 : Int))] 102)) (.cells #[(.int .u32 (0 : Int)), (.int .u32 (0 : Int)), (.int .u32 (0 : Int)), (.int .u32 (0 : Int)), (.int .u32 (0 : Int)), (.int .u32 (0 : Int)), (.int .u32 (0 : Int)), (.int .u32 (0 : Int)), (.int .u32 (0 : Int)), (.int .u32 (0 : Int)), (.int .u32 (0 : Int)), (.int .u32 (0 : Int)), (.int .u32 (0 : Int)), (.int .u32 (0 : Int)), (.int .u32 (0 : Int)), (.int .u32 (0 : Int))] 102)))

theorem crc_table_wp  (w : World) (R : KV) (h : crc_table_F  w R) : Go.CW.Spec Try.prog 51 #[] w R :=
  spec_of Try.func51 (by kernel_rfl) (show crc_table_F  w R = _ by kernel_rfl) h

/-- gemel/crc.Seal -/
def crc_Seal_F (p0 : Value) (w : World) (R : KV) : Prop :=
 Go.CW.Spec Try.prog 14 #[p0] w fun v0 w1 =>
 Go.CW.Spec Try.prog 45 #[p0] w1 fun v2 w3 =>
 ∃ n4 : Int, ((v2 : Value) = (.int .u32 n4)) ∧
 Go.CW.Spec Try.prog 44 #[v0, (.int .u32 n4)] w3 fun v5 w6 =>
 Go.CW.Spec Try.prog 34 #[v5] w6 fun v7 w8 =>
 R v7 w8

theorem crc_Seal_wp (p0 : Value) (w : World) (R : KV) (h : crc_Seal_F p0 w R) : Go.CW.Spec Try.prog 41 #[p0] w R :=
  spec_of Try.func41 (by kernel_rfl) (show crc_Seal_F p0 w R = _ by kernel_rfl) h

/-- gemel/gemelref2.Sum -/
def gemelref2_Sum_F (p0 : Value) (w : World) (R : KV) : Prop :=
 Go.CW.Spec Try.prog 29 #[(.int .u32 (0 : Int)), p0] w fun v0 w1 =>
 ∃ n2 : Int, ((v0 : Value) = (.int .u32 n2)) ∧
 R (.int .u32 n2) w1

theorem gemelref2_Sum_wp (p0 : Value) (w : World) (R : KV) (h : gemelref2_Sum_F p0 w R) : Go.CW.Spec Try.prog 19 #[p0] w R :=
  spec_of Try.func19 (by kernel_rfl) (show gemelref2_Sum_F p0 w R = _ by kernel_rfl) h

/-- gemel/gemelref2.More -/
def gemelref2_More_F (p0 : Int) (p1 : Value) (w : World) (R : KV) : Prop :=
 LoopP [.int .u32, .int .i64]
 (fun j0 => fun (n1 : Int) => fun (n2 : Int) => fun (w3 : World) =>
 ∃ m4 : Nat, ((Go.CW.sliceLen p1) = (some m4)) ∧
 cond (decide (n2 < ((m4 : Nat) : Int)))
 (∃ a5 : Addr, ((Go.CW.sliceAt p1 n2 1) = (some a5)) ∧
 ∃ n6 : Int, ((Go.World.cell? w3 a5) = (some (.int .u8 n6))) ∧
 LoopP [.int .u32, .int .i64]
 (fun j7 => fun (n8 : Int) => fun (n9 : Int) => fun (w10 : World) =>
 cond (decide (n9 < (8 : Int)))
 (JoinP [.int .u32]
 (fun (n11 : Int) => fun (w12 : World) =>
 j7 n11 (IntKind.wrap .i64 (n9 + (1 : Int))) w12)
 (fun j13 =>
 cond ((bitsI .and .u32 n8 (1 : Int)) == (1 : Int))
 (j13 (bitsI .xor .u32 (Int.fdiv n8 (2 : Int)) (2197175160 : Int)) w10)
 (j13 (Int.fdiv n8 (2 : Int)) w10)))
 (j0 n8 (IntKind.wrap .i64 (n2 + (1 : Int))) w10))
 (fun s14 => s14 (bitsI .xor .u32 n1 (IntKind.wrap .u32 n6)) (0 : Int) w3))
 (R (.int .u32 (bitsI .xor .u32 (4294967295 : Int) n1)) w3))
 (fun s15 => s15 (bitsI .xor .u32 (4294967295 : Int) p0) (0 : Int) w)

theorem gemelref2_More_wp (p0 : Int) (p1 : Value) (w : World) (R : KV) (h : gemelref2_More_F p0 p1 w R) : Go.CW.Spec Try.prog 29 #[(.int .u32 p0), p1] w R :=
  spec_of Try.func29 (by kernel_rfl) (show gemelref2_More_F p0 p1 w R = _ by kernel_rfl) h

/-- gemel/gemelref2.Four -/
def gemelref2_Four_F (p0 : Int) (w : World) (R : KV) : Prop :=
 R (.slice (some ⟨w.heap.size, 0, none⟩) 4 4) (World.alloc w (.cells #[(.int .u8 (IntKind.wrap .u8 p0)), (.int .u8 (IntKind.wrap .u8 (Int.fdiv p0 (256 : Int)))), (.int .u8 (IntKind.wrap .u8 (Int.fdiv p0 (65536 : Int)))), (.int .u8 (IntKind.wrap .u8 (Int.fdiv p0 (16777216 : Int))))] 5))

theorem gemelref2_Four_wp (p0 : Int) (w : World) (R : KV) (h : gemelref2_Four_F p0 w R) : Go.CW.Spec Try.prog 18 #[(.int .u32 p0)] w R :=
  spec_of Try.func18 (by kernel_rfl) (show gemelref2_Four_F p0 w R = _ by kernel_rfl) h

/-- gemel/gemelref2.Open -/
def gemelref2_Open_F (p0 : Value) (w : World) (R : KV) : Prop :=
 ∃ m0 : Nat, ((Go.CW.sliceLen p0) = (some m0)) ∧
 cond (decide (((m0 : Nat) : Int) < (4 : Int)))
 (R (.tuple #[(.slice none 0 0), (.int .i64 (3 : Int))]) w)
 (∃ m1 : Nat, ((Go.CW.sliceLen p0) = (some m1)) ∧
 ∃ v2 : Value, ((Go.CW.subSlice p0 1 none (some (.int .i64 (IntKind.wrap .i64 (((m1 : Nat) : Int) - (4 : Int))))) none) = (some v2)) ∧
 ∃ m3 : Nat, ((Go.CW.sliceLen p0) = (some m3)) ∧
 ∃ v4 : Value, ((Go.CW.subSlice p0 1 (some (.int .i64 (IntKind.wrap .i64 (((m3 : Nat) : Int) - (4 : Int))))) none none) = (some v4)) ∧
 ∃ s5 : ByteArray, ((Sem.run @Go.Proofs.Try.prog (Go.convert 28 9 v4) (World.drew w)) = (.ok (.string s5) (World.drew w))) ∧
 Go.CW.Spec Try.prog 19 #[v2] (World.drew w) fun v6 w7 =>
 ∃ n8 : Int, ((v6 : Value) = (.int .u32 n8)) ∧
 (∃ s9 : ByteArray, ((Sem.run @Go.Proofs.Try.prog (Go.convert 28 9 v4) w7) = (.ok (.string s9) w7)) ∧
 ((.string s9) : Value) = (.string s5)) ∧
 Go.CW.Spec Try.prog 18 #[(.int .u32 n8)] w7 fun v10 w11 =>
 (∃ s12 : ByteArray, ((Sem.run @Go.Proofs.Try.prog (Go.convert 28 9 v4) w11) = (.ok (.string s12) w11)) ∧
 ((.string s12) : Value) = (.string s5)) ∧
 ∃ s13 : ByteArray, ((Sem.run @Go.Proofs.Try.prog (Go.convert 28 9 v10) w11) = (.ok (.string s13) w11)) ∧
 cond (!(ByteArray.toList s13 == ByteArray.toList s5))
 (R (.tuple #[(.slice none 0 0), (.int .i64 (4 : Int))]) w11)
 (∃ v14 : Value, ∃ w15 : World, ((Sem.run @Go.Proofs.Try.prog (Go.Builtin.append_ #[28, 28] 28 #[(.slice (some ⟨w11.heap.size, 0, none⟩) 0 0), v2]) (World.alloc w11 (.cells #[] 5))) = (.ok v14 w15)) ∧
 R (.tuple #[v14, (.int .i64 (0 : Int))]) w15))

theorem gemelref2_Open_wp (p0 : Value) (w : World) (R : KV) (h : gemelref2_Open_F p0 w R) : Go.CW.Spec Try.prog 8 #[p0] w R :=
  spec_of Try.func8 (by kernel_rfl) (show gemelref2_Open_F p0 w R = _ by kernel_rfl) h

/-- gemel/timer.New -/
def timer_New_F  (w : World) (R : KV) : Prop :=
 R (.pointer (some ⟨w.heap.size, 0, none⟩)) (World.alloc w (.cells #[(.slice none 0 0), (.int .i64 (0 : Int))] 72))

theorem timer_New_wp  (w : World) (R : KV) (h : timer_New_F  w R) : Go.CW.Spec Try.prog 12 #[] w R :=
  spec_of Try.func12 (by kernel_rfl) (show timer_New_F  w R = _ by kernel_rfl) h

/-- (*gemel/timer.Timers).Set -/
def timer_Timers_Set_m_F (p0 : Option Addr) (p1 : Int) (p2 : Int) (w : World) (R : KV) : Prop :=
 JoinP [.bool]
 (fun (b0 : Bool) => fun (w1 : World) =>
 cond b0
 (R (.int .i64 (1 : Int)) w1)
 (Go.CW.Spec Try.prog 25 #[(.pointer p0), (.int .i64 p1)] w1 fun v2 w3 =>
 ∃ n4 : Int, ((v2 : Value) = (.int .i64 n4)) ∧
 JoinP []
 (fun (w5 : World) =>
 withAddr (.pointer p0) fun a6 =>
 ∃ v7 : Value, ((Go.World.cell? (World.drew w5) (Addr.add a6 0)) = (some v7)) ∧
 withAddr (.pointer p0) fun a8 =>
 ∃ n9 : Int, ((Go.World.cell? (World.drew w5) (Addr.add a8 1)) = (some (.int .i64 n9))) ∧
 (∃ v10 : Value, ((Go.World.cell? (World.alloc (World.drew w5) (.cells #[(.int .i64 p1), (.int .i64 (IntKind.wrap .i64 (n9 + p2)))] 76)) (Addr.add a6 0)) = (some v10)) ∧
 (v10 : Value) = v7) ∧
 ∃ v11 : Value, ∃ w12 : World, ((Sem.run @Go.Proofs.Try.prog (Go.Builtin.append_ #[70, 70] 70 #[v7, (.slice (some ⟨(Array.size (World.heap (World.drew w5))), 0, none⟩) 1 1)]) (World.alloc (World.drew w5) (.cells #[(.int .i64 p1), (.int .i64 (IntKind.wrap .i64 (n9 + p2)))] 76))) = (.ok v11 w12)) ∧
 withAddr (.pointer p0) fun a13 =>
 oneK v11 ((St1 w12 (Addr.add a13 0)) ∧
 withAddr (.pointer p0) fun a14 =>
 ∃ v15 : Value, ((Go.World.cell? (World.setCell w12 (Addr.add a13 0) v11) (Addr.add a14 0)) = (some v15)) ∧
 ∃ m16 : Nat, ((Go.CW.sliceLen v15) = (some m16)) ∧
 Go.CW.Spec Try.prog 27 #[(.pointer p0), (.int .i64 (IntKind.wrap .i64 (((m16 : Nat) : Int) - (1 : Int))))] (World.setCell w12 (Addr.add a13 0) v11) fun v17 w18 =>
 ((v17 : Value) = (.tuple #[])) ∧
 R (.int .i64 (0 : Int)) w18))
 (fun j19 =>
 cond (decide (n4 ≥ (0 : Int)))
 (Go.CW.Spec Try.prog 26 #[(.pointer p0), (.int .i64 n4)] w3 fun v20 w21 =>
 ((v20 : Value) = (.tuple #[])) ∧
 j19 w21)
 (withAddr (.pointer p0) fun a22 =>
 ∃ v23 : Value, ((Go.World.cell? w3 (Addr.add a22 0)) = (some v23)) ∧
 ∃ m24 : Nat, ((Go.CW.sliceLen v23) = (some m24)) ∧
 cond (decide (((m24 : Nat) : Int) ≥ (256 : Int)))
 (R (.int .i64 (7 : Int)) w3)
 (j19 w3)))))
 (fun j25 =>
 cond (decide (p2 < (1 : Int)))
 (j25 true w)
 (j25 (decide (p2 > (1073741824 : Int))) w))

theorem timer_Timers_Set_m_wp (p0 : Option Addr) (p1 : Int) (p2 : Int) (w : World) (R : KV) (h : timer_Timers_Set_m_F p0 p1 p2 w R) : Go.CW.Spec Try.prog 15 #[(.pointer p0), (.int .i64 p1), (.int .i64 p2)] w R :=
  spec_of Try.func15 (by kernel_rfl) (show timer_Timers_Set_m_F p0 p1 p2 w R = _ by kernel_rfl) h

/-- (*gemel/timer.Timers).find -/
def timer_Timers_find_m_F (p0 : Option Addr) (p1 : Int) (w : World) (R : KV) : Prop :=
 withAddr (.pointer p0) fun a0 =>
 ∃ v1 : Value, ((Go.World.cell? (World.alloc w (.cells #[(.int .i64 p1)] 3)) (Addr.add a0 0)) = (some v1)) ∧
 Go.CW.Spec Try.prog 37 #[v1, (.func (.func 38) #[] #[(.pointer (some ⟨w.heap.size, 0, none⟩))])] (World.alloc w (.cells #[(.int .i64 p1)] 3)) fun v2 w3 =>
 ∃ n4 : Int, ((v2 : Value) = (.int .i64 n4)) ∧
 R (.int .i64 n4) w3

theorem timer_Timers_find_m_wp (p0 : Option Addr) (p1 : Int) (w : World) (R : KV) (h : timer_Timers_find_m_F p0 p1 w R) : Go.CW.Spec Try.prog 25 #[(.pointer p0), (.int .i64 p1)] w R :=
  spec_of Try.func25 (by kernel_rfl) (show timer_Timers_find_m_F p0 p1 w R = _ by kernel_rfl) h

/-- (*gemel/timer.Timers).remove -/
def timer_Timers_remove_m_F (p0 : Option Addr) (p1 : Int) (w : World) (R : KV) : Prop :=
 withAddr (.pointer p0) fun a0 =>
 ∃ v1 : Value, ((Go.World.cell? w (Addr.add a0 0)) = (some v1)) ∧
 ∃ m2 : Nat, ((Go.CW.sliceLen v1) = (some m2)) ∧
 withAddr (.pointer p0) fun a3 =>
 ∃ v4 : Value, ((Go.World.cell? (World.drew w) (Addr.add a3 0)) = (some v4)) ∧
 withAddr (.pointer p0) fun a5 =>
 ∃ v6 : Value, ((Go.World.cell? (World.drew w) (Addr.add a5 0)) = (some v6)) ∧
 ∃ a7 : Addr, ((Go.CW.sliceAt v6 (IntKind.wrap .i64 (((m2 : Nat) : Int) - (1 : Int))) 2) = (some a7)) ∧
 ∃ n8 : Int, ∃ n9 : Int, (ldCells (World.drew w) a7 2 #[(.int .i64 n8), (.int .i64 n9)]) ∧
 ∃ a10 : Addr, ((Go.CW.sliceAt v4 p1 2) = (some a10)) ∧
 (StRow (World.drew w) a10 #[(.int .i64 n8), (.int .i64 n9)]) ∧
 withAddr (.pointer p0) fun a11 =>
 ∃ v12 : Value, ((Go.World.cell? (stRow (World.drew w) a10 #[(.int .i64 n8), (.int .i64 n9)]) (Addr.add a11 0)) = (some v12)) ∧
 ∃ v13 : Value, ((Go.CW.subSlice v12 2 none (some (.int .i64 (IntKind.wrap .i64 (((m2 : Nat) : Int) - (1 : Int))))) none) = (some v13)) ∧
 withAddr (.pointer p0) fun a14 =>
 oneK v13 ((St1 (stRow (World.drew w) a10 #[(.int .i64 n8), (.int .i64 n9)]) (Addr.add a14 0)) ∧
 cond (decide (p1 < (IntKind.wrap .i64 (((m2 : Nat) : Int) - (1 : Int)))))
 (Go.CW.Spec Try.prog 27 #[(.pointer p0), (.int .i64 p1)] (World.setCell (stRow (World.drew w) a10 #[(.int .i64 n8), (.int .i64 n9)]) (Addr.add a14 0) v13) fun v15 w16 =>
 ((v15 : Value) = (.tuple #[])) ∧
 Go.CW.Spec Try.prog 39 #[(.pointer p0), (.int .i64 p1)] w16 fun v17 w18 =>
 ((v17 : Value) = (.tuple #[])) ∧
 R (.tuple #[]) w18)
 (R (.tuple #[]) (World.setCell (stRow (World.drew w) a10 #[(.int .i64 n8), (.int .i64 n9)]) (Addr.add a14 0) v13)))

theorem timer_Timers_remove_m_wp (p0 : Option Addr) (p1 : Int) (w : World) (R : KV) (h : timer_Timers_remove_m_F p0 p1 w R) : Go.CW.Spec Try.prog 26 #[(.pointer p0), (.int .i64 p1)] w R :=
  spec_of Try.func26 (by kernel_rfl) (show timer_Timers_remove_m_F p0 p1 w R = _ by kernel_rfl) h

/-- (*gemel/timer.Timers).up -/
def timer_Timers_up_m_F (p0 : Option Addr) (p1 : Int) (w : World) (R : KV) : Prop :=
 LoopP [.int .i64]
 (fun j0 => fun (n1 : Int) => fun (w2 : World) =>
 JoinP [.bool]
 (fun (b3 : Bool) => fun (w4 : World) =>
 cond b3
 (withAddr (.pointer p0) fun a5 =>
 ∃ v6 : Value, ((Go.World.cell? (World.drew w4) (Addr.add a5 0)) = (some v6)) ∧
 withAddr (.pointer p0) fun a7 =>
 ∃ v8 : Value, ((Go.World.cell? (World.drew w4) (Addr.add a7 0)) = (some v8)) ∧
 withAddr (.pointer p0) fun a9 =>
 ∃ v10 : Value, ((Go.World.cell? (World.drew w4) (Addr.add a9 0)) = (some v10)) ∧
 ∃ a11 : Addr, ((Go.CW.sliceAt v10 (IntKind.wrap .i64 (Int.tdiv (IntKind.wrap .i64 (n1 - (1 : Int))) (2 : Int))) 2) = (some a11)) ∧
 ∃ n12 : Int, ∃ n13 : Int, (ldCells (World.drew w4) a11 2 #[(.int .i64 n12), (.int .i64 n13)]) ∧
 withAddr (.pointer p0) fun a14 =>
 ∃ v15 : Value, ((Go.World.cell? (World.drew w4) (Addr.add a14 0)) = (some v15)) ∧
 ∃ a16 : Addr, ((Go.CW.sliceAt v15 n1 2) = (some a16)) ∧
 ∃ n17 : Int, ∃ n18 : Int, (ldCells (World.drew w4) a16 2 #[(.int .i64 n17), (.int .i64 n18)]) ∧
 ∃ a19 : Addr, ((Go.CW.sliceAt v6 n1 2) = (some a19)) ∧
 (StRow (World.drew w4) a19 #[(.int .i64 n12), (.int .i64 n13)]) ∧
 ∃ a20 : Addr, ((Go.CW.sliceAt v8 (IntKind.wrap .i64 (Int.tdiv (IntKind.wrap .i64 (n1 - (1 : Int))) (2 : Int))) 2) = (some a20)) ∧
 (StRow (stRow (World.drew w4) a19 #[(.int .i64 n12), (.int .i64 n13)]) a20 #[(.int .i64 n17), (.int .i64 n18)]) ∧
 j0 (IntKind.wrap .i64 (Int.tdiv (IntKind.wrap .i64 (n1 - (1 : Int))) (2 : Int))) (stRow (stRow (World.drew w4) a19 #[(.int .i64 n12), (.int .i64 n13)]) a20 #[(.int .i64 n17), (.int .i64 n18)]))
 (R (.tuple #[]) w4))
 (fun j21 =>
 cond (decide (n1 > (0 : Int)))
 (Go.CW.Spec Try.prog 40 #[(.pointer p0), (.int .i64 n1), (.int .i64 (IntKind.wrap .i64 (Int.tdiv (IntKind.wrap .i64 (n1 - (1 : Int))) (2 : Int))))] w2 fun v22 w23 =>
 ∃ b24 : Bool, ((v22 : Value) = (.bool b24)) ∧
 j21 b24 w23)
 (j21 false w2)))
 (fun s25 => s25 p1 w)

theorem timer_Timers_up_m_wp (p0 : Option Addr) (p1 : Int) (w : World) (R : KV) (h : timer_Timers_up_m_F p0 p1 w R) : Go.CW.Spec Try.prog 27 #[(.pointer p0), (.int .i64 p1)] w R :=
  spec_of Try.func27 (by kernel_rfl) (show timer_Timers_up_m_F p0 p1 w R = _ by kernel_rfl) h

/-- (*gemel/timer.Timers).Stop -/
def timer_Timers_Stop_m_F (p0 : Option Addr) (p1 : Int) (w : World) (R : KV) : Prop :=
 Go.CW.Spec Try.prog 25 #[(.pointer p0), (.int .i64 p1)] w fun v0 w1 =>
 ∃ n2 : Int, ((v0 : Value) = (.int .i64 n2)) ∧
 JoinP []
 (fun (w3 : World) =>
 R (.bool (decide (n2 ≥ (0 : Int)))) w3)
 (fun j4 =>
 cond (decide (n2 ≥ (0 : Int)))
 (Go.CW.Spec Try.prog 26 #[(.pointer p0), (.int .i64 n2)] w1 fun v5 w6 =>
 ((v5 : Value) = (.tuple #[])) ∧
 j4 w6)
 (j4 w1))

theorem timer_Timers_Stop_m_wp (p0 : Option Addr) (p1 : Int) (w : World) (R : KV) (h : timer_Timers_Stop_m_F p0 p1 w R) : Go.CW.Spec Try.prog 36 #[(.pointer p0), (.int .i64 p1)] w R :=
  spec_of Try.func36 (by kernel_rfl) (show timer_Timers_Stop_m_F p0 p1 w R = _ by kernel_rfl) h

/-- slices.IndexFunc[[]gemel/timer.alarm,gemel/timer.alarm] -/
def slices_IndexFunc___F (p0 : Value) (p1 : Value) (w : World) (R : KV) : Prop :=
 ∃ m0 : Nat, ((Go.CW.sliceLen p0) = (some m0)) ∧
 LoopP [.int .i64]
 (fun j1 => fun (n2 : Int) => fun (w3 : World) =>
 cond (decide (n2 < ((m0 : Nat) : Int)))
 (∃ a4 : Addr, ((Go.CW.sliceAt p0 n2 2) = (some a4)) ∧
 ∃ n5 : Int, ∃ n6 : Int, (ldCells w3 a4 2 #[(.int .i64 n5), (.int .i64 n6)]) ∧
 Go.CW.callU Try.prog p1 #[(.agg #[(.int .i64 n5), (.int .i64 n6)])] w3 fun v7 w8 =>
 ∃ b9 : Bool, ((v7 : Value) = (.bool b9)) ∧
 cond b9
 (R (.int .i64 n2) w8)
 (j1 (IntKind.wrap .i64 (n2 + (1 : Int))) w8))
 (R (.int .i64 (-1 : Int)) w3))
 (fun s10 => s10 (0 : Int) w)

theorem slices_IndexFunc___wp (p0 : Value) (p1 : Value) (w : World) (R : KV) (h : slices_IndexFunc___F p0 p1 w R) : Go.CW.Spec Try.prog 37 #[p0, p1] w R :=
  spec_of Try.func37 (by kernel_rfl) (show slices_IndexFunc___F p0 p1 w R = _ by kernel_rfl) h

/-- (*gemel/timer.Timers).find$1 -/
def timer_Timers_find_1_m_F (p0_0 : Int) (p0_1 : Int) (p1 : Value) (w : World) (R : KV) : Prop :=
 ∃ n0 : Int, ((Go.World.cell? (World.alloc w (.cells #[(.int .i64 p0_0), (.int .i64 p0_1)] 76)) (Addr.add ⟨w.heap.size, 0, none⟩ 0)) = (some (.int .i64 n0))) ∧
 withAddr p1 fun a1 =>
 ∃ n2 : Int, ((Go.World.cell? (World.alloc w (.cells #[(.int .i64 p0_0), (.int .i64 p0_1)] 76)) a1) = (some (.int .i64 n2))) ∧
 R (.bool (n0 == n2)) (World.alloc w (.cells #[(.int .i64 p0_0), (.int .i64 p0_1)] 76))

theorem timer_Timers_find_1_m_wp (p0_0 : Int) (p0_1 : Int) (p1 : Value) (w : World) (R : KV) (h : timer_Timers_find_1_m_F p0_0 p0_1 p1 w R) : Go.CW.Spec Try.prog 38 #[(.agg #[(.int .i64 p0_0), (.int .i64 p0_1)]), p1] w R :=
  spec_of Try.func38 (by kernel_rfl) (show timer_Timers_find_1_m_F p0_0 p0_1 p1 w R = _ by kernel_rfl) h

/-- (*gemel/timer.Timers).down -/
def timer_Timers_down_m_F (p0 : Option Addr) (p1 : Int) (w : World) (R : KV) : Prop :=
 LoopP [.int .i64]
 (fun j0 => fun (n1 : Int) => fun (w2 : World) =>
 JoinP [.int .i64]
 (fun (n3 : Int) => fun (w4 : World) =>
 JoinP [.bool]
 (fun (b5 : Bool) => fun (w6 : World) =>
 cond b5
 (R (.tuple #[]) w6)
 (withAddr (.pointer p0) fun a7 =>
 ∃ v8 : Value, ((Go.World.cell? (World.drew w6) (Addr.add a7 0)) = (some v8)) ∧
 withAddr (.pointer p0) fun a9 =>
 ∃ v10 : Value, ((Go.World.cell? (World.drew w6) (Addr.add a9 0)) = (some v10)) ∧
 withAddr (.pointer p0) fun a11 =>
 ∃ v12 : Value, ((Go.World.cell? (World.drew w6) (Addr.add a11 0)) = (some v12)) ∧
 ∃ a13 : Addr, ((Go.CW.sliceAt v12 n3 2) = (some a13)) ∧
 ∃ n14 : Int, ∃ n15 : Int, (ldCells (World.drew w6) a13 2 #[(.int .i64 n14), (.int .i64 n15)]) ∧
 withAddr (.pointer p0) fun a16 =>
 ∃ v17 : Value, ((Go.World.cell? (World.drew w6) (Addr.add a16 0)) = (some v17)) ∧
 ∃ a18 : Addr, ((Go.CW.sliceAt v17 n1 2) = (some a18)) ∧
 ∃ n19 : Int, ∃ n20 : Int, (ldCells (World.drew w6) a18 2 #[(.int .i64 n19), (.int .i64 n20)]) ∧
 ∃ a21 : Addr, ((Go.CW.sliceAt v8 n1 2) = (some a21)) ∧
 (StRow (World.drew w6) a21 #[(.int .i64 n14), (.int .i64 n15)]) ∧
 ∃ a22 : Addr, ((Go.CW.sliceAt v10 n3 2) = (some a22)) ∧
 (StRow (stRow (World.drew w6) a21 #[(.int .i64 n14), (.int .i64 n15)]) a22 #[(.int .i64 n19), (.int .i64 n20)]) ∧
 j0 n3 (stRow (stRow (World.drew w6) a21 #[(.int .i64 n14), (.int .i64 n15)]) a22 #[(.int .i64 n19), (.int .i64 n20)])))
 (fun j23 =>
 withAddr (.pointer p0) fun a24 =>
 ∃ v25 : Value, ((Go.World.cell? w4 (Addr.add a24 0)) = (some v25)) ∧
 ∃ m26 : Nat, ((Go.CW.sliceLen v25) = (some m26)) ∧
 cond (decide (n3 ≥ ((m26 : Nat) : Int)))
 (j23 true w4)
 (Go.CW.Spec Try.prog 40 #[(.pointer p0), (.int .i64 n3), (.int .i64 n1)] w4 fun v27 w28 =>
 ∃ b29 : Bool, ((v27 : Value) = (.bool b29)) ∧
 j23 (!b29) w28)))
 (fun j30 =>
 JoinP [.bool]
 (fun (b31 : Bool) => fun (w32 : World) =>
 cond b31
 (j30 (IntKind.wrap .i64 ((IntKind.wrap .i64 ((IntKind.wrap .i64 ((2 : Int) * n1)) + (1 : Int))) + (1 : Int))) w32)
 (j30 (IntKind.wrap .i64 ((IntKind.wrap .i64 ((2 : Int) * n1)) + (1 : Int))) w32))
 (fun j33 =>
 withAddr (.pointer p0) fun a34 =>
 ∃ v35 : Value, ((Go.World.cell? w2 (Addr.add a34 0)) = (some v35)) ∧
 ∃ m36 : Nat, ((Go.CW.sliceLen v35) = (some m36)) ∧
 cond (decide ((IntKind.wrap .i64 ((IntKind.wrap .i64 ((IntKind.wrap .i64 ((2 : Int) * n1)) + (1 : Int))) + (1 : Int))) < ((m36 : Nat) : Int)))
 (Go.CW.Spec Try.prog 40 #[(.pointer p0), (.int .i64 (IntKind.wrap .i64 ((IntKind.wrap .i64 ((IntKind.wrap .i64 ((2 : Int) * n1)) + (1 : Int))) + (1 : Int)))), (.int .i64 (IntKind.wrap .i64 ((IntKind.wrap .i64 ((2 : Int) * n1)) + (1 : Int))))] w2 fun v37 w38 =>
 ∃ b39 : Bool, ((v37 : Value) = (.bool b39)) ∧
 j33 b39 w38)
 (j33 false w2))))
 (fun s40 => s40 p1 w)

theorem timer_Timers_down_m_wp (p0 : Option Addr) (p1 : Int) (w : World) (R : KV) (h : timer_Timers_down_m_F p0 p1 w R) : Go.CW.Spec Try.prog 39 #[(.pointer p0), (.int .i64 p1)] w R :=
  spec_of Try.func39 (by kernel_rfl) (show timer_Timers_down_m_F p0 p1 w R = _ by kernel_rfl) h

/-- (*gemel/timer.Timers).less -/
def timer_Timers_less_m_F (p0 : Option Addr) (p1 : Int) (p2 : Int) (w : World) (R : KV) : Prop :=
 JoinP [.val, .val]
 (fun (v0 : Value) => fun (v1 : Value) => fun (w2 : World) =>
 JoinP [.bool]
 (fun (b3 : Bool) => fun (w4 : World) =>
 R (.bool b3) w4)
 (fun j5 =>
 withAddr v0 fun a6 =>
 ∃ n7 : Int, ((Go.World.cell? w2 (Addr.add a6 1)) = (some (.int .i64 n7))) ∧
 withAddr v1 fun a8 =>
 ∃ n9 : Int, ((Go.World.cell? w2 (Addr.add a8 1)) = (some (.int .i64 n9))) ∧
 cond (decide (n7 < n9))
 (j5 true w2)
 (withAddr v0 fun a10 =>
 ∃ n11 : Int, ((Go.World.cell? w2 (Addr.add a10 1)) = (some (.int .i64 n11))) ∧
 withAddr v1 fun a12 =>
 ∃ n13 : Int, ((Go.World.cell? w2 (Addr.add a12 1)) = (some (.int .i64 n13))) ∧
 cond (n11 == n13)
 (withAddr v0 fun a14 =>
 ∃ n15 : Int, ((Go.World.cell? w2 (Addr.add a14 0)) = (some (.int .i64 n15))) ∧
 withAddr v1 fun a16 =>
 ∃ n17 : Int, ((Go.World.cell? w2 (Addr.add a16 0)) = (some (.int .i64 n17))) ∧
 j5 (decide (n15 < n17)) w2)
 (j5 false w2))))
 (fun j18 =>
 withAddr (.pointer p0) fun a19 =>
 ∃ v20 : Value, ((Go.World.cell? (World.drew w) (Addr.add a19 0)) = (some v20)) ∧
 ∃ a21 : Addr, ((Go.CW.sliceAt v20 p1 2) = (some a21)) ∧
 ∃ n22 : Int, ∃ n23 : Int, (ldCells (World.drew w) a21 2 #[(.int .i64 n22), (.int .i64 n23)]) ∧
 withAddr (.pointer p0) fun a24 =>
 ∃ v25 : Value, ((Go.World.cell? (World.drew w) (Addr.add a24 0)) = (some v25)) ∧
 ∃ a26 : Addr, ((Go.CW.sliceAt v25 p2 2) = (some a26)) ∧
 ∃ n27 : Int, ∃ n28 : Int, (ldCells (World.drew w) a26 2 #[(.int .i64 n27), (.int .i64 n28)]) ∧
 ((∃ v29 : Value, ((Go.World.cell? (World.alloc (World.drew w) (.cells #[(.int .i64 (0 : Int)), (.int .i64 (0 : Int))] 76)) (Addr.add a19 0)) = (some v29)) ∧
 (v29 : Value) = v20) ∧
 (∃ n30 : Int, ∃ n31 : Int, (ldCells (World.alloc (World.drew w) (.cells #[(.int .i64 (0 : Int)), (.int .i64 (0 : Int))] 76)) a21 2 #[(.int .i64 n30), (.int .i64 n31)]) ∧
 ((.agg #[(.int .i64 n30), (.int .i64 n31)]) : Value) = (.agg #[(.int .i64 n22), (.int .i64 n23)])) ∧
 (∃ v32 : Value, ((Go.World.cell? (World.alloc (World.drew w) (.cells #[(.int .i64 (0 : Int)), (.int .i64 (0 : Int))] 76)) (Addr.add a24 0)) = (some v32)) ∧
 (v32 : Value) = v25) ∧
 (∃ n33 : Int, ∃ n34 : Int, (ldCells (World.alloc (World.drew w) (.cells #[(.int .i64 (0 : Int)), (.int .i64 (0 : Int))] 76)) a26 2 #[(.int .i64 n33), (.int .i64 n34)]) ∧
 ((.agg #[(.int .i64 n33), (.int .i64 n34)]) : Value) = (.agg #[(.int .i64 n27), (.int .i64 n28)])) ∧
 (∃ v35 : Value, ((Go.World.cell? (World.alloc (World.alloc (World.drew w) (.cells #[(.int .i64 (0 : Int)), (.int .i64 (0 : Int))] 76)) (.cells #[(.int .i64 (0 : Int)), (.int .i64 (0 : Int))] 76)) (Addr.add a19 0)) = (some v35)) ∧
 (v35 : Value) = v20) ∧
 (∃ n36 : Int, ∃ n37 : Int, (ldCells (World.alloc (World.alloc (World.drew w) (.cells #[(.int .i64 (0 : Int)), (.int .i64 (0 : Int))] 76)) (.cells #[(.int .i64 (0 : Int)), (.int .i64 (0 : Int))] 76)) a21 2 #[(.int .i64 n36), (.int .i64 n37)]) ∧
 ((.agg #[(.int .i64 n36), (.int .i64 n37)]) : Value) = (.agg #[(.int .i64 n22), (.int .i64 n23)])) ∧
 (∃ v38 : Value, ((Go.World.cell? (World.alloc (World.alloc (World.drew w) (.cells #[(.int .i64 (0 : Int)), (.int .i64 (0 : Int))] 76)) (.cells #[(.int .i64 (0 : Int)), (.int .i64 (0 : Int))] 76)) (Addr.add a24 0)) = (some v38)) ∧
 (v38 : Value) = v25) ∧
 (∃ n39 : Int, ∃ n40 : Int, (ldCells (World.alloc (World.alloc (World.drew w) (.cells #[(.int .i64 (0 : Int)), (.int .i64 (0 : Int))] 76)) (.cells #[(.int .i64 (0 : Int)), (.int .i64 (0 : Int))] 76)) a26 2 #[(.int .i64 n39), (.int .i64 n40)]) ∧
 ((.agg #[(.int .i64 n39), (.int .i64 n40)]) : Value) = (.agg #[(.int .i64 n27), (.int .i64 n28)])) ∧
 (StRow (World.alloc (World.alloc (World.drew w) (.cells #[(.int .i64 (0 : Int)), (.int .i64 (0 : Int))] 76)) (.cells #[(.int .i64 (0 : Int)), (.int .i64 (0 : Int))] 76)) ⟨(Array.size (World.heap (World.drew w))), 0, none⟩ #[(.int .i64 n22), (.int .i64 n23)]) ∧
 (∃ v41 : Value, ((Go.World.cell? (stRow (World.alloc (World.alloc (World.drew w) (.cells #[(.int .i64 (0 : Int)), (.int .i64 (0 : Int))] 76)) (.cells #[(.int .i64 (0 : Int)), (.int .i64 (0 : Int))] 76)) ⟨(Array.size (World.heap (World.drew w))), 0, none⟩ #[(.int .i64 n22), (.int .i64 n23)]) (Addr.add a24 0)) = (some v41)) ∧
 (v41 : Value) = v25) ∧
 (∃ n42 : Int, ∃ n43 : Int, (ldCells (stRow (World.alloc (World.alloc (World.drew w) (.cells #[(.int .i64 (0 : Int)), (.int .i64 (0 : Int))] 76)) (.cells #[(.int .i64 (0 : Int)), (.int .i64 (0 : Int))] 76)) ⟨(Array.size (World.heap (World.drew w))), 0, none⟩ #[(.int .i64 n22), (.int .i64 n23)]) a26 2 #[(.int .i64 n42), (.int .i64 n43)]) ∧
 ((.agg #[(.int .i64 n42), (.int .i64 n43)]) : Value) = (.agg #[(.int .i64 n27), (.int .i64 n28)])) ∧
 (StRow (stRow (World.alloc (World.alloc (World.drew w) (.cells #[(.int .i64 (0 : Int)), (.int .i64 (0 : Int))] 76)) (.cells #[(.int .i64 (0 : Int)), (.int .i64 (0 : Int))] 76)) ⟨(Array.size (World.heap (World.drew w))), 0, none⟩ #[(.int .i64 n22), (.int .i64 n23)]) ⟨(Array.size (World.heap (World.alloc (World.drew w) (.cells #[(.int .i64 (0 : Int)), (.int .i64 (0 : Int))] 76)))), 0, none⟩ #[(.int .i64 n27), (.int .i64 n28)]) ∧
 j18 (.pointer (some ⟨(Array.size (World.heap (World.drew w))), 0, none⟩)) (.pointer (some ⟨(Array.size (World.heap (World.alloc (World.drew w) (.cells #[(.int .i64 (0 : Int)), (.int .i64 (0 : Int))] 76)))), 0, none⟩)) (stRow (stRow (World.alloc (World.alloc (World.drew w) (.cells #[(.int .i64 (0 : Int)), (.int .i64 (0 : Int))] 76)) (.cells #[(.int .i64 (0 : Int)), (.int .i64 (0 : Int))] 76)) ⟨(Array.size (World.heap (World.drew w))), 0, none⟩ #[(.int .i64 n22), (.int .i64 n23)]) ⟨(Array.size (World.heap (World.alloc (World.drew w) (.cells #[(.int .i64 (0 : Int)), (.int .i64 (0 : Int))] 76)))), 0, none⟩ #[(.int .i64 n27), (.int .i64 n28)])) ∧
 (∃ v44 : Value, ((Go.World.cell? (World.alloc (World.drew w) (.cells #[(.int .i64 (0 : Int)), (.int .i64 (0 : Int))] 76)) (Addr.add a19 0)) = (some v44)) ∧
 (v44 : Value) = v20) ∧
 (∃ n45 : Int, ∃ n46 : Int, (ldCells (World.alloc (World.drew w) (.cells #[(.int .i64 (0 : Int)), (.int .i64 (0 : Int))] 76)) a21 2 #[(.int .i64 n45), (.int .i64 n46)]) ∧
 ((.agg #[(.int .i64 n45), (.int .i64 n46)]) : Value) = (.agg #[(.int .i64 n22), (.int .i64 n23)])) ∧
 (∃ v47 : Value, ((Go.World.cell? (World.alloc (World.drew w) (.cells #[(.int .i64 (0 : Int)), (.int .i64 (0 : Int))] 76)) (Addr.add a24 0)) = (some v47)) ∧
 (v47 : Value) = v25) ∧
 (∃ n48 : Int, ∃ n49 : Int, (ldCells (World.alloc (World.drew w) (.cells #[(.int .i64 (0 : Int)), (.int .i64 (0 : Int))] 76)) a26 2 #[(.int .i64 n48), (.int .i64 n49)]) ∧
 ((.agg #[(.int .i64 n48), (.int .i64 n49)]) : Value) = (.agg #[(.int .i64 n27), (.int .i64 n28)])) ∧
 (∃ v50 : Value, ((Go.World.cell? (World.alloc (World.alloc (World.drew w) (.cells #[(.int .i64 (0 : Int)), (.int .i64 (0 : Int))] 76)) (.cells #[(.int .i64 (0 : Int)), (.int .i64 (0 : Int))] 76)) (Addr.add a19 0)) = (some v50)) ∧
 (v50 : Value) = v20) ∧
 (∃ n51 : Int, ∃ n52 : Int, (ldCells (World.alloc (World.alloc (World.drew w) (.cells #[(.int .i64 (0 : Int)), (.int .i64 (0 : Int))] 76)) (.cells #[(.int .i64 (0 : Int)), (.int .i64 (0 : Int))] 76)) a21 2 #[(.int .i64 n51), (.int .i64 n52)]) ∧
 ((.agg #[(.int .i64 n51), (.int .i64 n52)]) : Value) = (.agg #[(.int .i64 n22), (.int .i64 n23)])) ∧
 (∃ v53 : Value, ((Go.World.cell? (World.alloc (World.alloc (World.drew w) (.cells #[(.int .i64 (0 : Int)), (.int .i64 (0 : Int))] 76)) (.cells #[(.int .i64 (0 : Int)), (.int .i64 (0 : Int))] 76)) (Addr.add a24 0)) = (some v53)) ∧
 (v53 : Value) = v25) ∧
 (∃ n54 : Int, ∃ n55 : Int, (ldCells (World.alloc (World.alloc (World.drew w) (.cells #[(.int .i64 (0 : Int)), (.int .i64 (0 : Int))] 76)) (.cells #[(.int .i64 (0 : Int)), (.int .i64 (0 : Int))] 76)) a26 2 #[(.int .i64 n54), (.int .i64 n55)]) ∧
 ((.agg #[(.int .i64 n54), (.int .i64 n55)]) : Value) = (.agg #[(.int .i64 n27), (.int .i64 n28)])) ∧
 (StRow (World.alloc (World.alloc (World.drew w) (.cells #[(.int .i64 (0 : Int)), (.int .i64 (0 : Int))] 76)) (.cells #[(.int .i64 (0 : Int)), (.int .i64 (0 : Int))] 76)) ⟨(Array.size (World.heap (World.alloc (World.drew w) (.cells #[(.int .i64 (0 : Int)), (.int .i64 (0 : Int))] 76)))), 0, none⟩ #[(.int .i64 n22), (.int .i64 n23)]) ∧
 (∃ v56 : Value, ((Go.World.cell? (stRow (World.alloc (World.alloc (World.drew w) (.cells #[(.int .i64 (0 : Int)), (.int .i64 (0 : Int))] 76)) (.cells #[(.int .i64 (0 : Int)), (.int .i64 (0 : Int))] 76)) ⟨(Array.size (World.heap (World.alloc (World.drew w) (.cells #[(.int .i64 (0 : Int)), (.int .i64 (0 : Int))] 76)))), 0, none⟩ #[(.int .i64 n22), (.int .i64 n23)]) (Addr.add a24 0)) = (some v56)) ∧
 (v56 : Value) = v25) ∧
 (∃ n57 : Int, ∃ n58 : Int, (ldCells (stRow (World.alloc (World.alloc (World.drew w) (.cells #[(.int .i64 (0 : Int)), (.int .i64 (0 : Int))] 76)) (.cells #[(.int .i64 (0 : Int)), (.int .i64 (0 : Int))] 76)) ⟨(Array.size (World.heap (World.alloc (World.drew w) (.cells #[(.int .i64 (0 : Int)), (.int .i64 (0 : Int))] 76)))), 0, none⟩ #[(.int .i64 n22), (.int .i64 n23)]) a26 2 #[(.int .i64 n57), (.int .i64 n58)]) ∧
 ((.agg #[(.int .i64 n57), (.int .i64 n58)]) : Value) = (.agg #[(.int .i64 n27), (.int .i64 n28)])) ∧
 (StRow (stRow (World.alloc (World.alloc (World.drew w) (.cells #[(.int .i64 (0 : Int)), (.int .i64 (0 : Int))] 76)) (.cells #[(.int .i64 (0 : Int)), (.int .i64 (0 : Int))] 76)) ⟨(Array.size (World.heap (World.alloc (World.drew w) (.cells #[(.int .i64 (0 : Int)), (.int .i64 (0 : Int))] 76)))), 0, none⟩ #[(.int .i64 n22), (.int .i64 n23)]) ⟨(Array.size (World.heap (World.drew w))), 0, none⟩ #[(.int .i64 n27), (.int .i64 n28)]) ∧
 j18 (.pointer (some ⟨(Array.size (World.heap (World.alloc (World.drew w) (.cells #[(.int .i64 (0 : Int)), (.int .i64 (0 : Int))] 76)))), 0, none⟩)) (.pointer (some ⟨(Array.size (World.heap (World.drew w))), 0, none⟩)) (stRow (stRow (World.alloc (World.alloc (World.drew w) (.cells #[(.int .i64 (0 : Int)), (.int .i64 (0 : Int))] 76)) (.cells #[(.int .i64 (0 : Int)), (.int .i64 (0 : Int))] 76)) ⟨(Array.size (World.heap (World.alloc (World.drew w) (.cells #[(.int .i64 (0 : Int)), (.int .i64 (0 : Int))] 76)))), 0, none⟩ #[(.int .i64 n22), (.int .i64 n23)]) ⟨(Array.size (World.heap (World.drew w))), 0, none⟩ #[(.int .i64 n27), (.int .i64 n28)]))

theorem timer_Timers_less_m_wp (p0 : Option Addr) (p1 : Int) (p2 : Int) (w : World) (R : KV) (h : timer_Timers_less_m_F p0 p1 p2 w R) : Go.CW.Spec Try.prog 40 #[(.pointer p0), (.int .i64 p1), (.int .i64 p2)] w R :=
  spec_of Try.func40 (by kernel_rfl) (show timer_Timers_less_m_F p0 p1 p2 w R = _ by kernel_rfl) h

end Go.Proofs.Ytmbdbplobnkleaa
