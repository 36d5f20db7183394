/- The formulas of some functions, printed by a program (wip/cw/CwGen). -/
import Derived.Test.YtacenidajlncaaaDoorFacts
set_option linter.unusedVariables false
set_option maxRecDepth 100000
namespace Go.Proofs.YtacenidajlncaaaDoor
open Go Go.CW

/-- gemel/bin.Put -/
def bin_Put_F (p0 : Value) (p1 : Int) (p2 : Int) (w : World) (R : KV) : Prop :=
 Go.CW.Spec Tryd.prog 16 #[p0] w fun v0 w1 =>
 JoinP [.bool]
 (fun (b2 : Bool) => fun (w3 : World) =>
 cond b2
 (R v0 w3)
 (LoopP [.val, .int .i64]
 (fun j4 => fun (v5 : Value) => fun (n6 : Int) => fun (w7 : World) =>
 cond (decide (n6 ≥ (0 : Int)))
 (leK (IntKind.wrap .i64 ((8 : Int) * n6)) (∃ v8 : Value, ∃ w9 : World, ((Sem.run @Go.Proofs.Tryd.prog (Go.Builtin.append_ #[24, 24] 24 #[v5, (.slice (some ⟨w7.heap.size, 0, none⟩) 1 1)]) (World.alloc w7 (.cells #[(.int .u8 (IntKind.wrap .u8 (Int.fdiv p1 ((2 : Int) ^ (min (Int.toNat (IntKind.wrap .i64 ((8 : Int) * n6))) 64)))))] 5))) = (.ok v8 w9)) ∧
 j4 v8 (IntKind.wrap .i64 (n6 - (1 : Int))) w9))
 (Go.CW.Spec Tryd.prog 15 #[v5] w7 fun v10 w11 =>
 R v10 w11))
 (fun s12 => s12 v0 (IntKind.wrap .i64 (p2 - (1 : Int))) w3)))
 (fun j13 =>
 cond (decide (p2 < (1 : Int)))
 (j13 true w1)
 (j13 (decide (p2 > (8 : Int))) w1))

theorem bin_Put_wp (p0 : Value) (p1 : Int) (p2 : Int) (w : World) (R : KV) (h : bin_Put_F p0 p1 p2 w R) : Go.CW.Spec Tryd.prog 13 #[p0, (.int .u64 p1), (.int .i64 p2)] w R :=
  spec_of Tryd.func13 (by kernel_rfl) (show bin_Put_F p0 p1 p2 w R = _ by kernel_rfl) h

/-- gemel/bin.Get -/
def bin_Get_F (p0 : Value) (p1 : Int) (p2 : Int) (w : World) (R : KV) : Prop :=
 JoinP [.bool]
 (fun (b0 : Bool) => fun (w1 : World) =>
 cond b0
 (R (.tuple #[(.int .u64 (0 : Int)), (.bool false)]) w1)
 (∃ v2 : Value, ((Go.CW.subSlice p0 1 (some (.int .i64 p1)) (some (.int .i64 (IntKind.wrap .i64 (p1 + p2)))) none) = (some v2)) ∧
 ∃ m3 : Nat, ((Go.CW.sliceLen v2) = (some m3)) ∧
 LoopP [.int .u64, .int .i64]
 (fun j4 => fun (n5 : Int) => fun (n6 : Int) => fun (w7 : World) =>
 cond (decide (n6 < ((m3 : Nat) : Int)))
 (∃ a8 : Addr, ((Go.CW.sliceAt v2 n6 1) = (some a8)) ∧
 ∃ n9 : Int, ((Go.World.cell? w7 a8) = (some (.int .u8 n9))) ∧
 j4 (bitsI .or .u64 (IntKind.wrap .u64 (n5 * (256 : Int))) (IntKind.wrap .u64 n9)) (IntKind.wrap .i64 (n6 + (1 : Int))) w7)
 (R (.tuple #[(.int .u64 n5), (.bool true)]) w7))
 (fun s10 => s10 (0 : Int) (0 : Int) w1)))
 (fun j11 =>
 cond (decide (p2 < (1 : Int)))
 (j11 true w)
 (cond (decide (p2 > (8 : Int)))
 (j11 true w)
 (cond (decide (p1 < (0 : Int)))
 (j11 true w)
 (∃ m12 : Nat, ((Go.CW.sliceLen p0) = (some m12)) ∧
 cond (decide (p1 > ((m12 : Nat) : Int)))
 (j11 true w)
 (∃ m13 : Nat, ((Go.CW.sliceLen p0) = (some m13)) ∧
 j11 (decide (p2 > (IntKind.wrap .i64 (((m13 : Nat) : Int) - p1)))) w)))))

theorem bin_Get_wp (p0 : Value) (p1 : Int) (p2 : Int) (w : World) (R : KV) (h : bin_Get_F p0 p1 p2 w R) : Go.CW.Spec Tryd.prog 14 #[p0, (.int .i64 p1), (.int .i64 p2)] w R :=
  spec_of Tryd.func14 (by kernel_rfl) (show bin_Get_F p0 p1 p2 w R = _ by kernel_rfl) h

/-- slices.Clip[[]byte,byte] -/
def slices_Clip___F (p0 : Value) (w : World) (R : KV) : Prop :=
 ∃ m0 : Nat, ((Go.CW.sliceLen p0) = (some m0)) ∧
 ∃ m1 : Nat, ((Go.CW.sliceLen p0) = (some m1)) ∧
 ∃ v2 : Value, ((Go.CW.subSlice p0 1 none (some (.int .i64 ((m0 : Nat) : Int))) (some (.int .i64 ((m1 : Nat) : Int)))) = (some v2)) ∧
 R v2 w

theorem slices_Clip___wp (p0 : Value) (w : World) (R : KV) (h : slices_Clip___F p0 w R) : Go.CW.Spec Tryd.prog 15 #[p0] w R :=
  spec_of Tryd.func15 (by kernel_rfl) (show slices_Clip___F p0 w R = _ by kernel_rfl) h

/-- slices.Clone[[]byte,byte] -/
def slices_Clone___F (p0 : Value) (w : World) (R : KV) : Prop :=
 ∃ b0 : Bool, ((Go.CW.isNilS p0) = (some b0)) ∧
 cond b0
 (R (.slice none 0 0) w)
 (∃ v1 : Value, ∃ w2 : World, ((Sem.run @Go.Proofs.Tryd.prog (Go.Builtin.append_ #[24, 24] 24 #[(.slice (some ⟨w.heap.size, 0, none⟩) 0 0), p0]) (World.alloc w (.cells #[] 5))) = (.ok v1 w2)) ∧
 R v1 w2)

theorem slices_Clone___wp (p0 : Value) (w : World) (R : KV) (h : slices_Clone___F p0 w R) : Go.CW.Spec Tryd.prog 16 #[p0] w R :=
  spec_of Tryd.func16 (by kernel_rfl) (show slices_Clone___F p0 w R = _ by kernel_rfl) h

end Go.Proofs.YtacenidajlncaaaDoor
