/- The formulas of some functions, printed by a program (wip/cw/CwGen). -/
import Derived.Test.YtnclgknfccliiaaGreatDoorNam
set_option linter.unusedVariables false
set_option maxRecDepth 100000
namespace Go.Proofs.YtnclgknfccliiaaGreatDoor
open Go Go.CW

/-- slices.Clip[[][2]int,[2]int] -/
def slices_Clip__2_104_F (p0 : Value) (w : World) (R : KV) : Prop :=
 ∃ (m0 : Nat), ((Go.CW.sliceLen p0) = (some m0)) ∧
 ∃ (m1 : Nat), ((Go.CW.sliceLen p0) = (some m1)) ∧
 ∃ (v2 : Value), ((Go.CW.subSlice p0 2 none (some (.int .i64 ((m0 : Nat) : Int))) (some (.int .i64 ((m1 : Nat) : Int)))) = (some v2)) ∧
 R v2 w

theorem slices_Clip__2_104_wp (p0 : Value) (w : World) (R : KV) (h : slices_Clip__2_104_F p0 w R) : Go.CW.Spec Tryz.prog 104 #[p0] w R :=
  spec_of Tryz.func104 (by kernel_rfl) (show slices_Clip__2_104_F p0 w R = _ by kernel_rfl) h

/-- slices.Clip[[]uint32,uint32] -/
def slices_Clip_77_F (p0 : Value) (w : World) (R : KV) : Prop :=
 ∃ (m0 : Nat), ((Go.CW.sliceLen p0) = (some m0)) ∧
 ∃ (m1 : Nat), ((Go.CW.sliceLen p0) = (some m1)) ∧
 ∃ (v2 : Value), ((Go.CW.subSlice p0 1 none (some (.int .i64 ((m0 : Nat) : Int))) (some (.int .i64 ((m1 : Nat) : Int)))) = (some v2)) ∧
 R v2 w

theorem slices_Clip_77_wp (p0 : Value) (w : World) (R : KV) (h : slices_Clip_77_F p0 w R) : Go.CW.Spec Tryz.prog 77 #[p0] w R :=
  spec_of Tryz.func77 (by kernel_rfl) (show slices_Clip_77_F p0 w R = _ by kernel_rfl) h

/-- slices.Clone[[]int,int] -/
def slices_Clone_89_F (p0 : Value) (w : World) (R : KV) : Prop :=
 ∃ (b0 : Bool), ((Go.CW.isNilS p0) = (some b0)) ∧
 cond b0
 (R (.slice none 0 0) w)
 (bindW (World.alloc w (.cells #[] 3)) fun w1 =>
 ∃ (v2 : Value) (w3 : World), ((Sem.run @Go.Proofs.Tryz.prog (Go.Builtin.append_ #[64, 64] 64 #[(.slice (some ⟨w.heap.size, 0, none⟩) 0 0), p0]) w1) = (.ok v2 w3)) ∧
 R v2 w3)

theorem slices_Clone_89_wp (p0 : Value) (w : World) (R : KV) (h : slices_Clone_89_F p0 w R) : Go.CW.Spec Tryz.prog 89 #[p0] w R :=
  spec_of Tryz.func89 (by kernel_rfl) (show slices_Clone_89_F p0 w R = _ by kernel_rfl) h

/-- gemel/sense.laid -/
def sense_laid_F (p0 : Value) (w : World) (R : KV) : Prop :=
 bindW (World.alloc w (.cells (Value.cells p0) 23)) fun w0 =>
 R (.func (.func 127) #[] #[(.pointer (some ⟨w.heap.size, 0, none⟩))]) w0

theorem sense_laid_wp (p0 : Value) (w : World) (R : KV) (h : sense_laid_F p0 w R) : Go.CW.Spec Tryz.prog 90 #[p0] w R :=
  spec_of Tryz.func90 (by kernel_rfl) (show sense_laid_F p0 w R = _ by kernel_rfl) h

/-- gemel/sense.Inquiry -/
def sense_Inquiry_F  (w : World) (R : KV) : Prop :=
 ∃ (v0 : Value) (w1 : World), ((Sem.run @Go.Proofs.Tryz.prog (Go.Instr.makeSlice 23 (.int .i64 (36 : Int)) (.int .i64 (36 : Int))) w) = (.ok v0 w1)) ∧
 Go.CW.Spec Tryz.prog 90 #[v0] w1 fun v2 w3 =>
 bindW (World.alloc w3 (.cells #[(.int .u8 (5 : Int)), (.int .u8 (2 : Int)), (.int .u8 (31 : Int))] 5)) fun w4 =>
 Go.CW.callU Tryz.prog v2 #[(.int .i64 (2 : Int)), (.slice (some ⟨w3.heap.size, 0, none⟩) 3 3)] w4 fun v5 w6 =>
 ((v5 : Value) = (.tuple #[])) ∧
 bindW (World.alloc w6 (.cells #[(.int .u8 (71 : Int)), (.int .u8 (69 : Int)), (.int .u8 (77 : Int)), (.int .u8 (69 : Int)), (.int .u8 (76 : Int)), (.int .u8 (32 : Int)), (.int .u8 (32 : Int)), (.int .u8 (32 : Int)), (.int .u8 (84 : Int)), (.int .u8 (87 : Int)), (.int .u8 (73 : Int)), (.int .u8 (78 : Int)), (.int .u8 (32 : Int)), (.int .u8 (68 : Int)), (.int .u8 (73 : Int)), (.int .u8 (83 : Int)), (.int .u8 (75 : Int)), (.int .u8 (32 : Int)), (.int .u8 (32 : Int)), (.int .u8 (32 : Int)), (.int .u8 (32 : Int)), (.int .u8 (32 : Int)), (.int .u8 (32 : Int)), (.int .u8 (32 : Int)), (.int .u8 (48 : Int)), (.int .u8 (48 : Int)), (.int .u8 (48 : Int)), (.int .u8 (49 : Int))] 5)) fun w7 =>
 ∃ (v8 : Value) (w9 : World), ((Sem.run @Go.Proofs.Tryz.prog (Go.convert 23 23 (.slice (some ⟨w6.heap.size, 0, none⟩) 28 28)) w7) = (.ok v8 w9)) ∧
 Go.CW.callU Tryz.prog v2 #[(.int .i64 (8 : Int)), v8] w9 fun v10 w11 =>
 ((v10 : Value) = (.tuple #[])) ∧
 R v0 w11

theorem sense_Inquiry_wp  (w : World) (R : KV) (h : sense_Inquiry_F  w R) : Go.CW.Spec Tryz.prog 92 #[] w R :=
  spec_of Tryz.func92 (by kernel_rfl) (show sense_Inquiry_F  w R = _ by kernel_rfl) h

/-- gemel/sense.Capacity -/
def sense_Capacity_F (p0 : Int) (w : World) (R : KV) : Prop :=
 Go.CW.Spec Tryz.prog 58 #[(.slice none 0 0), (.int .u64 (IntKind.wrap .u64 (IntKind.wrap .i64 ((if p0 < (1 : Int) then (1 : Int) else p0) - (1 : Int))))), (.int .i64 (4 : Int))] w fun v0 w1 =>
 Go.CW.Spec Tryz.prog 58 #[v0, (.int .u64 (8 : Int)), (.int .i64 (4 : Int))] w1 fun v2 w3 =>
 R v2 w3

theorem sense_Capacity_wp (p0 : Int) (w : World) (R : KV) (h : sense_Capacity_F p0 w R) : Go.CW.Spec Tryz.prog 93 #[(.int .i64 p0)] w R :=
  spec_of Tryz.func93 (by kernel_rfl) (show sense_Capacity_F p0 w R = _ by kernel_rfl) h

end Go.Proofs.YtnclgknfccliiaaGreatDoor
