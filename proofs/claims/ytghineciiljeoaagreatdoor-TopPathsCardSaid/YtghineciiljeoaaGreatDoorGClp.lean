/- The formulas of some functions, printed by a program (wip/cw/CwGen). -/
import Derived.Test.YtghineciiljeoaaGreatDoorNam
set_option linter.unusedVariables false
set_option maxRecDepth 100000
namespace Go.Proofs.YtghineciiljeoaaGreatDoor
open Go Go.CW

/-- slices.Clip[[][2]int,[2]int] -/
def slices_Clip__2_262_F (p0 : Value) (w : World) (R : KV) : Prop :=
 ∃ (m0 : Nat), ((Go.CW.sliceLen p0) = (some m0)) ∧
 ∃ (m1 : Nat), ((Go.CW.sliceLen p0) = (some m1)) ∧
 ∃ (v2 : Value), ((Go.CW.subSlice p0 2 none (some (.int .i64 ((m0 : Nat) : Int))) (some (.int .i64 ((m1 : Nat) : Int)))) = (some v2)) ∧
 R v2 w

theorem slices_Clip__2_262_wp (p0 : Value) (w : World) (R : KV) (h : slices_Clip__2_262_F p0 w R) : Go.CW.Spec Tryz.prog 262 #[p0] w R :=
  spec_of Tryz.func262 (by kernel_rfl) (show slices_Clip__2_262_F p0 w R = _ by kernel_rfl) h

/-- gemel/sense.laid -/
def sense_laid_F (p0 : Value) (w : World) (R : KV) : Prop :=
 bindW (World.alloc w (.cells (Value.cells p0) 34)) fun w0 =>
 R (.func (.func 234) #[] #[(.pointer (some ⟨w.heap.size, 0, none⟩))]) w0

theorem sense_laid_wp (p0 : Value) (w : World) (R : KV) (h : sense_laid_F p0 w R) : Go.CW.Spec Tryz.prog 158 #[p0] w R :=
  spec_of Tryz.func158 (by kernel_rfl) (show sense_laid_F p0 w R = _ by kernel_rfl) h

/-- gemel/sense.Inquiry -/
def sense_Inquiry_F  (w : World) (R : KV) : Prop :=
 ∃ (v0 : Value) (w1 : World), ((Sem.run @Go.Proofs.Tryz.prog (Go.Instr.makeSlice 34 (.int .i64 (36 : Int)) (.int .i64 (36 : Int))) w) = (.ok v0 w1)) ∧
 Go.CW.Spec Tryz.prog 158 #[v0] w1 fun v2 w3 =>
 bindW (World.alloc w3 (.cells #[(.int .u8 (5 : Int)), (.int .u8 (2 : Int)), (.int .u8 (31 : Int))] 5)) fun w4 =>
 Go.CW.callU Tryz.prog v2 #[(.int .i64 (2 : Int)), (.slice (some ⟨w3.heap.size, 0, none⟩) 3 3)] w4 fun v5 w6 =>
 ((v5 : Value) = (.tuple #[])) ∧
 bindW (World.alloc w6 (.cells #[(.int .u8 (71 : Int)), (.int .u8 (69 : Int)), (.int .u8 (77 : Int)), (.int .u8 (69 : Int)), (.int .u8 (76 : Int)), (.int .u8 (32 : Int)), (.int .u8 (32 : Int)), (.int .u8 (32 : Int)), (.int .u8 (84 : Int)), (.int .u8 (87 : Int)), (.int .u8 (73 : Int)), (.int .u8 (78 : Int)), (.int .u8 (32 : Int)), (.int .u8 (68 : Int)), (.int .u8 (73 : Int)), (.int .u8 (83 : Int)), (.int .u8 (75 : Int)), (.int .u8 (32 : Int)), (.int .u8 (32 : Int)), (.int .u8 (32 : Int)), (.int .u8 (32 : Int)), (.int .u8 (32 : Int)), (.int .u8 (32 : Int)), (.int .u8 (32 : Int)), (.int .u8 (48 : Int)), (.int .u8 (48 : Int)), (.int .u8 (48 : Int)), (.int .u8 (49 : Int))] 5)) fun w7 =>
 ∃ (v8 : Value) (w9 : World), ((Sem.run @Go.Proofs.Tryz.prog (Go.convert 34 34 (.slice (some ⟨w6.heap.size, 0, none⟩) 28 28)) w7) = (.ok v8 w9)) ∧
 Go.CW.callU Tryz.prog v2 #[(.int .i64 (8 : Int)), v8] w9 fun v10 w11 =>
 ((v10 : Value) = (.tuple #[])) ∧
 R v0 w11

theorem sense_Inquiry_wp  (w : World) (R : KV) (h : sense_Inquiry_F  w R) : Go.CW.Spec Tryz.prog 161 #[] w R :=
  spec_of Tryz.func161 (by kernel_rfl) (show sense_Inquiry_F  w R = _ by kernel_rfl) h

/-- gemel/sense.Capacity -/
def sense_Capacity_F (p0 : Int) (w : World) (R : KV) : Prop :=
 Go.CW.Spec Tryz.prog 120 #[(.slice none 0 0), (.int .u64 (IntKind.wrap .u64 (IntKind.wrap .i64 ((if p0 < (1 : Int) then (1 : Int) else p0) - (1 : Int))))), (.int .i64 (4 : Int))] w fun v0 w1 =>
 Go.CW.Spec Tryz.prog 120 #[v0, (.int .u64 (8 : Int)), (.int .i64 (4 : Int))] w1 fun v2 w3 =>
 R v2 w3

theorem sense_Capacity_wp (p0 : Int) (w : World) (R : KV) (h : sense_Capacity_F p0 w R) : Go.CW.Spec Tryz.prog 162 #[(.int .i64 p0)] w R :=
  spec_of Tryz.func162 (by kernel_rfl) (show sense_Capacity_F p0 w R = _ by kernel_rfl) h

end Go.Proofs.YtghineciiljeoaaGreatDoor
