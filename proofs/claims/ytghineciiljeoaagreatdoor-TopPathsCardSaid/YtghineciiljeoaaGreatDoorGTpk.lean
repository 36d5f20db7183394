/- The formulas of some functions, printed by a program (wip/cw/CwGen). -/
import Derived.Test.YtghineciiljeoaaGreatDoorNam
set_option linter.unusedVariables false
set_option maxRecDepth 100000
namespace Go.Proofs.YtghineciiljeoaaGreatDoor
open Go Go.CW

/-- gemel/sense.Wrong -/
def sense_Wrong_F (p0 : Int) (p1 : Int) (w : World) (R : KV) : Prop :=
 bindW (World.alloc w (.cells #[(.int .i64 (0 : Int)), (.int .i64 (0 : Int)), (.int .i64 (0 : Int)), (.slice none 0 0), (.int .i64 (0 : Int))] 54)) fun w0 =>
 (StRow w0 ⟨w.heap.size, 0, none⟩ #[(.int .i64 (2 : Int)), (.int .i64 p0), (.int .i64 p1), (.slice none 0 0), (.int .i64 (0 : Int))]) ∧
 bindW (stRow w0 ⟨w.heap.size, 0, none⟩ #[(.int .i64 (2 : Int)), (.int .i64 p0), (.int .i64 p1), (.slice none 0 0), (.int .i64 (0 : Int))]) fun w1 =>
 ∃ (n2 : Int) (n3 : Int) (n4 : Int) (v5 : Value) (n6 : Int), (ldCells w1 ⟨w.heap.size, 0, none⟩ 5 #[(.int .i64 n2), (.int .i64 n3), (.int .i64 n4), v5, (.int .i64 n6)]) ∧
 R (.agg #[(.int .i64 n2), (.int .i64 n3), (.int .i64 n4), v5, (.int .i64 n6)]) w1

theorem sense_Wrong_wp (p0 : Int) (p1 : Int) (w : World) (R : KV) (h : sense_Wrong_F p0 p1 w R) : Go.CW.Spec Tryz.prog 78 #[(.int .i64 p0), (.int .i64 p1)] w R :=
  spec_of Tryz.func78 (by kernel_rfl) (show sense_Wrong_F p0 p1 w R = _ by kernel_rfl) h

/-- gemel/sense.Good -/
def sense_Good_F (p0 : Value) (w : World) (R : KV) : Prop :=
 bindW (World.alloc w (.cells #[(.int .i64 (0 : Int)), (.int .i64 (0 : Int)), (.int .i64 (0 : Int)), (.slice none 0 0), (.int .i64 (0 : Int))] 54)) fun w0 =>
 Go.CW.Spec Tryz.prog 85 #[p0] w0 fun v1 w2 =>
 Go.CW.Spec Tryz.prog 96 #[v1] w2 fun v3 w4 =>
 oneK v3 ((StRow w4 ⟨w.heap.size, 0, none⟩ #[(.int .i64 (0 : Int)), (.int .i64 (0 : Int)), (.int .i64 (0 : Int)), v3, (.int .i64 (0 : Int))]) ∧
 bindW (stRow w4 ⟨w.heap.size, 0, none⟩ #[(.int .i64 (0 : Int)), (.int .i64 (0 : Int)), (.int .i64 (0 : Int)), v3, (.int .i64 (0 : Int))]) fun w5 =>
 ∃ (n6 : Int) (n7 : Int) (n8 : Int) (v9 : Value) (n10 : Int), (ldCells w5 ⟨w.heap.size, 0, none⟩ 5 #[(.int .i64 n6), (.int .i64 n7), (.int .i64 n8), v9, (.int .i64 n10)]) ∧
 R (.agg #[(.int .i64 n6), (.int .i64 n7), (.int .i64 n8), v9, (.int .i64 n10)]) w5)

theorem sense_Good_wp (p0 : Value) (w : World) (R : KV) (h : sense_Good_F p0 w R) : Go.CW.Spec Tryz.prog 80 #[p0] w R :=
  spec_of Tryz.func80 (by kernel_rfl) (show sense_Good_F p0 w R = _ by kernel_rfl) h

end Go.Proofs.YtghineciiljeoaaGreatDoor
