/- The formulas of some functions, printed by a program (wip/cw/CwGen). -/
import Derived.Test.YtnclgknfccliiaaGreatDoorNam
set_option linter.unusedVariables false
set_option maxRecDepth 100000
namespace Go.Proofs.YtnclgknfccliiaaGreatDoor
open Go Go.CW

/-- gemel/task.New -/
def task_New_F (p0 : Int) (w : World) (R : KV) : Prop :=
 JoinP [.bool]
 (fun (b0 : Bool) => fun (w1 : World) =>
 cond b0
 (R (.tuple #[(.pointer none), (.int .i64 (1 : Int))]) w1)
 (bindW (World.alloc w1 (.cells #[(.int .i64 p0), (.slice none 0 0)] 128)) fun w2 =>
 R (.tuple #[(.pointer (some ⟨w1.heap.size, 0, none⟩)), (.int .i64 (0 : Int))]) w2))
 (fun j3 =>
 cond (decide (p0 < (1 : Int)))
 (j3 true w)
 (j3 (decide (p0 > (256 : Int))) w))

theorem task_New_wp (p0 : Int) (w : World) (R : KV) (h : task_New_F p0 w R) : Go.CW.Spec Tryz.prog 34 #[(.int .i64 p0)] w R :=
  spec_of Tryz.func34 (by kernel_rfl) (show task_New_F p0 w R = _ by kernel_rfl) h

/-- (*gemel/task.Set).Put -/
def task_Set_Put_m_F (p0 : Option Addr) (p1 : Int) (p2 : Int) (w : World) (R : KV) : Prop :=
 JoinP [.bool]
 (fun (b0 : Bool) => fun (w1 : World) =>
 cond b0
 (R (.int .i64 (1 : Int)) w1)
 (bindW (World.drew w1) fun w2 =>
 withAddr (.pointer p0) fun a3 =>
 ∃ (v4 : Value), ((Go.World.cell? w2 (Addr.add a3 1)) = (some v4)) ∧
 ∃ (m5 : Nat), ((Go.CW.sliceLen v4) = (some m5)) ∧
 withAddr (.pointer p0) fun a6 =>
 ∃ (n7 : Int), ((Go.World.cell? w2 (Addr.add a6 0)) = (some (.int .i64 n7))) ∧
 bindW (World.drew w1) fun w8 =>
 cond (decide (((m5 : Nat) : Int) ≥ n7))
 (R (.int .i64 (7 : Int)) w8)
 (withAddr (.pointer p0) fun a9 =>
 ∃ (v10 : Value), ((Go.World.cell? w8 (Addr.add a9 1)) = (some v10)) ∧
 ∃ (m11 : Nat), ((Go.CW.sliceLen v10) = (some m11)) ∧
 JoinP [.int .i64]
 (fun (n12 : Int) => fun (w13 : World) =>
 withAddr (.pointer p0) fun a14 =>
 ∃ (v15 : Value), ((Go.World.cell? w13 (Addr.add a14 1)) = (some v15)) ∧
 bindW (World.alloc w13 (.cells #[(.int .u32 p1), (.int .i64 p2), (.bool false)] 132)) fun w16 =>
 Go.CW.Spec Tryz.prog 75 #[v15, (.int .i64 n12), (.slice (some ⟨w13.heap.size, 0, none⟩) 1 1)] w16 fun v17 w18 =>
 withAddr (.pointer p0) fun a19 =>
 oneK v17 ((St1 w18 (Addr.add a19 1)) ∧
 bindW (World.setCell w18 (Addr.add a19 1) v17) fun w20 =>
 R (.int .i64 (0 : Int)) w20))
 (fun j21 =>
 cond (p2 == (2 : Int))
 (withAddr (.pointer p0) fun a22 =>
 ∃ (v23 : Value), ((Go.World.cell? w8 (Addr.add a22 1)) = (some v23)) ∧
 Go.CW.Spec Tryz.prog 73 #[v23, (.func (.func 74) #[] #[])] w8 fun v24 w25 =>
 ∃ (n26 : Int), ((v24 : Value) = (.int .i64 n26)) ∧
 cond (decide (n26 ≥ (0 : Int)))
 (j21 n26 w25)
 (j21 ((m11 : Nat) : Int) w25))
 (j21 ((m11 : Nat) : Int) w8)))))
 (fun j27 =>
 cond (decide (p2 < (0 : Int)))
 (j27 true w)
 (cond (decide (p2 > (2 : Int)))
 (j27 true w)
 (Go.CW.Spec Tryz.prog 72 #[(.pointer p0), (.int .u32 p1)] w fun v28 w29 =>
 ∃ (n30 : Int), ((v28 : Value) = (.int .i64 n30)) ∧
 j27 (decide (n30 ≥ (0 : Int))) w29)))

theorem task_Set_Put_m_wp (p0 : Option Addr) (p1 : Int) (p2 : Int) (w : World) (R : KV) (h : task_Set_Put_m_F p0 p1 p2 w R) : Go.CW.Spec Tryz.prog 35 #[(.pointer p0), (.int .u32 p1), (.int .i64 p2)] w R :=
  spec_of Tryz.func35 (by kernel_rfl) (show task_Set_Put_m_F p0 p1 p2 w R = _ by kernel_rfl) h

/-- (*gemel/task.Set).Len -/
def task_Set_Len_m_F (p0 : Option Addr) (w : World) (R : KV) : Prop :=
 withAddr (.pointer p0) fun a0 =>
 ∃ (v1 : Value), ((Go.World.cell? w (Addr.add a0 1)) = (some v1)) ∧
 ∃ (m2 : Nat), ((Go.CW.sliceLen v1) = (some m2)) ∧
 R (.int .i64 ((m2 : Nat) : Int)) w

theorem task_Set_Len_m_wp (p0 : Option Addr) (w : World) (R : KV) (h : task_Set_Len_m_F p0 w R) : Go.CW.Spec Tryz.prog 36 #[(.pointer p0)] w R :=
  spec_of Tryz.func36 (by kernel_rfl) (show task_Set_Len_m_F p0 w R = _ by kernel_rfl) h

/-- (*gemel/task.Set).Enabled -/
def task_Set_Enabled_m_F (p0 : Option Addr) (w : World) (R : KV) : Prop :=
 withAddr (.pointer p0) fun a0 =>
 ∃ (v1 : Value), ((Go.World.cell? w (Addr.add a0 1)) = (some v1)) ∧
 ∃ (m2 : Nat), ((Go.CW.sliceLen v1) = (some m2)) ∧
 LoopP [.val, .int .i64]
 (fun j3 => fun (v4 : Value) => fun (n5 : Int) => fun (w6 : World) =>
 cond (decide (n5 < ((m2 : Nat) : Int)))
 (JoinP [.val]
 (fun (v7 : Value) => fun (w8 : World) =>
 j3 v7 (IntKind.wrap .i64 (n5 + (1 : Int))) w8)
 (fun j9 =>
 ∃ (a10 : Addr), ((Go.CW.sliceAt v1 n5 3) = (some a10)) ∧
 ∃ (n11 : Int) (n12 : Int) (b13 : Bool), (ldCells w6 a10 3 #[(.int .u32 n11), (.int .i64 n12), (.bool b13)]) ∧
 bindW (World.alloc w6 (.cells #[(.int .u32 (0 : Int)), (.int .i64 (0 : Int)), (.bool false)] 132)) fun w14 =>
 (StRow w14 ⟨w6.heap.size, 0, none⟩ #[(.int .u32 n11), (.int .i64 n12), (.bool b13)]) ∧
 bindW (stRow w14 ⟨w6.heap.size, 0, none⟩ #[(.int .u32 n11), (.int .i64 n12), (.bool b13)]) fun w15 =>
 Go.CW.Spec Tryz.prog 76 #[(.pointer p0), (.int .i64 n5)] w15 fun v16 w17 =>
 ∃ (b18 : Bool), ((v16 : Value) = (.bool b18)) ∧
 cond (!b18)
 (j9 v4 w17)
 (∃ (n19 : Int), ((Go.World.cell? w17 (Addr.add ⟨w6.heap.size, 0, none⟩ 0)) = (some (.int .u32 n19))) ∧
 bindW (World.alloc w17 (.cells #[(.int .u32 n19)] 66)) fun w20 =>
 ∃ (v21 : Value) (w22 : World), ((Sem.run @Go.Proofs.Tryz.prog (Go.Builtin.append_ #[81, 81] 81 #[v4, (.slice (some ⟨w17.heap.size, 0, none⟩) 1 1)]) w20) = (.ok v21 w22)) ∧
 j9 v21 w22)))
 (Go.CW.Spec Tryz.prog 77 #[v4] w6 fun v23 w24 =>
 R v23 w24))
 (fun s25 => s25 (.slice none 0 0) (0 : Int) w)

theorem task_Set_Enabled_m_wp (p0 : Option Addr) (w : World) (R : KV) (h : task_Set_Enabled_m_F p0 w R) : Go.CW.Spec Tryz.prog 37 #[(.pointer p0)] w R :=
  spec_of Tryz.func37 (by kernel_rfl) (show task_Set_Enabled_m_F p0 w R = _ by kernel_rfl) h

/-- (*gemel/task.Set).Start -/
def task_Set_Start_m_F (p0 : Option Addr) (p1 : Int) (w : World) (R : KV) : Prop :=
 Go.CW.Spec Tryz.prog 72 #[(.pointer p0), (.int .u32 p1)] w fun v0 w1 =>
 ∃ (n2 : Int), ((v0 : Value) = (.int .i64 n2)) ∧
 cond (decide (n2 < (0 : Int)))
 (R (.int .i64 (6 : Int)) w1)
 (Go.CW.Spec Tryz.prog 76 #[(.pointer p0), (.int .i64 n2)] w1 fun v3 w4 =>
 ∃ (b5 : Bool), ((v3 : Value) = (.bool b5)) ∧
 cond (!b5)
 (R (.int .i64 (1 : Int)) w4)
 (withAddr (.pointer p0) fun a6 =>
 ∃ (v7 : Value), ((Go.World.cell? w4 (Addr.add a6 1)) = (some v7)) ∧
 ∃ (a8 : Addr), ((Go.CW.sliceAt v7 n2 3) = (some a8)) ∧
 (St1 w4 (Addr.add a8 2)) ∧
 bindW (World.setCell w4 (Addr.add a8 2) (.bool true)) fun w9 =>
 R (.int .i64 (0 : Int)) w9))

theorem task_Set_Start_m_wp (p0 : Option Addr) (p1 : Int) (w : World) (R : KV) (h : task_Set_Start_m_F p0 p1 w R) : Go.CW.Spec Tryz.prog 38 #[(.pointer p0), (.int .u32 p1)] w R :=
  spec_of Tryz.func38 (by kernel_rfl) (show task_Set_Start_m_F p0 p1 w R = _ by kernel_rfl) h

/-- (*gemel/task.Set).Done -/
def task_Set_Done_m_F (p0 : Option Addr) (p1 : Int) (w : World) (R : KV) : Prop :=
 Go.CW.Spec Tryz.prog 72 #[(.pointer p0), (.int .u32 p1)] w fun v0 w1 =>
 ∃ (n2 : Int), ((v0 : Value) = (.int .i64 n2)) ∧
 cond (decide (n2 < (0 : Int)))
 (R (.int .i64 (6 : Int)) w1)
 (withAddr (.pointer p0) fun a3 =>
 ∃ (v4 : Value), ((Go.World.cell? w1 (Addr.add a3 1)) = (some v4)) ∧
 ∃ (a5 : Addr), ((Go.CW.sliceAt v4 n2 3) = (some a5)) ∧
 ∃ (b6 : Bool), ((Go.World.cell? w1 (Addr.add a5 2)) = (some (.bool b6))) ∧
 cond (!b6)
 (R (.int .i64 (1 : Int)) w1)
 (withAddr (.pointer p0) fun a7 =>
 ∃ (v8 : Value), ((Go.World.cell? w1 (Addr.add a7 1)) = (some v8)) ∧
 Go.CW.Spec Tryz.prog 78 #[v8, (.int .i64 n2), (.int .i64 (IntKind.wrap .i64 (n2 + (1 : Int))))] w1 fun v9 w10 =>
 withAddr (.pointer p0) fun a11 =>
 oneK v9 ((St1 w10 (Addr.add a11 1)) ∧
 bindW (World.setCell w10 (Addr.add a11 1) v9) fun w12 =>
 R (.int .i64 (0 : Int)) w12)))

theorem task_Set_Done_m_wp (p0 : Option Addr) (p1 : Int) (w : World) (R : KV) (h : task_Set_Done_m_F p0 p1 w R) : Go.CW.Spec Tryz.prog 40 #[(.pointer p0), (.int .u32 p1)] w R :=
  spec_of Tryz.func40 (by kernel_rfl) (show task_Set_Done_m_F p0 p1 w R = _ by kernel_rfl) h

/-- (*gemel/task.Set).find -/
def task_Set_find_m_F (p0 : Option Addr) (p1 : Int) (w : World) (R : KV) : Prop :=
 bindW (World.alloc w (.cells #[(.int .u32 p1)] 66)) fun w0 =>
 withAddr (.pointer p0) fun a1 =>
 ∃ (v2 : Value), ((Go.World.cell? w0 (Addr.add a1 1)) = (some v2)) ∧
 Go.CW.Spec Tryz.prog 73 #[v2, (.func (.func 107) #[] #[(.pointer (some ⟨w.heap.size, 0, none⟩))])] w0 fun v3 w4 =>
 ∃ (n5 : Int), ((v3 : Value) = (.int .i64 n5)) ∧
 R (.int .i64 n5) w4

theorem task_Set_find_m_wp (p0 : Option Addr) (p1 : Int) (w : World) (R : KV) (h : task_Set_find_m_F p0 p1 w R) : Go.CW.Spec Tryz.prog 72 #[(.pointer p0), (.int .u32 p1)] w R :=
  spec_of Tryz.func72 (by kernel_rfl) (show task_Set_find_m_F p0 p1 w R = _ by kernel_rfl) h

/-- slices.IndexFunc[[]gemel/task.task,gemel/task.task] -/
def slices_IndexFunc_73_F (p0 : Value) (p1 : Value) (w : World) (R : KV) : Prop :=
 ∃ (m0 : Nat), ((Go.CW.sliceLen p0) = (some m0)) ∧
 LoopP [.int .i64]
 (fun j1 => fun (n2 : Int) => fun (w3 : World) =>
 cond (decide (n2 < ((m0 : Nat) : Int)))
 (∃ (a4 : Addr), ((Go.CW.sliceAt p0 n2 3) = (some a4)) ∧
 ∃ (n5 : Int) (n6 : Int) (b7 : Bool), (ldCells w3 a4 3 #[(.int .u32 n5), (.int .i64 n6), (.bool b7)]) ∧
 Go.CW.callU Tryz.prog p1 #[(.agg #[(.int .u32 n5), (.int .i64 n6), (.bool b7)])] w3 fun v8 w9 =>
 ∃ (b10 : Bool), ((v8 : Value) = (.bool b10)) ∧
 cond b10
 (R (.int .i64 n2) w9)
 (j1 (IntKind.wrap .i64 (n2 + (1 : Int))) w9))
 (R (.int .i64 (-1 : Int)) w3))
 (fun s11 => s11 (0 : Int) w)

theorem slices_IndexFunc_73_wp (p0 : Value) (p1 : Value) (w : World) (R : KV) (h : slices_IndexFunc_73_F p0 p1 w R) : Go.CW.Spec Tryz.prog 73 #[p0, p1] w R :=
  spec_of Tryz.func73 (by kernel_rfl) (show slices_IndexFunc_73_F p0 p1 w R = _ by kernel_rfl) h

/-- (*gemel/task.Set).Put$1 -/
def task_Set_Put_1_m_F (p0_0 : Int) (p0_1 : Int) (p0_2 : Bool) (w : World) (R : KV) : Prop :=
 bindW (World.alloc w (.cells #[(.int .u32 p0_0), (.int .i64 p0_1), (.bool p0_2)] 132)) fun w0 =>
 ∃ (b1 : Bool), ((Go.World.cell? w0 (Addr.add ⟨w.heap.size, 0, none⟩ 2)) = (some (.bool b1))) ∧
 R (.bool (!b1)) w0

theorem task_Set_Put_1_m_wp (p0_0 : Int) (p0_1 : Int) (p0_2 : Bool) (w : World) (R : KV) (h : task_Set_Put_1_m_F p0_0 p0_1 p0_2 w R) : Go.CW.Spec Tryz.prog 74 #[(.agg #[(.int .u32 p0_0), (.int .i64 p0_1), (.bool p0_2)])] w R :=
  spec_of Tryz.func74 (by kernel_rfl) (show task_Set_Put_1_m_F p0_0 p0_1 p0_2 w R = _ by kernel_rfl) h

/-- slices.Insert[[]gemel/task.task,gemel/task.task] -/
def slices_Insert_75_F (p0 : Value) (p1 : Int) (p2 : Value) (w : World) (R : KV) : Prop :=
 ∃ (v0 : Value), ((Go.CW.subSlice p0 3 (some (.int .i64 p1)) none none) = (some v0)) ∧
 ∃ (m1 : Nat), ((Go.CW.sliceLen p2) = (some m1)) ∧
 cond (((m1 : Nat) : Int) == (0 : Int))
 (R p0 w)
 (∃ (m2 : Nat), ((Go.CW.sliceLen p0) = (some m2)) ∧
 cond (p1 == ((m2 : Nat) : Int))
 (∃ (v3 : Value) (w4 : World), ((Sem.run @Go.Proofs.Tryz.prog (Go.Builtin.append_ #[126, 126] 126 #[p0, p2]) w) = (.ok v3 w4)) ∧
 R v3 w4)
 (∃ (n5 : Int), ((Sem.run @Go.Proofs.Tryz.prog (Go.Builtin.cap_ #[126] 3 #[p0]) w) = (.ok (.int .i64 n5) w)) ∧
 cond (decide ((IntKind.wrap .i64 (((m2 : Nat) : Int) + ((m1 : Nat) : Int))) > n5))
 (∃ (v6 : Value), ((Go.CW.subSlice p0 3 none (some (.int .i64 p1)) none) = (some v6)) ∧
 ∃ (v7 : Value) (w8 : World), ((Sem.run @Go.Proofs.Tryz.prog (Go.Builtin.append_ #[126, 3] 126 #[v6, (.int .i64 (IntKind.wrap .i64 ((IntKind.wrap .i64 (((m2 : Nat) : Int) + ((m1 : Nat) : Int))) - p1)))]) w) = (.ok v7 w8)) ∧
 ∃ (v9 : Value), ((Go.CW.subSlice v7 3 (some (.int .i64 p1)) none none) = (some v9)) ∧
 ∃ (n10 : Int) (w11 : World), ((Sem.run @Go.Proofs.Tryz.prog (Go.Builtin.copy_ #[126, 126] 3 #[v9, p2]) w8) = (.ok (.int .i64 n10) w11)) ∧
 bindW (World.drew w11) fun w12 =>
 ∃ (v13 : Value), ((Go.CW.subSlice v7 3 (some (.int .i64 (IntKind.wrap .i64 (p1 + ((m1 : Nat) : Int))))) none none) = (some v13)) ∧
 ∃ (v14 : Value), ((Go.CW.subSlice p0 3 (some (.int .i64 p1)) none none) = (some v14)) ∧
 bindW (World.drew w11) fun w15 =>
 ∃ (n16 : Int) (w17 : World), ((Sem.run @Go.Proofs.Tryz.prog (Go.Builtin.copy_ #[126, 126] 3 #[v13, v14]) w15) = (.ok (.int .i64 n16) w17)) ∧
 R v7 w17)
 (∃ (v18 : Value), ((Go.CW.subSlice p0 3 none (some (.int .i64 (IntKind.wrap .i64 (((m2 : Nat) : Int) + ((m1 : Nat) : Int))))) none) = (some v18)) ∧
 ∃ (v19 : Value), ((Go.CW.subSlice v18 3 (some (.int .i64 (IntKind.wrap .i64 (p1 + ((m1 : Nat) : Int))))) none none) = (some v19)) ∧
 False)))

theorem slices_Insert_75_wp (p0 : Value) (p1 : Int) (p2 : Value) (w : World) (R : KV) (h : slices_Insert_75_F p0 p1 p2 w R) : Go.CW.Spec Tryz.prog 75 #[p0, (.int .i64 p1), p2] w R :=
  spec_of Tryz.func75 (by kernel_rfl) (show slices_Insert_75_F p0 p1 p2 w R = _ by kernel_rfl) h

/-- (*gemel/task.Set).enabled -/
def task_Set_enabled_m_F (p0 : Option Addr) (p1 : Int) (w : World) (R : KV) : Prop :=
 withAddr (.pointer p0) fun a0 =>
 ∃ (v1 : Value), ((Go.World.cell? w (Addr.add a0 1)) = (some v1)) ∧
 ∃ (a2 : Addr), ((Go.CW.sliceAt v1 p1 3) = (some a2)) ∧
 ∃ (n3 : Int) (n4 : Int) (b5 : Bool), (ldCells w a2 3 #[(.int .u32 n3), (.int .i64 n4), (.bool b5)]) ∧
 bindW (World.alloc w (.cells #[(.int .u32 (0 : Int)), (.int .i64 (0 : Int)), (.bool false)] 132)) fun w6 =>
 (StRow w6 ⟨w.heap.size, 0, none⟩ #[(.int .u32 n3), (.int .i64 n4), (.bool b5)]) ∧
 bindW (stRow w6 ⟨w.heap.size, 0, none⟩ #[(.int .u32 n3), (.int .i64 n4), (.bool b5)]) fun w7 =>
 ∃ (b8 : Bool), ((Go.World.cell? w7 (Addr.add ⟨w.heap.size, 0, none⟩ 2)) = (some (.bool b8))) ∧
 cond b8
 (R (.bool false) w7)
 (∃ (n9 : Int), ((Go.World.cell? w7 (Addr.add ⟨w.heap.size, 0, none⟩ 1)) = (some (.int .i64 n9))) ∧
 cond (n9 == (2 : Int))
 (R (.bool true) w7)
 (∃ (n10 : Int), ((Go.World.cell? w7 (Addr.add ⟨w.heap.size, 0, none⟩ 1)) = (some (.int .i64 n10))) ∧
 cond (n10 == (1 : Int))
 (R (.bool (p1 == (0 : Int))) w7)
 (withAddr (.pointer p0) fun a11 =>
 ∃ (v12 : Value), ((Go.World.cell? w7 (Addr.add a11 1)) = (some v12)) ∧
 ∃ (v13 : Value), ((Go.CW.subSlice v12 3 none (some (.int .i64 p1)) none) = (some v13)) ∧
 Go.CW.Spec Tryz.prog 110 #[v13, (.func (.func 111) #[] #[])] w7 fun v14 w15 =>
 ∃ (b16 : Bool), ((v14 : Value) = (.bool b16)) ∧
 R (.bool (!b16)) w15)))

theorem task_Set_enabled_m_wp (p0 : Option Addr) (p1 : Int) (w : World) (R : KV) (h : task_Set_enabled_m_F p0 p1 w R) : Go.CW.Spec Tryz.prog 76 #[(.pointer p0), (.int .i64 p1)] w R :=
  spec_of Tryz.func76 (by kernel_rfl) (show task_Set_enabled_m_F p0 p1 w R = _ by kernel_rfl) h

/-- slices.Delete[[]gemel/task.task,gemel/task.task] -/
def slices_Delete_78_F (p0 : Value) (p1 : Int) (p2 : Int) (w : World) (R : KV) : Prop :=
 ∃ (m0 : Nat), ((Go.CW.sliceLen p0) = (some m0)) ∧
 ∃ (v1 : Value), ((Go.CW.subSlice p0 3 (some (.int .i64 p1)) (some (.int .i64 p2)) (some (.int .i64 ((m0 : Nat) : Int)))) = (some v1)) ∧
 cond (p1 == p2)
 (R p0 w)
 (∃ (m2 : Nat), ((Go.CW.sliceLen p0) = (some m2)) ∧
 bindW (World.drew w) fun w3 =>
 ∃ (v4 : Value), ((Go.CW.subSlice p0 3 none (some (.int .i64 p1)) none) = (some v4)) ∧
 ∃ (v5 : Value), ((Go.CW.subSlice p0 3 (some (.int .i64 p2)) none none) = (some v5)) ∧
 bindW (World.drew w) fun w6 =>
 ∃ (v7 : Value) (w8 : World), ((Sem.run @Go.Proofs.Tryz.prog (Go.Builtin.append_ #[126, 126] 126 #[v4, v5]) w6) = (.ok v7 w8)) ∧
 ∃ (m9 : Nat), ((Go.CW.sliceLen v7) = (some m9)) ∧
 ∃ (v10 : Value), ((Go.CW.subSlice v7 3 (some (.int .i64 ((m9 : Nat) : Int))) (some (.int .i64 ((m2 : Nat) : Int))) none) = (some v10)) ∧
 ∃ (v11 : Value) (w12 : World), ((Sem.run @Go.Proofs.Tryz.prog (Go.Builtin.clear_ #[126] 0 #[v10]) w8) = (.ok v11 w12)) ∧
 R v7 w12)

theorem slices_Delete_78_wp (p0 : Value) (p1 : Int) (p2 : Int) (w : World) (R : KV) (h : slices_Delete_78_F p0 p1 p2 w R) : Go.CW.Spec Tryz.prog 78 #[p0, (.int .i64 p1), (.int .i64 p2)] w R :=
  spec_of Tryz.func78 (by kernel_rfl) (show slices_Delete_78_F p0 p1 p2 w R = _ by kernel_rfl) h

/-- (*gemel/task.Set).find$1 -/
def task_Set_find_1_m_F (p0_0 : Int) (p0_1 : Int) (p0_2 : Bool) (p1 : Value) (w : World) (R : KV) : Prop :=
 bindW (World.alloc w (.cells #[(.int .u32 p0_0), (.int .i64 p0_1), (.bool p0_2)] 132)) fun w0 =>
 ∃ (n1 : Int), ((Go.World.cell? w0 (Addr.add ⟨w.heap.size, 0, none⟩ 0)) = (some (.int .u32 n1))) ∧
 withAddr p1 fun a2 =>
 ∃ (n3 : Int), ((Go.World.cell? w0 a2) = (some (.int .u32 n3))) ∧
 R (.bool (n1 == n3)) w0

theorem task_Set_find_1_m_wp (p0_0 : Int) (p0_1 : Int) (p0_2 : Bool) (p1 : Value) (w : World) (R : KV) (h : task_Set_find_1_m_F p0_0 p0_1 p0_2 p1 w R) : Go.CW.Spec Tryz.prog 107 #[(.agg #[(.int .u32 p0_0), (.int .i64 p0_1), (.bool p0_2)]), p1] w R :=
  spec_of Tryz.func107 (by kernel_rfl) (show task_Set_find_1_m_F p0_0 p0_1 p0_2 p1 w R = _ by kernel_rfl) h

/-- slices.ContainsFunc[[]gemel/task.task,gemel/task.task] -/
def slices_ContainsFunc_110_F (p0 : Value) (p1 : Value) (w : World) (R : KV) : Prop :=
 Go.CW.Spec Tryz.prog 73 #[p0, p1] w fun v0 w1 =>
 ∃ (n2 : Int), ((v0 : Value) = (.int .i64 n2)) ∧
 R (.bool (decide (n2 ≥ (0 : Int)))) w1

theorem slices_ContainsFunc_110_wp (p0 : Value) (p1 : Value) (w : World) (R : KV) (h : slices_ContainsFunc_110_F p0 p1 w R) : Go.CW.Spec Tryz.prog 110 #[p0, p1] w R :=
  spec_of Tryz.func110 (by kernel_rfl) (show slices_ContainsFunc_110_F p0 p1 w R = _ by kernel_rfl) h

/-- (*gemel/task.Set).enabled$1 -/
def task_Set_enabled_1_m_F (p0_0 : Int) (p0_1 : Int) (p0_2 : Bool) (w : World) (R : KV) : Prop :=
 bindW (World.alloc w (.cells #[(.int .u32 p0_0), (.int .i64 p0_1), (.bool p0_2)] 132)) fun w0 =>
 ∃ (n1 : Int), ((Go.World.cell? w0 (Addr.add ⟨w.heap.size, 0, none⟩ 1)) = (some (.int .i64 n1))) ∧
 R (.bool (n1 != (0 : Int))) w0

theorem task_Set_enabled_1_m_wp (p0_0 : Int) (p0_1 : Int) (p0_2 : Bool) (w : World) (R : KV) (h : task_Set_enabled_1_m_F p0_0 p0_1 p0_2 w R) : Go.CW.Spec Tryz.prog 111 #[(.agg #[(.int .u32 p0_0), (.int .i64 p0_1), (.bool p0_2)])] w R :=
  spec_of Tryz.func111 (by kernel_rfl) (show task_Set_enabled_1_m_F p0_0 p0_1 p0_2 w R = _ by kernel_rfl) h

end Go.Proofs.YtnclgknfccliiaaGreatDoor
