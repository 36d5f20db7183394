/- The formulas of some functions, printed by a program (wip/cw/CwGen). -/
import Derived.Test.YtghineciiljeoaaGreatDoorFacts
set_option linter.unusedVariables false
set_option maxRecDepth 100000
namespace Go.Proofs.YtghineciiljeoaaGreatDoor
open Go Go.CW

/-- gemel/timer.New -/
def timer_New_F  (w : World) (R : KV) : Prop :=
 R (.pointer (some ⟨w.heap.size, 0, none⟩)) (World.alloc w (.cells #[(.slice none 0 0), (.int .i64 (0 : Int))] 176))

theorem timer_New_wp  (w : World) (R : KV) (h : timer_New_F  w R) : Go.CW.Spec Tryz.prog 24 #[] w R :=
  spec_of Tryz.func24 (by kernel_rfl) (show timer_New_F  w R = _ by kernel_rfl) h

/-- (*gemel/timer.Timers).Set -/
def timer_Timers_Set_m_F (p0 : Option Addr) (p1 : Int) (p2 : Int) (w : World) (R : KV) : Prop :=
 JoinP [.bool]
 (fun (b0 : Bool) => fun (w1 : World) =>
 cond b0
 (R (.int .i64 (1 : Int)) w1)
 (Go.CW.Spec Tryz.prog 87 #[(.pointer p0), (.int .i64 p1)] w1 fun v2 w3 =>
 ∃ n4 : Int, ((v2 : Value) = (.int .i64 n4)) ∧
 JoinP []
 (fun (w5 : World) =>
 withAddr (.pointer p0) fun a6 =>
 ∃ v7 : Value, ((Go.World.cell? (World.drew w5) (Addr.add a6 0)) = (some v7)) ∧
 withAddr (.pointer p0) fun a8 =>
 ∃ n9 : Int, ((Go.World.cell? (World.drew w5) (Addr.add a8 1)) = (some (.int .i64 n9))) ∧
 (∃ v10 : Value, ((Go.World.cell? (World.alloc (World.drew w5) (.cells #[(.int .i64 p1), (.int .i64 (IntKind.wrap .i64 (n9 + p2)))] 183)) (Addr.add a6 0)) = (some v10)) ∧
 (v10 : Value) = v7) ∧
 ∃ v11 : Value, ∃ w12 : World, ((Sem.run @Go.Proofs.Tryz.prog (Go.Builtin.append_ #[174, 174] 174 #[v7, (.slice (some ⟨(Array.size (World.heap (World.drew w5))), 0, none⟩) 1 1)]) (World.alloc (World.drew w5) (.cells #[(.int .i64 p1), (.int .i64 (IntKind.wrap .i64 (n9 + p2)))] 183))) = (.ok v11 w12)) ∧
 withAddr (.pointer p0) fun a13 =>
 oneK v11 ((St1 w12 (Addr.add a13 0)) ∧
 withAddr (.pointer p0) fun a14 =>
 ∃ v15 : Value, ((Go.World.cell? (World.setCell w12 (Addr.add a13 0) v11) (Addr.add a14 0)) = (some v15)) ∧
 ∃ m16 : Nat, ((Go.CW.sliceLen v15) = (some m16)) ∧
 Go.CW.Spec Tryz.prog 89 #[(.pointer p0), (.int .i64 (IntKind.wrap .i64 (((m16 : Nat) : Int) - (1 : Int))))] (World.setCell w12 (Addr.add a13 0) v11) fun v17 w18 =>
 ((v17 : Value) = (.tuple #[])) ∧
 R (.int .i64 (0 : Int)) w18))
 (fun j19 =>
 cond (decide (n4 ≥ (0 : Int)))
 (Go.CW.Spec Tryz.prog 88 #[(.pointer p0), (.int .i64 n4)] w3 fun v20 w21 =>
 ((v20 : Value) = (.tuple #[])) ∧
 j19 w21)
 (withAddr (.pointer p0) fun a22 =>
 ∃ v23 : Value, ((Go.World.cell? w3 (Addr.add a22 0)) = (some v23)) ∧
 ∃ m24 : Nat, ((Go.CW.sliceLen v23) = (some m24)) ∧
 cond (decide (((m24 : Nat) : Int) ≥ (256 : Int)))
 (R (.int .i64 (7 : Int)) w3)
 (j19 w3)))))
 (fun j25 =>
 cond (decide (p2 < (1 : Int)))
 (j25 true w)
 (j25 (decide (p2 > (1073741824 : Int))) w))

theorem timer_Timers_Set_m_wp (p0 : Option Addr) (p1 : Int) (p2 : Int) (w : World) (R : KV) (h : timer_Timers_Set_m_F p0 p1 p2 w R) : Go.CW.Spec Tryz.prog 26 #[(.pointer p0), (.int .i64 p1), (.int .i64 p2)] w R :=
  spec_of Tryz.func26 (by kernel_rfl) (show timer_Timers_Set_m_F p0 p1 p2 w R = _ by kernel_rfl) h

/-- (*gemel/timer.Timers).Tick -/
def timer_Timers_Tick_m_F (p0 : Option Addr) (w : World) (R : KV) : Prop :=
 withAddr (.pointer p0) fun a0 =>
 ∃ n1 : Int, ((Go.World.cell? w (Addr.add a0 1)) = (some (.int .i64 n1))) ∧
 withAddr (.pointer p0) fun a2 =>
 (St1 w (Addr.add a2 1)) ∧
 LoopP [.val]
 (fun j3 => fun (v4 : Value) => fun (w5 : World) =>
 JoinP [.bool]
 (fun (b6 : Bool) => fun (w7 : World) =>
 cond b6
 (withAddr (.pointer p0) fun a8 =>
 ∃ v9 : Value, ((Go.World.cell? w7 (Addr.add a8 0)) = (some v9)) ∧
 ∃ a10 : Addr, ((Go.CW.sliceAt v9 (0 : Int) 2) = (some a10)) ∧
 ∃ n11 : Int, ((Go.World.cell? w7 (Addr.add a10 0)) = (some (.int .i64 n11))) ∧
 ∃ v12 : Value, ∃ w13 : World, ((Sem.run @Go.Proofs.Tryz.prog (Go.Builtin.append_ #[79, 79] 79 #[v4, (.slice (some ⟨w7.heap.size, 0, none⟩) 1 1)]) (World.alloc w7 (.cells #[(.int .i64 n11)] 3))) = (.ok v12 w13)) ∧
 Go.CW.Spec Tryz.prog 88 #[(.pointer p0), (.int .i64 (0 : Int))] w13 fun v14 w15 =>
 ((v14 : Value) = (.tuple #[])) ∧
 j3 v12 w15)
 (Go.CW.Spec Tryz.prog 99 #[v4] w7 fun v16 w17 =>
 R v16 w17))
 (fun j18 =>
 withAddr (.pointer p0) fun a19 =>
 ∃ v20 : Value, ((Go.World.cell? (World.drew w5) (Addr.add a19 0)) = (some v20)) ∧
 ∃ m21 : Nat, ((Go.CW.sliceLen v20) = (some m21)) ∧
 cond (decide (((m21 : Nat) : Int) > (0 : Int)))
 (withAddr (.pointer p0) fun a22 =>
 ∃ v23 : Value, ((Go.World.cell? (World.drew w5) (Addr.add a22 0)) = (some v23)) ∧
 ∃ a24 : Addr, ((Go.CW.sliceAt v23 (0 : Int) 2) = (some a24)) ∧
 ∃ n25 : Int, ((Go.World.cell? (World.drew w5) (Addr.add a24 1)) = (some (.int .i64 n25))) ∧
 withAddr (.pointer p0) fun a26 =>
 ∃ n27 : Int, ((Go.World.cell? (World.drew w5) (Addr.add a26 1)) = (some (.int .i64 n27))) ∧
 j18 (decide (n25 ≤ n27)) (World.drew w5))
 (j18 false (World.drew w5))))
 (fun s28 => s28 (.slice none 0 0) (World.setCell w (Addr.add a2 1) (.int .i64 (IntKind.wrap .i64 (n1 + (1 : Int))))))

theorem timer_Timers_Tick_m_wp (p0 : Option Addr) (w : World) (R : KV) (h : timer_Timers_Tick_m_F p0 w R) : Go.CW.Spec Tryz.prog 33 #[(.pointer p0)] w R :=
  spec_of Tryz.func33 (by kernel_rfl) (show timer_Timers_Tick_m_F p0 w R = _ by kernel_rfl) h

/-- (*gemel/timer.Timers).find -/
def timer_Timers_find_m_F (p0 : Option Addr) (p1 : Int) (w : World) (R : KV) : Prop :=
 withAddr (.pointer p0) fun a0 =>
 ∃ v1 : Value, ((Go.World.cell? (World.alloc w (.cells #[(.int .i64 p1)] 3)) (Addr.add a0 0)) = (some v1)) ∧
 Go.CW.Spec Tryz.prog 179 #[v1, (.func (.func 180) #[] #[(.pointer (some ⟨w.heap.size, 0, none⟩))])] (World.alloc w (.cells #[(.int .i64 p1)] 3)) fun v2 w3 =>
 ∃ n4 : Int, ((v2 : Value) = (.int .i64 n4)) ∧
 R (.int .i64 n4) w3

theorem timer_Timers_find_m_wp (p0 : Option Addr) (p1 : Int) (w : World) (R : KV) (h : timer_Timers_find_m_F p0 p1 w R) : Go.CW.Spec Tryz.prog 87 #[(.pointer p0), (.int .i64 p1)] w R :=
  spec_of Tryz.func87 (by kernel_rfl) (show timer_Timers_find_m_F p0 p1 w R = _ by kernel_rfl) h

/-- (*gemel/timer.Timers).remove -/
def timer_Timers_remove_m_F (p0 : Option Addr) (p1 : Int) (w : World) (R : KV) : Prop :=
 withAddr (.pointer p0) fun a0 =>
 ∃ v1 : Value, ((Go.World.cell? w (Addr.add a0 0)) = (some v1)) ∧
 ∃ m2 : Nat, ((Go.CW.sliceLen v1) = (some m2)) ∧
 withAddr (.pointer p0) fun a3 =>
 ∃ v4 : Value, ((Go.World.cell? (World.drew w) (Addr.add a3 0)) = (some v4)) ∧
 withAddr (.pointer p0) fun a5 =>
 ∃ v6 : Value, ((Go.World.cell? (World.drew w) (Addr.add a5 0)) = (some v6)) ∧
 ∃ a7 : Addr, ((Go.CW.sliceAt v6 (IntKind.wrap .i64 (((m2 : Nat) : Int) - (1 : Int))) 2) = (some a7)) ∧
 ∃ n8 : Int, ∃ n9 : Int, (ldCells (World.drew w) a7 2 #[(.int .i64 n8), (.int .i64 n9)]) ∧
 ∃ a10 : Addr, ((Go.CW.sliceAt v4 p1 2) = (some a10)) ∧
 (StRow (World.drew w) a10 #[(.int .i64 n8), (.int .i64 n9)]) ∧
 withAddr (.pointer p0) fun a11 =>
 ∃ v12 : Value, ((Go.World.cell? (stRow (World.drew w) a10 #[(.int .i64 n8), (.int .i64 n9)]) (Addr.add a11 0)) = (some v12)) ∧
 ∃ v13 : Value, ((Go.CW.subSlice v12 2 none (some (.int .i64 (IntKind.wrap .i64 (((m2 : Nat) : Int) - (1 : Int))))) none) = (some v13)) ∧
 withAddr (.pointer p0) fun a14 =>
 oneK v13 ((St1 (stRow (World.drew w) a10 #[(.int .i64 n8), (.int .i64 n9)]) (Addr.add a14 0)) ∧
 cond (decide (p1 < (IntKind.wrap .i64 (((m2 : Nat) : Int) - (1 : Int)))))
 (Go.CW.Spec Tryz.prog 89 #[(.pointer p0), (.int .i64 p1)] (World.setCell (stRow (World.drew w) a10 #[(.int .i64 n8), (.int .i64 n9)]) (Addr.add a14 0) v13) fun v15 w16 =>
 ((v15 : Value) = (.tuple #[])) ∧
 Go.CW.Spec Tryz.prog 181 #[(.pointer p0), (.int .i64 p1)] w16 fun v17 w18 =>
 ((v17 : Value) = (.tuple #[])) ∧
 R (.tuple #[]) w18)
 (R (.tuple #[]) (World.setCell (stRow (World.drew w) a10 #[(.int .i64 n8), (.int .i64 n9)]) (Addr.add a14 0) v13)))

theorem timer_Timers_remove_m_wp (p0 : Option Addr) (p1 : Int) (w : World) (R : KV) (h : timer_Timers_remove_m_F p0 p1 w R) : Go.CW.Spec Tryz.prog 88 #[(.pointer p0), (.int .i64 p1)] w R :=
  spec_of Tryz.func88 (by kernel_rfl) (show timer_Timers_remove_m_F p0 p1 w R = _ by kernel_rfl) h

/-- (*gemel/timer.Timers).up -/
def timer_Timers_up_m_F (p0 : Option Addr) (p1 : Int) (w : World) (R : KV) : Prop :=
 LoopP [.int .i64]
 (fun j0 => fun (n1 : Int) => fun (w2 : World) =>
 JoinP [.bool]
 (fun (b3 : Bool) => fun (w4 : World) =>
 cond b3
 (withAddr (.pointer p0) fun a5 =>
 ∃ v6 : Value, ((Go.World.cell? (World.drew w4) (Addr.add a5 0)) = (some v6)) ∧
 withAddr (.pointer p0) fun a7 =>
 ∃ v8 : Value, ((Go.World.cell? (World.drew w4) (Addr.add a7 0)) = (some v8)) ∧
 withAddr (.pointer p0) fun a9 =>
 ∃ v10 : Value, ((Go.World.cell? (World.drew w4) (Addr.add a9 0)) = (some v10)) ∧
 ∃ a11 : Addr, ((Go.CW.sliceAt v10 (IntKind.wrap .i64 (Int.tdiv (IntKind.wrap .i64 (n1 - (1 : Int))) (2 : Int))) 2) = (some a11)) ∧
 ∃ n12 : Int, ∃ n13 : Int, (ldCells (World.drew w4) a11 2 #[(.int .i64 n12), (.int .i64 n13)]) ∧
 withAddr (.pointer p0) fun a14 =>
 ∃ v15 : Value, ((Go.World.cell? (World.drew w4) (Addr.add a14 0)) = (some v15)) ∧
 ∃ a16 : Addr, ((Go.CW.sliceAt v15 n1 2) = (some a16)) ∧
 ∃ n17 : Int, ∃ n18 : Int, (ldCells (World.drew w4) a16 2 #[(.int .i64 n17), (.int .i64 n18)]) ∧
 ∃ a19 : Addr, ((Go.CW.sliceAt v6 n1 2) = (some a19)) ∧
 (StRow (World.drew w4) a19 #[(.int .i64 n12), (.int .i64 n13)]) ∧
 ∃ a20 : Addr, ((Go.CW.sliceAt v8 (IntKind.wrap .i64 (Int.tdiv (IntKind.wrap .i64 (n1 - (1 : Int))) (2 : Int))) 2) = (some a20)) ∧
 (StRow (stRow (World.drew w4) a19 #[(.int .i64 n12), (.int .i64 n13)]) a20 #[(.int .i64 n17), (.int .i64 n18)]) ∧
 j0 (IntKind.wrap .i64 (Int.tdiv (IntKind.wrap .i64 (n1 - (1 : Int))) (2 : Int))) (stRow (stRow (World.drew w4) a19 #[(.int .i64 n12), (.int .i64 n13)]) a20 #[(.int .i64 n17), (.int .i64 n18)]))
 (R (.tuple #[]) w4))
 (fun j21 =>
 cond (decide (n1 > (0 : Int)))
 (Go.CW.Spec Tryz.prog 182 #[(.pointer p0), (.int .i64 n1), (.int .i64 (IntKind.wrap .i64 (Int.tdiv (IntKind.wrap .i64 (n1 - (1 : Int))) (2 : Int))))] w2 fun v22 w23 =>
 ∃ b24 : Bool, ((v22 : Value) = (.bool b24)) ∧
 j21 b24 w23)
 (j21 false w2)))
 (fun s25 => s25 p1 w)

theorem timer_Timers_up_m_wp (p0 : Option Addr) (p1 : Int) (w : World) (R : KV) (h : timer_Timers_up_m_F p0 p1 w R) : Go.CW.Spec Tryz.prog 89 #[(.pointer p0), (.int .i64 p1)] w R :=
  spec_of Tryz.func89 (by kernel_rfl) (show timer_Timers_up_m_F p0 p1 w R = _ by kernel_rfl) h

/-- slices.IndexFunc[[]gemel/timer.alarm,gemel/timer.alarm] -/
def slices_IndexFunc_179_F (p0 : Value) (p1 : Value) (w : World) (R : KV) : Prop :=
 ∃ m0 : Nat, ((Go.CW.sliceLen p0) = (some m0)) ∧
 LoopP [.int .i64]
 (fun j1 => fun (n2 : Int) => fun (w3 : World) =>
 cond (decide (n2 < ((m0 : Nat) : Int)))
 (∃ a4 : Addr, ((Go.CW.sliceAt p0 n2 2) = (some a4)) ∧
 ∃ n5 : Int, ∃ n6 : Int, (ldCells w3 a4 2 #[(.int .i64 n5), (.int .i64 n6)]) ∧
 Go.CW.callU Tryz.prog p1 #[(.agg #[(.int .i64 n5), (.int .i64 n6)])] w3 fun v7 w8 =>
 ∃ b9 : Bool, ((v7 : Value) = (.bool b9)) ∧
 cond b9
 (R (.int .i64 n2) w8)
 (j1 (IntKind.wrap .i64 (n2 + (1 : Int))) w8))
 (R (.int .i64 (-1 : Int)) w3))
 (fun s10 => s10 (0 : Int) w)

theorem slices_IndexFunc_179_wp (p0 : Value) (p1 : Value) (w : World) (R : KV) (h : slices_IndexFunc_179_F p0 p1 w R) : Go.CW.Spec Tryz.prog 179 #[p0, p1] w R :=
  spec_of Tryz.func179 (by kernel_rfl) (show slices_IndexFunc_179_F p0 p1 w R = _ by kernel_rfl) h

/-- (*gemel/timer.Timers).find$1 -/
def timer_Timers_find_1_m_F (p0_0 : Int) (p0_1 : Int) (p1 : Value) (w : World) (R : KV) : Prop :=
 ∃ n0 : Int, ((Go.World.cell? (World.alloc w (.cells #[(.int .i64 p0_0), (.int .i64 p0_1)] 183)) (Addr.add ⟨w.heap.size, 0, none⟩ 0)) = (some (.int .i64 n0))) ∧
 withAddr p1 fun a1 =>
 ∃ n2 : Int, ((Go.World.cell? (World.alloc w (.cells #[(.int .i64 p0_0), (.int .i64 p0_1)] 183)) a1) = (some (.int .i64 n2))) ∧
 R (.bool (n0 == n2)) (World.alloc w (.cells #[(.int .i64 p0_0), (.int .i64 p0_1)] 183))

theorem timer_Timers_find_1_m_wp (p0_0 : Int) (p0_1 : Int) (p1 : Value) (w : World) (R : KV) (h : timer_Timers_find_1_m_F p0_0 p0_1 p1 w R) : Go.CW.Spec Tryz.prog 180 #[(.agg #[(.int .i64 p0_0), (.int .i64 p0_1)]), p1] w R :=
  spec_of Tryz.func180 (by kernel_rfl) (show timer_Timers_find_1_m_F p0_0 p0_1 p1 w R = _ by kernel_rfl) h

/-- (*gemel/timer.Timers).down -/
def timer_Timers_down_m_F (p0 : Option Addr) (p1 : Int) (w : World) (R : KV) : Prop :=
 LoopP [.int .i64]
 (fun j0 => fun (n1 : Int) => fun (w2 : World) =>
 JoinP [.int .i64]
 (fun (n3 : Int) => fun (w4 : World) =>
 JoinP [.bool]
 (fun (b5 : Bool) => fun (w6 : World) =>
 cond b5
 (R (.tuple #[]) w6)
 (withAddr (.pointer p0) fun a7 =>
 ∃ v8 : Value, ((Go.World.cell? (World.drew w6) (Addr.add a7 0)) = (some v8)) ∧
 withAddr (.pointer p0) fun a9 =>
 ∃ v10 : Value, ((Go.World.cell? (World.drew w6) (Addr.add a9 0)) = (some v10)) ∧
 withAddr (.pointer p0) fun a11 =>
 ∃ v12 : Value, ((Go.World.cell? (World.drew w6) (Addr.add a11 0)) = (some v12)) ∧
 ∃ a13 : Addr, ((Go.CW.sliceAt v12 n3 2) = (some a13)) ∧
 ∃ n14 : Int, ∃ n15 : Int, (ldCells (World.drew w6) a13 2 #[(.int .i64 n14), (.int .i64 n15)]) ∧
 withAddr (.pointer p0) fun a16 =>
 ∃ v17 : Value, ((Go.World.cell? (World.drew w6) (Addr.add a16 0)) = (some v17)) ∧
 ∃ a18 : Addr, ((Go.CW.sliceAt v17 n1 2) = (some a18)) ∧
 ∃ n19 : Int, ∃ n20 : Int, (ldCells (World.drew w6) a18 2 #[(.int .i64 n19), (.int .i64 n20)]) ∧
 ∃ a21 : Addr, ((Go.CW.sliceAt v8 n1 2) = (some a21)) ∧
 (StRow (World.drew w6) a21 #[(.int .i64 n14), (.int .i64 n15)]) ∧
 ∃ a22 : Addr, ((Go.CW.sliceAt v10 n3 2) = (some a22)) ∧
 (StRow (stRow (World.drew w6) a21 #[(.int .i64 n14), (.int .i64 n15)]) a22 #[(.int .i64 n19), (.int .i64 n20)]) ∧
 j0 n3 (stRow (stRow (World.drew w6) a21 #[(.int .i64 n14), (.int .i64 n15)]) a22 #[(.int .i64 n19), (.int .i64 n20)])))
 (fun j23 =>
 withAddr (.pointer p0) fun a24 =>
 ∃ v25 : Value, ((Go.World.cell? w4 (Addr.add a24 0)) = (some v25)) ∧
 ∃ m26 : Nat, ((Go.CW.sliceLen v25) = (some m26)) ∧
 cond (decide (n3 ≥ ((m26 : Nat) : Int)))
 (j23 true w4)
 (Go.CW.Spec Tryz.prog 182 #[(.pointer p0), (.int .i64 n3), (.int .i64 n1)] w4 fun v27 w28 =>
 ∃ b29 : Bool, ((v27 : Value) = (.bool b29)) ∧
 j23 (!b29) w28)))
 (fun j30 =>
 JoinP [.bool]
 (fun (b31 : Bool) => fun (w32 : World) =>
 cond b31
 (j30 (IntKind.wrap .i64 ((IntKind.wrap .i64 ((IntKind.wrap .i64 ((2 : Int) * n1)) + (1 : Int))) + (1 : Int))) w32)
 (j30 (IntKind.wrap .i64 ((IntKind.wrap .i64 ((2 : Int) * n1)) + (1 : Int))) w32))
 (fun j33 =>
 withAddr (.pointer p0) fun a34 =>
 ∃ v35 : Value, ((Go.World.cell? w2 (Addr.add a34 0)) = (some v35)) ∧
 ∃ m36 : Nat, ((Go.CW.sliceLen v35) = (some m36)) ∧
 cond (decide ((IntKind.wrap .i64 ((IntKind.wrap .i64 ((IntKind.wrap .i64 ((2 : Int) * n1)) + (1 : Int))) + (1 : Int))) < ((m36 : Nat) : Int)))
 (Go.CW.Spec Tryz.prog 182 #[(.pointer p0), (.int .i64 (IntKind.wrap .i64 ((IntKind.wrap .i64 ((IntKind.wrap .i64 ((2 : Int) * n1)) + (1 : Int))) + (1 : Int)))), (.int .i64 (IntKind.wrap .i64 ((IntKind.wrap .i64 ((2 : Int) * n1)) + (1 : Int))))] w2 fun v37 w38 =>
 ∃ b39 : Bool, ((v37 : Value) = (.bool b39)) ∧
 j33 b39 w38)
 (j33 false w2))))
 (fun s40 => s40 p1 w)

theorem timer_Timers_down_m_wp (p0 : Option Addr) (p1 : Int) (w : World) (R : KV) (h : timer_Timers_down_m_F p0 p1 w R) : Go.CW.Spec Tryz.prog 181 #[(.pointer p0), (.int .i64 p1)] w R :=
  spec_of Tryz.func181 (by kernel_rfl) (show timer_Timers_down_m_F p0 p1 w R = _ by kernel_rfl) h

/-- (*gemel/timer.Timers).less -/
def timer_Timers_less_m_F (p0 : Option Addr) (p1 : Int) (p2 : Int) (w : World) (R : KV) : Prop :=
 JoinP [.val, .val]
 (fun (v0 : Value) => fun (v1 : Value) => fun (w2 : World) =>
 JoinP [.bool]
 (fun (b3 : Bool) => fun (w4 : World) =>
 R (.bool b3) w4)
 (fun j5 =>
 withAddr v0 fun a6 =>
 ∃ n7 : Int, ((Go.World.cell? w2 (Addr.add a6 1)) = (some (.int .i64 n7))) ∧
 withAddr v1 fun a8 =>
 ∃ n9 : Int, ((Go.World.cell? w2 (Addr.add a8 1)) = (some (.int .i64 n9))) ∧
 cond (decide (n7 < n9))
 (j5 true w2)
 (withAddr v0 fun a10 =>
 ∃ n11 : Int, ((Go.World.cell? w2 (Addr.add a10 1)) = (some (.int .i64 n11))) ∧
 withAddr v1 fun a12 =>
 ∃ n13 : Int, ((Go.World.cell? w2 (Addr.add a12 1)) = (some (.int .i64 n13))) ∧
 cond (n11 == n13)
 (withAddr v0 fun a14 =>
 ∃ n15 : Int, ((Go.World.cell? w2 (Addr.add a14 0)) = (some (.int .i64 n15))) ∧
 withAddr v1 fun a16 =>
 ∃ n17 : Int, ((Go.World.cell? w2 (Addr.add a16 0)) = (some (.int .i64 n17))) ∧
 j5 (decide (n15 < n17)) w2)
 (j5 false w2))))
 (fun j18 =>
 withAddr (.pointer p0) fun a19 =>
 ∃ v20 : Value, ((Go.World.cell? (World.drew w) (Addr.add a19 0)) = (some v20)) ∧
 ∃ a21 : Addr, ((Go.CW.sliceAt v20 p1 2) = (some a21)) ∧
 ∃ n22 : Int, ∃ n23 : Int, (ldCells (World.drew w) a21 2 #[(.int .i64 n22), (.int .i64 n23)]) ∧
 withAddr (.pointer p0) fun a24 =>
 ∃ v25 : Value, ((Go.World.cell? (World.drew w) (Addr.add a24 0)) = (some v25)) ∧
 ∃ a26 : Addr, ((Go.CW.sliceAt v25 p2 2) = (some a26)) ∧
 ∃ n27 : Int, ∃ n28 : Int, (ldCells (World.drew w) a26 2 #[(.int .i64 n27), (.int .i64 n28)]) ∧
 ((∃ v29 : Value, ((Go.World.cell? (World.alloc (World.drew w) (.cells #[(.int .i64 (0 : Int)), (.int .i64 (0 : Int))] 183)) (Addr.add a19 0)) = (some v29)) ∧
 (v29 : Value) = v20) ∧
 (∃ n30 : Int, ∃ n31 : Int, (ldCells (World.alloc (World.drew w) (.cells #[(.int .i64 (0 : Int)), (.int .i64 (0 : Int))] 183)) a21 2 #[(.int .i64 n30), (.int .i64 n31)]) ∧
 ((.agg #[(.int .i64 n30), (.int .i64 n31)]) : Value) = (.agg #[(.int .i64 n22), (.int .i64 n23)])) ∧
 (∃ v32 : Value, ((Go.World.cell? (World.alloc (World.drew w) (.cells #[(.int .i64 (0 : Int)), (.int .i64 (0 : Int))] 183)) (Addr.add a24 0)) = (some v32)) ∧
 (v32 : Value) = v25) ∧
 (∃ n33 : Int, ∃ n34 : Int, (ldCells (World.alloc (World.drew w) (.cells #[(.int .i64 (0 : Int)), (.int .i64 (0 : Int))] 183)) a26 2 #[(.int .i64 n33), (.int .i64 n34)]) ∧
 ((.agg #[(.int .i64 n33), (.int .i64 n34)]) : Value) = (.agg #[(.int .i64 n27), (.int .i64 n28)])) ∧
 (∃ v35 : Value, ((Go.World.cell? (World.alloc (World.alloc (World.drew w) (.cells #[(.int .i64 (0 : Int)), (.int .i64 (0 : Int))] 183)) (.cells #[(.int .i64 (0 : Int)), (.int .i64 (0 : Int))] 183)) (Addr.add a19 0)) = (some v35)) ∧
 (v35 : Value) = v20) ∧
 (∃ n36 : Int, ∃ n37 : Int, (ldCells (World.alloc (World.alloc (World.drew w) (.cells #[(.int .i64 (0 : Int)), (.int .i64 (0 : Int))] 183)) (.cells #[(.int .i64 (0 : Int)), (.int .i64 (0 : Int))] 183)) a21 2 #[(.int .i64 n36), (.int .i64 n37)]) ∧
 ((.agg #[(.int .i64 n36), (.int .i64 n37)]) : Value) = (.agg #[(.int .i64 n22), (.int .i64 n23)])) ∧
 (∃ v38 : Value, ((Go.World.cell? (World.alloc (World.alloc (World.drew w) (.cells #[(.int .i64 (0 : Int)), (.int .i64 (0 : Int))] 183)) (.cells #[(.int .i64 (0 : Int)), (.int .i64 (0 : Int))] 183)) (Addr.add a24 0)) = (some v38)) ∧
 (v38 : Value) = v25) ∧
 (∃ n39 : Int, ∃ n40 : Int, (ldCells (World.alloc (World.alloc (World.drew w) (.cells #[(.int .i64 (0 : Int)), (.int .i64 (0 : Int))] 183)) (.cells #[(.int .i64 (0 : Int)), (.int .i64 (0 : Int))] 183)) a26 2 #[(.int .i64 n39), (.int .i64 n40)]) ∧
 ((.agg #[(.int .i64 n39), (.int .i64 n40)]) : Value) = (.agg #[(.int .i64 n27), (.int .i64 n28)])) ∧
 (StRow (World.alloc (World.alloc (World.drew w) (.cells #[(.int .i64 (0 : Int)), (.int .i64 (0 : Int))] 183)) (.cells #[(.int .i64 (0 : Int)), (.int .i64 (0 : Int))] 183)) ⟨(Array.size (World.heap (World.drew w))), 0, none⟩ #[(.int .i64 n22), (.int .i64 n23)]) ∧
 (∃ v41 : Value, ((Go.World.cell? (stRow (World.alloc (World.alloc (World.drew w) (.cells #[(.int .i64 (0 : Int)), (.int .i64 (0 : Int))] 183)) (.cells #[(.int .i64 (0 : Int)), (.int .i64 (0 : Int))] 183)) ⟨(Array.size (World.heap (World.drew w))), 0, none⟩ #[(.int .i64 n22), (.int .i64 n23)]) (Addr.add a24 0)) = (some v41)) ∧
 (v41 : Value) = v25) ∧
 (∃ n42 : Int, ∃ n43 : Int, (ldCells (stRow (World.alloc (World.alloc (World.drew w) (.cells #[(.int .i64 (0 : Int)), (.int .i64 (0 : Int))] 183)) (.cells #[(.int .i64 (0 : Int)), (.int .i64 (0 : Int))] 183)) ⟨(Array.size (World.heap (World.drew w))), 0, none⟩ #[(.int .i64 n22), (.int .i64 n23)]) a26 2 #[(.int .i64 n42), (.int .i64 n43)]) ∧
 ((.agg #[(.int .i64 n42), (.int .i64 n43)]) : Value) = (.agg #[(.int .i64 n27), (.int .i64 n28)])) ∧
 (StRow (stRow (World.alloc (World.alloc (World.drew w) (.cells #[(.int .i64 (0 : Int)), (.int .i64 (0 : Int))] 183)) (.cells #[(.int .i64 (0 : Int)), (.int .i64 (0 : Int))] 183)) ⟨(Array.size (World.heap (World.drew w))), 0, none⟩ #[(.int .i64 n22), (.int .i64 n23)]) ⟨(Array.size (World.heap (World.alloc (World.drew w) (.cells #[(.int .i64 (0 : Int)), (.int .i64 (0 : Int))] 183)))), 0, none⟩ #[(.int .i64 n27), (.int .i64 n28)]) ∧
 j18 (.pointer (some ⟨(Array.size (World.heap (World.drew w))), 0, none⟩)) (.pointer (some ⟨(Array.size (World.heap (World.alloc (World.drew w) (.cells #[(.int .i64 (0 : Int)), (.int .i64 (0 : Int))] 183)))), 0, none⟩)) (stRow (stRow (World.alloc (World.alloc (World.drew w) (.cells #[(.int .i64 (0 : Int)), (.int .i64 (0 : Int))] 183)) (.cells #[(.int .i64 (0 : Int)), (.int .i64 (0 : Int))] 183)) ⟨(Array.size (World.heap (World.drew w))), 0, none⟩ #[(.int .i64 n22), (.int .i64 n23)]) ⟨(Array.size (World.heap (World.alloc (World.drew w) (.cells #[(.int .i64 (0 : Int)), (.int .i64 (0 : Int))] 183)))), 0, none⟩ #[(.int .i64 n27), (.int .i64 n28)])) ∧
 (∃ v44 : Value, ((Go.World.cell? (World.alloc (World.drew w) (.cells #[(.int .i64 (0 : Int)), (.int .i64 (0 : Int))] 183)) (Addr.add a19 0)) = (some v44)) ∧
 (v44 : Value) = v20) ∧
 (∃ n45 : Int, ∃ n46 : Int, (ldCells (World.alloc (World.drew w) (.cells #[(.int .i64 (0 : Int)), (.int .i64 (0 : Int))] 183)) a21 2 #[(.int .i64 n45), (.int .i64 n46)]) ∧
 ((.agg #[(.int .i64 n45), (.int .i64 n46)]) : Value) = (.agg #[(.int .i64 n22), (.int .i64 n23)])) ∧
 (∃ v47 : Value, ((Go.World.cell? (World.alloc (World.drew w) (.cells #[(.int .i64 (0 : Int)), (.int .i64 (0 : Int))] 183)) (Addr.add a24 0)) = (some v47)) ∧
 (v47 : Value) = v25) ∧
 (∃ n48 : Int, ∃ n49 : Int, (ldCells (World.alloc (World.drew w) (.cells #[(.int .i64 (0 : Int)), (.int .i64 (0 : Int))] 183)) a26 2 #[(.int .i64 n48), (.int .i64 n49)]) ∧
 ((.agg #[(.int .i64 n48), (.int .i64 n49)]) : Value) = (.agg #[(.int .i64 n27), (.int .i64 n28)])) ∧
 (∃ v50 : Value, ((Go.World.cell? (World.alloc (World.alloc (World.drew w) (.cells #[(.int .i64 (0 : Int)), (.int .i64 (0 : Int))] 183)) (.cells #[(.int .i64 (0 : Int)), (.int .i64 (0 : Int))] 183)) (Addr.add a19 0)) = (some v50)) ∧
 (v50 : Value) = v20) ∧
 (∃ n51 : Int, ∃ n52 : Int, (ldCells (World.alloc (World.alloc (World.drew w) (.cells #[(.int .i64 (0 : Int)), (.int .i64 (0 : Int))] 183)) (.cells #[(.int .i64 (0 : Int)), (.int .i64 (0 : Int))] 183)) a21 2 #[(.int .i64 n51), (.int .i64 n52)]) ∧
 ((.agg #[(.int .i64 n51), (.int .i64 n52)]) : Value) = (.agg #[(.int .i64 n22), (.int .i64 n23)])) ∧
 (∃ v53 : Value, ((Go.World.cell? (World.alloc (World.alloc (World.drew w) (.cells #[(.int .i64 (0 : Int)), (.int .i64 (0 : Int))] 183)) (.cells #[(.int .i64 (0 : Int)), (.int .i64 (0 : Int))] 183)) (Addr.add a24 0)) = (some v53)) ∧
 (v53 : Value) = v25) ∧
 (∃ n54 : Int, ∃ n55 : Int, (ldCells (World.alloc (World.alloc (World.drew w) (.cells #[(.int .i64 (0 : Int)), (.int .i64 (0 : Int))] 183)) (.cells #[(.int .i64 (0 : Int)), (.int .i64 (0 : Int))] 183)) a26 2 #[(.int .i64 n54), (.int .i64 n55)]) ∧
 ((.agg #[(.int .i64 n54), (.int .i64 n55)]) : Value) = (.agg #[(.int .i64 n27), (.int .i64 n28)])) ∧
 (StRow (World.alloc (World.alloc (World.drew w) (.cells #[(.int .i64 (0 : Int)), (.int .i64 (0 : Int))] 183)) (.cells #[(.int .i64 (0 : Int)), (.int .i64 (0 : Int))] 183)) ⟨(Array.size (World.heap (World.alloc (World.drew w) (.cells #[(.int .i64 (0 : Int)), (.int .i64 (0 : Int))] 183)))), 0, none⟩ #[(.int .i64 n22), (.int .i64 n23)]) ∧
 (∃ v56 : Value, ((Go.World.cell? (stRow (World.alloc (World.alloc (World.drew w) (.cells #[(.int .i64 (0 : Int)), (.int .i64 (0 : Int))] 183)) (.cells #[(.int .i64 (0 : Int)), (.int .i64 (0 : Int))] 183)) ⟨(Array.size (World.heap (World.alloc (World.drew w) (.cells #[(.int .i64 (0 : Int)), (.int .i64 (0 : Int))] 183)))), 0, none⟩ #[(.int .i64 n22), (.int .i64 n23)]) (Addr.add a24 0)) = (some v56)) ∧
 (v56 : Value) = v25) ∧
 (∃ n57 : Int, ∃ n58 : Int, (ldCells (stRow (World.alloc (World.alloc (World.drew w) (.cells #[(.int .i64 (0 : Int)), (.int .i64 (0 : Int))] 183)) (.cells #[(.int .i64 (0 : Int)), (.int .i64 (0 : Int))] 183)) ⟨(Array.size (World.heap (World.alloc (World.drew w) (.cells #[(.int .i64 (0 : Int)), (.int .i64 (0 : Int))] 183)))), 0, none⟩ #[(.int .i64 n22), (.int .i64 n23)]) a26 2 #[(.int .i64 n57), (.int .i64 n58)]) ∧
 ((.agg #[(.int .i64 n57), (.int .i64 n58)]) : Value) = (.agg #[(.int .i64 n27), (.int .i64 n28)])) ∧
 (StRow (stRow (World.alloc (World.alloc (World.drew w) (.cells #[(.int .i64 (0 : Int)), (.int .i64 (0 : Int))] 183)) (.cells #[(.int .i64 (0 : Int)), (.int .i64 (0 : Int))] 183)) ⟨(Array.size (World.heap (World.alloc (World.drew w) (.cells #[(.int .i64 (0 : Int)), (.int .i64 (0 : Int))] 183)))), 0, none⟩ #[(.int .i64 n22), (.int .i64 n23)]) ⟨(Array.size (World.heap (World.drew w))), 0, none⟩ #[(.int .i64 n27), (.int .i64 n28)]) ∧
 j18 (.pointer (some ⟨(Array.size (World.heap (World.alloc (World.drew w) (.cells #[(.int .i64 (0 : Int)), (.int .i64 (0 : Int))] 183)))), 0, none⟩)) (.pointer (some ⟨(Array.size (World.heap (World.drew w))), 0, none⟩)) (stRow (stRow (World.alloc (World.alloc (World.drew w) (.cells #[(.int .i64 (0 : Int)), (.int .i64 (0 : Int))] 183)) (.cells #[(.int .i64 (0 : Int)), (.int .i64 (0 : Int))] 183)) ⟨(Array.size (World.heap (World.alloc (World.drew w) (.cells #[(.int .i64 (0 : Int)), (.int .i64 (0 : Int))] 183)))), 0, none⟩ #[(.int .i64 n22), (.int .i64 n23)]) ⟨(Array.size (World.heap (World.drew w))), 0, none⟩ #[(.int .i64 n27), (.int .i64 n28)]))

theorem timer_Timers_less_m_wp (p0 : Option Addr) (p1 : Int) (p2 : Int) (w : World) (R : KV) (h : timer_Timers_less_m_F p0 p1 p2 w R) : Go.CW.Spec Tryz.prog 182 #[(.pointer p0), (.int .i64 p1), (.int .i64 p2)] w R :=
  spec_of Tryz.func182 (by kernel_rfl) (show timer_Timers_less_m_F p0 p1 p2 w R = _ by kernel_rfl) h

/-- slices.Clip[[]int,int] -/
def slices_Clip_99_F (p0 : Value) (w : World) (R : KV) : Prop :=
 ∃ m0 : Nat, ((Go.CW.sliceLen p0) = (some m0)) ∧
 ∃ m1 : Nat, ((Go.CW.sliceLen p0) = (some m1)) ∧
 ∃ v2 : Value, ((Go.CW.subSlice p0 1 none (some (.int .i64 ((m0 : Nat) : Int))) (some (.int .i64 ((m1 : Nat) : Int)))) = (some v2)) ∧
 R v2 w

theorem slices_Clip_99_wp (p0 : Value) (w : World) (R : KV) (h : slices_Clip_99_F p0 w R) : Go.CW.Spec Tryz.prog 99 #[p0] w R :=
  spec_of Tryz.func99 (by kernel_rfl) (show slices_Clip_99_F p0 w R = _ by kernel_rfl) h

end Go.Proofs.YtghineciiljeoaaGreatDoor
