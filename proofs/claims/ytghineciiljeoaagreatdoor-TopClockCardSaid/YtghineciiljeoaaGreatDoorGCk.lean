/- The formulas of some functions, printed by a program (wip/cw/CwGen). -/
import Derived.Test.YtghineciiljeoaaGreatDoorNam
set_option linter.unusedVariables false
set_option maxRecDepth 100000
namespace Go.Proofs.YtghineciiljeoaaGreatDoor
open Go Go.CW

/-- gemel/mpath.New -/
def mpath_New_F (p0 : Int) (w : World) (R : KV) : Prop :=
 JoinP [.bool]
 (fun (b0 : Bool) => fun (w1 : World) =>
 cond b0
 (R (.tuple #[(.pointer none), (.int .i64 (1 : Int))]) w1)
 (Go.CW.Spec Tryz.prog 24 #[] w1 fun v2 w3 =>
 ∃ (o4 : Option Addr), ((v2 : Value) = (.pointer o4)) ∧
 bindW (World.alloc w3 (.cells #[(.int .i64 p0), (.int .i64 (0 : Int)), (.int .u64 (1 : Int)), (.slice none 0 0), (.slice none 0 0), (.slice none 0 0), (.pointer o4)] 170)) fun w5 =>
 R (.tuple #[(.pointer (some ⟨w3.heap.size, 0, none⟩)), (.int .i64 (0 : Int))]) w5))
 (fun j6 =>
 cond (decide (p0 < (0 : Int)))
 (j6 true w)
 (j6 (decide (p0 ≥ (8 : Int))) w))

theorem mpath_New_wp (p0 : Int) (w : World) (R : KV) (h : mpath_New_F p0 w R) : Go.CW.Spec Tryz.prog 22 #[(.int .i64 p0)] w R :=
  spec_of Tryz.func22 (by kernel_rfl) (show mpath_New_F p0 w R = _ by kernel_rfl) h

/-- (*gemel/mpath.Path).Submit -/
def mpath_Path_Submit_m_F (p0 : Option Addr) (p1_0 : Int) (p1_1 : Int) (p1_2 : Int) (p1_3 : Value) (p1_4 : Int) (p1_5 : Int) (p1_6 : Int) (p1_7 : Bool) (w : World) (R : KV) : Prop :=
 bindW (World.alloc w (.cells #[(.int .i64 p1_0), (.int .i64 p1_1), (.int .i64 p1_2), p1_3, (.int .u64 p1_4), (.int .u64 p1_5), (.int .i64 p1_6), (.bool p1_7)] 40)) fun w0 =>
 bindW (World.drew w0) fun w1 =>
 withAddr (.pointer p0) fun a2 =>
 ∃ (n3 : Int), ((Go.World.cell? w1 (Addr.add a2 2)) = (some (.int .u64 n3))) ∧
 bindW (World.drew w0) fun w4 =>
 Go.CW.Spec Tryz.prog 84 #[(.pointer p0)] w4 fun v5 w6 =>
 ∃ (n7 : Int), ((v5 : Value) = (.int .u64 n7)) ∧
 (∃ (n8 : Int), ((Go.World.cell? w6 (Addr.add a2 2)) = (some (.int .u64 n8))) ∧
 ((.int .u64 n8) : Value) = (.int .u64 n3)) ∧
 cond (decide (n3 ≥ (IntKind.wrap .u64 (n7 + (4 : Int)))))
 (R (.tuple #[(.int .u64 (0 : Int)), (.int .i64 (7 : Int))]) w6)
 (JoinP [.bool]
 (fun (b9 : Bool) => fun (w10 : World) =>
 cond b9
 (R (.tuple #[(.int .u64 (0 : Int)), (.int .i64 (1 : Int))]) w10)
 (∃ (v11 : Value), ((Go.World.cell? w10 (Addr.add ⟨w.heap.size, 0, none⟩ 3)) = (some v11)) ∧
 Go.CW.Spec Tryz.prog 85 #[v11] w10 fun v12 w13 =>
 oneK v12 ((St1 w13 (Addr.add ⟨w.heap.size, 0, none⟩ 3)) ∧
 bindW (World.setCell w13 (Addr.add ⟨w.heap.size, 0, none⟩ 3) v12) fun w14 =>
 bindW (World.drew w14) fun w15 =>
 withAddr (.pointer p0) fun a16 =>
 ∃ (n17 : Int), ((Go.World.cell? w15 (Addr.add a16 2)) = (some (.int .u64 n17))) ∧
 ∃ (n18 : Int) (n19 : Int) (n20 : Int) (v21 : Value) (n22 : Int) (n23 : Int) (n24 : Int) (b25 : Bool), (ldCells w15 ⟨w.heap.size, 0, none⟩ 8 #[(.int .i64 n18), (.int .i64 n19), (.int .i64 n20), v21, (.int .u64 n22), (.int .u64 n23), (.int .i64 n24), (.bool b25)]) ∧
 bindW (World.drew w14) fun w26 =>
 (∃ (n27 : Int), ((Go.World.cell? (World.alloc w26 (.cells #[(.int .u64 (0 : Int)), (.int .i64 (0 : Int)), (.int .i64 (0 : Int)), (.int .i64 (0 : Int)), (.slice none 0 0), (.int .u64 (0 : Int)), (.int .u64 (0 : Int)), (.int .i64 (0 : Int)), (.bool false)] 178)) (Addr.add a16 2)) = (some (.int .u64 n27))) ∧
 ((.int .u64 n27) : Value) = (.int .u64 n17)) ∧
 (∃ (n28 : Int) (n29 : Int) (n30 : Int) (v31 : Value) (n32 : Int) (n33 : Int) (n34 : Int) (b35 : Bool), (ldCells (World.alloc w26 (.cells #[(.int .u64 (0 : Int)), (.int .i64 (0 : Int)), (.int .i64 (0 : Int)), (.int .i64 (0 : Int)), (.slice none 0 0), (.int .u64 (0 : Int)), (.int .u64 (0 : Int)), (.int .i64 (0 : Int)), (.bool false)] 178)) ⟨w.heap.size, 0, none⟩ 8 #[(.int .i64 n28), (.int .i64 n29), (.int .i64 n30), v31, (.int .u64 n32), (.int .u64 n33), (.int .i64 n34), (.bool b35)]) ∧
 ((.agg #[(.int .i64 n28), (.int .i64 n29), (.int .i64 n30), v31, (.int .u64 n32), (.int .u64 n33), (.int .i64 n34), (.bool b35)]) : Value) = (.agg #[(.int .i64 n18), (.int .i64 n19), (.int .i64 n20), v21, (.int .u64 n22), (.int .u64 n23), (.int .i64 n24), (.bool b25)])) ∧
 bindW (World.alloc w26 (.cells #[(.int .u64 (0 : Int)), (.int .i64 (0 : Int)), (.int .i64 (0 : Int)), (.int .i64 (0 : Int)), (.slice none 0 0), (.int .u64 (0 : Int)), (.int .u64 (0 : Int)), (.int .i64 (0 : Int)), (.bool false)] 178)) fun w36 =>
 bindW (World.alloc w26 (.cells #[(.int .u64 (0 : Int)), (.int .i64 (0 : Int)), (.int .i64 (0 : Int)), (.int .i64 (0 : Int)), (.slice none 0 0), (.int .u64 (0 : Int)), (.int .u64 (0 : Int)), (.int .i64 (0 : Int)), (.bool false)] 178)) fun w37 =>
 (StRow w37 ⟨w26.heap.size, 0, none⟩ #[(.int .u64 n17), (.int .i64 n18), (.int .i64 n19), (.int .i64 n20), v21, (.int .u64 n22), (.int .u64 n23), (.int .i64 n24), (.bool b25)]) ∧
 bindW (stRow w37 ⟨w26.heap.size, 0, none⟩ #[(.int .u64 n17), (.int .i64 n18), (.int .i64 n19), (.int .i64 n20), v21, (.int .u64 n22), (.int .u64 n23), (.int .i64 n24), (.bool b25)]) fun w38 =>
 bindW (stRow w37 ⟨w26.heap.size, 0, none⟩ #[(.int .u64 n17), (.int .i64 n18), (.int .i64 n19), (.int .i64 n20), v21, (.int .u64 n22), (.int .u64 n23), (.int .i64 n24), (.bool b25)]) fun w39 =>
 JoinP []
 (fun (w40 : World) =>
 withAddr (.pointer p0) fun a41 =>
 ∃ (n42 : Int), ((Go.World.cell? w40 (Addr.add a41 2)) = (some (.int .u64 n42))) ∧
 withAddr (.pointer p0) fun a43 =>
 (St1 w40 (Addr.add a43 2)) ∧
 bindW (World.setCell w40 (Addr.add a43 2) (.int .u64 (IntKind.wrap .u64 (n42 + (1 : Int))))) fun w44 =>
 bindW (World.drew w44) fun w45 =>
 withAddr (.pointer p0) fun a46 =>
 ∃ (v47 : Value), ((Go.World.cell? w45 (Addr.add a46 3)) = (some v47)) ∧
 ∃ (n48 : Int) (n49 : Int) (n50 : Int) (n51 : Int) (v52 : Value) (n53 : Int) (n54 : Int) (n55 : Int) (b56 : Bool), (ldCells w45 ⟨w26.heap.size, 0, none⟩ 9 #[(.int .u64 n48), (.int .i64 n49), (.int .i64 n50), (.int .i64 n51), v52, (.int .u64 n53), (.int .u64 n54), (.int .i64 n55), (.bool b56)]) ∧
 bindW (World.drew w44) fun w57 =>
 (∃ (v58 : Value), ((Go.World.cell? (World.alloc w57 (.cells #[(.int .u64 n48), (.int .i64 n49), (.int .i64 n50), (.int .i64 n51), v52, (.int .u64 n53), (.int .u64 n54), (.int .i64 n55), (.bool b56)] 178)) (Addr.add a46 3)) = (some v58)) ∧
 (v58 : Value) = v47) ∧
 bindW (World.alloc w57 (.cells #[(.int .u64 n48), (.int .i64 n49), (.int .i64 n50), (.int .i64 n51), v52, (.int .u64 n53), (.int .u64 n54), (.int .i64 n55), (.bool b56)] 178)) fun w59 =>
 bindW (World.alloc w57 (.cells #[(.int .u64 n48), (.int .i64 n49), (.int .i64 n50), (.int .i64 n51), v52, (.int .u64 n53), (.int .u64 n54), (.int .i64 n55), (.bool b56)] 178)) fun w60 =>
 ∃ (v61 : Value) (w62 : World), ((Sem.run @Go.Proofs.Tryz.prog (Go.Builtin.append_ #[168, 168] 168 #[v47, (.slice (some ⟨w57.heap.size, 0, none⟩) 1 1)]) w60) = (.ok v61 w62)) ∧
 withAddr (.pointer p0) fun a63 =>
 oneK v61 ((St1 w62 (Addr.add a63 3)) ∧
 bindW (World.setCell w62 (Addr.add a63 3) v61) fun w64 =>
 bindW (World.setCell w62 (Addr.add a63 3) v61) fun w65 =>
 ∃ (n66 : Int) (n67 : Int) (n68 : Int) (n69 : Int) (v70 : Value) (n71 : Int) (n72 : Int) (n73 : Int) (b74 : Bool), (ldCells w65 ⟨w26.heap.size, 0, none⟩ 9 #[(.int .u64 n66), (.int .i64 n67), (.int .i64 n68), (.int .i64 n69), v70, (.int .u64 n71), (.int .u64 n72), (.int .i64 n73), (.bool b74)]) ∧
 Go.CW.Spec Tryz.prog 86 #[(.pointer p0), (.agg #[(.int .u64 n66), (.int .i64 n67), (.int .i64 n68), (.int .i64 n69), v70, (.int .u64 n71), (.int .u64 n72), (.int .i64 n73), (.bool b74)])] w65 fun v75 w76 =>
 ((v75 : Value) = (.tuple #[])) ∧
 ∃ (n77 : Int), ((Go.World.cell? w76 (Addr.add ⟨w26.heap.size, 0, none⟩ 0)) = (some (.int .u64 n77))) ∧
 R (.tuple #[(.int .u64 n77), (.int .i64 (0 : Int))]) w76))
 (fun j78 =>
 withAddr (.pointer p0) fun a79 =>
 ∃ (v80 : Value), ((Go.World.cell? w39 (Addr.add a79 3)) = (some v80)) ∧
 ∃ (m81 : Nat), ((Go.CW.sliceLen v80) = (some m81)) ∧
 cond (((m81 : Nat) : Int) == (0 : Int))
 (withAddr (.pointer p0) fun a82 =>
 ∃ (o83 : Option Addr), ((Go.World.cell? w39 (Addr.add a82 6)) = (some (.pointer o83))) ∧
 Go.CW.Spec Tryz.prog 26 #[(.pointer o83), (.int .i64 (0 : Int)), (.int .i64 (8 : Int))] w39 fun v84 w85 =>
 ∃ (n86 : Int), ((v84 : Value) = (.int .i64 n86)) ∧
 j78 w85)
 (j78 w39)))))
 (fun j87 =>
 ∃ (n88 : Int), ((Go.World.cell? w6 (Addr.add ⟨w.heap.size, 0, none⟩ 0)) = (some (.int .i64 n88))) ∧
 cond (decide (n88 < (1 : Int)))
 (j87 true w6)
 (∃ (n89 : Int), ((Go.World.cell? w6 (Addr.add ⟨w.heap.size, 0, none⟩ 0)) = (some (.int .i64 n89))) ∧
 cond (decide (n89 > (18 : Int)))
 (j87 true w6)
 (∃ (v90 : Value), ((Go.World.cell? w6 (Addr.add ⟨w.heap.size, 0, none⟩ 3)) = (some v90)) ∧
 ∃ (m91 : Nat), ((Go.CW.sliceLen v90) = (some m91)) ∧
 j87 (decide (((m91 : Nat) : Int) > (1024 : Int))) w6))))

theorem mpath_Path_Submit_m_wp (p0 : Option Addr) (p1_0 : Int) (p1_1 : Int) (p1_2 : Int) (p1_3 : Value) (p1_4 : Int) (p1_5 : Int) (p1_6 : Int) (p1_7 : Bool) (w : World) (R : KV) (h : mpath_Path_Submit_m_F p0 p1_0 p1_1 p1_2 p1_3 p1_4 p1_5 p1_6 p1_7 w R) : Go.CW.Spec Tryz.prog 25 #[(.pointer p0), (.agg #[(.int .i64 p1_0), (.int .i64 p1_1), (.int .i64 p1_2), p1_3, (.int .u64 p1_4), (.int .u64 p1_5), (.int .i64 p1_6), (.bool p1_7)])] w R :=
  spec_of Tryz.func25 (by kernel_rfl) (show mpath_Path_Submit_m_F p0 p1_0 p1_1 p1_2 p1_3 p1_4 p1_5 p1_6 p1_7 w R = _ by kernel_rfl) h

/-- (*gemel/mpath.Path).Out -/
def mpath_Path_Out_m_F (p0 : Option Addr) (w : World) (R : KV) : Prop :=
 withAddr (.pointer p0) fun a0 =>
 ∃ (v1 : Value), ((Go.World.cell? w (Addr.add a0 4)) = (some v1)) ∧
 Go.CW.Spec Tryz.prog 90 #[v1] w fun v2 w3 =>
 withAddr (.pointer p0) fun a4 =>
 (St1 w3 (Addr.add a4 4)) ∧
 bindW (World.setCell w3 (Addr.add a4 4) (.slice none 0 0)) fun w5 =>
 R v2 w5

theorem mpath_Path_Out_m_wp (p0 : Option Addr) (w : World) (R : KV) (h : mpath_Path_Out_m_F p0 w R) : Go.CW.Spec Tryz.prog 27 #[(.pointer p0)] w R :=
  spec_of Tryz.func27 (by kernel_rfl) (show mpath_Path_Out_m_F p0 w R = _ by kernel_rfl) h

/-- (*gemel/mpath.Path).Tick -/
def mpath_Path_Tick_m_F (p0 : Option Addr) (w : World) (R : KV) : Prop :=
 withAddr (.pointer p0) fun a0 =>
 ∃ (o1 : Option Addr), ((Go.World.cell? w (Addr.add a0 6)) = (some (.pointer o1))) ∧
 Go.CW.Spec Tryz.prog 33 #[(.pointer o1)] w fun v2 w3 =>
 JoinP []
 (fun (w4 : World) =>
 withAddr (.pointer p0) fun a5 =>
 ∃ (v6 : Value), ((Go.World.cell? w4 (Addr.add a5 3)) = (some v6)) ∧
 ∃ (m7 : Nat), ((Go.CW.sliceLen v6) = (some m7)) ∧
 LoopP [.int .i64]
 (fun j8 => fun (n9 : Int) => fun (w10 : World) =>
 cond (decide (n9 < ((m7 : Nat) : Int)))
 (JoinP []
 (fun (w11 : World) =>
 j8 (IntKind.wrap .i64 (n9 + (1 : Int))) w11)
 (fun j12 =>
 ∃ (a13 : Addr), ((Go.CW.sliceAt v6 n9 9) = (some a13)) ∧
 ∃ (n14 : Int) (n15 : Int) (n16 : Int) (n17 : Int) (v18 : Value) (n19 : Int) (n20 : Int) (n21 : Int) (b22 : Bool), (ldCells w10 a13 9 #[(.int .u64 n14), (.int .i64 n15), (.int .i64 n16), (.int .i64 n17), v18, (.int .u64 n19), (.int .u64 n20), (.int .i64 n21), (.bool b22)]) ∧
 bindW (World.alloc w10 (.cells #[(.int .u64 (0 : Int)), (.int .i64 (0 : Int)), (.int .i64 (0 : Int)), (.int .i64 (0 : Int)), (.slice none 0 0), (.int .u64 (0 : Int)), (.int .u64 (0 : Int)), (.int .i64 (0 : Int)), (.bool false)] 178)) fun w23 =>
 (StRow w23 ⟨w10.heap.size, 0, none⟩ #[(.int .u64 n14), (.int .i64 n15), (.int .i64 n16), (.int .i64 n17), v18, (.int .u64 n19), (.int .u64 n20), (.int .i64 n21), (.bool b22)]) ∧
 bindW (stRow w23 ⟨w10.heap.size, 0, none⟩ #[(.int .u64 n14), (.int .i64 n15), (.int .i64 n16), (.int .i64 n17), v18, (.int .u64 n19), (.int .u64 n20), (.int .i64 n21), (.bool b22)]) fun w24 =>
 ∃ (n25 : Int), ((Go.World.cell? w24 (Addr.add ⟨w10.heap.size, 0, none⟩ 0)) = (some (.int .u64 n25))) ∧
 Go.CW.Spec Tryz.prog 98 #[v2, (.int .i64 (IntKind.wrap .i64 n25))] w24 fun v26 w27 =>
 ∃ (b28 : Bool), ((v26 : Value) = (.bool b28)) ∧
 cond (!b28)
 (j12 w27)
 (∃ (n29 : Int) (n30 : Int) (n31 : Int) (n32 : Int) (v33 : Value) (n34 : Int) (n35 : Int) (n36 : Int) (b37 : Bool), (ldCells w27 ⟨w10.heap.size, 0, none⟩ 9 #[(.int .u64 n29), (.int .i64 n30), (.int .i64 n31), (.int .i64 n32), v33, (.int .u64 n34), (.int .u64 n35), (.int .i64 n36), (.bool b37)]) ∧
 Go.CW.Spec Tryz.prog 86 #[(.pointer p0), (.agg #[(.int .u64 n29), (.int .i64 n30), (.int .i64 n31), (.int .i64 n32), v33, (.int .u64 n34), (.int .u64 n35), (.int .i64 n36), (.bool b37)])] w27 fun v38 w39 =>
 ((v38 : Value) = (.tuple #[])) ∧
 j12 w39)))
 (R (.tuple #[]) w10))
 (fun s40 => s40 (0 : Int) w4))
 (fun j41 =>
 Go.CW.Spec Tryz.prog 98 #[v2, (.int .i64 (0 : Int))] w3 fun v42 w43 =>
 ∃ (b44 : Bool), ((v42 : Value) = (.bool b44)) ∧
 cond b44
 (withAddr (.pointer p0) fun a45 =>
 ∃ (n46 : Int), ((Go.World.cell? w43 (Addr.add a45 1)) = (some (.int .i64 n46))) ∧
 withAddr (.pointer p0) fun a47 =>
 (St1 w43 (Addr.add a47 1)) ∧
 bindW (World.setCell w43 (Addr.add a47 1) (.int .i64 (IntKind.wrap .i64 ((1 : Int) - n46)))) fun w48 =>
 withAddr (.pointer p0) fun a49 =>
 ∃ (o50 : Option Addr), ((Go.World.cell? w48 (Addr.add a49 6)) = (some (.pointer o50))) ∧
 Go.CW.Spec Tryz.prog 26 #[(.pointer o50), (.int .i64 (0 : Int)), (.int .i64 (8 : Int))] w48 fun v51 w52 =>
 ∃ (n53 : Int), ((v51 : Value) = (.int .i64 n53)) ∧
 j41 w52)
 (j41 w43))

theorem mpath_Path_Tick_m_wp (p0 : Option Addr) (w : World) (R : KV) (h : mpath_Path_Tick_m_F p0 w R) : Go.CW.Spec Tryz.prog 32 #[(.pointer p0)] w R :=
  spec_of Tryz.func32 (by kernel_rfl) (show mpath_Path_Tick_m_F p0 w R = _ by kernel_rfl) h

/-- (*gemel/mpath.Path).Waiting -/
def mpath_Path_Waiting_m_F (p0 : Option Addr) (w : World) (R : KV) : Prop :=
 withAddr (.pointer p0) fun a0 =>
 ∃ (v1 : Value), ((Go.World.cell? w (Addr.add a0 3)) = (some v1)) ∧
 ∃ (m2 : Nat), ((Go.CW.sliceLen v1) = (some m2)) ∧
 LoopP [.val, .int .i64]
 (fun j3 => fun (v4 : Value) => fun (n5 : Int) => fun (w6 : World) =>
 cond (decide (n5 < ((m2 : Nat) : Int)))
 (∃ (a7 : Addr), ((Go.CW.sliceAt v1 n5 9) = (some a7)) ∧
 ∃ (n8 : Int) (n9 : Int) (n10 : Int) (n11 : Int) (v12 : Value) (n13 : Int) (n14 : Int) (n15 : Int) (b16 : Bool), (ldCells w6 a7 9 #[(.int .u64 n8), (.int .i64 n9), (.int .i64 n10), (.int .i64 n11), v12, (.int .u64 n13), (.int .u64 n14), (.int .i64 n15), (.bool b16)]) ∧
 bindW (World.alloc w6 (.cells #[(.int .u64 (0 : Int)), (.int .i64 (0 : Int)), (.int .i64 (0 : Int)), (.int .i64 (0 : Int)), (.slice none 0 0), (.int .u64 (0 : Int)), (.int .u64 (0 : Int)), (.int .i64 (0 : Int)), (.bool false)] 178)) fun w17 =>
 (StRow w17 ⟨w6.heap.size, 0, none⟩ #[(.int .u64 n8), (.int .i64 n9), (.int .i64 n10), (.int .i64 n11), v12, (.int .u64 n13), (.int .u64 n14), (.int .i64 n15), (.bool b16)]) ∧
 bindW (stRow w17 ⟨w6.heap.size, 0, none⟩ #[(.int .u64 n8), (.int .i64 n9), (.int .i64 n10), (.int .i64 n11), v12, (.int .u64 n13), (.int .u64 n14), (.int .i64 n15), (.bool b16)]) fun w18 =>
 ∃ (n19 : Int), ((Go.World.cell? w18 (Addr.add ⟨w6.heap.size, 0, none⟩ 0)) = (some (.int .u64 n19))) ∧
 bindW (World.alloc w18 (.cells #[(.int .u64 n19)] 38)) fun w20 =>
 ∃ (v21 : Value) (w22 : World), ((Sem.run @Go.Proofs.Tryz.prog (Go.Builtin.append_ #[81, 81] 81 #[v4, (.slice (some ⟨w18.heap.size, 0, none⟩) 1 1)]) w20) = (.ok v21 w22)) ∧
 j3 v21 (IntKind.wrap .i64 (n5 + (1 : Int))) w22)
 (Go.CW.Spec Tryz.prog 100 #[v4] w6 fun v23 w24 =>
 R v23 w24))
 (fun s25 => s25 (.slice none 0 0) (0 : Int) w)

theorem mpath_Path_Waiting_m_wp (p0 : Option Addr) (w : World) (R : KV) (h : mpath_Path_Waiting_m_F p0 w R) : Go.CW.Spec Tryz.prog 34 #[(.pointer p0)] w R :=
  spec_of Tryz.func34 (by kernel_rfl) (show mpath_Path_Waiting_m_F p0 w R = _ by kernel_rfl) h

/-- (*gemel/mpath.Path).Done -/
def mpath_Path_Done_m_F (p0 : Option Addr) (w : World) (R : KV) : Prop :=
 withAddr (.pointer p0) fun a0 =>
 ∃ (v1 : Value), ((Go.World.cell? w (Addr.add a0 5)) = (some v1)) ∧
 Go.CW.Spec Tryz.prog 101 #[v1] w fun v2 w3 =>
 withAddr (.pointer p0) fun a4 =>
 (St1 w3 (Addr.add a4 5)) ∧
 bindW (World.setCell w3 (Addr.add a4 5) (.slice none 0 0)) fun w5 =>
 R v2 w5

theorem mpath_Path_Done_m_wp (p0 : Option Addr) (w : World) (R : KV) (h : mpath_Path_Done_m_F p0 w R) : Go.CW.Spec Tryz.prog 35 #[(.pointer p0)] w R :=
  spec_of Tryz.func35 (by kernel_rfl) (show mpath_Path_Done_m_F p0 w R = _ by kernel_rfl) h

/-- (*gemel/mpath.Path).floor -/
def mpath_Path_floor_m_F (p0 : Option Addr) (w : World) (R : KV) : Prop :=
 withAddr (.pointer p0) fun a0 =>
 ∃ (v1 : Value), ((Go.World.cell? w (Addr.add a0 3)) = (some v1)) ∧
 ∃ (m2 : Nat), ((Go.CW.sliceLen v1) = (some m2)) ∧
 cond (((m2 : Nat) : Int) == (0 : Int))
 (withAddr (.pointer p0) fun a3 =>
 ∃ (n4 : Int), ((Go.World.cell? w (Addr.add a3 2)) = (some (.int .u64 n4))) ∧
 R (.int .u64 n4) w)
 (withAddr (.pointer p0) fun a5 =>
 ∃ (v6 : Value), ((Go.World.cell? w (Addr.add a5 3)) = (some v6)) ∧
 ∃ (a7 : Addr), ((Go.CW.sliceAt v6 (0 : Int) 9) = (some a7)) ∧
 ∃ (n8 : Int), ((Go.World.cell? w (Addr.add a7 0)) = (some (.int .u64 n8))) ∧
 R (.int .u64 n8) w)

theorem mpath_Path_floor_m_wp (p0 : Option Addr) (w : World) (R : KV) (h : mpath_Path_floor_m_F p0 w R) : Go.CW.Spec Tryz.prog 84 #[(.pointer p0)] w R :=
  spec_of Tryz.func84 (by kernel_rfl) (show mpath_Path_floor_m_F p0 w R = _ by kernel_rfl) h

/-- (*gemel/mpath.Path).send -/
def mpath_Path_send_m_F (p0 : Option Addr) (p1_0 : Int) (p1_1 : Int) (p1_2 : Int) (p1_3 : Int) (p1_4 : Value) (p1_5 : Int) (p1_6 : Int) (p1_7 : Int) (p1_8 : Bool) (w : World) (R : KV) : Prop :=
 bindW (World.alloc w (.cells #[(.int .u64 p1_0), (.int .i64 p1_1), (.int .i64 p1_2), (.int .i64 p1_3), p1_4, (.int .u64 p1_5), (.int .u64 p1_6), (.int .i64 p1_7), (.bool p1_8)] 178)) fun w0 =>
 bindW (World.drew w0) fun w1 =>
 withAddr (.pointer p0) fun a2 =>
 ∃ (v3 : Value), ((Go.World.cell? w1 (Addr.add a2 4)) = (some v3)) ∧
 withAddr (.pointer p0) fun a4 =>
 ∃ (n5 : Int), ((Go.World.cell? w1 (Addr.add a4 1)) = (some (.int .i64 n5))) ∧
 withAddr (.pointer p0) fun a6 =>
 ∃ (n7 : Int), ((Go.World.cell? w1 (Addr.add a6 0)) = (some (.int .i64 n7))) ∧
 ∃ (n8 : Int), ((Go.World.cell? w1 (Addr.add ⟨w.heap.size, 0, none⟩ 0)) = (some (.int .u64 n8))) ∧
 ∃ (n9 : Int) (n10 : Int) (n11 : Int) (v12 : Value) (n13 : Int) (n14 : Int) (n15 : Int) (b16 : Bool), (ldCells w1 (Addr.add ⟨w.heap.size, 0, none⟩ 1) 8 #[(.int .i64 n9), (.int .i64 n10), (.int .i64 n11), v12, (.int .u64 n13), (.int .u64 n14), (.int .i64 n15), (.bool b16)]) ∧
 bindW (World.drew w0) fun w17 =>
 Go.CW.Spec Tryz.prog 84 #[(.pointer p0)] w17 fun v18 w19 =>
 ∃ (n20 : Int), ((v18 : Value) = (.int .u64 n20)) ∧
 (∃ (v21 : Value), ((Go.World.cell? w19 (Addr.add a2 4)) = (some v21)) ∧
 (v21 : Value) = v3) ∧
 (∃ (n22 : Int), ((Go.World.cell? w19 (Addr.add a4 1)) = (some (.int .i64 n22))) ∧
 ((.int .i64 n22) : Value) = (.int .i64 n5)) ∧
 (∃ (n23 : Int), ((Go.World.cell? w19 (Addr.add a6 0)) = (some (.int .i64 n23))) ∧
 ((.int .i64 n23) : Value) = (.int .i64 n7)) ∧
 (∃ (n24 : Int), ((Go.World.cell? w19 (Addr.add ⟨w.heap.size, 0, none⟩ 0)) = (some (.int .u64 n24))) ∧
 ((.int .u64 n24) : Value) = (.int .u64 n8)) ∧
 (∃ (n25 : Int) (n26 : Int) (n27 : Int) (v28 : Value) (n29 : Int) (n30 : Int) (n31 : Int) (b32 : Bool), (ldCells w19 (Addr.add ⟨w.heap.size, 0, none⟩ 1) 8 #[(.int .i64 n25), (.int .i64 n26), (.int .i64 n27), v28, (.int .u64 n29), (.int .u64 n30), (.int .i64 n31), (.bool b32)]) ∧
 ((.agg #[(.int .i64 n25), (.int .i64 n26), (.int .i64 n27), v28, (.int .u64 n29), (.int .u64 n30), (.int .i64 n31), (.bool b32)]) : Value) = (.agg #[(.int .i64 n9), (.int .i64 n10), (.int .i64 n11), v12, (.int .u64 n13), (.int .u64 n14), (.int .i64 n15), (.bool b16)])) ∧
 Go.CW.Spec Tryz.prog 178 #[(.int .i64 n7), (.int .u64 n8), (.int .u64 n20), (.agg #[(.int .i64 n9), (.int .i64 n10), (.int .i64 n11), v12, (.int .u64 n13), (.int .u64 n14), (.int .i64 n15), (.bool b16)])] w19 fun v33 w34 =>
 (∃ (v35 : Value), ((Go.World.cell? w34 (Addr.add a2 4)) = (some v35)) ∧
 (v35 : Value) = v3) ∧
 (∃ (n36 : Int), ((Go.World.cell? w34 (Addr.add a4 1)) = (some (.int .i64 n36))) ∧
 ((.int .i64 n36) : Value) = (.int .i64 n5)) ∧
 oneK v33 ((∃ (v37 : Value), ((Go.World.cell? (World.alloc w34 (.cells #[(.int .i64 n5), v33] 75)) (Addr.add a2 4)) = (some v37)) ∧
 (v37 : Value) = v3) ∧
 bindW (World.alloc w34 (.cells #[(.int .i64 n5), v33] 75)) fun w38 =>
 bindW (World.alloc w34 (.cells #[(.int .i64 n5), v33] 75)) fun w39 =>
 ∃ (v40 : Value) (w41 : World), ((Sem.run @Go.Proofs.Tryz.prog (Go.Builtin.append_ #[71, 71] 71 #[v3, (.slice (some ⟨w34.heap.size, 0, none⟩) 1 1)]) w39) = (.ok v40 w41)) ∧
 withAddr (.pointer p0) fun a42 =>
 oneK v40 ((St1 w41 (Addr.add a42 4)) ∧
 bindW (World.setCell w41 (Addr.add a42 4) v40) fun w43 =>
 bindW (World.setCell w41 (Addr.add a42 4) v40) fun w44 =>
 bindW (World.drew w44) fun w45 =>
 withAddr (.pointer p0) fun a46 =>
 ∃ (o47 : Option Addr), ((Go.World.cell? w45 (Addr.add a46 6)) = (some (.pointer o47))) ∧
 ∃ (n48 : Int), ((Go.World.cell? w45 (Addr.add ⟨w.heap.size, 0, none⟩ 0)) = (some (.int .u64 n48))) ∧
 bindW (World.drew w44) fun w49 =>
 Go.CW.Spec Tryz.prog 26 #[(.pointer o47), (.int .i64 (IntKind.wrap .i64 n48)), (.int .i64 (4 : Int))] w49 fun v50 w51 =>
 ∃ (n52 : Int), ((v50 : Value) = (.int .i64 n52)) ∧
 R (.tuple #[]) w51))

theorem mpath_Path_send_m_wp (p0 : Option Addr) (p1_0 : Int) (p1_1 : Int) (p1_2 : Int) (p1_3 : Int) (p1_4 : Value) (p1_5 : Int) (p1_6 : Int) (p1_7 : Int) (p1_8 : Bool) (w : World) (R : KV) (h : mpath_Path_send_m_F p0 p1_0 p1_1 p1_2 p1_3 p1_4 p1_5 p1_6 p1_7 p1_8 w R) : Go.CW.Spec Tryz.prog 86 #[(.pointer p0), (.agg #[(.int .u64 p1_0), (.int .i64 p1_1), (.int .i64 p1_2), (.int .i64 p1_3), p1_4, (.int .u64 p1_5), (.int .u64 p1_6), (.int .i64 p1_7), (.bool p1_8)])] w R :=
  spec_of Tryz.func86 (by kernel_rfl) (show mpath_Path_send_m_F p0 p1_0 p1_1 p1_2 p1_3 p1_4 p1_5 p1_6 p1_7 p1_8 w R = _ by kernel_rfl) h

/-- gemel/node.Request -/
def node_Request_F (p0 : Int) (p1 : Int) (p2 : Int) (p3_0 : Int) (p3_1 : Int) (p3_2 : Int) (p3_3 : Value) (p3_4 : Int) (p3_5 : Int) (p3_6 : Int) (p3_7 : Bool) (w : World) (R : KV) : Prop :=
 bindW (World.alloc w (.cells #[(.int .i64 p3_0), (.int .i64 p3_1), (.int .i64 p3_2), p3_3, (.int .u64 p3_4), (.int .u64 p3_5), (.int .i64 p3_6), (.bool p3_7)] 40)) fun w0 =>
 bindW (World.alloc w0 (.cells #[(.int .u8 (1 : Int))] 5)) fun w1 =>
 ∃ (n2 : Int) (n3 : Int) (n4 : Int) (v5 : Value) (n6 : Int) (n7 : Int) (n8 : Int) (b9 : Bool), (ldCells w1 ⟨w.heap.size, 0, none⟩ 8 #[(.int .i64 n2), (.int .i64 n3), (.int .i64 n4), v5, (.int .u64 n6), (.int .u64 n7), (.int .i64 n8), (.bool b9)]) ∧
 Go.CW.Spec Tryz.prog 248 #[(.agg #[(.int .i64 p0), (.int .u64 p1), (.int .u64 p2), (.int .i64 n2), (.int .i64 n3), (.int .i64 n4), v5, (.int .u64 n6), (.int .u64 n7), (.int .i64 n8), (.bool b9)])] w1 fun v10 w11 =>
 ∃ (v12 : Value) (w13 : World), ((Sem.run @Go.Proofs.Tryz.prog (Go.Builtin.append_ #[34, 34] 34 #[(.slice (some ⟨w0.heap.size, 0, none⟩) 1 1), v10]) w11) = (.ok v12 w13)) ∧
 Go.CW.Spec Tryz.prog 218 #[v12] w13 fun v14 w15 =>
 R v14 w15

theorem node_Request_wp (p0 : Int) (p1 : Int) (p2 : Int) (p3_0 : Int) (p3_1 : Int) (p3_2 : Int) (p3_3 : Value) (p3_4 : Int) (p3_5 : Int) (p3_6 : Int) (p3_7 : Bool) (w : World) (R : KV) (h : node_Request_F p0 p1 p2 p3_0 p3_1 p3_2 p3_3 p3_4 p3_5 p3_6 p3_7 w R) : Go.CW.Spec Tryz.prog 178 #[(.int .i64 p0), (.int .u64 p1), (.int .u64 p2), (.agg #[(.int .i64 p3_0), (.int .i64 p3_1), (.int .i64 p3_2), p3_3, (.int .u64 p3_4), (.int .u64 p3_5), (.int .i64 p3_6), (.bool p3_7)])] w R :=
  spec_of Tryz.func178 (by kernel_rfl) (show node_Request_F p0 p1 p2 p3_0 p3_1 p3_2 p3_3 p3_4 p3_5 p3_6 p3_7 w R = _ by kernel_rfl) h

/-- (gemel/node.order).bytes -/
def node_order_bytes_m_F (p0_0 : Int) (p0_1 : Int) (p0_2 : Int) (p0_3 : Int) (p0_4 : Int) (p0_5 : Int) (p0_6 : Value) (p0_7 : Int) (p0_8 : Int) (p0_9 : Int) (p0_10 : Bool) (w : World) (R : KV) : Prop :=
 bindW (World.alloc w (.cells #[(.int .i64 p0_0), (.int .u64 p0_1), (.int .u64 p0_2), (.int .i64 p0_3), (.int .i64 p0_4), (.int .i64 p0_5), p0_6, (.int .u64 p0_7), (.int .u64 p0_8), (.int .i64 p0_9), (.bool p0_10)] 367)) fun w0 =>
 ∃ (n1 : Int), ((Go.World.cell? w0 (Addr.add ⟨w.heap.size, 0, none⟩ 0)) = (some (.int .i64 n1))) ∧
 Go.CW.Spec Tryz.prog 120 #[(.slice none 0 0), (.int .u64 (IntKind.wrap .u64 n1)), (.int .i64 (8 : Int))] w0 fun v2 w3 =>
 ∃ (n4 : Int), ((Go.World.cell? w3 (Addr.add ⟨w.heap.size, 0, none⟩ 1)) = (some (.int .u64 n4))) ∧
 ∃ (n5 : Int), ((Go.World.cell? w3 (Addr.add ⟨w.heap.size, 0, none⟩ 2)) = (some (.int .u64 n5))) ∧
 ∃ (n6 : Int), ((Go.World.cell? w3 (Addr.add (Addr.add ⟨w.heap.size, 0, none⟩ 3) 0)) = (some (.int .i64 n6))) ∧
 ∃ (n7 : Int), ((Go.World.cell? w3 (Addr.add (Addr.add ⟨w.heap.size, 0, none⟩ 3) 1)) = (some (.int .i64 n7))) ∧
 ∃ (n8 : Int), ((Go.World.cell? w3 (Addr.add (Addr.add ⟨w.heap.size, 0, none⟩ 3) 2)) = (some (.int .i64 n8))) ∧
 ∃ (n9 : Int), ((Go.World.cell? w3 (Addr.add (Addr.add ⟨w.heap.size, 0, none⟩ 3) 4)) = (some (.int .u64 n9))) ∧
 ∃ (n10 : Int), ((Go.World.cell? w3 (Addr.add (Addr.add ⟨w.heap.size, 0, none⟩ 3) 5)) = (some (.int .u64 n10))) ∧
 ∃ (n11 : Int), ((Go.World.cell? w3 (Addr.add (Addr.add ⟨w.heap.size, 0, none⟩ 3) 6)) = (some (.int .i64 n11))) ∧
 bindW (World.alloc w3 (.cells #[(.int .u64 n4), (.int .u64 n5), (.int .u64 (IntKind.wrap .u64 n6)), (.int .u64 (IntKind.wrap .u64 n7)), (.int .u64 (IntKind.wrap .u64 n8)), (.int .u64 n9), (.int .u64 n10), (.int .u64 (IntKind.wrap .u64 n11))] 38)) fun w12 =>
 ∃ (m13 : Nat), ((Go.CW.sliceLen (.slice (some ⟨w3.heap.size, 0, none⟩) 8 8)) = (some m13)) ∧
 LoopP [.val, .int .i64]
 (fun j14 => fun (v15 : Value) => fun (n16 : Int) => fun (w17 : World) =>
 cond (decide (n16 < ((m13 : Nat) : Int)))
 (∃ (a18 : Addr), ((Go.CW.sliceAt (.slice (some ⟨w3.heap.size, 0, none⟩) 8 8) n16 1) = (some a18)) ∧
 ∃ (n19 : Int), ((Go.World.cell? w17 a18) = (some (.int .u64 n19))) ∧
 Go.CW.Spec Tryz.prog 120 #[v15, (.int .u64 n19), (.int .i64 (8 : Int))] w17 fun v20 w21 =>
 j14 v20 (IntKind.wrap .i64 (n16 + (1 : Int))) w21)
 (bindW (World.drew w17) fun w22 =>
 ∃ (b23 : Bool), ((Go.World.cell? w22 (Addr.add (Addr.add ⟨w.heap.size, 0, none⟩ 3) 7)) = (some (.bool b23))) ∧
 ∃ (v24 : Value), ((Go.World.cell? w22 (Addr.add (Addr.add ⟨w.heap.size, 0, none⟩ 3) 3)) = (some v24)) ∧
 bindW (World.drew w17) fun w25 =>
 Go.CW.Spec Tryz.prog 294 #[(.bool b23)] w25 fun v26 w27 =>
 ∃ (n28 : Int), ((v26 : Value) = (.int .u64 n28)) ∧
 (∃ (v29 : Value), ((Go.World.cell? w27 (Addr.add (Addr.add ⟨w.heap.size, 0, none⟩ 3) 3)) = (some v29)) ∧
 (v29 : Value) = v24) ∧
 Go.CW.Spec Tryz.prog 120 #[v15, (.int .u64 n28), (.int .i64 (1 : Int))] w27 fun v30 w31 =>
 (∃ (v32 : Value), ((Go.World.cell? w31 (Addr.add (Addr.add ⟨w.heap.size, 0, none⟩ 3) 3)) = (some v32)) ∧
 (v32 : Value) = v24) ∧
 ∃ (v33 : Value) (w34 : World), ((Sem.run @Go.Proofs.Tryz.prog (Go.Builtin.append_ #[34, 34] 34 #[v30, v24]) w31) = (.ok v33 w34)) ∧
 R v33 w34))
 (fun s35 => s35 v2 (0 : Int) w12)

theorem node_order_bytes_m_wp (p0_0 : Int) (p0_1 : Int) (p0_2 : Int) (p0_3 : Int) (p0_4 : Int) (p0_5 : Int) (p0_6 : Value) (p0_7 : Int) (p0_8 : Int) (p0_9 : Int) (p0_10 : Bool) (w : World) (R : KV) (h : node_order_bytes_m_F p0_0 p0_1 p0_2 p0_3 p0_4 p0_5 p0_6 p0_7 p0_8 p0_9 p0_10 w R) : Go.CW.Spec Tryz.prog 248 #[(.agg #[(.int .i64 p0_0), (.int .u64 p0_1), (.int .u64 p0_2), (.int .i64 p0_3), (.int .i64 p0_4), (.int .i64 p0_5), p0_6, (.int .u64 p0_7), (.int .u64 p0_8), (.int .i64 p0_9), (.bool p0_10)])] w R :=
  spec_of Tryz.func248 (by kernel_rfl) (show node_order_bytes_m_F p0_0 p0_1 p0_2 p0_3 p0_4 p0_5 p0_6 p0_7 p0_8 p0_9 p0_10 w R = _ by kernel_rfl) h

/-- gemel/node.bit -/
def node_bit_F (p0 : Bool) (w : World) (R : KV) : Prop :=
 cond p0
 (R (.int .u64 (1 : Int)) w)
 (R (.int .u64 (0 : Int)) w)

theorem node_bit_wp (p0 : Bool) (w : World) (R : KV) (h : node_bit_F p0 w R) : Go.CW.Spec Tryz.prog 294 #[(.bool p0)] w R :=
  spec_of Tryz.func294 (by kernel_rfl) (show node_bit_F p0 w R = _ by kernel_rfl) h

/-- slices.Clip[[]gemel/node.Packet,gemel/node.Packet] -/
def slices_Clip_90_F (p0 : Value) (w : World) (R : KV) : Prop :=
 ∃ (m0 : Nat), ((Go.CW.sliceLen p0) = (some m0)) ∧
 ∃ (m1 : Nat), ((Go.CW.sliceLen p0) = (some m1)) ∧
 ∃ (v2 : Value), ((Go.CW.subSlice p0 2 none (some (.int .i64 ((m0 : Nat) : Int))) (some (.int .i64 ((m1 : Nat) : Int)))) = (some v2)) ∧
 R v2 w

theorem slices_Clip_90_wp (p0 : Value) (w : World) (R : KV) (h : slices_Clip_90_F p0 w R) : Go.CW.Spec Tryz.prog 90 #[p0] w R :=
  spec_of Tryz.func90 (by kernel_rfl) (show slices_Clip_90_F p0 w R = _ by kernel_rfl) h

/-- slices.Clip[[]gemel/mpath.Done,gemel/mpath.Done] -/
def slices_Clip_101_F (p0 : Value) (w : World) (R : KV) : Prop :=
 ∃ (m0 : Nat), ((Go.CW.sliceLen p0) = (some m0)) ∧
 ∃ (m1 : Nat), ((Go.CW.sliceLen p0) = (some m1)) ∧
 ∃ (v2 : Value), ((Go.CW.subSlice p0 6 none (some (.int .i64 ((m0 : Nat) : Int))) (some (.int .i64 ((m1 : Nat) : Int)))) = (some v2)) ∧
 R v2 w

theorem slices_Clip_101_wp (p0 : Value) (w : World) (R : KV) (h : slices_Clip_101_F p0 w R) : Go.CW.Spec Tryz.prog 101 #[p0] w R :=
  spec_of Tryz.func101 (by kernel_rfl) (show slices_Clip_101_F p0 w R = _ by kernel_rfl) h

/-- slices.Contains[[]int,int] -/
def slices_Contains_98_F (p0 : Value) (p1 : Int) (w : World) (R : KV) : Prop :=
 Go.CW.Spec Tryz.prog 186 #[p0, (.int .i64 p1)] w fun v0 w1 =>
 ∃ (n2 : Int), ((v0 : Value) = (.int .i64 n2)) ∧
 R (.bool (decide (n2 ≥ (0 : Int)))) w1

theorem slices_Contains_98_wp (p0 : Value) (p1 : Int) (w : World) (R : KV) (h : slices_Contains_98_F p0 p1 w R) : Go.CW.Spec Tryz.prog 98 #[p0, (.int .i64 p1)] w R :=
  spec_of Tryz.func98 (by kernel_rfl) (show slices_Contains_98_F p0 p1 w R = _ by kernel_rfl) h

/-- slices.Index[[]int,int] -/
def slices_Index_186_F (p0 : Value) (p1 : Int) (w : World) (R : KV) : Prop :=
 ∃ (m0 : Nat), ((Go.CW.sliceLen p0) = (some m0)) ∧
 LoopP [.int .i64]
 (fun j1 => fun (n2 : Int) => fun (w3 : World) =>
 cond (decide (n2 < ((m0 : Nat) : Int)))
 (∃ (a4 : Addr), ((Go.CW.sliceAt p0 n2 1) = (some a4)) ∧
 ∃ (n5 : Int), ((Go.World.cell? w3 a4) = (some (.int .i64 n5))) ∧
 cond (p1 == n5)
 (R (.int .i64 n2) w3)
 (j1 (IntKind.wrap .i64 (n2 + (1 : Int))) w3))
 (R (.int .i64 (-1 : Int)) w3))
 (fun s6 => s6 (0 : Int) w)

theorem slices_Index_186_wp (p0 : Value) (p1 : Int) (w : World) (R : KV) (h : slices_Index_186_F p0 p1 w R) : Go.CW.Spec Tryz.prog 186 #[p0, (.int .i64 p1)] w R :=
  spec_of Tryz.func186 (by kernel_rfl) (show slices_Index_186_F p0 p1 w R = _ by kernel_rfl) h

/-- slices.Clip[[]uint64,uint64] -/
def slices_Clip_100_F (p0 : Value) (w : World) (R : KV) : Prop :=
 ∃ (m0 : Nat), ((Go.CW.sliceLen p0) = (some m0)) ∧
 ∃ (m1 : Nat), ((Go.CW.sliceLen p0) = (some m1)) ∧
 ∃ (v2 : Value), ((Go.CW.subSlice p0 1 none (some (.int .i64 ((m0 : Nat) : Int))) (some (.int .i64 ((m1 : Nat) : Int)))) = (some v2)) ∧
 R v2 w

theorem slices_Clip_100_wp (p0 : Value) (w : World) (R : KV) (h : slices_Clip_100_F p0 w R) : Go.CW.Spec Tryz.prog 100 #[p0] w R :=
  spec_of Tryz.func100 (by kernel_rfl) (show slices_Clip_100_F p0 w R = _ by kernel_rfl) h

/-- gemel/net.New -/
def net_New_F (p0 : Int) (w : World) (R : KV) : Prop :=
 JoinP [.bool]
 (fun (b0 : Bool) => fun (w1 : World) =>
 cond b0
 (R (.tuple #[(.pointer none), (.int .i64 (1 : Int))]) w1)
 (bindW (World.alloc w1 (.cells #[(.int .i64 p0), (.slice none 0 0), (.int .i64 (0 : Int))] 173)) fun w2 =>
 R (.tuple #[(.pointer (some ⟨w1.heap.size, 0, none⟩)), (.int .i64 (0 : Int))]) w2))
 (fun j3 =>
 cond (decide (p0 < (1 : Int)))
 (j3 true w)
 (j3 (decide (p0 > (64 : Int))) w))

theorem net_New_wp (p0 : Int) (w : World) (R : KV) (h : net_New_F p0 w R) : Go.CW.Spec Tryz.prog 23 #[(.int .i64 p0)] w R :=
  spec_of Tryz.func23 (by kernel_rfl) (show net_New_F p0 w R = _ by kernel_rfl) h

/-- (*gemel/net.Net).Send -/
def net_Net_Send_m_F (p0 : Option Addr) (p1 : Int) (p2 : Int) (p3 : Value) (w : World) (R : KV) : Prop :=
 JoinP [.bool]
 (fun (b0 : Bool) => fun (w1 : World) =>
 cond b0
 (R (.int .i64 (1 : Int)) w1)
 (∃ (m2 : Nat), ((Go.CW.sliceLen p3) = (some m2)) ∧
 cond (decide (((m2 : Nat) : Int) > (8192 : Int)))
 (R (.int .i64 (5 : Int)) w1)
 (withAddr (.pointer p0) fun a3 =>
 ∃ (v4 : Value), ((Go.World.cell? w1 (Addr.add a3 1)) = (some v4)) ∧
 ∃ (m5 : Nat), ((Go.CW.sliceLen v4) = (some m5)) ∧
 cond (decide (((m5 : Nat) : Int) ≥ (4096 : Int)))
 (R (.int .i64 (7 : Int)) w1)
 (bindW (World.drew w1) fun w6 =>
 withAddr (.pointer p0) fun a7 =>
 ∃ (v8 : Value), ((Go.World.cell? w6 (Addr.add a7 1)) = (some v8)) ∧
 oneK p3 (bindW (World.drew w1) fun w9 =>
 Go.CW.Spec Tryz.prog 92 #[(.agg #[(.int .i64 p1), (.int .i64 p2), p3])] w9 fun v10 w11 =>
 ∃ (n12 : Int) (n13 : Int) (v14 : Value), ((v10 : Value) = (.agg #[(.int .i64 n12), (.int .i64 n13), v14])) ∧
 (∃ (v15 : Value), ((Go.World.cell? w11 (Addr.add a7 1)) = (some v15)) ∧
 (v15 : Value) = v8) ∧
 (∃ (v16 : Value), ((Go.World.cell? (World.alloc w11 (.cells #[(.int .i64 n12), (.int .i64 n13), v14] 186)) (Addr.add a7 1)) = (some v16)) ∧
 (v16 : Value) = v8) ∧
 bindW (World.alloc w11 (.cells #[(.int .i64 n12), (.int .i64 n13), v14] 186)) fun w17 =>
 bindW (World.alloc w11 (.cells #[(.int .i64 n12), (.int .i64 n13), v14] 186)) fun w18 =>
 ∃ (v19 : Value) (w20 : World), ((Sem.run @Go.Proofs.Tryz.prog (Go.Builtin.append_ #[171, 171] 171 #[v8, (.slice (some ⟨w11.heap.size, 0, none⟩) 1 1)]) w18) = (.ok v19 w20)) ∧
 withAddr (.pointer p0) fun a21 =>
 oneK v19 ((St1 w20 (Addr.add a21 1)) ∧
 bindW (World.setCell w20 (Addr.add a21 1) v19) fun w22 =>
 bindW (World.setCell w20 (Addr.add a21 1) v19) fun w23 =>
 withAddr (.pointer p0) fun a24 =>
 ∃ (n25 : Int), ((Go.World.cell? w23 (Addr.add a24 2)) = (some (.int .i64 n25))) ∧
 withAddr (.pointer p0) fun a26 =>
 (St1 w23 (Addr.add a26 2)) ∧
 bindW (World.setCell w23 (Addr.add a26 2) (.int .i64 (IntKind.wrap .i64 (n25 + (1 : Int))))) fun w27 =>
 R (.int .i64 (0 : Int)) w27))))))
 (fun j28 =>
 Go.CW.Spec Tryz.prog 91 #[(.pointer p0), (.int .i64 p1)] w fun v29 w30 =>
 ∃ (b31 : Bool), ((v29 : Value) = (.bool b31)) ∧
 cond (!b31)
 (j28 true w30)
 (Go.CW.Spec Tryz.prog 91 #[(.pointer p0), (.int .i64 p2)] w30 fun v32 w33 =>
 ∃ (b34 : Bool), ((v32 : Value) = (.bool b34)) ∧
 j28 (!b34) w33))

theorem net_Net_Send_m_wp (p0 : Option Addr) (p1 : Int) (p2 : Int) (p3 : Value) (w : World) (R : KV) (h : net_Net_Send_m_F p0 p1 p2 p3 w R) : Go.CW.Spec Tryz.prog 28 #[(.pointer p0), (.int .i64 p1), (.int .i64 p2), p3] w R :=
  spec_of Tryz.func28 (by kernel_rfl) (show net_Net_Send_m_F p0 p1 p2 p3 w R = _ by kernel_rfl) h

/-- (*gemel/net.Net).Waiting -/
def net_Net_Waiting_m_F (p0 : Option Addr) (w : World) (R : KV) : Prop :=
 withAddr (.pointer p0) fun a0 =>
 ∃ (v1 : Value), ((Go.World.cell? w (Addr.add a0 1)) = (some v1)) ∧
 ∃ (m2 : Nat), ((Go.CW.sliceLen v1) = (some m2)) ∧
 R (.int .i64 ((m2 : Nat) : Int)) w

theorem net_Net_Waiting_m_wp (p0 : Option Addr) (w : World) (R : KV) (h : net_Net_Waiting_m_F p0 w R) : Go.CW.Spec Tryz.prog 30 #[(.pointer p0)] w R :=
  spec_of Tryz.func30 (by kernel_rfl) (show net_Net_Waiting_m_F p0 w R = _ by kernel_rfl) h

/-- (*gemel/net.Net).Drop -/
def net_Net_Drop_m_F (p0 : Option Addr) (p1 : Int) (w : World) (R : KV) : Prop :=
 Go.CW.Spec Tryz.prog 97 #[(.pointer p0), (.int .i64 p1)] w fun v0 w1 =>
 ∃ (n2 : Int) (n3 : Int) (v4 : Value) (b5 : Bool), ((v0 : Value) = (.tuple #[(.agg #[(.int .i64 n2), (.int .i64 n3), v4]), (.bool b5)])) ∧
 bindW (World.alloc w1 (.cells #[(.int .i64 (0 : Int)), (.int .i64 (0 : Int)), (.slice none 0 0)] 186)) fun w6 =>
 (StRow w6 ⟨w1.heap.size, 0, none⟩ #[(.int .i64 n2), (.int .i64 n3), v4]) ∧
 bindW (stRow w6 ⟨w1.heap.size, 0, none⟩ #[(.int .i64 n2), (.int .i64 n3), v4]) fun w7 =>
 R (.bool b5) w7

theorem net_Net_Drop_m_wp (p0 : Option Addr) (p1 : Int) (w : World) (R : KV) (h : net_Net_Drop_m_F p0 p1 w R) : Go.CW.Spec Tryz.prog 31 #[(.pointer p0), (.int .i64 p1)] w R :=
  spec_of Tryz.func31 (by kernel_rfl) (show net_Net_Drop_m_F p0 p1 w R = _ by kernel_rfl) h

/-- (*gemel/net.Net).host -/
def net_Net_host_m_F (p0 : Option Addr) (p1 : Int) (w : World) (R : KV) : Prop :=
 JoinP [.bool]
 (fun (b0 : Bool) => fun (w1 : World) =>
 R (.bool b0) w1)
 (fun j2 =>
 cond (decide (p1 ≥ (0 : Int)))
 (withAddr (.pointer p0) fun a3 =>
 ∃ (n4 : Int), ((Go.World.cell? w (Addr.add a3 0)) = (some (.int .i64 n4))) ∧
 j2 (decide (p1 < n4)) w)
 (j2 false w))

theorem net_Net_host_m_wp (p0 : Option Addr) (p1 : Int) (w : World) (R : KV) (h : net_Net_host_m_F p0 p1 w R) : Go.CW.Spec Tryz.prog 91 #[(.pointer p0), (.int .i64 p1)] w R :=
  spec_of Tryz.func91 (by kernel_rfl) (show net_Net_host_m_F p0 p1 w R = _ by kernel_rfl) h

/-- gemel/net.apart -/
def net_apart_F (p0_0 : Int) (p0_1 : Int) (p0_2 : Value) (w : World) (R : KV) : Prop :=
 bindW (World.alloc w (.cells #[(.int .i64 p0_0), (.int .i64 p0_1), p0_2] 186)) fun w0 =>
 bindW (World.alloc w0 (.cells #[(.int .i64 (0 : Int)), (.int .i64 (0 : Int)), (.slice none 0 0)] 186)) fun w1 =>
 ∃ (v2 : Value), ((Go.World.cell? w1 (Addr.add ⟨w.heap.size, 0, none⟩ 2)) = (some v2)) ∧
 Go.CW.Spec Tryz.prog 85 #[v2] w1 fun v3 w4 =>
 Go.CW.Spec Tryz.prog 96 #[v3] w4 fun v5 w6 =>
 oneK v5 ((St1 w6 (Addr.add ⟨w.heap.size, 0, none⟩ 2)) ∧
 bindW (World.setCell w6 (Addr.add ⟨w.heap.size, 0, none⟩ 2) v5) fun w7 =>
 ∃ (n8 : Int) (n9 : Int) (v10 : Value), (ldCells w7 ⟨w.heap.size, 0, none⟩ 3 #[(.int .i64 n8), (.int .i64 n9), v10]) ∧
 (StRow w7 ⟨w0.heap.size, 0, none⟩ #[(.int .i64 n8), (.int .i64 n9), v10]) ∧
 bindW (stRow w7 ⟨w0.heap.size, 0, none⟩ #[(.int .i64 n8), (.int .i64 n9), v10]) fun w11 =>
 ∃ (n12 : Int) (n13 : Int) (v14 : Value), (ldCells w11 ⟨w0.heap.size, 0, none⟩ 3 #[(.int .i64 n12), (.int .i64 n13), v14]) ∧
 R (.agg #[(.int .i64 n12), (.int .i64 n13), v14]) w11)

theorem net_apart_wp (p0_0 : Int) (p0_1 : Int) (p0_2 : Value) (w : World) (R : KV) (h : net_apart_F p0_0 p0_1 p0_2 w R) : Go.CW.Spec Tryz.prog 92 #[(.agg #[(.int .i64 p0_0), (.int .i64 p0_1), p0_2])] w R :=
  spec_of Tryz.func92 (by kernel_rfl) (show net_apart_F p0_0 p0_1 p0_2 w R = _ by kernel_rfl) h

/-- (*gemel/net.Net).Deliver -/
def net_Net_Deliver_m_F (p0 : Option Addr) (p1 : Int) (w : World) (R : KV) : Prop :=
 bindW (World.alloc w (.cells #[(.int .i64 (0 : Int)), (.int .i64 (0 : Int)), (.slice none 0 0)] 186)) fun w0 =>
 Go.CW.Spec Tryz.prog 184 #[(.pointer p0), (.int .i64 p1)] w0 fun v1 w2 =>
 ∃ (n3 : Int) (n4 : Int) (v5 : Value) (b6 : Bool), ((v1 : Value) = (.tuple #[(.agg #[(.int .i64 n3), (.int .i64 n4), v5]), (.bool b6)])) ∧
 bindW (World.alloc w2 (.cells #[(.int .i64 (0 : Int)), (.int .i64 (0 : Int)), (.slice none 0 0)] 186)) fun w7 =>
 (StRow w7 ⟨w2.heap.size, 0, none⟩ #[(.int .i64 n3), (.int .i64 n4), v5]) ∧
 bindW (stRow w7 ⟨w2.heap.size, 0, none⟩ #[(.int .i64 n3), (.int .i64 n4), v5]) fun w8 =>
 JoinP []
 (fun (w9 : World) =>
 ∃ (n10 : Int) (n11 : Int) (v12 : Value), (ldCells w9 ⟨w2.heap.size, 0, none⟩ 3 #[(.int .i64 n10), (.int .i64 n11), v12]) ∧
 (StRow w9 ⟨w.heap.size, 0, none⟩ #[(.int .i64 n10), (.int .i64 n11), v12]) ∧
 bindW (stRow w9 ⟨w.heap.size, 0, none⟩ #[(.int .i64 n10), (.int .i64 n11), v12]) fun w13 =>
 ∃ (n14 : Int) (n15 : Int) (v16 : Value), (ldCells w13 ⟨w.heap.size, 0, none⟩ 3 #[(.int .i64 n14), (.int .i64 n15), v16]) ∧
 R (.tuple #[(.agg #[(.int .i64 n14), (.int .i64 n15), v16]), (.bool b6)]) w13)
 (fun j17 =>
 cond b6
 (withAddr (.pointer p0) fun a18 =>
 ∃ (v19 : Value), ((Go.World.cell? w8 (Addr.add a18 1)) = (some v19)) ∧
 Go.CW.Spec Tryz.prog 185 #[v19, (.int .i64 p1), (.int .i64 (IntKind.wrap .i64 (p1 + (1 : Int))))] w8 fun v20 w21 =>
 withAddr (.pointer p0) fun a22 =>
 oneK v20 ((St1 w21 (Addr.add a22 1)) ∧
 bindW (World.setCell w21 (Addr.add a22 1) v20) fun w23 =>
 j17 w23))
 (j17 w8))

theorem net_Net_Deliver_m_wp (p0 : Option Addr) (p1 : Int) (w : World) (R : KV) (h : net_Net_Deliver_m_F p0 p1 w R) : Go.CW.Spec Tryz.prog 97 #[(.pointer p0), (.int .i64 p1)] w R :=
  spec_of Tryz.func97 (by kernel_rfl) (show net_Net_Deliver_m_F p0 p1 w R = _ by kernel_rfl) h

/-- (*gemel/net.Net).Packet -/
def net_Net_Packet_m_F (p0 : Option Addr) (p1 : Int) (w : World) (R : KV) : Prop :=
 bindW (World.alloc w (.cells #[(.int .i64 (0 : Int)), (.int .i64 (0 : Int)), (.slice none 0 0)] 186)) fun w0 =>
 Go.CW.Spec Tryz.prog 251 #[(.pointer p0), (.int .i64 p1)] w0 fun v1 w2 =>
 ∃ (b3 : Bool), ((v1 : Value) = (.bool b3)) ∧
 cond (!b3)
 ((StRow w2 ⟨w.heap.size, 0, none⟩ #[(.int .i64 (0 : Int)), (.int .i64 (0 : Int)), (.slice none 0 0)]) ∧
 bindW (stRow w2 ⟨w.heap.size, 0, none⟩ #[(.int .i64 (0 : Int)), (.int .i64 (0 : Int)), (.slice none 0 0)]) fun w4 =>
 ∃ (n5 : Int) (n6 : Int) (v7 : Value), (ldCells w4 ⟨w.heap.size, 0, none⟩ 3 #[(.int .i64 n5), (.int .i64 n6), v7]) ∧
 R (.tuple #[(.agg #[(.int .i64 n5), (.int .i64 n6), v7]), (.bool false)]) w4)
 (withAddr (.pointer p0) fun a8 =>
 ∃ (v9 : Value), ((Go.World.cell? w2 (Addr.add a8 1)) = (some v9)) ∧
 ∃ (a10 : Addr), ((Go.CW.sliceAt v9 p1 3) = (some a10)) ∧
 ∃ (n11 : Int) (n12 : Int) (v13 : Value), (ldCells w2 a10 3 #[(.int .i64 n11), (.int .i64 n12), v13]) ∧
 Go.CW.Spec Tryz.prog 92 #[(.agg #[(.int .i64 n11), (.int .i64 n12), v13])] w2 fun v14 w15 =>
 ∃ (n16 : Int) (n17 : Int) (v18 : Value), ((v14 : Value) = (.agg #[(.int .i64 n16), (.int .i64 n17), v18])) ∧
 (StRow w15 ⟨w.heap.size, 0, none⟩ #[(.int .i64 n16), (.int .i64 n17), v18]) ∧
 bindW (stRow w15 ⟨w.heap.size, 0, none⟩ #[(.int .i64 n16), (.int .i64 n17), v18]) fun w19 =>
 ∃ (n20 : Int) (n21 : Int) (v22 : Value), (ldCells w19 ⟨w.heap.size, 0, none⟩ 3 #[(.int .i64 n20), (.int .i64 n21), v22]) ∧
 R (.tuple #[(.agg #[(.int .i64 n20), (.int .i64 n21), v22]), (.bool true)]) w19)

theorem net_Net_Packet_m_wp (p0 : Option Addr) (p1 : Int) (w : World) (R : KV) (h : net_Net_Packet_m_F p0 p1 w R) : Go.CW.Spec Tryz.prog 184 #[(.pointer p0), (.int .i64 p1)] w R :=
  spec_of Tryz.func184 (by kernel_rfl) (show net_Net_Packet_m_F p0 p1 w R = _ by kernel_rfl) h

/-- slices.Delete[[]gemel/net.Packet,gemel/net.Packet] -/
def slices_Delete_185_F (p0 : Value) (p1 : Int) (p2 : Int) (w : World) (R : KV) : Prop :=
 ∃ (m0 : Nat), ((Go.CW.sliceLen p0) = (some m0)) ∧
 ∃ (v1 : Value), ((Go.CW.subSlice p0 3 (some (.int .i64 p1)) (some (.int .i64 p2)) (some (.int .i64 ((m0 : Nat) : Int)))) = (some v1)) ∧
 cond (p1 == p2)
 (R p0 w)
 (∃ (m2 : Nat), ((Go.CW.sliceLen p0) = (some m2)) ∧
 bindW (World.drew w) fun w3 =>
 ∃ (v4 : Value), ((Go.CW.subSlice p0 3 none (some (.int .i64 p1)) none) = (some v4)) ∧
 ∃ (v5 : Value), ((Go.CW.subSlice p0 3 (some (.int .i64 p2)) none none) = (some v5)) ∧
 bindW (World.drew w) fun w6 =>
 ∃ (v7 : Value) (w8 : World), ((Sem.run @Go.Proofs.Tryz.prog (Go.Builtin.append_ #[171, 171] 171 #[v4, v5]) w6) = (.ok v7 w8)) ∧
 ∃ (m9 : Nat), ((Go.CW.sliceLen v7) = (some m9)) ∧
 ∃ (v10 : Value), ((Go.CW.subSlice v7 3 (some (.int .i64 ((m9 : Nat) : Int))) (some (.int .i64 ((m2 : Nat) : Int))) none) = (some v10)) ∧
 ∃ (v11 : Value) (w12 : World), ((Sem.run @Go.Proofs.Tryz.prog (Go.Builtin.clear_ #[171] 0 #[v10]) w8) = (.ok v11 w12)) ∧
 R v7 w12)

theorem slices_Delete_185_wp (p0 : Value) (p1 : Int) (p2 : Int) (w : World) (R : KV) (h : slices_Delete_185_F p0 p1 p2 w R) : Go.CW.Spec Tryz.prog 185 #[p0, (.int .i64 p1), (.int .i64 p2)] w R :=
  spec_of Tryz.func185 (by kernel_rfl) (show slices_Delete_185_F p0 p1 p2 w R = _ by kernel_rfl) h

/-- (*gemel/net.Net).is -/
def net_Net_is_m_F (p0 : Option Addr) (p1 : Int) (w : World) (R : KV) : Prop :=
 JoinP [.bool]
 (fun (b0 : Bool) => fun (w1 : World) =>
 R (.bool b0) w1)
 (fun j2 =>
 cond (decide (p1 ≥ (0 : Int)))
 (withAddr (.pointer p0) fun a3 =>
 ∃ (v4 : Value), ((Go.World.cell? w (Addr.add a3 1)) = (some v4)) ∧
 ∃ (m5 : Nat), ((Go.CW.sliceLen v4) = (some m5)) ∧
 j2 (decide (p1 < ((m5 : Nat) : Int))) w)
 (j2 false w))

theorem net_Net_is_m_wp (p0 : Option Addr) (p1 : Int) (w : World) (R : KV) (h : net_Net_is_m_F p0 p1 w R) : Go.CW.Spec Tryz.prog 251 #[(.pointer p0), (.int .i64 p1)] w R :=
  spec_of Tryz.func251 (by kernel_rfl) (show net_Net_is_m_F p0 p1 w R = _ by kernel_rfl) h

/-- gemel/gemeltop.TopClock -/
def gemeltop_TopClock_F (p0 : Value) (p1 : Int) (w : World) (R : KV) : Prop :=
 Go.CW.Spec Tryz.prog 9 #[] w fun v0 w1 =>
 ∃ (b2 : Bool), ((v0 : Value) = (.bool b2)) ∧
 cond (!b2)
 (R (.bool false) w1)
 (JoinP [.bool]
 (fun (b3 : Bool) => fun (w4 : World) =>
 cond b3
 (R (.bool true) w4)
 (Go.CW.Spec Tryz.prog 22 #[(.int .i64 (1 : Int))] w4 fun v5 w6 =>
 ∃ (o7 : Option Addr) (n8 : Int), ((v5 : Value) = (.tuple #[(.pointer o7), (.int .i64 n8)])) ∧
 Go.CW.Spec Tryz.prog 23 #[(.int .i64 (3 : Int))] w6 fun v9 w10 =>
 ∃ (o11 : Option Addr) (n12 : Int), ((v9 : Value) = (.tuple #[(.pointer o11), (.int .i64 n12)])) ∧
 Go.CW.Spec Tryz.prog 24 #[] w10 fun v13 w14 =>
 ∃ (o15 : Option Addr), ((v13 : Value) = (.pointer o15)) ∧
 LoopP [.int .i64]
 (fun j16 => fun (n17 : Int) => fun (w18 : World) =>
 ∃ (m19 : Nat), ((Go.CW.sliceLen p0) = (some m19)) ∧
 cond (decide (n17 < ((m19 : Nat) : Int)))
 (bindW (World.drew w18) fun w20 =>
 ∃ (a21 : Addr), ((Go.CW.sliceAt p0 n17 3) = (some a21)) ∧
 ∃ (n22 : Int), ((Go.World.cell? w20 (Addr.add a21 0)) = (some (.int .u8 n22))) ∧
 ∃ (a23 : Addr), ((Go.CW.sliceAt p0 n17 3) = (some a23)) ∧
 ∃ (n24 : Int), ((Go.World.cell? w20 (Addr.add a23 1)) = (some (.int .u8 n24))) ∧
 ∃ (a25 : Addr), ((Go.CW.sliceAt p0 n17 3) = (some a25)) ∧
 ∃ (n26 : Int), ((Go.World.cell? w20 (Addr.add a25 2)) = (some (.int .u8 n26))) ∧
 bindW (World.drew w18) fun w27 =>
 Go.CW.Spec Tryz.prog 13 #[(.int .u8 n22), (.int .u8 n24), (.int .u8 n26)] w27 fun v28 w29 =>
 ∃ (n30 : Int) (n31 : Int) (n32 : Int) (v33 : Value) (n34 : Int) (n35 : Int) (n36 : Int) (b37 : Bool), ((v28 : Value) = (.agg #[(.int .i64 n30), (.int .i64 n31), (.int .i64 n32), v33, (.int .u64 n34), (.int .u64 n35), (.int .i64 n36), (.bool b37)])) ∧
 Go.CW.Spec Tryz.prog 25 #[(.pointer o7), (.agg #[(.int .i64 n30), (.int .i64 n31), (.int .i64 n32), v33, (.int .u64 n34), (.int .u64 n35), (.int .i64 n36), (.bool b37)])] w29 fun v38 w39 =>
 ∃ (n40 : Int) (n41 : Int), ((v38 : Value) = (.tuple #[(.int .u64 n40), (.int .i64 n41)])) ∧
 j16 (IntKind.wrap .i64 (n17 + (1 : Int))) w39)
 (Go.CW.Spec Tryz.prog 26 #[(.pointer o15), (.int .i64 (1 : Int)), (.int .i64 (4 : Int))] w18 fun v42 w43 =>
 ∃ (n44 : Int), ((v42 : Value) = (.int .i64 n44)) ∧
 LoopP [.int .i64]
 (fun j45 => fun (n46 : Int) => fun (w47 : World) =>
 cond (decide (n46 ≤ p1))
 (Go.CW.Spec Tryz.prog 27 #[(.pointer o7)] w47 fun v48 w49 =>
 LoopP [.int .i64]
 (fun j50 => fun (n51 : Int) => fun (w52 : World) =>
 ∃ (m53 : Nat), ((Go.CW.sliceLen v48) = (some m53)) ∧
 cond (decide (n51 < ((m53 : Nat) : Int)))
 (bindW (World.drew w52) fun w54 =>
 ∃ (a55 : Addr), ((Go.CW.sliceAt v48 n51 2) = (some a55)) ∧
 ∃ (n56 : Int), ((Go.World.cell? w54 (Addr.add a55 0)) = (some (.int .i64 n56))) ∧
 ∃ (a57 : Addr), ((Go.CW.sliceAt v48 n51 2) = (some a57)) ∧
 ∃ (v58 : Value), ((Go.World.cell? w54 (Addr.add a57 1)) = (some v58)) ∧
 bindW (World.drew w52) fun w59 =>
 Go.CW.Spec Tryz.prog 28 #[(.pointer o11), (.int .i64 (2 : Int)), (.int .i64 n56), v58] w59 fun v60 w61 =>
 ∃ (n62 : Int), ((v60 : Value) = (.int .i64 n62)) ∧
 cond (n62 != (0 : Int))
 (R (.bool false) w61)
 (∃ (a63 : Addr), ((Go.CW.sliceAt v48 n51 2) = (some a63)) ∧
 ∃ (v64 : Value), ((Go.World.cell? w61 (Addr.add a63 1)) = (some v64)) ∧
 Go.CW.Spec Tryz.prog 29 #[v64] w61 fun v65 w66 =>
 ∃ (v67 : Value) (n68 : Int), ((v65 : Value) = (.tuple #[v67, (.int .i64 n68)])) ∧
 cond (n68 != (0 : Int))
 (R (.bool false) w66)
 (j50 (IntKind.wrap .i64 (n51 + (1 : Int))) w66)))
 (JoinP []
 (fun (w69 : World) =>
 LoopP []
 (fun j70 => fun (w71 : World) =>
 Go.CW.Spec Tryz.prog 30 #[(.pointer o11)] w71 fun v72 w73 =>
 ∃ (n74 : Int), ((v72 : Value) = (.int .i64 n74)) ∧
 cond (decide (n74 > (0 : Int)))
 (Go.CW.Spec Tryz.prog 31 #[(.pointer o11), (.int .i64 (0 : Int))] w73 fun v75 w76 =>
 ∃ (b77 : Bool), ((v75 : Value) = (.bool b77)) ∧
 j70 w76)
 (Go.CW.Spec Tryz.prog 32 #[(.pointer o7)] w73 fun v78 w79 =>
 ((v78 : Value) = (.tuple #[])) ∧
 Go.CW.Spec Tryz.prog 33 #[(.pointer o15)] w79 fun v80 w81 =>
 ∃ (m82 : Nat), ((Go.CW.sliceLen v80) = (some m82)) ∧
 cond (decide (((m82 : Nat) : Int) > (0 : Int)))
 (R (.bool false) w81)
 (j45 (IntKind.wrap .i64 (n46 + (1 : Int))) w81)))
 (fun s83 => s83 w69))
 (fun j84 =>
 ∃ (m85 : Nat), ((Go.CW.sliceLen v48) = (some m85)) ∧
 cond (decide (((m85 : Nat) : Int) > (0 : Int)))
 (Go.CW.Spec Tryz.prog 26 #[(.pointer o15), (.int .i64 (1 : Int)), (.int .i64 (5 : Int))] w52 fun v86 w87 =>
 ∃ (n88 : Int), ((v86 : Value) = (.int .i64 n88)) ∧
 j84 w87)
 (j84 w52))))
 (fun s89 => s89 (0 : Int) w49))
 (JoinP [.bool]
 (fun (b90 : Bool) => fun (w91 : World) =>
 R (.bool b90) w91)
 (fun j92 =>
 Go.CW.Spec Tryz.prog 34 #[(.pointer o7)] w47 fun v93 w94 =>
 ∃ (m95 : Nat), ((Go.CW.sliceLen v93) = (some m95)) ∧
 ∃ (m96 : Nat), ((Go.CW.sliceLen p0) = (some m96)) ∧
 cond (((m95 : Nat) : Int) == ((m96 : Nat) : Int))
 (Go.CW.Spec Tryz.prog 35 #[(.pointer o7)] w94 fun v97 w98 =>
 ∃ (m99 : Nat), ((Go.CW.sliceLen v97) = (some m99)) ∧
 j92 (((m99 : Nat) : Int) == (0 : Int)) w98)
 (j92 false w94))))
 (fun s100 => s100 (0 : Int) w43)))
 (fun s101 => s101 (0 : Int) w14)))
 (fun j102 =>
 ∃ (m103 : Nat), ((Go.CW.sliceLen p0) = (some m103)) ∧
 cond (((m103 : Nat) : Int) == (0 : Int))
 (j102 true w1)
 (∃ (m104 : Nat), ((Go.CW.sliceLen p0) = (some m104)) ∧
 cond (decide (((m104 : Nat) : Int) > (4 : Int)))
 (j102 true w1)
 (cond (decide (p1 < (0 : Int)))
 (j102 true w1)
 (j102 (decide (p1 > (60 : Int))) w1)))))

theorem gemeltop_TopClock_wp (p0 : Value) (p1 : Int) (w : World) (R : KV) (h : gemeltop_TopClock_F p0 p1 w R) : Go.CW.Spec Tryz.prog 5 #[p0, (.int .i64 p1)] w R :=
  spec_of Tryz.func5 (by kernel_rfl) (show gemeltop_TopClock_F p0 p1 w R = _ by kernel_rfl) h

/-- gemel/gemeltop.plain -/
def gemeltop_plain_F (p0 : Int) (p1 : Int) (p2 : Int) (w : World) (R : KV) : Prop :=
 bindW (World.alloc w (.cells #[(.int .i64 (0 : Int)), (.int .i64 (0 : Int)), (.int .i64 (0 : Int)), (.slice none 0 0), (.int .u64 (0 : Int)), (.int .u64 (0 : Int)), (.int .i64 (0 : Int)), (.bool false)] 40)) fun w0 =>
 JoinP [.bool]
 (fun (b1 : Bool) => fun (w2 : World) =>
 cond b1
 (Go.CW.Spec Tryz.prog 55 #[(.int .u8 p2)] w2 fun v3 w4 =>
 oneK v3 ((StRow w4 ⟨w.heap.size, 0, none⟩ #[(.int .i64 (3 : Int)), (.int .i64 (IntKind.wrap .i64 (bitsI .and .u8 p1 (31 : Int)))), (.int .i64 (1 : Int)), v3, (.int .u64 (0 : Int)), (.int .u64 (0 : Int)), (.int .i64 (0 : Int)), (.bool false)]) ∧
 bindW (stRow w4 ⟨w.heap.size, 0, none⟩ #[(.int .i64 (3 : Int)), (.int .i64 (IntKind.wrap .i64 (bitsI .and .u8 p1 (31 : Int)))), (.int .i64 (1 : Int)), v3, (.int .u64 (0 : Int)), (.int .u64 (0 : Int)), (.int .i64 (0 : Int)), (.bool false)]) fun w5 =>
 ∃ (n6 : Int) (n7 : Int) (n8 : Int) (v9 : Value) (n10 : Int) (n11 : Int) (n12 : Int) (b13 : Bool), (ldCells w5 ⟨w.heap.size, 0, none⟩ 8 #[(.int .i64 n6), (.int .i64 n7), (.int .i64 n8), v9, (.int .u64 n10), (.int .u64 n11), (.int .i64 n12), (.bool b13)]) ∧
 R (.agg #[(.int .i64 n6), (.int .i64 n7), (.int .i64 n8), v9, (.int .u64 n10), (.int .u64 n11), (.int .i64 n12), (.bool b13)]) w5))
 (cond ((Int.tmod p0 (8 : Int)) == (2 : Int))
 ((StRow w2 ⟨w.heap.size, 0, none⟩ #[(.int .i64 (2 : Int)), (.int .i64 (IntKind.wrap .i64 (bitsI .and .u8 p1 (31 : Int)))), (.int .i64 (1 : Int)), (.slice none 0 0), (.int .u64 (0 : Int)), (.int .u64 (0 : Int)), (.int .i64 (0 : Int)), (.bool false)]) ∧
 bindW (stRow w2 ⟨w.heap.size, 0, none⟩ #[(.int .i64 (2 : Int)), (.int .i64 (IntKind.wrap .i64 (bitsI .and .u8 p1 (31 : Int)))), (.int .i64 (1 : Int)), (.slice none 0 0), (.int .u64 (0 : Int)), (.int .u64 (0 : Int)), (.int .i64 (0 : Int)), (.bool false)]) fun w14 =>
 ∃ (n15 : Int) (n16 : Int) (n17 : Int) (v18 : Value) (n19 : Int) (n20 : Int) (n21 : Int) (b22 : Bool), (ldCells w14 ⟨w.heap.size, 0, none⟩ 8 #[(.int .i64 n15), (.int .i64 n16), (.int .i64 n17), v18, (.int .u64 n19), (.int .u64 n20), (.int .i64 n21), (.bool b22)]) ∧
 R (.agg #[(.int .i64 n15), (.int .i64 n16), (.int .i64 n17), v18, (.int .u64 n19), (.int .u64 n20), (.int .i64 n21), (.bool b22)]) w14)
 (cond ((Int.tmod p0 (8 : Int)) == (3 : Int))
 (Go.CW.Spec Tryz.prog 55 #[(.int .u8 (bitsI .and .u8 p2 (1 : Int)))] w2 fun v23 w24 =>
 Go.CW.Spec Tryz.prog 55 #[(.int .u8 p2)] w24 fun v25 w26 =>
 ∃ (v27 : Value) (w28 : World), ((Sem.run @Go.Proofs.Tryz.prog (Go.Builtin.append_ #[34, 34] 34 #[v23, v25]) w26) = (.ok v27 w28)) ∧
 oneK v27 ((StRow w28 ⟨w.heap.size, 0, none⟩ #[(.int .i64 (6 : Int)), (.int .i64 (IntKind.wrap .i64 (bitsI .and .u8 p1 (31 : Int)))), (.int .i64 (1 : Int)), v27, (.int .u64 (0 : Int)), (.int .u64 (0 : Int)), (.int .i64 (0 : Int)), (.bool false)]) ∧
 bindW (stRow w28 ⟨w.heap.size, 0, none⟩ #[(.int .i64 (6 : Int)), (.int .i64 (IntKind.wrap .i64 (bitsI .and .u8 p1 (31 : Int)))), (.int .i64 (1 : Int)), v27, (.int .u64 (0 : Int)), (.int .u64 (0 : Int)), (.int .i64 (0 : Int)), (.bool false)]) fun w29 =>
 ∃ (n30 : Int) (n31 : Int) (n32 : Int) (v33 : Value) (n34 : Int) (n35 : Int) (n36 : Int) (b37 : Bool), (ldCells w29 ⟨w.heap.size, 0, none⟩ 8 #[(.int .i64 n30), (.int .i64 n31), (.int .i64 n32), v33, (.int .u64 n34), (.int .u64 n35), (.int .i64 n36), (.bool b37)]) ∧
 R (.agg #[(.int .i64 n30), (.int .i64 n31), (.int .i64 n32), v33, (.int .u64 n34), (.int .u64 n35), (.int .i64 n36), (.bool b37)]) w29))
 (cond ((Int.tmod p0 (8 : Int)) == (4 : Int))
 ((StRow w2 ⟨w.heap.size, 0, none⟩ #[(.int .i64 (5 : Int)), (.int .i64 (IntKind.wrap .i64 (bitsI .and .u8 p1 (31 : Int)))), (.int .i64 (1 : Int)), (.slice none 0 0), (.int .u64 (0 : Int)), (.int .u64 (0 : Int)), (.int .i64 (0 : Int)), (.bool false)]) ∧
 bindW (stRow w2 ⟨w.heap.size, 0, none⟩ #[(.int .i64 (5 : Int)), (.int .i64 (IntKind.wrap .i64 (bitsI .and .u8 p1 (31 : Int)))), (.int .i64 (1 : Int)), (.slice none 0 0), (.int .u64 (0 : Int)), (.int .u64 (0 : Int)), (.int .i64 (0 : Int)), (.bool false)]) fun w38 =>
 ∃ (n39 : Int) (n40 : Int) (n41 : Int) (v42 : Value) (n43 : Int) (n44 : Int) (n45 : Int) (b46 : Bool), (ldCells w38 ⟨w.heap.size, 0, none⟩ 8 #[(.int .i64 n39), (.int .i64 n40), (.int .i64 n41), v42, (.int .u64 n43), (.int .u64 n44), (.int .i64 n45), (.bool b46)]) ∧
 R (.agg #[(.int .i64 n39), (.int .i64 n40), (.int .i64 n41), v42, (.int .u64 n43), (.int .u64 n44), (.int .i64 n45), (.bool b46)]) w38)
 (cond ((Int.tmod p0 (8 : Int)) == (5 : Int))
 ((StRow w2 ⟨w.heap.size, 0, none⟩ #[(.int .i64 (11 : Int)), (.int .i64 (0 : Int)), (.int .i64 (0 : Int)), (.slice none 0 0), (.int .u64 (0 : Int)), (.int .u64 (IntKind.wrap .u64 p2)), (.int .i64 (0 : Int)), (.bool false)]) ∧
 bindW (stRow w2 ⟨w.heap.size, 0, none⟩ #[(.int .i64 (11 : Int)), (.int .i64 (0 : Int)), (.int .i64 (0 : Int)), (.slice none 0 0), (.int .u64 (0 : Int)), (.int .u64 (IntKind.wrap .u64 p2)), (.int .i64 (0 : Int)), (.bool false)]) fun w47 =>
 ∃ (n48 : Int) (n49 : Int) (n50 : Int) (v51 : Value) (n52 : Int) (n53 : Int) (n54 : Int) (b55 : Bool), (ldCells w47 ⟨w.heap.size, 0, none⟩ 8 #[(.int .i64 n48), (.int .i64 n49), (.int .i64 n50), v51, (.int .u64 n52), (.int .u64 n53), (.int .i64 n54), (.bool b55)]) ∧
 R (.agg #[(.int .i64 n48), (.int .i64 n49), (.int .i64 n50), v51, (.int .u64 n52), (.int .u64 n53), (.int .i64 n54), (.bool b55)]) w47)
 (cond ((Int.tmod p0 (8 : Int)) == (6 : Int))
 ((StRow w2 ⟨w.heap.size, 0, none⟩ #[(.int .i64 (12 : Int)), (.int .i64 (0 : Int)), (.int .i64 (0 : Int)), (.slice none 0 0), (.int .u64 (IntKind.wrap .u64 p2)), (.int .u64 (0 : Int)), (.int .i64 (1 : Int)), (.bool false)]) ∧
 bindW (stRow w2 ⟨w.heap.size, 0, none⟩ #[(.int .i64 (12 : Int)), (.int .i64 (0 : Int)), (.int .i64 (0 : Int)), (.slice none 0 0), (.int .u64 (IntKind.wrap .u64 p2)), (.int .u64 (0 : Int)), (.int .i64 (1 : Int)), (.bool false)]) fun w56 =>
 ∃ (n57 : Int) (n58 : Int) (n59 : Int) (v60 : Value) (n61 : Int) (n62 : Int) (n63 : Int) (b64 : Bool), (ldCells w56 ⟨w.heap.size, 0, none⟩ 8 #[(.int .i64 n57), (.int .i64 n58), (.int .i64 n59), v60, (.int .u64 n61), (.int .u64 n62), (.int .i64 n63), (.bool b64)]) ∧
 R (.agg #[(.int .i64 n57), (.int .i64 n58), (.int .i64 n59), v60, (.int .u64 n61), (.int .u64 n62), (.int .i64 n63), (.bool b64)]) w56)
 ((StRow w2 ⟨w.heap.size, 0, none⟩ #[(.int .i64 (16 : Int)), (.int .i64 (0 : Int)), (.int .i64 (0 : Int)), (.slice none 0 0), (.int .u64 (0 : Int)), (.int .u64 (0 : Int)), (.int .i64 (0 : Int)), (.bool false)]) ∧
 bindW (stRow w2 ⟨w.heap.size, 0, none⟩ #[(.int .i64 (16 : Int)), (.int .i64 (0 : Int)), (.int .i64 (0 : Int)), (.slice none 0 0), (.int .u64 (0 : Int)), (.int .u64 (0 : Int)), (.int .i64 (0 : Int)), (.bool false)]) fun w65 =>
 ∃ (n66 : Int) (n67 : Int) (n68 : Int) (v69 : Value) (n70 : Int) (n71 : Int) (n72 : Int) (b73 : Bool), (ldCells w65 ⟨w.heap.size, 0, none⟩ 8 #[(.int .i64 n66), (.int .i64 n67), (.int .i64 n68), v69, (.int .u64 n70), (.int .u64 n71), (.int .i64 n72), (.bool b73)]) ∧
 R (.agg #[(.int .i64 n66), (.int .i64 n67), (.int .i64 n68), v69, (.int .u64 n70), (.int .u64 n71), (.int .i64 n72), (.bool b73)]) w65)))))))
 (fun j74 =>
 cond ((Int.tmod p0 (8 : Int)) == (0 : Int))
 (j74 ((Int.tmod p0 (8 : Int)) == (0 : Int)) w0)
 (j74 ((Int.tmod p0 (8 : Int)) == (1 : Int)) w0))

theorem gemeltop_plain_wp (p0 : Int) (p1 : Int) (p2 : Int) (w : World) (R : KV) (h : gemeltop_plain_F p0 p1 p2 w R) : Go.CW.Spec Tryz.prog 13 #[(.int .u8 p0), (.int .u8 p1), (.int .u8 p2)] w R :=
  spec_of Tryz.func13 (by kernel_rfl) (show gemeltop_plain_F p0 p1 p2 w R = _ by kernel_rfl) h

/-- gemel/gemeltop.one -/
def gemeltop_one_F (p0 : Int) (w : World) (R : KV) : Prop :=
 ∃ (v0 : Value) (w1 : World), ((Sem.run @Go.Proofs.Tryz.prog (Go.Instr.makeSlice 34 (.int .i64 (8 : Int)) (.int .i64 (8 : Int))) w) = (.ok v0 w1)) ∧
 LoopP [.int .i64]
 (fun j2 => fun (n3 : Int) => fun (w4 : World) =>
 cond (decide (n3 < (8 : Int)))
 (∃ (a5 : Addr), ((Go.CW.sliceAt v0 n3 1) = (some a5)) ∧
 (St1 w4 a5) ∧
 bindW (World.setCell w4 a5 (.int .u8 p0)) fun w6 =>
 j2 (IntKind.wrap .i64 (n3 + (1 : Int))) w6)
 (R v0 w4))
 (fun s7 => s7 (0 : Int) w1)

theorem gemeltop_one_wp (p0 : Int) (w : World) (R : KV) (h : gemeltop_one_F p0 w R) : Go.CW.Spec Tryz.prog 55 #[(.int .u8 p0)] w R :=
  spec_of Tryz.func55 (by kernel_rfl) (show gemeltop_one_F p0 w R = _ by kernel_rfl) h

end Go.Proofs.YtghineciiljeoaaGreatDoor
