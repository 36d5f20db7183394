/- The formulas of some functions, printed by a program (wip/cw/CwGen). -/
import Derived.Test.YtghineciiljeoaaGreatDoorNam
set_option linter.unusedVariables false
set_option maxRecDepth 100000
namespace Go.Proofs.YtghineciiljeoaaGreatDoor
open Go Go.CW

/-- gemel/lu.New -/
def lu_New_F (p0 : Int) (w : World) (R : KV) : Prop :=
 Go.CW.Spec Tryz.prog 74 #[(.int .i64 p0)] w fun v0 w1 =>
 ∃ (o2 : Option Addr) (n3 : Int), ((v0 : Value) = (.tuple #[(.pointer o2), (.int .i64 n3)])) ∧
 cond (n3 != (0 : Int))
 (R (.tuple #[(.pointer none), (.int .i64 n3)]) w1)
 (Go.CW.Spec Tryz.prog 75 #[] w1 fun v4 w5 =>
 ∃ (o6 : Option Addr), ((v4 : Value) = (.pointer o6)) ∧
 bindW (World.alloc w5 (.cells #[(.pointer o2), (.pointer o6), (.slice none 0 0), (.int .u64 (0 : Int)), (.map none), (.slice none 0 0), (.int .u64 (0 : Int)), (.map none), (.slice none 0 0), (.int .u64 (0 : Int)), (.map none), (.slice none 0 0), (.int .u64 (0 : Int)), (.map none), (.slice none 0 0), (.int .u64 (0 : Int)), (.map none), (.slice none 0 0), (.int .u64 (0 : Int)), (.map none), (.slice none 0 0), (.int .u64 (0 : Int)), (.map none), (.slice none 0 0), (.int .u64 (0 : Int)), (.map none)] 160)) fun w7 =>
 LoopP [.int .i64]
 (fun j8 => fun (n9 : Int) => fun (w10 : World) =>
 cond (decide (n9 < (8 : Int)))
 (∃ (v11 : Value) (w12 : World), ((Sem.run @Go.Proofs.Tryz.prog (Go.Instr.makeMap 155 none) w10) = (.ok v11 w12)) ∧
 (inR n9 8) ∧
 oneK v11 ((St1 w12 (Addr.add (Addr.add (Addr.add ⟨w5.heap.size, 0, none⟩ 2) ((Int.toNat n9) * 3)) 2)) ∧
 bindW (World.setCell w12 (Addr.add (Addr.add (Addr.add ⟨w5.heap.size, 0, none⟩ 2) ((Int.toNat n9) * 3)) 2) v11) fun w13 =>
 j8 (IntKind.wrap .i64 (n9 + (1 : Int))) w13))
 (R (.tuple #[(.pointer (some ⟨w5.heap.size, 0, none⟩)), (.int .i64 (0 : Int))]) w10))
 (fun s14 => s14 (0 : Int) w7))

theorem lu_New_wp (p0 : Int) (w : World) (R : KV) (h : lu_New_F p0 w R) : Go.CW.Spec Tryz.prog 18 #[(.int .i64 p0)] w R :=
  spec_of Tryz.func18 (by kernel_rfl) (show lu_New_F p0 w R = _ by kernel_rfl) h

/-- (*gemel/lu.Unit).Do -/
def lu_Unit_Do_m_F (p0 : Option Addr) (p1 : Int) (p2_0 : Int) (p2_1 : Int) (p2_2 : Int) (p2_3 : Value) (p2_4 : Int) (p2_5 : Int) (p2_6 : Int) (p2_7 : Bool) (w : World) (R : KV) : Prop :=
 bindW (World.alloc w (.cells #[(.int .i64 p2_0), (.int .i64 p2_1), (.int .i64 p2_2), p2_3, (.int .u64 p2_4), (.int .u64 p2_5), (.int .i64 p2_6), (.bool p2_7)] 40)) fun w0 =>
 bindW (World.alloc w0 (.cells #[(.int .i64 (0 : Int)), (.int .i64 (0 : Int)), (.int .i64 (0 : Int)), (.slice none 0 0), (.int .i64 (0 : Int))] 54)) fun w1 =>
 JoinP [.bool]
 (fun (b2 : Bool) => fun (w3 : World) =>
 cond b2
 (Go.CW.Spec Tryz.prog 78 #[(.int .i64 (5 : Int)), (.int .i64 (8192 : Int))] w3 fun v4 w5 =>
 ∃ (n6 : Int) (n7 : Int) (n8 : Int) (v9 : Value) (n10 : Int), ((v4 : Value) = (.agg #[(.int .i64 n6), (.int .i64 n7), (.int .i64 n8), v9, (.int .i64 n10)])) ∧
 (StRow w5 ⟨w0.heap.size, 0, none⟩ #[(.int .i64 n6), (.int .i64 n7), (.int .i64 n8), v9, (.int .i64 n10)]) ∧
 bindW (stRow w5 ⟨w0.heap.size, 0, none⟩ #[(.int .i64 n6), (.int .i64 n7), (.int .i64 n8), v9, (.int .i64 n10)]) fun w11 =>
 ∃ (n12 : Int) (n13 : Int) (n14 : Int) (v15 : Value) (n16 : Int), (ldCells w11 ⟨w0.heap.size, 0, none⟩ 5 #[(.int .i64 n12), (.int .i64 n13), (.int .i64 n14), v15, (.int .i64 n16)]) ∧
 R (.agg #[(.int .i64 n12), (.int .i64 n13), (.int .i64 n14), v15, (.int .i64 n16)]) w11)
 (∃ (n17 : Int), ((Go.World.cell? w3 (Addr.add ⟨w.heap.size, 0, none⟩ 0)) = (some (.int .i64 n17))) ∧
 JoinP []
 (fun (w18 : World) =>
 bindW (World.drew w18) fun w19 =>
 withAddr (.pointer p0) fun a20 =>
 ∃ (o21 : Option Addr), ((Go.World.cell? w19 (Addr.add a20 1)) = (some (.pointer o21))) ∧
 ∃ (n22 : Int), ((Go.World.cell? w19 (Addr.add ⟨w.heap.size, 0, none⟩ 0)) = (some (.int .i64 n22))) ∧
 bindW (World.drew w18) fun w23 =>
 Go.CW.Spec Tryz.prog 82 #[(.pointer o21), (.int .i64 p1), (.int .i64 n22)] w23 fun v24 w25 =>
 ∃ (b26 : Bool), ((v24 : Value) = (.bool b26)) ∧
 cond (!b26)
 ((StRow w25 ⟨w0.heap.size, 0, none⟩ #[(.int .i64 (24 : Int)), (.int .i64 (0 : Int)), (.int .i64 (0 : Int)), (.slice none 0 0), (.int .i64 (0 : Int))]) ∧
 bindW (stRow w25 ⟨w0.heap.size, 0, none⟩ #[(.int .i64 (24 : Int)), (.int .i64 (0 : Int)), (.int .i64 (0 : Int)), (.slice none 0 0), (.int .i64 (0 : Int))]) fun w27 =>
 ∃ (n28 : Int) (n29 : Int) (n30 : Int) (v31 : Value) (n32 : Int), (ldCells w27 ⟨w0.heap.size, 0, none⟩ 5 #[(.int .i64 n28), (.int .i64 n29), (.int .i64 n30), v31, (.int .i64 n32)]) ∧
 R (.agg #[(.int .i64 n28), (.int .i64 n29), (.int .i64 n30), v31, (.int .i64 n32)]) w27)
 (∃ (n33 : Int) (n34 : Int) (n35 : Int) (v36 : Value) (n37 : Int) (n38 : Int) (n39 : Int) (b40 : Bool), (ldCells w25 ⟨w.heap.size, 0, none⟩ 8 #[(.int .i64 n33), (.int .i64 n34), (.int .i64 n35), v36, (.int .u64 n37), (.int .u64 n38), (.int .i64 n39), (.bool b40)]) ∧
 Go.CW.Spec Tryz.prog 83 #[(.pointer p0), (.int .i64 p1), (.agg #[(.int .i64 n33), (.int .i64 n34), (.int .i64 n35), v36, (.int .u64 n37), (.int .u64 n38), (.int .i64 n39), (.bool b40)])] w25 fun v41 w42 =>
 ∃ (n43 : Int) (n44 : Int) (n45 : Int) (v46 : Value) (n47 : Int), ((v41 : Value) = (.agg #[(.int .i64 n43), (.int .i64 n44), (.int .i64 n45), v46, (.int .i64 n47)])) ∧
 (StRow w42 ⟨w0.heap.size, 0, none⟩ #[(.int .i64 n43), (.int .i64 n44), (.int .i64 n45), v46, (.int .i64 n47)]) ∧
 bindW (stRow w42 ⟨w0.heap.size, 0, none⟩ #[(.int .i64 n43), (.int .i64 n44), (.int .i64 n45), v46, (.int .i64 n47)]) fun w48 =>
 ∃ (n49 : Int) (n50 : Int) (n51 : Int) (v52 : Value) (n53 : Int), (ldCells w48 ⟨w0.heap.size, 0, none⟩ 5 #[(.int .i64 n49), (.int .i64 n50), (.int .i64 n51), v52, (.int .i64 n53)]) ∧
 R (.agg #[(.int .i64 n49), (.int .i64 n50), (.int .i64 n51), v52, (.int .i64 n53)]) w48))
 (fun j54 =>
 cond (n17 == (9 : Int))
 (Go.CW.Spec Tryz.prog 79 #[(.pointer p0), (.int .i64 p1)] w3 fun v55 w56 =>
 ∃ (n57 : Int) (n58 : Int) (n59 : Int) (v60 : Value) (n61 : Int) (b62 : Bool), ((v55 : Value) = (.tuple #[(.agg #[(.int .i64 n57), (.int .i64 n58), (.int .i64 n59), v60, (.int .i64 n61)]), (.bool b62)])) ∧
 bindW (World.alloc w56 (.cells #[(.int .i64 (0 : Int)), (.int .i64 (0 : Int)), (.int .i64 (0 : Int)), (.slice none 0 0), (.int .i64 (0 : Int))] 54)) fun w63 =>
 (StRow w63 ⟨w56.heap.size, 0, none⟩ #[(.int .i64 n57), (.int .i64 n58), (.int .i64 n59), v60, (.int .i64 n61)]) ∧
 bindW (stRow w63 ⟨w56.heap.size, 0, none⟩ #[(.int .i64 n57), (.int .i64 n58), (.int .i64 n59), v60, (.int .i64 n61)]) fun w64 =>
 ∃ (n65 : Int) (n66 : Int) (n67 : Int) (v68 : Value) (n69 : Int), (ldCells w64 ⟨w56.heap.size, 0, none⟩ 5 #[(.int .i64 n65), (.int .i64 n66), (.int .i64 n67), v68, (.int .i64 n69)]) ∧
 Go.CW.Spec Tryz.prog 81 #[(.agg #[(.int .i64 n65), (.int .i64 n66), (.int .i64 n67), v68, (.int .i64 n69)])] w64 fun v70 w71 =>
 Go.CW.Spec Tryz.prog 80 #[v70] w71 fun v72 w73 =>
 ∃ (n74 : Int) (n75 : Int) (n76 : Int) (v77 : Value) (n78 : Int), ((v72 : Value) = (.agg #[(.int .i64 n74), (.int .i64 n75), (.int .i64 n76), v77, (.int .i64 n78)])) ∧
 (StRow w73 ⟨w0.heap.size, 0, none⟩ #[(.int .i64 n74), (.int .i64 n75), (.int .i64 n76), v77, (.int .i64 n78)]) ∧
 bindW (stRow w73 ⟨w0.heap.size, 0, none⟩ #[(.int .i64 n74), (.int .i64 n75), (.int .i64 n76), v77, (.int .i64 n78)]) fun w79 =>
 ∃ (n80 : Int) (n81 : Int) (n82 : Int) (v83 : Value) (n84 : Int), (ldCells w79 ⟨w0.heap.size, 0, none⟩ 5 #[(.int .i64 n80), (.int .i64 n81), (.int .i64 n82), v83, (.int .i64 n84)]) ∧
 R (.agg #[(.int .i64 n80), (.int .i64 n81), (.int .i64 n82), v83, (.int .i64 n84)]) w79)
 (cond (n17 == (8 : Int))
 (j54 w3)
 (Go.CW.Spec Tryz.prog 79 #[(.pointer p0), (.int .i64 p1)] w3 fun v85 w86 =>
 ∃ (n87 : Int) (n88 : Int) (n89 : Int) (v90 : Value) (n91 : Int) (b92 : Bool), ((v85 : Value) = (.tuple #[(.agg #[(.int .i64 n87), (.int .i64 n88), (.int .i64 n89), v90, (.int .i64 n91)]), (.bool b92)])) ∧
 bindW (World.alloc w86 (.cells #[(.int .i64 (0 : Int)), (.int .i64 (0 : Int)), (.int .i64 (0 : Int)), (.slice none 0 0), (.int .i64 (0 : Int))] 54)) fun w93 =>
 (StRow w93 ⟨w86.heap.size, 0, none⟩ #[(.int .i64 n87), (.int .i64 n88), (.int .i64 n89), v90, (.int .i64 n91)]) ∧
 bindW (stRow w93 ⟨w86.heap.size, 0, none⟩ #[(.int .i64 n87), (.int .i64 n88), (.int .i64 n89), v90, (.int .i64 n91)]) fun w94 =>
 cond b92
 (∃ (n95 : Int) (n96 : Int) (n97 : Int) (v98 : Value) (n99 : Int), (ldCells w94 ⟨w86.heap.size, 0, none⟩ 5 #[(.int .i64 n95), (.int .i64 n96), (.int .i64 n97), v98, (.int .i64 n99)]) ∧
 (StRow w94 ⟨w0.heap.size, 0, none⟩ #[(.int .i64 n95), (.int .i64 n96), (.int .i64 n97), v98, (.int .i64 n99)]) ∧
 bindW (stRow w94 ⟨w0.heap.size, 0, none⟩ #[(.int .i64 n95), (.int .i64 n96), (.int .i64 n97), v98, (.int .i64 n99)]) fun w100 =>
 ∃ (n101 : Int) (n102 : Int) (n103 : Int) (v104 : Value) (n105 : Int), (ldCells w100 ⟨w0.heap.size, 0, none⟩ 5 #[(.int .i64 n101), (.int .i64 n102), (.int .i64 n103), v104, (.int .i64 n105)]) ∧
 R (.agg #[(.int .i64 n101), (.int .i64 n102), (.int .i64 n103), v104, (.int .i64 n105)]) w100)
 (j54 w94))))))
 (fun j106 =>
 Go.CW.Spec Tryz.prog 76 #[(.int .i64 p1)] w1 fun v107 w108 =>
 ∃ (b109 : Bool), ((v107 : Value) = (.bool b109)) ∧
 cond (!b109)
 (j106 true w108)
 (∃ (n110 : Int), ((Go.World.cell? w108 (Addr.add ⟨w.heap.size, 0, none⟩ 0)) = (some (.int .i64 n110))) ∧
 cond (decide (n110 < (1 : Int)))
 (j106 true w108)
 (∃ (n111 : Int), ((Go.World.cell? w108 (Addr.add ⟨w.heap.size, 0, none⟩ 0)) = (some (.int .i64 n111))) ∧
 j106 (decide (n111 > (18 : Int))) w108)))

theorem lu_Unit_Do_m_wp (p0 : Option Addr) (p1 : Int) (p2_0 : Int) (p2_1 : Int) (p2_2 : Int) (p2_3 : Value) (p2_4 : Int) (p2_5 : Int) (p2_6 : Int) (p2_7 : Bool) (w : World) (R : KV) (h : lu_Unit_Do_m_F p0 p1 p2_0 p2_1 p2_2 p2_3 p2_4 p2_5 p2_6 p2_7 w R) : Go.CW.Spec Tryz.prog 20 #[(.pointer p0), (.int .i64 p1), (.agg #[(.int .i64 p2_0), (.int .i64 p2_1), (.int .i64 p2_2), p2_3, (.int .u64 p2_4), (.int .u64 p2_5), (.int .i64 p2_6), (.bool p2_7)])] w R :=
  spec_of Tryz.func20 (by kernel_rfl) (show lu_Unit_Do_m_F p0 p1 p2_0 p2_1 p2_2 p2_3 p2_4 p2_5 p2_6 p2_7 w R = _ by kernel_rfl) h

/-- gemel/lu.host -/
def lu_host_F (p0 : Int) (w : World) (R : KV) : Prop :=
 JoinP [.bool]
 (fun (b0 : Bool) => fun (w1 : World) =>
 R (.bool b0) w1)
 (fun j2 =>
 cond (decide (p0 ≥ (0 : Int)))
 (j2 (decide (p0 < (8 : Int))) w)
 (j2 false w))

theorem lu_host_wp (p0 : Int) (w : World) (R : KV) (h : lu_host_F p0 w R) : Go.CW.Spec Tryz.prog 76 #[(.int .i64 p0)] w R :=
  spec_of Tryz.func76 (by kernel_rfl) (show lu_host_F p0 w R = _ by kernel_rfl) h

/-- (*gemel/lu.Unit).told -/
def lu_Unit_told_m_F (p0 : Option Addr) (p1 : Int) (w : World) (R : KV) : Prop :=
 bindW (World.alloc w (.cells #[(.int .i64 (0 : Int)), (.int .i64 (0 : Int)), (.int .i64 (0 : Int)), (.slice none 0 0), (.int .i64 (0 : Int))] 54)) fun w0 =>
 withAddr (.pointer p0) fun a1 =>
 (inR p1 8) ∧
 ∃ (v2 : Value), ((Go.World.cell? w0 (Addr.add (Addr.add (Addr.add a1 2) ((Int.toNat p1) * 3)) 0)) = (some v2)) ∧
 ∃ (m3 : Nat), ((Go.CW.sliceLen v2) = (some m3)) ∧
 cond (((m3 : Nat) : Int) == (0 : Int))
 ((StRow w0 ⟨w.heap.size, 0, none⟩ #[(.int .i64 (0 : Int)), (.int .i64 (0 : Int)), (.int .i64 (0 : Int)), (.slice none 0 0), (.int .i64 (0 : Int))]) ∧
 bindW (stRow w0 ⟨w.heap.size, 0, none⟩ #[(.int .i64 (0 : Int)), (.int .i64 (0 : Int)), (.int .i64 (0 : Int)), (.slice none 0 0), (.int .i64 (0 : Int))]) fun w4 =>
 ∃ (n5 : Int) (n6 : Int) (n7 : Int) (v8 : Value) (n9 : Int), (ldCells w4 ⟨w.heap.size, 0, none⟩ 5 #[(.int .i64 n5), (.int .i64 n6), (.int .i64 n7), v8, (.int .i64 n9)]) ∧
 R (.tuple #[(.agg #[(.int .i64 n5), (.int .i64 n6), (.int .i64 n7), v8, (.int .i64 n9)]), (.bool false)]) w4)
 (∃ (v10 : Value), ((Go.World.cell? w0 (Addr.add (Addr.add (Addr.add a1 2) ((Int.toNat p1) * 3)) 0)) = (some v10)) ∧
 ∃ (a11 : Addr), ((Go.CW.sliceAt v10 (0 : Int) 1) = (some a11)) ∧
 ∃ (n12 : Int), ((Go.World.cell? w0 a11) = (some (.int .i64 n12))) ∧
 Go.CW.Spec Tryz.prog 78 #[(.int .i64 (6 : Int)), (.int .i64 n12)] w0 fun v13 w14 =>
 ∃ (n15 : Int) (n16 : Int) (n17 : Int) (v18 : Value) (n19 : Int), ((v13 : Value) = (.agg #[(.int .i64 n15), (.int .i64 n16), (.int .i64 n17), v18, (.int .i64 n19)])) ∧
 bindW (World.alloc w14 (.cells #[(.int .i64 (0 : Int)), (.int .i64 (0 : Int)), (.int .i64 (0 : Int)), (.slice none 0 0), (.int .i64 (0 : Int))] 54)) fun w20 =>
 (StRow w20 ⟨w14.heap.size, 0, none⟩ #[(.int .i64 n15), (.int .i64 n16), (.int .i64 n17), v18, (.int .i64 n19)]) ∧
 bindW (stRow w20 ⟨w14.heap.size, 0, none⟩ #[(.int .i64 n15), (.int .i64 n16), (.int .i64 n17), v18, (.int .i64 n19)]) fun w21 =>
 ∃ (v22 : Value), ((Go.World.cell? w21 (Addr.add (Addr.add (Addr.add a1 2) ((Int.toNat p1) * 3)) 0)) = (some v22)) ∧
 ∃ (v23 : Value), ((Go.CW.subSlice v22 1 (some (.int .i64 (1 : Int))) none none) = (some v23)) ∧
 Go.CW.Spec Tryz.prog 108 #[v23] w21 fun v24 w25 =>
 oneK v24 ((St1 w25 (Addr.add (Addr.add (Addr.add a1 2) ((Int.toNat p1) * 3)) 0)) ∧
 bindW (World.setCell w25 (Addr.add (Addr.add (Addr.add a1 2) ((Int.toNat p1) * 3)) 0) v24) fun w26 =>
 ∃ (n27 : Int) (n28 : Int) (n29 : Int) (v30 : Value) (n31 : Int), (ldCells w26 ⟨w14.heap.size, 0, none⟩ 5 #[(.int .i64 n27), (.int .i64 n28), (.int .i64 n29), v30, (.int .i64 n31)]) ∧
 (StRow w26 ⟨w.heap.size, 0, none⟩ #[(.int .i64 n27), (.int .i64 n28), (.int .i64 n29), v30, (.int .i64 n31)]) ∧
 bindW (stRow w26 ⟨w.heap.size, 0, none⟩ #[(.int .i64 n27), (.int .i64 n28), (.int .i64 n29), v30, (.int .i64 n31)]) fun w32 =>
 ∃ (n33 : Int) (n34 : Int) (n35 : Int) (v36 : Value) (n37 : Int), (ldCells w32 ⟨w.heap.size, 0, none⟩ 5 #[(.int .i64 n33), (.int .i64 n34), (.int .i64 n35), v36, (.int .i64 n37)]) ∧
 R (.tuple #[(.agg #[(.int .i64 n33), (.int .i64 n34), (.int .i64 n35), v36, (.int .i64 n37)]), (.bool true)]) w32))

theorem lu_Unit_told_m_wp (p0 : Option Addr) (p1 : Int) (w : World) (R : KV) (h : lu_Unit_told_m_F p0 p1 w R) : Go.CW.Spec Tryz.prog 79 #[(.pointer p0), (.int .i64 p1)] w R :=
  spec_of Tryz.func79 (by kernel_rfl) (show lu_Unit_told_m_F p0 p1 w R = _ by kernel_rfl) h

/-- (*gemel/lu.Unit).act -/
def lu_Unit_act_m_F (p0 : Option Addr) (p1 : Int) (p2_0 : Int) (p2_1 : Int) (p2_2 : Int) (p2_3 : Value) (p2_4 : Int) (p2_5 : Int) (p2_6 : Int) (p2_7 : Bool) (w : World) (R : KV) : Prop :=
 bindW (World.alloc w (.cells #[(.int .i64 p2_0), (.int .i64 p2_1), (.int .i64 p2_2), p2_3, (.int .u64 p2_4), (.int .u64 p2_5), (.int .i64 p2_6), (.bool p2_7)] 40)) fun w0 =>
 bindW (World.alloc w0 (.cells #[(.int .i64 (0 : Int)), (.int .i64 (0 : Int)), (.int .i64 (0 : Int)), (.slice none 0 0), (.int .i64 (0 : Int))] 54)) fun w1 =>
 ∃ (n2 : Int), ((Go.World.cell? w1 (Addr.add ⟨w.heap.size, 0, none⟩ 0)) = (some (.int .i64 n2))) ∧
 JoinP []
 (fun (w3 : World) =>
 LoopP [.int .i64]
 (fun j4 => fun (n5 : Int) => fun (w6 : World) =>
 cond (decide (n5 < (8 : Int)))
 (Go.CW.Spec Tryz.prog 177 #[(.pointer p0), (.int .i64 n5), (.int .i64 (10499 : Int))] w6 fun v7 w8 =>
 ((v7 : Value) = (.tuple #[])) ∧
 j4 (IntKind.wrap .i64 (n5 + (1 : Int))) w8)
 ((StRow w6 ⟨w0.heap.size, 0, none⟩ #[(.int .i64 (0 : Int)), (.int .i64 (0 : Int)), (.int .i64 (0 : Int)), (.slice none 0 0), (.int .i64 (0 : Int))]) ∧
 bindW (stRow w6 ⟨w0.heap.size, 0, none⟩ #[(.int .i64 (0 : Int)), (.int .i64 (0 : Int)), (.int .i64 (0 : Int)), (.slice none 0 0), (.int .i64 (0 : Int))]) fun w9 =>
 ∃ (n10 : Int) (n11 : Int) (n12 : Int) (v13 : Value) (n14 : Int), (ldCells w9 ⟨w0.heap.size, 0, none⟩ 5 #[(.int .i64 n10), (.int .i64 n11), (.int .i64 n12), v13, (.int .i64 n14)]) ∧
 R (.agg #[(.int .i64 n10), (.int .i64 n11), (.int .i64 n12), v13, (.int .i64 n14)]) w9))
 (fun s15 => s15 (0 : Int) w3))
 (fun j16 =>
 JoinP []
 (fun (w17 : World) =>
 bindW (World.drew w17) fun w18 =>
 withAddr (.pointer p0) fun a19 =>
 ∃ (o20 : Option Addr), ((Go.World.cell? w18 (Addr.add a19 1)) = (some (.pointer o20))) ∧
 ∃ (n21 : Int), ((Go.World.cell? w18 (Addr.add ⟨w.heap.size, 0, none⟩ 4)) = (some (.int .u64 n21))) ∧
 ∃ (n22 : Int), ((Go.World.cell? w18 (Addr.add ⟨w.heap.size, 0, none⟩ 5)) = (some (.int .u64 n22))) ∧
 ∃ (n23 : Int), ((Go.World.cell? w18 (Addr.add ⟨w.heap.size, 0, none⟩ 0)) = (some (.int .i64 n23))) ∧
 bindW (World.drew w17) fun w24 =>
 Go.CW.Spec Tryz.prog 166 #[(.pointer o20), (.int .i64 p1), (.int .u64 n21), (.int .u64 n22), (.bool (n23 == (11 : Int)))] w24 fun v25 w26 =>
 ∃ (n27 : Int) (n28 : Int) (n29 : Int) (v30 : Value) (n31 : Int) (v32 : Value), ((v25 : Value) = (.tuple #[(.agg #[(.int .i64 n27), (.int .i64 n28), (.int .i64 n29), v30, (.int .i64 n31)]), v32])) ∧
 Go.CW.Spec Tryz.prog 165 #[(.pointer p0), (.agg #[(.int .i64 n27), (.int .i64 n28), (.int .i64 n29), v30, (.int .i64 n31)]), v32] w26 fun v33 w34 =>
 ∃ (n35 : Int) (n36 : Int) (n37 : Int) (v38 : Value) (n39 : Int), ((v33 : Value) = (.agg #[(.int .i64 n35), (.int .i64 n36), (.int .i64 n37), v38, (.int .i64 n39)])) ∧
 (StRow w34 ⟨w0.heap.size, 0, none⟩ #[(.int .i64 n35), (.int .i64 n36), (.int .i64 n37), v38, (.int .i64 n39)]) ∧
 bindW (stRow w34 ⟨w0.heap.size, 0, none⟩ #[(.int .i64 n35), (.int .i64 n36), (.int .i64 n37), v38, (.int .i64 n39)]) fun w40 =>
 bindW (stRow w34 ⟨w0.heap.size, 0, none⟩ #[(.int .i64 n35), (.int .i64 n36), (.int .i64 n37), v38, (.int .i64 n39)]) fun w41 =>
 ∃ (n42 : Int) (n43 : Int) (n44 : Int) (v45 : Value) (n46 : Int), (ldCells w41 ⟨w0.heap.size, 0, none⟩ 5 #[(.int .i64 n42), (.int .i64 n43), (.int .i64 n44), v45, (.int .i64 n46)]) ∧
 R (.agg #[(.int .i64 n42), (.int .i64 n43), (.int .i64 n44), v45, (.int .i64 n46)]) w41)
 (fun j47 =>
 cond (n2 == (1 : Int))
 ((StRow w1 ⟨w0.heap.size, 0, none⟩ #[(.int .i64 (0 : Int)), (.int .i64 (0 : Int)), (.int .i64 (0 : Int)), (.slice none 0 0), (.int .i64 (0 : Int))]) ∧
 bindW (stRow w1 ⟨w0.heap.size, 0, none⟩ #[(.int .i64 (0 : Int)), (.int .i64 (0 : Int)), (.int .i64 (0 : Int)), (.slice none 0 0), (.int .i64 (0 : Int))]) fun w48 =>
 ∃ (n49 : Int) (n50 : Int) (n51 : Int) (v52 : Value) (n53 : Int), (ldCells w48 ⟨w0.heap.size, 0, none⟩ 5 #[(.int .i64 n49), (.int .i64 n50), (.int .i64 n51), v52, (.int .i64 n53)]) ∧
 R (.agg #[(.int .i64 n49), (.int .i64 n50), (.int .i64 n51), v52, (.int .i64 n53)]) w48)
 (cond (n2 == (8 : Int))
 (Go.CW.Spec Tryz.prog 161 #[] w1 fun v54 w55 =>
 Go.CW.Spec Tryz.prog 80 #[v54] w55 fun v56 w57 =>
 ∃ (n58 : Int) (n59 : Int) (n60 : Int) (v61 : Value) (n62 : Int), ((v56 : Value) = (.agg #[(.int .i64 n58), (.int .i64 n59), (.int .i64 n60), v61, (.int .i64 n62)])) ∧
 (StRow w57 ⟨w0.heap.size, 0, none⟩ #[(.int .i64 n58), (.int .i64 n59), (.int .i64 n60), v61, (.int .i64 n62)]) ∧
 bindW (stRow w57 ⟨w0.heap.size, 0, none⟩ #[(.int .i64 n58), (.int .i64 n59), (.int .i64 n60), v61, (.int .i64 n62)]) fun w63 =>
 ∃ (n64 : Int) (n65 : Int) (n66 : Int) (v67 : Value) (n68 : Int), (ldCells w63 ⟨w0.heap.size, 0, none⟩ 5 #[(.int .i64 n64), (.int .i64 n65), (.int .i64 n66), v67, (.int .i64 n68)]) ∧
 R (.agg #[(.int .i64 n64), (.int .i64 n65), (.int .i64 n66), v67, (.int .i64 n68)]) w63)
 (cond (n2 == (7 : Int))
 (Go.CW.Spec Tryz.prog 163 #[(.pointer p0)] w1 fun v69 w70 =>
 ∃ (n71 : Int), ((v69 : Value) = (.int .i64 n71)) ∧
 Go.CW.Spec Tryz.prog 162 #[(.int .i64 n71)] w70 fun v72 w73 =>
 Go.CW.Spec Tryz.prog 80 #[v72] w73 fun v74 w75 =>
 ∃ (n76 : Int) (n77 : Int) (n78 : Int) (v79 : Value) (n80 : Int), ((v74 : Value) = (.agg #[(.int .i64 n76), (.int .i64 n77), (.int .i64 n78), v79, (.int .i64 n80)])) ∧
 (StRow w75 ⟨w0.heap.size, 0, none⟩ #[(.int .i64 n76), (.int .i64 n77), (.int .i64 n78), v79, (.int .i64 n80)]) ∧
 bindW (stRow w75 ⟨w0.heap.size, 0, none⟩ #[(.int .i64 n76), (.int .i64 n77), (.int .i64 n78), v79, (.int .i64 n80)]) fun w81 =>
 ∃ (n82 : Int) (n83 : Int) (n84 : Int) (v85 : Value) (n86 : Int), (ldCells w81 ⟨w0.heap.size, 0, none⟩ 5 #[(.int .i64 n82), (.int .i64 n83), (.int .i64 n84), v85, (.int .i64 n86)]) ∧
 R (.agg #[(.int .i64 n82), (.int .i64 n83), (.int .i64 n84), v85, (.int .i64 n86)]) w81)
 (JoinP [.bool]
 (fun (b87 : Bool) => fun (w88 : World) =>
 cond b87
 (∃ (n89 : Int) (n90 : Int) (n91 : Int) (v92 : Value) (n93 : Int) (n94 : Int) (n95 : Int) (b96 : Bool), (ldCells w88 ⟨w.heap.size, 0, none⟩ 8 #[(.int .i64 n89), (.int .i64 n90), (.int .i64 n91), v92, (.int .u64 n93), (.int .u64 n94), (.int .i64 n95), (.bool b96)]) ∧
 Go.CW.Spec Tryz.prog 164 #[(.pointer p0), (.agg #[(.int .i64 n89), (.int .i64 n90), (.int .i64 n91), v92, (.int .u64 n93), (.int .u64 n94), (.int .i64 n95), (.bool b96)])] w88 fun v97 w98 =>
 ∃ (n99 : Int) (n100 : Int) (n101 : Int) (v102 : Value) (n103 : Int), ((v97 : Value) = (.agg #[(.int .i64 n99), (.int .i64 n100), (.int .i64 n101), v102, (.int .i64 n103)])) ∧
 (StRow w98 ⟨w0.heap.size, 0, none⟩ #[(.int .i64 n99), (.int .i64 n100), (.int .i64 n101), v102, (.int .i64 n103)]) ∧
 bindW (stRow w98 ⟨w0.heap.size, 0, none⟩ #[(.int .i64 n99), (.int .i64 n100), (.int .i64 n101), v102, (.int .i64 n103)]) fun w104 =>
 ∃ (n105 : Int) (n106 : Int) (n107 : Int) (v108 : Value) (n109 : Int), (ldCells w104 ⟨w0.heap.size, 0, none⟩ 5 #[(.int .i64 n105), (.int .i64 n106), (.int .i64 n107), v108, (.int .i64 n109)]) ∧
 R (.agg #[(.int .i64 n105), (.int .i64 n106), (.int .i64 n107), v108, (.int .i64 n109)]) w104)
 (cond (n2 == (10 : Int))
 (j47 w88)
 (cond (n2 == (11 : Int))
 (j47 w88)
 (cond (n2 == (12 : Int))
 (bindW (World.drew w88) fun w110 =>
 withAddr (.pointer p0) fun a111 =>
 ∃ (o112 : Option Addr), ((Go.World.cell? w110 (Addr.add a111 1)) = (some (.pointer o112))) ∧
 ∃ (n113 : Int), ((Go.World.cell? w110 (Addr.add ⟨w.heap.size, 0, none⟩ 4)) = (some (.int .u64 n113))) ∧
 ∃ (n114 : Int), ((Go.World.cell? w110 (Addr.add ⟨w.heap.size, 0, none⟩ 6)) = (some (.int .i64 n114))) ∧
 bindW (World.drew w88) fun w115 =>
 Go.CW.Spec Tryz.prog 167 #[(.pointer o112), (.int .i64 p1), (.int .u64 n113), (.int .i64 n114)] w115 fun v116 w117 =>
 ∃ (n118 : Int) (n119 : Int) (n120 : Int) (v121 : Value) (n122 : Int), ((v116 : Value) = (.agg #[(.int .i64 n118), (.int .i64 n119), (.int .i64 n120), v121, (.int .i64 n122)])) ∧
 (StRow w117 ⟨w0.heap.size, 0, none⟩ #[(.int .i64 n118), (.int .i64 n119), (.int .i64 n120), v121, (.int .i64 n122)]) ∧
 bindW (stRow w117 ⟨w0.heap.size, 0, none⟩ #[(.int .i64 n118), (.int .i64 n119), (.int .i64 n120), v121, (.int .i64 n122)]) fun w123 =>
 bindW (stRow w117 ⟨w0.heap.size, 0, none⟩ #[(.int .i64 n118), (.int .i64 n119), (.int .i64 n120), v121, (.int .i64 n122)]) fun w124 =>
 ∃ (n125 : Int) (n126 : Int) (n127 : Int) (v128 : Value) (n129 : Int), (ldCells w124 ⟨w0.heap.size, 0, none⟩ 5 #[(.int .i64 n125), (.int .i64 n126), (.int .i64 n127), v128, (.int .i64 n129)]) ∧
 R (.agg #[(.int .i64 n125), (.int .i64 n126), (.int .i64 n127), v128, (.int .i64 n129)]) w124)
 (cond (n2 == (13 : Int))
 (bindW (World.drew w88) fun w130 =>
 withAddr (.pointer p0) fun a131 =>
 ∃ (o132 : Option Addr), ((Go.World.cell? w130 (Addr.add a131 1)) = (some (.pointer o132))) ∧
 ∃ (n133 : Int), ((Go.World.cell? w130 (Addr.add ⟨w.heap.size, 0, none⟩ 4)) = (some (.int .u64 n133))) ∧
 ∃ (n134 : Int), ((Go.World.cell? w130 (Addr.add ⟨w.heap.size, 0, none⟩ 6)) = (some (.int .i64 n134))) ∧
 bindW (World.drew w88) fun w135 =>
 Go.CW.Spec Tryz.prog 168 #[(.pointer o132), (.int .i64 p1), (.int .u64 n133), (.int .i64 n134)] w135 fun v136 w137 =>
 ∃ (n138 : Int) (n139 : Int) (n140 : Int) (v141 : Value) (n142 : Int) (v143 : Value), ((v136 : Value) = (.tuple #[(.agg #[(.int .i64 n138), (.int .i64 n139), (.int .i64 n140), v141, (.int .i64 n142)]), v143])) ∧
 Go.CW.Spec Tryz.prog 165 #[(.pointer p0), (.agg #[(.int .i64 n138), (.int .i64 n139), (.int .i64 n140), v141, (.int .i64 n142)]), v143] w137 fun v144 w145 =>
 ∃ (n146 : Int) (n147 : Int) (n148 : Int) (v149 : Value) (n150 : Int), ((v144 : Value) = (.agg #[(.int .i64 n146), (.int .i64 n147), (.int .i64 n148), v149, (.int .i64 n150)])) ∧
 (StRow w145 ⟨w0.heap.size, 0, none⟩ #[(.int .i64 n146), (.int .i64 n147), (.int .i64 n148), v149, (.int .i64 n150)]) ∧
 bindW (stRow w145 ⟨w0.heap.size, 0, none⟩ #[(.int .i64 n146), (.int .i64 n147), (.int .i64 n148), v149, (.int .i64 n150)]) fun w151 =>
 bindW (stRow w145 ⟨w0.heap.size, 0, none⟩ #[(.int .i64 n146), (.int .i64 n147), (.int .i64 n148), v149, (.int .i64 n150)]) fun w152 =>
 ∃ (n153 : Int) (n154 : Int) (n155 : Int) (v156 : Value) (n157 : Int), (ldCells w152 ⟨w0.heap.size, 0, none⟩ 5 #[(.int .i64 n153), (.int .i64 n154), (.int .i64 n155), v156, (.int .i64 n157)]) ∧
 R (.agg #[(.int .i64 n153), (.int .i64 n154), (.int .i64 n155), v156, (.int .i64 n157)]) w152)
 (cond (n2 == (14 : Int))
 (bindW (World.drew w88) fun w158 =>
 withAddr (.pointer p0) fun a159 =>
 ∃ (o160 : Option Addr), ((Go.World.cell? w158 (Addr.add a159 1)) = (some (.pointer o160))) ∧
 ∃ (n161 : Int), ((Go.World.cell? w158 (Addr.add ⟨w.heap.size, 0, none⟩ 4)) = (some (.int .u64 n161))) ∧
 bindW (World.drew w88) fun w162 =>
 Go.CW.Spec Tryz.prog 169 #[(.pointer o160), (.int .i64 p1), (.int .u64 n161)] w162 fun v163 w164 =>
 ∃ (n165 : Int) (n166 : Int) (n167 : Int) (v168 : Value) (n169 : Int) (v170 : Value), ((v163 : Value) = (.tuple #[(.agg #[(.int .i64 n165), (.int .i64 n166), (.int .i64 n167), v168, (.int .i64 n169)]), v170])) ∧
 Go.CW.Spec Tryz.prog 165 #[(.pointer p0), (.agg #[(.int .i64 n165), (.int .i64 n166), (.int .i64 n167), v168, (.int .i64 n169)]), v170] w164 fun v171 w172 =>
 ∃ (n173 : Int) (n174 : Int) (n175 : Int) (v176 : Value) (n177 : Int), ((v171 : Value) = (.agg #[(.int .i64 n173), (.int .i64 n174), (.int .i64 n175), v176, (.int .i64 n177)])) ∧
 (StRow w172 ⟨w0.heap.size, 0, none⟩ #[(.int .i64 n173), (.int .i64 n174), (.int .i64 n175), v176, (.int .i64 n177)]) ∧
 bindW (stRow w172 ⟨w0.heap.size, 0, none⟩ #[(.int .i64 n173), (.int .i64 n174), (.int .i64 n175), v176, (.int .i64 n177)]) fun w178 =>
 bindW (stRow w172 ⟨w0.heap.size, 0, none⟩ #[(.int .i64 n173), (.int .i64 n174), (.int .i64 n175), v176, (.int .i64 n177)]) fun w179 =>
 ∃ (n180 : Int) (n181 : Int) (n182 : Int) (v183 : Value) (n184 : Int), (ldCells w179 ⟨w0.heap.size, 0, none⟩ 5 #[(.int .i64 n180), (.int .i64 n181), (.int .i64 n182), v183, (.int .i64 n184)]) ∧
 R (.agg #[(.int .i64 n180), (.int .i64 n181), (.int .i64 n182), v183, (.int .i64 n184)]) w179)
 (cond (n2 == (15 : Int))
 (bindW (World.drew w88) fun w185 =>
 withAddr (.pointer p0) fun a186 =>
 ∃ (o187 : Option Addr), ((Go.World.cell? w185 (Addr.add a186 1)) = (some (.pointer o187))) ∧
 ∃ (n188 : Int), ((Go.World.cell? w185 (Addr.add ⟨w.heap.size, 0, none⟩ 4)) = (some (.int .u64 n188))) ∧
 ∃ (n189 : Int), ((Go.World.cell? w185 (Addr.add ⟨w.heap.size, 0, none⟩ 5)) = (some (.int .u64 n189))) ∧
 ∃ (n190 : Int), ((Go.World.cell? w185 (Addr.add ⟨w.heap.size, 0, none⟩ 6)) = (some (.int .i64 n190))) ∧
 bindW (World.drew w88) fun w191 =>
 Go.CW.Spec Tryz.prog 170 #[(.pointer o187), (.int .i64 p1), (.int .u64 n188), (.int .u64 n189), (.int .i64 n190)] w191 fun v192 w193 =>
 ∃ (n194 : Int) (n195 : Int) (n196 : Int) (v197 : Value) (n198 : Int) (v199 : Value), ((v192 : Value) = (.tuple #[(.agg #[(.int .i64 n194), (.int .i64 n195), (.int .i64 n196), v197, (.int .i64 n198)]), v199])) ∧
 Go.CW.Spec Tryz.prog 165 #[(.pointer p0), (.agg #[(.int .i64 n194), (.int .i64 n195), (.int .i64 n196), v197, (.int .i64 n198)]), v199] w193 fun v200 w201 =>
 ∃ (n202 : Int) (n203 : Int) (n204 : Int) (v205 : Value) (n206 : Int), ((v200 : Value) = (.agg #[(.int .i64 n202), (.int .i64 n203), (.int .i64 n204), v205, (.int .i64 n206)])) ∧
 (StRow w201 ⟨w0.heap.size, 0, none⟩ #[(.int .i64 n202), (.int .i64 n203), (.int .i64 n204), v205, (.int .i64 n206)]) ∧
 bindW (stRow w201 ⟨w0.heap.size, 0, none⟩ #[(.int .i64 n202), (.int .i64 n203), (.int .i64 n204), v205, (.int .i64 n206)]) fun w207 =>
 bindW (stRow w201 ⟨w0.heap.size, 0, none⟩ #[(.int .i64 n202), (.int .i64 n203), (.int .i64 n204), v205, (.int .i64 n206)]) fun w208 =>
 ∃ (n209 : Int) (n210 : Int) (n211 : Int) (v212 : Value) (n213 : Int), (ldCells w208 ⟨w0.heap.size, 0, none⟩ 5 #[(.int .i64 n209), (.int .i64 n210), (.int .i64 n211), v212, (.int .i64 n213)]) ∧
 R (.agg #[(.int .i64 n209), (.int .i64 n210), (.int .i64 n211), v212, (.int .i64 n213)]) w208)
 (cond (n2 == (16 : Int))
 (bindW (World.drew w88) fun w214 =>
 withAddr (.pointer p0) fun a215 =>
 ∃ (o216 : Option Addr), ((Go.World.cell? w214 (Addr.add a215 1)) = (some (.pointer o216))) ∧
 withAddr (.pointer p0) fun a217 =>
 ∃ (o218 : Option Addr), ((Go.World.cell? w214 (Addr.add a217 1)) = (some (.pointer o218))) ∧
 bindW (World.drew w88) fun w219 =>
 Go.CW.Spec Tryz.prog 172 #[(.pointer o216)] w219 fun v220 w221 =>
 ∃ (n222 : Int), ((v220 : Value) = (.int .u32 n222)) ∧
 (∃ (o223 : Option Addr), ((Go.World.cell? w221 (Addr.add a217 1)) = (some (.pointer o223))) ∧
 ((.pointer o223) : Value) = (.pointer o218)) ∧
 Go.CW.Spec Tryz.prog 173 #[(.pointer o218)] w221 fun v224 w225 =>
 Go.CW.Spec Tryz.prog 171 #[(.int .u32 n222), v224] w225 fun v226 w227 =>
 Go.CW.Spec Tryz.prog 80 #[v226] w227 fun v228 w229 =>
 ∃ (n230 : Int) (n231 : Int) (n232 : Int) (v233 : Value) (n234 : Int), ((v228 : Value) = (.agg #[(.int .i64 n230), (.int .i64 n231), (.int .i64 n232), v233, (.int .i64 n234)])) ∧
 (StRow w229 ⟨w0.heap.size, 0, none⟩ #[(.int .i64 n230), (.int .i64 n231), (.int .i64 n232), v233, (.int .i64 n234)]) ∧
 bindW (stRow w229 ⟨w0.heap.size, 0, none⟩ #[(.int .i64 n230), (.int .i64 n231), (.int .i64 n232), v233, (.int .i64 n234)]) fun w235 =>
 bindW (stRow w229 ⟨w0.heap.size, 0, none⟩ #[(.int .i64 n230), (.int .i64 n231), (.int .i64 n232), v233, (.int .i64 n234)]) fun w236 =>
 ∃ (n237 : Int) (n238 : Int) (n239 : Int) (v240 : Value) (n241 : Int), (ldCells w236 ⟨w0.heap.size, 0, none⟩ 5 #[(.int .i64 n237), (.int .i64 n238), (.int .i64 n239), v240, (.int .i64 n241)]) ∧
 R (.agg #[(.int .i64 n237), (.int .i64 n238), (.int .i64 n239), v240, (.int .i64 n241)]) w236)
 (cond (n2 == (17 : Int))
 (withAddr (.pointer p0) fun a242 =>
 ∃ (o243 : Option Addr), ((Go.World.cell? w88 (Addr.add a242 1)) = (some (.pointer o243))) ∧
 Go.CW.Spec Tryz.prog 174 #[(.pointer o243)] w88 fun v244 w245 =>
 ∃ (n246 : Int) (n247 : Int), ((v244 : Value) = (.tuple #[(.int .i64 n246), (.int .i64 n247)])) ∧
 bindW (World.drew w245) fun w248 =>
 withAddr (.pointer p0) fun a249 =>
 ∃ (o250 : Option Addr), ((Go.World.cell? w248 (Addr.add a249 1)) = (some (.pointer o250))) ∧
 withAddr (.pointer p0) fun a251 =>
 ∃ (o252 : Option Addr), ((Go.World.cell? w248 (Addr.add a251 1)) = (some (.pointer o252))) ∧
 bindW (World.drew w245) fun w253 =>
 Go.CW.Spec Tryz.prog 172 #[(.pointer o250)] w253 fun v254 w255 =>
 ∃ (n256 : Int), ((v254 : Value) = (.int .u32 n256)) ∧
 (∃ (o257 : Option Addr), ((Go.World.cell? w255 (Addr.add a251 1)) = (some (.pointer o257))) ∧
 ((.pointer o257) : Value) = (.pointer o252)) ∧
 Go.CW.Spec Tryz.prog 176 #[(.pointer o252), (.int .i64 n246)] w255 fun v258 w259 =>
 ∃ (n260 : Int), ((v258 : Value) = (.int .u64 n260)) ∧
 Go.CW.Spec Tryz.prog 175 #[(.int .u32 n256), (.int .u64 n260), (.int .i64 n247)] w259 fun v261 w262 =>
 Go.CW.Spec Tryz.prog 80 #[v261] w262 fun v263 w264 =>
 ∃ (n265 : Int) (n266 : Int) (n267 : Int) (v268 : Value) (n269 : Int), ((v263 : Value) = (.agg #[(.int .i64 n265), (.int .i64 n266), (.int .i64 n267), v268, (.int .i64 n269)])) ∧
 (StRow w264 ⟨w0.heap.size, 0, none⟩ #[(.int .i64 n265), (.int .i64 n266), (.int .i64 n267), v268, (.int .i64 n269)]) ∧
 bindW (stRow w264 ⟨w0.heap.size, 0, none⟩ #[(.int .i64 n265), (.int .i64 n266), (.int .i64 n267), v268, (.int .i64 n269)]) fun w270 =>
 bindW (stRow w264 ⟨w0.heap.size, 0, none⟩ #[(.int .i64 n265), (.int .i64 n266), (.int .i64 n267), v268, (.int .i64 n269)]) fun w271 =>
 ∃ (n272 : Int) (n273 : Int) (n274 : Int) (v275 : Value) (n276 : Int), (ldCells w271 ⟨w0.heap.size, 0, none⟩ 5 #[(.int .i64 n272), (.int .i64 n273), (.int .i64 n274), v275, (.int .i64 n276)]) ∧
 R (.agg #[(.int .i64 n272), (.int .i64 n273), (.int .i64 n274), v275, (.int .i64 n276)]) w271)
 (j16 w88))))))))))
 (fun j277 =>
 cond (n2 == (2 : Int))
 (j277 (n2 == (2 : Int)) w1)
 (cond (n2 == (3 : Int))
 (j277 (n2 == (3 : Int)) w1)
 (cond (n2 == (4 : Int))
 (j277 (n2 == (4 : Int)) w1)
 (cond (n2 == (5 : Int))
 (j277 (n2 == (5 : Int)) w1)
 (j277 (n2 == (6 : Int)) w1))))))))))

theorem lu_Unit_act_m_wp (p0 : Option Addr) (p1 : Int) (p2_0 : Int) (p2_1 : Int) (p2_2 : Int) (p2_3 : Value) (p2_4 : Int) (p2_5 : Int) (p2_6 : Int) (p2_7 : Bool) (w : World) (R : KV) (h : lu_Unit_act_m_F p0 p1 p2_0 p2_1 p2_2 p2_3 p2_4 p2_5 p2_6 p2_7 w R) : Go.CW.Spec Tryz.prog 83 #[(.pointer p0), (.int .i64 p1), (.agg #[(.int .i64 p2_0), (.int .i64 p2_1), (.int .i64 p2_2), p2_3, (.int .u64 p2_4), (.int .u64 p2_5), (.int .i64 p2_6), (.bool p2_7)])] w R :=
  spec_of Tryz.func83 (by kernel_rfl) (show lu_Unit_act_m_F p0 p1 p2_0 p2_1 p2_2 p2_3 p2_4 p2_5 p2_6 p2_7 w R = _ by kernel_rfl) h

/-- (*gemel/lu.Unit).Blocks -/
def lu_Unit_Blocks_m_F (p0 : Option Addr) (w : World) (R : KV) : Prop :=
 withAddr (.pointer p0) fun a0 =>
 ∃ (o1 : Option Addr), ((Go.World.cell? w (Addr.add a0 0)) = (some (.pointer o1))) ∧
 Go.CW.Spec Tryz.prog 132 #[(.pointer o1)] w fun v2 w3 =>
 ∃ (n4 : Int), ((v2 : Value) = (.int .i64 n4)) ∧
 R (.int .i64 n4) w3

theorem lu_Unit_Blocks_m_wp (p0 : Option Addr) (w : World) (R : KV) (h : lu_Unit_Blocks_m_F p0 w R) : Go.CW.Spec Tryz.prog 163 #[(.pointer p0)] w R :=
  spec_of Tryz.func163 (by kernel_rfl) (show lu_Unit_Blocks_m_F p0 w R = _ by kernel_rfl) h

/-- (*gemel/lu.Unit).run -/
def lu_Unit_run_m_F (p0 : Option Addr) (p1_0 : Int) (p1_1 : Int) (p1_2 : Int) (p1_3 : Value) (p1_4 : Int) (p1_5 : Int) (p1_6 : Int) (p1_7 : Bool) (w : World) (R : KV) : Prop :=
 bindW (World.alloc w (.cells #[(.int .i64 p1_0), (.int .i64 p1_1), (.int .i64 p1_2), p1_3, (.int .u64 p1_4), (.int .u64 p1_5), (.int .i64 p1_6), (.bool p1_7)] 40)) fun w0 =>
 bindW (World.alloc w0 (.cells #[(.int .i64 (0 : Int)), (.int .i64 (0 : Int)), (.int .i64 (0 : Int)), (.slice none 0 0), (.int .i64 (0 : Int))] 54)) fun w1 =>
 bindW (World.drew w1) fun w2 =>
 withAddr (.pointer p0) fun a3 =>
 ∃ (o4 : Option Addr), ((Go.World.cell? w2 (Addr.add a3 0)) = (some (.pointer o4))) ∧
 ∃ (n5 : Int), ((Go.World.cell? w2 (Addr.add ⟨w.heap.size, 0, none⟩ 1)) = (some (.int .i64 n5))) ∧
 ∃ (n6 : Int), ((Go.World.cell? w2 (Addr.add ⟨w.heap.size, 0, none⟩ 2)) = (some (.int .i64 n6))) ∧
 bindW (World.drew w1) fun w7 =>
 Go.CW.Spec Tryz.prog 235 #[(.pointer o4), (.int .i64 n5), (.int .i64 n6)] w7 fun v8 w9 =>
 ∃ (b10 : Bool), ((v8 : Value) = (.bool b10)) ∧
 cond (!b10)
 (Go.CW.Spec Tryz.prog 78 #[(.int .i64 (5 : Int)), (.int .i64 (8448 : Int))] w9 fun v11 w12 =>
 ∃ (n13 : Int) (n14 : Int) (n15 : Int) (v16 : Value) (n17 : Int), ((v11 : Value) = (.agg #[(.int .i64 n13), (.int .i64 n14), (.int .i64 n15), v16, (.int .i64 n17)])) ∧
 (StRow w12 ⟨w0.heap.size, 0, none⟩ #[(.int .i64 n13), (.int .i64 n14), (.int .i64 n15), v16, (.int .i64 n17)]) ∧
 bindW (stRow w12 ⟨w0.heap.size, 0, none⟩ #[(.int .i64 n13), (.int .i64 n14), (.int .i64 n15), v16, (.int .i64 n17)]) fun w18 =>
 ∃ (n19 : Int) (n20 : Int) (n21 : Int) (v22 : Value) (n23 : Int), (ldCells w18 ⟨w0.heap.size, 0, none⟩ 5 #[(.int .i64 n19), (.int .i64 n20), (.int .i64 n21), v22, (.int .i64 n23)]) ∧
 R (.agg #[(.int .i64 n19), (.int .i64 n20), (.int .i64 n21), v22, (.int .i64 n23)]) w18)
 (∃ (n24 : Int), ((Go.World.cell? w9 (Addr.add ⟨w.heap.size, 0, none⟩ 2)) = (some (.int .i64 n24))) ∧
 ∃ (n25 : Int), ((Go.World.cell? w9 (Addr.add ⟨w.heap.size, 0, none⟩ 0)) = (some (.int .i64 n25))) ∧
 JoinP []
 (fun (w26 : World) =>
 (StRow w26 ⟨w0.heap.size, 0, none⟩ #[(.int .i64 (0 : Int)), (.int .i64 (0 : Int)), (.int .i64 (0 : Int)), (.slice none 0 0), (.int .i64 (0 : Int))]) ∧
 bindW (stRow w26 ⟨w0.heap.size, 0, none⟩ #[(.int .i64 (0 : Int)), (.int .i64 (0 : Int)), (.int .i64 (0 : Int)), (.slice none 0 0), (.int .i64 (0 : Int))]) fun w27 =>
 ∃ (n28 : Int) (n29 : Int) (n30 : Int) (v31 : Value) (n32 : Int), (ldCells w27 ⟨w0.heap.size, 0, none⟩ 5 #[(.int .i64 n28), (.int .i64 n29), (.int .i64 n30), v31, (.int .i64 n32)]) ∧
 R (.agg #[(.int .i64 n28), (.int .i64 n29), (.int .i64 n30), v31, (.int .i64 n32)]) w27)
 (fun j33 =>
 cond (n25 == (2 : Int))
 (bindW (World.drew w9) fun w34 =>
 withAddr (.pointer p0) fun a35 =>
 ∃ (o36 : Option Addr), ((Go.World.cell? w34 (Addr.add a35 0)) = (some (.pointer o36))) ∧
 ∃ (n37 : Int), ((Go.World.cell? w34 (Addr.add ⟨w.heap.size, 0, none⟩ 1)) = (some (.int .i64 n37))) ∧
 ∃ (n38 : Int), ((Go.World.cell? w34 (Addr.add ⟨w.heap.size, 0, none⟩ 2)) = (some (.int .i64 n38))) ∧
 bindW (World.drew w9) fun w39 =>
 Go.CW.Spec Tryz.prog 236 #[(.pointer o36), (.int .i64 n37), (.int .i64 n38)] w39 fun v40 w41 =>
 ∃ (v42 : Value) (n43 : Int), ((v40 : Value) = (.tuple #[v42, (.int .i64 n43)])) ∧
 Go.CW.Spec Tryz.prog 80 #[v42] w41 fun v44 w45 =>
 ∃ (n46 : Int) (n47 : Int) (n48 : Int) (v49 : Value) (n50 : Int), ((v44 : Value) = (.agg #[(.int .i64 n46), (.int .i64 n47), (.int .i64 n48), v49, (.int .i64 n50)])) ∧
 (StRow w45 ⟨w0.heap.size, 0, none⟩ #[(.int .i64 n46), (.int .i64 n47), (.int .i64 n48), v49, (.int .i64 n50)]) ∧
 bindW (stRow w45 ⟨w0.heap.size, 0, none⟩ #[(.int .i64 n46), (.int .i64 n47), (.int .i64 n48), v49, (.int .i64 n50)]) fun w51 =>
 ∃ (n52 : Int) (n53 : Int) (n54 : Int) (v55 : Value) (n56 : Int), (ldCells w51 ⟨w0.heap.size, 0, none⟩ 5 #[(.int .i64 n52), (.int .i64 n53), (.int .i64 n54), v55, (.int .i64 n56)]) ∧
 R (.agg #[(.int .i64 n52), (.int .i64 n53), (.int .i64 n54), v55, (.int .i64 n56)]) w51)
 (cond (n25 == (3 : Int))
 (∃ (v57 : Value), ((Go.World.cell? w9 (Addr.add ⟨w.heap.size, 0, none⟩ 3)) = (some v57)) ∧
 ∃ (m58 : Nat), ((Go.CW.sliceLen v57) = (some m58)) ∧
 cond (((m58 : Nat) : Int) != (IntKind.wrap .i64 (n24 * (8 : Int))))
 (Go.CW.Spec Tryz.prog 78 #[(.int .i64 (5 : Int)), (.int .i64 (9216 : Int))] w9 fun v59 w60 =>
 ∃ (n61 : Int) (n62 : Int) (n63 : Int) (v64 : Value) (n65 : Int), ((v59 : Value) = (.agg #[(.int .i64 n61), (.int .i64 n62), (.int .i64 n63), v64, (.int .i64 n65)])) ∧
 (StRow w60 ⟨w0.heap.size, 0, none⟩ #[(.int .i64 n61), (.int .i64 n62), (.int .i64 n63), v64, (.int .i64 n65)]) ∧
 bindW (stRow w60 ⟨w0.heap.size, 0, none⟩ #[(.int .i64 n61), (.int .i64 n62), (.int .i64 n63), v64, (.int .i64 n65)]) fun w66 =>
 ∃ (n67 : Int) (n68 : Int) (n69 : Int) (v70 : Value) (n71 : Int), (ldCells w66 ⟨w0.heap.size, 0, none⟩ 5 #[(.int .i64 n67), (.int .i64 n68), (.int .i64 n69), v70, (.int .i64 n71)]) ∧
 R (.agg #[(.int .i64 n67), (.int .i64 n68), (.int .i64 n69), v70, (.int .i64 n71)]) w66)
 (bindW (World.drew w9) fun w72 =>
 withAddr (.pointer p0) fun a73 =>
 ∃ (o74 : Option Addr), ((Go.World.cell? w72 (Addr.add a73 0)) = (some (.pointer o74))) ∧
 ∃ (n75 : Int), ((Go.World.cell? w72 (Addr.add ⟨w.heap.size, 0, none⟩ 1)) = (some (.int .i64 n75))) ∧
 ∃ (v76 : Value), ((Go.World.cell? w72 (Addr.add ⟨w.heap.size, 0, none⟩ 3)) = (some v76)) ∧
 bindW (World.drew w9) fun w77 =>
 Go.CW.Spec Tryz.prog 237 #[(.pointer o74), (.int .i64 n75), v76] w77 fun v78 w79 =>
 ∃ (n80 : Int), ((v78 : Value) = (.int .i64 n80)) ∧
 j33 w79))
 (cond (n25 == (5 : Int))
 (bindW (World.drew w9) fun w81 =>
 withAddr (.pointer p0) fun a82 =>
 ∃ (o83 : Option Addr), ((Go.World.cell? w81 (Addr.add a82 0)) = (some (.pointer o83))) ∧
 ∃ (n84 : Int), ((Go.World.cell? w81 (Addr.add ⟨w.heap.size, 0, none⟩ 1)) = (some (.int .i64 n84))) ∧
 ∃ (n85 : Int), ((Go.World.cell? w81 (Addr.add ⟨w.heap.size, 0, none⟩ 2)) = (some (.int .i64 n85))) ∧
 bindW (World.drew w9) fun w86 =>
 Go.CW.Spec Tryz.prog 238 #[(.pointer o83), (.int .i64 n84), (.int .i64 n85)] w86 fun v87 w88 =>
 ∃ (n89 : Int), ((v87 : Value) = (.int .i64 n89)) ∧
 j33 w88)
 (cond (n25 == (6 : Int))
 (∃ (v90 : Value), ((Go.World.cell? w9 (Addr.add ⟨w.heap.size, 0, none⟩ 3)) = (some v90)) ∧
 ∃ (m91 : Nat), ((Go.CW.sliceLen v90) = (some m91)) ∧
 cond (((m91 : Nat) : Int) != (IntKind.wrap .i64 ((2 : Int) * (IntKind.wrap .i64 (n24 * (8 : Int))))))
 (Go.CW.Spec Tryz.prog 78 #[(.int .i64 (5 : Int)), (.int .i64 (9216 : Int))] w9 fun v92 w93 =>
 ∃ (n94 : Int) (n95 : Int) (n96 : Int) (v97 : Value) (n98 : Int), ((v92 : Value) = (.agg #[(.int .i64 n94), (.int .i64 n95), (.int .i64 n96), v97, (.int .i64 n98)])) ∧
 (StRow w93 ⟨w0.heap.size, 0, none⟩ #[(.int .i64 n94), (.int .i64 n95), (.int .i64 n96), v97, (.int .i64 n98)]) ∧
 bindW (stRow w93 ⟨w0.heap.size, 0, none⟩ #[(.int .i64 n94), (.int .i64 n95), (.int .i64 n96), v97, (.int .i64 n98)]) fun w99 =>
 ∃ (n100 : Int) (n101 : Int) (n102 : Int) (v103 : Value) (n104 : Int), (ldCells w99 ⟨w0.heap.size, 0, none⟩ 5 #[(.int .i64 n100), (.int .i64 n101), (.int .i64 n102), v103, (.int .i64 n104)]) ∧
 R (.agg #[(.int .i64 n100), (.int .i64 n101), (.int .i64 n102), v103, (.int .i64 n104)]) w99)
 (bindW (World.drew w9) fun w105 =>
 withAddr (.pointer p0) fun a106 =>
 ∃ (o107 : Option Addr), ((Go.World.cell? w105 (Addr.add a106 0)) = (some (.pointer o107))) ∧
 ∃ (n108 : Int), ((Go.World.cell? w105 (Addr.add ⟨w.heap.size, 0, none⟩ 1)) = (some (.int .i64 n108))) ∧
 ∃ (v109 : Value), ((Go.World.cell? w105 (Addr.add ⟨w.heap.size, 0, none⟩ 3)) = (some v109)) ∧
 bindW (World.drew w9) fun w110 =>
 Go.CW.Spec Tryz.prog 239 #[(.pointer o107), (.int .i64 n108), v109] w110 fun v111 w112 =>
 ∃ (n113 : Int) (n114 : Int), ((v111 : Value) = (.tuple #[(.int .i64 n113), (.int .i64 n114)])) ∧
 cond (decide (n113 ≥ (0 : Int)))
 (Go.CW.Spec Tryz.prog 78 #[(.int .i64 (14 : Int)), (.int .i64 (7424 : Int))] w112 fun v115 w116 =>
 ∃ (n117 : Int) (n118 : Int) (n119 : Int) (v120 : Value) (n121 : Int), ((v115 : Value) = (.agg #[(.int .i64 n117), (.int .i64 n118), (.int .i64 n119), v120, (.int .i64 n121)])) ∧
 bindW (World.alloc w116 (.cells #[(.int .i64 (0 : Int)), (.int .i64 (0 : Int)), (.int .i64 (0 : Int)), (.slice none 0 0), (.int .i64 (0 : Int))] 54)) fun w122 =>
 (StRow w122 ⟨w116.heap.size, 0, none⟩ #[(.int .i64 n117), (.int .i64 n118), (.int .i64 n119), v120, (.int .i64 n121)]) ∧
 bindW (stRow w122 ⟨w116.heap.size, 0, none⟩ #[(.int .i64 n117), (.int .i64 n118), (.int .i64 n119), v120, (.int .i64 n121)]) fun w123 =>
 (St1 w123 (Addr.add ⟨w116.heap.size, 0, none⟩ 4)) ∧
 bindW (World.setCell w123 (Addr.add ⟨w116.heap.size, 0, none⟩ 4) (.int .i64 n113)) fun w124 =>
 ∃ (n125 : Int) (n126 : Int) (n127 : Int) (v128 : Value) (n129 : Int), (ldCells w124 ⟨w116.heap.size, 0, none⟩ 5 #[(.int .i64 n125), (.int .i64 n126), (.int .i64 n127), v128, (.int .i64 n129)]) ∧
 (StRow w124 ⟨w0.heap.size, 0, none⟩ #[(.int .i64 n125), (.int .i64 n126), (.int .i64 n127), v128, (.int .i64 n129)]) ∧
 bindW (stRow w124 ⟨w0.heap.size, 0, none⟩ #[(.int .i64 n125), (.int .i64 n126), (.int .i64 n127), v128, (.int .i64 n129)]) fun w130 =>
 ∃ (n131 : Int) (n132 : Int) (n133 : Int) (v134 : Value) (n135 : Int), (ldCells w130 ⟨w0.heap.size, 0, none⟩ 5 #[(.int .i64 n131), (.int .i64 n132), (.int .i64 n133), v134, (.int .i64 n135)]) ∧
 R (.agg #[(.int .i64 n131), (.int .i64 n132), (.int .i64 n133), v134, (.int .i64 n135)]) w130)
 (j33 w112)))
 (j33 w9))))))

theorem lu_Unit_run_m_wp (p0 : Option Addr) (p1_0 : Int) (p1_1 : Int) (p1_2 : Int) (p1_3 : Value) (p1_4 : Int) (p1_5 : Int) (p1_6 : Int) (p1_7 : Bool) (w : World) (R : KV) (h : lu_Unit_run_m_F p0 p1_0 p1_1 p1_2 p1_3 p1_4 p1_5 p1_6 p1_7 w R) : Go.CW.Spec Tryz.prog 164 #[(.pointer p0), (.agg #[(.int .i64 p1_0), (.int .i64 p1_1), (.int .i64 p1_2), p1_3, (.int .u64 p1_4), (.int .u64 p1_5), (.int .i64 p1_6), (.bool p1_7)])] w R :=
  spec_of Tryz.func164 (by kernel_rfl) (show lu_Unit_run_m_F p0 p1_0 p1_1 p1_2 p1_3 p1_4 p1_5 p1_6 p1_7 w R = _ by kernel_rfl) h

/-- (*gemel/lu.Unit).noticed -/
def lu_Unit_noticed_m_F (p0 : Option Addr) (p1_0 : Int) (p1_1 : Int) (p1_2 : Int) (p1_3 : Value) (p1_4 : Int) (p2 : Value) (w : World) (R : KV) : Prop :=
 bindW (World.alloc w (.cells #[(.int .i64 p1_0), (.int .i64 p1_1), (.int .i64 p1_2), p1_3, (.int .i64 p1_4)] 54)) fun w0 =>
 bindW (World.alloc w0 (.cells #[(.int .i64 (0 : Int)), (.int .i64 (0 : Int)), (.int .i64 (0 : Int)), (.slice none 0 0), (.int .i64 (0 : Int))] 54)) fun w1 =>
 ∃ (m2 : Nat), ((Go.CW.sliceLen p2) = (some m2)) ∧
 LoopP [.int .i64]
 (fun j3 => fun (n4 : Int) => fun (w5 : World) =>
 cond (decide (n4 < ((m2 : Nat) : Int)))
 (∃ (a6 : Addr), ((Go.CW.sliceAt p2 n4 2) = (some a6)) ∧
 ∃ (n7 : Int) (n8 : Int), (ldCells w5 a6 2 #[(.int .i64 n7), (.int .i64 n8)]) ∧
 bindW (World.alloc w5 (.cells #[(.int .i64 (0 : Int)), (.int .i64 (0 : Int))] 360)) fun w9 =>
 (StRow w9 ⟨w5.heap.size, 0, none⟩ #[(.int .i64 n7), (.int .i64 n8)]) ∧
 bindW (stRow w9 ⟨w5.heap.size, 0, none⟩ #[(.int .i64 n7), (.int .i64 n8)]) fun w10 =>
 ∃ (n11 : Int), ((Go.World.cell? w10 (Addr.add ⟨w5.heap.size, 0, none⟩ 0)) = (some (.int .i64 n11))) ∧
 ∃ (n12 : Int), ((Go.World.cell? w10 (Addr.add ⟨w5.heap.size, 0, none⟩ 1)) = (some (.int .i64 n12))) ∧
 Go.CW.Spec Tryz.prog 177 #[(.pointer p0), (.int .i64 n11), (.int .i64 n12)] w10 fun v13 w14 =>
 ((v13 : Value) = (.tuple #[])) ∧
 j3 (IntKind.wrap .i64 (n4 + (1 : Int))) w14)
 (∃ (n15 : Int) (n16 : Int) (n17 : Int) (v18 : Value) (n19 : Int), (ldCells w5 ⟨w.heap.size, 0, none⟩ 5 #[(.int .i64 n15), (.int .i64 n16), (.int .i64 n17), v18, (.int .i64 n19)]) ∧
 (StRow w5 ⟨w0.heap.size, 0, none⟩ #[(.int .i64 n15), (.int .i64 n16), (.int .i64 n17), v18, (.int .i64 n19)]) ∧
 bindW (stRow w5 ⟨w0.heap.size, 0, none⟩ #[(.int .i64 n15), (.int .i64 n16), (.int .i64 n17), v18, (.int .i64 n19)]) fun w20 =>
 ∃ (n21 : Int) (n22 : Int) (n23 : Int) (v24 : Value) (n25 : Int), (ldCells w20 ⟨w0.heap.size, 0, none⟩ 5 #[(.int .i64 n21), (.int .i64 n22), (.int .i64 n23), v24, (.int .i64 n25)]) ∧
 R (.agg #[(.int .i64 n21), (.int .i64 n22), (.int .i64 n23), v24, (.int .i64 n25)]) w20))
 (fun s26 => s26 (0 : Int) w1)

theorem lu_Unit_noticed_m_wp (p0 : Option Addr) (p1_0 : Int) (p1_1 : Int) (p1_2 : Int) (p1_3 : Value) (p1_4 : Int) (p2 : Value) (w : World) (R : KV) (h : lu_Unit_noticed_m_F p0 p1_0 p1_1 p1_2 p1_3 p1_4 p2 w R) : Go.CW.Spec Tryz.prog 165 #[(.pointer p0), (.agg #[(.int .i64 p1_0), (.int .i64 p1_1), (.int .i64 p1_2), p1_3, (.int .i64 p1_4)]), p2] w R :=
  spec_of Tryz.func165 (by kernel_rfl) (show lu_Unit_noticed_m_F p0 p1_0 p1_1 p1_2 p1_3 p1_4 p2 w R = _ by kernel_rfl) h

/-- (*gemel/lu.Unit).tell -/
def lu_Unit_tell_m_F (p0 : Option Addr) (p1 : Int) (p2 : Int) (w : World) (R : KV) : Prop :=
 withAddr (.pointer p0) fun a0 =>
 (inR p1 8) ∧
 ∃ (v1 : Value), ((Go.World.cell? w (Addr.add (Addr.add (Addr.add a0 2) ((Int.toNat p1) * 3)) 0)) = (some v1)) ∧
 Go.CW.Spec Tryz.prog 98 #[v1, (.int .i64 p2)] w fun v2 w3 =>
 ∃ (b4 : Bool), ((v2 : Value) = (.bool b4)) ∧
 cond (!b4)
 (∃ (v5 : Value), ((Go.World.cell? w3 (Addr.add (Addr.add (Addr.add a0 2) ((Int.toNat p1) * 3)) 0)) = (some v5)) ∧
 bindW (World.alloc w3 (.cells #[(.int .i64 p2)] 3)) fun w6 =>
 ∃ (v7 : Value) (w8 : World), ((Sem.run @Go.Proofs.Tryz.prog (Go.Builtin.append_ #[79, 79] 79 #[v5, (.slice (some ⟨w3.heap.size, 0, none⟩) 1 1)]) w6) = (.ok v7 w8)) ∧
 oneK v7 ((St1 w8 (Addr.add (Addr.add (Addr.add a0 2) ((Int.toNat p1) * 3)) 0)) ∧
 bindW (World.setCell w8 (Addr.add (Addr.add (Addr.add a0 2) ((Int.toNat p1) * 3)) 0) v7) fun w9 =>
 R (.tuple #[]) w9))
 (R (.tuple #[]) w3)

theorem lu_Unit_tell_m_wp (p0 : Option Addr) (p1 : Int) (p2 : Int) (w : World) (R : KV) (h : lu_Unit_tell_m_F p0 p1 p2 w R) : Go.CW.Spec Tryz.prog 177 #[(.pointer p0), (.int .i64 p1), (.int .i64 p2)] w R :=
  spec_of Tryz.func177 (by kernel_rfl) (show lu_Unit_tell_m_F p0 p1 p2 w R = _ by kernel_rfl) h

/-- gemel/resv.New -/
def resv_New_F  (w : World) (R : KV) : Prop :=
 bindW (World.alloc w (.cells #[(.int .u64 (0 : Int)), (.int .u64 (0 : Int)), (.int .u64 (0 : Int)), (.int .u64 (0 : Int)), (.int .u64 (0 : Int)), (.int .u64 (0 : Int)), (.int .u64 (0 : Int)), (.int .u64 (0 : Int)), (.int .i64 (-1 : Int)), (.int .i64 (0 : Int)), (.int .u32 (0 : Int))] 280)) fun w0 =>
 R (.pointer (some ⟨w.heap.size, 0, none⟩)) w0

theorem resv_New_wp  (w : World) (R : KV) (h : resv_New_F  w R) : Go.CW.Spec Tryz.prog 75 #[] w R :=
  spec_of Tryz.func75 (by kernel_rfl) (show resv_New_F  w R = _ by kernel_rfl) h

/-- (*gemel/resv.Table).Allows -/
def resv_Table_Allows_m_F (p0 : Option Addr) (p1 : Int) (p2 : Int) (w : World) (R : KV) : Prop :=
 JoinP [.bool]
 (fun (b0 : Bool) => fun (w1 : World) =>
 cond b0
 (R (.bool true) w1)
 (JoinP [.bool]
 (fun (b2 : Bool) => fun (w3 : World) =>
 cond b2
 (JoinP [.bool]
 (fun (b4 : Bool) => fun (w5 : World) =>
 R (.bool b4) w5)
 (fun j6 =>
 withAddr (.pointer p0) fun a7 =>
 ∃ (n8 : Int), ((Go.World.cell? w3 (Addr.add a7 9)) = (some (.int .i64 n8))) ∧
 cond (n8 == (1 : Int))
 (j6 true w3)
 (withAddr (.pointer p0) fun a9 =>
 ∃ (n10 : Int), ((Go.World.cell? w3 (Addr.add a9 9)) = (some (.int .i64 n10))) ∧
 j6 (n10 == (5 : Int)) w3)))
 (JoinP [.bool]
 (fun (b11 : Bool) => fun (w12 : World) =>
 cond b11
 (R (.bool false) w12)
 (R (.bool true) w12))
 (fun j13 =>
 cond (p2 == (3 : Int))
 (j13 (p2 == (3 : Int)) w3)
 (cond (p2 == (4 : Int))
 (j13 (p2 == (4 : Int)) w3)
 (cond (p2 == (5 : Int))
 (j13 (p2 == (5 : Int)) w3)
 (j13 (p2 == (6 : Int)) w3))))))
 (fun j14 =>
 cond (p2 == (1 : Int))
 (j14 (p2 == (1 : Int)) w1)
 (j14 (p2 == (2 : Int)) w1))))
 (fun j15 =>
 withAddr (.pointer p0) fun a16 =>
 ∃ (n17 : Int), ((Go.World.cell? w (Addr.add a16 8)) = (some (.int .i64 n17))) ∧
 cond (n17 == (-1 : Int))
 (j15 true w)
 (withAddr (.pointer p0) fun a18 =>
 ∃ (n19 : Int), ((Go.World.cell? w (Addr.add a18 8)) = (some (.int .i64 n19))) ∧
 cond (n19 == p1)
 (j15 true w)
 (Go.CW.Spec Tryz.prog 159 #[(.pointer p0)] w fun v20 w21 =>
 ∃ (b22 : Bool), ((v20 : Value) = (.bool b22)) ∧
 cond b22
 (Go.CW.Spec Tryz.prog 160 #[(.int .i64 p1)] w21 fun v23 w24 =>
 ∃ (b25 : Bool), ((v23 : Value) = (.bool b25)) ∧
 cond b25
 (withAddr (.pointer p0) fun a26 =>
 (inR p1 8) ∧
 ∃ (n27 : Int), ((Go.World.cell? w24 (Addr.add (Addr.add a26 0) ((Int.toNat p1) * 1))) = (some (.int .u64 n27))) ∧
 j15 (n27 != (0 : Int)) w24)
 (j15 false w24))
 (j15 false w21))))

theorem resv_Table_Allows_m_wp (p0 : Option Addr) (p1 : Int) (p2 : Int) (w : World) (R : KV) (h : resv_Table_Allows_m_F p0 p1 p2 w R) : Go.CW.Spec Tryz.prog 82 #[(.pointer p0), (.int .i64 p1), (.int .i64 p2)] w R :=
  spec_of Tryz.func82 (by kernel_rfl) (show resv_Table_Allows_m_F p0 p1 p2 w R = _ by kernel_rfl) h

/-- gemel/resv.host -/
def resv_host_F (p0 : Int) (w : World) (R : KV) : Prop :=
 JoinP [.bool]
 (fun (b0 : Bool) => fun (w1 : World) =>
 R (.bool b0) w1)
 (fun j2 =>
 cond (decide (p0 ≥ (0 : Int)))
 (j2 (decide (p0 < (8 : Int))) w)
 (j2 false w))

theorem resv_host_wp (p0 : Int) (w : World) (R : KV) (h : resv_host_F p0 w R) : Go.CW.Spec Tryz.prog 160 #[(.int .i64 p0)] w R :=
  spec_of Tryz.func160 (by kernel_rfl) (show resv_host_F p0 w R = _ by kernel_rfl) h

/-- (*gemel/resv.Table).regs -/
def resv_Table_regs_m_F (p0 : Option Addr) (w : World) (R : KV) : Prop :=
 JoinP [.bool]
 (fun (b0 : Bool) => fun (w1 : World) =>
 R (.bool b0) w1)
 (fun j2 =>
 withAddr (.pointer p0) fun a3 =>
 ∃ (n4 : Int), ((Go.World.cell? w (Addr.add a3 9)) = (some (.int .i64 n4))) ∧
 cond (n4 == (5 : Int))
 (j2 true w)
 (withAddr (.pointer p0) fun a5 =>
 ∃ (n6 : Int), ((Go.World.cell? w (Addr.add a5 9)) = (some (.int .i64 n6))) ∧
 j2 (n6 == (6 : Int)) w))

theorem resv_Table_regs_m_wp (p0 : Option Addr) (w : World) (R : KV) (h : resv_Table_regs_m_F p0 w R) : Go.CW.Spec Tryz.prog 159 #[(.pointer p0)] w R :=
  spec_of Tryz.func159 (by kernel_rfl) (show resv_Table_regs_m_F p0 w R = _ by kernel_rfl) h

end Go.Proofs.YtghineciiljeoaaGreatDoor
