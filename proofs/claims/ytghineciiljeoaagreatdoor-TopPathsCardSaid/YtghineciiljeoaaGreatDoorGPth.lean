/- The formulas of some functions, printed by a program (wip/cw/CwGen). -/
import Derived.Test.YtghineciiljeoaaGreatDoorNam
set_option linter.unusedVariables false
set_option maxRecDepth 100000
namespace Go.Proofs.YtghineciiljeoaaGreatDoor
open Go Go.CW

/-- (*gemel/lu.Unit).Once -/
def lu_Unit_Once_m_F (p0 : Option Addr) (p1 : Int) (p2 : Int) (p3 : Int) (p4_0 : Int) (p4_1 : Int) (p4_2 : Int) (p4_3 : Value) (p4_4 : Int) (p4_5 : Int) (p4_6 : Int) (p4_7 : Bool) (w : World) (R : KV) : Prop :=
 bindW (World.alloc w (.cells #[(.int .i64 p4_0), (.int .i64 p4_1), (.int .i64 p4_2), p4_3, (.int .u64 p4_4), (.int .u64 p4_5), (.int .i64 p4_6), (.bool p4_7)] 40)) fun w0 =>
 bindW (World.alloc w0 (.cells #[(.int .i64 (0 : Int)), (.int .i64 (0 : Int)), (.int .i64 (0 : Int)), (.slice none 0 0), (.int .i64 (0 : Int))] 54)) fun w1 =>
 bindW (World.alloc w1 (.cells #[(.int .i64 (0 : Int)), (.int .i64 (0 : Int)), (.int .i64 (0 : Int)), (.slice none 0 0), (.int .i64 (0 : Int))] 54)) fun w2 =>
 (StRow w2 ⟨w1.heap.size, 0, none⟩ #[(.int .i64 (8 : Int)), (.int .i64 (0 : Int)), (.int .i64 (0 : Int)), (.slice none 0 0), (.int .i64 (0 : Int))]) ∧
 bindW (stRow w2 ⟨w1.heap.size, 0, none⟩ #[(.int .i64 (8 : Int)), (.int .i64 (0 : Int)), (.int .i64 (0 : Int)), (.slice none 0 0), (.int .i64 (0 : Int))]) fun w3 =>
 JoinP [.bool]
 (fun (b4 : Bool) => fun (w5 : World) =>
 cond b4
 (∃ (n6 : Int) (n7 : Int) (n8 : Int) (v9 : Value) (n10 : Int), (ldCells w5 ⟨w1.heap.size, 0, none⟩ 5 #[(.int .i64 n6), (.int .i64 n7), (.int .i64 n8), v9, (.int .i64 n10)]) ∧
 (StRow w5 ⟨w0.heap.size, 0, none⟩ #[(.int .i64 n6), (.int .i64 n7), (.int .i64 n8), v9, (.int .i64 n10)]) ∧
 bindW (stRow w5 ⟨w0.heap.size, 0, none⟩ #[(.int .i64 n6), (.int .i64 n7), (.int .i64 n8), v9, (.int .i64 n10)]) fun w11 =>
 ∃ (n12 : Int) (n13 : Int) (n14 : Int) (v15 : Value) (n16 : Int), (ldCells w11 ⟨w0.heap.size, 0, none⟩ 5 #[(.int .i64 n12), (.int .i64 n13), (.int .i64 n14), v15, (.int .i64 n16)]) ∧
 R (.tuple #[(.agg #[(.int .i64 n12), (.int .i64 n13), (.int .i64 n14), v15, (.int .i64 n16)]), (.bool false)]) w11)
 (withAddr (.pointer p0) fun a17 =>
 (inR p1 8) ∧
 ∃ (n18 : Int), ((Go.World.cell? w5 (Addr.add (Addr.add (Addr.add a17 2) ((Int.toNat p1) * 3)) 1)) = (some (.int .u64 n18))) ∧
 ∃ (v19 : Value) (w20 : World), ((Sem.run @Go.Proofs.Tryz.prog (Go.Instr.makeMap 155 none) w5) = (.ok v19 w20)) ∧
 ∃ (v21 : Value), ((Go.World.cell? w20 (Addr.add (Addr.add (Addr.add a17 2) ((Int.toNat p1) * 3)) 2)) = (some v21)) ∧
 ∃ (v22 : Value) (w23 : World), ((Sem.run @Go.Proofs.Tryz.prog (Go.Instr.range 155 v21) w20) = (.ok v22 w23)) ∧
 LoopP []
 (fun j24 => fun (w25 : World) =>
 ((∃ (w26 : World), ((Sem.run @Go.Proofs.Tryz.prog (Go.Instr.next v22 false 0) w25) = (.ok (.tuple #[(.bool false)]) w26)) ∧
 ∃ (n27 : Int) (n28 : Int) (n29 : Int) (v30 : Value) (n31 : Int) (b32 : Bool), ((Sem.run @Go.Proofs.Tryz.prog (Go.Instr.lookup 155 v19 (.int .u64 p2) true) w26) = (.ok (.tuple #[(.agg #[(.int .i64 n27), (.int .i64 n28), (.int .i64 n29), v30, (.int .i64 n31)]), (.bool b32)]) w26)) ∧
 bindW (World.alloc w26 (.cells #[(.int .i64 (0 : Int)), (.int .i64 (0 : Int)), (.int .i64 (0 : Int)), (.slice none 0 0), (.int .i64 (0 : Int))] 54)) fun w33 =>
 (StRow w33 ⟨w26.heap.size, 0, none⟩ #[(.int .i64 n27), (.int .i64 n28), (.int .i64 n29), v30, (.int .i64 n31)]) ∧
 bindW (stRow w33 ⟨w26.heap.size, 0, none⟩ #[(.int .i64 n27), (.int .i64 n28), (.int .i64 n29), v30, (.int .i64 n31)]) fun w34 =>
 cond b32
 ((St1 w34 (Addr.add (Addr.add (Addr.add a17 2) ((Int.toNat p1) * 3)) 1)) ∧
 bindW (World.setCell w34 (Addr.add (Addr.add (Addr.add a17 2) ((Int.toNat p1) * 3)) 1) (.int .u64 (if (if p2 < p3 then p2 else p3) < n18 then n18 else (if p2 < p3 then p2 else p3)))) fun w35 =>
 oneK v19 ((St1 w35 (Addr.add (Addr.add (Addr.add a17 2) ((Int.toNat p1) * 3)) 2)) ∧
 bindW (World.setCell w35 (Addr.add (Addr.add (Addr.add a17 2) ((Int.toNat p1) * 3)) 2) v19) fun w36 =>
 ∃ (n37 : Int) (n38 : Int) (n39 : Int) (v40 : Value) (n41 : Int), (ldCells w36 ⟨w26.heap.size, 0, none⟩ 5 #[(.int .i64 n37), (.int .i64 n38), (.int .i64 n39), v40, (.int .i64 n41)]) ∧
 Go.CW.Spec Tryz.prog 77 #[(.agg #[(.int .i64 n37), (.int .i64 n38), (.int .i64 n39), v40, (.int .i64 n41)])] w36 fun v42 w43 =>
 ∃ (n44 : Int) (n45 : Int) (n46 : Int) (v47 : Value) (n48 : Int), ((v42 : Value) = (.agg #[(.int .i64 n44), (.int .i64 n45), (.int .i64 n46), v47, (.int .i64 n48)])) ∧
 (StRow w43 ⟨w0.heap.size, 0, none⟩ #[(.int .i64 n44), (.int .i64 n45), (.int .i64 n46), v47, (.int .i64 n48)]) ∧
 bindW (stRow w43 ⟨w0.heap.size, 0, none⟩ #[(.int .i64 n44), (.int .i64 n45), (.int .i64 n46), v47, (.int .i64 n48)]) fun w49 =>
 ∃ (n50 : Int) (n51 : Int) (n52 : Int) (v53 : Value) (n54 : Int), (ldCells w49 ⟨w0.heap.size, 0, none⟩ 5 #[(.int .i64 n50), (.int .i64 n51), (.int .i64 n52), v53, (.int .i64 n54)]) ∧
 R (.tuple #[(.agg #[(.int .i64 n50), (.int .i64 n51), (.int .i64 n52), v53, (.int .i64 n54)]), (.bool false)]) w49))
 (∃ (n55 : Int), ((Sem.run @Go.Proofs.Tryz.prog (Go.Builtin.len_ #[155] 0 #[v19]) w34) = (.ok (.int .i64 n55) w34)) ∧
 cond (decide (n55 ≥ (4 : Int)))
 (∃ (n56 : Int) (n57 : Int) (n58 : Int) (v59 : Value) (n60 : Int), (ldCells w34 ⟨w1.heap.size, 0, none⟩ 5 #[(.int .i64 n56), (.int .i64 n57), (.int .i64 n58), v59, (.int .i64 n60)]) ∧
 (StRow w34 ⟨w0.heap.size, 0, none⟩ #[(.int .i64 n56), (.int .i64 n57), (.int .i64 n58), v59, (.int .i64 n60)]) ∧
 bindW (stRow w34 ⟨w0.heap.size, 0, none⟩ #[(.int .i64 n56), (.int .i64 n57), (.int .i64 n58), v59, (.int .i64 n60)]) fun w61 =>
 ∃ (n62 : Int) (n63 : Int) (n64 : Int) (v65 : Value) (n66 : Int), (ldCells w61 ⟨w0.heap.size, 0, none⟩ 5 #[(.int .i64 n62), (.int .i64 n63), (.int .i64 n64), v65, (.int .i64 n66)]) ∧
 R (.tuple #[(.agg #[(.int .i64 n62), (.int .i64 n63), (.int .i64 n64), v65, (.int .i64 n66)]), (.bool false)]) w61)
 ((St1 w34 (Addr.add (Addr.add (Addr.add a17 2) ((Int.toNat p1) * 3)) 1)) ∧
 bindW (World.setCell w34 (Addr.add (Addr.add (Addr.add a17 2) ((Int.toNat p1) * 3)) 1) (.int .u64 (if (if p2 < p3 then p2 else p3) < n18 then n18 else (if p2 < p3 then p2 else p3)))) fun w67 =>
 oneK v19 ((St1 w67 (Addr.add (Addr.add (Addr.add a17 2) ((Int.toNat p1) * 3)) 2)) ∧
 bindW (World.setCell w67 (Addr.add (Addr.add (Addr.add a17 2) ((Int.toNat p1) * 3)) 2) v19) fun w68 =>
 ∃ (n69 : Int) (n70 : Int) (n71 : Int) (v72 : Value) (n73 : Int) (n74 : Int) (n75 : Int) (b76 : Bool), (ldCells w68 ⟨w.heap.size, 0, none⟩ 8 #[(.int .i64 n69), (.int .i64 n70), (.int .i64 n71), v72, (.int .u64 n73), (.int .u64 n74), (.int .i64 n75), (.bool b76)]) ∧
 Go.CW.Spec Tryz.prog 20 #[(.pointer p0), (.int .i64 p1), (.agg #[(.int .i64 n69), (.int .i64 n70), (.int .i64 n71), v72, (.int .u64 n73), (.int .u64 n74), (.int .i64 n75), (.bool b76)])] w68 fun v77 w78 =>
 ∃ (n79 : Int) (n80 : Int) (n81 : Int) (v82 : Value) (n83 : Int), ((v77 : Value) = (.agg #[(.int .i64 n79), (.int .i64 n80), (.int .i64 n81), v82, (.int .i64 n83)])) ∧
 (StRow w78 ⟨w0.heap.size, 0, none⟩ #[(.int .i64 n79), (.int .i64 n80), (.int .i64 n81), v82, (.int .i64 n83)]) ∧
 bindW (stRow w78 ⟨w0.heap.size, 0, none⟩ #[(.int .i64 n79), (.int .i64 n80), (.int .i64 n81), v82, (.int .i64 n83)]) fun w84 =>
 ∃ (n85 : Int) (n86 : Int) (n87 : Int) (v88 : Value) (n89 : Int), (ldCells w84 ⟨w0.heap.size, 0, none⟩ 5 #[(.int .i64 n85), (.int .i64 n86), (.int .i64 n87), v88, (.int .i64 n89)]) ∧
 Go.CW.Spec Tryz.prog 77 #[(.agg #[(.int .i64 n85), (.int .i64 n86), (.int .i64 n87), v88, (.int .i64 n89)])] w84 fun v90 w91 =>
 ∃ (n92 : Int) (n93 : Int) (n94 : Int) (v95 : Value) (n96 : Int), ((v90 : Value) = (.agg #[(.int .i64 n92), (.int .i64 n93), (.int .i64 n94), v95, (.int .i64 n96)])) ∧
 ∃ (w97 : World), ((Sem.run @Go.Proofs.Tryz.prog (Go.Instr.mapUpdate 155 v19 (.int .u64 p2) (.agg #[(.int .i64 n92), (.int .i64 n93), (.int .i64 n94), v95, (.int .i64 n96)])) w91) = (.ok PUnit.unit w97)) ∧
 ∃ (n98 : Int) (n99 : Int) (n100 : Int) (v101 : Value) (n102 : Int), (ldCells w97 ⟨w0.heap.size, 0, none⟩ 5 #[(.int .i64 n98), (.int .i64 n99), (.int .i64 n100), v101, (.int .i64 n102)]) ∧
 (StRow w97 ⟨w0.heap.size, 0, none⟩ #[(.int .i64 n98), (.int .i64 n99), (.int .i64 n100), v101, (.int .i64 n102)]) ∧
 bindW (stRow w97 ⟨w0.heap.size, 0, none⟩ #[(.int .i64 n98), (.int .i64 n99), (.int .i64 n100), v101, (.int .i64 n102)]) fun w103 =>
 ∃ (n104 : Int) (n105 : Int) (n106 : Int) (v107 : Value) (n108 : Int), (ldCells w103 ⟨w0.heap.size, 0, none⟩ 5 #[(.int .i64 n104), (.int .i64 n105), (.int .i64 n106), v107, (.int .i64 n108)]) ∧
 R (.tuple #[(.agg #[(.int .i64 n104), (.int .i64 n105), (.int .i64 n106), v107, (.int .i64 n108)]), (.bool true)]) w103)))) ∨
 (∃ (v109 : Value) (v110 : Value) (w111 : World), ((Sem.run @Go.Proofs.Tryz.prog (Go.Instr.next v22 false 0) w25) = (.ok (.tuple #[(.bool true), v109, v110]) w111)) ∧
 JoinP []
 (fun (w112 : World) =>
 j24 w112)
 (fun j113 =>
 ((∃ (n114 : Int) (o115 : Option Addr), ((Sem.run @Go.Proofs.Tryz.prog (Go.Instr.entry v22) w111) = (.ok (.tuple #[(.int .i64 n114), (.pointer o115)]) w111)) ∧
 bindW (World.alloc w111 (.cells #[(.int .i64 (0 : Int)), (.int .i64 (0 : Int)), (.int .i64 (0 : Int)), (.slice none 0 0), (.int .i64 (0 : Int))] 54)) fun w116 =>
 False) ∨
 (((∃ (n117 : Int) (n118 : Int) (n119 : Int) (n120 : Int) (v121 : Value) (n122 : Int), ((Sem.run @Go.Proofs.Tryz.prog (Go.Instr.entry v22) w111) = (.ok (.tuple #[(.int .u64 n117), (.agg #[(.int .i64 n118), (.int .i64 n119), (.int .i64 n120), v121, (.int .i64 n122)])]) w111)) ∧
 bindW (World.alloc w111 (.cells #[(.int .i64 (0 : Int)), (.int .i64 (0 : Int)), (.int .i64 (0 : Int)), (.slice none 0 0), (.int .i64 (0 : Int))] 54)) fun w123 =>
 (StRow w123 ⟨w111.heap.size, 0, none⟩ #[(.int .i64 n118), (.int .i64 n119), (.int .i64 n120), v121, (.int .i64 n122)]) ∧
 bindW (stRow w123 ⟨w111.heap.size, 0, none⟩ #[(.int .i64 n118), (.int .i64 n119), (.int .i64 n120), v121, (.int .i64 n122)]) fun w124 =>
 cond (decide (n117 ≥ (if (if p2 < p3 then p2 else p3) < n18 then n18 else (if p2 < p3 then p2 else p3))))
 (∃ (n125 : Int) (n126 : Int) (n127 : Int) (v128 : Value) (n129 : Int), (ldCells w124 ⟨w111.heap.size, 0, none⟩ 5 #[(.int .i64 n125), (.int .i64 n126), (.int .i64 n127), v128, (.int .i64 n129)]) ∧
 ∃ (w130 : World), ((Sem.run @Go.Proofs.Tryz.prog (Go.Instr.mapUpdate 155 v19 (.int .u64 n117) (.agg #[(.int .i64 n125), (.int .i64 n126), (.int .i64 n127), v128, (.int .i64 n129)])) w124) = (.ok PUnit.unit w130)) ∧
 j113 w130)
 (j113 w124)) ∨
 (False))))))))
 (fun s131 => s131 w23)))
 (fun j132 =>
 Go.CW.Spec Tryz.prog 76 #[(.int .i64 p1)] w3 fun v133 w134 =>
 ∃ (b135 : Bool), ((v133 : Value) = (.bool b135)) ∧
 cond (!b135)
 (j132 true w134)
 (cond (p2 == (0 : Int))
 (j132 true w134)
 (withAddr (.pointer p0) fun a136 =>
 (inR p1 8) ∧
 ∃ (n137 : Int), ((Go.World.cell? w134 (Addr.add (Addr.add (Addr.add a136 2) ((Int.toNat p1) * 3)) 1)) = (some (.int .u64 n137))) ∧
 j132 (decide (p2 < n137)) w134)))

theorem lu_Unit_Once_m_wp (p0 : Option Addr) (p1 : Int) (p2 : Int) (p3 : Int) (p4_0 : Int) (p4_1 : Int) (p4_2 : Int) (p4_3 : Value) (p4_4 : Int) (p4_5 : Int) (p4_6 : Int) (p4_7 : Bool) (w : World) (R : KV) (h : lu_Unit_Once_m_F p0 p1 p2 p3 p4_0 p4_1 p4_2 p4_3 p4_4 p4_5 p4_6 p4_7 w R) : Go.CW.Spec Tryz.prog 19 #[(.pointer p0), (.int .i64 p1), (.int .u64 p2), (.int .u64 p3), (.agg #[(.int .i64 p4_0), (.int .i64 p4_1), (.int .i64 p4_2), p4_3, (.int .u64 p4_4), (.int .u64 p4_5), (.int .i64 p4_6), (.bool p4_7)])] w R :=
  spec_of Tryz.func19 (by kernel_rfl) (show lu_Unit_Once_m_F p0 p1 p2 p3 p4_0 p4_1 p4_2 p4_3 p4_4 p4_5 p4_6 p4_7 w R = _ by kernel_rfl) h

/-- gemel/lu.apart -/
def lu_apart_F (p0_0 : Int) (p0_1 : Int) (p0_2 : Int) (p0_3 : Value) (p0_4 : Int) (w : World) (R : KV) : Prop :=
 bindW (World.alloc w (.cells #[(.int .i64 p0_0), (.int .i64 p0_1), (.int .i64 p0_2), p0_3, (.int .i64 p0_4)] 54)) fun w0 =>
 bindW (World.alloc w0 (.cells #[(.int .i64 (0 : Int)), (.int .i64 (0 : Int)), (.int .i64 (0 : Int)), (.slice none 0 0), (.int .i64 (0 : Int))] 54)) fun w1 =>
 ∃ (v2 : Value), ((Go.World.cell? w1 (Addr.add ⟨w.heap.size, 0, none⟩ 3)) = (some v2)) ∧
 Go.CW.Spec Tryz.prog 85 #[v2] w1 fun v3 w4 =>
 Go.CW.Spec Tryz.prog 96 #[v3] w4 fun v5 w6 =>
 oneK v5 ((St1 w6 (Addr.add ⟨w.heap.size, 0, none⟩ 3)) ∧
 bindW (World.setCell w6 (Addr.add ⟨w.heap.size, 0, none⟩ 3) v5) fun w7 =>
 ∃ (n8 : Int) (n9 : Int) (n10 : Int) (v11 : Value) (n12 : Int), (ldCells w7 ⟨w.heap.size, 0, none⟩ 5 #[(.int .i64 n8), (.int .i64 n9), (.int .i64 n10), v11, (.int .i64 n12)]) ∧
 (StRow w7 ⟨w0.heap.size, 0, none⟩ #[(.int .i64 n8), (.int .i64 n9), (.int .i64 n10), v11, (.int .i64 n12)]) ∧
 bindW (stRow w7 ⟨w0.heap.size, 0, none⟩ #[(.int .i64 n8), (.int .i64 n9), (.int .i64 n10), v11, (.int .i64 n12)]) fun w13 =>
 ∃ (n14 : Int) (n15 : Int) (n16 : Int) (v17 : Value) (n18 : Int), (ldCells w13 ⟨w0.heap.size, 0, none⟩ 5 #[(.int .i64 n14), (.int .i64 n15), (.int .i64 n16), v17, (.int .i64 n18)]) ∧
 R (.agg #[(.int .i64 n14), (.int .i64 n15), (.int .i64 n16), v17, (.int .i64 n18)]) w13)

theorem lu_apart_wp (p0_0 : Int) (p0_1 : Int) (p0_2 : Int) (p0_3 : Value) (p0_4 : Int) (w : World) (R : KV) (h : lu_apart_F p0_0 p0_1 p0_2 p0_3 p0_4 w R) : Go.CW.Spec Tryz.prog 77 #[(.agg #[(.int .i64 p0_0), (.int .i64 p0_1), (.int .i64 p0_2), p0_3, (.int .i64 p0_4)])] w R :=
  spec_of Tryz.func77 (by kernel_rfl) (show lu_apart_F p0_0 p0_1 p0_2 p0_3 p0_4 w R = _ by kernel_rfl) h

/-- gemel/gemeltop.plain -/
def gemeltop_plain_F (p0 : Int) (p1 : Int) (p2 : Int) (w : World) (R : KV) : Prop :=
 bindW (World.alloc w (.cells #[(.int .i64 (0 : Int)), (.int .i64 (0 : Int)), (.int .i64 (0 : Int)), (.slice none 0 0), (.int .u64 (0 : Int)), (.int .u64 (0 : Int)), (.int .i64 (0 : Int)), (.bool false)] 40)) fun w0 =>
 JoinP [.bool]
 (fun (b1 : Bool) => fun (w2 : World) =>
 cond b1
 (Go.CW.Spec Tryz.prog 55 #[(.int .u8 p2)] w2 fun v3 w4 =>
 oneK v3 ((StRow w4 ⟨w.heap.size, 0, none⟩ #[(.int .i64 (3 : Int)), (.int .i64 (IntKind.wrap .i64 (bitsI .and .u8 p1 (31 : Int)))), (.int .i64 (1 : Int)), v3, (.int .u64 (0 : Int)), (.int .u64 (0 : Int)), (.int .i64 (0 : Int)), (.bool false)]) ∧
 bindW (stRow w4 ⟨w.heap.size, 0, none⟩ #[(.int .i64 (3 : Int)), (.int .i64 (IntKind.wrap .i64 (bitsI .and .u8 p1 (31 : Int)))), (.int .i64 (1 : Int)), v3, (.int .u64 (0 : Int)), (.int .u64 (0 : Int)), (.int .i64 (0 : Int)), (.bool false)]) fun w5 =>
 ∃ (n6 : Int) (n7 : Int) (n8 : Int) (v9 : Value) (n10 : Int) (n11 : Int) (n12 : Int) (b13 : Bool), (ldCells w5 ⟨w.heap.size, 0, none⟩ 8 #[(.int .i64 n6), (.int .i64 n7), (.int .i64 n8), v9, (.int .u64 n10), (.int .u64 n11), (.int .i64 n12), (.bool b13)]) ∧
 R (.agg #[(.int .i64 n6), (.int .i64 n7), (.int .i64 n8), v9, (.int .u64 n10), (.int .u64 n11), (.int .i64 n12), (.bool b13)]) w5))
 (cond ((Int.tmod p0 (8 : Int)) == (2 : Int))
 ((StRow w2 ⟨w.heap.size, 0, none⟩ #[(.int .i64 (2 : Int)), (.int .i64 (IntKind.wrap .i64 (bitsI .and .u8 p1 (31 : Int)))), (.int .i64 (1 : Int)), (.slice none 0 0), (.int .u64 (0 : Int)), (.int .u64 (0 : Int)), (.int .i64 (0 : Int)), (.bool false)]) ∧
 bindW (stRow w2 ⟨w.heap.size, 0, none⟩ #[(.int .i64 (2 : Int)), (.int .i64 (IntKind.wrap .i64 (bitsI .and .u8 p1 (31 : Int)))), (.int .i64 (1 : Int)), (.slice none 0 0), (.int .u64 (0 : Int)), (.int .u64 (0 : Int)), (.int .i64 (0 : Int)), (.bool false)]) fun w14 =>
 ∃ (n15 : Int) (n16 : Int) (n17 : Int) (v18 : Value) (n19 : Int) (n20 : Int) (n21 : Int) (b22 : Bool), (ldCells w14 ⟨w.heap.size, 0, none⟩ 8 #[(.int .i64 n15), (.int .i64 n16), (.int .i64 n17), v18, (.int .u64 n19), (.int .u64 n20), (.int .i64 n21), (.bool b22)]) ∧
 R (.agg #[(.int .i64 n15), (.int .i64 n16), (.int .i64 n17), v18, (.int .u64 n19), (.int .u64 n20), (.int .i64 n21), (.bool b22)]) w14)
 (cond ((Int.tmod p0 (8 : Int)) == (3 : Int))
 (Go.CW.Spec Tryz.prog 55 #[(.int .u8 (bitsI .and .u8 p2 (1 : Int)))] w2 fun v23 w24 =>
 Go.CW.Spec Tryz.prog 55 #[(.int .u8 p2)] w24 fun v25 w26 =>
 ∃ (v27 : Value) (w28 : World), ((Sem.run @Go.Proofs.Tryz.prog (Go.Builtin.append_ #[34, 34] 34 #[v23, v25]) w26) = (.ok v27 w28)) ∧
 oneK v27 ((StRow w28 ⟨w.heap.size, 0, none⟩ #[(.int .i64 (6 : Int)), (.int .i64 (IntKind.wrap .i64 (bitsI .and .u8 p1 (31 : Int)))), (.int .i64 (1 : Int)), v27, (.int .u64 (0 : Int)), (.int .u64 (0 : Int)), (.int .i64 (0 : Int)), (.bool false)]) ∧
 bindW (stRow w28 ⟨w.heap.size, 0, none⟩ #[(.int .i64 (6 : Int)), (.int .i64 (IntKind.wrap .i64 (bitsI .and .u8 p1 (31 : Int)))), (.int .i64 (1 : Int)), v27, (.int .u64 (0 : Int)), (.int .u64 (0 : Int)), (.int .i64 (0 : Int)), (.bool false)]) fun w29 =>
 ∃ (n30 : Int) (n31 : Int) (n32 : Int) (v33 : Value) (n34 : Int) (n35 : Int) (n36 : Int) (b37 : Bool), (ldCells w29 ⟨w.heap.size, 0, none⟩ 8 #[(.int .i64 n30), (.int .i64 n31), (.int .i64 n32), v33, (.int .u64 n34), (.int .u64 n35), (.int .i64 n36), (.bool b37)]) ∧
 R (.agg #[(.int .i64 n30), (.int .i64 n31), (.int .i64 n32), v33, (.int .u64 n34), (.int .u64 n35), (.int .i64 n36), (.bool b37)]) w29))
 (cond ((Int.tmod p0 (8 : Int)) == (4 : Int))
 ((StRow w2 ⟨w.heap.size, 0, none⟩ #[(.int .i64 (5 : Int)), (.int .i64 (IntKind.wrap .i64 (bitsI .and .u8 p1 (31 : Int)))), (.int .i64 (1 : Int)), (.slice none 0 0), (.int .u64 (0 : Int)), (.int .u64 (0 : Int)), (.int .i64 (0 : Int)), (.bool false)]) ∧
 bindW (stRow w2 ⟨w.heap.size, 0, none⟩ #[(.int .i64 (5 : Int)), (.int .i64 (IntKind.wrap .i64 (bitsI .and .u8 p1 (31 : Int)))), (.int .i64 (1 : Int)), (.slice none 0 0), (.int .u64 (0 : Int)), (.int .u64 (0 : Int)), (.int .i64 (0 : Int)), (.bool false)]) fun w38 =>
 ∃ (n39 : Int) (n40 : Int) (n41 : Int) (v42 : Value) (n43 : Int) (n44 : Int) (n45 : Int) (b46 : Bool), (ldCells w38 ⟨w.heap.size, 0, none⟩ 8 #[(.int .i64 n39), (.int .i64 n40), (.int .i64 n41), v42, (.int .u64 n43), (.int .u64 n44), (.int .i64 n45), (.bool b46)]) ∧
 R (.agg #[(.int .i64 n39), (.int .i64 n40), (.int .i64 n41), v42, (.int .u64 n43), (.int .u64 n44), (.int .i64 n45), (.bool b46)]) w38)
 (cond ((Int.tmod p0 (8 : Int)) == (5 : Int))
 ((StRow w2 ⟨w.heap.size, 0, none⟩ #[(.int .i64 (11 : Int)), (.int .i64 (0 : Int)), (.int .i64 (0 : Int)), (.slice none 0 0), (.int .u64 (0 : Int)), (.int .u64 (IntKind.wrap .u64 p2)), (.int .i64 (0 : Int)), (.bool false)]) ∧
 bindW (stRow w2 ⟨w.heap.size, 0, none⟩ #[(.int .i64 (11 : Int)), (.int .i64 (0 : Int)), (.int .i64 (0 : Int)), (.slice none 0 0), (.int .u64 (0 : Int)), (.int .u64 (IntKind.wrap .u64 p2)), (.int .i64 (0 : Int)), (.bool false)]) fun w47 =>
 ∃ (n48 : Int) (n49 : Int) (n50 : Int) (v51 : Value) (n52 : Int) (n53 : Int) (n54 : Int) (b55 : Bool), (ldCells w47 ⟨w.heap.size, 0, none⟩ 8 #[(.int .i64 n48), (.int .i64 n49), (.int .i64 n50), v51, (.int .u64 n52), (.int .u64 n53), (.int .i64 n54), (.bool b55)]) ∧
 R (.agg #[(.int .i64 n48), (.int .i64 n49), (.int .i64 n50), v51, (.int .u64 n52), (.int .u64 n53), (.int .i64 n54), (.bool b55)]) w47)
 (cond ((Int.tmod p0 (8 : Int)) == (6 : Int))
 ((StRow w2 ⟨w.heap.size, 0, none⟩ #[(.int .i64 (12 : Int)), (.int .i64 (0 : Int)), (.int .i64 (0 : Int)), (.slice none 0 0), (.int .u64 (IntKind.wrap .u64 p2)), (.int .u64 (0 : Int)), (.int .i64 (1 : Int)), (.bool false)]) ∧
 bindW (stRow w2 ⟨w.heap.size, 0, none⟩ #[(.int .i64 (12 : Int)), (.int .i64 (0 : Int)), (.int .i64 (0 : Int)), (.slice none 0 0), (.int .u64 (IntKind.wrap .u64 p2)), (.int .u64 (0 : Int)), (.int .i64 (1 : Int)), (.bool false)]) fun w56 =>
 ∃ (n57 : Int) (n58 : Int) (n59 : Int) (v60 : Value) (n61 : Int) (n62 : Int) (n63 : Int) (b64 : Bool), (ldCells w56 ⟨w.heap.size, 0, none⟩ 8 #[(.int .i64 n57), (.int .i64 n58), (.int .i64 n59), v60, (.int .u64 n61), (.int .u64 n62), (.int .i64 n63), (.bool b64)]) ∧
 R (.agg #[(.int .i64 n57), (.int .i64 n58), (.int .i64 n59), v60, (.int .u64 n61), (.int .u64 n62), (.int .i64 n63), (.bool b64)]) w56)
 ((StRow w2 ⟨w.heap.size, 0, none⟩ #[(.int .i64 (16 : Int)), (.int .i64 (0 : Int)), (.int .i64 (0 : Int)), (.slice none 0 0), (.int .u64 (0 : Int)), (.int .u64 (0 : Int)), (.int .i64 (0 : Int)), (.bool false)]) ∧
 bindW (stRow w2 ⟨w.heap.size, 0, none⟩ #[(.int .i64 (16 : Int)), (.int .i64 (0 : Int)), (.int .i64 (0 : Int)), (.slice none 0 0), (.int .u64 (0 : Int)), (.int .u64 (0 : Int)), (.int .i64 (0 : Int)), (.bool false)]) fun w65 =>
 ∃ (n66 : Int) (n67 : Int) (n68 : Int) (v69 : Value) (n70 : Int) (n71 : Int) (n72 : Int) (b73 : Bool), (ldCells w65 ⟨w.heap.size, 0, none⟩ 8 #[(.int .i64 n66), (.int .i64 n67), (.int .i64 n68), v69, (.int .u64 n70), (.int .u64 n71), (.int .i64 n72), (.bool b73)]) ∧
 R (.agg #[(.int .i64 n66), (.int .i64 n67), (.int .i64 n68), v69, (.int .u64 n70), (.int .u64 n71), (.int .i64 n72), (.bool b73)]) w65)))))))
 (fun j74 =>
 cond ((Int.tmod p0 (8 : Int)) == (0 : Int))
 (j74 ((Int.tmod p0 (8 : Int)) == (0 : Int)) w0)
 (j74 ((Int.tmod p0 (8 : Int)) == (1 : Int)) w0))

theorem gemeltop_plain_wp (p0 : Int) (p1 : Int) (p2 : Int) (w : World) (R : KV) (h : gemeltop_plain_F p0 p1 p2 w R) : Go.CW.Spec Tryz.prog 13 #[(.int .u8 p0), (.int .u8 p1), (.int .u8 p2)] w R :=
  spec_of Tryz.func13 (by kernel_rfl) (show gemeltop_plain_F p0 p1 p2 w R = _ by kernel_rfl) h

/-- gemel/gemeltop.same -/
def gemeltop_same_F (p0_0 : Int) (p0_1 : Int) (p0_2 : Int) (p0_3 : Value) (p0_4 : Int) (p1_0 : Int) (p1_1 : Int) (p1_2 : Int) (p1_3 : Value) (p1_4 : Int) (w : World) (R : KV) : Prop :=
 bindW (World.alloc w (.cells #[(.int .i64 p0_0), (.int .i64 p0_1), (.int .i64 p0_2), p0_3, (.int .i64 p0_4)] 54)) fun w0 =>
 bindW (World.alloc w0 (.cells #[(.int .i64 p1_0), (.int .i64 p1_1), (.int .i64 p1_2), p1_3, (.int .i64 p1_4)] 54)) fun w1 =>
 JoinP [.bool]
 (fun (b2 : Bool) => fun (w3 : World) =>
 R (.bool b2) w3)
 (fun j4 =>
 ∃ (n5 : Int), ((Go.World.cell? w1 (Addr.add ⟨w.heap.size, 0, none⟩ 0)) = (some (.int .i64 n5))) ∧
 ∃ (n6 : Int), ((Go.World.cell? w1 (Addr.add ⟨w0.heap.size, 0, none⟩ 0)) = (some (.int .i64 n6))) ∧
 cond (n5 == n6)
 (∃ (n7 : Int), ((Go.World.cell? w1 (Addr.add ⟨w.heap.size, 0, none⟩ 1)) = (some (.int .i64 n7))) ∧
 ∃ (n8 : Int), ((Go.World.cell? w1 (Addr.add ⟨w0.heap.size, 0, none⟩ 1)) = (some (.int .i64 n8))) ∧
 cond (n7 == n8)
 (∃ (n9 : Int), ((Go.World.cell? w1 (Addr.add ⟨w.heap.size, 0, none⟩ 2)) = (some (.int .i64 n9))) ∧
 ∃ (n10 : Int), ((Go.World.cell? w1 (Addr.add ⟨w0.heap.size, 0, none⟩ 2)) = (some (.int .i64 n10))) ∧
 cond (n9 == n10)
 (∃ (n11 : Int), ((Go.World.cell? w1 (Addr.add ⟨w.heap.size, 0, none⟩ 4)) = (some (.int .i64 n11))) ∧
 ∃ (n12 : Int), ((Go.World.cell? w1 (Addr.add ⟨w0.heap.size, 0, none⟩ 4)) = (some (.int .i64 n12))) ∧
 cond (n11 == n12)
 (∃ (v13 : Value), ((Go.World.cell? w1 (Addr.add ⟨w.heap.size, 0, none⟩ 3)) = (some v13)) ∧
 ∃ (s14 : ByteArray), ((Sem.run @Go.Proofs.Tryz.prog (Go.convert 34 9 v13) w1) = (.ok (.string s14) w1)) ∧
 ∃ (v15 : Value), ((Go.World.cell? w1 (Addr.add ⟨w0.heap.size, 0, none⟩ 3)) = (some v15)) ∧
 ∃ (s16 : ByteArray), ((Sem.run @Go.Proofs.Tryz.prog (Go.convert 34 9 v15) w1) = (.ok (.string s16) w1)) ∧
 j4 (ByteArray.toList s14 == ByteArray.toList s16) w1)
 (j4 false w1))
 (j4 false w1))
 (j4 false w1))
 (j4 false w1))

theorem gemeltop_same_wp (p0_0 : Int) (p0_1 : Int) (p0_2 : Int) (p0_3 : Value) (p0_4 : Int) (p1_0 : Int) (p1_1 : Int) (p1_2 : Int) (p1_3 : Value) (p1_4 : Int) (w : World) (R : KV) (h : gemeltop_same_F p0_0 p0_1 p0_2 p0_3 p0_4 p1_0 p1_1 p1_2 p1_3 p1_4 w R) : Go.CW.Spec Tryz.prog 21 #[(.agg #[(.int .i64 p0_0), (.int .i64 p0_1), (.int .i64 p0_2), p0_3, (.int .i64 p0_4)]), (.agg #[(.int .i64 p1_0), (.int .i64 p1_1), (.int .i64 p1_2), p1_3, (.int .i64 p1_4)])] w R :=
  spec_of Tryz.func21 (by kernel_rfl) (show gemeltop_same_F p0_0 p0_1 p0_2 p0_3 p0_4 p1_0 p1_1 p1_2 p1_3 p1_4 w R = _ by kernel_rfl) h

/-- gemel/gemeltop.one -/
def gemeltop_one_F (p0 : Int) (w : World) (R : KV) : Prop :=
 ∃ (v0 : Value) (w1 : World), ((Sem.run @Go.Proofs.Tryz.prog (Go.Instr.makeSlice 34 (.int .i64 (8 : Int)) (.int .i64 (8 : Int))) w) = (.ok v0 w1)) ∧
 LoopP [.int .i64]
 (fun j2 => fun (n3 : Int) => fun (w4 : World) =>
 cond (decide (n3 < (8 : Int)))
 (∃ (a5 : Addr), ((Go.CW.sliceAt v0 n3 1) = (some a5)) ∧
 (St1 w4 a5) ∧
 bindW (World.setCell w4 a5 (.int .u8 p0)) fun w6 =>
 j2 (IntKind.wrap .i64 (n3 + (1 : Int))) w6)
 (R v0 w4))
 (fun s7 => s7 (0 : Int) w1)

theorem gemeltop_one_wp (p0 : Int) (w : World) (R : KV) (h : gemeltop_one_F p0 w R) : Go.CW.Spec Tryz.prog 55 #[(.int .u8 p0)] w R :=
  spec_of Tryz.func55 (by kernel_rfl) (show gemeltop_one_F p0 w R = _ by kernel_rfl) h

/-- gemel/gemeltop.TopPaths -/
def gemeltop_TopPaths_F (p0 : Value) (p1 : Value) (w : World) (R : KV) : Prop :=
 Go.CW.Spec Tryz.prog 9 #[] w fun v0 w1 =>
 ∃ (b2 : Bool), ((v0 : Value) = (.bool b2)) ∧
 cond (!b2)
 (R (.bool false) w1)
 (JoinP [.bool]
 (fun (b3 : Bool) => fun (w4 : World) =>
 cond b3
 (R (.bool true) w4)
 (Go.CW.Spec Tryz.prog 18 #[(.int .i64 (32 : Int))] w4 fun v5 w6 =>
 ∃ (o7 : Option Addr) (n8 : Int), ((v5 : Value) = (.tuple #[(.pointer o7), (.int .i64 n8)])) ∧
 Go.CW.Spec Tryz.prog 18 #[(.int .i64 (32 : Int))] w6 fun v9 w10 =>
 ∃ (o11 : Option Addr) (n12 : Int), ((v9 : Value) = (.tuple #[(.pointer o11), (.int .i64 n12)])) ∧
 ∃ (m13 : Nat), ((Go.CW.sliceLen p0) = (some m13)) ∧
 ∃ (v14 : Value) (w15 : World), ((Sem.run @Go.Proofs.Tryz.prog (Go.Instr.makeSlice 51 (.int .i64 ((m13 : Nat) : Int)) (.int .i64 ((m13 : Nat) : Int))) w10) = (.ok v14 w15)) ∧
 ∃ (m16 : Nat), ((Go.CW.sliceLen p0) = (some m16)) ∧
 ∃ (v17 : Value) (w18 : World), ((Sem.run @Go.Proofs.Tryz.prog (Go.Instr.makeSlice 52 (.int .i64 ((m16 : Nat) : Int)) (.int .i64 ((m16 : Nat) : Int))) w15) = (.ok v17 w18)) ∧
 LoopP [.int .i64]
 (fun j19 => fun (n20 : Int) => fun (w21 : World) =>
 JoinP [.bool]
 (fun (b22 : Bool) => fun (w23 : World) =>
 cond b22
 (∃ (a24 : Addr), ((Go.CW.sliceAt p1 n20 1) = (some a24)) ∧
 ∃ (n25 : Int), ((Go.World.cell? w23 a24) = (some (.int .u8 n25))) ∧
 ∃ (m26 : Nat), ((Go.CW.sliceLen p0) = (some m26)) ∧
 nzK ((m26 : Nat) : Int) (JoinP [.val]
 (fun (v27 : Value) => fun (w28 : World) =>
 withAddr v27 fun a29 =>
 ∃ (n30 : Int) (n31 : Int) (n32 : Int) (v33 : Value) (n34 : Int) (n35 : Int) (n36 : Int) (b37 : Bool), (ldCells w28 a29 8 #[(.int .i64 n30), (.int .i64 n31), (.int .i64 n32), v33, (.int .u64 n34), (.int .u64 n35), (.int .i64 n36), (.bool b37)]) ∧
 Go.CW.Spec Tryz.prog 19 #[(.pointer o7), (.int .i64 (2 : Int)), (.int .u64 (IntKind.wrap .u64 (IntKind.wrap .i64 ((Int.tmod (IntKind.wrap .i64 n25) ((m26 : Nat) : Int)) + (1 : Int))))), (.int .u64 (1 : Int)), (.agg #[(.int .i64 n30), (.int .i64 n31), (.int .i64 n32), v33, (.int .u64 n34), (.int .u64 n35), (.int .i64 n36), (.bool b37)])] w28 fun v38 w39 =>
 ∃ (n40 : Int) (n41 : Int) (n42 : Int) (v43 : Value) (n44 : Int) (b45 : Bool), ((v38 : Value) = (.tuple #[(.agg #[(.int .i64 n40), (.int .i64 n41), (.int .i64 n42), v43, (.int .i64 n44)]), (.bool b45)])) ∧
 bindW (World.alloc w39 (.cells #[(.int .i64 (0 : Int)), (.int .i64 (0 : Int)), (.int .i64 (0 : Int)), (.slice none 0 0), (.int .i64 (0 : Int))] 54)) fun w46 =>
 (StRow w46 ⟨w39.heap.size, 0, none⟩ #[(.int .i64 n40), (.int .i64 n41), (.int .i64 n42), v43, (.int .i64 n44)]) ∧
 bindW (stRow w46 ⟨w39.heap.size, 0, none⟩ #[(.int .i64 n40), (.int .i64 n41), (.int .i64 n42), v43, (.int .i64 n44)]) fun w47 =>
 ∃ (a48 : Addr), ((Go.CW.sliceAt v17 (Int.tmod (IntKind.wrap .i64 n25) ((m26 : Nat) : Int)) 1) = (some a48)) ∧
 ∃ (b49 : Bool), ((Go.World.cell? w47 a48) = (some (.bool b49))) ∧
 cond (b45 == b49)
 (R (.bool false) w47)
 (JoinP []
 (fun (w50 : World) =>
 bindW (World.drew w50) fun w51 =>
 ∃ (n52 : Int) (n53 : Int) (n54 : Int) (v55 : Value) (n56 : Int), (ldCells w51 ⟨w39.heap.size, 0, none⟩ 5 #[(.int .i64 n52), (.int .i64 n53), (.int .i64 n54), v55, (.int .i64 n56)]) ∧
 ∃ (a57 : Addr), ((Go.CW.sliceAt v14 (Int.tmod (IntKind.wrap .i64 n25) ((m26 : Nat) : Int)) 5) = (some a57)) ∧
 ∃ (n58 : Int) (n59 : Int) (n60 : Int) (v61 : Value) (n62 : Int), (ldCells w51 a57 5 #[(.int .i64 n58), (.int .i64 n59), (.int .i64 n60), v61, (.int .i64 n62)]) ∧
 bindW (World.drew w50) fun w63 =>
 Go.CW.Spec Tryz.prog 21 #[(.agg #[(.int .i64 n52), (.int .i64 n53), (.int .i64 n54), v55, (.int .i64 n56)]), (.agg #[(.int .i64 n58), (.int .i64 n59), (.int .i64 n60), v61, (.int .i64 n62)])] w63 fun v64 w65 =>
 ∃ (b66 : Bool), ((v64 : Value) = (.bool b66)) ∧
 cond (!b66)
 (R (.bool false) w65)
 (j19 (IntKind.wrap .i64 (n20 + (1 : Int))) w65))
 (fun j67 =>
 cond b45
 (withAddr v27 fun a68 =>
 ∃ (n69 : Int) (n70 : Int) (n71 : Int) (v72 : Value) (n73 : Int) (n74 : Int) (n75 : Int) (b76 : Bool), (ldCells w47 a68 8 #[(.int .i64 n69), (.int .i64 n70), (.int .i64 n71), v72, (.int .u64 n73), (.int .u64 n74), (.int .i64 n75), (.bool b76)]) ∧
 Go.CW.Spec Tryz.prog 20 #[(.pointer o11), (.int .i64 (2 : Int)), (.agg #[(.int .i64 n69), (.int .i64 n70), (.int .i64 n71), v72, (.int .u64 n73), (.int .u64 n74), (.int .i64 n75), (.bool b76)])] w47 fun v77 w78 =>
 ∃ (n79 : Int) (n80 : Int) (n81 : Int) (v82 : Value) (n83 : Int), ((v77 : Value) = (.agg #[(.int .i64 n79), (.int .i64 n80), (.int .i64 n81), v82, (.int .i64 n83)])) ∧
 ∃ (a84 : Addr), ((Go.CW.sliceAt v14 (Int.tmod (IntKind.wrap .i64 n25) ((m26 : Nat) : Int)) 5) = (some a84)) ∧
 (StRow w78 a84 #[(.int .i64 n79), (.int .i64 n80), (.int .i64 n81), v82, (.int .i64 n83)]) ∧
 bindW (stRow w78 a84 #[(.int .i64 n79), (.int .i64 n80), (.int .i64 n81), v82, (.int .i64 n83)]) fun w85 =>
 ∃ (a86 : Addr), ((Go.CW.sliceAt v17 (Int.tmod (IntKind.wrap .i64 n25) ((m26 : Nat) : Int)) 1) = (some a86)) ∧
 (St1 w85 a86) ∧
 bindW (World.setCell w85 a86 (.bool true)) fun w87 =>
 j67 w87)
 (j67 w47))))
 (fun j88 =>
 bindW (World.drew w23) fun w89 =>
 ∃ (a90 : Addr), ((Go.CW.sliceAt p0 (Int.tmod (IntKind.wrap .i64 n25) ((m26 : Nat) : Int)) 3) = (some a90)) ∧
 ∃ (n91 : Int), ((Go.World.cell? w89 (Addr.add a90 0)) = (some (.int .u8 n91))) ∧
 ∃ (a92 : Addr), ((Go.CW.sliceAt p0 (Int.tmod (IntKind.wrap .i64 n25) ((m26 : Nat) : Int)) 3) = (some a92)) ∧
 ∃ (n93 : Int), ((Go.World.cell? w89 (Addr.add a92 1)) = (some (.int .u8 n93))) ∧
 ∃ (a94 : Addr), ((Go.CW.sliceAt p0 (Int.tmod (IntKind.wrap .i64 n25) ((m26 : Nat) : Int)) 3) = (some a94)) ∧
 ∃ (n95 : Int), ((Go.World.cell? w89 (Addr.add a94 2)) = (some (.int .u8 n95))) ∧
 bindW (World.drew w23) fun w96 =>
 (Go.CW.Spec Tryz.prog 13 #[(.int .u8 n91), (.int .u8 n93), (.int .u8 n95)] w96 fun v97 w98 =>
 ∃ (n99 : Int) (n100 : Int) (n101 : Int) (v102 : Value) (n103 : Int) (n104 : Int) (n105 : Int) (b106 : Bool), ((v97 : Value) = (.agg #[(.int .i64 n99), (.int .i64 n100), (.int .i64 n101), v102, (.int .u64 n103), (.int .u64 n104), (.int .i64 n105), (.bool b106)])) ∧
 (∃ (n107 : Int), ((Go.World.cell? (World.alloc w98 (.cells #[(.int .i64 (0 : Int)), (.int .i64 (0 : Int)), (.int .i64 (0 : Int)), (.slice none 0 0), (.int .u64 (0 : Int)), (.int .u64 (0 : Int)), (.int .i64 (0 : Int)), (.bool false)] 40)) (Addr.add a90 0)) = (some (.int .u8 n107))) ∧
 ((.int .u8 n107) : Value) = (.int .u8 n91)) ∧
 (∃ (n108 : Int), ((Go.World.cell? (World.alloc w98 (.cells #[(.int .i64 (0 : Int)), (.int .i64 (0 : Int)), (.int .i64 (0 : Int)), (.slice none 0 0), (.int .u64 (0 : Int)), (.int .u64 (0 : Int)), (.int .i64 (0 : Int)), (.bool false)] 40)) (Addr.add a92 1)) = (some (.int .u8 n108))) ∧
 ((.int .u8 n108) : Value) = (.int .u8 n93)) ∧
 (∃ (n109 : Int), ((Go.World.cell? (World.alloc w98 (.cells #[(.int .i64 (0 : Int)), (.int .i64 (0 : Int)), (.int .i64 (0 : Int)), (.slice none 0 0), (.int .u64 (0 : Int)), (.int .u64 (0 : Int)), (.int .i64 (0 : Int)), (.bool false)] 40)) (Addr.add a94 2)) = (some (.int .u8 n109))) ∧
 ((.int .u8 n109) : Value) = (.int .u8 n95)) ∧
 bindW (World.alloc w98 (.cells #[(.int .i64 (0 : Int)), (.int .i64 (0 : Int)), (.int .i64 (0 : Int)), (.slice none 0 0), (.int .u64 (0 : Int)), (.int .u64 (0 : Int)), (.int .i64 (0 : Int)), (.bool false)] 40)) fun w110 =>
 bindW (World.alloc w98 (.cells #[(.int .i64 (0 : Int)), (.int .i64 (0 : Int)), (.int .i64 (0 : Int)), (.slice none 0 0), (.int .u64 (0 : Int)), (.int .u64 (0 : Int)), (.int .i64 (0 : Int)), (.bool false)] 40)) fun w111 =>
 (StRow w111 ⟨w98.heap.size, 0, none⟩ #[(.int .i64 n99), (.int .i64 n100), (.int .i64 n101), v102, (.int .u64 n103), (.int .u64 n104), (.int .i64 n105), (.bool b106)]) ∧
 bindW (stRow w111 ⟨w98.heap.size, 0, none⟩ #[(.int .i64 n99), (.int .i64 n100), (.int .i64 n101), v102, (.int .u64 n103), (.int .u64 n104), (.int .i64 n105), (.bool b106)]) fun w112 =>
 bindW (stRow w111 ⟨w98.heap.size, 0, none⟩ #[(.int .i64 n99), (.int .i64 n100), (.int .i64 n101), v102, (.int .u64 n103), (.int .u64 n104), (.int .i64 n105), (.bool b106)]) fun w113 =>
 j88 (.pointer (some ⟨w98.heap.size, 0, none⟩)) w113) ∧
 (∃ (n114 : Int), ((Go.World.cell? (World.alloc w96 (.cells #[(.int .i64 (0 : Int)), (.int .i64 (0 : Int)), (.int .i64 (0 : Int)), (.slice none 0 0), (.int .u64 (0 : Int)), (.int .u64 (0 : Int)), (.int .i64 (0 : Int)), (.bool false)] 40)) (Addr.add a90 0)) = (some (.int .u8 n114))) ∧
 ((.int .u8 n114) : Value) = (.int .u8 n91)) ∧
 (∃ (n115 : Int), ((Go.World.cell? (World.alloc w96 (.cells #[(.int .i64 (0 : Int)), (.int .i64 (0 : Int)), (.int .i64 (0 : Int)), (.slice none 0 0), (.int .u64 (0 : Int)), (.int .u64 (0 : Int)), (.int .i64 (0 : Int)), (.bool false)] 40)) (Addr.add a92 1)) = (some (.int .u8 n115))) ∧
 ((.int .u8 n115) : Value) = (.int .u8 n93)) ∧
 (∃ (n116 : Int), ((Go.World.cell? (World.alloc w96 (.cells #[(.int .i64 (0 : Int)), (.int .i64 (0 : Int)), (.int .i64 (0 : Int)), (.slice none 0 0), (.int .u64 (0 : Int)), (.int .u64 (0 : Int)), (.int .i64 (0 : Int)), (.bool false)] 40)) (Addr.add a94 2)) = (some (.int .u8 n116))) ∧
 ((.int .u8 n116) : Value) = (.int .u8 n95)) ∧
 bindW (World.alloc w96 (.cells #[(.int .i64 (0 : Int)), (.int .i64 (0 : Int)), (.int .i64 (0 : Int)), (.slice none 0 0), (.int .u64 (0 : Int)), (.int .u64 (0 : Int)), (.int .i64 (0 : Int)), (.bool false)] 40)) fun w117 =>
 bindW (World.alloc w96 (.cells #[(.int .i64 (0 : Int)), (.int .i64 (0 : Int)), (.int .i64 (0 : Int)), (.slice none 0 0), (.int .u64 (0 : Int)), (.int .u64 (0 : Int)), (.int .i64 (0 : Int)), (.bool false)] 40)) fun w118 =>
 Go.CW.Spec Tryz.prog 13 #[(.int .u8 n91), (.int .u8 n93), (.int .u8 n95)] w118 fun v119 w120 =>
 ∃ (n121 : Int) (n122 : Int) (n123 : Int) (v124 : Value) (n125 : Int) (n126 : Int) (n127 : Int) (b128 : Bool), ((v119 : Value) = (.agg #[(.int .i64 n121), (.int .i64 n122), (.int .i64 n123), v124, (.int .u64 n125), (.int .u64 n126), (.int .i64 n127), (.bool b128)])) ∧
 (StRow w120 ⟨w96.heap.size, 0, none⟩ #[(.int .i64 n121), (.int .i64 n122), (.int .i64 n123), v124, (.int .u64 n125), (.int .u64 n126), (.int .i64 n127), (.bool b128)]) ∧
 bindW (stRow w120 ⟨w96.heap.size, 0, none⟩ #[(.int .i64 n121), (.int .i64 n122), (.int .i64 n123), v124, (.int .u64 n125), (.int .u64 n126), (.int .i64 n127), (.bool b128)]) fun w129 =>
 bindW (stRow w120 ⟨w96.heap.size, 0, none⟩ #[(.int .i64 n121), (.int .i64 n122), (.int .i64 n123), v124, (.int .u64 n125), (.int .u64 n126), (.int .i64 n127), (.bool b128)]) fun w130 =>
 j88 (.pointer (some ⟨w96.heap.size, 0, none⟩)) w130)))
 (R (.bool true) w23))
 (fun j131 =>
 ∃ (m132 : Nat), ((Go.CW.sliceLen p1) = (some m132)) ∧
 cond (decide (n20 < ((m132 : Nat) : Int)))
 (∃ (m133 : Nat), ((Go.CW.sliceLen p0) = (some m133)) ∧
 j131 (decide (((m133 : Nat) : Int) > (0 : Int))) w21)
 (j131 false w21)))
 (fun s134 => s134 (0 : Int) w18)))
 (fun j135 =>
 ∃ (m136 : Nat), ((Go.CW.sliceLen p0) = (some m136)) ∧
 cond (decide (((m136 : Nat) : Int) > (4 : Int)))
 (j135 true w1)
 (∃ (m137 : Nat), ((Go.CW.sliceLen p1) = (some m137)) ∧
 j135 (decide (((m137 : Nat) : Int) > (40 : Int))) w1)))

theorem gemeltop_TopPaths_wp (p0 : Value) (p1 : Value) (w : World) (R : KV) (h : gemeltop_TopPaths_F p0 p1 w R) : Go.CW.Spec Tryz.prog 4 #[p0, p1] w R :=
  spec_of Tryz.func4 (by kernel_rfl) (show gemeltop_TopPaths_F p0 p1 w R = _ by kernel_rfl) h

end Go.Proofs.YtghineciiljeoaaGreatDoor
