/- The formulas of some functions, printed by a program (wip/cw/CwGen). -/
import Derived.Test.YtghineciiljeoaaGreatDoorNam
set_option linter.unusedVariables false
set_option maxRecDepth 100000
namespace Go.Proofs.YtghineciiljeoaaGreatDoor
open Go Go.CW

/-- (*gemel/resv.Table).Register -/
def resv_Table_Register_m_F (p0 : Option Addr) (p1 : Int) (p2 : Int) (p3 : Int) (p4 : Bool) (w : World) (R : KV) : Prop :=
 bindW (World.alloc w (.cells #[(.int .i64 (0 : Int)), (.int .i64 (0 : Int)), (.int .i64 (0 : Int)), (.slice none 0 0), (.int .i64 (0 : Int))] 54)) fun w0 =>
 Go.CW.Spec Tryz.prog 160 #[(.int .i64 p1)] w0 fun v1 w2 =>
 ∃ (b3 : Bool), ((v1 : Value) = (.bool b3)) ∧
 cond (!b3)
 (Go.CW.Spec Tryz.prog 240 #[] w2 fun v4 w5 =>
 ∃ (n6 : Int) (n7 : Int) (n8 : Int) (v9 : Value) (n10 : Int), ((v4 : Value) = (.agg #[(.int .i64 n6), (.int .i64 n7), (.int .i64 n8), v9, (.int .i64 n10)])) ∧
 (StRow w5 ⟨w.heap.size, 0, none⟩ #[(.int .i64 n6), (.int .i64 n7), (.int .i64 n8), v9, (.int .i64 n10)]) ∧
 bindW (stRow w5 ⟨w.heap.size, 0, none⟩ #[(.int .i64 n6), (.int .i64 n7), (.int .i64 n8), v9, (.int .i64 n10)]) fun w11 =>
 ∃ (n12 : Int) (n13 : Int) (n14 : Int) (v15 : Value) (n16 : Int), (ldCells w11 ⟨w.heap.size, 0, none⟩ 5 #[(.int .i64 n12), (.int .i64 n13), (.int .i64 n14), v15, (.int .i64 n16)]) ∧
 R (.tuple #[(.agg #[(.int .i64 n12), (.int .i64 n13), (.int .i64 n14), v15, (.int .i64 n16)]), (.slice none 0 0)]) w11)
 (JoinP [.bool]
 (fun (b17 : Bool) => fun (w18 : World) =>
 cond b17
 (Go.CW.Spec Tryz.prog 241 #[] w18 fun v19 w20 =>
 ∃ (n21 : Int) (n22 : Int) (n23 : Int) (v24 : Value) (n25 : Int), ((v19 : Value) = (.agg #[(.int .i64 n21), (.int .i64 n22), (.int .i64 n23), v24, (.int .i64 n25)])) ∧
 (StRow w20 ⟨w.heap.size, 0, none⟩ #[(.int .i64 n21), (.int .i64 n22), (.int .i64 n23), v24, (.int .i64 n25)]) ∧
 bindW (stRow w20 ⟨w.heap.size, 0, none⟩ #[(.int .i64 n21), (.int .i64 n22), (.int .i64 n23), v24, (.int .i64 n25)]) fun w26 =>
 ∃ (n27 : Int) (n28 : Int) (n29 : Int) (v30 : Value) (n31 : Int), (ldCells w26 ⟨w.heap.size, 0, none⟩ 5 #[(.int .i64 n27), (.int .i64 n28), (.int .i64 n29), v30, (.int .i64 n31)]) ∧
 R (.tuple #[(.agg #[(.int .i64 n27), (.int .i64 n28), (.int .i64 n29), v30, (.int .i64 n31)]), (.slice none 0 0)]) w26)
 (withAddr (.pointer p0) fun a32 =>
 ∃ (n33 : Int), ((Go.World.cell? w18 (Addr.add a32 10)) = (some (.int .u32 n33))) ∧
 withAddr (.pointer p0) fun a34 =>
 (St1 w18 (Addr.add a34 10)) ∧
 bindW (World.setCell w18 (Addr.add a34 10) (.int .u32 (IntKind.wrap .u32 (n33 + (1 : Int))))) fun w35 =>
 JoinP [.val]
 (fun (v36 : Value) => fun (w37 : World) =>
 withAddr (.pointer p0) fun a38 =>
 (inR p1 8) ∧
 (St1 w37 (Addr.add (Addr.add a38 0) ((Int.toNat p1) * 1))) ∧
 bindW (World.setCell w37 (Addr.add (Addr.add a38 0) ((Int.toNat p1) * 1)) (.int .u64 p3)) fun w39 =>
 Go.CW.Spec Tryz.prog 243 #[] w39 fun v40 w41 =>
 ∃ (n42 : Int) (n43 : Int) (n44 : Int) (v45 : Value) (n46 : Int), ((v40 : Value) = (.agg #[(.int .i64 n42), (.int .i64 n43), (.int .i64 n44), v45, (.int .i64 n46)])) ∧
 (StRow w41 ⟨w.heap.size, 0, none⟩ #[(.int .i64 n42), (.int .i64 n43), (.int .i64 n44), v45, (.int .i64 n46)]) ∧
 bindW (stRow w41 ⟨w.heap.size, 0, none⟩ #[(.int .i64 n42), (.int .i64 n43), (.int .i64 n44), v45, (.int .i64 n46)]) fun w47 =>
 ∃ (n48 : Int) (n49 : Int) (n50 : Int) (v51 : Value) (n52 : Int), (ldCells w47 ⟨w.heap.size, 0, none⟩ 5 #[(.int .i64 n48), (.int .i64 n49), (.int .i64 n50), v51, (.int .i64 n52)]) ∧
 R (.tuple #[(.agg #[(.int .i64 n48), (.int .i64 n49), (.int .i64 n50), v51, (.int .i64 n52)]), v36]) w47)
 (fun j53 =>
 JoinP [.bool]
 (fun (b54 : Bool) => fun (w55 : World) =>
 cond b54
 (Go.CW.Spec Tryz.prog 242 #[(.pointer p0), (.int .i64 p1)] w55 fun v56 w57 =>
 j53 v56 w57)
 (j53 (.slice none 0 0) w55))
 (fun j58 =>
 cond (p3 == (0 : Int))
 (withAddr (.pointer p0) fun a59 =>
 ∃ (n60 : Int), ((Go.World.cell? w35 (Addr.add a59 8)) = (some (.int .i64 n60))) ∧
 j58 (n60 == p1) w35)
 (j58 false w35)))))
 (fun j61 =>
 cond (!p4)
 (withAddr (.pointer p0) fun a62 =>
 (inR p1 8) ∧
 ∃ (n63 : Int), ((Go.World.cell? w2 (Addr.add (Addr.add a62 0) ((Int.toNat p1) * 1))) = (some (.int .u64 n63))) ∧
 j61 (p2 != n63) w2)
 (j61 false w2)))

theorem resv_Table_Register_m_wp (p0 : Option Addr) (p1 : Int) (p2 : Int) (p3 : Int) (p4 : Bool) (w : World) (R : KV) (h : resv_Table_Register_m_F p0 p1 p2 p3 p4 w R) : Go.CW.Spec Tryz.prog 166 #[(.pointer p0), (.int .i64 p1), (.int .u64 p2), (.int .u64 p3), (.bool p4)] w R :=
  spec_of Tryz.func166 (by kernel_rfl) (show resv_Table_Register_m_F p0 p1 p2 p3 p4 w R = _ by kernel_rfl) h

/-- (*gemel/resv.Table).Reserve -/
def resv_Table_Reserve_m_F (p0 : Option Addr) (p1 : Int) (p2 : Int) (p3 : Int) (w : World) (R : KV) : Prop :=
 bindW (World.alloc w (.cells #[(.int .i64 (0 : Int)), (.int .i64 (0 : Int)), (.int .i64 (0 : Int)), (.slice none 0 0), (.int .i64 (0 : Int))] 54)) fun w0 =>
 Go.CW.Spec Tryz.prog 244 #[(.pointer p0), (.int .i64 p1), (.int .u64 p2)] w0 fun v1 w2 =>
 ∃ (n3 : Int) (n4 : Int) (n5 : Int) (v6 : Value) (n7 : Int) (b8 : Bool), ((v1 : Value) = (.tuple #[(.agg #[(.int .i64 n3), (.int .i64 n4), (.int .i64 n5), v6, (.int .i64 n7)]), (.bool b8)])) ∧
 bindW (World.alloc w2 (.cells #[(.int .i64 (0 : Int)), (.int .i64 (0 : Int)), (.int .i64 (0 : Int)), (.slice none 0 0), (.int .i64 (0 : Int))] 54)) fun w9 =>
 (StRow w9 ⟨w2.heap.size, 0, none⟩ #[(.int .i64 n3), (.int .i64 n4), (.int .i64 n5), v6, (.int .i64 n7)]) ∧
 bindW (stRow w9 ⟨w2.heap.size, 0, none⟩ #[(.int .i64 n3), (.int .i64 n4), (.int .i64 n5), v6, (.int .i64 n7)]) fun w10 =>
 cond (!b8)
 (∃ (n11 : Int) (n12 : Int) (n13 : Int) (v14 : Value) (n15 : Int), (ldCells w10 ⟨w2.heap.size, 0, none⟩ 5 #[(.int .i64 n11), (.int .i64 n12), (.int .i64 n13), v14, (.int .i64 n15)]) ∧
 (StRow w10 ⟨w.heap.size, 0, none⟩ #[(.int .i64 n11), (.int .i64 n12), (.int .i64 n13), v14, (.int .i64 n15)]) ∧
 bindW (stRow w10 ⟨w.heap.size, 0, none⟩ #[(.int .i64 n11), (.int .i64 n12), (.int .i64 n13), v14, (.int .i64 n15)]) fun w16 =>
 ∃ (n17 : Int) (n18 : Int) (n19 : Int) (v20 : Value) (n21 : Int), (ldCells w16 ⟨w.heap.size, 0, none⟩ 5 #[(.int .i64 n17), (.int .i64 n18), (.int .i64 n19), v20, (.int .i64 n21)]) ∧
 R (.agg #[(.int .i64 n17), (.int .i64 n18), (.int .i64 n19), v20, (.int .i64 n21)]) w16)
 (Go.CW.Spec Tryz.prog 210 #[(.int .i64 p3)] w10 fun v22 w23 =>
 ∃ (b24 : Bool), ((v22 : Value) = (.bool b24)) ∧
 cond (!b24)
 (Go.CW.Spec Tryz.prog 240 #[] w23 fun v25 w26 =>
 ∃ (n27 : Int) (n28 : Int) (n29 : Int) (v30 : Value) (n31 : Int), ((v25 : Value) = (.agg #[(.int .i64 n27), (.int .i64 n28), (.int .i64 n29), v30, (.int .i64 n31)])) ∧
 (StRow w26 ⟨w.heap.size, 0, none⟩ #[(.int .i64 n27), (.int .i64 n28), (.int .i64 n29), v30, (.int .i64 n31)]) ∧
 bindW (stRow w26 ⟨w.heap.size, 0, none⟩ #[(.int .i64 n27), (.int .i64 n28), (.int .i64 n29), v30, (.int .i64 n31)]) fun w32 =>
 ∃ (n33 : Int) (n34 : Int) (n35 : Int) (v36 : Value) (n37 : Int), (ldCells w32 ⟨w.heap.size, 0, none⟩ 5 #[(.int .i64 n33), (.int .i64 n34), (.int .i64 n35), v36, (.int .i64 n37)]) ∧
 R (.agg #[(.int .i64 n33), (.int .i64 n34), (.int .i64 n35), v36, (.int .i64 n37)]) w32)
 (withAddr (.pointer p0) fun a38 =>
 ∃ (n39 : Int), ((Go.World.cell? w23 (Addr.add a38 8)) = (some (.int .i64 n39))) ∧
 cond (n39 == (-1 : Int))
 (withAddr (.pointer p0) fun a40 =>
 (St1 w23 (Addr.add a40 8)) ∧
 bindW (World.setCell w23 (Addr.add a40 8) (.int .i64 p1)) fun w41 =>
 withAddr (.pointer p0) fun a42 =>
 (St1 w41 (Addr.add a42 9)) ∧
 bindW (World.setCell w41 (Addr.add a42 9) (.int .i64 p3)) fun w43 =>
 Go.CW.Spec Tryz.prog 243 #[] w43 fun v44 w45 =>
 ∃ (n46 : Int) (n47 : Int) (n48 : Int) (v49 : Value) (n50 : Int), ((v44 : Value) = (.agg #[(.int .i64 n46), (.int .i64 n47), (.int .i64 n48), v49, (.int .i64 n50)])) ∧
 (StRow w45 ⟨w.heap.size, 0, none⟩ #[(.int .i64 n46), (.int .i64 n47), (.int .i64 n48), v49, (.int .i64 n50)]) ∧
 bindW (stRow w45 ⟨w.heap.size, 0, none⟩ #[(.int .i64 n46), (.int .i64 n47), (.int .i64 n48), v49, (.int .i64 n50)]) fun w51 =>
 ∃ (n52 : Int) (n53 : Int) (n54 : Int) (v55 : Value) (n56 : Int), (ldCells w51 ⟨w.heap.size, 0, none⟩ 5 #[(.int .i64 n52), (.int .i64 n53), (.int .i64 n54), v55, (.int .i64 n56)]) ∧
 R (.agg #[(.int .i64 n52), (.int .i64 n53), (.int .i64 n54), v55, (.int .i64 n56)]) w51)
 (JoinP [.bool]
 (fun (b57 : Bool) => fun (w58 : World) =>
 cond b57
 (Go.CW.Spec Tryz.prog 243 #[] w58 fun v59 w60 =>
 ∃ (n61 : Int) (n62 : Int) (n63 : Int) (v64 : Value) (n65 : Int), ((v59 : Value) = (.agg #[(.int .i64 n61), (.int .i64 n62), (.int .i64 n63), v64, (.int .i64 n65)])) ∧
 (StRow w60 ⟨w.heap.size, 0, none⟩ #[(.int .i64 n61), (.int .i64 n62), (.int .i64 n63), v64, (.int .i64 n65)]) ∧
 bindW (stRow w60 ⟨w.heap.size, 0, none⟩ #[(.int .i64 n61), (.int .i64 n62), (.int .i64 n63), v64, (.int .i64 n65)]) fun w66 =>
 ∃ (n67 : Int) (n68 : Int) (n69 : Int) (v70 : Value) (n71 : Int), (ldCells w66 ⟨w.heap.size, 0, none⟩ 5 #[(.int .i64 n67), (.int .i64 n68), (.int .i64 n69), v70, (.int .i64 n71)]) ∧
 R (.agg #[(.int .i64 n67), (.int .i64 n68), (.int .i64 n69), v70, (.int .i64 n71)]) w66)
 (Go.CW.Spec Tryz.prog 241 #[] w58 fun v72 w73 =>
 ∃ (n74 : Int) (n75 : Int) (n76 : Int) (v77 : Value) (n78 : Int), ((v72 : Value) = (.agg #[(.int .i64 n74), (.int .i64 n75), (.int .i64 n76), v77, (.int .i64 n78)])) ∧
 (StRow w73 ⟨w.heap.size, 0, none⟩ #[(.int .i64 n74), (.int .i64 n75), (.int .i64 n76), v77, (.int .i64 n78)]) ∧
 bindW (stRow w73 ⟨w.heap.size, 0, none⟩ #[(.int .i64 n74), (.int .i64 n75), (.int .i64 n76), v77, (.int .i64 n78)]) fun w79 =>
 ∃ (n80 : Int) (n81 : Int) (n82 : Int) (v83 : Value) (n84 : Int), (ldCells w79 ⟨w.heap.size, 0, none⟩ 5 #[(.int .i64 n80), (.int .i64 n81), (.int .i64 n82), v83, (.int .i64 n84)]) ∧
 R (.agg #[(.int .i64 n80), (.int .i64 n81), (.int .i64 n82), v83, (.int .i64 n84)]) w79))
 (fun j85 =>
 withAddr (.pointer p0) fun a86 =>
 ∃ (n87 : Int), ((Go.World.cell? w23 (Addr.add a86 8)) = (some (.int .i64 n87))) ∧
 cond (n87 == p1)
 (withAddr (.pointer p0) fun a88 =>
 ∃ (n89 : Int), ((Go.World.cell? w23 (Addr.add a88 9)) = (some (.int .i64 n89))) ∧
 j85 (n89 == p3) w23)
 (j85 false w23)))))

theorem resv_Table_Reserve_m_wp (p0 : Option Addr) (p1 : Int) (p2 : Int) (p3 : Int) (w : World) (R : KV) (h : resv_Table_Reserve_m_F p0 p1 p2 p3 w R) : Go.CW.Spec Tryz.prog 167 #[(.pointer p0), (.int .i64 p1), (.int .u64 p2), (.int .i64 p3)] w R :=
  spec_of Tryz.func167 (by kernel_rfl) (show resv_Table_Reserve_m_F p0 p1 p2 p3 w R = _ by kernel_rfl) h

/-- (*gemel/resv.Table).Generation -/
def resv_Table_Generation_m_F (p0 : Option Addr) (w : World) (R : KV) : Prop :=
 withAddr (.pointer p0) fun a0 =>
 ∃ (n1 : Int), ((Go.World.cell? w (Addr.add a0 10)) = (some (.int .u32 n1))) ∧
 R (.int .u32 n1) w

theorem resv_Table_Generation_m_wp (p0 : Option Addr) (w : World) (R : KV) (h : resv_Table_Generation_m_F p0 w R) : Go.CW.Spec Tryz.prog 172 #[(.pointer p0)] w R :=
  spec_of Tryz.func172 (by kernel_rfl) (show resv_Table_Generation_m_F p0 w R = _ by kernel_rfl) h

/-- gemel/resv.Decode -/
def resv_Decode_F (p0 : Value) (w : World) (R : KV) : Prop :=
 ∃ (m0 : Nat), ((Go.CW.sliceLen p0) = (some m0)) ∧
 cond (((m0 : Nat) : Int) != (70 : Int))
 (R (.tuple #[(.pointer none), (.int .i64 (2 : Int))]) w)
 (Go.CW.Spec Tryz.prog 75 #[] w fun v1 w2 =>
 ∃ (o3 : Option Addr), ((v1 : Value) = (.pointer o3)) ∧
 Go.CW.Spec Tryz.prog 148 #[p0, (.int .i64 (0 : Int)), (.int .i64 (4 : Int))] w2 fun v4 w5 =>
 ∃ (n6 : Int) (b7 : Bool), ((v4 : Value) = (.tuple #[(.int .u64 n6), (.bool b7)])) ∧
 withAddr (.pointer o3) fun a8 =>
 (St1 w5 (Addr.add a8 10)) ∧
 bindW (World.setCell w5 (Addr.add a8 10) (.int .u32 (IntKind.wrap .u32 n6))) fun w9 =>
 LoopP [.int .i64]
 (fun j10 => fun (n11 : Int) => fun (w12 : World) =>
 cond (decide (n11 < (8 : Int)))
 (bindW (World.drew w12) fun w13 =>
 withAddr (.pointer o3) fun a14 =>
 bindW (World.drew w12) fun w15 =>
 Go.CW.Spec Tryz.prog 148 #[p0, (.int .i64 (IntKind.wrap .i64 ((4 : Int) + (IntKind.wrap .i64 ((8 : Int) * n11))))), (.int .i64 (8 : Int))] w15 fun v16 w17 =>
 ∃ (n18 : Int) (b19 : Bool), ((v16 : Value) = (.tuple #[(.int .u64 n18), (.bool b19)])) ∧
 (inR n11 8) ∧
 (St1 w17 (Addr.add (Addr.add a14 0) ((Int.toNat n11) * 1))) ∧
 bindW (World.setCell w17 (Addr.add (Addr.add a14 0) ((Int.toNat n11) * 1)) (.int .u64 n18)) fun w20 =>
 bindW (World.setCell w17 (Addr.add (Addr.add a14 0) ((Int.toNat n11) * 1)) (.int .u64 n18)) fun w21 =>
 j10 (IntKind.wrap .i64 (n11 + (1 : Int))) w21)
 (JoinP []
 (fun (w22 : World) =>
 Go.CW.Spec Tryz.prog 126 #[(.pointer o3)] w22 fun v23 w24 =>
 Go.CW.Spec Tryz.prog 134 #[v23, p0] w24 fun v25 w26 =>
 ∃ (b27 : Bool), ((v25 : Value) = (.bool b27)) ∧
 cond (!b27)
 (R (.tuple #[(.pointer none), (.int .i64 (2 : Int))]) w26)
 (R (.tuple #[(.pointer o3), (.int .i64 (0 : Int))]) w26))
 (fun j28 =>
 ∃ (m29 : Nat), ((Go.CW.sliceLen p0) = (some m29)) ∧
 ∃ (a30 : Addr), ((Go.CW.sliceAt p0 (IntKind.wrap .i64 (((m29 : Nat) : Int) - (2 : Int))) 1) = (some a30)) ∧
 ∃ (n31 : Int), ((Go.World.cell? w12 a30) = (some (.int .u8 n31))) ∧
 JoinP [.bool]
 (fun (b32 : Bool) => fun (w33 : World) =>
 cond b32
 (∃ (m34 : Nat), ((Go.CW.sliceLen p0) = (some m34)) ∧
 ∃ (a35 : Addr), ((Go.CW.sliceAt p0 (IntKind.wrap .i64 (((m34 : Nat) : Int) - (1 : Int))) 1) = (some a35)) ∧
 ∃ (n36 : Int), ((Go.World.cell? w33 a35) = (some (.int .u8 n36))) ∧
 withAddr (.pointer o3) fun a37 =>
 (St1 w33 (Addr.add a37 8)) ∧
 bindW (World.setCell w33 (Addr.add a37 8) (.int .i64 (IntKind.wrap .i64 n31))) fun w38 =>
 withAddr (.pointer o3) fun a39 =>
 (St1 w38 (Addr.add a39 9)) ∧
 bindW (World.setCell w38 (Addr.add a39 9) (.int .i64 (IntKind.wrap .i64 n36))) fun w40 =>
 j28 w40)
 (j28 w33))
 (fun j41 =>
 cond (decide ((IntKind.wrap .i64 n31) < (8 : Int)))
 (withAddr (.pointer o3) fun a42 =>
 (inR (IntKind.wrap .i64 n31) 8) ∧
 ∃ (n43 : Int), ((Go.World.cell? w12 (Addr.add (Addr.add a42 0) ((Int.toNat (IntKind.wrap .i64 n31)) * 1))) = (some (.int .u64 n43))) ∧
 cond (n43 != (0 : Int))
 (∃ (m44 : Nat), ((Go.CW.sliceLen p0) = (some m44)) ∧
 ∃ (a45 : Addr), ((Go.CW.sliceAt p0 (IntKind.wrap .i64 (((m44 : Nat) : Int) - (1 : Int))) 1) = (some a45)) ∧
 ∃ (n46 : Int), ((Go.World.cell? w12 a45) = (some (.int .u8 n46))) ∧
 Go.CW.Spec Tryz.prog 210 #[(.int .i64 (IntKind.wrap .i64 n46))] w12 fun v47 w48 =>
 ∃ (b49 : Bool), ((v47 : Value) = (.bool b49)) ∧
 j41 b49 w48)
 (j41 false w12))
 (j41 false w12)))))
 (fun s50 => s50 (0 : Int) w9))

theorem resv_Decode_wp (p0 : Value) (w : World) (R : KV) (h : resv_Decode_F p0 w R) : Go.CW.Spec Tryz.prog 131 #[p0] w R :=
  spec_of Tryz.func131 (by kernel_rfl) (show resv_Decode_F p0 w R = _ by kernel_rfl) h

/-- (*gemel/resv.Table).Encode -/
def resv_Table_Encode_m_F (p0 : Option Addr) (w : World) (R : KV) : Prop :=
 withAddr (.pointer p0) fun a0 =>
 ∃ (n1 : Int), ((Go.World.cell? w (Addr.add a0 10)) = (some (.int .u32 n1))) ∧
 Go.CW.Spec Tryz.prog 120 #[(.slice none 0 0), (.int .u64 (IntKind.wrap .u64 n1)), (.int .i64 (4 : Int))] w fun v2 w3 =>
 withAddr (.pointer p0) fun a4 =>
 ∃ (n5 : Int) (n6 : Int) (n7 : Int) (n8 : Int) (n9 : Int) (n10 : Int) (n11 : Int) (n12 : Int), (ldCells w3 (Addr.add a4 0) 8 #[(.int .u64 n5), (.int .u64 n6), (.int .u64 n7), (.int .u64 n8), (.int .u64 n9), (.int .u64 n10), (.int .u64 n11), (.int .u64 n12)]) ∧
 LoopP [.val, .int .i64]
 (fun j13 => fun (v14 : Value) => fun (n15 : Int) => fun (w16 : World) =>
 cond (decide (n15 < (8 : Int)))
 (∃ (n17 : Int), ((Sem.run @Go.Proofs.Tryz.prog (Go.Instr.index 278 (.agg #[(.int .u64 n5), (.int .u64 n6), (.int .u64 n7), (.int .u64 n8), (.int .u64 n9), (.int .u64 n10), (.int .u64 n11), (.int .u64 n12)]) (.int .i64 n15)) w16) = (.ok (.int .u64 n17) w16)) ∧
 Go.CW.Spec Tryz.prog 120 #[v14, (.int .u64 n17), (.int .i64 (8 : Int))] w16 fun v18 w19 =>
 j13 v18 (IntKind.wrap .i64 (n15 + (1 : Int))) w19)
 (bindW (World.drew w16) fun w20 =>
 withAddr (.pointer p0) fun a21 =>
 ∃ (n22 : Int), ((Go.World.cell? w20 (Addr.add a21 8)) = (some (.int .i64 n22))) ∧
 withAddr (.pointer p0) fun a23 =>
 ∃ (n24 : Int), ((Go.World.cell? w20 (Addr.add a23 9)) = (some (.int .i64 n24))) ∧
 bindW (World.drew w16) fun w25 =>
 bindW (World.alloc w25 (.cells #[(.int .u8 (IntKind.wrap .u8 n22)), (.int .u8 (IntKind.wrap .u8 n24))] 5)) fun w26 =>
 bindW (World.alloc w25 (.cells #[(.int .u8 (IntKind.wrap .u8 n22)), (.int .u8 (IntKind.wrap .u8 n24))] 5)) fun w27 =>
 ∃ (v28 : Value) (w29 : World), ((Sem.run @Go.Proofs.Tryz.prog (Go.Builtin.append_ #[34, 34] 34 #[v14, (.slice (some ⟨w25.heap.size, 0, none⟩) 2 2)]) w27) = (.ok v28 w29)) ∧
 R v28 w29))
 (fun s30 => s30 v2 (0 : Int) w3)

theorem resv_Table_Encode_m_wp (p0 : Option Addr) (w : World) (R : KV) (h : resv_Table_Encode_m_F p0 w R) : Go.CW.Spec Tryz.prog 126 #[(.pointer p0)] w R :=
  spec_of Tryz.func126 (by kernel_rfl) (show resv_Table_Encode_m_F p0 w R = _ by kernel_rfl) h

/-- (*gemel/resv.Table).Key -/
def resv_Table_Key_m_F (p0 : Option Addr) (p1 : Int) (w : World) (R : KV) : Prop :=
 Go.CW.Spec Tryz.prog 160 #[(.int .i64 p1)] w fun v0 w1 =>
 ∃ (b2 : Bool), ((v0 : Value) = (.bool b2)) ∧
 cond (!b2)
 (R (.int .u64 (0 : Int)) w1)
 (withAddr (.pointer p0) fun a3 =>
 (inR p1 8) ∧
 ∃ (n4 : Int), ((Go.World.cell? w1 (Addr.add (Addr.add a3 0) ((Int.toNat p1) * 1))) = (some (.int .u64 n4))) ∧
 R (.int .u64 n4) w1)

theorem resv_Table_Key_m_wp (p0 : Option Addr) (p1 : Int) (w : World) (R : KV) (h : resv_Table_Key_m_F p0 p1 w R) : Go.CW.Spec Tryz.prog 176 #[(.pointer p0), (.int .i64 p1)] w R :=
  spec_of Tryz.func176 (by kernel_rfl) (show resv_Table_Key_m_F p0 p1 w R = _ by kernel_rfl) h

/-- gemel/resv.field -/
def resv_field_F  (w : World) (R : KV) : Prop :=
 bindW (World.alloc w (.cells #[(.int .i64 (0 : Int)), (.int .i64 (0 : Int)), (.int .i64 (0 : Int)), (.slice none 0 0), (.int .i64 (0 : Int))] 54)) fun w0 =>
 Go.CW.Spec Tryz.prog 78 #[(.int .i64 (5 : Int)), (.int .i64 (9216 : Int))] w0 fun v1 w2 =>
 ∃ (n3 : Int) (n4 : Int) (n5 : Int) (v6 : Value) (n7 : Int), ((v1 : Value) = (.agg #[(.int .i64 n3), (.int .i64 n4), (.int .i64 n5), v6, (.int .i64 n7)])) ∧
 (StRow w2 ⟨w.heap.size, 0, none⟩ #[(.int .i64 n3), (.int .i64 n4), (.int .i64 n5), v6, (.int .i64 n7)]) ∧
 bindW (stRow w2 ⟨w.heap.size, 0, none⟩ #[(.int .i64 n3), (.int .i64 n4), (.int .i64 n5), v6, (.int .i64 n7)]) fun w8 =>
 ∃ (n9 : Int) (n10 : Int) (n11 : Int) (v12 : Value) (n13 : Int), (ldCells w8 ⟨w.heap.size, 0, none⟩ 5 #[(.int .i64 n9), (.int .i64 n10), (.int .i64 n11), v12, (.int .i64 n13)]) ∧
 R (.agg #[(.int .i64 n9), (.int .i64 n10), (.int .i64 n11), v12, (.int .i64 n13)]) w8

theorem resv_field_wp  (w : World) (R : KV) (h : resv_field_F  w R) : Go.CW.Spec Tryz.prog 240 #[] w R :=
  spec_of Tryz.func240 (by kernel_rfl) (show resv_field_F  w R = _ by kernel_rfl) h

/-- gemel/resv.conflict -/
def resv_conflict_F  (w : World) (R : KV) : Prop :=
 bindW (World.alloc w (.cells #[(.int .i64 (0 : Int)), (.int .i64 (0 : Int)), (.int .i64 (0 : Int)), (.slice none 0 0), (.int .i64 (0 : Int))] 54)) fun w0 =>
 (StRow w0 ⟨w.heap.size, 0, none⟩ #[(.int .i64 (24 : Int)), (.int .i64 (0 : Int)), (.int .i64 (0 : Int)), (.slice none 0 0), (.int .i64 (0 : Int))]) ∧
 bindW (stRow w0 ⟨w.heap.size, 0, none⟩ #[(.int .i64 (24 : Int)), (.int .i64 (0 : Int)), (.int .i64 (0 : Int)), (.slice none 0 0), (.int .i64 (0 : Int))]) fun w1 =>
 ∃ (n2 : Int) (n3 : Int) (n4 : Int) (v5 : Value) (n6 : Int), (ldCells w1 ⟨w.heap.size, 0, none⟩ 5 #[(.int .i64 n2), (.int .i64 n3), (.int .i64 n4), v5, (.int .i64 n6)]) ∧
 R (.agg #[(.int .i64 n2), (.int .i64 n3), (.int .i64 n4), v5, (.int .i64 n6)]) w1

theorem resv_conflict_wp  (w : World) (R : KV) (h : resv_conflict_F  w R) : Go.CW.Spec Tryz.prog 241 #[] w R :=
  spec_of Tryz.func241 (by kernel_rfl) (show resv_conflict_F  w R = _ by kernel_rfl) h

/-- (*gemel/resv.Table).drop -/
def resv_Table_drop_m_F (p0 : Option Addr) (p1 : Int) (w : World) (R : KV) : Prop :=
 JoinP [.val]
 (fun (v0 : Value) => fun (w1 : World) =>
 withAddr (.pointer p0) fun a2 =>
 (St1 w1 (Addr.add a2 8)) ∧
 bindW (World.setCell w1 (Addr.add a2 8) (.int .i64 (-1 : Int))) fun w3 =>
 withAddr (.pointer p0) fun a4 =>
 (St1 w3 (Addr.add a4 9)) ∧
 bindW (World.setCell w3 (Addr.add a4 9) (.int .i64 (0 : Int))) fun w5 =>
 R v0 w5)
 (fun j6 =>
 Go.CW.Spec Tryz.prog 159 #[(.pointer p0)] w fun v7 w8 =>
 ∃ (b9 : Bool), ((v7 : Value) = (.bool b9)) ∧
 cond b9
 (Go.CW.Spec Tryz.prog 245 #[(.pointer p0), (.int .i64 p1), (.int .i64 (10756 : Int)), (.func (.func 246) #[] #[])] w8 fun v10 w11 =>
 j6 v10 w11)
 (j6 (.slice none 0 0) w8))

theorem resv_Table_drop_m_wp (p0 : Option Addr) (p1 : Int) (w : World) (R : KV) (h : resv_Table_drop_m_F p0 p1 w R) : Go.CW.Spec Tryz.prog 242 #[(.pointer p0), (.int .i64 p1)] w R :=
  spec_of Tryz.func242 (by kernel_rfl) (show resv_Table_drop_m_F p0 p1 w R = _ by kernel_rfl) h

/-- gemel/resv.good -/
def resv_good_F  (w : World) (R : KV) : Prop :=
 bindW (World.alloc w (.cells #[(.int .i64 (0 : Int)), (.int .i64 (0 : Int)), (.int .i64 (0 : Int)), (.slice none 0 0), (.int .i64 (0 : Int))] 54)) fun w0 =>
 (StRow w0 ⟨w.heap.size, 0, none⟩ #[(.int .i64 (0 : Int)), (.int .i64 (0 : Int)), (.int .i64 (0 : Int)), (.slice none 0 0), (.int .i64 (0 : Int))]) ∧
 bindW (stRow w0 ⟨w.heap.size, 0, none⟩ #[(.int .i64 (0 : Int)), (.int .i64 (0 : Int)), (.int .i64 (0 : Int)), (.slice none 0 0), (.int .i64 (0 : Int))]) fun w1 =>
 ∃ (n2 : Int) (n3 : Int) (n4 : Int) (v5 : Value) (n6 : Int), (ldCells w1 ⟨w.heap.size, 0, none⟩ 5 #[(.int .i64 n2), (.int .i64 n3), (.int .i64 n4), v5, (.int .i64 n6)]) ∧
 R (.agg #[(.int .i64 n2), (.int .i64 n3), (.int .i64 n4), v5, (.int .i64 n6)]) w1

theorem resv_good_wp  (w : World) (R : KV) (h : resv_good_F  w R) : Go.CW.Spec Tryz.prog 243 #[] w R :=
  spec_of Tryz.func243 (by kernel_rfl) (show resv_good_F  w R = _ by kernel_rfl) h

/-- (*gemel/resv.Table).may -/
def resv_Table_may_m_F (p0 : Option Addr) (p1 : Int) (p2 : Int) (w : World) (R : KV) : Prop :=
 bindW (World.alloc w (.cells #[(.int .i64 (0 : Int)), (.int .i64 (0 : Int)), (.int .i64 (0 : Int)), (.slice none 0 0), (.int .i64 (0 : Int))] 54)) fun w0 =>
 Go.CW.Spec Tryz.prog 160 #[(.int .i64 p1)] w0 fun v1 w2 =>
 ∃ (b3 : Bool), ((v1 : Value) = (.bool b3)) ∧
 cond (!b3)
 (Go.CW.Spec Tryz.prog 240 #[] w2 fun v4 w5 =>
 ∃ (n6 : Int) (n7 : Int) (n8 : Int) (v9 : Value) (n10 : Int), ((v4 : Value) = (.agg #[(.int .i64 n6), (.int .i64 n7), (.int .i64 n8), v9, (.int .i64 n10)])) ∧
 (StRow w5 ⟨w.heap.size, 0, none⟩ #[(.int .i64 n6), (.int .i64 n7), (.int .i64 n8), v9, (.int .i64 n10)]) ∧
 bindW (stRow w5 ⟨w.heap.size, 0, none⟩ #[(.int .i64 n6), (.int .i64 n7), (.int .i64 n8), v9, (.int .i64 n10)]) fun w11 =>
 ∃ (n12 : Int) (n13 : Int) (n14 : Int) (v15 : Value) (n16 : Int), (ldCells w11 ⟨w.heap.size, 0, none⟩ 5 #[(.int .i64 n12), (.int .i64 n13), (.int .i64 n14), v15, (.int .i64 n16)]) ∧
 R (.tuple #[(.agg #[(.int .i64 n12), (.int .i64 n13), (.int .i64 n14), v15, (.int .i64 n16)]), (.bool false)]) w11)
 (JoinP [.bool]
 (fun (b17 : Bool) => fun (w18 : World) =>
 cond b17
 (Go.CW.Spec Tryz.prog 241 #[] w18 fun v19 w20 =>
 ∃ (n21 : Int) (n22 : Int) (n23 : Int) (v24 : Value) (n25 : Int), ((v19 : Value) = (.agg #[(.int .i64 n21), (.int .i64 n22), (.int .i64 n23), v24, (.int .i64 n25)])) ∧
 (StRow w20 ⟨w.heap.size, 0, none⟩ #[(.int .i64 n21), (.int .i64 n22), (.int .i64 n23), v24, (.int .i64 n25)]) ∧
 bindW (stRow w20 ⟨w.heap.size, 0, none⟩ #[(.int .i64 n21), (.int .i64 n22), (.int .i64 n23), v24, (.int .i64 n25)]) fun w26 =>
 ∃ (n27 : Int) (n28 : Int) (n29 : Int) (v30 : Value) (n31 : Int), (ldCells w26 ⟨w.heap.size, 0, none⟩ 5 #[(.int .i64 n27), (.int .i64 n28), (.int .i64 n29), v30, (.int .i64 n31)]) ∧
 R (.tuple #[(.agg #[(.int .i64 n27), (.int .i64 n28), (.int .i64 n29), v30, (.int .i64 n31)]), (.bool false)]) w26)
 (Go.CW.Spec Tryz.prog 243 #[] w18 fun v32 w33 =>
 ∃ (n34 : Int) (n35 : Int) (n36 : Int) (v37 : Value) (n38 : Int), ((v32 : Value) = (.agg #[(.int .i64 n34), (.int .i64 n35), (.int .i64 n36), v37, (.int .i64 n38)])) ∧
 (StRow w33 ⟨w.heap.size, 0, none⟩ #[(.int .i64 n34), (.int .i64 n35), (.int .i64 n36), v37, (.int .i64 n38)]) ∧
 bindW (stRow w33 ⟨w.heap.size, 0, none⟩ #[(.int .i64 n34), (.int .i64 n35), (.int .i64 n36), v37, (.int .i64 n38)]) fun w39 =>
 ∃ (n40 : Int) (n41 : Int) (n42 : Int) (v43 : Value) (n44 : Int), (ldCells w39 ⟨w.heap.size, 0, none⟩ 5 #[(.int .i64 n40), (.int .i64 n41), (.int .i64 n42), v43, (.int .i64 n44)]) ∧
 R (.tuple #[(.agg #[(.int .i64 n40), (.int .i64 n41), (.int .i64 n42), v43, (.int .i64 n44)]), (.bool true)]) w39))
 (fun j45 =>
 withAddr (.pointer p0) fun a46 =>
 (inR p1 8) ∧
 ∃ (n47 : Int), ((Go.World.cell? w2 (Addr.add (Addr.add a46 0) ((Int.toNat p1) * 1))) = (some (.int .u64 n47))) ∧
 cond (n47 == (0 : Int))
 (j45 true w2)
 (withAddr (.pointer p0) fun a48 =>
 (inR p1 8) ∧
 ∃ (n49 : Int), ((Go.World.cell? w2 (Addr.add (Addr.add a48 0) ((Int.toNat p1) * 1))) = (some (.int .u64 n49))) ∧
 j45 (n49 != p2) w2)))

theorem resv_Table_may_m_wp (p0 : Option Addr) (p1 : Int) (p2 : Int) (w : World) (R : KV) (h : resv_Table_may_m_F p0 p1 p2 w R) : Go.CW.Spec Tryz.prog 244 #[(.pointer p0), (.int .i64 p1), (.int .u64 p2)] w R :=
  spec_of Tryz.func244 (by kernel_rfl) (show resv_Table_may_m_F p0 p1 p2 w R = _ by kernel_rfl) h

/-- gemel/resv.typed -/
def resv_typed_F (p0 : Int) (w : World) (R : KV) : Prop :=
 JoinP [.bool]
 (fun (b0 : Bool) => fun (w1 : World) =>
 R (.bool b0) w1)
 (fun j2 =>
 cond (p0 == (1 : Int))
 (j2 true w)
 (cond (p0 == (3 : Int))
 (j2 true w)
 (cond (p0 == (5 : Int))
 (j2 true w)
 (j2 (p0 == (6 : Int)) w))))

theorem resv_typed_wp (p0 : Int) (w : World) (R : KV) (h : resv_typed_F p0 w R) : Go.CW.Spec Tryz.prog 210 #[(.int .i64 p0)] w R :=
  spec_of Tryz.func210 (by kernel_rfl) (show resv_typed_F p0 w R = _ by kernel_rfl) h

/-- (*gemel/resv.Table).Keys -/
def resv_Table_Keys_m_F (p0 : Option Addr) (w : World) (R : KV) : Prop :=
 withAddr (.pointer p0) fun a0 =>
 ∃ (n1 : Int) (n2 : Int) (n3 : Int) (n4 : Int) (n5 : Int) (n6 : Int) (n7 : Int) (n8 : Int), (ldCells w (Addr.add a0 0) 8 #[(.int .u64 n1), (.int .u64 n2), (.int .u64 n3), (.int .u64 n4), (.int .u64 n5), (.int .u64 n6), (.int .u64 n7), (.int .u64 n8)]) ∧
 LoopP [.val, .int .i64]
 (fun j9 => fun (v10 : Value) => fun (n11 : Int) => fun (w12 : World) =>
 cond (decide (n11 < (8 : Int)))
 (JoinP [.val]
 (fun (v13 : Value) => fun (w14 : World) =>
 j9 v13 (IntKind.wrap .i64 (n11 + (1 : Int))) w14)
 (fun j15 =>
 ∃ (n16 : Int), ((Sem.run @Go.Proofs.Tryz.prog (Go.Instr.index 278 (.agg #[(.int .u64 n1), (.int .u64 n2), (.int .u64 n3), (.int .u64 n4), (.int .u64 n5), (.int .u64 n6), (.int .u64 n7), (.int .u64 n8)]) (.int .i64 n11)) w12) = (.ok (.int .u64 n16) w12)) ∧
 cond (n16 != (0 : Int))
 (bindW (World.alloc w12 (.cells #[(.int .u64 n16)] 38)) fun w17 =>
 ∃ (v18 : Value) (w19 : World), ((Sem.run @Go.Proofs.Tryz.prog (Go.Builtin.append_ #[81, 81] 81 #[v10, (.slice (some ⟨w12.heap.size, 0, none⟩) 1 1)]) w17) = (.ok v18 w19)) ∧
 j15 v18 w19)
 (j15 v10 w12)))
 (Go.CW.Spec Tryz.prog 100 #[v10] w12 fun v20 w21 =>
 R v20 w21))
 (fun s22 => s22 (.slice none 0 0) (0 : Int) w)

theorem resv_Table_Keys_m_wp (p0 : Option Addr) (w : World) (R : KV) (h : resv_Table_Keys_m_F p0 w R) : Go.CW.Spec Tryz.prog 173 #[(.pointer p0)] w R :=
  spec_of Tryz.func173 (by kernel_rfl) (show resv_Table_Keys_m_F p0 w R = _ by kernel_rfl) h

/-- (*gemel/resv.Table).Holder -/
def resv_Table_Holder_m_F (p0 : Option Addr) (w : World) (R : KV) : Prop :=
 bindW (World.drew w) fun w0 =>
 withAddr (.pointer p0) fun a1 =>
 ∃ (n2 : Int), ((Go.World.cell? w0 (Addr.add a1 8)) = (some (.int .i64 n2))) ∧
 withAddr (.pointer p0) fun a3 =>
 ∃ (n4 : Int), ((Go.World.cell? w0 (Addr.add a3 9)) = (some (.int .i64 n4))) ∧
 bindW (World.drew w) fun w5 =>
 R (.tuple #[(.int .i64 n2), (.int .i64 n4)]) w5

theorem resv_Table_Holder_m_wp (p0 : Option Addr) (w : World) (R : KV) (h : resv_Table_Holder_m_F p0 w R) : Go.CW.Spec Tryz.prog 174 #[(.pointer p0)] w R :=
  spec_of Tryz.func174 (by kernel_rfl) (show resv_Table_Holder_m_F p0 w R = _ by kernel_rfl) h

/-- slices.Clip[[]uint64,uint64] -/
def slices_Clip_100_F (p0 : Value) (w : World) (R : KV) : Prop :=
 ∃ (m0 : Nat), ((Go.CW.sliceLen p0) = (some m0)) ∧
 ∃ (m1 : Nat), ((Go.CW.sliceLen p0) = (some m1)) ∧
 ∃ (v2 : Value), ((Go.CW.subSlice p0 1 none (some (.int .i64 ((m0 : Nat) : Int))) (some (.int .i64 ((m1 : Nat) : Int)))) = (some v2)) ∧
 R v2 w

theorem slices_Clip_100_wp (p0 : Value) (w : World) (R : KV) (h : slices_Clip_100_F p0 w R) : Go.CW.Spec Tryz.prog 100 #[p0] w R :=
  spec_of Tryz.func100 (by kernel_rfl) (show slices_Clip_100_F p0 w R = _ by kernel_rfl) h

end Go.Proofs.YtghineciiljeoaaGreatDoor
