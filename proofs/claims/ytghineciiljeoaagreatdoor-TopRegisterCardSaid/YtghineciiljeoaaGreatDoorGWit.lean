/- The formulas of some functions, printed by a program (wip/cw/CwGen). -/
import Derived.Test.YtghineciiljeoaaGreatDoorNam
set_option linter.unusedVariables false
set_option maxRecDepth 100000
namespace Go.Proofs.YtghineciiljeoaaGreatDoor
open Go Go.CW

/-- gemel/witness.Format -/
def witness_Format_F (p0 : Option Addr) (p1_0 : Int) (p1_1 : Int) (p1_2 : Int) (w : World) (R : KV) : Prop :=
 bindW (World.alloc w (.cells #[(.int .u64 p1_0), (.int .i64 p1_1), (.int .i64 p1_2)] 91)) fun w0 =>
 ∃ (n1 : Int) (n2 : Int) (n3 : Int), (ldCells w0 ⟨w.heap.size, 0, none⟩ 3 #[(.int .u64 n1), (.int .i64 n2), (.int .i64 n3)]) ∧
 Go.CW.Spec Tryz.prog 102 #[(.agg #[(.int .u64 n1), (.int .i64 n2), (.int .i64 n3)])] w0 fun v4 w5 =>
 ∃ (b6 : Bool), ((v4 : Value) = (.bool b6)) ∧
 cond (!b6)
 (R (.int .i64 (1 : Int)) w5)
 (∃ (n7 : Int) (n8 : Int) (n9 : Int), (ldCells w5 ⟨w.heap.size, 0, none⟩ 3 #[(.int .u64 n7), (.int .i64 n8), (.int .i64 n9)]) ∧
 Go.CW.Spec Tryz.prog 104 #[(.agg #[(.int .u64 n7), (.int .i64 n8), (.int .i64 n9)])] w5 fun v10 w11 =>
 Go.CW.Spec Tryz.prog 103 #[(.pointer p0), (.int .i64 (0 : Int)), v10] w11 fun v12 w13 =>
 ∃ (n14 : Int), ((v12 : Value) = (.int .i64 n14)) ∧
 R (.int .i64 n14) w13)

theorem witness_Format_wp (p0 : Option Addr) (p1_0 : Int) (p1_1 : Int) (p1_2 : Int) (w : World) (R : KV) (h : witness_Format_F p0 p1_0 p1_1 p1_2 w R) : Go.CW.Spec Tryz.prog 37 #[(.pointer p0), (.agg #[(.int .u64 p1_0), (.int .i64 p1_1), (.int .i64 p1_2)])] w R :=
  spec_of Tryz.func37 (by kernel_rfl) (show witness_Format_F p0 p1_0 p1_1 p1_2 w R = _ by kernel_rfl) h

/-- gemel/witness.Open -/
def witness_Open_F (p0 : Option Addr) (w : World) (R : KV) : Prop :=
 Go.CW.Spec Tryz.prog 105 #[(.pointer p0), (.int .i64 (0 : Int))] w fun v0 w1 =>
 ∃ (o2 : Option Addr) (n3 : Int), ((v0 : Value) = (.tuple #[(.pointer o2), (.int .i64 n3)])) ∧
 cond (n3 != (0 : Int))
 (R (.tuple #[(.pointer none), (.int .i64 n3)]) w1)
 (Go.CW.Spec Tryz.prog 107 #[(.pointer o2)] w1 fun v4 w5 =>
 Go.CW.Spec Tryz.prog 106 #[v4] w5 fun v6 w7 =>
 ∃ (n8 : Int) (n9 : Int) (n10 : Int) (n11 : Int), ((v6 : Value) = (.tuple #[(.agg #[(.int .u64 n8), (.int .i64 n9), (.int .i64 n10)]), (.int .i64 n11)])) ∧
 bindW (World.alloc w7 (.cells #[(.int .u64 (0 : Int)), (.int .i64 (0 : Int)), (.int .i64 (0 : Int))] 91)) fun w12 =>
 (StRow w12 ⟨w7.heap.size, 0, none⟩ #[(.int .u64 n8), (.int .i64 n9), (.int .i64 n10)]) ∧
 bindW (stRow w12 ⟨w7.heap.size, 0, none⟩ #[(.int .u64 n8), (.int .i64 n9), (.int .i64 n10)]) fun w13 =>
 cond (n11 != (0 : Int))
 (R (.tuple #[(.pointer none), (.int .i64 n11)]) w13)
 (∃ (n14 : Int) (n15 : Int) (n16 : Int), (ldCells w13 ⟨w7.heap.size, 0, none⟩ 3 #[(.int .u64 n14), (.int .i64 n15), (.int .i64 n16)]) ∧
 bindW (World.alloc w13 (.cells #[(.pointer o2), (.int .u64 n14), (.int .i64 n15), (.int .i64 n16)] 211)) fun w17 =>
 R (.tuple #[(.pointer (some ⟨w13.heap.size, 0, none⟩)), (.int .i64 (0 : Int))]) w17))

theorem witness_Open_wp (p0 : Option Addr) (w : World) (R : KV) (h : witness_Open_F p0 w R) : Go.CW.Spec Tryz.prog 38 #[(.pointer p0)] w R :=
  spec_of Tryz.func38 (by kernel_rfl) (show witness_Open_F p0 w R = _ by kernel_rfl) h

/-- (*gemel/witness.Witness).Cas -/
def witness_Witness_Cas_m_F (p0 : Option Addr) (p1 : Int) (p2_0 : Int) (p2_1 : Int) (p2_2 : Int) (w : World) (R : KV) : Prop :=
 bindW (World.alloc w (.cells #[(.int .u64 p2_0), (.int .i64 p2_1), (.int .i64 p2_2)] 91)) fun w0 =>
 bindW (World.alloc w0 (.cells #[(.int .u64 (0 : Int)), (.int .i64 (0 : Int)), (.int .i64 (0 : Int))] 91)) fun w1 =>
 ∃ (n2 : Int) (n3 : Int) (n4 : Int), (ldCells w1 ⟨w.heap.size, 0, none⟩ 3 #[(.int .u64 n2), (.int .i64 n3), (.int .i64 n4)]) ∧
 Go.CW.Spec Tryz.prog 109 #[(.pointer p0), (.int .u64 p1), (.agg #[(.int .u64 n2), (.int .i64 n3), (.int .i64 n4)])] w1 fun v5 w6 =>
 ∃ (b7 : Bool), ((v5 : Value) = (.bool b7)) ∧
 cond (!b7)
 (withAddr (.pointer p0) fun a8 =>
 ∃ (n9 : Int) (n10 : Int) (n11 : Int), (ldCells w6 (Addr.add a8 1) 3 #[(.int .u64 n9), (.int .i64 n10), (.int .i64 n11)]) ∧
 (StRow w6 ⟨w0.heap.size, 0, none⟩ #[(.int .u64 n9), (.int .i64 n10), (.int .i64 n11)]) ∧
 bindW (stRow w6 ⟨w0.heap.size, 0, none⟩ #[(.int .u64 n9), (.int .i64 n10), (.int .i64 n11)]) fun w12 =>
 ∃ (n13 : Int) (n14 : Int) (n15 : Int), (ldCells w12 ⟨w0.heap.size, 0, none⟩ 3 #[(.int .u64 n13), (.int .i64 n14), (.int .i64 n15)]) ∧
 R (.tuple #[(.agg #[(.int .u64 n13), (.int .i64 n14), (.int .i64 n15)]), (.bool false), (.int .i64 (0 : Int))]) w12)
 (bindW (World.drew w6) fun w16 =>
 withAddr (.pointer p0) fun a17 =>
 ∃ (o18 : Option Addr), ((Go.World.cell? w16 (Addr.add a17 0)) = (some (.pointer o18))) ∧
 ∃ (n19 : Int) (n20 : Int) (n21 : Int), (ldCells w16 ⟨w.heap.size, 0, none⟩ 3 #[(.int .u64 n19), (.int .i64 n20), (.int .i64 n21)]) ∧
 bindW (World.drew w6) fun w22 =>
 Go.CW.Spec Tryz.prog 104 #[(.agg #[(.int .u64 n19), (.int .i64 n20), (.int .i64 n21)])] w22 fun v23 w24 =>
 (∃ (o25 : Option Addr), ((Go.World.cell? w24 (Addr.add a17 0)) = (some (.pointer o25))) ∧
 ((.pointer o25) : Value) = (.pointer o18)) ∧
 Go.CW.Spec Tryz.prog 110 #[(.pointer o18), v23] w24 fun v26 w27 =>
 ∃ (n28 : Int), ((v26 : Value) = (.int .i64 n28)) ∧
 cond (n28 != (0 : Int))
 (withAddr (.pointer p0) fun a29 =>
 ∃ (n30 : Int) (n31 : Int) (n32 : Int), (ldCells w27 (Addr.add a29 1) 3 #[(.int .u64 n30), (.int .i64 n31), (.int .i64 n32)]) ∧
 (StRow w27 ⟨w0.heap.size, 0, none⟩ #[(.int .u64 n30), (.int .i64 n31), (.int .i64 n32)]) ∧
 bindW (stRow w27 ⟨w0.heap.size, 0, none⟩ #[(.int .u64 n30), (.int .i64 n31), (.int .i64 n32)]) fun w33 =>
 ∃ (n34 : Int) (n35 : Int) (n36 : Int), (ldCells w33 ⟨w0.heap.size, 0, none⟩ 3 #[(.int .u64 n34), (.int .i64 n35), (.int .i64 n36)]) ∧
 R (.tuple #[(.agg #[(.int .u64 n34), (.int .i64 n35), (.int .i64 n36)]), (.bool false), (.int .i64 n28)]) w33)
 (∃ (n37 : Int) (n38 : Int) (n39 : Int), (ldCells w27 ⟨w.heap.size, 0, none⟩ 3 #[(.int .u64 n37), (.int .i64 n38), (.int .i64 n39)]) ∧
 withAddr (.pointer p0) fun a40 =>
 (StRow w27 (Addr.add a40 1) #[(.int .u64 n37), (.int .i64 n38), (.int .i64 n39)]) ∧
 bindW (stRow w27 (Addr.add a40 1) #[(.int .u64 n37), (.int .i64 n38), (.int .i64 n39)]) fun w41 =>
 ∃ (n42 : Int) (n43 : Int) (n44 : Int), (ldCells w41 ⟨w.heap.size, 0, none⟩ 3 #[(.int .u64 n42), (.int .i64 n43), (.int .i64 n44)]) ∧
 (StRow w41 ⟨w0.heap.size, 0, none⟩ #[(.int .u64 n42), (.int .i64 n43), (.int .i64 n44)]) ∧
 bindW (stRow w41 ⟨w0.heap.size, 0, none⟩ #[(.int .u64 n42), (.int .i64 n43), (.int .i64 n44)]) fun w45 =>
 ∃ (n46 : Int) (n47 : Int) (n48 : Int), (ldCells w45 ⟨w0.heap.size, 0, none⟩ 3 #[(.int .u64 n46), (.int .i64 n47), (.int .i64 n48)]) ∧
 R (.tuple #[(.agg #[(.int .u64 n46), (.int .i64 n47), (.int .i64 n48)]), (.bool true), (.int .i64 (0 : Int))]) w45))

theorem witness_Witness_Cas_m_wp (p0 : Option Addr) (p1 : Int) (p2_0 : Int) (p2_1 : Int) (p2_2 : Int) (w : World) (R : KV) (h : witness_Witness_Cas_m_F p0 p1 p2_0 p2_1 p2_2 w R) : Go.CW.Spec Tryz.prog 40 #[(.pointer p0), (.int .u64 p1), (.agg #[(.int .u64 p2_0), (.int .i64 p2_1), (.int .i64 p2_2)])] w R :=
  spec_of Tryz.func40 (by kernel_rfl) (show witness_Witness_Cas_m_F p0 p1 p2_0 p2_1 p2_2 w R = _ by kernel_rfl) h

/-- (*gemel/witness.Witness).Get -/
def witness_Witness_Get_m_F (p0 : Option Addr) (w : World) (R : KV) : Prop :=
 bindW (World.alloc w (.cells #[(.int .u64 (0 : Int)), (.int .i64 (0 : Int)), (.int .i64 (0 : Int))] 91)) fun w0 =>
 withAddr (.pointer p0) fun a1 =>
 ∃ (n2 : Int) (n3 : Int) (n4 : Int), (ldCells w0 (Addr.add a1 1) 3 #[(.int .u64 n2), (.int .i64 n3), (.int .i64 n4)]) ∧
 (StRow w0 ⟨w.heap.size, 0, none⟩ #[(.int .u64 n2), (.int .i64 n3), (.int .i64 n4)]) ∧
 bindW (stRow w0 ⟨w.heap.size, 0, none⟩ #[(.int .u64 n2), (.int .i64 n3), (.int .i64 n4)]) fun w5 =>
 ∃ (n6 : Int) (n7 : Int) (n8 : Int), (ldCells w5 ⟨w.heap.size, 0, none⟩ 3 #[(.int .u64 n6), (.int .i64 n7), (.int .i64 n8)]) ∧
 R (.agg #[(.int .u64 n6), (.int .i64 n7), (.int .i64 n8)]) w5

theorem witness_Witness_Get_m_wp (p0 : Option Addr) (w : World) (R : KV) (h : witness_Witness_Get_m_F p0 w R) : Go.CW.Spec Tryz.prog 42 #[(.pointer p0)] w R :=
  spec_of Tryz.func42 (by kernel_rfl) (show witness_Witness_Get_m_F p0 w R = _ by kernel_rfl) h

/-- gemel/witness.Right -/
def witness_Right_F (p0_0 : Int) (p0_1 : Int) (p0_2 : Int) (w : World) (R : KV) : Prop :=
 bindW (World.alloc w (.cells #[(.int .u64 p0_0), (.int .i64 p0_1), (.int .i64 p0_2)] 91)) fun w0 =>
 ∃ (n1 : Int), ((Go.World.cell? w0 (Addr.add ⟨w.heap.size, 0, none⟩ 1)) = (some (.int .i64 n1))) ∧
 cond (n1 == (0 : Int))
 (JoinP [.bool]
 (fun (b2 : Bool) => fun (w3 : World) =>
 R (.bool b2) w3)
 (fun j4 =>
 ∃ (n5 : Int), ((Go.World.cell? w0 (Addr.add ⟨w.heap.size, 0, none⟩ 2)) = (some (.int .i64 n5))) ∧
 cond (n5 == (1 : Int))
 (j4 true w0)
 (∃ (n6 : Int), ((Go.World.cell? w0 (Addr.add ⟨w.heap.size, 0, none⟩ 2)) = (some (.int .i64 n6))) ∧
 j4 (n6 == (3 : Int)) w0)))
 (cond (n1 == (1 : Int))
 (JoinP [.bool]
 (fun (b7 : Bool) => fun (w8 : World) =>
 R (.bool b7) w8)
 (fun j9 =>
 ∃ (n10 : Int), ((Go.World.cell? w0 (Addr.add ⟨w.heap.size, 0, none⟩ 2)) = (some (.int .i64 n10))) ∧
 cond (n10 == (2 : Int))
 (j9 true w0)
 (∃ (n11 : Int), ((Go.World.cell? w0 (Addr.add ⟨w.heap.size, 0, none⟩ 2)) = (some (.int .i64 n11))) ∧
 j9 (n11 == (3 : Int)) w0)))
 (R (.bool false) w0))

theorem witness_Right_wp (p0_0 : Int) (p0_1 : Int) (p0_2 : Int) (w : World) (R : KV) (h : witness_Right_F p0_0 p0_1 p0_2 w R) : Go.CW.Spec Tryz.prog 102 #[(.agg #[(.int .u64 p0_0), (.int .i64 p0_1), (.int .i64 p0_2)])] w R :=
  spec_of Tryz.func102 (by kernel_rfl) (show witness_Right_F p0_0 p0_1 p0_2 w R = _ by kernel_rfl) h

/-- gemel/witness.Encode -/
def witness_Encode_F (p0_0 : Int) (p0_1 : Int) (p0_2 : Int) (w : World) (R : KV) : Prop :=
 bindW (World.alloc w (.cells #[(.int .u64 p0_0), (.int .i64 p0_1), (.int .i64 p0_2)] 91)) fun w0 =>
 bindW (World.drew w0) fun w1 =>
 ∃ (n2 : Int), ((Go.World.cell? w1 (Addr.add ⟨w.heap.size, 0, none⟩ 0)) = (some (.int .u64 n2))) ∧
 ∃ (n3 : Int), ((Go.World.cell? w1 (Addr.add ⟨w.heap.size, 0, none⟩ 1)) = (some (.int .i64 n3))) ∧
 ∃ (n4 : Int), ((Go.World.cell? w1 (Addr.add ⟨w.heap.size, 0, none⟩ 2)) = (some (.int .i64 n4))) ∧
 bindW (World.drew w0) fun w5 =>
 Go.CW.Spec Tryz.prog 120 #[(.slice none 0 0), (.int .u64 n2), (.int .i64 (8 : Int))] w5 fun v6 w7 =>
 (∃ (n8 : Int), ((Go.World.cell? w7 (Addr.add ⟨w.heap.size, 0, none⟩ 1)) = (some (.int .i64 n8))) ∧
 ((.int .i64 n8) : Value) = (.int .i64 n3)) ∧
 (∃ (n9 : Int), ((Go.World.cell? w7 (Addr.add ⟨w.heap.size, 0, none⟩ 2)) = (some (.int .i64 n9))) ∧
 ((.int .i64 n9) : Value) = (.int .i64 n4)) ∧
 Go.CW.Spec Tryz.prog 120 #[v6, (.int .u64 (IntKind.wrap .u64 n3)), (.int .i64 (1 : Int))] w7 fun v10 w11 =>
 (∃ (n12 : Int), ((Go.World.cell? w11 (Addr.add ⟨w.heap.size, 0, none⟩ 2)) = (some (.int .i64 n12))) ∧
 ((.int .i64 n12) : Value) = (.int .i64 n4)) ∧
 Go.CW.Spec Tryz.prog 120 #[v10, (.int .u64 (IntKind.wrap .u64 n4)), (.int .i64 (1 : Int))] w11 fun v13 w14 =>
 R v13 w14

theorem witness_Encode_wp (p0_0 : Int) (p0_1 : Int) (p0_2 : Int) (w : World) (R : KV) (h : witness_Encode_F p0_0 p0_1 p0_2 w R) : Go.CW.Spec Tryz.prog 104 #[(.agg #[(.int .u64 p0_0), (.int .i64 p0_1), (.int .i64 p0_2)])] w R :=
  spec_of Tryz.func104 (by kernel_rfl) (show witness_Encode_F p0_0 p0_1 p0_2 w R = _ by kernel_rfl) h

/-- gemel/witness.Decode -/
def witness_Decode_F (p0 : Value) (w : World) (R : KV) : Prop :=
 bindW (World.alloc w (.cells #[(.int .u64 (0 : Int)), (.int .i64 (0 : Int)), (.int .i64 (0 : Int))] 91)) fun w0 =>
 Go.CW.Spec Tryz.prog 148 #[p0, (.int .i64 (0 : Int)), (.int .i64 (8 : Int))] w0 fun v1 w2 =>
 ∃ (n3 : Int) (b4 : Bool), ((v1 : Value) = (.tuple #[(.int .u64 n3), (.bool b4)])) ∧
 Go.CW.Spec Tryz.prog 148 #[p0, (.int .i64 (8 : Int)), (.int .i64 (1 : Int))] w2 fun v5 w6 =>
 ∃ (n7 : Int) (b8 : Bool), ((v5 : Value) = (.tuple #[(.int .u64 n7), (.bool b8)])) ∧
 Go.CW.Spec Tryz.prog 148 #[p0, (.int .i64 (9 : Int)), (.int .i64 (1 : Int))] w6 fun v9 w10 =>
 ∃ (n11 : Int) (b12 : Bool), ((v9 : Value) = (.tuple #[(.int .u64 n11), (.bool b12)])) ∧
 bindW (World.alloc w10 (.cells #[(.int .u64 (0 : Int)), (.int .i64 (0 : Int)), (.int .i64 (0 : Int))] 91)) fun w13 =>
 (StRow w13 ⟨w10.heap.size, 0, none⟩ #[(.int .u64 n3), (.int .i64 (IntKind.wrap .i64 n7)), (.int .i64 (IntKind.wrap .i64 n11))]) ∧
 bindW (stRow w13 ⟨w10.heap.size, 0, none⟩ #[(.int .u64 n3), (.int .i64 (IntKind.wrap .i64 n7)), (.int .i64 (IntKind.wrap .i64 n11))]) fun w14 =>
 JoinP [.bool]
 (fun (b15 : Bool) => fun (w16 : World) =>
 cond b15
 ((StRow w16 ⟨w.heap.size, 0, none⟩ #[(.int .u64 (0 : Int)), (.int .i64 (0 : Int)), (.int .i64 (0 : Int))]) ∧
 bindW (stRow w16 ⟨w.heap.size, 0, none⟩ #[(.int .u64 (0 : Int)), (.int .i64 (0 : Int)), (.int .i64 (0 : Int))]) fun w17 =>
 ∃ (n18 : Int) (n19 : Int) (n20 : Int), (ldCells w17 ⟨w.heap.size, 0, none⟩ 3 #[(.int .u64 n18), (.int .i64 n19), (.int .i64 n20)]) ∧
 R (.tuple #[(.agg #[(.int .u64 n18), (.int .i64 n19), (.int .i64 n20)]), (.int .i64 (2 : Int))]) w17)
 (∃ (n21 : Int) (n22 : Int) (n23 : Int), (ldCells w16 ⟨w10.heap.size, 0, none⟩ 3 #[(.int .u64 n21), (.int .i64 n22), (.int .i64 n23)]) ∧
 (StRow w16 ⟨w.heap.size, 0, none⟩ #[(.int .u64 n21), (.int .i64 n22), (.int .i64 n23)]) ∧
 bindW (stRow w16 ⟨w.heap.size, 0, none⟩ #[(.int .u64 n21), (.int .i64 n22), (.int .i64 n23)]) fun w24 =>
 ∃ (n25 : Int) (n26 : Int) (n27 : Int), (ldCells w24 ⟨w.heap.size, 0, none⟩ 3 #[(.int .u64 n25), (.int .i64 n26), (.int .i64 n27)]) ∧
 R (.tuple #[(.agg #[(.int .u64 n25), (.int .i64 n26), (.int .i64 n27)]), (.int .i64 (0 : Int))]) w24))
 (fun j28 =>
 ∃ (m29 : Nat), ((Go.CW.sliceLen p0) = (some m29)) ∧
 cond (((m29 : Nat) : Int) != (10 : Int))
 (j28 true w14)
 (∃ (n30 : Int) (n31 : Int) (n32 : Int), (ldCells w14 ⟨w10.heap.size, 0, none⟩ 3 #[(.int .u64 n30), (.int .i64 n31), (.int .i64 n32)]) ∧
 Go.CW.Spec Tryz.prog 102 #[(.agg #[(.int .u64 n30), (.int .i64 n31), (.int .i64 n32)])] w14 fun v33 w34 =>
 ∃ (b35 : Bool), ((v33 : Value) = (.bool b35)) ∧
 j28 (!b35) w34))

theorem witness_Decode_wp (p0 : Value) (w : World) (R : KV) (h : witness_Decode_F p0 w R) : Go.CW.Spec Tryz.prog 106 #[p0] w R :=
  spec_of Tryz.func106 (by kernel_rfl) (show witness_Decode_F p0 w R = _ by kernel_rfl) h

/-- (*gemel/witness.Witness).may -/
def witness_Witness_may_m_F (p0 : Option Addr) (p1 : Int) (p2_0 : Int) (p2_1 : Int) (p2_2 : Int) (w : World) (R : KV) : Prop :=
 bindW (World.alloc w (.cells #[(.int .u64 p2_0), (.int .i64 p2_1), (.int .i64 p2_2)] 91)) fun w0 =>
 JoinP []
 (fun (w1 : World) =>
 R (.bool true) w1)
 (fun j2 =>
 JoinP []
 (fun (w3 : World) =>
 R (.bool false) w3)
 (fun j4 =>
 JoinP []
 (fun (w5 : World) =>
 j4 w5)
 (fun j6 =>
 withAddr (.pointer p0) fun a7 =>
 ∃ (n8 : Int), ((Go.World.cell? w0 (Addr.add (Addr.add a7 1) 0)) = (some (.int .u64 n8))) ∧
 cond (n8 != p1)
 (j6 w0)
 (∃ (n9 : Int) (n10 : Int) (n11 : Int), (ldCells w0 ⟨w.heap.size, 0, none⟩ 3 #[(.int .u64 n9), (.int .i64 n10), (.int .i64 n11)]) ∧
 Go.CW.Spec Tryz.prog 102 #[(.agg #[(.int .u64 n9), (.int .i64 n10), (.int .i64 n11)])] w0 fun v12 w13 =>
 ∃ (b14 : Bool), ((v12 : Value) = (.bool b14)) ∧
 cond (!b14)
 (j6 w13)
 (JoinP [.bool]
 (fun (b15 : Bool) => fun (w16 : World) =>
 cond b15
 (j4 w16)
 (j2 w16))
 (fun j17 =>
 cond ((IntKind.wrap .u64 (p1 + (1 : Int))) == (0 : Int))
 (j17 true w13)
 (∃ (n18 : Int), ((Go.World.cell? w13 (Addr.add ⟨w.heap.size, 0, none⟩ 0)) = (some (.int .u64 n18))) ∧
 j17 (n18 != (IntKind.wrap .u64 (p1 + (1 : Int)))) w13)))))))

theorem witness_Witness_may_m_wp (p0 : Option Addr) (p1 : Int) (p2_0 : Int) (p2_1 : Int) (p2_2 : Int) (w : World) (R : KV) (h : witness_Witness_may_m_F p0 p1 p2_0 p2_1 p2_2 w R) : Go.CW.Spec Tryz.prog 109 #[(.pointer p0), (.int .u64 p1), (.agg #[(.int .u64 p2_0), (.int .i64 p2_1), (.int .i64 p2_2)])] w R :=
  spec_of Tryz.func109 (by kernel_rfl) (show witness_Witness_may_m_F p0 p1 p2_0 p2_1 p2_2 w R = _ by kernel_rfl) h

/-- gemel/gemeltop.TopRegister -/
def gemeltop_TopRegister_F (p0 : Value) (p1 : Int) (p2 : Value) (w : World) (R : KV) : Prop :=
 Go.CW.Spec Tryz.prog 9 #[] w fun v0 w1 =>
 ∃ (b2 : Bool), ((v0 : Value) = (.bool b2)) ∧
 cond (!b2)
 (R (.bool false) w1)
 (JoinP [.bool]
 (fun (b3 : Bool) => fun (w4 : World) =>
 cond b3
 (R (.bool true) w4)
 (Go.CW.Spec Tryz.prog 36 #[(.int .i64 (2 : Int))] w4 fun v5 w6 =>
 ∃ (o7 : Option Addr) (n8 : Int), ((v5 : Value) = (.tuple #[(.pointer o7), (.int .i64 n8)])) ∧
 Go.CW.Spec Tryz.prog 37 #[(.pointer o7), (.agg #[(.int .u64 (1 : Int)), (.int .i64 (0 : Int)), (.int .i64 (3 : Int))])] w6 fun v9 w10 =>
 ∃ (n11 : Int), ((v9 : Value) = (.int .i64 n11)) ∧
 Go.CW.Spec Tryz.prog 38 #[(.pointer o7)] w10 fun v12 w13 =>
 ∃ (o14 : Option Addr) (n15 : Int), ((v12 : Value) = (.tuple #[(.pointer o14), (.int .i64 n15)])) ∧
 Go.CW.Spec Tryz.prog 39 #[(.pointer o7), (.int .i64 p1), p2] w13 fun v16 w17 =>
 ((v16 : Value) = (.tuple #[])) ∧
 bindW (World.alloc w17 (.cells #[(.int .i64 (0 : Int)), (.int .i64 (0 : Int)), (.int .i64 (0 : Int)), (.int .i64 (0 : Int)), (.int .i64 (0 : Int)), (.int .i64 (0 : Int)), (.int .i64 (0 : Int)), (.int .i64 (0 : Int)), (.int .i64 (0 : Int)), (.int .i64 (0 : Int)), (.int .i64 (0 : Int)), (.int .i64 (0 : Int)), (.int .i64 (0 : Int)), (.int .i64 (0 : Int)), (.int .i64 (0 : Int)), (.int .i64 (0 : Int)), (.int .i64 (0 : Int)), (.int .i64 (0 : Int)), (.int .i64 (0 : Int)), (.int .i64 (0 : Int)), (.int .i64 (0 : Int)), (.int .i64 (0 : Int)), (.int .i64 (0 : Int)), (.int .i64 (0 : Int)), (.int .i64 (0 : Int)), (.int .i64 (0 : Int)), (.int .i64 (0 : Int)), (.int .i64 (0 : Int)), (.int .i64 (0 : Int)), (.int .i64 (0 : Int)), (.int .i64 (0 : Int)), (.int .i64 (0 : Int)), (.int .i64 (0 : Int)), (.int .i64 (0 : Int)), (.int .i64 (0 : Int)), (.int .i64 (0 : Int)), (.int .i64 (0 : Int)), (.int .i64 (0 : Int)), (.int .i64 (0 : Int)), (.int .i64 (0 : Int)), (.int .i64 (0 : Int)), (.int .i64 (0 : Int)), (.int .i64 (0 : Int)), (.int .i64 (0 : Int)), (.int .i64 (0 : Int)), (.int .i64 (0 : Int)), (.int .i64 (0 : Int)), (.int .i64 (0 : Int)), (.int .i64 (0 : Int)), (.int .i64 (0 : Int)), (.int .i64 (0 : Int)), (.int .i64 (0 : Int)), (.int .i64 (0 : Int)), (.int .i64 (0 : Int)), (.int .i64 (0 : Int)), (.int .i64 (0 : Int)), (.int .i64 (0 : Int)), (.int .i64 (0 : Int)), (.int .i64 (0 : Int)), (.int .i64 (0 : Int)), (.int .i64 (0 : Int)), (.int .i64 (0 : Int)), (.int .i64 (0 : Int)), (.int .i64 (0 : Int))] 96)) fun w18 =>
 LoopP [.ptr, .int .u64, .int .i64]
 (fun j19 => fun (o20 : Option Addr) => fun (n21 : Int) => fun (n22 : Int) => fun (w23 : World) =>
 ∃ (m24 : Nat), ((Go.CW.sliceLen p0) = (some m24)) ∧
 cond (decide (n22 < ((m24 : Nat) : Int)))
 (∃ (a25 : Addr), ((Go.CW.sliceAt p0 n22 1) = (some a25)) ∧
 ∃ (n26 : Int), ((Go.World.cell? w23 a25) = (some (.int .u8 n26))) ∧
 leK (IntKind.wrap .u64 (IntKind.wrap .i64 (bitsI .and .u8 n26 (1 : Int)))) (Go.CW.Spec Tryz.prog 40 #[(.pointer o20), (.int .u64 n21), (.agg #[(.int .u64 (IntKind.wrap .u64 (n21 + (1 : Int)))), (.int .i64 (IntKind.wrap .i64 (bitsI .and .u8 n26 (1 : Int)))), (.int .i64 (IntKind.wrap .i64 ((1 : Int) * ((2 : Int) ^ (min (Int.toNat (IntKind.wrap .u64 (IntKind.wrap .i64 (bitsI .and .u8 n26 (1 : Int))))) 64)))))])] w23 fun v27 w28 =>
 ∃ (n29 : Int) (n30 : Int) (n31 : Int) (b32 : Bool) (n33 : Int), ((v27 : Value) = (.tuple #[(.agg #[(.int .u64 n29), (.int .i64 n30), (.int .i64 n31)]), (.bool b32), (.int .i64 n33)])) ∧
 bindW (World.alloc w28 (.cells #[(.int .u64 (0 : Int)), (.int .i64 (0 : Int)), (.int .i64 (0 : Int))] 91)) fun w34 =>
 (StRow w34 ⟨w28.heap.size, 0, none⟩ #[(.int .u64 n29), (.int .i64 n30), (.int .i64 n31)]) ∧
 bindW (stRow w34 ⟨w28.heap.size, 0, none⟩ #[(.int .u64 n29), (.int .i64 n30), (.int .i64 n31)]) fun w35 =>
 JoinP [.ptr]
 (fun (o36 : Option Addr) => fun (w37 : World) =>
 JoinP [.bool]
 (fun (b38 : Bool) => fun (w39 : World) =>
 cond b38
 (R (.bool false) w39)
 (JoinP []
 (fun (w40 : World) =>
 ∃ (n41 : Int), ((Go.World.cell? w40 (Addr.add ⟨w28.heap.size, 0, none⟩ 0)) = (some (.int .u64 n41))) ∧
 j19 o36 n41 (IntKind.wrap .i64 (n22 + (1 : Int))) w40)
 (fun j42 =>
 ∃ (n43 : Int), ((Go.World.cell? w39 (Addr.add ⟨w28.heap.size, 0, none⟩ 0)) = (some (.int .u64 n43))) ∧
 cond (n43 == (IntKind.wrap .u64 (n21 + (1 : Int))))
 (JoinP [.bool]
 (fun (b44 : Bool) => fun (w45 : World) =>
 cond b44
 (R (.bool false) w45)
 (∃ (n46 : Int), ((Go.World.cell? w45 (Addr.add ⟨w28.heap.size, 0, none⟩ 0)) = (some (.int .u64 n46))) ∧
 ∃ (n47 : Int), ((Go.World.cell? w45 (Addr.add ⟨w28.heap.size, 0, none⟩ 1)) = (some (.int .i64 n47))) ∧
 (inR n46 64) ∧
 (St1 w45 (Addr.add ⟨w17.heap.size, 0, none⟩ ((Int.toNat n46) * 1))) ∧
 bindW (World.setCell w45 (Addr.add ⟨w17.heap.size, 0, none⟩ ((Int.toNat n46) * 1)) (.int .i64 (IntKind.wrap .i64 (n47 + (1 : Int))))) fun w48 =>
 j42 w48))
 (fun j49 =>
 bindW (World.drew w39) fun w50 =>
 ∃ (n51 : Int), ((Go.World.cell? w50 (Addr.add ⟨w28.heap.size, 0, none⟩ 0)) = (some (.int .u64 n51))) ∧
 (inR n51 64) ∧
 ∃ (n52 : Int), ((Go.World.cell? w50 (Addr.add ⟨w17.heap.size, 0, none⟩ ((Int.toNat n51) * 1))) = (some (.int .i64 n52))) ∧
 cond (n52 != (0 : Int))
 (∃ (n53 : Int), ((Go.World.cell? w50 (Addr.add ⟨w28.heap.size, 0, none⟩ 0)) = (some (.int .u64 n53))) ∧
 (inR n53 64) ∧
 ∃ (n54 : Int), ((Go.World.cell? w50 (Addr.add ⟨w17.heap.size, 0, none⟩ ((Int.toNat n53) * 1))) = (some (.int .i64 n54))) ∧
 ∃ (n55 : Int), ((Go.World.cell? w50 (Addr.add ⟨w28.heap.size, 0, none⟩ 1)) = (some (.int .i64 n55))) ∧
 bindW (World.drew w39) fun w56 =>
 j49 (n54 != (IntKind.wrap .i64 (n55 + (1 : Int)))) w56)
 (bindW (World.drew w39) fun w57 =>
 j49 false w57)))
 (j42 w39))))
 (fun j58 =>
 ∃ (n59 : Int), ((Go.World.cell? w37 (Addr.add ⟨w28.heap.size, 0, none⟩ 0)) = (some (.int .u64 n59))) ∧
 cond (decide (n59 < n21))
 (j58 true w37)
 (∃ (n60 : Int), ((Go.World.cell? w37 (Addr.add ⟨w28.heap.size, 0, none⟩ 0)) = (some (.int .u64 n60))) ∧
 j58 (decide (n60 > (IntKind.wrap .u64 (n21 + (1 : Int))))) w37)))
 (fun j61 =>
 cond (n33 != (0 : Int))
 (Go.CW.Spec Tryz.prog 41 #[(.pointer o7)] w35 fun v62 w63 =>
 ((v62 : Value) = (.tuple #[])) ∧
 Go.CW.Spec Tryz.prog 38 #[(.pointer o7)] w63 fun v64 w65 =>
 ∃ (o66 : Option Addr) (n67 : Int), ((v64 : Value) = (.tuple #[(.pointer o66), (.int .i64 n67)])) ∧
 JoinP [.bool]
 (fun (b68 : Bool) => fun (w69 : World) =>
 cond b68
 (R (.bool false) w69)
 (Go.CW.Spec Tryz.prog 42 #[(.pointer o66)] w69 fun v70 w71 =>
 ∃ (n72 : Int) (n73 : Int) (n74 : Int), ((v70 : Value) = (.agg #[(.int .u64 n72), (.int .i64 n73), (.int .i64 n74)])) ∧
 (StRow w71 ⟨w28.heap.size, 0, none⟩ #[(.int .u64 n72), (.int .i64 n73), (.int .i64 n74)]) ∧
 bindW (stRow w71 ⟨w28.heap.size, 0, none⟩ #[(.int .u64 n72), (.int .i64 n73), (.int .i64 n74)]) fun w75 =>
 j61 o66 w75))
 (fun j76 =>
 cond (n67 != (0 : Int))
 (j76 true w65)
 (∃ (b77 : Bool), ((Go.CW.isNilP (.pointer o66)) = (some b77)) ∧
 j76 b77 w65)))
 (cond (!b32)
 (R (.bool false) w35)
 (j61 o20 w35)))))
 (Go.CW.Spec Tryz.prog 42 #[(.pointer o20)] w23 fun v78 w79 =>
 ∃ (n80 : Int) (n81 : Int) (n82 : Int), ((v78 : Value) = (.agg #[(.int .u64 n80), (.int .i64 n81), (.int .i64 n82)])) ∧
 R (.bool (n80 == n21)) w79))
 (fun s83 => s83 o14 (1 : Int) (0 : Int) w18)))
 (fun j84 =>
 ∃ (m85 : Nat), ((Go.CW.sliceLen p0) = (some m85)) ∧
 cond (decide (((m85 : Nat) : Int) > (20 : Int)))
 (j84 true w1)
 (cond (decide (p1 < (1 : Int)))
 (j84 true w1)
 (cond (decide (p1 > (50 : Int)))
 (j84 true w1)
 (∃ (m86 : Nat), ((Go.CW.sliceLen p2) = (some m86)) ∧
 j84 (decide (((m86 : Nat) : Int) > (20 : Int))) w1)))))

theorem gemeltop_TopRegister_wp (p0 : Value) (p1 : Int) (p2 : Value) (w : World) (R : KV) (h : gemeltop_TopRegister_F p0 p1 p2 w R) : Go.CW.Spec Tryz.prog 6 #[p0, (.int .i64 p1), p2] w R :=
  spec_of Tryz.func6 (by kernel_rfl) (show gemeltop_TopRegister_F p0 p1 p2 w R = _ by kernel_rfl) h

/-- gemel/bin.Pad -/
def bin_Pad_F (p0 : Value) (p1 : Int) (w : World) (R : KV) : Prop :=
 Go.CW.Spec Tryz.prog 85 #[p0] w fun v0 w1 =>
 JoinP [.bool]
 (fun (b2 : Bool) => fun (w3 : World) =>
 cond b2
 (R v0 w3)
 (LoopP [.val]
 (fun j4 => fun (v5 : Value) => fun (w6 : World) =>
 ∃ (m7 : Nat), ((Go.CW.sliceLen v5) = (some m7)) ∧
 nzK p1 (cond ((Int.tmod ((m7 : Nat) : Int) p1) != (0 : Int))
 (bindW (World.alloc w6 (.cells #[(.int .u8 (0 : Int))] 5)) fun w8 =>
 ∃ (v9 : Value) (w10 : World), ((Sem.run @Go.Proofs.Tryz.prog (Go.Builtin.append_ #[34, 34] 34 #[v5, (.slice (some ⟨w6.heap.size, 0, none⟩) 1 1)]) w8) = (.ok v9 w10)) ∧
 j4 v9 w10)
 (Go.CW.Spec Tryz.prog 96 #[v5] w6 fun v11 w12 =>
 R v11 w12)))
 (fun s13 => s13 v0 w3)))
 (fun j14 =>
 cond (decide (p1 < (1 : Int)))
 (j14 true w1)
 (j14 (decide (p1 > (4096 : Int))) w1))

theorem bin_Pad_wp (p0 : Value) (p1 : Int) (w : World) (R : KV) (h : bin_Pad_F p0 p1 w R) : Go.CW.Spec Tryz.prog 252 #[p0, (.int .i64 p1)] w R :=
  spec_of Tryz.func252 (by kernel_rfl) (show bin_Pad_F p0 p1 w R = _ by kernel_rfl) h

end Go.Proofs.YtghineciiljeoaaGreatDoor
