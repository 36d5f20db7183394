/- The formulas of some functions, printed by a program (wip/cw/CwGen). -/
import Derived.Test.YtmbdbplobnkleaaNam
set_option linter.unusedVariables false
set_option maxRecDepth 100000
namespace Go.Proofs.Ytmbdbplobnkleaa
open Go Go.CW

/-- gemel/gemellaw25.PathApart -/
def gemellaw25_PathApart_F (p0 : Value) (p1 : Value) (w : World) (R : KV) : Prop :=
 Go.CW.Spec Try.prog 4 #[] w fun v0 w1 =>
 ∃ (b2 : Bool), ((v0 : Value) = (.bool b2)) ∧
 cond (!b2)
 (R (.bool false) w1)
 (JoinP [.bool]
 (fun (b3 : Bool) => fun (w4 : World) =>
 cond b3
 (R (.bool true) w4)
 (Go.CW.Spec Try.prog 5 #[(.int .i64 (0 : Int))] w4 fun v5 w6 =>
 ∃ (o7 : Option Addr) (n8 : Int), ((v5 : Value) = (.tuple #[(.pointer o7), (.int .i64 n8)])) ∧
 Go.CW.Spec Try.prog 5 #[(.int .i64 (1 : Int))] w6 fun v9 w10 =>
 ∃ (o11 : Option Addr) (n12 : Int), ((v9 : Value) = (.tuple #[(.pointer o11), (.int .i64 n12)])) ∧
 LoopP [.int .i64]
 (fun j13 => fun (n14 : Int) => fun (w15 : World) =>
 ∃ (m16 : Nat), ((Go.CW.sliceLen p0) = (some m16)) ∧
 cond (decide (n14 < ((m16 : Nat) : Int)))
 (JoinP [.bool]
 (fun (b17 : Bool) => fun (w18 : World) =>
 cond b17
 (R (.bool true) w18)
 (∃ (a19 : Addr), ((Go.CW.sliceAt p0 n14 8) = (some a19)) ∧
 ∃ (n20 : Int) (n21 : Int) (n22 : Int) (v23 : Value) (n24 : Int) (n25 : Int) (n26 : Int) (b27 : Bool), (ldCells w18 a19 8 #[(.int .i64 n20), (.int .i64 n21), (.int .i64 n22), v23, (.int .u64 n24), (.int .u64 n25), (.int .i64 n26), (.bool b27)]) ∧
 Go.CW.Spec Try.prog 6 #[(.pointer o7), (.agg #[(.int .i64 n20), (.int .i64 n21), (.int .i64 n22), v23, (.int .u64 n24), (.int .u64 n25), (.int .i64 n26), (.bool b27)])] w18 fun v28 w29 =>
 ∃ (n30 : Int) (n31 : Int), ((v28 : Value) = (.tuple #[(.int .u64 n30), (.int .i64 n31)])) ∧
 JoinP [.bool]
 (fun (b32 : Bool) => fun (w33 : World) =>
 cond b32
 (R (.bool false) w33)
 (j13 (IntKind.wrap .i64 (n14 + (1 : Int))) w33))
 (fun j34 =>
 cond (n31 != (0 : Int))
 (j34 true w29)
 (j34 (n30 != (IntKind.wrap .u64 (IntKind.wrap .i64 (n14 + (1 : Int))))) w29))))
 (fun j35 =>
 ∃ (a36 : Addr), ((Go.CW.sliceAt p0 n14 8) = (some a36)) ∧
 ∃ (v37 : Value), ((Go.World.cell? w15 (Addr.add a36 3)) = (some v37)) ∧
 ∃ (m38 : Nat), ((Go.CW.sliceLen v37) = (some m38)) ∧
 cond (decide (((m38 : Nat) : Int) > (1024 : Int)))
 (j35 true w15)
 (∃ (a39 : Addr), ((Go.CW.sliceAt p0 n14 8) = (some a39)) ∧
 ∃ (n40 : Int), ((Go.World.cell? w15 (Addr.add a39 0)) = (some (.int .i64 n40))) ∧
 cond (decide (n40 < (1 : Int)))
 (j35 true w15)
 (∃ (a41 : Addr), ((Go.CW.sliceAt p0 n14 8) = (some a41)) ∧
 ∃ (n42 : Int), ((Go.World.cell? w15 (Addr.add a41 0)) = (some (.int .i64 n42))) ∧
 j35 (decide (n42 > (18 : Int))) w15))))
 (LoopP [.int .i64]
 (fun j43 => fun (n44 : Int) => fun (w45 : World) =>
 ∃ (m46 : Nat), ((Go.CW.sliceLen p1) = (some m46)) ∧
 cond (decide (n44 < ((m46 : Nat) : Int)))
 (JoinP [.bool]
 (fun (b47 : Bool) => fun (w48 : World) =>
 cond b47
 (R (.bool true) w48)
 (∃ (a49 : Addr), ((Go.CW.sliceAt p1 n44 8) = (some a49)) ∧
 ∃ (n50 : Int) (n51 : Int) (n52 : Int) (v53 : Value) (n54 : Int) (n55 : Int) (n56 : Int) (b57 : Bool), (ldCells w48 a49 8 #[(.int .i64 n50), (.int .i64 n51), (.int .i64 n52), v53, (.int .u64 n54), (.int .u64 n55), (.int .i64 n56), (.bool b57)]) ∧
 Go.CW.Spec Try.prog 6 #[(.pointer o11), (.agg #[(.int .i64 n50), (.int .i64 n51), (.int .i64 n52), v53, (.int .u64 n54), (.int .u64 n55), (.int .i64 n56), (.bool b57)])] w48 fun v58 w59 =>
 ∃ (n60 : Int) (n61 : Int), ((v58 : Value) = (.tuple #[(.int .u64 n60), (.int .i64 n61)])) ∧
 JoinP [.bool]
 (fun (b62 : Bool) => fun (w63 : World) =>
 cond b62
 (R (.bool false) w63)
 (j43 (IntKind.wrap .i64 (n44 + (1 : Int))) w63))
 (fun j64 =>
 cond (n61 != (0 : Int))
 (j64 true w59)
 (j64 (n60 != (IntKind.wrap .u64 (IntKind.wrap .i64 (n44 + (1 : Int))))) w59))))
 (fun j65 =>
 ∃ (a66 : Addr), ((Go.CW.sliceAt p1 n44 8) = (some a66)) ∧
 ∃ (v67 : Value), ((Go.World.cell? w45 (Addr.add a66 3)) = (some v67)) ∧
 ∃ (m68 : Nat), ((Go.CW.sliceLen v67) = (some m68)) ∧
 cond (decide (((m68 : Nat) : Int) > (1024 : Int)))
 (j65 true w45)
 (∃ (a69 : Addr), ((Go.CW.sliceAt p1 n44 8) = (some a69)) ∧
 ∃ (n70 : Int), ((Go.World.cell? w45 (Addr.add a69 0)) = (some (.int .i64 n70))) ∧
 cond (decide (n70 < (1 : Int)))
 (j65 true w45)
 (∃ (a71 : Addr), ((Go.CW.sliceAt p1 n44 8) = (some a71)) ∧
 ∃ (n72 : Int), ((Go.World.cell? w45 (Addr.add a71 0)) = (some (.int .i64 n72))) ∧
 j65 (decide (n72 > (18 : Int))) w45))))
 (Go.CW.Spec Try.prog 7 #[(.pointer o7)] w45 fun v73 w74 =>
 LoopP [.int .i64]
 (fun j75 => fun (n76 : Int) => fun (w77 : World) =>
 ∃ (m78 : Nat), ((Go.CW.sliceLen v73) = (some m78)) ∧
 cond (decide (n76 < ((m78 : Nat) : Int)))
 (∃ (a79 : Addr), ((Go.CW.sliceAt v73 n76 2) = (some a79)) ∧
 ∃ (v80 : Value), ((Go.World.cell? w77 (Addr.add a79 1)) = (some v80)) ∧
 Go.CW.Spec Try.prog 8 #[v80] w77 fun v81 w82 =>
 ∃ (v83 : Value) (n84 : Int), ((v81 : Value) = (.tuple #[v83, (.int .i64 n84)])) ∧
 cond (n84 != (0 : Int))
 (R (.bool false) w82)
 (bindW (World.drew w82) fun w85 =>
 ∃ (a86 : Addr), ((Go.CW.sliceAt v73 n76 2) = (some a86)) ∧
 ∃ (n87 : Int), ((Go.World.cell? w85 (Addr.add a86 0)) = (some (.int .i64 n87))) ∧
 ∃ (a88 : Addr), ((Go.CW.sliceAt v73 n76 2) = (some a88)) ∧
 ∃ (v89 : Value), ((Go.World.cell? w85 (Addr.add a88 1)) = (some v89)) ∧
 bindW (World.drew w82) fun w90 =>
 Go.CW.Spec Try.prog 9 #[(.pointer o11), (.int .i64 n87), v89] w90 fun v91 w92 =>
 ((v91 : Value) = (.tuple #[])) ∧
 j75 (IntKind.wrap .i64 (n76 + (1 : Int))) w92))
 (JoinP [.bool]
 (fun (b93 : Bool) => fun (w94 : World) =>
 R (.bool b93) w94)
 (fun j95 =>
 Go.CW.Spec Try.prog 10 #[(.pointer o7)] w77 fun v96 w97 =>
 ∃ (m98 : Nat), ((Go.CW.sliceLen v96) = (some m98)) ∧
 ∃ (m99 : Nat), ((Go.CW.sliceLen p0) = (some m99)) ∧
 cond (((m98 : Nat) : Int) == ((m99 : Nat) : Int))
 (Go.CW.Spec Try.prog 10 #[(.pointer o11)] w97 fun v100 w101 =>
 ∃ (m102 : Nat), ((Go.CW.sliceLen v100) = (some m102)) ∧
 ∃ (m103 : Nat), ((Go.CW.sliceLen p1) = (some m103)) ∧
 cond (((m102 : Nat) : Int) == ((m103 : Nat) : Int))
 (Go.CW.Spec Try.prog 11 #[(.pointer o11)] w101 fun v104 w105 =>
 ∃ (m106 : Nat), ((Go.CW.sliceLen v104) = (some m106)) ∧
 cond (((m106 : Nat) : Int) == (0 : Int))
 (∃ (m107 : Nat), ((Go.CW.sliceLen v73) = (some m107)) ∧
 ∃ (m108 : Nat), ((Go.CW.sliceLen p0) = (some m108)) ∧
 j95 (decide (((m107 : Nat) : Int) ≥ ((m108 : Nat) : Int))) w105)
 (j95 false w105))
 (j95 false w101))
 (j95 false w97))))
 (fun s109 => s109 (0 : Int) w74)))
 (fun s110 => s110 (0 : Int) w15)))
 (fun s111 => s111 (0 : Int) w10)))
 (fun j112 =>
 ∃ (m113 : Nat), ((Go.CW.sliceLen p0) = (some m113)) ∧
 cond (decide (((m113 : Nat) : Int) > (4 : Int)))
 (j112 true w1)
 (∃ (m114 : Nat), ((Go.CW.sliceLen p1) = (some m114)) ∧
 j112 (decide (((m114 : Nat) : Int) > (4 : Int))) w1)))

theorem gemellaw25_PathApart_wp (p0 : Value) (p1 : Value) (w : World) (R : KV) (h : gemellaw25_PathApart_F p0 p1 w R) : Go.CW.Spec Try.prog 3 #[p0, p1] w R :=
  spec_of Try.func3 (by kernel_rfl) (show gemellaw25_PathApart_F p0 p1 w R = _ by kernel_rfl) h

/-- gemel/gemellaw25.known -/
def gemellaw25_known_F  (w : World) (R : KV) : Prop :=
 Go.CW.Spec Try.prog 5 #[(.int .i64 (1 : Int))] w fun v0 w1 =>
 ∃ (o2 : Option Addr) (n3 : Int), ((v0 : Value) = (.tuple #[(.pointer o2), (.int .i64 n3)])) ∧
 JoinP [.bool]
 (fun (b4 : Bool) => fun (w5 : World) =>
 cond b4
 (R (.bool false) w5)
 (Go.CW.Spec Try.prog 6 #[(.pointer o2), (.agg #[(.int .i64 (2 : Int)), (.int .i64 (0 : Int)), (.int .i64 (1 : Int)), (.slice none 0 0), (.int .u64 (0 : Int)), (.int .u64 (0 : Int)), (.int .i64 (0 : Int)), (.bool false)])] w5 fun v6 w7 =>
 ∃ (n8 : Int) (n9 : Int), ((v6 : Value) = (.tuple #[(.int .u64 n8), (.int .i64 n9)])) ∧
 Go.CW.Spec Try.prog 7 #[(.pointer o2)] w7 fun v10 w11 =>
 Go.CW.Spec Try.prog 10 #[(.pointer o2)] w11 fun v12 w13 =>
 JoinP [.bool]
 (fun (b14 : Bool) => fun (w15 : World) =>
 R (.bool b14) w15)
 (fun j16 =>
 cond (n9 == (0 : Int))
 (cond (n8 == (1 : Int))
 (∃ (m17 : Nat), ((Go.CW.sliceLen v10) = (some m17)) ∧
 cond (((m17 : Nat) : Int) == (1 : Int))
 (∃ (a18 : Addr), ((Go.CW.sliceAt v10 (0 : Int) 2) = (some a18)) ∧
 ∃ (n19 : Int), ((Go.World.cell? w13 (Addr.add a18 0)) = (some (.int .i64 n19))) ∧
 cond (n19 == (0 : Int))
 (∃ (m20 : Nat), ((Go.CW.sliceLen v12) = (some m20)) ∧
 cond (((m20 : Nat) : Int) == (1 : Int))
 (∃ (a21 : Addr), ((Go.CW.sliceAt v12 (0 : Int) 1) = (some a21)) ∧
 ∃ (n22 : Int), ((Go.World.cell? w13 a21) = (some (.int .u64 n22))) ∧
 cond (n22 == (1 : Int))
 (Go.CW.Spec Try.prog 11 #[(.pointer o2)] w13 fun v23 w24 =>
 ∃ (m25 : Nat), ((Go.CW.sliceLen v23) = (some m25)) ∧
 j16 (((m25 : Nat) : Int) == (0 : Int)) w24)
 (j16 false w13))
 (j16 false w13))
 (∃ (a26 : Addr), ((Go.CW.sliceAt v10 (0 : Int) 2) = (some a26)) ∧
 ∃ (n27 : Int), ((Go.World.cell? w13 (Addr.add a26 0)) = (some (.int .i64 n27))) ∧
 cond (n27 == (1 : Int))
 (∃ (m28 : Nat), ((Go.CW.sliceLen v12) = (some m28)) ∧
 cond (((m28 : Nat) : Int) == (1 : Int))
 (∃ (a29 : Addr), ((Go.CW.sliceAt v12 (0 : Int) 1) = (some a29)) ∧
 ∃ (n30 : Int), ((Go.World.cell? w13 a29) = (some (.int .u64 n30))) ∧
 cond (n30 == (1 : Int))
 (Go.CW.Spec Try.prog 11 #[(.pointer o2)] w13 fun v31 w32 =>
 ∃ (m33 : Nat), ((Go.CW.sliceLen v31) = (some m33)) ∧
 j16 (((m33 : Nat) : Int) == (0 : Int)) w32)
 (j16 false w13))
 (j16 false w13))
 (j16 false w13)))
 (j16 false w13))
 (j16 false w13))
 (j16 false w13))))
 (fun j34 =>
 cond (n3 != (0 : Int))
 (j34 true w1)
 (∃ (b35 : Bool), ((Go.CW.isNilP (.pointer o2)) = (some b35)) ∧
 j34 b35 w1))

theorem gemellaw25_known_wp  (w : World) (R : KV) (h : gemellaw25_known_F  w R) : Go.CW.Spec Try.prog 4 #[] w R :=
  spec_of Try.func4 (by kernel_rfl) (show gemellaw25_known_F  w R = _ by kernel_rfl) h

/-- gemel/mpath.New -/
def mpath_New_F (p0 : Int) (w : World) (R : KV) : Prop :=
 JoinP [.bool]
 (fun (b0 : Bool) => fun (w1 : World) =>
 cond b0
 (R (.tuple #[(.pointer none), (.int .i64 (1 : Int))]) w1)
 (Go.CW.Spec Try.prog 12 #[] w1 fun v2 w3 =>
 ∃ (o4 : Option Addr), ((v2 : Value) = (.pointer o4)) ∧
 bindW (World.alloc w3 (.cells #[(.int .i64 p0), (.int .i64 (0 : Int)), (.int .u64 (1 : Int)), (.slice none 0 0), (.slice none 0 0), (.slice none 0 0), (.pointer o4)] 50)) fun w5 =>
 R (.tuple #[(.pointer (some ⟨w3.heap.size, 0, none⟩)), (.int .i64 (0 : Int))]) w5))
 (fun j6 =>
 cond (decide (p0 < (0 : Int)))
 (j6 true w)
 (j6 (decide (p0 ≥ (8 : Int))) w))

theorem mpath_New_wp (p0 : Int) (w : World) (R : KV) (h : mpath_New_F p0 w R) : Go.CW.Spec Try.prog 5 #[(.int .i64 p0)] w R :=
  spec_of Try.func5 (by kernel_rfl) (show mpath_New_F p0 w R = _ by kernel_rfl) h

/-- (*gemel/mpath.Path).Submit -/
def mpath_Path_Submit_m_F (p0 : Option Addr) (p1_0 : Int) (p1_1 : Int) (p1_2 : Int) (p1_3 : Value) (p1_4 : Int) (p1_5 : Int) (p1_6 : Int) (p1_7 : Bool) (w : World) (R : KV) : Prop :=
 bindW (World.alloc w (.cells #[(.int .i64 p1_0), (.int .i64 p1_1), (.int .i64 p1_2), p1_3, (.int .u64 p1_4), (.int .u64 p1_5), (.int .i64 p1_6), (.bool p1_7)] 31)) fun w0 =>
 bindW (World.drew w0) fun w1 =>
 withAddr (.pointer p0) fun a2 =>
 ∃ (n3 : Int), ((Go.World.cell? w1 (Addr.add a2 2)) = (some (.int .u64 n3))) ∧
 bindW (World.drew w0) fun w4 =>
 Go.CW.Spec Try.prog 13 #[(.pointer p0)] w4 fun v5 w6 =>
 ∃ (n7 : Int), ((v5 : Value) = (.int .u64 n7)) ∧
 (∃ (n8 : Int), ((Go.World.cell? w6 (Addr.add a2 2)) = (some (.int .u64 n8))) ∧
 ((.int .u64 n8) : Value) = (.int .u64 n3)) ∧
 cond (decide (n3 ≥ (IntKind.wrap .u64 (n7 + (4 : Int)))))
 (R (.tuple #[(.int .u64 (0 : Int)), (.int .i64 (7 : Int))]) w6)
 (JoinP [.bool]
 (fun (b9 : Bool) => fun (w10 : World) =>
 cond b9
 (R (.tuple #[(.int .u64 (0 : Int)), (.int .i64 (1 : Int))]) w10)
 (∃ (v11 : Value), ((Go.World.cell? w10 (Addr.add ⟨w.heap.size, 0, none⟩ 3)) = (some v11)) ∧
 Go.CW.Spec Try.prog 14 #[v11] w10 fun v12 w13 =>
 oneK v12 ((St1 w13 (Addr.add ⟨w.heap.size, 0, none⟩ 3)) ∧
 bindW (World.setCell w13 (Addr.add ⟨w.heap.size, 0, none⟩ 3) v12) fun w14 =>
 bindW (World.drew w14) fun w15 =>
 withAddr (.pointer p0) fun a16 =>
 ∃ (n17 : Int), ((Go.World.cell? w15 (Addr.add a16 2)) = (some (.int .u64 n17))) ∧
 ∃ (n18 : Int) (n19 : Int) (n20 : Int) (v21 : Value) (n22 : Int) (n23 : Int) (n24 : Int) (b25 : Bool), (ldCells w15 ⟨w.heap.size, 0, none⟩ 8 #[(.int .i64 n18), (.int .i64 n19), (.int .i64 n20), v21, (.int .u64 n22), (.int .u64 n23), (.int .i64 n24), (.bool b25)]) ∧
 bindW (World.drew w14) fun w26 =>
 (∃ (n27 : Int), ((Go.World.cell? (World.alloc w26 (.cells #[(.int .u64 (0 : Int)), (.int .i64 (0 : Int)), (.int .i64 (0 : Int)), (.int .i64 (0 : Int)), (.slice none 0 0), (.int .u64 (0 : Int)), (.int .u64 (0 : Int)), (.int .i64 (0 : Int)), (.bool false)] 54)) (Addr.add a16 2)) = (some (.int .u64 n27))) ∧
 ((.int .u64 n27) : Value) = (.int .u64 n17)) ∧
 (∃ (n28 : Int) (n29 : Int) (n30 : Int) (v31 : Value) (n32 : Int) (n33 : Int) (n34 : Int) (b35 : Bool), (ldCells (World.alloc w26 (.cells #[(.int .u64 (0 : Int)), (.int .i64 (0 : Int)), (.int .i64 (0 : Int)), (.int .i64 (0 : Int)), (.slice none 0 0), (.int .u64 (0 : Int)), (.int .u64 (0 : Int)), (.int .i64 (0 : Int)), (.bool false)] 54)) ⟨w.heap.size, 0, none⟩ 8 #[(.int .i64 n28), (.int .i64 n29), (.int .i64 n30), v31, (.int .u64 n32), (.int .u64 n33), (.int .i64 n34), (.bool b35)]) ∧
 ((.agg #[(.int .i64 n28), (.int .i64 n29), (.int .i64 n30), v31, (.int .u64 n32), (.int .u64 n33), (.int .i64 n34), (.bool b35)]) : Value) = (.agg #[(.int .i64 n18), (.int .i64 n19), (.int .i64 n20), v21, (.int .u64 n22), (.int .u64 n23), (.int .i64 n24), (.bool b25)])) ∧
 bindW (World.alloc w26 (.cells #[(.int .u64 (0 : Int)), (.int .i64 (0 : Int)), (.int .i64 (0 : Int)), (.int .i64 (0 : Int)), (.slice none 0 0), (.int .u64 (0 : Int)), (.int .u64 (0 : Int)), (.int .i64 (0 : Int)), (.bool false)] 54)) fun w36 =>
 bindW (World.alloc w26 (.cells #[(.int .u64 (0 : Int)), (.int .i64 (0 : Int)), (.int .i64 (0 : Int)), (.int .i64 (0 : Int)), (.slice none 0 0), (.int .u64 (0 : Int)), (.int .u64 (0 : Int)), (.int .i64 (0 : Int)), (.bool false)] 54)) fun w37 =>
 (StRow w37 ⟨w26.heap.size, 0, none⟩ #[(.int .u64 n17), (.int .i64 n18), (.int .i64 n19), (.int .i64 n20), v21, (.int .u64 n22), (.int .u64 n23), (.int .i64 n24), (.bool b25)]) ∧
 bindW (stRow w37 ⟨w26.heap.size, 0, none⟩ #[(.int .u64 n17), (.int .i64 n18), (.int .i64 n19), (.int .i64 n20), v21, (.int .u64 n22), (.int .u64 n23), (.int .i64 n24), (.bool b25)]) fun w38 =>
 bindW (stRow w37 ⟨w26.heap.size, 0, none⟩ #[(.int .u64 n17), (.int .i64 n18), (.int .i64 n19), (.int .i64 n20), v21, (.int .u64 n22), (.int .u64 n23), (.int .i64 n24), (.bool b25)]) fun w39 =>
 JoinP []
 (fun (w40 : World) =>
 withAddr (.pointer p0) fun a41 =>
 ∃ (n42 : Int), ((Go.World.cell? w40 (Addr.add a41 2)) = (some (.int .u64 n42))) ∧
 withAddr (.pointer p0) fun a43 =>
 (St1 w40 (Addr.add a43 2)) ∧
 bindW (World.setCell w40 (Addr.add a43 2) (.int .u64 (IntKind.wrap .u64 (n42 + (1 : Int))))) fun w44 =>
 bindW (World.drew w44) fun w45 =>
 withAddr (.pointer p0) fun a46 =>
 ∃ (v47 : Value), ((Go.World.cell? w45 (Addr.add a46 3)) = (some v47)) ∧
 ∃ (n48 : Int) (n49 : Int) (n50 : Int) (n51 : Int) (v52 : Value) (n53 : Int) (n54 : Int) (n55 : Int) (b56 : Bool), (ldCells w45 ⟨w26.heap.size, 0, none⟩ 9 #[(.int .u64 n48), (.int .i64 n49), (.int .i64 n50), (.int .i64 n51), v52, (.int .u64 n53), (.int .u64 n54), (.int .i64 n55), (.bool b56)]) ∧
 bindW (World.drew w44) fun w57 =>
 (∃ (v58 : Value), ((Go.World.cell? (World.alloc w57 (.cells #[(.int .u64 n48), (.int .i64 n49), (.int .i64 n50), (.int .i64 n51), v52, (.int .u64 n53), (.int .u64 n54), (.int .i64 n55), (.bool b56)] 54)) (Addr.add a46 3)) = (some v58)) ∧
 (v58 : Value) = v47) ∧
 bindW (World.alloc w57 (.cells #[(.int .u64 n48), (.int .i64 n49), (.int .i64 n50), (.int .i64 n51), v52, (.int .u64 n53), (.int .u64 n54), (.int .i64 n55), (.bool b56)] 54)) fun w59 =>
 bindW (World.alloc w57 (.cells #[(.int .u64 n48), (.int .i64 n49), (.int .i64 n50), (.int .i64 n51), v52, (.int .u64 n53), (.int .u64 n54), (.int .i64 n55), (.bool b56)] 54)) fun w60 =>
 ∃ (v61 : Value) (w62 : World), ((Sem.run @Go.Proofs.Try.prog (Go.Builtin.append_ #[48, 48] 48 #[v47, (.slice (some ⟨w57.heap.size, 0, none⟩) 1 1)]) w60) = (.ok v61 w62)) ∧
 withAddr (.pointer p0) fun a63 =>
 oneK v61 ((St1 w62 (Addr.add a63 3)) ∧
 bindW (World.setCell w62 (Addr.add a63 3) v61) fun w64 =>
 bindW (World.setCell w62 (Addr.add a63 3) v61) fun w65 =>
 ∃ (n66 : Int) (n67 : Int) (n68 : Int) (n69 : Int) (v70 : Value) (n71 : Int) (n72 : Int) (n73 : Int) (b74 : Bool), (ldCells w65 ⟨w26.heap.size, 0, none⟩ 9 #[(.int .u64 n66), (.int .i64 n67), (.int .i64 n68), (.int .i64 n69), v70, (.int .u64 n71), (.int .u64 n72), (.int .i64 n73), (.bool b74)]) ∧
 Go.CW.Spec Try.prog 16 #[(.pointer p0), (.agg #[(.int .u64 n66), (.int .i64 n67), (.int .i64 n68), (.int .i64 n69), v70, (.int .u64 n71), (.int .u64 n72), (.int .i64 n73), (.bool b74)])] w65 fun v75 w76 =>
 ((v75 : Value) = (.tuple #[])) ∧
 ∃ (n77 : Int), ((Go.World.cell? w76 (Addr.add ⟨w26.heap.size, 0, none⟩ 0)) = (some (.int .u64 n77))) ∧
 R (.tuple #[(.int .u64 n77), (.int .i64 (0 : Int))]) w76))
 (fun j78 =>
 withAddr (.pointer p0) fun a79 =>
 ∃ (v80 : Value), ((Go.World.cell? w39 (Addr.add a79 3)) = (some v80)) ∧
 ∃ (m81 : Nat), ((Go.CW.sliceLen v80) = (some m81)) ∧
 cond (((m81 : Nat) : Int) == (0 : Int))
 (withAddr (.pointer p0) fun a82 =>
 ∃ (o83 : Option Addr), ((Go.World.cell? w39 (Addr.add a82 6)) = (some (.pointer o83))) ∧
 Go.CW.Spec Try.prog 15 #[(.pointer o83), (.int .i64 (0 : Int)), (.int .i64 (8 : Int))] w39 fun v84 w85 =>
 ∃ (n86 : Int), ((v84 : Value) = (.int .i64 n86)) ∧
 j78 w85)
 (j78 w39)))))
 (fun j87 =>
 ∃ (n88 : Int), ((Go.World.cell? w6 (Addr.add ⟨w.heap.size, 0, none⟩ 0)) = (some (.int .i64 n88))) ∧
 cond (decide (n88 < (1 : Int)))
 (j87 true w6)
 (∃ (n89 : Int), ((Go.World.cell? w6 (Addr.add ⟨w.heap.size, 0, none⟩ 0)) = (some (.int .i64 n89))) ∧
 cond (decide (n89 > (18 : Int)))
 (j87 true w6)
 (∃ (v90 : Value), ((Go.World.cell? w6 (Addr.add ⟨w.heap.size, 0, none⟩ 3)) = (some v90)) ∧
 ∃ (m91 : Nat), ((Go.CW.sliceLen v90) = (some m91)) ∧
 j87 (decide (((m91 : Nat) : Int) > (1024 : Int))) w6))))

theorem mpath_Path_Submit_m_wp (p0 : Option Addr) (p1_0 : Int) (p1_1 : Int) (p1_2 : Int) (p1_3 : Value) (p1_4 : Int) (p1_5 : Int) (p1_6 : Int) (p1_7 : Bool) (w : World) (R : KV) (h : mpath_Path_Submit_m_F p0 p1_0 p1_1 p1_2 p1_3 p1_4 p1_5 p1_6 p1_7 w R) : Go.CW.Spec Try.prog 6 #[(.pointer p0), (.agg #[(.int .i64 p1_0), (.int .i64 p1_1), (.int .i64 p1_2), p1_3, (.int .u64 p1_4), (.int .u64 p1_5), (.int .i64 p1_6), (.bool p1_7)])] w R :=
  spec_of Try.func6 (by kernel_rfl) (show mpath_Path_Submit_m_F p0 p1_0 p1_1 p1_2 p1_3 p1_4 p1_5 p1_6 p1_7 w R = _ by kernel_rfl) h

/-- (*gemel/mpath.Path).Out -/
def mpath_Path_Out_m_F (p0 : Option Addr) (w : World) (R : KV) : Prop :=
 withAddr (.pointer p0) fun a0 =>
 ∃ (v1 : Value), ((Go.World.cell? w (Addr.add a0 4)) = (some v1)) ∧
 Go.CW.Spec Try.prog 17 #[v1] w fun v2 w3 =>
 withAddr (.pointer p0) fun a4 =>
 (St1 w3 (Addr.add a4 4)) ∧
 bindW (World.setCell w3 (Addr.add a4 4) (.slice none 0 0)) fun w5 =>
 R v2 w5

theorem mpath_Path_Out_m_wp (p0 : Option Addr) (w : World) (R : KV) (h : mpath_Path_Out_m_F p0 w R) : Go.CW.Spec Try.prog 7 #[(.pointer p0)] w R :=
  spec_of Try.func7 (by kernel_rfl) (show mpath_Path_Out_m_F p0 w R = _ by kernel_rfl) h

/-- (*gemel/mpath.Path).In -/
def mpath_Path_In_m_F (p0 : Option Addr) (p1 : Int) (p2 : Value) (w : World) (R : KV) : Prop :=
 Go.CW.Spec Try.prog 20 #[p2] w fun v0 w1 =>
 ∃ (n2 : Int) (n3 : Int) (n4 : Int) (n5 : Int) (n6 : Int) (v7 : Value) (n8 : Int) (b9 : Bool) (n10 : Int) (b11 : Bool), ((v0 : Value) = (.tuple #[(.int .i64 n2), (.int .u64 n3), (.agg #[(.int .i64 n4), (.int .i64 n5), (.int .i64 n6), v7, (.int .i64 n8)]), (.bool b9), (.int .i64 n10), (.bool b11)])) ∧
 bindW (World.alloc w1 (.cells #[(.int .i64 (0 : Int)), (.int .i64 (0 : Int)), (.int .i64 (0 : Int)), (.slice none 0 0), (.int .i64 (0 : Int))] 62)) fun w12 =>
 (StRow w12 ⟨w1.heap.size, 0, none⟩ #[(.int .i64 n4), (.int .i64 n5), (.int .i64 n6), v7, (.int .i64 n8)]) ∧
 bindW (stRow w12 ⟨w1.heap.size, 0, none⟩ #[(.int .i64 n4), (.int .i64 n5), (.int .i64 n6), v7, (.int .i64 n8)]) fun w13 =>
 JoinP [.bool]
 (fun (b14 : Bool) => fun (w15 : World) =>
 cond b14
 (R (.tuple #[]) w15)
 (cond (!b9)
 (JoinP []
 (fun (w16 : World) =>
 R (.tuple #[]) w16)
 (fun j17 =>
 cond (decide (n10 ≥ (0 : Int)))
 (withAddr (.pointer p0) fun a18 =>
 (St1 w15 (Addr.add a18 1)) ∧
 bindW (World.setCell w15 (Addr.add a18 1) (.int .i64 n10)) fun w19 =>
 Go.CW.Spec Try.prog 21 #[(.pointer p0)] w19 fun v20 w21 =>
 ((v20 : Value) = (.tuple #[])) ∧
 j17 w21)
 (j17 w15)))
 (Go.CW.Spec Try.prog 21 #[(.pointer p0)] w15 fun v22 w23 =>
 ((v22 : Value) = (.tuple #[])) ∧
 ∃ (n24 : Int) (n25 : Int) (n26 : Int) (v27 : Value) (n28 : Int), (ldCells w23 ⟨w1.heap.size, 0, none⟩ 5 #[(.int .i64 n24), (.int .i64 n25), (.int .i64 n26), v27, (.int .i64 n28)]) ∧
 Go.CW.Spec Try.prog 22 #[(.pointer p0), (.int .u64 n3), (.agg #[(.int .i64 n24), (.int .i64 n25), (.int .i64 n26), v27, (.int .i64 n28)])] w23 fun v29 w30 =>
 ((v29 : Value) = (.tuple #[])) ∧
 R (.tuple #[]) w30)))
 (fun j31 =>
 cond (!b11)
 (j31 true w13)
 (withAddr (.pointer p0) fun a32 =>
 ∃ (n33 : Int), ((Go.World.cell? w13 (Addr.add a32 0)) = (some (.int .i64 n33))) ∧
 cond (n2 != n33)
 (j31 true w13)
 (cond (decide (p1 < (0 : Int)))
 (j31 true w13)
 (j31 (decide (p1 > (1 : Int))) w13))))

theorem mpath_Path_In_m_wp (p0 : Option Addr) (p1 : Int) (p2 : Value) (w : World) (R : KV) (h : mpath_Path_In_m_F p0 p1 p2 w R) : Go.CW.Spec Try.prog 9 #[(.pointer p0), (.int .i64 p1), p2] w R :=
  spec_of Try.func9 (by kernel_rfl) (show mpath_Path_In_m_F p0 p1 p2 w R = _ by kernel_rfl) h

/-- (*gemel/mpath.Path).Waiting -/
def mpath_Path_Waiting_m_F (p0 : Option Addr) (w : World) (R : KV) : Prop :=
 withAddr (.pointer p0) fun a0 =>
 ∃ (v1 : Value), ((Go.World.cell? w (Addr.add a0 3)) = (some v1)) ∧
 ∃ (m2 : Nat), ((Go.CW.sliceLen v1) = (some m2)) ∧
 LoopP [.val, .int .i64]
 (fun j3 => fun (v4 : Value) => fun (n5 : Int) => fun (w6 : World) =>
 cond (decide (n5 < ((m2 : Nat) : Int)))
 (∃ (a7 : Addr), ((Go.CW.sliceAt v1 n5 9) = (some a7)) ∧
 ∃ (n8 : Int) (n9 : Int) (n10 : Int) (n11 : Int) (v12 : Value) (n13 : Int) (n14 : Int) (n15 : Int) (b16 : Bool), (ldCells w6 a7 9 #[(.int .u64 n8), (.int .i64 n9), (.int .i64 n10), (.int .i64 n11), v12, (.int .u64 n13), (.int .u64 n14), (.int .i64 n15), (.bool b16)]) ∧
 bindW (World.alloc w6 (.cells #[(.int .u64 (0 : Int)), (.int .i64 (0 : Int)), (.int .i64 (0 : Int)), (.int .i64 (0 : Int)), (.slice none 0 0), (.int .u64 (0 : Int)), (.int .u64 (0 : Int)), (.int .i64 (0 : Int)), (.bool false)] 54)) fun w17 =>
 (StRow w17 ⟨w6.heap.size, 0, none⟩ #[(.int .u64 n8), (.int .i64 n9), (.int .i64 n10), (.int .i64 n11), v12, (.int .u64 n13), (.int .u64 n14), (.int .i64 n15), (.bool b16)]) ∧
 bindW (stRow w17 ⟨w6.heap.size, 0, none⟩ #[(.int .u64 n8), (.int .i64 n9), (.int .i64 n10), (.int .i64 n11), v12, (.int .u64 n13), (.int .u64 n14), (.int .i64 n15), (.bool b16)]) fun w18 =>
 ∃ (n19 : Int), ((Go.World.cell? w18 (Addr.add ⟨w6.heap.size, 0, none⟩ 0)) = (some (.int .u64 n19))) ∧
 bindW (World.alloc w18 (.cells #[(.int .u64 n19)] 29)) fun w20 =>
 ∃ (v21 : Value) (w22 : World), ((Sem.run @Go.Proofs.Try.prog (Go.Builtin.append_ #[41, 41] 41 #[v4, (.slice (some ⟨w18.heap.size, 0, none⟩) 1 1)]) w20) = (.ok v21 w22)) ∧
 j3 v21 (IntKind.wrap .i64 (n5 + (1 : Int))) w22)
 (Go.CW.Spec Try.prog 23 #[v4] w6 fun v23 w24 =>
 R v23 w24))
 (fun s25 => s25 (.slice none 0 0) (0 : Int) w)

theorem mpath_Path_Waiting_m_wp (p0 : Option Addr) (w : World) (R : KV) (h : mpath_Path_Waiting_m_F p0 w R) : Go.CW.Spec Try.prog 10 #[(.pointer p0)] w R :=
  spec_of Try.func10 (by kernel_rfl) (show mpath_Path_Waiting_m_F p0 w R = _ by kernel_rfl) h

/-- (*gemel/mpath.Path).Done -/
def mpath_Path_Done_m_F (p0 : Option Addr) (w : World) (R : KV) : Prop :=
 withAddr (.pointer p0) fun a0 =>
 ∃ (v1 : Value), ((Go.World.cell? w (Addr.add a0 5)) = (some v1)) ∧
 Go.CW.Spec Try.prog 24 #[v1] w fun v2 w3 =>
 withAddr (.pointer p0) fun a4 =>
 (St1 w3 (Addr.add a4 5)) ∧
 bindW (World.setCell w3 (Addr.add a4 5) (.slice none 0 0)) fun w5 =>
 R v2 w5

theorem mpath_Path_Done_m_wp (p0 : Option Addr) (w : World) (R : KV) (h : mpath_Path_Done_m_F p0 w R) : Go.CW.Spec Try.prog 11 #[(.pointer p0)] w R :=
  spec_of Try.func11 (by kernel_rfl) (show mpath_Path_Done_m_F p0 w R = _ by kernel_rfl) h

/-- (*gemel/mpath.Path).floor -/
def mpath_Path_floor_m_F (p0 : Option Addr) (w : World) (R : KV) : Prop :=
 withAddr (.pointer p0) fun a0 =>
 ∃ (v1 : Value), ((Go.World.cell? w (Addr.add a0 3)) = (some v1)) ∧
 ∃ (m2 : Nat), ((Go.CW.sliceLen v1) = (some m2)) ∧
 cond (((m2 : Nat) : Int) == (0 : Int))
 (withAddr (.pointer p0) fun a3 =>
 ∃ (n4 : Int), ((Go.World.cell? w (Addr.add a3 2)) = (some (.int .u64 n4))) ∧
 R (.int .u64 n4) w)
 (withAddr (.pointer p0) fun a5 =>
 ∃ (v6 : Value), ((Go.World.cell? w (Addr.add a5 3)) = (some v6)) ∧
 ∃ (a7 : Addr), ((Go.CW.sliceAt v6 (0 : Int) 9) = (some a7)) ∧
 ∃ (n8 : Int), ((Go.World.cell? w (Addr.add a7 0)) = (some (.int .u64 n8))) ∧
 R (.int .u64 n8) w)

theorem mpath_Path_floor_m_wp (p0 : Option Addr) (w : World) (R : KV) (h : mpath_Path_floor_m_F p0 w R) : Go.CW.Spec Try.prog 13 #[(.pointer p0)] w R :=
  spec_of Try.func13 (by kernel_rfl) (show mpath_Path_floor_m_F p0 w R = _ by kernel_rfl) h

/-- (*gemel/mpath.Path).send -/
def mpath_Path_send_m_F (p0 : Option Addr) (p1_0 : Int) (p1_1 : Int) (p1_2 : Int) (p1_3 : Int) (p1_4 : Value) (p1_5 : Int) (p1_6 : Int) (p1_7 : Int) (p1_8 : Bool) (w : World) (R : KV) : Prop :=
 bindW (World.alloc w (.cells #[(.int .u64 p1_0), (.int .i64 p1_1), (.int .i64 p1_2), (.int .i64 p1_3), p1_4, (.int .u64 p1_5), (.int .u64 p1_6), (.int .i64 p1_7), (.bool p1_8)] 54)) fun w0 =>
 bindW (World.drew w0) fun w1 =>
 withAddr (.pointer p0) fun a2 =>
 ∃ (v3 : Value), ((Go.World.cell? w1 (Addr.add a2 4)) = (some v3)) ∧
 withAddr (.pointer p0) fun a4 =>
 ∃ (n5 : Int), ((Go.World.cell? w1 (Addr.add a4 1)) = (some (.int .i64 n5))) ∧
 withAddr (.pointer p0) fun a6 =>
 ∃ (n7 : Int), ((Go.World.cell? w1 (Addr.add a6 0)) = (some (.int .i64 n7))) ∧
 ∃ (n8 : Int), ((Go.World.cell? w1 (Addr.add ⟨w.heap.size, 0, none⟩ 0)) = (some (.int .u64 n8))) ∧
 ∃ (n9 : Int) (n10 : Int) (n11 : Int) (v12 : Value) (n13 : Int) (n14 : Int) (n15 : Int) (b16 : Bool), (ldCells w1 (Addr.add ⟨w.heap.size, 0, none⟩ 1) 8 #[(.int .i64 n9), (.int .i64 n10), (.int .i64 n11), v12, (.int .u64 n13), (.int .u64 n14), (.int .i64 n15), (.bool b16)]) ∧
 bindW (World.drew w0) fun w17 =>
 Go.CW.Spec Try.prog 13 #[(.pointer p0)] w17 fun v18 w19 =>
 ∃ (n20 : Int), ((v18 : Value) = (.int .u64 n20)) ∧
 (∃ (v21 : Value), ((Go.World.cell? w19 (Addr.add a2 4)) = (some v21)) ∧
 (v21 : Value) = v3) ∧
 (∃ (n22 : Int), ((Go.World.cell? w19 (Addr.add a4 1)) = (some (.int .i64 n22))) ∧
 ((.int .i64 n22) : Value) = (.int .i64 n5)) ∧
 (∃ (n23 : Int), ((Go.World.cell? w19 (Addr.add a6 0)) = (some (.int .i64 n23))) ∧
 ((.int .i64 n23) : Value) = (.int .i64 n7)) ∧
 (∃ (n24 : Int), ((Go.World.cell? w19 (Addr.add ⟨w.heap.size, 0, none⟩ 0)) = (some (.int .u64 n24))) ∧
 ((.int .u64 n24) : Value) = (.int .u64 n8)) ∧
 (∃ (n25 : Int) (n26 : Int) (n27 : Int) (v28 : Value) (n29 : Int) (n30 : Int) (n31 : Int) (b32 : Bool), (ldCells w19 (Addr.add ⟨w.heap.size, 0, none⟩ 1) 8 #[(.int .i64 n25), (.int .i64 n26), (.int .i64 n27), v28, (.int .u64 n29), (.int .u64 n30), (.int .i64 n31), (.bool b32)]) ∧
 ((.agg #[(.int .i64 n25), (.int .i64 n26), (.int .i64 n27), v28, (.int .u64 n29), (.int .u64 n30), (.int .i64 n31), (.bool b32)]) : Value) = (.agg #[(.int .i64 n9), (.int .i64 n10), (.int .i64 n11), v12, (.int .u64 n13), (.int .u64 n14), (.int .i64 n15), (.bool b16)])) ∧
 Go.CW.Spec Try.prog 28 #[(.int .i64 n7), (.int .u64 n8), (.int .u64 n20), (.agg #[(.int .i64 n9), (.int .i64 n10), (.int .i64 n11), v12, (.int .u64 n13), (.int .u64 n14), (.int .i64 n15), (.bool b16)])] w19 fun v33 w34 =>
 (∃ (v35 : Value), ((Go.World.cell? w34 (Addr.add a2 4)) = (some v35)) ∧
 (v35 : Value) = v3) ∧
 (∃ (n36 : Int), ((Go.World.cell? w34 (Addr.add a4 1)) = (some (.int .i64 n36))) ∧
 ((.int .i64 n36) : Value) = (.int .i64 n5)) ∧
 oneK v33 ((∃ (v37 : Value), ((Go.World.cell? (World.alloc w34 (.cells #[(.int .i64 n5), v33] 39)) (Addr.add a2 4)) = (some v37)) ∧
 (v37 : Value) = v3) ∧
 bindW (World.alloc w34 (.cells #[(.int .i64 n5), v33] 39)) fun w38 =>
 bindW (World.alloc w34 (.cells #[(.int .i64 n5), v33] 39)) fun w39 =>
 ∃ (v40 : Value) (w41 : World), ((Sem.run @Go.Proofs.Try.prog (Go.Builtin.append_ #[34, 34] 34 #[v3, (.slice (some ⟨w34.heap.size, 0, none⟩) 1 1)]) w39) = (.ok v40 w41)) ∧
 withAddr (.pointer p0) fun a42 =>
 oneK v40 ((St1 w41 (Addr.add a42 4)) ∧
 bindW (World.setCell w41 (Addr.add a42 4) v40) fun w43 =>
 bindW (World.setCell w41 (Addr.add a42 4) v40) fun w44 =>
 bindW (World.drew w44) fun w45 =>
 withAddr (.pointer p0) fun a46 =>
 ∃ (o47 : Option Addr), ((Go.World.cell? w45 (Addr.add a46 6)) = (some (.pointer o47))) ∧
 ∃ (n48 : Int), ((Go.World.cell? w45 (Addr.add ⟨w.heap.size, 0, none⟩ 0)) = (some (.int .u64 n48))) ∧
 bindW (World.drew w44) fun w49 =>
 Go.CW.Spec Try.prog 15 #[(.pointer o47), (.int .i64 (IntKind.wrap .i64 n48)), (.int .i64 (4 : Int))] w49 fun v50 w51 =>
 ∃ (n52 : Int), ((v50 : Value) = (.int .i64 n52)) ∧
 R (.tuple #[]) w51))

theorem mpath_Path_send_m_wp (p0 : Option Addr) (p1_0 : Int) (p1_1 : Int) (p1_2 : Int) (p1_3 : Int) (p1_4 : Value) (p1_5 : Int) (p1_6 : Int) (p1_7 : Int) (p1_8 : Bool) (w : World) (R : KV) (h : mpath_Path_send_m_F p0 p1_0 p1_1 p1_2 p1_3 p1_4 p1_5 p1_6 p1_7 p1_8 w R) : Go.CW.Spec Try.prog 16 #[(.pointer p0), (.agg #[(.int .u64 p1_0), (.int .i64 p1_1), (.int .i64 p1_2), (.int .i64 p1_3), p1_4, (.int .u64 p1_5), (.int .u64 p1_6), (.int .i64 p1_7), (.bool p1_8)])] w R :=
  spec_of Try.func16 (by kernel_rfl) (show mpath_Path_send_m_F p0 p1_0 p1_1 p1_2 p1_3 p1_4 p1_5 p1_6 p1_7 p1_8 w R = _ by kernel_rfl) h

/-- slices.Clip[[]gemel/node.Packet,gemel/node.Packet] -/
def slices_Clip_17_F (p0 : Value) (w : World) (R : KV) : Prop :=
 ∃ (m0 : Nat), ((Go.CW.sliceLen p0) = (some m0)) ∧
 ∃ (m1 : Nat), ((Go.CW.sliceLen p0) = (some m1)) ∧
 ∃ (v2 : Value), ((Go.CW.subSlice p0 2 none (some (.int .i64 ((m0 : Nat) : Int))) (some (.int .i64 ((m1 : Nat) : Int)))) = (some v2)) ∧
 R v2 w

theorem slices_Clip_17_wp (p0 : Value) (w : World) (R : KV) (h : slices_Clip_17_F p0 w R) : Go.CW.Spec Try.prog 17 #[p0] w R :=
  spec_of Try.func17 (by kernel_rfl) (show slices_Clip_17_F p0 w R = _ by kernel_rfl) h

/-- gemel/node.Answer -/
def node_Answer_F (p0 : Value) (w : World) (R : KV) : Prop :=
 bindW (World.alloc w (.cells #[(.int .i64 (0 : Int)), (.int .i64 (0 : Int)), (.int .i64 (0 : Int)), (.slice none 0 0), (.int .i64 (0 : Int))] 62)) fun w0 =>
 Go.CW.Spec Try.prog 30 #[p0] w0 fun v1 w2 =>
 ∃ (v3 : Value) (n4 : Int), ((v1 : Value) = (.tuple #[v3, (.int .i64 n4)])) ∧
 oneK v3 (bindW (World.alloc w2 (.cells #[v3, (.bool false)] 84)) fun w5 =>
 Go.CW.Spec Try.prog 31 #[(.pointer (some ⟨w2.heap.size, 0, none⟩)), (.int .i64 (1 : Int))] w5 fun v6 w7 =>
 ∃ (n8 : Int), ((v6 : Value) = (.int .u64 n8)) ∧
 Go.CW.Spec Try.prog 32 #[(.pointer (some ⟨w2.heap.size, 0, none⟩))] w7 fun v9 w10 =>
 ∃ (n11 : Int), ((v9 : Value) = (.int .i64 n11)) ∧
 Go.CW.Spec Try.prog 31 #[(.pointer (some ⟨w2.heap.size, 0, none⟩)), (.int .i64 (8 : Int))] w10 fun v12 w13 =>
 ∃ (n14 : Int), ((v12 : Value) = (.int .u64 n14)) ∧
 Go.CW.Spec Try.prog 33 #[(.pointer (some ⟨w2.heap.size, 0, none⟩))] w13 fun v15 w16 =>
 ∃ (b17 : Bool), ((v15 : Value) = (.bool b17)) ∧
 Go.CW.Spec Try.prog 31 #[(.pointer (some ⟨w2.heap.size, 0, none⟩)), (.int .i64 (1 : Int))] w16 fun v18 w19 =>
 ∃ (n20 : Int), ((v18 : Value) = (.int .u64 n20)) ∧
 Go.CW.Spec Try.prog 32 #[(.pointer (some ⟨w2.heap.size, 0, none⟩))] w19 fun v21 w22 =>
 ∃ (n23 : Int), ((v21 : Value) = (.int .i64 n23)) ∧
 Go.CW.Spec Try.prog 32 #[(.pointer (some ⟨w2.heap.size, 0, none⟩))] w22 fun v24 w25 =>
 ∃ (n26 : Int), ((v24 : Value) = (.int .i64 n26)) ∧
 Go.CW.Spec Try.prog 32 #[(.pointer (some ⟨w2.heap.size, 0, none⟩))] w25 fun v27 w28 =>
 ∃ (n29 : Int), ((v27 : Value) = (.int .i64 n29)) ∧
 Go.CW.Spec Try.prog 32 #[(.pointer (some ⟨w2.heap.size, 0, none⟩))] w28 fun v30 w31 =>
 ∃ (n32 : Int), ((v30 : Value) = (.int .i64 n32)) ∧
 (StRow w31 ⟨w.heap.size, 0, none⟩ #[(.int .i64 n23), (.int .i64 n26), (.int .i64 n29), (.slice none 0 0), (.int .i64 n32)]) ∧
 bindW (stRow w31 ⟨w.heap.size, 0, none⟩ #[(.int .i64 n23), (.int .i64 n26), (.int .i64 n29), (.slice none 0 0), (.int .i64 n32)]) fun w33 =>
 ∃ (v34 : Value), ((Go.World.cell? w33 (Addr.add ⟨w2.heap.size, 0, none⟩ 0)) = (some v34)) ∧
 Go.CW.Spec Try.prog 14 #[v34] w33 fun v35 w36 =>
 Go.CW.Spec Try.prog 34 #[v35] w36 fun v37 w38 =>
 oneK v37 ((St1 w38 (Addr.add ⟨w.heap.size, 0, none⟩ 3)) ∧
 bindW (World.setCell w38 (Addr.add ⟨w.heap.size, 0, none⟩ 3) v37) fun w39 =>
 JoinP [.bool]
 (fun (b40 : Bool) => fun (w41 : World) =>
 cond b40
 ((StRow w41 ⟨w.heap.size, 0, none⟩ #[(.int .i64 (0 : Int)), (.int .i64 (0 : Int)), (.int .i64 (0 : Int)), (.slice none 0 0), (.int .i64 (0 : Int))]) ∧
 bindW (stRow w41 ⟨w.heap.size, 0, none⟩ #[(.int .i64 (0 : Int)), (.int .i64 (0 : Int)), (.int .i64 (0 : Int)), (.slice none 0 0), (.int .i64 (0 : Int))]) fun w42 =>
 ∃ (n43 : Int) (n44 : Int) (n45 : Int) (v46 : Value) (n47 : Int), (ldCells w42 ⟨w.heap.size, 0, none⟩ 5 #[(.int .i64 n43), (.int .i64 n44), (.int .i64 n45), v46, (.int .i64 n47)]) ∧
 R (.tuple #[(.int .i64 (0 : Int)), (.int .u64 (0 : Int)), (.agg #[(.int .i64 n43), (.int .i64 n44), (.int .i64 n45), v46, (.int .i64 n47)]), (.bool false), (.int .i64 (0 : Int)), (.bool false)]) w42)
 (cond b17
 (bindW (World.drew w41) fun w48 =>
 ∃ (n49 : Int) (n50 : Int) (n51 : Int) (v52 : Value) (n53 : Int), (ldCells w48 ⟨w.heap.size, 0, none⟩ 5 #[(.int .i64 n49), (.int .i64 n50), (.int .i64 n51), v52, (.int .i64 n53)]) ∧
 bindW (World.drew w41) fun w54 =>
 (StRow w54 ⟨w.heap.size, 0, none⟩ #[(.int .i64 n49), (.int .i64 n50), (.int .i64 n51), v52, (.int .i64 n53)]) ∧
 bindW (stRow w54 ⟨w.heap.size, 0, none⟩ #[(.int .i64 n49), (.int .i64 n50), (.int .i64 n51), v52, (.int .i64 n53)]) fun w55 =>
 bindW (stRow w54 ⟨w.heap.size, 0, none⟩ #[(.int .i64 n49), (.int .i64 n50), (.int .i64 n51), v52, (.int .i64 n53)]) fun w56 =>
 ∃ (n57 : Int) (n58 : Int) (n59 : Int) (v60 : Value) (n61 : Int), (ldCells w56 ⟨w.heap.size, 0, none⟩ 5 #[(.int .i64 n57), (.int .i64 n58), (.int .i64 n59), v60, (.int .i64 n61)]) ∧
 R (.tuple #[(.int .i64 n11), (.int .u64 n14), (.agg #[(.int .i64 n57), (.int .i64 n58), (.int .i64 n59), v60, (.int .i64 n61)]), (.bool true), (.int .i64 (0 : Int)), (.bool true)]) w56)
 ((StRow w41 ⟨w.heap.size, 0, none⟩ #[(.int .i64 (0 : Int)), (.int .i64 (0 : Int)), (.int .i64 (0 : Int)), (.slice none 0 0), (.int .i64 (0 : Int))]) ∧
 bindW (stRow w41 ⟨w.heap.size, 0, none⟩ #[(.int .i64 (0 : Int)), (.int .i64 (0 : Int)), (.int .i64 (0 : Int)), (.slice none 0 0), (.int .i64 (0 : Int))]) fun w62 =>
 ∃ (n63 : Int) (n64 : Int) (n65 : Int) (v66 : Value) (n67 : Int), (ldCells w62 ⟨w.heap.size, 0, none⟩ 5 #[(.int .i64 n63), (.int .i64 n64), (.int .i64 n65), v66, (.int .i64 n67)]) ∧
 R (.tuple #[(.int .i64 n11), (.int .u64 n14), (.agg #[(.int .i64 n63), (.int .i64 n64), (.int .i64 n65), v66, (.int .i64 n67)]), (.bool false), (.int .i64 (IntKind.wrap .i64 ((IntKind.wrap .i64 n20) - (1 : Int)))), (.bool true)]) w62)))
 (fun j68 =>
 cond (n4 != (0 : Int))
 (j68 true w39)
 (∃ (b69 : Bool), ((Go.World.cell? w39 (Addr.add ⟨w2.heap.size, 0, none⟩ 1)) = (some (.bool b69))) ∧
 cond b69
 (j68 true w39)
 (cond (n8 != (2 : Int))
 (j68 true w39)
 (j68 (decide ((IntKind.wrap .i64 ((IntKind.wrap .i64 n20) - (1 : Int))) > (1 : Int))) w39))))))

theorem node_Answer_wp (p0 : Value) (w : World) (R : KV) (h : node_Answer_F p0 w R) : Go.CW.Spec Try.prog 20 #[p0] w R :=
  spec_of Try.func20 (by kernel_rfl) (show node_Answer_F p0 w R = _ by kernel_rfl) h

/-- (*gemel/mpath.Path).hear -/
def mpath_Path_hear_m_F (p0 : Option Addr) (w : World) (R : KV) : Prop :=
 withAddr (.pointer p0) fun a0 =>
 ∃ (v1 : Value), ((Go.World.cell? w (Addr.add a0 3)) = (some v1)) ∧
 ∃ (m2 : Nat), ((Go.CW.sliceLen v1) = (some m2)) ∧
 cond (decide (((m2 : Nat) : Int) > (0 : Int)))
 (withAddr (.pointer p0) fun a3 =>
 ∃ (o4 : Option Addr), ((Go.World.cell? w (Addr.add a3 6)) = (some (.pointer o4))) ∧
 Go.CW.Spec Try.prog 15 #[(.pointer o4), (.int .i64 (0 : Int)), (.int .i64 (8 : Int))] w fun v5 w6 =>
 ∃ (n7 : Int), ((v5 : Value) = (.int .i64 n7)) ∧
 R (.tuple #[]) w6)
 (R (.tuple #[]) w)

theorem mpath_Path_hear_m_wp (p0 : Option Addr) (w : World) (R : KV) (h : mpath_Path_hear_m_F p0 w R) : Go.CW.Spec Try.prog 21 #[(.pointer p0)] w R :=
  spec_of Try.func21 (by kernel_rfl) (show mpath_Path_hear_m_F p0 w R = _ by kernel_rfl) h

/-- (*gemel/mpath.Path).end -/
def mpath_Path_end_m_F (p0 : Option Addr) (p1 : Int) (p2_0 : Int) (p2_1 : Int) (p2_2 : Int) (p2_3 : Value) (p2_4 : Int) (w : World) (R : KV) : Prop :=
 bindW (World.alloc w (.cells #[(.int .i64 p2_0), (.int .i64 p2_1), (.int .i64 p2_2), p2_3, (.int .i64 p2_4)] 62)) fun w0 =>
 withAddr (.pointer p0) fun a1 =>
 ∃ (v2 : Value), ((Go.World.cell? w0 (Addr.add a1 3)) = (some v2)) ∧
 ∃ (m3 : Nat), ((Go.CW.sliceLen v2) = (some m3)) ∧
 JoinP []
 (fun (w4 : World) =>
 withAddr (.pointer p0) fun a5 =>
 ∃ (v6 : Value), ((Go.World.cell? w4 (Addr.add a5 3)) = (some v6)) ∧
 ∃ (m7 : Nat), ((Go.CW.sliceLen v6) = (some m7)) ∧
 cond (((m7 : Nat) : Int) == (0 : Int))
 (withAddr (.pointer p0) fun a8 =>
 ∃ (o9 : Option Addr), ((Go.World.cell? w4 (Addr.add a8 6)) = (some (.pointer o9))) ∧
 Go.CW.Spec Try.prog 36 #[(.pointer o9), (.int .i64 (0 : Int))] w4 fun v10 w11 =>
 ∃ (b12 : Bool), ((v10 : Value) = (.bool b12)) ∧
 R (.tuple #[]) w11)
 (R (.tuple #[]) w4))
 (fun j13 =>
 LoopP [.int .i64]
 (fun j14 => fun (n15 : Int) => fun (w16 : World) =>
 cond (decide (n15 < ((m3 : Nat) : Int)))
 (∃ (a17 : Addr), ((Go.CW.sliceAt v2 n15 9) = (some a17)) ∧
 ∃ (n18 : Int) (n19 : Int) (n20 : Int) (n21 : Int) (v22 : Value) (n23 : Int) (n24 : Int) (n25 : Int) (b26 : Bool), (ldCells w16 a17 9 #[(.int .u64 n18), (.int .i64 n19), (.int .i64 n20), (.int .i64 n21), v22, (.int .u64 n23), (.int .u64 n24), (.int .i64 n25), (.bool b26)]) ∧
 bindW (World.alloc w16 (.cells #[(.int .u64 (0 : Int)), (.int .i64 (0 : Int)), (.int .i64 (0 : Int)), (.int .i64 (0 : Int)), (.slice none 0 0), (.int .u64 (0 : Int)), (.int .u64 (0 : Int)), (.int .i64 (0 : Int)), (.bool false)] 54)) fun w27 =>
 (StRow w27 ⟨w16.heap.size, 0, none⟩ #[(.int .u64 n18), (.int .i64 n19), (.int .i64 n20), (.int .i64 n21), v22, (.int .u64 n23), (.int .u64 n24), (.int .i64 n25), (.bool b26)]) ∧
 bindW (stRow w27 ⟨w16.heap.size, 0, none⟩ #[(.int .u64 n18), (.int .i64 n19), (.int .i64 n20), (.int .i64 n21), v22, (.int .u64 n23), (.int .u64 n24), (.int .i64 n25), (.bool b26)]) fun w28 =>
 ∃ (n29 : Int), ((Go.World.cell? w28 (Addr.add ⟨w16.heap.size, 0, none⟩ 0)) = (some (.int .u64 n29))) ∧
 cond (n29 != p1)
 (j14 (IntKind.wrap .i64 (n15 + (1 : Int))) w28)
 (withAddr (.pointer p0) fun a30 =>
 ∃ (v31 : Value), ((Go.World.cell? w28 (Addr.add a30 3)) = (some v31)) ∧
 Go.CW.Spec Try.prog 35 #[v31, (.int .i64 n15), (.int .i64 (IntKind.wrap .i64 (n15 + (1 : Int))))] w28 fun v32 w33 =>
 withAddr (.pointer p0) fun a34 =>
 oneK v32 ((St1 w33 (Addr.add a34 3)) ∧
 bindW (World.setCell w33 (Addr.add a34 3) v32) fun w35 =>
 withAddr (.pointer p0) fun a36 =>
 ∃ (o37 : Option Addr), ((Go.World.cell? w35 (Addr.add a36 6)) = (some (.pointer o37))) ∧
 Go.CW.Spec Try.prog 36 #[(.pointer o37), (.int .i64 (IntKind.wrap .i64 p1))] w35 fun v38 w39 =>
 ∃ (b40 : Bool), ((v38 : Value) = (.bool b40)) ∧
 bindW (World.drew w39) fun w41 =>
 withAddr (.pointer p0) fun a42 =>
 ∃ (v43 : Value), ((Go.World.cell? w41 (Addr.add a42 5)) = (some v43)) ∧
 ∃ (n44 : Int) (n45 : Int) (n46 : Int) (v47 : Value) (n48 : Int), (ldCells w41 ⟨w.heap.size, 0, none⟩ 5 #[(.int .i64 n44), (.int .i64 n45), (.int .i64 n46), v47, (.int .i64 n48)]) ∧
 bindW (World.drew w39) fun w49 =>
 (∃ (v50 : Value), ((Go.World.cell? (World.alloc w49 (.cells #[(.int .u64 p1), (.int .i64 n44), (.int .i64 n45), (.int .i64 n46), v47, (.int .i64 n48)] 69)) (Addr.add a42 5)) = (some v50)) ∧
 (v50 : Value) = v43) ∧
 bindW (World.alloc w49 (.cells #[(.int .u64 p1), (.int .i64 n44), (.int .i64 n45), (.int .i64 n46), v47, (.int .i64 n48)] 69)) fun w51 =>
 bindW (World.alloc w49 (.cells #[(.int .u64 p1), (.int .i64 n44), (.int .i64 n45), (.int .i64 n46), v47, (.int .i64 n48)] 69)) fun w52 =>
 ∃ (v53 : Value) (w54 : World), ((Sem.run @Go.Proofs.Try.prog (Go.Builtin.append_ #[43, 43] 43 #[v43, (.slice (some ⟨w49.heap.size, 0, none⟩) 1 1)]) w52) = (.ok v53 w54)) ∧
 withAddr (.pointer p0) fun a55 =>
 oneK v53 ((St1 w54 (Addr.add a55 5)) ∧
 bindW (World.setCell w54 (Addr.add a55 5) v53) fun w56 =>
 bindW (World.setCell w54 (Addr.add a55 5) v53) fun w57 =>
 j13 w57))))
 (j13 w16))
 (fun s58 => s58 (0 : Int) w0))

theorem mpath_Path_end_m_wp (p0 : Option Addr) (p1 : Int) (p2_0 : Int) (p2_1 : Int) (p2_2 : Int) (p2_3 : Value) (p2_4 : Int) (w : World) (R : KV) (h : mpath_Path_end_m_F p0 p1 p2_0 p2_1 p2_2 p2_3 p2_4 w R) : Go.CW.Spec Try.prog 22 #[(.pointer p0), (.int .u64 p1), (.agg #[(.int .i64 p2_0), (.int .i64 p2_1), (.int .i64 p2_2), p2_3, (.int .i64 p2_4)])] w R :=
  spec_of Try.func22 (by kernel_rfl) (show mpath_Path_end_m_F p0 p1 p2_0 p2_1 p2_2 p2_3 p2_4 w R = _ by kernel_rfl) h

/-- slices.Clip[[]uint64,uint64] -/
def slices_Clip_23_F (p0 : Value) (w : World) (R : KV) : Prop :=
 ∃ (m0 : Nat), ((Go.CW.sliceLen p0) = (some m0)) ∧
 ∃ (m1 : Nat), ((Go.CW.sliceLen p0) = (some m1)) ∧
 ∃ (v2 : Value), ((Go.CW.subSlice p0 1 none (some (.int .i64 ((m0 : Nat) : Int))) (some (.int .i64 ((m1 : Nat) : Int)))) = (some v2)) ∧
 R v2 w

theorem slices_Clip_23_wp (p0 : Value) (w : World) (R : KV) (h : slices_Clip_23_F p0 w R) : Go.CW.Spec Try.prog 23 #[p0] w R :=
  spec_of Try.func23 (by kernel_rfl) (show slices_Clip_23_F p0 w R = _ by kernel_rfl) h

/-- slices.Clip[[]gemel/mpath.Done,gemel/mpath.Done] -/
def slices_Clip_24_F (p0 : Value) (w : World) (R : KV) : Prop :=
 ∃ (m0 : Nat), ((Go.CW.sliceLen p0) = (some m0)) ∧
 ∃ (m1 : Nat), ((Go.CW.sliceLen p0) = (some m1)) ∧
 ∃ (v2 : Value), ((Go.CW.subSlice p0 6 none (some (.int .i64 ((m0 : Nat) : Int))) (some (.int .i64 ((m1 : Nat) : Int)))) = (some v2)) ∧
 R v2 w

theorem slices_Clip_24_wp (p0 : Value) (w : World) (R : KV) (h : slices_Clip_24_F p0 w R) : Go.CW.Spec Try.prog 24 #[p0] w R :=
  spec_of Try.func24 (by kernel_rfl) (show slices_Clip_24_F p0 w R = _ by kernel_rfl) h

/-- gemel/node.Request -/
def node_Request_F (p0 : Int) (p1 : Int) (p2 : Int) (p3_0 : Int) (p3_1 : Int) (p3_2 : Int) (p3_3 : Value) (p3_4 : Int) (p3_5 : Int) (p3_6 : Int) (p3_7 : Bool) (w : World) (R : KV) : Prop :=
 bindW (World.alloc w (.cells #[(.int .i64 p3_0), (.int .i64 p3_1), (.int .i64 p3_2), p3_3, (.int .u64 p3_4), (.int .u64 p3_5), (.int .i64 p3_6), (.bool p3_7)] 31)) fun w0 =>
 bindW (World.alloc w0 (.cells #[(.int .u8 (1 : Int))] 5)) fun w1 =>
 ∃ (n2 : Int) (n3 : Int) (n4 : Int) (v5 : Value) (n6 : Int) (n7 : Int) (n8 : Int) (b9 : Bool), (ldCells w1 ⟨w.heap.size, 0, none⟩ 8 #[(.int .i64 n2), (.int .i64 n3), (.int .i64 n4), v5, (.int .u64 n6), (.int .u64 n7), (.int .i64 n8), (.bool b9)]) ∧
 Go.CW.Spec Try.prog 42 #[(.agg #[(.int .i64 p0), (.int .u64 p1), (.int .u64 p2), (.int .i64 n2), (.int .i64 n3), (.int .i64 n4), v5, (.int .u64 n6), (.int .u64 n7), (.int .i64 n8), (.bool b9)])] w1 fun v10 w11 =>
 ∃ (v12 : Value) (w13 : World), ((Sem.run @Go.Proofs.Try.prog (Go.Builtin.append_ #[28, 28] 28 #[(.slice (some ⟨w0.heap.size, 0, none⟩) 1 1), v10]) w11) = (.ok v12 w13)) ∧
 Go.CW.Spec Try.prog 41 #[v12] w13 fun v14 w15 =>
 R v14 w15

theorem node_Request_wp (p0 : Int) (p1 : Int) (p2 : Int) (p3_0 : Int) (p3_1 : Int) (p3_2 : Int) (p3_3 : Value) (p3_4 : Int) (p3_5 : Int) (p3_6 : Int) (p3_7 : Bool) (w : World) (R : KV) (h : node_Request_F p0 p1 p2 p3_0 p3_1 p3_2 p3_3 p3_4 p3_5 p3_6 p3_7 w R) : Go.CW.Spec Try.prog 28 #[(.int .i64 p0), (.int .u64 p1), (.int .u64 p2), (.agg #[(.int .i64 p3_0), (.int .i64 p3_1), (.int .i64 p3_2), p3_3, (.int .u64 p3_4), (.int .u64 p3_5), (.int .i64 p3_6), (.bool p3_7)])] w R :=
  spec_of Try.func28 (by kernel_rfl) (show node_Request_F p0 p1 p2 p3_0 p3_1 p3_2 p3_3 p3_4 p3_5 p3_6 p3_7 w R = _ by kernel_rfl) h

/-- (*gemel/node.reader).number -/
def node_reader_number_m_F (p0 : Option Addr) (p1 : Int) (w : World) (R : KV) : Prop :=
 withAddr (.pointer p0) fun a0 =>
 ∃ (v1 : Value), ((Go.World.cell? w (Addr.add a0 0)) = (some v1)) ∧
 Go.CW.Spec Try.prog 46 #[v1, (.int .i64 (0 : Int)), (.int .i64 p1)] w fun v2 w3 =>
 ∃ (n4 : Int) (b5 : Bool), ((v2 : Value) = (.tuple #[(.int .u64 n4), (.bool b5)])) ∧
 cond (!b5)
 (withAddr (.pointer p0) fun a6 =>
 (St1 w3 (Addr.add a6 1)) ∧
 bindW (World.setCell w3 (Addr.add a6 1) (.bool true)) fun w7 =>
 withAddr (.pointer p0) fun a8 =>
 (St1 w7 (Addr.add a8 0)) ∧
 bindW (World.setCell w7 (Addr.add a8 0) (.slice none 0 0)) fun w9 =>
 R (.int .u64 (0 : Int)) w9)
 (withAddr (.pointer p0) fun a10 =>
 ∃ (v11 : Value), ((Go.World.cell? w3 (Addr.add a10 0)) = (some v11)) ∧
 ∃ (v12 : Value), ((Go.CW.subSlice v11 1 (some (.int .i64 p1)) none none) = (some v12)) ∧
 withAddr (.pointer p0) fun a13 =>
 oneK v12 ((St1 w3 (Addr.add a13 0)) ∧
 bindW (World.setCell w3 (Addr.add a13 0) v12) fun w14 =>
 R (.int .u64 n4) w14))

theorem node_reader_number_m_wp (p0 : Option Addr) (p1 : Int) (w : World) (R : KV) (h : node_reader_number_m_F p0 p1 w R) : Go.CW.Spec Try.prog 31 #[(.pointer p0), (.int .i64 p1)] w R :=
  spec_of Try.func31 (by kernel_rfl) (show node_reader_number_m_F p0 p1 w R = _ by kernel_rfl) h

/-- (*gemel/node.reader).int -/
def node_reader_int_m_F (p0 : Option Addr) (w : World) (R : KV) : Prop :=
 Go.CW.Spec Try.prog 31 #[(.pointer p0), (.int .i64 (8 : Int))] w fun v0 w1 =>
 ∃ (n2 : Int), ((v0 : Value) = (.int .u64 n2)) ∧
 R (.int .i64 (IntKind.wrap .i64 n2)) w1

theorem node_reader_int_m_wp (p0 : Option Addr) (w : World) (R : KV) (h : node_reader_int_m_F p0 w R) : Go.CW.Spec Try.prog 32 #[(.pointer p0)] w R :=
  spec_of Try.func32 (by kernel_rfl) (show node_reader_int_m_F p0 w R = _ by kernel_rfl) h

/-- (*gemel/node.reader).flag -/
def node_reader_flag_m_F (p0 : Option Addr) (w : World) (R : KV) : Prop :=
 Go.CW.Spec Try.prog 31 #[(.pointer p0), (.int .i64 (1 : Int))] w fun v0 w1 =>
 ∃ (n2 : Int), ((v0 : Value) = (.int .u64 n2)) ∧
 JoinP []
 (fun (w3 : World) =>
 R (.bool (n2 == (1 : Int))) w3)
 (fun j4 =>
 withAddr (.pointer p0) fun a5 =>
 ∃ (b6 : Bool), ((Go.World.cell? w1 (Addr.add a5 1)) = (some (.bool b6))) ∧
 cond b6
 (withAddr (.pointer p0) fun a7 =>
 (St1 w1 (Addr.add a7 1)) ∧
 bindW (World.setCell w1 (Addr.add a7 1) (.bool true)) fun w8 =>
 j4 w8)
 (withAddr (.pointer p0) fun a9 =>
 (St1 w1 (Addr.add a9 1)) ∧
 bindW (World.setCell w1 (Addr.add a9 1) (.bool (decide (n2 > (1 : Int))))) fun w10 =>
 j4 w10))

theorem node_reader_flag_m_wp (p0 : Option Addr) (w : World) (R : KV) (h : node_reader_flag_m_F p0 w R) : Go.CW.Spec Try.prog 33 #[(.pointer p0)] w R :=
  spec_of Try.func33 (by kernel_rfl) (show node_reader_flag_m_F p0 w R = _ by kernel_rfl) h

/-- slices.Delete[[]gemel/mpath.ask,gemel/mpath.ask] -/
def slices_Delete_35_F (p0 : Value) (p1 : Int) (p2 : Int) (w : World) (R : KV) : Prop :=
 ∃ (m0 : Nat), ((Go.CW.sliceLen p0) = (some m0)) ∧
 ∃ (v1 : Value), ((Go.CW.subSlice p0 9 (some (.int .i64 p1)) (some (.int .i64 p2)) (some (.int .i64 ((m0 : Nat) : Int)))) = (some v1)) ∧
 cond (p1 == p2)
 (R p0 w)
 (∃ (m2 : Nat), ((Go.CW.sliceLen p0) = (some m2)) ∧
 bindW (World.drew w) fun w3 =>
 ∃ (v4 : Value), ((Go.CW.subSlice p0 9 none (some (.int .i64 p1)) none) = (some v4)) ∧
 ∃ (v5 : Value), ((Go.CW.subSlice p0 9 (some (.int .i64 p2)) none none) = (some v5)) ∧
 bindW (World.drew w) fun w6 =>
 ∃ (v7 : Value) (w8 : World), ((Sem.run @Go.Proofs.Try.prog (Go.Builtin.append_ #[48, 48] 48 #[v4, v5]) w6) = (.ok v7 w8)) ∧
 ∃ (m9 : Nat), ((Go.CW.sliceLen v7) = (some m9)) ∧
 ∃ (v10 : Value), ((Go.CW.subSlice v7 9 (some (.int .i64 ((m9 : Nat) : Int))) (some (.int .i64 ((m2 : Nat) : Int))) none) = (some v10)) ∧
 ∃ (v11 : Value) (w12 : World), ((Sem.run @Go.Proofs.Try.prog (Go.Builtin.clear_ #[48] 0 #[v10]) w8) = (.ok v11 w12)) ∧
 R v7 w12)

theorem slices_Delete_35_wp (p0 : Value) (p1 : Int) (p2 : Int) (w : World) (R : KV) (h : slices_Delete_35_F p0 p1 p2 w R) : Go.CW.Spec Try.prog 35 #[p0, (.int .i64 p1), (.int .i64 p2)] w R :=
  spec_of Try.func35 (by kernel_rfl) (show slices_Delete_35_F p0 p1 p2 w R = _ by kernel_rfl) h

/-- (gemel/node.order).bytes -/
def node_order_bytes_m_F (p0_0 : Int) (p0_1 : Int) (p0_2 : Int) (p0_3 : Int) (p0_4 : Int) (p0_5 : Int) (p0_6 : Value) (p0_7 : Int) (p0_8 : Int) (p0_9 : Int) (p0_10 : Bool) (w : World) (R : KV) : Prop :=
 bindW (World.alloc w (.cells #[(.int .i64 p0_0), (.int .u64 p0_1), (.int .u64 p0_2), (.int .i64 p0_3), (.int .i64 p0_4), (.int .i64 p0_5), p0_6, (.int .u64 p0_7), (.int .u64 p0_8), (.int .i64 p0_9), (.bool p0_10)] 93)) fun w0 =>
 ∃ (n1 : Int), ((Go.World.cell? w0 (Addr.add ⟨w.heap.size, 0, none⟩ 0)) = (some (.int .i64 n1))) ∧
 Go.CW.Spec Try.prog 47 #[(.slice none 0 0), (.int .u64 (IntKind.wrap .u64 n1)), (.int .i64 (8 : Int))] w0 fun v2 w3 =>
 ∃ (n4 : Int), ((Go.World.cell? w3 (Addr.add ⟨w.heap.size, 0, none⟩ 1)) = (some (.int .u64 n4))) ∧
 ∃ (n5 : Int), ((Go.World.cell? w3 (Addr.add ⟨w.heap.size, 0, none⟩ 2)) = (some (.int .u64 n5))) ∧
 ∃ (n6 : Int), ((Go.World.cell? w3 (Addr.add (Addr.add ⟨w.heap.size, 0, none⟩ 3) 0)) = (some (.int .i64 n6))) ∧
 ∃ (n7 : Int), ((Go.World.cell? w3 (Addr.add (Addr.add ⟨w.heap.size, 0, none⟩ 3) 1)) = (some (.int .i64 n7))) ∧
 ∃ (n8 : Int), ((Go.World.cell? w3 (Addr.add (Addr.add ⟨w.heap.size, 0, none⟩ 3) 2)) = (some (.int .i64 n8))) ∧
 ∃ (n9 : Int), ((Go.World.cell? w3 (Addr.add (Addr.add ⟨w.heap.size, 0, none⟩ 3) 4)) = (some (.int .u64 n9))) ∧
 ∃ (n10 : Int), ((Go.World.cell? w3 (Addr.add (Addr.add ⟨w.heap.size, 0, none⟩ 3) 5)) = (some (.int .u64 n10))) ∧
 ∃ (n11 : Int), ((Go.World.cell? w3 (Addr.add (Addr.add ⟨w.heap.size, 0, none⟩ 3) 6)) = (some (.int .i64 n11))) ∧
 bindW (World.alloc w3 (.cells #[(.int .u64 n4), (.int .u64 n5), (.int .u64 (IntKind.wrap .u64 n6)), (.int .u64 (IntKind.wrap .u64 n7)), (.int .u64 (IntKind.wrap .u64 n8)), (.int .u64 n9), (.int .u64 n10), (.int .u64 (IntKind.wrap .u64 n11))] 29)) fun w12 =>
 ∃ (m13 : Nat), ((Go.CW.sliceLen (.slice (some ⟨w3.heap.size, 0, none⟩) 8 8)) = (some m13)) ∧
 LoopP [.val, .int .i64]
 (fun j14 => fun (v15 : Value) => fun (n16 : Int) => fun (w17 : World) =>
 cond (decide (n16 < ((m13 : Nat) : Int)))
 (∃ (a18 : Addr), ((Go.CW.sliceAt (.slice (some ⟨w3.heap.size, 0, none⟩) 8 8) n16 1) = (some a18)) ∧
 ∃ (n19 : Int), ((Go.World.cell? w17 a18) = (some (.int .u64 n19))) ∧
 Go.CW.Spec Try.prog 47 #[v15, (.int .u64 n19), (.int .i64 (8 : Int))] w17 fun v20 w21 =>
 j14 v20 (IntKind.wrap .i64 (n16 + (1 : Int))) w21)
 (bindW (World.drew w17) fun w22 =>
 ∃ (b23 : Bool), ((Go.World.cell? w22 (Addr.add (Addr.add ⟨w.heap.size, 0, none⟩ 3) 7)) = (some (.bool b23))) ∧
 ∃ (v24 : Value), ((Go.World.cell? w22 (Addr.add (Addr.add ⟨w.heap.size, 0, none⟩ 3) 3)) = (some v24)) ∧
 bindW (World.drew w17) fun w25 =>
 Go.CW.Spec Try.prog 48 #[(.bool b23)] w25 fun v26 w27 =>
 ∃ (n28 : Int), ((v26 : Value) = (.int .u64 n28)) ∧
 (∃ (v29 : Value), ((Go.World.cell? w27 (Addr.add (Addr.add ⟨w.heap.size, 0, none⟩ 3) 3)) = (some v29)) ∧
 (v29 : Value) = v24) ∧
 Go.CW.Spec Try.prog 47 #[v15, (.int .u64 n28), (.int .i64 (1 : Int))] w27 fun v30 w31 =>
 (∃ (v32 : Value), ((Go.World.cell? w31 (Addr.add (Addr.add ⟨w.heap.size, 0, none⟩ 3) 3)) = (some v32)) ∧
 (v32 : Value) = v24) ∧
 ∃ (v33 : Value) (w34 : World), ((Sem.run @Go.Proofs.Try.prog (Go.Builtin.append_ #[28, 28] 28 #[v30, v24]) w31) = (.ok v33 w34)) ∧
 R v33 w34))
 (fun s35 => s35 v2 (0 : Int) w12)

theorem node_order_bytes_m_wp (p0_0 : Int) (p0_1 : Int) (p0_2 : Int) (p0_3 : Int) (p0_4 : Int) (p0_5 : Int) (p0_6 : Value) (p0_7 : Int) (p0_8 : Int) (p0_9 : Int) (p0_10 : Bool) (w : World) (R : KV) (h : node_order_bytes_m_F p0_0 p0_1 p0_2 p0_3 p0_4 p0_5 p0_6 p0_7 p0_8 p0_9 p0_10 w R) : Go.CW.Spec Try.prog 42 #[(.agg #[(.int .i64 p0_0), (.int .u64 p0_1), (.int .u64 p0_2), (.int .i64 p0_3), (.int .i64 p0_4), (.int .i64 p0_5), p0_6, (.int .u64 p0_7), (.int .u64 p0_8), (.int .i64 p0_9), (.bool p0_10)])] w R :=
  spec_of Try.func42 (by kernel_rfl) (show node_order_bytes_m_F p0_0 p0_1 p0_2 p0_3 p0_4 p0_5 p0_6 p0_7 p0_8 p0_9 p0_10 w R = _ by kernel_rfl) h

/-- gemel/node.bit -/
def node_bit_F (p0 : Bool) (w : World) (R : KV) : Prop :=
 cond p0
 (R (.int .u64 (1 : Int)) w)
 (R (.int .u64 (0 : Int)) w)

theorem node_bit_wp (p0 : Bool) (w : World) (R : KV) (h : node_bit_F p0 w R) : Go.CW.Spec Try.prog 48 #[(.bool p0)] w R :=
  spec_of Try.func48 (by kernel_rfl) (show node_bit_F p0 w R = _ by kernel_rfl) h

end Go.Proofs.Ytmbdbplobnkleaa
