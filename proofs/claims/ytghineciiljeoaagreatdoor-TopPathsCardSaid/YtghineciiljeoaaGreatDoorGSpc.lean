/- The formulas of some functions, printed by a program (wip/cw/CwGen). -/
import Derived.Test.YtghineciiljeoaaGreatDoorNam
set_option linter.unusedVariables false
set_option maxRecDepth 100000
namespace Go.Proofs.YtghineciiljeoaaGreatDoor
open Go Go.CW

/-- gemel/space.New -/
def space_New_F (p0 : Int) (w : World) (R : KV) : Prop :=
 JoinP [.bool]
 (fun (b0 : Bool) => fun (w1 : World) =>
 cond b0
 (R (.tuple #[(.pointer none), (.int .i64 (1 : Int))]) w1)
 (JoinP [.ptr, .int .i64]
 (fun (o2 : Option Addr) => fun (n3 : Int) => fun (w4 : World) =>
 R (.tuple #[(.pointer o2), (.int .i64 n3)]) w4)
 (fun j5 =>
 bindW (World.drew w1) fun w6 =>
 bindW (World.drew w1) fun w7 =>
 (∃ (v8 : Value) (w9 : World), ((Sem.run @Go.Proofs.Tryz.prog (Go.Instr.makeSlice 34 (.int .i64 (IntKind.wrap .i64 (p0 * (8 : Int)))) (.int .i64 (IntKind.wrap .i64 (p0 * (8 : Int))))) w7) = (.ok v8 w9)) ∧
 Go.CW.Spec Tryz.prog 157 #[(.int .i64 p0)] w9 fun v10 w11 =>
 oneK v8 (oneK v10 (bindW (World.alloc w11 (.cells #[(.int .i64 p0), v8, v10] 277)) fun w12 =>
 bindW (World.alloc w11 (.cells #[(.int .i64 p0), v8, v10] 277)) fun w13 =>
 j5 (some ⟨w11.heap.size, 0, none⟩) (0 : Int) w13))) ∧
 Go.CW.Spec Tryz.prog 157 #[(.int .i64 p0)] w7 fun v14 w15 =>
 ∃ (v16 : Value) (w17 : World), ((Sem.run @Go.Proofs.Tryz.prog (Go.Instr.makeSlice 34 (.int .i64 (IntKind.wrap .i64 (p0 * (8 : Int)))) (.int .i64 (IntKind.wrap .i64 (p0 * (8 : Int))))) w15) = (.ok v16 w17)) ∧
 oneK v16 (oneK v14 (bindW (World.alloc w17 (.cells #[(.int .i64 p0), v16, v14] 277)) fun w18 =>
 bindW (World.alloc w17 (.cells #[(.int .i64 p0), v16, v14] 277)) fun w19 =>
 j5 (some ⟨w17.heap.size, 0, none⟩) (0 : Int) w19)))))
 (fun j20 =>
 cond (decide (p0 < (1 : Int)))
 (j20 true w)
 (j20 (decide (p0 > (1024 : Int))) w))

theorem space_New_wp (p0 : Int) (w : World) (R : KV) (h : space_New_F p0 w R) : Go.CW.Spec Tryz.prog 74 #[(.int .i64 p0)] w R :=
  spec_of Tryz.func74 (by kernel_rfl) (show space_New_F p0 w R = _ by kernel_rfl) h

/-- gemel/bits.New -/
def bits_New_F (p0 : Int) (w : World) (R : KV) : Prop :=
 JoinP [.bool]
 (fun (b0 : Bool) => fun (w1 : World) =>
 cond b0
 (R (.slice none 0 0) w1)
 (∃ (v2 : Value) (w3 : World), ((Sem.run @Go.Proofs.Tryz.prog (Go.Instr.makeSlice 274 (.int .i64 (IntKind.wrap .i64 (Int.tdiv (IntKind.wrap .i64 (p0 + (7 : Int))) (8 : Int)))) (.int .i64 (IntKind.wrap .i64 (Int.tdiv (IntKind.wrap .i64 (p0 + (7 : Int))) (8 : Int))))) w1) = (.ok v2 w3)) ∧
 R v2 w3))
 (fun j4 =>
 cond (decide (p0 < (1 : Int)))
 (j4 true w)
 (j4 (decide (p0 > (1048576 : Int))) w))

theorem bits_New_wp (p0 : Int) (w : World) (R : KV) (h : bits_New_F p0 w R) : Go.CW.Spec Tryz.prog 157 #[(.int .i64 p0)] w R :=
  spec_of Tryz.func157 (by kernel_rfl) (show bits_New_F p0 w R = _ by kernel_rfl) h

/-- (*gemel/space.Space).Write -/
def space_Space_Write_m_F (p0 : Option Addr) (p1 : Int) (p2 : Value) (w : World) (R : KV) : Prop :=
 ∃ (m0 : Nat), ((Go.CW.sliceLen p2) = (some m0)) ∧
 JoinP [.bool]
 (fun (b1 : Bool) => fun (w2 : World) =>
 cond b1
 (R (.int .i64 (1 : Int)) w2)
 (Go.CW.Spec Tryz.prog 206 #[(.pointer p0), (.int .i64 p1), (.int .i64 (IntKind.wrap .i64 (Int.tdiv ((m0 : Nat) : Int) (8 : Int))))] w2 fun v3 w4 =>
 ∃ (n5 : Int) (w6 : World), ((Sem.run @Go.Proofs.Tryz.prog (Go.Builtin.copy_ #[34, 34] 3 #[v3, p2]) w4) = (.ok (.int .i64 n5) w6)) ∧
 withAddr (.pointer p0) fun a7 =>
 ∃ (v8 : Value), ((Go.World.cell? w6 (Addr.add a7 2)) = (some v8)) ∧
 Go.CW.Spec Tryz.prog 291 #[v8, (.int .i64 p1), (.int .i64 (IntKind.wrap .i64 (Int.tdiv ((m0 : Nat) : Int) (8 : Int))))] w6 fun v9 w10 =>
 ∃ (n11 : Int), ((v9 : Value) = (.int .i64 n11)) ∧
 R (.int .i64 (0 : Int)) w10))
 (fun j12 =>
 ∃ (m13 : Nat), ((Go.CW.sliceLen p2) = (some m13)) ∧
 cond ((Int.tmod ((m13 : Nat) : Int) (8 : Int)) != (0 : Int))
 (j12 true w)
 (Go.CW.Spec Tryz.prog 235 #[(.pointer p0), (.int .i64 p1), (.int .i64 (IntKind.wrap .i64 (Int.tdiv ((m0 : Nat) : Int) (8 : Int))))] w fun v14 w15 =>
 ∃ (b16 : Bool), ((v14 : Value) = (.bool b16)) ∧
 j12 (!b16) w15))

theorem space_Space_Write_m_wp (p0 : Option Addr) (p1 : Int) (p2 : Value) (w : World) (R : KV) (h : space_Space_Write_m_F p0 p1 p2 w R) : Go.CW.Spec Tryz.prog 237 #[(.pointer p0), (.int .i64 p1), p2] w R :=
  spec_of Tryz.func237 (by kernel_rfl) (show space_Space_Write_m_F p0 p1 p2 w R = _ by kernel_rfl) h

/-- (gemel/bits.Map).Set -/
def bits_Map_Set_m_F (p0 : Value) (p1 : Int) (p2 : Int) (w : World) (R : KV) : Prop :=
 Go.CW.Spec Tryz.prog 334 #[p0, (.int .i64 p1), (.int .i64 p2), (.bool true)] w fun v0 w1 =>
 ∃ (n2 : Int), ((v0 : Value) = (.int .i64 n2)) ∧
 R (.int .i64 n2) w1

theorem bits_Map_Set_m_wp (p0 : Value) (p1 : Int) (p2 : Int) (w : World) (R : KV) (h : bits_Map_Set_m_F p0 p1 p2 w R) : Go.CW.Spec Tryz.prog 291 #[p0, (.int .i64 p1), (.int .i64 p2)] w R :=
  spec_of Tryz.func291 (by kernel_rfl) (show bits_Map_Set_m_F p0 p1 p2 w R = _ by kernel_rfl) h

/-- (*gemel/space.Space).Unmap -/
def space_Space_Unmap_m_F (p0 : Option Addr) (p1 : Int) (p2 : Int) (w : World) (R : KV) : Prop :=
 Go.CW.Spec Tryz.prog 235 #[(.pointer p0), (.int .i64 p1), (.int .i64 p2)] w fun v0 w1 =>
 ∃ (b2 : Bool), ((v0 : Value) = (.bool b2)) ∧
 cond (!b2)
 (R (.int .i64 (1 : Int)) w1)
 (Go.CW.Spec Tryz.prog 206 #[(.pointer p0), (.int .i64 p1), (.int .i64 p2)] w1 fun v3 w4 =>
 ∃ (v5 : Value) (w6 : World), ((Sem.run @Go.Proofs.Tryz.prog (Go.Builtin.clear_ #[34] 0 #[v3]) w4) = (.ok v5 w6)) ∧
 withAddr (.pointer p0) fun a7 =>
 ∃ (v8 : Value), ((Go.World.cell? w6 (Addr.add a7 2)) = (some v8)) ∧
 Go.CW.Spec Tryz.prog 292 #[v8, (.int .i64 p1), (.int .i64 p2)] w6 fun v9 w10 =>
 ∃ (n11 : Int), ((v9 : Value) = (.int .i64 n11)) ∧
 R (.int .i64 (0 : Int)) w10)

theorem space_Space_Unmap_m_wp (p0 : Option Addr) (p1 : Int) (p2 : Int) (w : World) (R : KV) (h : space_Space_Unmap_m_F p0 p1 p2 w R) : Go.CW.Spec Tryz.prog 238 #[(.pointer p0), (.int .i64 p1), (.int .i64 p2)] w R :=
  spec_of Tryz.func238 (by kernel_rfl) (show space_Space_Unmap_m_F p0 p1 p2 w R = _ by kernel_rfl) h

/-- (gemel/bits.Map).Unset -/
def bits_Map_Unset_m_F (p0 : Value) (p1 : Int) (p2 : Int) (w : World) (R : KV) : Prop :=
 Go.CW.Spec Tryz.prog 334 #[p0, (.int .i64 p1), (.int .i64 p2), (.bool false)] w fun v0 w1 =>
 ∃ (n2 : Int), ((v0 : Value) = (.int .i64 n2)) ∧
 R (.int .i64 n2) w1

theorem bits_Map_Unset_m_wp (p0 : Value) (p1 : Int) (p2 : Int) (w : World) (R : KV) (h : bits_Map_Unset_m_F p0 p1 p2 w R) : Go.CW.Spec Tryz.prog 292 #[p0, (.int .i64 p1), (.int .i64 p2)] w R :=
  spec_of Tryz.func292 (by kernel_rfl) (show bits_Map_Unset_m_F p0 p1 p2 w R = _ by kernel_rfl) h

/-- gemel/space.Decode -/
def space_Decode_F (p0 : Value) (w : World) (R : KV) : Prop :=
 Go.CW.Spec Tryz.prog 148 #[p0, (.int .i64 (0 : Int)), (.int .i64 (2 : Int))] w fun v0 w1 =>
 ∃ (n2 : Int) (b3 : Bool), ((v0 : Value) = (.tuple #[(.int .u64 n2), (.bool b3)])) ∧
 Go.CW.Spec Tryz.prog 74 #[(.int .i64 (IntKind.wrap .i64 n2))] w1 fun v4 w5 =>
 ∃ (o6 : Option Addr) (n7 : Int), ((v4 : Value) = (.tuple #[(.pointer o6), (.int .i64 n7)])) ∧
 JoinP [.bool]
 (fun (b8 : Bool) => fun (w9 : World) =>
 cond b8
 (R (.tuple #[(.pointer none), (.int .i64 (2 : Int))]) w9)
 (bindW (World.drew w9) fun w10 =>
 withAddr (.pointer o6) fun a11 =>
 ∃ (v12 : Value), ((Go.World.cell? w10 (Addr.add a11 2)) = (some v12)) ∧
 ∃ (v13 : Value), ((Go.CW.subSlice p0 1 (some (.int .i64 (2 : Int))) none none) = (some v13)) ∧
 bindW (World.drew w9) fun w14 =>
 ∃ (n15 : Int) (w16 : World), ((Sem.run @Go.Proofs.Tryz.prog (Go.Builtin.copy_ #[274, 34] 3 #[v12, v13]) w14) = (.ok (.int .i64 n15) w16)) ∧
 ∃ (v17 : Value), ((Go.CW.subSlice p0 1 (some (.int .i64 (IntKind.wrap .i64 ((2 : Int) + n15)))) none none) = (some v17)) ∧
 withAddr (.pointer o6) fun a18 =>
 ∃ (v19 : Value), ((Go.World.cell? w16 (Addr.add a18 2)) = (some v19)) ∧
 Go.CW.Spec Tryz.prog 205 #[v19] w16 fun v20 w21 =>
 ∃ (m22 : Nat), ((Go.CW.sliceLen v20) = (some m22)) ∧
 LoopP [.val, .int .i64]
 (fun j23 => fun (v24 : Value) => fun (n25 : Int) => fun (w26 : World) =>
 cond (decide (n25 < ((m22 : Nat) : Int)))
 (∃ (a27 : Addr), ((Go.CW.sliceAt v20 n25 2) = (some a27)) ∧
 ∃ (n28 : Int) (n29 : Int), (ldCells w26 a27 2 #[(.int .i64 n28), (.int .i64 n29)]) ∧
 bindW (World.alloc w26 (.cells #[(.int .i64 (0 : Int)), (.int .i64 (0 : Int))] 324)) fun w30 =>
 (StRow w30 ⟨w26.heap.size, 0, none⟩ #[(.int .i64 n28), (.int .i64 n29)]) ∧
 bindW (stRow w30 ⟨w26.heap.size, 0, none⟩ #[(.int .i64 n28), (.int .i64 n29)]) fun w31 =>
 JoinP [.bool]
 (fun (b32 : Bool) => fun (w33 : World) =>
 cond b32
 (R (.tuple #[(.pointer none), (.int .i64 (2 : Int))]) w33)
 ((inR (0 : Int) 2) ∧
 ∃ (n34 : Int), ((Go.World.cell? w33 (Addr.add ⟨w26.heap.size, 0, none⟩ 0)) = (some (.int .i64 n34))) ∧
 (inR (1 : Int) 2) ∧
 ∃ (n35 : Int), ((Go.World.cell? w33 (Addr.add ⟨w26.heap.size, 0, none⟩ 1)) = (some (.int .i64 n35))) ∧
 Go.CW.Spec Tryz.prog 206 #[(.pointer o6), (.int .i64 n34), (.int .i64 n35)] w33 fun v36 w37 =>
 ∃ (n38 : Int) (w39 : World), ((Sem.run @Go.Proofs.Tryz.prog (Go.Builtin.copy_ #[34, 34] 3 #[v36, v24]) w37) = (.ok (.int .i64 n38) w39)) ∧
 ∃ (v40 : Value), ((Go.CW.subSlice v24 1 (some (.int .i64 n38)) none none) = (some v40)) ∧
 j23 v40 (IntKind.wrap .i64 (n25 + (1 : Int))) w39))
 (fun j41 =>
 bindW (World.drew w31) fun w42 =>
 (inR (0 : Int) 2) ∧
 ∃ (n43 : Int), ((Go.World.cell? w42 (Addr.add ⟨w26.heap.size, 0, none⟩ 0)) = (some (.int .i64 n43))) ∧
 (inR (1 : Int) 2) ∧
 ∃ (n44 : Int), ((Go.World.cell? w42 (Addr.add ⟨w26.heap.size, 0, none⟩ 1)) = (some (.int .i64 n44))) ∧
 withAddr (.pointer o6) fun a45 =>
 ∃ (n46 : Int), ((Go.World.cell? w42 (Addr.add a45 0)) = (some (.int .i64 n46))) ∧
 cond (decide ((IntKind.wrap .i64 (n43 + n44)) > n46))
 (bindW (World.drew w31) fun w47 =>
 j41 true w47)
 (∃ (m48 : Nat), ((Go.CW.sliceLen v24) = (some m48)) ∧
 (inR (1 : Int) 2) ∧
 ∃ (n49 : Int), ((Go.World.cell? w42 (Addr.add ⟨w26.heap.size, 0, none⟩ 1)) = (some (.int .i64 n49))) ∧
 bindW (World.drew w31) fun w50 =>
 j41 (decide (((m48 : Nat) : Int) < (IntKind.wrap .i64 (n49 * (8 : Int))))) w50)))
 (Go.CW.Spec Tryz.prog 125 #[(.pointer o6)] w26 fun v51 w52 =>
 Go.CW.Spec Tryz.prog 134 #[v51, p0] w52 fun v53 w54 =>
 ∃ (b55 : Bool), ((v53 : Value) = (.bool b55)) ∧
 cond (!b55)
 (R (.tuple #[(.pointer none), (.int .i64 (2 : Int))]) w54)
 (R (.tuple #[(.pointer o6), (.int .i64 (0 : Int))]) w54)))
 (fun s56 => s56 v17 (0 : Int) w21)))
 (fun j57 =>
 cond (n7 != (0 : Int))
 (j57 true w5)
 (∃ (m58 : Nat), ((Go.CW.sliceLen p0) = (some m58)) ∧
 withAddr (.pointer o6) fun a59 =>
 ∃ (v60 : Value), ((Go.World.cell? w5 (Addr.add a59 2)) = (some v60)) ∧
 ∃ (m61 : Nat), ((Go.CW.sliceLen v60) = (some m61)) ∧
 j57 (decide (((m58 : Nat) : Int) < (IntKind.wrap .i64 ((2 : Int) + ((m61 : Nat) : Int))))) w5))

theorem space_Decode_wp (p0 : Value) (w : World) (R : KV) (h : space_Decode_F p0 w R) : Go.CW.Spec Tryz.prog 129 #[p0] w R :=
  spec_of Tryz.func129 (by kernel_rfl) (show space_Decode_F p0 w R = _ by kernel_rfl) h

/-- (*gemel/space.Space).Encode -/
def space_Space_Encode_m_F (p0 : Option Addr) (w : World) (R : KV) : Prop :=
 bindW (World.drew w) fun w0 =>
 withAddr (.pointer p0) fun a1 =>
 ∃ (n2 : Int), ((Go.World.cell? w0 (Addr.add a1 0)) = (some (.int .i64 n2))) ∧
 withAddr (.pointer p0) fun a3 =>
 ∃ (v4 : Value), ((Go.World.cell? w0 (Addr.add a3 2)) = (some v4)) ∧
 bindW (World.drew w) fun w5 =>
 Go.CW.Spec Tryz.prog 120 #[(.slice none 0 0), (.int .u64 (IntKind.wrap .u64 n2)), (.int .i64 (2 : Int))] w5 fun v6 w7 =>
 (∃ (v8 : Value), ((Go.World.cell? w7 (Addr.add a3 2)) = (some v8)) ∧
 (v8 : Value) = v4) ∧
 ∃ (v9 : Value) (w10 : World), ((Sem.run @Go.Proofs.Tryz.prog (Go.Builtin.append_ #[34, 274] 34 #[v6, v4]) w7) = (.ok v9 w10)) ∧
 withAddr (.pointer p0) fun a11 =>
 ∃ (v12 : Value), ((Go.World.cell? w10 (Addr.add a11 2)) = (some v12)) ∧
 Go.CW.Spec Tryz.prog 205 #[v12] w10 fun v13 w14 =>
 ∃ (m15 : Nat), ((Go.CW.sliceLen v13) = (some m15)) ∧
 LoopP [.val, .int .i64]
 (fun j16 => fun (v17 : Value) => fun (n18 : Int) => fun (w19 : World) =>
 cond (decide (n18 < ((m15 : Nat) : Int)))
 (∃ (a20 : Addr), ((Go.CW.sliceAt v13 n18 2) = (some a20)) ∧
 ∃ (n21 : Int) (n22 : Int), (ldCells w19 a20 2 #[(.int .i64 n21), (.int .i64 n22)]) ∧
 bindW (World.alloc w19 (.cells #[(.int .i64 (0 : Int)), (.int .i64 (0 : Int))] 324)) fun w23 =>
 (StRow w23 ⟨w19.heap.size, 0, none⟩ #[(.int .i64 n21), (.int .i64 n22)]) ∧
 bindW (stRow w23 ⟨w19.heap.size, 0, none⟩ #[(.int .i64 n21), (.int .i64 n22)]) fun w24 =>
 (inR (0 : Int) 2) ∧
 ∃ (n25 : Int), ((Go.World.cell? w24 (Addr.add ⟨w19.heap.size, 0, none⟩ 0)) = (some (.int .i64 n25))) ∧
 (inR (1 : Int) 2) ∧
 ∃ (n26 : Int), ((Go.World.cell? w24 (Addr.add ⟨w19.heap.size, 0, none⟩ 1)) = (some (.int .i64 n26))) ∧
 Go.CW.Spec Tryz.prog 206 #[(.pointer p0), (.int .i64 n25), (.int .i64 n26)] w24 fun v27 w28 =>
 ∃ (v29 : Value) (w30 : World), ((Sem.run @Go.Proofs.Tryz.prog (Go.Builtin.append_ #[34, 34] 34 #[v17, v27]) w28) = (.ok v29 w30)) ∧
 j16 v29 (IntKind.wrap .i64 (n18 + (1 : Int))) w30)
 (Go.CW.Spec Tryz.prog 96 #[v17] w19 fun v31 w32 =>
 R v31 w32))
 (fun s33 => s33 v9 (0 : Int) w14)

theorem space_Space_Encode_m_wp (p0 : Option Addr) (w : World) (R : KV) (h : space_Space_Encode_m_F p0 w R) : Go.CW.Spec Tryz.prog 125 #[(.pointer p0)] w R :=
  spec_of Tryz.func125 (by kernel_rfl) (show space_Space_Encode_m_F p0 w R = _ by kernel_rfl) h

/-- (*gemel/space.Space).In -/
def space_Space_In_m_F (p0 : Option Addr) (p1 : Int) (p2 : Int) (w : World) (R : KV) : Prop :=
 JoinP [.bool]
 (fun (b0 : Bool) => fun (w1 : World) =>
 R (.bool b0) w1)
 (fun j2 =>
 cond (decide (p2 ≥ (0 : Int)))
 (cond (decide (p2 ≤ (32 : Int)))
 (cond (decide (p1 ≥ (0 : Int)))
 (withAddr (.pointer p0) fun a3 =>
 ∃ (n4 : Int), ((Go.World.cell? w (Addr.add a3 0)) = (some (.int .i64 n4))) ∧
 cond (decide (p1 ≤ n4))
 (withAddr (.pointer p0) fun a5 =>
 ∃ (n6 : Int), ((Go.World.cell? w (Addr.add a5 0)) = (some (.int .i64 n6))) ∧
 j2 (decide (p2 ≤ (IntKind.wrap .i64 (n6 - p1)))) w)
 (j2 false w))
 (j2 false w))
 (j2 false w))
 (j2 false w))

theorem space_Space_In_m_wp (p0 : Option Addr) (p1 : Int) (p2 : Int) (w : World) (R : KV) (h : space_Space_In_m_F p0 p1 p2 w R) : Go.CW.Spec Tryz.prog 235 #[(.pointer p0), (.int .i64 p1), (.int .i64 p2)] w R :=
  spec_of Tryz.func235 (by kernel_rfl) (show space_Space_In_m_F p0 p1 p2 w R = _ by kernel_rfl) h

/-- (*gemel/space.Space).part -/
def space_Space_part_m_F (p0 : Option Addr) (p1 : Int) (p2 : Int) (w : World) (R : KV) : Prop :=
 withAddr (.pointer p0) fun a0 =>
 ∃ (v1 : Value), ((Go.World.cell? w (Addr.add a0 1)) = (some v1)) ∧
 ∃ (v2 : Value), ((Go.CW.subSlice v1 1 (some (.int .i64 (IntKind.wrap .i64 (p1 * (8 : Int))))) (some (.int .i64 (IntKind.wrap .i64 ((IntKind.wrap .i64 (p1 + p2)) * (8 : Int))))) none) = (some v2)) ∧
 R v2 w

theorem space_Space_part_m_wp (p0 : Option Addr) (p1 : Int) (p2 : Int) (w : World) (R : KV) (h : space_Space_part_m_F p0 p1 p2 w R) : Go.CW.Spec Tryz.prog 206 #[(.pointer p0), (.int .i64 p1), (.int .i64 p2)] w R :=
  spec_of Tryz.func206 (by kernel_rfl) (show space_Space_part_m_F p0 p1 p2 w R = _ by kernel_rfl) h

/-- (gemel/bits.Map).turn -/
def bits_Map_turn_m_F (p0 : Value) (p1 : Int) (p2 : Int) (p3 : Bool) (w : World) (R : KV) : Prop :=
 JoinP [.bool]
 (fun (b0 : Bool) => fun (w1 : World) =>
 cond b0
 (R (.int .i64 (0 : Int)) w1)
 (LoopP [.int .i64, .int .i64]
 (fun j2 => fun (n3 : Int) => fun (n4 : Int) => fun (w5 : World) =>
 ∃ (m6 : Nat), ((Go.CW.sliceLen p0) = (some m6)) ∧
 cond (decide (n4 < (IntKind.wrap .i64 (p1 + (if (IntKind.wrap .i64 ((IntKind.wrap .i64 ((8 : Int) * ((m6 : Nat) : Int))) - p1)) < p2 then (IntKind.wrap .i64 ((IntKind.wrap .i64 ((8 : Int) * ((m6 : Nat) : Int))) - p1)) else p2)))))
 (JoinP [.int .i64]
 (fun (n7 : Int) => fun (w8 : World) =>
 j2 n7 (IntKind.wrap .i64 (n4 + (1 : Int))) w8)
 (fun j9 =>
 Go.CW.Spec Tryz.prog 308 #[p0, (.int .i64 n4)] w5 fun v10 w11 =>
 ∃ (b12 : Bool), ((v10 : Value) = (.bool b12)) ∧
 cond (!(b12 == p3))
 (bindW (World.drew w11) fun w13 =>
 ∃ (a14 : Addr), ((Go.CW.sliceAt p0 (IntKind.wrap .i64 (Int.tdiv n4 (8 : Int))) 1) = (some a14)) ∧
 ∃ (n15 : Int), ((Go.World.cell? w13 a14) = (some (.int .u8 n15))) ∧
 leK (Int.tmod n4 (8 : Int)) (∃ (a16 : Addr), ((Go.CW.sliceAt p0 (IntKind.wrap .i64 (Int.tdiv n4 (8 : Int))) 1) = (some a16)) ∧
 bindW (World.drew w11) fun w17 =>
 (St1 w17 a16) ∧
 bindW (World.setCell w17 a16 (.int .u8 (bitsI .xor .u8 n15 (IntKind.wrap .u8 ((1 : Int) * ((2 : Int) ^ (min (Int.toNat (Int.tmod n4 (8 : Int))) 8))))))) fun w18 =>
 bindW (World.setCell w17 a16 (.int .u8 (bitsI .xor .u8 n15 (IntKind.wrap .u8 ((1 : Int) * ((2 : Int) ^ (min (Int.toNat (Int.tmod n4 (8 : Int))) 8))))))) fun w19 =>
 j9 (IntKind.wrap .i64 (n3 + (1 : Int))) w19))
 (j9 n3 w11)))
 (R (.int .i64 n3) w5))
 (fun s20 => s20 (0 : Int) p1 w1)))
 (fun j21 =>
 cond (decide (p1 < (0 : Int)))
 (j21 true w)
 (cond (decide (p2 < (0 : Int)))
 (j21 true w)
 (∃ (m22 : Nat), ((Go.CW.sliceLen p0) = (some m22)) ∧
 j21 (decide (p1 ≥ (IntKind.wrap .i64 ((8 : Int) * ((m22 : Nat) : Int))))) w)))

theorem bits_Map_turn_m_wp (p0 : Value) (p1 : Int) (p2 : Int) (p3 : Bool) (w : World) (R : KV) (h : bits_Map_turn_m_F p0 p1 p2 p3 w R) : Go.CW.Spec Tryz.prog 334 #[p0, (.int .i64 p1), (.int .i64 p2), (.bool p3)] w R :=
  spec_of Tryz.func334 (by kernel_rfl) (show bits_Map_turn_m_F p0 p1 p2 p3 w R = _ by kernel_rfl) h

/-- (gemel/bits.Map).Runs -/
def bits_Map_Runs_m_F (p0 : Value) (w : World) (R : KV) : Prop :=
 Go.CW.Spec Tryz.prog 261 #[p0, (.int .i64 (0 : Int)), (.bool true)] w fun v0 w1 =>
 ∃ (n2 : Int) (b3 : Bool), ((v0 : Value) = (.tuple #[(.int .i64 n2), (.bool b3)])) ∧
 LoopP [.val, .int .i64, .bool]
 (fun j4 => fun (v5 : Value) => fun (n6 : Int) => fun (b7 : Bool) => fun (w8 : World) =>
 cond b7
 (Go.CW.Spec Tryz.prog 261 #[p0, (.int .i64 n6), (.bool false)] w8 fun v9 w10 =>
 ∃ (n11 : Int) (b12 : Bool), ((v9 : Value) = (.tuple #[(.int .i64 n11), (.bool b12)])) ∧
 JoinP [.int .i64]
 (fun (n13 : Int) => fun (w14 : World) =>
 bindW (World.alloc w14 (.cells #[(.int .i64 n6), (.int .i64 (IntKind.wrap .i64 (n13 - n6)))] 324)) fun w15 =>
 ∃ (v16 : Value) (w17 : World), ((Sem.run @Go.Proofs.Tryz.prog (Go.Builtin.append_ #[322, 322] 322 #[v5, (.slice (some ⟨w14.heap.size, 0, none⟩) 1 1)]) w15) = (.ok v16 w17)) ∧
 Go.CW.Spec Tryz.prog 261 #[p0, (.int .i64 n13), (.bool true)] w17 fun v18 w19 =>
 ∃ (n20 : Int) (b21 : Bool), ((v18 : Value) = (.tuple #[(.int .i64 n20), (.bool b21)])) ∧
 j4 v16 n20 b21 w19)
 (fun j22 =>
 cond (!b12)
 (∃ (m23 : Nat), ((Go.CW.sliceLen p0) = (some m23)) ∧
 j22 (IntKind.wrap .i64 ((8 : Int) * ((m23 : Nat) : Int))) w10)
 (j22 n11 w10)))
 (Go.CW.Spec Tryz.prog 262 #[v5] w8 fun v24 w25 =>
 R v24 w25))
 (fun s26 => s26 (.slice none 0 0) n2 b3 w1)

theorem bits_Map_Runs_m_wp (p0 : Value) (w : World) (R : KV) (h : bits_Map_Runs_m_F p0 w R) : Go.CW.Spec Tryz.prog 205 #[p0] w R :=
  spec_of Tryz.func205 (by kernel_rfl) (show bits_Map_Runs_m_F p0 w R = _ by kernel_rfl) h

/-- (gemel/bits.Map).in -/
def bits_Map_in_m_F (p0 : Value) (p1 : Int) (w : World) (R : KV) : Prop :=
 JoinP [.bool]
 (fun (b0 : Bool) => fun (w1 : World) =>
 R (.bool b0) w1)
 (fun j2 =>
 cond (decide (p1 ≥ (0 : Int)))
 (∃ (m3 : Nat), ((Go.CW.sliceLen p0) = (some m3)) ∧
 j2 (decide (p1 < (IntKind.wrap .i64 ((8 : Int) * ((m3 : Nat) : Int))))) w)
 (j2 false w))

theorem bits_Map_in_m_wp (p0 : Value) (p1 : Int) (w : World) (R : KV) (h : bits_Map_in_m_F p0 p1 w R) : Go.CW.Spec Tryz.prog 307 #[p0, (.int .i64 p1)] w R :=
  spec_of Tryz.func307 (by kernel_rfl) (show bits_Map_in_m_F p0 p1 w R = _ by kernel_rfl) h

/-- (gemel/bits.Map).Has -/
def bits_Map_Has_m_F (p0 : Value) (p1 : Int) (w : World) (R : KV) : Prop :=
 JoinP [.bool]
 (fun (b0 : Bool) => fun (w1 : World) =>
 R (.bool b0) w1)
 (fun j2 =>
 Go.CW.Spec Tryz.prog 307 #[p0, (.int .i64 p1)] w fun v3 w4 =>
 ∃ (b5 : Bool), ((v3 : Value) = (.bool b5)) ∧
 cond b5
 (∃ (a6 : Addr), ((Go.CW.sliceAt p0 (IntKind.wrap .i64 (Int.tdiv p1 (8 : Int))) 1) = (some a6)) ∧
 ∃ (n7 : Int), ((Go.World.cell? w4 a6) = (some (.int .u8 n7))) ∧
 leK (Int.tmod p1 (8 : Int)) (j2 ((bitsI .and .u8 (Int.fdiv n7 ((2 : Int) ^ (min (Int.toNat (Int.tmod p1 (8 : Int))) 8))) (1 : Int)) == (1 : Int)) w4))
 (j2 false w4))

theorem bits_Map_Has_m_wp (p0 : Value) (p1 : Int) (w : World) (R : KV) (h : bits_Map_Has_m_F p0 p1 w R) : Go.CW.Spec Tryz.prog 308 #[p0, (.int .i64 p1)] w R :=
  spec_of Tryz.func308 (by kernel_rfl) (show bits_Map_Has_m_F p0 p1 w R = _ by kernel_rfl) h

/-- (gemel/bits.Map).Next -/
def bits_Map_Next_m_F (p0 : Value) (p1 : Int) (p2 : Bool) (w : World) (R : KV) : Prop :=
 LoopP [.int .i64]
 (fun j0 => fun (n1 : Int) => fun (w2 : World) =>
 Go.CW.Spec Tryz.prog 307 #[p0, (.int .i64 n1)] w2 fun v3 w4 =>
 ∃ (b5 : Bool), ((v3 : Value) = (.bool b5)) ∧
 cond (!b5)
 (R (.tuple #[(.int .i64 (0 : Int)), (.bool false)]) w4)
 (Go.CW.Spec Tryz.prog 308 #[p0, (.int .i64 n1)] w4 fun v6 w7 =>
 ∃ (b8 : Bool), ((v6 : Value) = (.bool b8)) ∧
 cond (b8 == p2)
 (R (.tuple #[(.int .i64 n1), (.bool true)]) w7)
 (j0 (IntKind.wrap .i64 (n1 + (1 : Int))) w7)))
 (fun s9 => s9 (if p1 < (0 : Int) then (0 : Int) else p1) w)

theorem bits_Map_Next_m_wp (p0 : Value) (p1 : Int) (p2 : Bool) (w : World) (R : KV) (h : bits_Map_Next_m_F p0 p1 p2 w R) : Go.CW.Spec Tryz.prog 261 #[p0, (.int .i64 p1), (.bool p2)] w R :=
  spec_of Tryz.func261 (by kernel_rfl) (show bits_Map_Next_m_F p0 p1 p2 w R = _ by kernel_rfl) h

/-- (*gemel/space.Space).Blocks -/
def space_Space_Blocks_m_F (p0 : Option Addr) (w : World) (R : KV) : Prop :=
 withAddr (.pointer p0) fun a0 =>
 ∃ (n1 : Int), ((Go.World.cell? w (Addr.add a0 0)) = (some (.int .i64 n1))) ∧
 R (.int .i64 n1) w

theorem space_Space_Blocks_m_wp (p0 : Option Addr) (w : World) (R : KV) (h : space_Space_Blocks_m_F p0 w R) : Go.CW.Spec Tryz.prog 132 #[(.pointer p0)] w R :=
  spec_of Tryz.func132 (by kernel_rfl) (show space_Space_Blocks_m_F p0 w R = _ by kernel_rfl) h

/-- (*gemel/space.Space).Read -/
def space_Space_Read_m_F (p0 : Option Addr) (p1 : Int) (p2 : Int) (w : World) (R : KV) : Prop :=
 Go.CW.Spec Tryz.prog 235 #[(.pointer p0), (.int .i64 p1), (.int .i64 p2)] w fun v0 w1 =>
 ∃ (b2 : Bool), ((v0 : Value) = (.bool b2)) ∧
 cond (!b2)
 (R (.tuple #[(.slice none 0 0), (.int .i64 (1 : Int))]) w1)
 (Go.CW.Spec Tryz.prog 206 #[(.pointer p0), (.int .i64 p1), (.int .i64 p2)] w1 fun v3 w4 =>
 Go.CW.Spec Tryz.prog 85 #[v3] w4 fun v5 w6 =>
 Go.CW.Spec Tryz.prog 96 #[v5] w6 fun v7 w8 =>
 R (.tuple #[v7, (.int .i64 (0 : Int))]) w8)

theorem space_Space_Read_m_wp (p0 : Option Addr) (p1 : Int) (p2 : Int) (w : World) (R : KV) (h : space_Space_Read_m_F p0 p1 p2 w R) : Go.CW.Spec Tryz.prog 236 #[(.pointer p0), (.int .i64 p1), (.int .i64 p2)] w R :=
  spec_of Tryz.func236 (by kernel_rfl) (show space_Space_Read_m_F p0 p1 p2 w R = _ by kernel_rfl) h

/-- (*gemel/space.Space).Compare -/
def space_Space_Compare_m_F (p0 : Option Addr) (p1 : Int) (p2 : Value) (w : World) (R : KV) : Prop :=
 ∃ (m0 : Nat), ((Go.CW.sliceLen p2) = (some m0)) ∧
 JoinP [.bool]
 (fun (b1 : Bool) => fun (w2 : World) =>
 cond b1
 (R (.tuple #[(.int .i64 (0 : Int)), (.int .i64 (1 : Int))]) w2)
 (Go.CW.Spec Tryz.prog 206 #[(.pointer p0), (.int .i64 p1), (.int .i64 (IntKind.wrap .i64 (Int.tdiv (IntKind.wrap .i64 (Int.tdiv ((m0 : Nat) : Int) (8 : Int))) (2 : Int))))] w2 fun v3 w4 =>
 ∃ (m5 : Nat), ((Go.CW.sliceLen v3) = (some m5)) ∧
 LoopP [.int .i64]
 (fun j6 => fun (n7 : Int) => fun (w8 : World) =>
 cond (decide (n7 < ((m5 : Nat) : Int)))
 (∃ (a9 : Addr), ((Go.CW.sliceAt v3 n7 1) = (some a9)) ∧
 ∃ (n10 : Int), ((Go.World.cell? w8 a9) = (some (.int .u8 n10))) ∧
 ∃ (a11 : Addr), ((Go.CW.sliceAt p2 n7 1) = (some a11)) ∧
 ∃ (n12 : Int), ((Go.World.cell? w8 a11) = (some (.int .u8 n12))) ∧
 cond (n10 != n12)
 (R (.tuple #[(.int .i64 n7), (.int .i64 (0 : Int))]) w8)
 (j6 (IntKind.wrap .i64 (n7 + (1 : Int))) w8))
 (∃ (v13 : Value), ((Go.CW.subSlice p2 1 (some (.int .i64 (IntKind.wrap .i64 ((IntKind.wrap .i64 (Int.tdiv (IntKind.wrap .i64 (Int.tdiv ((m0 : Nat) : Int) (8 : Int))) (2 : Int))) * (8 : Int))))) none none) = (some v13)) ∧
 Go.CW.Spec Tryz.prog 237 #[(.pointer p0), (.int .i64 p1), v13] w8 fun v14 w15 =>
 ∃ (n16 : Int), ((v14 : Value) = (.int .i64 n16)) ∧
 R (.tuple #[(.int .i64 (-1 : Int)), (.int .i64 (0 : Int))]) w15))
 (fun s17 => s17 (0 : Int) w4)))
 (fun j18 =>
 ∃ (m19 : Nat), ((Go.CW.sliceLen p2) = (some m19)) ∧
 cond ((Int.tmod ((m19 : Nat) : Int) (16 : Int)) != (0 : Int))
 (j18 true w)
 (Go.CW.Spec Tryz.prog 235 #[(.pointer p0), (.int .i64 p1), (.int .i64 (IntKind.wrap .i64 (Int.tdiv (IntKind.wrap .i64 (Int.tdiv ((m0 : Nat) : Int) (8 : Int))) (2 : Int))))] w fun v20 w21 =>
 ∃ (b22 : Bool), ((v20 : Value) = (.bool b22)) ∧
 j18 (!b22) w21))

theorem space_Space_Compare_m_wp (p0 : Option Addr) (p1 : Int) (p2 : Value) (w : World) (R : KV) (h : space_Space_Compare_m_F p0 p1 p2 w R) : Go.CW.Spec Tryz.prog 239 #[(.pointer p0), (.int .i64 p1), p2] w R :=
  spec_of Tryz.func239 (by kernel_rfl) (show space_Space_Compare_m_F p0 p1 p2 w R = _ by kernel_rfl) h

end Go.Proofs.YtghineciiljeoaaGreatDoor
