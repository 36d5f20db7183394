/- Texts of this seat, one behind the other: GSpc, GClp, GSpd, GRsv, GLu, GTpk, GPrl, GPth, GMph, GTim, GNet. -/
import Derived.Test.YtghineciiljeoaaGreatDoorQNam
set_option linter.unusedVariables false
set_option maxRecDepth 100000
namespace Go.Proofs.YtghineciiljeoaaGreatDoor
section
open Go Go.CW
def q95F (p0 : Int) (w : World) (R : KV) : Prop :=
 JoinP [.bool]
 (fun (b0 : Bool) => fun (w1 : World) =>
 cond b0
 (R (.tuple #[.pointer none, .int .i64 1]) w1)
 (JoinP [.ptr, .int .i64]
 (fun (o2 : Option Addr) => fun (n3 : Int) => fun (w4 : World) =>
 R (.tuple #[.pointer o2, .int .i64 n3]) w4)
 (fun j5 =>
 bindW (World.drew w1) fun w6 =>
 bindW (World.drew w1) fun w7 =>
 (∃ (v8 : Value) (w9 : World), ((Sem.run Tryz.prog (Instr.makeSlice 34 (.int .i64 (IntKind.wrap .i64 (p0 * 8))) (.int .i64 (IntKind.wrap .i64 (p0 * 8)))) w7) = (.ok v8 w9)) ∧
 CW.Spec Tryz.prog 157 #[.int .i64 p0] w9 fun v10 w11 =>
 oneK v8 (oneK v10 (bindW (World.alloc w11 (.cells #[.int .i64 p0, v8, v10] 277)) fun w12 =>
 bindW (World.alloc w11 (.cells #[.int .i64 p0, v8, v10] 277)) fun w13 =>
 j5 (some ⟨w11.heap.size, 0, none⟩) (0 : Int) w13))) ∧
 CW.Spec Tryz.prog 157 #[.int .i64 p0] w7 fun v14 w15 =>
 ∃ (v16 : Value) (w17 : World), ((Sem.run Tryz.prog (Instr.makeSlice 34 (.int .i64 (IntKind.wrap .i64 (p0 * 8))) (.int .i64 (IntKind.wrap .i64 (p0 * 8)))) w15) = (.ok v16 w17)) ∧
 oneK v16 (oneK v14 (bindW (World.alloc w17 (.cells #[.int .i64 p0, v16, v14] 277)) fun w18 =>
 bindW (World.alloc w17 (.cells #[.int .i64 p0, v16, v14] 277)) fun w19 =>
 j5 (some ⟨w17.heap.size, 0, none⟩) (0 : Int) w19)))))
 (fun j20 =>
 cond (decide (p0 < 1))
 (j20 true w)
 (j20 (decide (p0 > 1024)) w))
theorem q95W (p0 w R) (h : q95F p0 w R) : CW.Spec Tryz.prog 74 #[.int .i64 p0] w R :=
 sp Tryz.func74 h
def q12F (p0 : Int) (w : World) (R : KV) : Prop :=
 JoinP [.bool]
 (fun (b0 : Bool) => fun (w1 : World) =>
 cond b0
 (R (.slice none 0 0) w1)
 (∃ (v2 : Value) (w3 : World), ((Sem.run Tryz.prog (Instr.makeSlice 274 (.int .i64 (IntKind.wrap .i64 (Int.tdiv (IntKind.wrap .i64 (p0 + 7)) (8 : Int)))) (.int .i64 (IntKind.wrap .i64 (Int.tdiv (IntKind.wrap .i64 (p0 + 7)) (8 : Int))))) w1) = (.ok v2 w3)) ∧
 R v2 w3))
 (fun j4 =>
 cond (decide (p0 < 1))
 (j4 true w)
 (j4 (decide (p0 > 1048576)) w))
theorem q12W (p0 w R) (h : q12F p0 w R) : CW.Spec Tryz.prog 157 #[.int .i64 p0] w R :=
 sp Tryz.func157 h
def q102F (p0 : Option Addr) (p1 : Int) (p2 : Value) (w : World) (R : KV) : Prop :=
 ∃ m0, sliceLen p2 = some m0 ∧
 JoinP [.bool]
 (fun (b1 : Bool) => fun (w2 : World) =>
 cond b1
 (R (.int .i64 1) w2)
 (CW.Spec Tryz.prog 206 #[.pointer p0, .int .i64 p1, (.int .i64 (IntKind.wrap .i64 (Int.tdiv ((m0 : Nat) : Int) (8 : Int))))] w2 fun v3 w4 =>
 ∃ (n5 : Int) (w6 : World), ((Sem.run Tryz.prog (Builtin.copy_ #[34, 34] 3 #[v3, p2]) w4) = (.ok (.int .i64 n5) w6)) ∧
 withAddr (.pointer p0) fun a7 =>
 ∃ v8, World.cell? w6 (Addr.add a7 2) = some v8 ∧
 CW.Spec Tryz.prog 291 #[v8, .int .i64 p1, (.int .i64 (IntKind.wrap .i64 (Int.tdiv ((m0 : Nat) : Int) (8 : Int))))] w6 fun v9 w10 =>
 ∃ (n11 : Int), v9 = .int .i64 n11 ∧
 R (.int .i64 0) w10))
 (fun j12 =>
 ∃ m13, sliceLen p2 = some m13 ∧
 cond ((Int.tmod ((m13 : Nat) : Int) (8 : Int)) != 0)
 (j12 true w)
 (CW.Spec Tryz.prog 235 #[.pointer p0, .int .i64 p1, (.int .i64 (IntKind.wrap .i64 (Int.tdiv ((m0 : Nat) : Int) (8 : Int))))] w fun v14 w15 =>
 ∃ (b16 : Bool), v14 = .bool b16 ∧
 j12 (!b16) w15))
theorem q102W (p0 p1 p2 w R) (h : q102F p0 p1 p2 w R) : CW.Spec Tryz.prog 237 #[.pointer p0, .int .i64 p1, p2] w R :=
 sp Tryz.func237 h
def q8F (p0 : Value) (p1 : Int) (p2 : Int) (w : World) (R : KV) : Prop :=
 CW.Spec Tryz.prog 334 #[p0, .int .i64 p1, .int .i64 p2, .bool true] w fun v0 w1 =>
 ∃ (n2 : Int), v0 = .int .i64 n2 ∧
 R (.int .i64 n2) w1
theorem q8W (p0 p1 p2 w R) (h : q8F p0 p1 p2 w R) : CW.Spec Tryz.prog 291 #[p0, .int .i64 p1, .int .i64 p2] w R :=
 sp Tryz.func291 h
def q101F (p0 : Option Addr) (p1 : Int) (p2 : Int) (w : World) (R : KV) : Prop :=
 CW.Spec Tryz.prog 235 #[.pointer p0, .int .i64 p1, .int .i64 p2] w fun v0 w1 =>
 ∃ (b2 : Bool), v0 = .bool b2 ∧
 cond (!b2)
 (R (.int .i64 1) w1)
 (CW.Spec Tryz.prog 206 #[.pointer p0, .int .i64 p1, .int .i64 p2] w1 fun v3 w4 =>
 ∃ (v5 : Value) (w6 : World), ((Sem.run Tryz.prog (Builtin.clear_ #[34] 0 #[v3]) w4) = (.ok v5 w6)) ∧
 withAddr (.pointer p0) fun a7 =>
 ∃ v8, World.cell? w6 (Addr.add a7 2) = some v8 ∧
 CW.Spec Tryz.prog 292 #[v8, .int .i64 p1, .int .i64 p2] w6 fun v9 w10 =>
 ∃ (n11 : Int), v9 = .int .i64 n11 ∧
 R (.int .i64 0) w10)
theorem q101W (p0 p1 p2 w R) (h : q101F p0 p1 p2 w R) : CW.Spec Tryz.prog 238 #[.pointer p0, .int .i64 p1, .int .i64 p2] w R :=
 sp Tryz.func238 h
def q9F (p0 : Value) (p1 : Int) (p2 : Int) (w : World) (R : KV) : Prop :=
 CW.Spec Tryz.prog 334 #[p0, .int .i64 p1, .int .i64 p2, .bool false] w fun v0 w1 =>
 ∃ (n2 : Int), v0 = .int .i64 n2 ∧
 R (.int .i64 n2) w1
theorem q9W (p0 p1 p2 w R) (h : q9F p0 p1 p2 w R) : CW.Spec Tryz.prog 292 #[p0, .int .i64 p1, .int .i64 p2] w R :=
 sp Tryz.func292 h
def q94F (p0 : Value) (w : World) (R : KV) : Prop :=
 CW.Spec Tryz.prog 148 #[p0, .int .i64 0, .int .i64 2] w fun v0 w1 =>
 ∃ (n2 : Int) (b3 : Bool), v0 = .tuple #[.int .u64 n2, .bool b3] ∧
 CW.Spec Tryz.prog 74 #[(.int .i64 (IntKind.wrap .i64 n2))] w1 fun v4 w5 =>
 ∃ (o6 : Option Addr) (n7 : Int), v4 = .tuple #[.pointer o6, .int .i64 n7] ∧
 JoinP [.bool]
 (fun (b8 : Bool) => fun (w9 : World) =>
 cond b8
 (R (.tuple #[.pointer none, .int .i64 2]) w9)
 (bindW (World.drew w9) fun w10 =>
 withAddr (.pointer o6) fun a11 =>
 ∃ v12, World.cell? w10 (Addr.add a11 2) = some v12 ∧
 ∃ (v13 : Value), ((subSlice p0 1 (some (.int .i64 2)) none none) = (some v13)) ∧
 bindW (World.drew w9) fun w14 =>
 ∃ (n15 : Int) (w16 : World), ((Sem.run Tryz.prog (Builtin.copy_ #[274, 34] 3 #[v12, v13]) w14) = (.ok (.int .i64 n15) w16)) ∧
 ∃ (v17 : Value), ((subSlice p0 1 (some (.int .i64 (IntKind.wrap .i64 ((2 : Int) + n15)))) none none) = (some v17)) ∧
 withAddr (.pointer o6) fun a18 =>
 ∃ v19, World.cell? w16 (Addr.add a18 2) = some v19 ∧
 CW.Spec Tryz.prog 205 #[v19] w16 fun v20 w21 =>
 ∃ m22, sliceLen v20 = some m22 ∧
 LoopP [.val, .int .i64]
 (fun j23 => fun (v24 : Value) => fun (n25 : Int) => fun (w26 : World) =>
 cond (decide (n25 < ((m22 : Nat) : Int)))
 (∃ a27, sliceAt v20 n25 2 = some a27 ∧
 ∃ (n28 : Int) (n29 : Int), (ldCells w26 a27 2 #[.int .i64 n28, .int .i64 n29]) ∧
 bindW (World.alloc w26 (.cells #[.int .i64 0, .int .i64 0] 324)) fun w30 =>
 (StRow w30 ⟨w26.heap.size, 0, none⟩ #[.int .i64 n28, .int .i64 n29]) ∧
 bindW (stRow w30 ⟨w26.heap.size, 0, none⟩ #[.int .i64 n28, .int .i64 n29]) fun w31 =>
 JoinP [.bool]
 (fun (b32 : Bool) => fun (w33 : World) =>
 cond b32
 (R (.tuple #[.pointer none, .int .i64 2]) w33)
 ((inR (0 : Int) 2) ∧
 ∃ n34, World.cell? w33 (Addr.add ⟨w26.heap.size, 0, none⟩ 0) = some (.int .i64 n34) ∧
 (inR (1 : Int) 2) ∧
 ∃ n35, World.cell? w33 (Addr.add ⟨w26.heap.size, 0, none⟩ 1) = some (.int .i64 n35) ∧
 CW.Spec Tryz.prog 206 #[.pointer o6, .int .i64 n34, .int .i64 n35] w33 fun v36 w37 =>
 ∃ (n38 : Int) (w39 : World), ((Sem.run Tryz.prog (Builtin.copy_ #[34, 34] 3 #[v36, v24]) w37) = (.ok (.int .i64 n38) w39)) ∧
 ∃ (v40 : Value), ((subSlice v24 1 (some (.int .i64 n38)) none none) = (some v40)) ∧
 j23 v40 (IntKind.wrap .i64 (n25 + 1)) w39))
 (fun j41 =>
 bindW (World.drew w31) fun w42 =>
 (inR (0 : Int) 2) ∧
 ∃ n43, World.cell? w42 (Addr.add ⟨w26.heap.size, 0, none⟩ 0) = some (.int .i64 n43) ∧
 (inR (1 : Int) 2) ∧
 ∃ n44, World.cell? w42 (Addr.add ⟨w26.heap.size, 0, none⟩ 1) = some (.int .i64 n44) ∧
 withAddr (.pointer o6) fun a45 =>
 ∃ n46, World.cell? w42 (Addr.add a45 0) = some (.int .i64 n46) ∧
 cond (decide ((IntKind.wrap .i64 (n43 + n44)) > n46))
 (bindW (World.drew w31) fun w47 =>
 j41 true w47)
 (∃ m48, sliceLen v24 = some m48 ∧
 (inR (1 : Int) 2) ∧
 ∃ n49, World.cell? w42 (Addr.add ⟨w26.heap.size, 0, none⟩ 1) = some (.int .i64 n49) ∧
 bindW (World.drew w31) fun w50 =>
 j41 (decide (((m48 : Nat) : Int) < (IntKind.wrap .i64 (n49 * 8)))) w50)))
 (CW.Spec Tryz.prog 125 #[.pointer o6] w26 fun v51 w52 =>
 CW.Spec Tryz.prog 134 #[v51, p0] w52 fun v53 w54 =>
 ∃ (b55 : Bool), v53 = .bool b55 ∧
 cond (!b55)
 (R (.tuple #[.pointer none, .int .i64 2]) w54)
 (R (.tuple #[.pointer o6, .int .i64 0]) w54)))
 (fun s56 => s56 v17 (0 : Int) w21)))
 (fun j57 =>
 cond (n7 != 0)
 (j57 true w5)
 (∃ m58, sliceLen p0 = some m58 ∧
 withAddr (.pointer o6) fun a59 =>
 ∃ v60, World.cell? w5 (Addr.add a59 2) = some v60 ∧
 ∃ m61, sliceLen v60 = some m61 ∧
 j57 (decide (((m58 : Nat) : Int) < (IntKind.wrap .i64 ((2 : Int) + ((m61 : Nat) : Int))))) w5))
theorem q94W (p0 w R) (h : q94F p0 w R) : CW.Spec Tryz.prog 129 #[p0] w R :=
 sp Tryz.func129 h
def q98F (p0 : Option Addr) (w : World) (R : KV) : Prop :=
 bindW (World.drew w) fun w0 =>
 withAddr (.pointer p0) fun a1 =>
 ∃ n2, World.cell? w0 (Addr.add a1 0) = some (.int .i64 n2) ∧
 withAddr (.pointer p0) fun a3 =>
 ∃ v4, World.cell? w0 (Addr.add a3 2) = some v4 ∧
 bindW (World.drew w) fun w5 =>
 CW.Spec Tryz.prog 120 #[.slice none 0 0, (.int .u64 (IntKind.wrap .u64 n2)), .int .i64 2] w5 fun v6 w7 =>
 (∃ v8, World.cell? w7 (Addr.add a3 2) = some v8 ∧
 (v8 : Value) = v4) ∧
 ∃ (v9 : Value) (w10 : World), ((Sem.run Tryz.prog (Builtin.append_ #[34, 274] 34 #[v6, v4]) w7) = (.ok v9 w10)) ∧
 withAddr (.pointer p0) fun a11 =>
 ∃ v12, World.cell? w10 (Addr.add a11 2) = some v12 ∧
 CW.Spec Tryz.prog 205 #[v12] w10 fun v13 w14 =>
 ∃ m15, sliceLen v13 = some m15 ∧
 LoopP [.val, .int .i64]
 (fun j16 => fun (v17 : Value) => fun (n18 : Int) => fun (w19 : World) =>
 cond (decide (n18 < ((m15 : Nat) : Int)))
 (∃ a20, sliceAt v13 n18 2 = some a20 ∧
 ∃ (n21 : Int) (n22 : Int), (ldCells w19 a20 2 #[.int .i64 n21, .int .i64 n22]) ∧
 bindW (World.alloc w19 (.cells #[.int .i64 0, .int .i64 0] 324)) fun w23 =>
 (StRow w23 ⟨w19.heap.size, 0, none⟩ #[.int .i64 n21, .int .i64 n22]) ∧
 bindW (stRow w23 ⟨w19.heap.size, 0, none⟩ #[.int .i64 n21, .int .i64 n22]) fun w24 =>
 (inR (0 : Int) 2) ∧
 ∃ n25, World.cell? w24 (Addr.add ⟨w19.heap.size, 0, none⟩ 0) = some (.int .i64 n25) ∧
 (inR (1 : Int) 2) ∧
 ∃ n26, World.cell? w24 (Addr.add ⟨w19.heap.size, 0, none⟩ 1) = some (.int .i64 n26) ∧
 CW.Spec Tryz.prog 206 #[.pointer p0, .int .i64 n25, .int .i64 n26] w24 fun v27 w28 =>
 ∃ (v29 : Value) (w30 : World), ((Sem.run Tryz.prog (Builtin.append_ #[34, 34] 34 #[v17, v27]) w28) = (.ok v29 w30)) ∧
 j16 v29 (IntKind.wrap .i64 (n18 + 1)) w30)
 (CW.Spec Tryz.prog 96 #[v17] w19 fun v31 w32 =>
 R v31 w32))
 (fun s33 => s33 v9 (0 : Int) w14)
theorem q98W (p0 w R) (h : q98F p0 w R) : CW.Spec Tryz.prog 125 #[.pointer p0] w R :=
 sp Tryz.func125 h
def q99F (p0 : Option Addr) (p1 : Int) (p2 : Int) (w : World) (R : KV) : Prop :=
 JoinP [.bool]
 (fun (b0 : Bool) => fun (w1 : World) =>
 R (.bool b0) w1)
 (fun j2 =>
 cond (decide (p2 ≥ 0))
 (cond (decide (p2 ≤ 32))
 (cond (decide (p1 ≥ 0))
 (withAddr (.pointer p0) fun a3 =>
 ∃ n4, World.cell? w (Addr.add a3 0) = some (.int .i64 n4) ∧
 cond (decide (p1 ≤ n4))
 (withAddr (.pointer p0) fun a5 =>
 ∃ n6, World.cell? w (Addr.add a5 0) = some (.int .i64 n6) ∧
 j2 (decide (p2 ≤ (IntKind.wrap .i64 (n6 - p1)))) w)
 (j2 false w))
 (j2 false w))
 (j2 false w))
 (j2 false w))
theorem q99W (p0 p1 p2 w R) (h : q99F p0 p1 p2 w R) : CW.Spec Tryz.prog 235 #[.pointer p0, .int .i64 p1, .int .i64 p2] w R :=
 sp Tryz.func235 h
def q103F (p0 : Option Addr) (p1 : Int) (p2 : Int) (w : World) (R : KV) : Prop :=
 withAddr (.pointer p0) fun a0 =>
 ∃ v1, World.cell? w (Addr.add a0 1) = some v1 ∧
 ∃ (v2 : Value), ((subSlice v1 1 (some (.int .i64 (IntKind.wrap .i64 (p1 * 8)))) (some (.int .i64 (IntKind.wrap .i64 ((IntKind.wrap .i64 (p1 + p2)) * 8)))) none) = (some v2)) ∧
 R v2 w
theorem q103W (p0 p1 p2 w R) (h : q103F p0 p1 p2 w R) : CW.Spec Tryz.prog 206 #[.pointer p0, .int .i64 p1, .int .i64 p2] w R :=
 sp Tryz.func206 h
def q11F (p0 : Value) (p1 : Int) (p2 : Int) (p3 : Bool) (w : World) (R : KV) : Prop :=
 JoinP [.bool]
 (fun (b0 : Bool) => fun (w1 : World) =>
 cond b0
 (R (.int .i64 0) w1)
 (LoopP [.int .i64, .int .i64]
 (fun j2 => fun (n3 : Int) => fun (n4 : Int) => fun (w5 : World) =>
 ∃ m6, sliceLen p0 = some m6 ∧
 cond (decide (n4 < (IntKind.wrap .i64 (p1 + (if (IntKind.wrap .i64 ((IntKind.wrap .i64 ((8 : Int) * ((m6 : Nat) : Int))) - p1)) < p2 then (IntKind.wrap .i64 ((IntKind.wrap .i64 ((8 : Int) * ((m6 : Nat) : Int))) - p1)) else p2)))))
 (JoinP [.int .i64]
 (fun (n7 : Int) => fun (w8 : World) =>
 j2 n7 (IntKind.wrap .i64 (n4 + 1)) w8)
 (fun j9 =>
 CW.Spec Tryz.prog 308 #[p0, .int .i64 n4] w5 fun v10 w11 =>
 ∃ (b12 : Bool), v10 = .bool b12 ∧
 cond (!(b12 == p3))
 (bindW (World.drew w11) fun w13 =>
 ∃ a14, sliceAt p0 (IntKind.wrap .i64 (Int.tdiv n4 (8 : Int))) 1 = some a14 ∧
 ∃ n15, World.cell? w13 a14 = some (.int .u8 n15) ∧
 leK (Int.tmod n4 (8 : Int)) (∃ a16, sliceAt p0 (IntKind.wrap .i64 (Int.tdiv n4 (8 : Int))) 1 = some a16 ∧
 bindW (World.drew w11) fun w17 =>
 (St1 w17 a16) ∧
 bindW (World.setCell w17 a16 (.int .u8 (bitsI .xor .u8 n15 (IntKind.wrap .u8 ((1 : Int) * ((2 : Int) ^ (min (Int.toNat (Int.tmod n4 (8 : Int))) 8))))))) fun w18 =>
 bindW (World.setCell w17 a16 (.int .u8 (bitsI .xor .u8 n15 (IntKind.wrap .u8 ((1 : Int) * ((2 : Int) ^ (min (Int.toNat (Int.tmod n4 (8 : Int))) 8))))))) fun w19 =>
 j9 (IntKind.wrap .i64 (n3 + 1)) w19))
 (j9 n3 w11)))
 (R (.int .i64 n3) w5))
 (fun s20 => s20 (0 : Int) p1 w1)))
 (fun j21 =>
 cond (decide (p1 < 0))
 (j21 true w)
 (cond (decide (p2 < 0))
 (j21 true w)
 (∃ m22, sliceLen p0 = some m22 ∧
 j21 (decide (p1 ≥ (IntKind.wrap .i64 ((8 : Int) * ((m22 : Nat) : Int))))) w)))
theorem q11W (p0 p1 p2 p3 w R) (h : q11F p0 p1 p2 p3 w R) : CW.Spec Tryz.prog 334 #[p0, .int .i64 p1, .int .i64 p2, .bool p3] w R :=
 sp Tryz.func334 h
def q7F (p0 : Value) (w : World) (R : KV) : Prop :=
 CW.Spec Tryz.prog 261 #[p0, .int .i64 0, .bool true] w fun v0 w1 =>
 ∃ (n2 : Int) (b3 : Bool), v0 = .tuple #[.int .i64 n2, .bool b3] ∧
 LoopP [.val, .int .i64, .bool]
 (fun j4 => fun (v5 : Value) => fun (n6 : Int) => fun (b7 : Bool) => fun (w8 : World) =>
 cond b7
 (CW.Spec Tryz.prog 261 #[p0, .int .i64 n6, .bool false] w8 fun v9 w10 =>
 ∃ (n11 : Int) (b12 : Bool), v9 = .tuple #[.int .i64 n11, .bool b12] ∧
 JoinP [.int .i64]
 (fun (n13 : Int) => fun (w14 : World) =>
 bindW (World.alloc w14 (.cells #[.int .i64 n6, (.int .i64 (IntKind.wrap .i64 (n13 - n6)))] 324)) fun w15 =>
 ∃ (v16 : Value) (w17 : World), ((Sem.run Tryz.prog (Builtin.append_ #[322, 322] 322 #[v5, (.slice (some ⟨w14.heap.size, 0, none⟩) 1 1)]) w15) = (.ok v16 w17)) ∧
 CW.Spec Tryz.prog 261 #[p0, .int .i64 n13, .bool true] w17 fun v18 w19 =>
 ∃ (n20 : Int) (b21 : Bool), v18 = .tuple #[.int .i64 n20, .bool b21] ∧
 j4 v16 n20 b21 w19)
 (fun j22 =>
 cond (!b12)
 (∃ m23, sliceLen p0 = some m23 ∧
 j22 (IntKind.wrap .i64 ((8 : Int) * ((m23 : Nat) : Int))) w10)
 (j22 n11 w10)))
 (CW.Spec Tryz.prog 262 #[v5] w8 fun v24 w25 =>
 R v24 w25))
 (fun s26 => s26 (.slice none 0 0) n2 b3 w1)
theorem q7W (p0 w R) (h : q7F p0 w R) : CW.Spec Tryz.prog 205 #[p0] w R :=
 sp Tryz.func205 h
def q10F (p0 : Value) (p1 : Int) (w : World) (R : KV) : Prop :=
 JoinP [.bool]
 (fun (b0 : Bool) => fun (w1 : World) =>
 R (.bool b0) w1)
 (fun j2 =>
 cond (decide (p1 ≥ 0))
 (∃ m3, sliceLen p0 = some m3 ∧
 j2 (decide (p1 < (IntKind.wrap .i64 ((8 : Int) * ((m3 : Nat) : Int))))) w)
 (j2 false w))
theorem q10W (p0 p1 w R) (h : q10F p0 p1 w R) : CW.Spec Tryz.prog 307 #[p0, .int .i64 p1] w R :=
 sp Tryz.func307 h
def q5F (p0 : Value) (p1 : Int) (w : World) (R : KV) : Prop :=
 JoinP [.bool]
 (fun (b0 : Bool) => fun (w1 : World) =>
 R (.bool b0) w1)
 (fun j2 =>
 CW.Spec Tryz.prog 307 #[p0, .int .i64 p1] w fun v3 w4 =>
 ∃ (b5 : Bool), v3 = .bool b5 ∧
 cond b5
 (∃ a6, sliceAt p0 (IntKind.wrap .i64 (Int.tdiv p1 (8 : Int))) 1 = some a6 ∧
 ∃ n7, World.cell? w4 a6 = some (.int .u8 n7) ∧
 leK (Int.tmod p1 (8 : Int)) (j2 ((bitsI .and .u8 (Int.fdiv n7 ((2 : Int) ^ (min (Int.toNat (Int.tmod p1 (8 : Int))) 8))) (1 : Int)) == 1) w4))
 (j2 false w4))
theorem q5W (p0 p1 w R) (h : q5F p0 p1 w R) : CW.Spec Tryz.prog 308 #[p0, .int .i64 p1] w R :=
 sp Tryz.func308 h
def q6F (p0 : Value) (p1 : Int) (p2 : Bool) (w : World) (R : KV) : Prop :=
 LoopP [.int .i64]
 (fun j0 => fun (n1 : Int) => fun (w2 : World) =>
 CW.Spec Tryz.prog 307 #[p0, .int .i64 n1] w2 fun v3 w4 =>
 ∃ (b5 : Bool), v3 = .bool b5 ∧
 cond (!b5)
 (R (.tuple #[.int .i64 0, .bool false]) w4)
 (CW.Spec Tryz.prog 308 #[p0, .int .i64 n1] w4 fun v6 w7 =>
 ∃ (b8 : Bool), v6 = .bool b8 ∧
 cond (b8 == p2)
 (R (.tuple #[.int .i64 n1, .bool true]) w7)
 (j0 (IntKind.wrap .i64 (n1 + 1)) w7)))
 (fun s9 => s9 (if p1 < 0 then (0 : Int) else p1) w)
theorem q6W (p0 p1 p2 w R) (h : q6F p0 p1 p2 w R) : CW.Spec Tryz.prog 261 #[p0, .int .i64 p1, .bool p2] w R :=
 sp Tryz.func261 h
def q96F (p0 : Option Addr) (w : World) (R : KV) : Prop :=
 withAddr (.pointer p0) fun a0 =>
 ∃ n1, World.cell? w (Addr.add a0 0) = some (.int .i64 n1) ∧
 R (.int .i64 n1) w
theorem q96W (p0 w R) (h : q96F p0 w R) : CW.Spec Tryz.prog 132 #[.pointer p0] w R :=
 sp Tryz.func132 h
def q100F (p0 : Option Addr) (p1 : Int) (p2 : Int) (w : World) (R : KV) : Prop :=
 CW.Spec Tryz.prog 235 #[.pointer p0, .int .i64 p1, .int .i64 p2] w fun v0 w1 =>
 ∃ (b2 : Bool), v0 = .bool b2 ∧
 cond (!b2)
 (R (.tuple #[.slice none 0 0, .int .i64 1]) w1)
 (CW.Spec Tryz.prog 206 #[.pointer p0, .int .i64 p1, .int .i64 p2] w1 fun v3 w4 =>
 CW.Spec Tryz.prog 85 #[v3] w4 fun v5 w6 =>
 CW.Spec Tryz.prog 96 #[v5] w6 fun v7 w8 =>
 R (.tuple #[v7, .int .i64 0]) w8)
theorem q100W (p0 p1 p2 w R) (h : q100F p0 p1 p2 w R) : CW.Spec Tryz.prog 236 #[.pointer p0, .int .i64 p1, .int .i64 p2] w R :=
 sp Tryz.func236 h
def q97F (p0 : Option Addr) (p1 : Int) (p2 : Value) (w : World) (R : KV) : Prop :=
 ∃ m0, sliceLen p2 = some m0 ∧
 JoinP [.bool]
 (fun (b1 : Bool) => fun (w2 : World) =>
 cond b1
 (R (.tuple #[.int .i64 0, .int .i64 1]) w2)
 (CW.Spec Tryz.prog 206 #[.pointer p0, .int .i64 p1, (.int .i64 (IntKind.wrap .i64 (Int.tdiv (IntKind.wrap .i64 (Int.tdiv ((m0 : Nat) : Int) (8 : Int))) (2 : Int))))] w2 fun v3 w4 =>
 ∃ m5, sliceLen v3 = some m5 ∧
 LoopP [.int .i64]
 (fun j6 => fun (n7 : Int) => fun (w8 : World) =>
 cond (decide (n7 < ((m5 : Nat) : Int)))
 (∃ a9, sliceAt v3 n7 1 = some a9 ∧
 ∃ n10, World.cell? w8 a9 = some (.int .u8 n10) ∧
 ∃ a11, sliceAt p2 n7 1 = some a11 ∧
 ∃ n12, World.cell? w8 a11 = some (.int .u8 n12) ∧
 cond (n10 != n12)
 (R (.tuple #[.int .i64 n7, .int .i64 0]) w8)
 (j6 (IntKind.wrap .i64 (n7 + 1)) w8))
 (∃ (v13 : Value), ((subSlice p2 1 (some (.int .i64 (IntKind.wrap .i64 ((IntKind.wrap .i64 (Int.tdiv (IntKind.wrap .i64 (Int.tdiv ((m0 : Nat) : Int) (8 : Int))) (2 : Int))) * 8)))) none none) = (some v13)) ∧
 CW.Spec Tryz.prog 237 #[.pointer p0, .int .i64 p1, v13] w8 fun v14 w15 =>
 ∃ (n16 : Int), v14 = .int .i64 n16 ∧
 R (.tuple #[(.int .i64 (-1 : Int)), .int .i64 0]) w15))
 (fun s17 => s17 (0 : Int) w4)))
 (fun j18 =>
 ∃ m19, sliceLen p2 = some m19 ∧
 cond ((Int.tmod ((m19 : Nat) : Int) (16 : Int)) != 0)
 (j18 true w)
 (CW.Spec Tryz.prog 235 #[.pointer p0, .int .i64 p1, (.int .i64 (IntKind.wrap .i64 (Int.tdiv (IntKind.wrap .i64 (Int.tdiv ((m0 : Nat) : Int) (8 : Int))) (2 : Int))))] w fun v20 w21 =>
 ∃ (b22 : Bool), v20 = .bool b22 ∧
 j18 (!b22) w21))
theorem q97W (p0 p1 p2 w R) (h : q97F p0 p1 p2 w R) : CW.Spec Tryz.prog 239 #[.pointer p0, .int .i64 p1, p2] w R :=
 sp Tryz.func239 h
end
section
open Go Go.CW
def q86F (p0 : Value) (w : World) (R : KV) : Prop :=
 ∃ m0, sliceLen p0 = some m0 ∧
 ∃ m1, sliceLen p0 = some m1 ∧
 ∃ (v2 : Value), ((subSlice p0 2 none (some (.int .i64 (m0 : Nat))) (some (.int .i64 (m1 : Nat)))) = (some v2)) ∧
 R v2 w
theorem q86W (p0 w R) (h : q86F p0 w R) : CW.Spec Tryz.prog 262 #[p0] w R :=
 sp Tryz.func262 h
end
section
open Go Go.CW
def q13F (p0 : Value) (p1 : Value) (w : World) (R : KV) : Prop :=
 ∃ (s0 : ByteArray), ((Sem.run Tryz.prog (Go.convert 34 9 p0) w) = (.ok (.string s0) w)) ∧
 ∃ (s1 : ByteArray), ((Sem.run Tryz.prog (Go.convert 34 9 p1) w) = (.ok (.string s1) w)) ∧
 R (.bool (ByteArray.toList s0 == ByteArray.toList s1)) w
theorem q13W (p0 p1 w R) (h : q13F p0 p1 w R) : CW.Spec Tryz.prog 134 #[p0, p1] w R :=
 sp Tryz.func134 h
end
section
open Go Go.CW
def q63F (p0 : Option Addr) (p1 : Int) (p2 : Int) (p3 : Int) (p4 : Bool) (w : World) (R : KV) : Prop :=
 bindW (World.alloc w (.cells #[.int .i64 0, .int .i64 0, .int .i64 0, .slice none 0 0, .int .i64 0] 54)) fun w0 =>
 CW.Spec Tryz.prog 160 #[.int .i64 p1] w0 fun v1 w2 =>
 ∃ (b3 : Bool), v1 = .bool b3 ∧
 cond (!b3)
 (CW.Spec Tryz.prog 240 #[] w2 fun v4 w5 =>
 ∃ (n6 : Int) (n7 : Int) (n8 : Int) (v9 : Value) (n10 : Int), v4 = .agg #[.int .i64 n6, .int .i64 n7, .int .i64 n8, v9, .int .i64 n10] ∧
 (StRow w5 ⟨w.heap.size, 0, none⟩ #[.int .i64 n6, .int .i64 n7, .int .i64 n8, v9, .int .i64 n10]) ∧
 bindW (stRow w5 ⟨w.heap.size, 0, none⟩ #[.int .i64 n6, .int .i64 n7, .int .i64 n8, v9, .int .i64 n10]) fun w11 =>
 ∃ (n12 : Int) (n13 : Int) (n14 : Int) (v15 : Value) (n16 : Int), (ldCells w11 ⟨w.heap.size, 0, none⟩ 5 #[.int .i64 n12, .int .i64 n13, .int .i64 n14, v15, .int .i64 n16]) ∧
 R (.tuple #[(.agg #[.int .i64 n12, .int .i64 n13, .int .i64 n14, v15, .int .i64 n16]), .slice none 0 0]) w11)
 (JoinP [.bool]
 (fun (b17 : Bool) => fun (w18 : World) =>
 cond b17
 (CW.Spec Tryz.prog 241 #[] w18 fun v19 w20 =>
 ∃ (n21 : Int) (n22 : Int) (n23 : Int) (v24 : Value) (n25 : Int), v19 = .agg #[.int .i64 n21, .int .i64 n22, .int .i64 n23, v24, .int .i64 n25] ∧
 (StRow w20 ⟨w.heap.size, 0, none⟩ #[.int .i64 n21, .int .i64 n22, .int .i64 n23, v24, .int .i64 n25]) ∧
 bindW (stRow w20 ⟨w.heap.size, 0, none⟩ #[.int .i64 n21, .int .i64 n22, .int .i64 n23, v24, .int .i64 n25]) fun w26 =>
 ∃ (n27 : Int) (n28 : Int) (n29 : Int) (v30 : Value) (n31 : Int), (ldCells w26 ⟨w.heap.size, 0, none⟩ 5 #[.int .i64 n27, .int .i64 n28, .int .i64 n29, v30, .int .i64 n31]) ∧
 R (.tuple #[(.agg #[.int .i64 n27, .int .i64 n28, .int .i64 n29, v30, .int .i64 n31]), .slice none 0 0]) w26)
 (withAddr (.pointer p0) fun a32 =>
 ∃ n33, World.cell? w18 (Addr.add a32 10) = some (.int .u32 n33) ∧
 withAddr (.pointer p0) fun a34 =>
 (St1 w18 (Addr.add a34 10)) ∧
 bindW (World.setCell w18 (Addr.add a34 10) (.int .u32 (IntKind.wrap .u32 (n33 + 1)))) fun w35 =>
 JoinP [.val]
 (fun (v36 : Value) => fun (w37 : World) =>
 withAddr (.pointer p0) fun a38 =>
 (inR p1 8) ∧
 (St1 w37 (Addr.add (Addr.add a38 0) ((Int.toNat p1) * 1))) ∧
 bindW (World.setCell w37 (Addr.add (Addr.add a38 0) ((Int.toNat p1) * 1)) (.int .u64 p3)) fun w39 =>
 CW.Spec Tryz.prog 243 #[] w39 fun v40 w41 =>
 ∃ (n42 : Int) (n43 : Int) (n44 : Int) (v45 : Value) (n46 : Int), v40 = .agg #[.int .i64 n42, .int .i64 n43, .int .i64 n44, v45, .int .i64 n46] ∧
 (StRow w41 ⟨w.heap.size, 0, none⟩ #[.int .i64 n42, .int .i64 n43, .int .i64 n44, v45, .int .i64 n46]) ∧
 bindW (stRow w41 ⟨w.heap.size, 0, none⟩ #[.int .i64 n42, .int .i64 n43, .int .i64 n44, v45, .int .i64 n46]) fun w47 =>
 ∃ (n48 : Int) (n49 : Int) (n50 : Int) (v51 : Value) (n52 : Int), (ldCells w47 ⟨w.heap.size, 0, none⟩ 5 #[.int .i64 n48, .int .i64 n49, .int .i64 n50, v51, .int .i64 n52]) ∧
 R (.tuple #[(.agg #[.int .i64 n48, .int .i64 n49, .int .i64 n50, v51, .int .i64 n52]), v36]) w47)
 (fun j53 =>
 JoinP [.bool]
 (fun (b54 : Bool) => fun (w55 : World) =>
 cond b54
 (CW.Spec Tryz.prog 242 #[.pointer p0, .int .i64 p1] w55 fun v56 w57 =>
 j53 v56 w57)
 (j53 (.slice none 0 0) w55))
 (fun j58 =>
 cond (p3 == 0)
 (withAddr (.pointer p0) fun a59 =>
 ∃ n60, World.cell? w35 (Addr.add a59 8) = some (.int .i64 n60) ∧
 j58 (n60 == p1) w35)
 (j58 false w35)))))
 (fun j61 =>
 cond (!p4)
 (withAddr (.pointer p0) fun a62 =>
 (inR p1 8) ∧
 ∃ n63, World.cell? w2 (Addr.add (Addr.add a62 0) ((Int.toNat p1) * 1)) = some (.int .u64 n63) ∧
 j61 (p2 != n63) w2)
 (j61 false w2)))
theorem q63W (p0 p1 p2 p3 p4 w R) (h : q63F p0 p1 p2 p3 p4 w R) : CW.Spec Tryz.prog 166 #[.pointer p0, .int .i64 p1, .int .u64 p2, .int .u64 p3, .bool p4] w R :=
 sp Tryz.func166 h
def q64F (p0 : Option Addr) (p1 : Int) (p2 : Int) (p3 : Int) (w : World) (R : KV) : Prop :=
 bindW (World.alloc w (.cells #[.int .i64 0, .int .i64 0, .int .i64 0, .slice none 0 0, .int .i64 0] 54)) fun w0 =>
 CW.Spec Tryz.prog 244 #[.pointer p0, .int .i64 p1, .int .u64 p2] w0 fun v1 w2 =>
 ∃ (n3 : Int) (n4 : Int) (n5 : Int) (v6 : Value) (n7 : Int) (b8 : Bool), v1 = .tuple #[(.agg #[.int .i64 n3, .int .i64 n4, .int .i64 n5, v6, .int .i64 n7]), .bool b8] ∧
 bindW (World.alloc w2 (.cells #[.int .i64 0, .int .i64 0, .int .i64 0, .slice none 0 0, .int .i64 0] 54)) fun w9 =>
 (StRow w9 ⟨w2.heap.size, 0, none⟩ #[.int .i64 n3, .int .i64 n4, .int .i64 n5, v6, .int .i64 n7]) ∧
 bindW (stRow w9 ⟨w2.heap.size, 0, none⟩ #[.int .i64 n3, .int .i64 n4, .int .i64 n5, v6, .int .i64 n7]) fun w10 =>
 cond (!b8)
 (∃ (n11 : Int) (n12 : Int) (n13 : Int) (v14 : Value) (n15 : Int), (ldCells w10 ⟨w2.heap.size, 0, none⟩ 5 #[.int .i64 n11, .int .i64 n12, .int .i64 n13, v14, .int .i64 n15]) ∧
 (StRow w10 ⟨w.heap.size, 0, none⟩ #[.int .i64 n11, .int .i64 n12, .int .i64 n13, v14, .int .i64 n15]) ∧
 bindW (stRow w10 ⟨w.heap.size, 0, none⟩ #[.int .i64 n11, .int .i64 n12, .int .i64 n13, v14, .int .i64 n15]) fun w16 =>
 ∃ (n17 : Int) (n18 : Int) (n19 : Int) (v20 : Value) (n21 : Int), (ldCells w16 ⟨w.heap.size, 0, none⟩ 5 #[.int .i64 n17, .int .i64 n18, .int .i64 n19, v20, .int .i64 n21]) ∧
 R (.agg #[.int .i64 n17, .int .i64 n18, .int .i64 n19, v20, .int .i64 n21]) w16)
 (CW.Spec Tryz.prog 210 #[.int .i64 p3] w10 fun v22 w23 =>
 ∃ (b24 : Bool), v22 = .bool b24 ∧
 cond (!b24)
 (CW.Spec Tryz.prog 240 #[] w23 fun v25 w26 =>
 ∃ (n27 : Int) (n28 : Int) (n29 : Int) (v30 : Value) (n31 : Int), v25 = .agg #[.int .i64 n27, .int .i64 n28, .int .i64 n29, v30, .int .i64 n31] ∧
 (StRow w26 ⟨w.heap.size, 0, none⟩ #[.int .i64 n27, .int .i64 n28, .int .i64 n29, v30, .int .i64 n31]) ∧
 bindW (stRow w26 ⟨w.heap.size, 0, none⟩ #[.int .i64 n27, .int .i64 n28, .int .i64 n29, v30, .int .i64 n31]) fun w32 =>
 ∃ (n33 : Int) (n34 : Int) (n35 : Int) (v36 : Value) (n37 : Int), (ldCells w32 ⟨w.heap.size, 0, none⟩ 5 #[.int .i64 n33, .int .i64 n34, .int .i64 n35, v36, .int .i64 n37]) ∧
 R (.agg #[.int .i64 n33, .int .i64 n34, .int .i64 n35, v36, .int .i64 n37]) w32)
 (withAddr (.pointer p0) fun a38 =>
 ∃ n39, World.cell? w23 (Addr.add a38 8) = some (.int .i64 n39) ∧
 cond (n39 == (-1 : Int))
 (withAddr (.pointer p0) fun a40 =>
 (St1 w23 (Addr.add a40 8)) ∧
 bindW (World.setCell w23 (Addr.add a40 8) (.int .i64 p1)) fun w41 =>
 withAddr (.pointer p0) fun a42 =>
 (St1 w41 (Addr.add a42 9)) ∧
 bindW (World.setCell w41 (Addr.add a42 9) (.int .i64 p3)) fun w43 =>
 CW.Spec Tryz.prog 243 #[] w43 fun v44 w45 =>
 ∃ (n46 : Int) (n47 : Int) (n48 : Int) (v49 : Value) (n50 : Int), v44 = .agg #[.int .i64 n46, .int .i64 n47, .int .i64 n48, v49, .int .i64 n50] ∧
 (StRow w45 ⟨w.heap.size, 0, none⟩ #[.int .i64 n46, .int .i64 n47, .int .i64 n48, v49, .int .i64 n50]) ∧
 bindW (stRow w45 ⟨w.heap.size, 0, none⟩ #[.int .i64 n46, .int .i64 n47, .int .i64 n48, v49, .int .i64 n50]) fun w51 =>
 ∃ (n52 : Int) (n53 : Int) (n54 : Int) (v55 : Value) (n56 : Int), (ldCells w51 ⟨w.heap.size, 0, none⟩ 5 #[.int .i64 n52, .int .i64 n53, .int .i64 n54, v55, .int .i64 n56]) ∧
 R (.agg #[.int .i64 n52, .int .i64 n53, .int .i64 n54, v55, .int .i64 n56]) w51)
 (JoinP [.bool]
 (fun (b57 : Bool) => fun (w58 : World) =>
 cond b57
 (CW.Spec Tryz.prog 243 #[] w58 fun v59 w60 =>
 ∃ (n61 : Int) (n62 : Int) (n63 : Int) (v64 : Value) (n65 : Int), v59 = .agg #[.int .i64 n61, .int .i64 n62, .int .i64 n63, v64, .int .i64 n65] ∧
 (StRow w60 ⟨w.heap.size, 0, none⟩ #[.int .i64 n61, .int .i64 n62, .int .i64 n63, v64, .int .i64 n65]) ∧
 bindW (stRow w60 ⟨w.heap.size, 0, none⟩ #[.int .i64 n61, .int .i64 n62, .int .i64 n63, v64, .int .i64 n65]) fun w66 =>
 ∃ (n67 : Int) (n68 : Int) (n69 : Int) (v70 : Value) (n71 : Int), (ldCells w66 ⟨w.heap.size, 0, none⟩ 5 #[.int .i64 n67, .int .i64 n68, .int .i64 n69, v70, .int .i64 n71]) ∧
 R (.agg #[.int .i64 n67, .int .i64 n68, .int .i64 n69, v70, .int .i64 n71]) w66)
 (CW.Spec Tryz.prog 241 #[] w58 fun v72 w73 =>
 ∃ (n74 : Int) (n75 : Int) (n76 : Int) (v77 : Value) (n78 : Int), v72 = .agg #[.int .i64 n74, .int .i64 n75, .int .i64 n76, v77, .int .i64 n78] ∧
 (StRow w73 ⟨w.heap.size, 0, none⟩ #[.int .i64 n74, .int .i64 n75, .int .i64 n76, v77, .int .i64 n78]) ∧
 bindW (stRow w73 ⟨w.heap.size, 0, none⟩ #[.int .i64 n74, .int .i64 n75, .int .i64 n76, v77, .int .i64 n78]) fun w79 =>
 ∃ (n80 : Int) (n81 : Int) (n82 : Int) (v83 : Value) (n84 : Int), (ldCells w79 ⟨w.heap.size, 0, none⟩ 5 #[.int .i64 n80, .int .i64 n81, .int .i64 n82, v83, .int .i64 n84]) ∧
 R (.agg #[.int .i64 n80, .int .i64 n81, .int .i64 n82, v83, .int .i64 n84]) w79))
 (fun j85 =>
 withAddr (.pointer p0) fun a86 =>
 ∃ n87, World.cell? w23 (Addr.add a86 8) = some (.int .i64 n87) ∧
 cond (n87 == p1)
 (withAddr (.pointer p0) fun a88 =>
 ∃ n89, World.cell? w23 (Addr.add a88 9) = some (.int .i64 n89) ∧
 j85 (n89 == p3) w23)
 (j85 false w23)))))
theorem q64W (p0 p1 p2 p3 w R) (h : q64F p0 p1 p2 p3 w R) : CW.Spec Tryz.prog 167 #[.pointer p0, .int .i64 p1, .int .u64 p2, .int .i64 p3] w R :=
 sp Tryz.func167 h
def q59F (p0 : Option Addr) (w : World) (R : KV) : Prop :=
 withAddr (.pointer p0) fun a0 =>
 ∃ n1, World.cell? w (Addr.add a0 10) = some (.int .u32 n1) ∧
 R (.int .u32 n1) w
theorem q59W (p0 w R) (h : q59F p0 w R) : CW.Spec Tryz.prog 172 #[.pointer p0] w R :=
 sp Tryz.func172 h
def q55F (p0 : Value) (w : World) (R : KV) : Prop :=
 ∃ m0, sliceLen p0 = some m0 ∧
 cond (((m0 : Nat) : Int) != 70)
 (R (.tuple #[.pointer none, .int .i64 2]) w)
 (CW.Spec Tryz.prog 75 #[] w fun v1 w2 =>
 ∃ (o3 : Option Addr), v1 = .pointer o3 ∧
 CW.Spec Tryz.prog 148 #[p0, .int .i64 0, .int .i64 4] w2 fun v4 w5 =>
 ∃ (n6 : Int) (b7 : Bool), v4 = .tuple #[.int .u64 n6, .bool b7] ∧
 withAddr (.pointer o3) fun a8 =>
 (St1 w5 (Addr.add a8 10)) ∧
 bindW (World.setCell w5 (Addr.add a8 10) (.int .u32 (IntKind.wrap .u32 n6))) fun w9 =>
 LoopP [.int .i64]
 (fun j10 => fun (n11 : Int) => fun (w12 : World) =>
 cond (decide (n11 < 8))
 (bindW (World.drew w12) fun w13 =>
 withAddr (.pointer o3) fun a14 =>
 bindW (World.drew w12) fun w15 =>
 CW.Spec Tryz.prog 148 #[p0, (.int .i64 (IntKind.wrap .i64 ((4 : Int) + (IntKind.wrap .i64 ((8 : Int) * n11))))), .int .i64 8] w15 fun v16 w17 =>
 ∃ (n18 : Int) (b19 : Bool), v16 = .tuple #[.int .u64 n18, .bool b19] ∧
 (inR n11 8) ∧
 (St1 w17 (Addr.add (Addr.add a14 0) ((Int.toNat n11) * 1))) ∧
 bindW (World.setCell w17 (Addr.add (Addr.add a14 0) ((Int.toNat n11) * 1)) (.int .u64 n18)) fun w20 =>
 bindW (World.setCell w17 (Addr.add (Addr.add a14 0) ((Int.toNat n11) * 1)) (.int .u64 n18)) fun w21 =>
 j10 (IntKind.wrap .i64 (n11 + 1)) w21)
 (JoinP []
 (fun (w22 : World) =>
 CW.Spec Tryz.prog 126 #[.pointer o3] w22 fun v23 w24 =>
 CW.Spec Tryz.prog 134 #[v23, p0] w24 fun v25 w26 =>
 ∃ (b27 : Bool), v25 = .bool b27 ∧
 cond (!b27)
 (R (.tuple #[.pointer none, .int .i64 2]) w26)
 (R (.tuple #[.pointer o3, .int .i64 0]) w26))
 (fun j28 =>
 ∃ m29, sliceLen p0 = some m29 ∧
 ∃ a30, sliceAt p0 (IntKind.wrap .i64 (((m29 : Nat) : Int) - 2)) 1 = some a30 ∧
 ∃ n31, World.cell? w12 a30 = some (.int .u8 n31) ∧
 JoinP [.bool]
 (fun (b32 : Bool) => fun (w33 : World) =>
 cond b32
 (∃ m34, sliceLen p0 = some m34 ∧
 ∃ a35, sliceAt p0 (IntKind.wrap .i64 (((m34 : Nat) : Int) - 1)) 1 = some a35 ∧
 ∃ n36, World.cell? w33 a35 = some (.int .u8 n36) ∧
 withAddr (.pointer o3) fun a37 =>
 (St1 w33 (Addr.add a37 8)) ∧
 bindW (World.setCell w33 (Addr.add a37 8) (.int .i64 (IntKind.wrap .i64 n31))) fun w38 =>
 withAddr (.pointer o3) fun a39 =>
 (St1 w38 (Addr.add a39 9)) ∧
 bindW (World.setCell w38 (Addr.add a39 9) (.int .i64 (IntKind.wrap .i64 n36))) fun w40 =>
 j28 w40)
 (j28 w33))
 (fun j41 =>
 cond (decide ((IntKind.wrap .i64 n31) < 8))
 (withAddr (.pointer o3) fun a42 =>
 (inR (IntKind.wrap .i64 n31) 8) ∧
 ∃ n43, World.cell? w12 (Addr.add (Addr.add a42 0) ((Int.toNat (IntKind.wrap .i64 n31)) * 1)) = some (.int .u64 n43) ∧
 cond (n43 != 0)
 (∃ m44, sliceLen p0 = some m44 ∧
 ∃ a45, sliceAt p0 (IntKind.wrap .i64 (((m44 : Nat) : Int) - 1)) 1 = some a45 ∧
 ∃ n46, World.cell? w12 a45 = some (.int .u8 n46) ∧
 CW.Spec Tryz.prog 210 #[(.int .i64 (IntKind.wrap .i64 n46))] w12 fun v47 w48 =>
 ∃ (b49 : Bool), v47 = .bool b49 ∧
 j41 b49 w48)
 (j41 false w12))
 (j41 false w12)))))
 (fun s50 => s50 (0 : Int) w9))
theorem q55W (p0 w R) (h : q55F p0 w R) : CW.Spec Tryz.prog 131 #[p0] w R :=
 sp Tryz.func131 h
def q58F (p0 : Option Addr) (w : World) (R : KV) : Prop :=
 withAddr (.pointer p0) fun a0 =>
 ∃ n1, World.cell? w (Addr.add a0 10) = some (.int .u32 n1) ∧
 CW.Spec Tryz.prog 120 #[.slice none 0 0, (.int .u64 (IntKind.wrap .u64 n1)), .int .i64 4] w fun v2 w3 =>
 withAddr (.pointer p0) fun a4 =>
 ∃ (n5 : Int) (n6 : Int) (n7 : Int) (n8 : Int) (n9 : Int) (n10 : Int) (n11 : Int) (n12 : Int), (ldCells w3 (Addr.add a4 0) 8 #[.int .u64 n5, .int .u64 n6, .int .u64 n7, .int .u64 n8, .int .u64 n9, .int .u64 n10, .int .u64 n11, .int .u64 n12]) ∧
 LoopP [.val, .int .i64]
 (fun j13 => fun (v14 : Value) => fun (n15 : Int) => fun (w16 : World) =>
 cond (decide (n15 < 8))
 (∃ (n17 : Int), ((Sem.run Tryz.prog (Instr.index 278 (.agg #[.int .u64 n5, .int .u64 n6, .int .u64 n7, .int .u64 n8, .int .u64 n9, .int .u64 n10, .int .u64 n11, .int .u64 n12]) (.int .i64 n15)) w16) = (.ok (.int .u64 n17) w16)) ∧
 CW.Spec Tryz.prog 120 #[v14, .int .u64 n17, .int .i64 8] w16 fun v18 w19 =>
 j13 v18 (IntKind.wrap .i64 (n15 + 1)) w19)
 (bindW (World.drew w16) fun w20 =>
 withAddr (.pointer p0) fun a21 =>
 ∃ n22, World.cell? w20 (Addr.add a21 8) = some (.int .i64 n22) ∧
 withAddr (.pointer p0) fun a23 =>
 ∃ n24, World.cell? w20 (Addr.add a23 9) = some (.int .i64 n24) ∧
 bindW (World.drew w16) fun w25 =>
 bindW (World.alloc w25 (.cells #[(.int .u8 (IntKind.wrap .u8 n22)), (.int .u8 (IntKind.wrap .u8 n24))] 5)) fun w26 =>
 bindW (World.alloc w25 (.cells #[(.int .u8 (IntKind.wrap .u8 n22)), (.int .u8 (IntKind.wrap .u8 n24))] 5)) fun w27 =>
 ∃ (v28 : Value) (w29 : World), ((Sem.run Tryz.prog (Builtin.append_ #[34, 34] 34 #[v14, (.slice (some ⟨w25.heap.size, 0, none⟩) 2 2)]) w27) = (.ok v28 w29)) ∧
 R v28 w29))
 (fun s30 => s30 v2 (0 : Int) w3)
theorem q58W (p0 w R) (h : q58F p0 w R) : CW.Spec Tryz.prog 126 #[.pointer p0] w R :=
 sp Tryz.func126 h
def q61F (p0 : Option Addr) (p1 : Int) (w : World) (R : KV) : Prop :=
 CW.Spec Tryz.prog 160 #[.int .i64 p1] w fun v0 w1 =>
 ∃ (b2 : Bool), v0 = .bool b2 ∧
 cond (!b2)
 (R (.int .u64 0) w1)
 (withAddr (.pointer p0) fun a3 =>
 (inR p1 8) ∧
 ∃ n4, World.cell? w1 (Addr.add (Addr.add a3 0) ((Int.toNat p1) * 1)) = some (.int .u64 n4) ∧
 R (.int .u64 n4) w1)
theorem q61W (p0 p1 w R) (h : q61F p0 p1 w R) : CW.Spec Tryz.prog 176 #[.pointer p0, .int .i64 p1] w R :=
 sp Tryz.func176 h
def q69F  (w : World) (R : KV) : Prop :=
 bindW (World.alloc w (.cells #[.int .i64 0, .int .i64 0, .int .i64 0, .slice none 0 0, .int .i64 0] 54)) fun w0 =>
 CW.Spec Tryz.prog 78 #[.int .i64 5, .int .i64 9216] w0 fun v1 w2 =>
 ∃ (n3 : Int) (n4 : Int) (n5 : Int) (v6 : Value) (n7 : Int), v1 = .agg #[.int .i64 n3, .int .i64 n4, .int .i64 n5, v6, .int .i64 n7] ∧
 (StRow w2 ⟨w.heap.size, 0, none⟩ #[.int .i64 n3, .int .i64 n4, .int .i64 n5, v6, .int .i64 n7]) ∧
 bindW (stRow w2 ⟨w.heap.size, 0, none⟩ #[.int .i64 n3, .int .i64 n4, .int .i64 n5, v6, .int .i64 n7]) fun w8 =>
 ∃ (n9 : Int) (n10 : Int) (n11 : Int) (v12 : Value) (n13 : Int), (ldCells w8 ⟨w.heap.size, 0, none⟩ 5 #[.int .i64 n9, .int .i64 n10, .int .i64 n11, v12, .int .i64 n13]) ∧
 R (.agg #[.int .i64 n9, .int .i64 n10, .int .i64 n11, v12, .int .i64 n13]) w8
theorem q69W  (w : World) (R : KV) (h : q69F  w R) : CW.Spec Tryz.prog 240 #[] w R :=
 sp Tryz.func240 h
def q68F  (w : World) (R : KV) : Prop :=
 bindW (World.alloc w (.cells #[.int .i64 0, .int .i64 0, .int .i64 0, .slice none 0 0, .int .i64 0] 54)) fun w0 =>
 (StRow w0 ⟨w.heap.size, 0, none⟩ #[.int .i64 24, .int .i64 0, .int .i64 0, .slice none 0 0, .int .i64 0]) ∧
 bindW (stRow w0 ⟨w.heap.size, 0, none⟩ #[.int .i64 24, .int .i64 0, .int .i64 0, .slice none 0 0, .int .i64 0]) fun w1 =>
 ∃ (n2 : Int) (n3 : Int) (n4 : Int) (v5 : Value) (n6 : Int), (ldCells w1 ⟨w.heap.size, 0, none⟩ 5 #[.int .i64 n2, .int .i64 n3, .int .i64 n4, v5, .int .i64 n6]) ∧
 R (.agg #[.int .i64 n2, .int .i64 n3, .int .i64 n4, v5, .int .i64 n6]) w1
theorem q68W  (w : World) (R : KV) (h : q68F  w R) : CW.Spec Tryz.prog 241 #[] w R :=
 sp Tryz.func241 h
def q65F (p0 : Option Addr) (p1 : Int) (w : World) (R : KV) : Prop :=
 JoinP [.val]
 (fun (v0 : Value) => fun (w1 : World) =>
 withAddr (.pointer p0) fun a2 =>
 (St1 w1 (Addr.add a2 8)) ∧
 bindW (World.setCell w1 (Addr.add a2 8) (.int .i64 (-1 : Int))) fun w3 =>
 withAddr (.pointer p0) fun a4 =>
 (St1 w3 (Addr.add a4 9)) ∧
 bindW (World.setCell w3 (Addr.add a4 9) (.int .i64 0)) fun w5 =>
 R v0 w5)
 (fun j6 =>
 CW.Spec Tryz.prog 159 #[.pointer p0] w fun v7 w8 =>
 ∃ (b9 : Bool), v7 = .bool b9 ∧
 cond b9
 (CW.Spec Tryz.prog 245 #[.pointer p0, .int .i64 p1, .int .i64 10756, (.func (.func 246) #[] #[])] w8 fun v10 w11 =>
 j6 v10 w11)
 (j6 (.slice none 0 0) w8))
theorem q65W (p0 p1 w R) (h : q65F p0 p1 w R) : CW.Spec Tryz.prog 242 #[.pointer p0, .int .i64 p1] w R :=
 sp Tryz.func242 h
def q70F  (w : World) (R : KV) : Prop :=
 bindW (World.alloc w (.cells #[.int .i64 0, .int .i64 0, .int .i64 0, .slice none 0 0, .int .i64 0] 54)) fun w0 =>
 (StRow w0 ⟨w.heap.size, 0, none⟩ #[.int .i64 0, .int .i64 0, .int .i64 0, .slice none 0 0, .int .i64 0]) ∧
 bindW (stRow w0 ⟨w.heap.size, 0, none⟩ #[.int .i64 0, .int .i64 0, .int .i64 0, .slice none 0 0, .int .i64 0]) fun w1 =>
 ∃ (n2 : Int) (n3 : Int) (n4 : Int) (v5 : Value) (n6 : Int), (ldCells w1 ⟨w.heap.size, 0, none⟩ 5 #[.int .i64 n2, .int .i64 n3, .int .i64 n4, v5, .int .i64 n6]) ∧
 R (.agg #[.int .i64 n2, .int .i64 n3, .int .i64 n4, v5, .int .i64 n6]) w1
theorem q70W  (w : World) (R : KV) (h : q70F  w R) : CW.Spec Tryz.prog 243 #[] w R :=
 sp Tryz.func243 h
def q66F (p0 : Option Addr) (p1 : Int) (p2 : Int) (w : World) (R : KV) : Prop :=
 bindW (World.alloc w (.cells #[.int .i64 0, .int .i64 0, .int .i64 0, .slice none 0 0, .int .i64 0] 54)) fun w0 =>
 CW.Spec Tryz.prog 160 #[.int .i64 p1] w0 fun v1 w2 =>
 ∃ (b3 : Bool), v1 = .bool b3 ∧
 cond (!b3)
 (CW.Spec Tryz.prog 240 #[] w2 fun v4 w5 =>
 ∃ (n6 : Int) (n7 : Int) (n8 : Int) (v9 : Value) (n10 : Int), v4 = .agg #[.int .i64 n6, .int .i64 n7, .int .i64 n8, v9, .int .i64 n10] ∧
 (StRow w5 ⟨w.heap.size, 0, none⟩ #[.int .i64 n6, .int .i64 n7, .int .i64 n8, v9, .int .i64 n10]) ∧
 bindW (stRow w5 ⟨w.heap.size, 0, none⟩ #[.int .i64 n6, .int .i64 n7, .int .i64 n8, v9, .int .i64 n10]) fun w11 =>
 ∃ (n12 : Int) (n13 : Int) (n14 : Int) (v15 : Value) (n16 : Int), (ldCells w11 ⟨w.heap.size, 0, none⟩ 5 #[.int .i64 n12, .int .i64 n13, .int .i64 n14, v15, .int .i64 n16]) ∧
 R (.tuple #[(.agg #[.int .i64 n12, .int .i64 n13, .int .i64 n14, v15, .int .i64 n16]), .bool false]) w11)
 (JoinP [.bool]
 (fun (b17 : Bool) => fun (w18 : World) =>
 cond b17
 (CW.Spec Tryz.prog 241 #[] w18 fun v19 w20 =>
 ∃ (n21 : Int) (n22 : Int) (n23 : Int) (v24 : Value) (n25 : Int), v19 = .agg #[.int .i64 n21, .int .i64 n22, .int .i64 n23, v24, .int .i64 n25] ∧
 (StRow w20 ⟨w.heap.size, 0, none⟩ #[.int .i64 n21, .int .i64 n22, .int .i64 n23, v24, .int .i64 n25]) ∧
 bindW (stRow w20 ⟨w.heap.size, 0, none⟩ #[.int .i64 n21, .int .i64 n22, .int .i64 n23, v24, .int .i64 n25]) fun w26 =>
 ∃ (n27 : Int) (n28 : Int) (n29 : Int) (v30 : Value) (n31 : Int), (ldCells w26 ⟨w.heap.size, 0, none⟩ 5 #[.int .i64 n27, .int .i64 n28, .int .i64 n29, v30, .int .i64 n31]) ∧
 R (.tuple #[(.agg #[.int .i64 n27, .int .i64 n28, .int .i64 n29, v30, .int .i64 n31]), .bool false]) w26)
 (CW.Spec Tryz.prog 243 #[] w18 fun v32 w33 =>
 ∃ (n34 : Int) (n35 : Int) (n36 : Int) (v37 : Value) (n38 : Int), v32 = .agg #[.int .i64 n34, .int .i64 n35, .int .i64 n36, v37, .int .i64 n38] ∧
 (StRow w33 ⟨w.heap.size, 0, none⟩ #[.int .i64 n34, .int .i64 n35, .int .i64 n36, v37, .int .i64 n38]) ∧
 bindW (stRow w33 ⟨w.heap.size, 0, none⟩ #[.int .i64 n34, .int .i64 n35, .int .i64 n36, v37, .int .i64 n38]) fun w39 =>
 ∃ (n40 : Int) (n41 : Int) (n42 : Int) (v43 : Value) (n44 : Int), (ldCells w39 ⟨w.heap.size, 0, none⟩ 5 #[.int .i64 n40, .int .i64 n41, .int .i64 n42, v43, .int .i64 n44]) ∧
 R (.tuple #[(.agg #[.int .i64 n40, .int .i64 n41, .int .i64 n42, v43, .int .i64 n44]), .bool true]) w39))
 (fun j45 =>
 withAddr (.pointer p0) fun a46 =>
 (inR p1 8) ∧
 ∃ n47, World.cell? w2 (Addr.add (Addr.add a46 0) ((Int.toNat p1) * 1)) = some (.int .u64 n47) ∧
 cond (n47 == 0)
 (j45 true w2)
 (withAddr (.pointer p0) fun a48 =>
 (inR p1 8) ∧
 ∃ n49, World.cell? w2 (Addr.add (Addr.add a48 0) ((Int.toNat p1) * 1)) = some (.int .u64 n49) ∧
 j45 (n49 != p2) w2)))
theorem q66W (p0 p1 p2 w R) (h : q66F p0 p1 p2 w R) : CW.Spec Tryz.prog 244 #[.pointer p0, .int .i64 p1, .int .u64 p2] w R :=
 sp Tryz.func244 h
def q72F (p0 : Int) (w : World) (R : KV) : Prop :=
 JoinP [.bool]
 (fun (b0 : Bool) => fun (w1 : World) =>
 R (.bool b0) w1)
 (fun j2 =>
 cond (p0 == 1)
 (j2 true w)
 (cond (p0 == 3)
 (j2 true w)
 (cond (p0 == 5)
 (j2 true w)
 (j2 (p0 == 6) w))))
theorem q72W (p0 w R) (h : q72F p0 w R) : CW.Spec Tryz.prog 210 #[.int .i64 p0] w R :=
 sp Tryz.func210 h
def q62F (p0 : Option Addr) (w : World) (R : KV) : Prop :=
 withAddr (.pointer p0) fun a0 =>
 ∃ (n1 : Int) (n2 : Int) (n3 : Int) (n4 : Int) (n5 : Int) (n6 : Int) (n7 : Int) (n8 : Int), (ldCells w (Addr.add a0 0) 8 #[.int .u64 n1, .int .u64 n2, .int .u64 n3, .int .u64 n4, .int .u64 n5, .int .u64 n6, .int .u64 n7, .int .u64 n8]) ∧
 LoopP [.val, .int .i64]
 (fun j9 => fun (v10 : Value) => fun (n11 : Int) => fun (w12 : World) =>
 cond (decide (n11 < 8))
 (JoinP [.val]
 (fun (v13 : Value) => fun (w14 : World) =>
 j9 v13 (IntKind.wrap .i64 (n11 + 1)) w14)
 (fun j15 =>
 ∃ (n16 : Int), ((Sem.run Tryz.prog (Instr.index 278 (.agg #[.int .u64 n1, .int .u64 n2, .int .u64 n3, .int .u64 n4, .int .u64 n5, .int .u64 n6, .int .u64 n7, .int .u64 n8]) (.int .i64 n11)) w12) = (.ok (.int .u64 n16) w12)) ∧
 cond (n16 != 0)
 (bindW (World.alloc w12 (.cells #[.int .u64 n16] 38)) fun w17 =>
 ∃ (v18 : Value) (w19 : World), ((Sem.run Tryz.prog (Builtin.append_ #[81, 81] 81 #[v10, (.slice (some ⟨w12.heap.size, 0, none⟩) 1 1)]) w17) = (.ok v18 w19)) ∧
 j15 v18 w19)
 (j15 v10 w12)))
 (CW.Spec Tryz.prog 100 #[v10] w12 fun v20 w21 =>
 R v20 w21))
 (fun s22 => s22 (.slice none 0 0) (0 : Int) w)
theorem q62W (p0 w R) (h : q62F p0 w R) : CW.Spec Tryz.prog 173 #[.pointer p0] w R :=
 sp Tryz.func173 h
def q60F (p0 : Option Addr) (w : World) (R : KV) : Prop :=
 bindW (World.drew w) fun w0 =>
 withAddr (.pointer p0) fun a1 =>
 ∃ n2, World.cell? w0 (Addr.add a1 8) = some (.int .i64 n2) ∧
 withAddr (.pointer p0) fun a3 =>
 ∃ n4, World.cell? w0 (Addr.add a3 9) = some (.int .i64 n4) ∧
 bindW (World.drew w) fun w5 =>
 R (.tuple #[.int .i64 n2, .int .i64 n4]) w5
theorem q60W (p0 w R) (h : q60F p0 w R) : CW.Spec Tryz.prog 174 #[.pointer p0] w R :=
 sp Tryz.func174 h
def q83F (p0 : Value) (w : World) (R : KV) : Prop :=
 ∃ m0, sliceLen p0 = some m0 ∧
 ∃ m1, sliceLen p0 = some m1 ∧
 ∃ (v2 : Value), ((subSlice p0 1 none (some (.int .i64 (m0 : Nat))) (some (.int .i64 (m1 : Nat)))) = (some v2)) ∧
 R v2 w
theorem q83W (p0 w R) (h : q83F p0 w R) : CW.Spec Tryz.prog 100 #[p0] w R :=
 sp Tryz.func100 h
end
section
open Go Go.CW
def q37F (p0 : Int) (w : World) (R : KV) : Prop :=
 CW.Spec Tryz.prog 74 #[.int .i64 p0] w fun v0 w1 =>
 ∃ (o2 : Option Addr) (n3 : Int), v0 = .tuple #[.pointer o2, .int .i64 n3] ∧
 cond (n3 != 0)
 (R (.tuple #[.pointer none, .int .i64 n3]) w1)
 (CW.Spec Tryz.prog 75 #[] w1 fun v4 w5 =>
 ∃ (o6 : Option Addr), v4 = .pointer o6 ∧
 bindW (World.alloc w5 (.cells #[.pointer o2, .pointer o6, .slice none 0 0, .int .u64 0, .map none, .slice none 0 0, .int .u64 0, .map none, .slice none 0 0, .int .u64 0, .map none, .slice none 0 0, .int .u64 0, .map none, .slice none 0 0, .int .u64 0, .map none, .slice none 0 0, .int .u64 0, .map none, .slice none 0 0, .int .u64 0, .map none, .slice none 0 0, .int .u64 0, .map none] 160)) fun w7 =>
 LoopP [.int .i64]
 (fun j8 => fun (n9 : Int) => fun (w10 : World) =>
 cond (decide (n9 < 8))
 (∃ (v11 : Value) (w12 : World), ((Sem.run Tryz.prog (Instr.makeMap 155 none) w10) = (.ok v11 w12)) ∧
 (inR n9 8) ∧
 oneK v11 ((St1 w12 (Addr.add (Addr.add (Addr.add ⟨w5.heap.size, 0, none⟩ 2) ((Int.toNat n9) * 3)) 2)) ∧
 bindW (World.setCell w12 (Addr.add (Addr.add (Addr.add ⟨w5.heap.size, 0, none⟩ 2) ((Int.toNat n9) * 3)) 2) v11) fun w13 =>
 j8 (IntKind.wrap .i64 (n9 + 1)) w13))
 (R (.tuple #[(.pointer (some ⟨w5.heap.size, 0, none⟩)), .int .i64 0]) w10))
 (fun s14 => s14 (0 : Int) w7))
theorem q37W (p0 w R) (h : q37F p0 w R) : CW.Spec Tryz.prog 18 #[.int .i64 p0] w R :=
 sp Tryz.func18 h
def q38F (p0 : Option Addr) (p1 : Int) (p2_0 : Int) (p2_1 : Int) (p2_2 : Int) (p2_3 : Value) (p2_4 : Int) (p2_5 : Int) (p2_6 : Int) (p2_7 : Bool) (w : World) (R : KV) : Prop :=
 bindW (World.alloc w (.cells #[.int .i64 p2_0, .int .i64 p2_1, .int .i64 p2_2, p2_3, .int .u64 p2_4, .int .u64 p2_5, .int .i64 p2_6, .bool p2_7] 40)) fun w0 =>
 bindW (World.alloc w0 (.cells #[.int .i64 0, .int .i64 0, .int .i64 0, .slice none 0 0, .int .i64 0] 54)) fun w1 =>
 JoinP [.bool]
 (fun (b2 : Bool) => fun (w3 : World) =>
 cond b2
 (CW.Spec Tryz.prog 78 #[.int .i64 5, .int .i64 8192] w3 fun v4 w5 =>
 ∃ (n6 : Int) (n7 : Int) (n8 : Int) (v9 : Value) (n10 : Int), v4 = .agg #[.int .i64 n6, .int .i64 n7, .int .i64 n8, v9, .int .i64 n10] ∧
 (StRow w5 ⟨w0.heap.size, 0, none⟩ #[.int .i64 n6, .int .i64 n7, .int .i64 n8, v9, .int .i64 n10]) ∧
 bindW (stRow w5 ⟨w0.heap.size, 0, none⟩ #[.int .i64 n6, .int .i64 n7, .int .i64 n8, v9, .int .i64 n10]) fun w11 =>
 ∃ (n12 : Int) (n13 : Int) (n14 : Int) (v15 : Value) (n16 : Int), (ldCells w11 ⟨w0.heap.size, 0, none⟩ 5 #[.int .i64 n12, .int .i64 n13, .int .i64 n14, v15, .int .i64 n16]) ∧
 R (.agg #[.int .i64 n12, .int .i64 n13, .int .i64 n14, v15, .int .i64 n16]) w11)
 (∃ n17, World.cell? w3 (Addr.add ⟨w.heap.size, 0, none⟩ 0) = some (.int .i64 n17) ∧
 JoinP []
 (fun (w18 : World) =>
 bindW (World.drew w18) fun w19 =>
 withAddr (.pointer p0) fun a20 =>
 ∃ (o21 : Option Addr), ((World.cell? w19 (Addr.add a20 1)) = (some (.pointer o21))) ∧
 ∃ n22, World.cell? w19 (Addr.add ⟨w.heap.size, 0, none⟩ 0) = some (.int .i64 n22) ∧
 bindW (World.drew w18) fun w23 =>
 CW.Spec Tryz.prog 82 #[.pointer o21, .int .i64 p1, .int .i64 n22] w23 fun v24 w25 =>
 ∃ (b26 : Bool), v24 = .bool b26 ∧
 cond (!b26)
 ((StRow w25 ⟨w0.heap.size, 0, none⟩ #[.int .i64 24, .int .i64 0, .int .i64 0, .slice none 0 0, .int .i64 0]) ∧
 bindW (stRow w25 ⟨w0.heap.size, 0, none⟩ #[.int .i64 24, .int .i64 0, .int .i64 0, .slice none 0 0, .int .i64 0]) fun w27 =>
 ∃ (n28 : Int) (n29 : Int) (n30 : Int) (v31 : Value) (n32 : Int), (ldCells w27 ⟨w0.heap.size, 0, none⟩ 5 #[.int .i64 n28, .int .i64 n29, .int .i64 n30, v31, .int .i64 n32]) ∧
 R (.agg #[.int .i64 n28, .int .i64 n29, .int .i64 n30, v31, .int .i64 n32]) w27)
 (∃ (n33 : Int) (n34 : Int) (n35 : Int) (v36 : Value) (n37 : Int) (n38 : Int) (n39 : Int) (b40 : Bool), (ldCells w25 ⟨w.heap.size, 0, none⟩ 8 #[.int .i64 n33, .int .i64 n34, .int .i64 n35, v36, .int .u64 n37, .int .u64 n38, .int .i64 n39, .bool b40]) ∧
 CW.Spec Tryz.prog 83 #[.pointer p0, .int .i64 p1, (.agg #[.int .i64 n33, .int .i64 n34, .int .i64 n35, v36, .int .u64 n37, .int .u64 n38, .int .i64 n39, .bool b40])] w25 fun v41 w42 =>
 ∃ (n43 : Int) (n44 : Int) (n45 : Int) (v46 : Value) (n47 : Int), v41 = .agg #[.int .i64 n43, .int .i64 n44, .int .i64 n45, v46, .int .i64 n47] ∧
 (StRow w42 ⟨w0.heap.size, 0, none⟩ #[.int .i64 n43, .int .i64 n44, .int .i64 n45, v46, .int .i64 n47]) ∧
 bindW (stRow w42 ⟨w0.heap.size, 0, none⟩ #[.int .i64 n43, .int .i64 n44, .int .i64 n45, v46, .int .i64 n47]) fun w48 =>
 ∃ (n49 : Int) (n50 : Int) (n51 : Int) (v52 : Value) (n53 : Int), (ldCells w48 ⟨w0.heap.size, 0, none⟩ 5 #[.int .i64 n49, .int .i64 n50, .int .i64 n51, v52, .int .i64 n53]) ∧
 R (.agg #[.int .i64 n49, .int .i64 n50, .int .i64 n51, v52, .int .i64 n53]) w48))
 (fun j54 =>
 cond (n17 == 9)
 (CW.Spec Tryz.prog 79 #[.pointer p0, .int .i64 p1] w3 fun v55 w56 =>
 ∃ (n57 : Int) (n58 : Int) (n59 : Int) (v60 : Value) (n61 : Int) (b62 : Bool), v55 = .tuple #[(.agg #[.int .i64 n57, .int .i64 n58, .int .i64 n59, v60, .int .i64 n61]), .bool b62] ∧
 bindW (World.alloc w56 (.cells #[.int .i64 0, .int .i64 0, .int .i64 0, .slice none 0 0, .int .i64 0] 54)) fun w63 =>
 (StRow w63 ⟨w56.heap.size, 0, none⟩ #[.int .i64 n57, .int .i64 n58, .int .i64 n59, v60, .int .i64 n61]) ∧
 bindW (stRow w63 ⟨w56.heap.size, 0, none⟩ #[.int .i64 n57, .int .i64 n58, .int .i64 n59, v60, .int .i64 n61]) fun w64 =>
 ∃ (n65 : Int) (n66 : Int) (n67 : Int) (v68 : Value) (n69 : Int), (ldCells w64 ⟨w56.heap.size, 0, none⟩ 5 #[.int .i64 n65, .int .i64 n66, .int .i64 n67, v68, .int .i64 n69]) ∧
 CW.Spec Tryz.prog 81 #[(.agg #[.int .i64 n65, .int .i64 n66, .int .i64 n67, v68, .int .i64 n69])] w64 fun v70 w71 =>
 CW.Spec Tryz.prog 80 #[v70] w71 fun v72 w73 =>
 ∃ (n74 : Int) (n75 : Int) (n76 : Int) (v77 : Value) (n78 : Int), v72 = .agg #[.int .i64 n74, .int .i64 n75, .int .i64 n76, v77, .int .i64 n78] ∧
 (StRow w73 ⟨w0.heap.size, 0, none⟩ #[.int .i64 n74, .int .i64 n75, .int .i64 n76, v77, .int .i64 n78]) ∧
 bindW (stRow w73 ⟨w0.heap.size, 0, none⟩ #[.int .i64 n74, .int .i64 n75, .int .i64 n76, v77, .int .i64 n78]) fun w79 =>
 ∃ (n80 : Int) (n81 : Int) (n82 : Int) (v83 : Value) (n84 : Int), (ldCells w79 ⟨w0.heap.size, 0, none⟩ 5 #[.int .i64 n80, .int .i64 n81, .int .i64 n82, v83, .int .i64 n84]) ∧
 R (.agg #[.int .i64 n80, .int .i64 n81, .int .i64 n82, v83, .int .i64 n84]) w79)
 (cond (n17 == 8)
 (j54 w3)
 (CW.Spec Tryz.prog 79 #[.pointer p0, .int .i64 p1] w3 fun v85 w86 =>
 ∃ (n87 : Int) (n88 : Int) (n89 : Int) (v90 : Value) (n91 : Int) (b92 : Bool), v85 = .tuple #[(.agg #[.int .i64 n87, .int .i64 n88, .int .i64 n89, v90, .int .i64 n91]), .bool b92] ∧
 bindW (World.alloc w86 (.cells #[.int .i64 0, .int .i64 0, .int .i64 0, .slice none 0 0, .int .i64 0] 54)) fun w93 =>
 (StRow w93 ⟨w86.heap.size, 0, none⟩ #[.int .i64 n87, .int .i64 n88, .int .i64 n89, v90, .int .i64 n91]) ∧
 bindW (stRow w93 ⟨w86.heap.size, 0, none⟩ #[.int .i64 n87, .int .i64 n88, .int .i64 n89, v90, .int .i64 n91]) fun w94 =>
 cond b92
 (∃ (n95 : Int) (n96 : Int) (n97 : Int) (v98 : Value) (n99 : Int), (ldCells w94 ⟨w86.heap.size, 0, none⟩ 5 #[.int .i64 n95, .int .i64 n96, .int .i64 n97, v98, .int .i64 n99]) ∧
 (StRow w94 ⟨w0.heap.size, 0, none⟩ #[.int .i64 n95, .int .i64 n96, .int .i64 n97, v98, .int .i64 n99]) ∧
 bindW (stRow w94 ⟨w0.heap.size, 0, none⟩ #[.int .i64 n95, .int .i64 n96, .int .i64 n97, v98, .int .i64 n99]) fun w100 =>
 ∃ (n101 : Int) (n102 : Int) (n103 : Int) (v104 : Value) (n105 : Int), (ldCells w100 ⟨w0.heap.size, 0, none⟩ 5 #[.int .i64 n101, .int .i64 n102, .int .i64 n103, v104, .int .i64 n105]) ∧
 R (.agg #[.int .i64 n101, .int .i64 n102, .int .i64 n103, v104, .int .i64 n105]) w100)
 (j54 w94))))))
 (fun j106 =>
 CW.Spec Tryz.prog 76 #[.int .i64 p1] w1 fun v107 w108 =>
 ∃ (b109 : Bool), v107 = .bool b109 ∧
 cond (!b109)
 (j106 true w108)
 (∃ n110, World.cell? w108 (Addr.add ⟨w.heap.size, 0, none⟩ 0) = some (.int .i64 n110) ∧
 cond (decide (n110 < 1))
 (j106 true w108)
 (∃ n111, World.cell? w108 (Addr.add ⟨w.heap.size, 0, none⟩ 0) = some (.int .i64 n111) ∧
 j106 (decide (n111 > 18)) w108)))
theorem q38W (p0 p1 p2_0 p2_1 p2_2 p2_3 p2_4 p2_5 p2_6 p2_7 w R) (h : q38F p0 p1 p2_0 p2_1 p2_2 p2_3 p2_4 p2_5 p2_6 p2_7 w R) : CW.Spec Tryz.prog 20 #[.pointer p0, .int .i64 p1, (.agg #[.int .i64 p2_0, .int .i64 p2_1, .int .i64 p2_2, p2_3, .int .u64 p2_4, .int .u64 p2_5, .int .i64 p2_6, .bool p2_7])] w R :=
 sp Tryz.func20 h
def q48F (p0 : Int) (w : World) (R : KV) : Prop :=
 JoinP [.bool]
 (fun (b0 : Bool) => fun (w1 : World) =>
 R (.bool b0) w1)
 (fun j2 =>
 cond (decide (p0 ≥ 0))
 (j2 (decide (p0 < 8)) w)
 (j2 false w))
theorem q48W (p0 w R) (h : q48F p0 w R) : CW.Spec Tryz.prog 76 #[.int .i64 p0] w R :=
 sp Tryz.func76 h
def q44F (p0 : Option Addr) (p1 : Int) (w : World) (R : KV) : Prop :=
 bindW (World.alloc w (.cells #[.int .i64 0, .int .i64 0, .int .i64 0, .slice none 0 0, .int .i64 0] 54)) fun w0 =>
 withAddr (.pointer p0) fun a1 =>
 (inR p1 8) ∧
 ∃ v2, World.cell? w0 (Addr.add (Addr.add (Addr.add a1 2) ((Int.toNat p1) * 3)) 0) = some v2 ∧
 ∃ m3, sliceLen v2 = some m3 ∧
 cond (((m3 : Nat) : Int) == 0)
 ((StRow w0 ⟨w.heap.size, 0, none⟩ #[.int .i64 0, .int .i64 0, .int .i64 0, .slice none 0 0, .int .i64 0]) ∧
 bindW (stRow w0 ⟨w.heap.size, 0, none⟩ #[.int .i64 0, .int .i64 0, .int .i64 0, .slice none 0 0, .int .i64 0]) fun w4 =>
 ∃ (n5 : Int) (n6 : Int) (n7 : Int) (v8 : Value) (n9 : Int), (ldCells w4 ⟨w.heap.size, 0, none⟩ 5 #[.int .i64 n5, .int .i64 n6, .int .i64 n7, v8, .int .i64 n9]) ∧
 R (.tuple #[(.agg #[.int .i64 n5, .int .i64 n6, .int .i64 n7, v8, .int .i64 n9]), .bool false]) w4)
 (∃ v10, World.cell? w0 (Addr.add (Addr.add (Addr.add a1 2) ((Int.toNat p1) * 3)) 0) = some v10 ∧
 ∃ a11, sliceAt v10 (0 : Int) 1 = some a11 ∧
 ∃ n12, World.cell? w0 a11 = some (.int .i64 n12) ∧
 CW.Spec Tryz.prog 78 #[.int .i64 6, .int .i64 n12] w0 fun v13 w14 =>
 ∃ (n15 : Int) (n16 : Int) (n17 : Int) (v18 : Value) (n19 : Int), v13 = .agg #[.int .i64 n15, .int .i64 n16, .int .i64 n17, v18, .int .i64 n19] ∧
 bindW (World.alloc w14 (.cells #[.int .i64 0, .int .i64 0, .int .i64 0, .slice none 0 0, .int .i64 0] 54)) fun w20 =>
 (StRow w20 ⟨w14.heap.size, 0, none⟩ #[.int .i64 n15, .int .i64 n16, .int .i64 n17, v18, .int .i64 n19]) ∧
 bindW (stRow w20 ⟨w14.heap.size, 0, none⟩ #[.int .i64 n15, .int .i64 n16, .int .i64 n17, v18, .int .i64 n19]) fun w21 =>
 ∃ v22, World.cell? w21 (Addr.add (Addr.add (Addr.add a1 2) ((Int.toNat p1) * 3)) 0) = some v22 ∧
 ∃ (v23 : Value), ((subSlice v22 1 (some (.int .i64 1)) none none) = (some v23)) ∧
 CW.Spec Tryz.prog 108 #[v23] w21 fun v24 w25 =>
 oneK v24 ((St1 w25 (Addr.add (Addr.add (Addr.add a1 2) ((Int.toNat p1) * 3)) 0)) ∧
 bindW (World.setCell w25 (Addr.add (Addr.add (Addr.add a1 2) ((Int.toNat p1) * 3)) 0) v24) fun w26 =>
 ∃ (n27 : Int) (n28 : Int) (n29 : Int) (v30 : Value) (n31 : Int), (ldCells w26 ⟨w14.heap.size, 0, none⟩ 5 #[.int .i64 n27, .int .i64 n28, .int .i64 n29, v30, .int .i64 n31]) ∧
 (StRow w26 ⟨w.heap.size, 0, none⟩ #[.int .i64 n27, .int .i64 n28, .int .i64 n29, v30, .int .i64 n31]) ∧
 bindW (stRow w26 ⟨w.heap.size, 0, none⟩ #[.int .i64 n27, .int .i64 n28, .int .i64 n29, v30, .int .i64 n31]) fun w32 =>
 ∃ (n33 : Int) (n34 : Int) (n35 : Int) (v36 : Value) (n37 : Int), (ldCells w32 ⟨w.heap.size, 0, none⟩ 5 #[.int .i64 n33, .int .i64 n34, .int .i64 n35, v36, .int .i64 n37]) ∧
 R (.tuple #[(.agg #[.int .i64 n33, .int .i64 n34, .int .i64 n35, v36, .int .i64 n37]), .bool true]) w32))
theorem q44W (p0 p1 w R) (h : q44F p0 p1 w R) : CW.Spec Tryz.prog 79 #[.pointer p0, .int .i64 p1] w R :=
 sp Tryz.func79 h
def q41F (p0 : Option Addr) (p1 : Int) (p2_0 : Int) (p2_1 : Int) (p2_2 : Int) (p2_3 : Value) (p2_4 : Int) (p2_5 : Int) (p2_6 : Int) (p2_7 : Bool) (w : World) (R : KV) : Prop :=
 bindW (World.alloc w (.cells #[.int .i64 p2_0, .int .i64 p2_1, .int .i64 p2_2, p2_3, .int .u64 p2_4, .int .u64 p2_5, .int .i64 p2_6, .bool p2_7] 40)) fun w0 =>
 bindW (World.alloc w0 (.cells #[.int .i64 0, .int .i64 0, .int .i64 0, .slice none 0 0, .int .i64 0] 54)) fun w1 =>
 ∃ n2, World.cell? w1 (Addr.add ⟨w.heap.size, 0, none⟩ 0) = some (.int .i64 n2) ∧
 JoinP []
 (fun (w3 : World) =>
 LoopP [.int .i64]
 (fun j4 => fun (n5 : Int) => fun (w6 : World) =>
 cond (decide (n5 < 8))
 (CW.Spec Tryz.prog 177 #[.pointer p0, .int .i64 n5, .int .i64 10499] w6 fun v7 w8 =>
 v7 = .tuple #[] ∧
 j4 (IntKind.wrap .i64 (n5 + 1)) w8)
 ((StRow w6 ⟨w0.heap.size, 0, none⟩ #[.int .i64 0, .int .i64 0, .int .i64 0, .slice none 0 0, .int .i64 0]) ∧
 bindW (stRow w6 ⟨w0.heap.size, 0, none⟩ #[.int .i64 0, .int .i64 0, .int .i64 0, .slice none 0 0, .int .i64 0]) fun w9 =>
 ∃ (n10 : Int) (n11 : Int) (n12 : Int) (v13 : Value) (n14 : Int), (ldCells w9 ⟨w0.heap.size, 0, none⟩ 5 #[.int .i64 n10, .int .i64 n11, .int .i64 n12, v13, .int .i64 n14]) ∧
 R (.agg #[.int .i64 n10, .int .i64 n11, .int .i64 n12, v13, .int .i64 n14]) w9))
 (fun s15 => s15 (0 : Int) w3))
 (fun j16 =>
 JoinP []
 (fun (w17 : World) =>
 bindW (World.drew w17) fun w18 =>
 withAddr (.pointer p0) fun a19 =>
 ∃ (o20 : Option Addr), ((World.cell? w18 (Addr.add a19 1)) = (some (.pointer o20))) ∧
 ∃ n21, World.cell? w18 (Addr.add ⟨w.heap.size, 0, none⟩ 4) = some (.int .u64 n21) ∧
 ∃ n22, World.cell? w18 (Addr.add ⟨w.heap.size, 0, none⟩ 5) = some (.int .u64 n22) ∧
 ∃ n23, World.cell? w18 (Addr.add ⟨w.heap.size, 0, none⟩ 0) = some (.int .i64 n23) ∧
 bindW (World.drew w17) fun w24 =>
 CW.Spec Tryz.prog 166 #[.pointer o20, .int .i64 p1, .int .u64 n21, .int .u64 n22, (.bool (n23 == 11))] w24 fun v25 w26 =>
 ∃ (n27 : Int) (n28 : Int) (n29 : Int) (v30 : Value) (n31 : Int) (v32 : Value), v25 = .tuple #[(.agg #[.int .i64 n27, .int .i64 n28, .int .i64 n29, v30, .int .i64 n31]), v32] ∧
 CW.Spec Tryz.prog 165 #[.pointer p0, (.agg #[.int .i64 n27, .int .i64 n28, .int .i64 n29, v30, .int .i64 n31]), v32] w26 fun v33 w34 =>
 ∃ (n35 : Int) (n36 : Int) (n37 : Int) (v38 : Value) (n39 : Int), v33 = .agg #[.int .i64 n35, .int .i64 n36, .int .i64 n37, v38, .int .i64 n39] ∧
 (StRow w34 ⟨w0.heap.size, 0, none⟩ #[.int .i64 n35, .int .i64 n36, .int .i64 n37, v38, .int .i64 n39]) ∧
 bindW (stRow w34 ⟨w0.heap.size, 0, none⟩ #[.int .i64 n35, .int .i64 n36, .int .i64 n37, v38, .int .i64 n39]) fun w40 =>
 bindW (stRow w34 ⟨w0.heap.size, 0, none⟩ #[.int .i64 n35, .int .i64 n36, .int .i64 n37, v38, .int .i64 n39]) fun w41 =>
 ∃ (n42 : Int) (n43 : Int) (n44 : Int) (v45 : Value) (n46 : Int), (ldCells w41 ⟨w0.heap.size, 0, none⟩ 5 #[.int .i64 n42, .int .i64 n43, .int .i64 n44, v45, .int .i64 n46]) ∧
 R (.agg #[.int .i64 n42, .int .i64 n43, .int .i64 n44, v45, .int .i64 n46]) w41)
 (fun j47 =>
 cond (n2 == 1)
 ((StRow w1 ⟨w0.heap.size, 0, none⟩ #[.int .i64 0, .int .i64 0, .int .i64 0, .slice none 0 0, .int .i64 0]) ∧
 bindW (stRow w1 ⟨w0.heap.size, 0, none⟩ #[.int .i64 0, .int .i64 0, .int .i64 0, .slice none 0 0, .int .i64 0]) fun w48 =>
 ∃ (n49 : Int) (n50 : Int) (n51 : Int) (v52 : Value) (n53 : Int), (ldCells w48 ⟨w0.heap.size, 0, none⟩ 5 #[.int .i64 n49, .int .i64 n50, .int .i64 n51, v52, .int .i64 n53]) ∧
 R (.agg #[.int .i64 n49, .int .i64 n50, .int .i64 n51, v52, .int .i64 n53]) w48)
 (cond (n2 == 8)
 (CW.Spec Tryz.prog 161 #[] w1 fun v54 w55 =>
 CW.Spec Tryz.prog 80 #[v54] w55 fun v56 w57 =>
 ∃ (n58 : Int) (n59 : Int) (n60 : Int) (v61 : Value) (n62 : Int), v56 = .agg #[.int .i64 n58, .int .i64 n59, .int .i64 n60, v61, .int .i64 n62] ∧
 (StRow w57 ⟨w0.heap.size, 0, none⟩ #[.int .i64 n58, .int .i64 n59, .int .i64 n60, v61, .int .i64 n62]) ∧
 bindW (stRow w57 ⟨w0.heap.size, 0, none⟩ #[.int .i64 n58, .int .i64 n59, .int .i64 n60, v61, .int .i64 n62]) fun w63 =>
 ∃ (n64 : Int) (n65 : Int) (n66 : Int) (v67 : Value) (n68 : Int), (ldCells w63 ⟨w0.heap.size, 0, none⟩ 5 #[.int .i64 n64, .int .i64 n65, .int .i64 n66, v67, .int .i64 n68]) ∧
 R (.agg #[.int .i64 n64, .int .i64 n65, .int .i64 n66, v67, .int .i64 n68]) w63)
 (cond (n2 == 7)
 (CW.Spec Tryz.prog 163 #[.pointer p0] w1 fun v69 w70 =>
 ∃ (n71 : Int), v69 = .int .i64 n71 ∧
 CW.Spec Tryz.prog 162 #[.int .i64 n71] w70 fun v72 w73 =>
 CW.Spec Tryz.prog 80 #[v72] w73 fun v74 w75 =>
 ∃ (n76 : Int) (n77 : Int) (n78 : Int) (v79 : Value) (n80 : Int), v74 = .agg #[.int .i64 n76, .int .i64 n77, .int .i64 n78, v79, .int .i64 n80] ∧
 (StRow w75 ⟨w0.heap.size, 0, none⟩ #[.int .i64 n76, .int .i64 n77, .int .i64 n78, v79, .int .i64 n80]) ∧
 bindW (stRow w75 ⟨w0.heap.size, 0, none⟩ #[.int .i64 n76, .int .i64 n77, .int .i64 n78, v79, .int .i64 n80]) fun w81 =>
 ∃ (n82 : Int) (n83 : Int) (n84 : Int) (v85 : Value) (n86 : Int), (ldCells w81 ⟨w0.heap.size, 0, none⟩ 5 #[.int .i64 n82, .int .i64 n83, .int .i64 n84, v85, .int .i64 n86]) ∧
 R (.agg #[.int .i64 n82, .int .i64 n83, .int .i64 n84, v85, .int .i64 n86]) w81)
 (JoinP [.bool]
 (fun (b87 : Bool) => fun (w88 : World) =>
 cond b87
 (∃ (n89 : Int) (n90 : Int) (n91 : Int) (v92 : Value) (n93 : Int) (n94 : Int) (n95 : Int) (b96 : Bool), (ldCells w88 ⟨w.heap.size, 0, none⟩ 8 #[.int .i64 n89, .int .i64 n90, .int .i64 n91, v92, .int .u64 n93, .int .u64 n94, .int .i64 n95, .bool b96]) ∧
 CW.Spec Tryz.prog 164 #[.pointer p0, (.agg #[.int .i64 n89, .int .i64 n90, .int .i64 n91, v92, .int .u64 n93, .int .u64 n94, .int .i64 n95, .bool b96])] w88 fun v97 w98 =>
 ∃ (n99 : Int) (n100 : Int) (n101 : Int) (v102 : Value) (n103 : Int), v97 = .agg #[.int .i64 n99, .int .i64 n100, .int .i64 n101, v102, .int .i64 n103] ∧
 (StRow w98 ⟨w0.heap.size, 0, none⟩ #[.int .i64 n99, .int .i64 n100, .int .i64 n101, v102, .int .i64 n103]) ∧
 bindW (stRow w98 ⟨w0.heap.size, 0, none⟩ #[.int .i64 n99, .int .i64 n100, .int .i64 n101, v102, .int .i64 n103]) fun w104 =>
 ∃ (n105 : Int) (n106 : Int) (n107 : Int) (v108 : Value) (n109 : Int), (ldCells w104 ⟨w0.heap.size, 0, none⟩ 5 #[.int .i64 n105, .int .i64 n106, .int .i64 n107, v108, .int .i64 n109]) ∧
 R (.agg #[.int .i64 n105, .int .i64 n106, .int .i64 n107, v108, .int .i64 n109]) w104)
 (cond (n2 == 10)
 (j47 w88)
 (cond (n2 == 11)
 (j47 w88)
 (cond (n2 == 12)
 (bindW (World.drew w88) fun w110 =>
 withAddr (.pointer p0) fun a111 =>
 ∃ (o112 : Option Addr), ((World.cell? w110 (Addr.add a111 1)) = (some (.pointer o112))) ∧
 ∃ n113, World.cell? w110 (Addr.add ⟨w.heap.size, 0, none⟩ 4) = some (.int .u64 n113) ∧
 ∃ n114, World.cell? w110 (Addr.add ⟨w.heap.size, 0, none⟩ 6) = some (.int .i64 n114) ∧
 bindW (World.drew w88) fun w115 =>
 CW.Spec Tryz.prog 167 #[.pointer o112, .int .i64 p1, .int .u64 n113, .int .i64 n114] w115 fun v116 w117 =>
 ∃ (n118 : Int) (n119 : Int) (n120 : Int) (v121 : Value) (n122 : Int), v116 = .agg #[.int .i64 n118, .int .i64 n119, .int .i64 n120, v121, .int .i64 n122] ∧
 (StRow w117 ⟨w0.heap.size, 0, none⟩ #[.int .i64 n118, .int .i64 n119, .int .i64 n120, v121, .int .i64 n122]) ∧
 bindW (stRow w117 ⟨w0.heap.size, 0, none⟩ #[.int .i64 n118, .int .i64 n119, .int .i64 n120, v121, .int .i64 n122]) fun w123 =>
 bindW (stRow w117 ⟨w0.heap.size, 0, none⟩ #[.int .i64 n118, .int .i64 n119, .int .i64 n120, v121, .int .i64 n122]) fun w124 =>
 ∃ (n125 : Int) (n126 : Int) (n127 : Int) (v128 : Value) (n129 : Int), (ldCells w124 ⟨w0.heap.size, 0, none⟩ 5 #[.int .i64 n125, .int .i64 n126, .int .i64 n127, v128, .int .i64 n129]) ∧
 R (.agg #[.int .i64 n125, .int .i64 n126, .int .i64 n127, v128, .int .i64 n129]) w124)
 (cond (n2 == 13)
 (bindW (World.drew w88) fun w130 =>
 withAddr (.pointer p0) fun a131 =>
 ∃ (o132 : Option Addr), ((World.cell? w130 (Addr.add a131 1)) = (some (.pointer o132))) ∧
 ∃ n133, World.cell? w130 (Addr.add ⟨w.heap.size, 0, none⟩ 4) = some (.int .u64 n133) ∧
 ∃ n134, World.cell? w130 (Addr.add ⟨w.heap.size, 0, none⟩ 6) = some (.int .i64 n134) ∧
 bindW (World.drew w88) fun w135 =>
 CW.Spec Tryz.prog 168 #[.pointer o132, .int .i64 p1, .int .u64 n133, .int .i64 n134] w135 fun v136 w137 =>
 ∃ (n138 : Int) (n139 : Int) (n140 : Int) (v141 : Value) (n142 : Int) (v143 : Value), v136 = .tuple #[(.agg #[.int .i64 n138, .int .i64 n139, .int .i64 n140, v141, .int .i64 n142]), v143] ∧
 CW.Spec Tryz.prog 165 #[.pointer p0, (.agg #[.int .i64 n138, .int .i64 n139, .int .i64 n140, v141, .int .i64 n142]), v143] w137 fun v144 w145 =>
 ∃ (n146 : Int) (n147 : Int) (n148 : Int) (v149 : Value) (n150 : Int), v144 = .agg #[.int .i64 n146, .int .i64 n147, .int .i64 n148, v149, .int .i64 n150] ∧
 (StRow w145 ⟨w0.heap.size, 0, none⟩ #[.int .i64 n146, .int .i64 n147, .int .i64 n148, v149, .int .i64 n150]) ∧
 bindW (stRow w145 ⟨w0.heap.size, 0, none⟩ #[.int .i64 n146, .int .i64 n147, .int .i64 n148, v149, .int .i64 n150]) fun w151 =>
 bindW (stRow w145 ⟨w0.heap.size, 0, none⟩ #[.int .i64 n146, .int .i64 n147, .int .i64 n148, v149, .int .i64 n150]) fun w152 =>
 ∃ (n153 : Int) (n154 : Int) (n155 : Int) (v156 : Value) (n157 : Int), (ldCells w152 ⟨w0.heap.size, 0, none⟩ 5 #[.int .i64 n153, .int .i64 n154, .int .i64 n155, v156, .int .i64 n157]) ∧
 R (.agg #[.int .i64 n153, .int .i64 n154, .int .i64 n155, v156, .int .i64 n157]) w152)
 (cond (n2 == 14)
 (bindW (World.drew w88) fun w158 =>
 withAddr (.pointer p0) fun a159 =>
 ∃ (o160 : Option Addr), ((World.cell? w158 (Addr.add a159 1)) = (some (.pointer o160))) ∧
 ∃ n161, World.cell? w158 (Addr.add ⟨w.heap.size, 0, none⟩ 4) = some (.int .u64 n161) ∧
 bindW (World.drew w88) fun w162 =>
 CW.Spec Tryz.prog 169 #[.pointer o160, .int .i64 p1, .int .u64 n161] w162 fun v163 w164 =>
 ∃ (n165 : Int) (n166 : Int) (n167 : Int) (v168 : Value) (n169 : Int) (v170 : Value), v163 = .tuple #[(.agg #[.int .i64 n165, .int .i64 n166, .int .i64 n167, v168, .int .i64 n169]), v170] ∧
 CW.Spec Tryz.prog 165 #[.pointer p0, (.agg #[.int .i64 n165, .int .i64 n166, .int .i64 n167, v168, .int .i64 n169]), v170] w164 fun v171 w172 =>
 ∃ (n173 : Int) (n174 : Int) (n175 : Int) (v176 : Value) (n177 : Int), v171 = .agg #[.int .i64 n173, .int .i64 n174, .int .i64 n175, v176, .int .i64 n177] ∧
 (StRow w172 ⟨w0.heap.size, 0, none⟩ #[.int .i64 n173, .int .i64 n174, .int .i64 n175, v176, .int .i64 n177]) ∧
 bindW (stRow w172 ⟨w0.heap.size, 0, none⟩ #[.int .i64 n173, .int .i64 n174, .int .i64 n175, v176, .int .i64 n177]) fun w178 =>
 bindW (stRow w172 ⟨w0.heap.size, 0, none⟩ #[.int .i64 n173, .int .i64 n174, .int .i64 n175, v176, .int .i64 n177]) fun w179 =>
 ∃ (n180 : Int) (n181 : Int) (n182 : Int) (v183 : Value) (n184 : Int), (ldCells w179 ⟨w0.heap.size, 0, none⟩ 5 #[.int .i64 n180, .int .i64 n181, .int .i64 n182, v183, .int .i64 n184]) ∧
 R (.agg #[.int .i64 n180, .int .i64 n181, .int .i64 n182, v183, .int .i64 n184]) w179)
 (cond (n2 == 15)
 (bindW (World.drew w88) fun w185 =>
 withAddr (.pointer p0) fun a186 =>
 ∃ (o187 : Option Addr), ((World.cell? w185 (Addr.add a186 1)) = (some (.pointer o187))) ∧
 ∃ n188, World.cell? w185 (Addr.add ⟨w.heap.size, 0, none⟩ 4) = some (.int .u64 n188) ∧
 ∃ n189, World.cell? w185 (Addr.add ⟨w.heap.size, 0, none⟩ 5) = some (.int .u64 n189) ∧
 ∃ n190, World.cell? w185 (Addr.add ⟨w.heap.size, 0, none⟩ 6) = some (.int .i64 n190) ∧
 bindW (World.drew w88) fun w191 =>
 CW.Spec Tryz.prog 170 #[.pointer o187, .int .i64 p1, .int .u64 n188, .int .u64 n189, .int .i64 n190] w191 fun v192 w193 =>
 ∃ (n194 : Int) (n195 : Int) (n196 : Int) (v197 : Value) (n198 : Int) (v199 : Value), v192 = .tuple #[(.agg #[.int .i64 n194, .int .i64 n195, .int .i64 n196, v197, .int .i64 n198]), v199] ∧
 CW.Spec Tryz.prog 165 #[.pointer p0, (.agg #[.int .i64 n194, .int .i64 n195, .int .i64 n196, v197, .int .i64 n198]), v199] w193 fun v200 w201 =>
 ∃ (n202 : Int) (n203 : Int) (n204 : Int) (v205 : Value) (n206 : Int), v200 = .agg #[.int .i64 n202, .int .i64 n203, .int .i64 n204, v205, .int .i64 n206] ∧
 (StRow w201 ⟨w0.heap.size, 0, none⟩ #[.int .i64 n202, .int .i64 n203, .int .i64 n204, v205, .int .i64 n206]) ∧
 bindW (stRow w201 ⟨w0.heap.size, 0, none⟩ #[.int .i64 n202, .int .i64 n203, .int .i64 n204, v205, .int .i64 n206]) fun w207 =>
 bindW (stRow w201 ⟨w0.heap.size, 0, none⟩ #[.int .i64 n202, .int .i64 n203, .int .i64 n204, v205, .int .i64 n206]) fun w208 =>
 ∃ (n209 : Int) (n210 : Int) (n211 : Int) (v212 : Value) (n213 : Int), (ldCells w208 ⟨w0.heap.size, 0, none⟩ 5 #[.int .i64 n209, .int .i64 n210, .int .i64 n211, v212, .int .i64 n213]) ∧
 R (.agg #[.int .i64 n209, .int .i64 n210, .int .i64 n211, v212, .int .i64 n213]) w208)
 (cond (n2 == 16)
 (bindW (World.drew w88) fun w214 =>
 withAddr (.pointer p0) fun a215 =>
 ∃ (o216 : Option Addr), ((World.cell? w214 (Addr.add a215 1)) = (some (.pointer o216))) ∧
 withAddr (.pointer p0) fun a217 =>
 ∃ (o218 : Option Addr), ((World.cell? w214 (Addr.add a217 1)) = (some (.pointer o218))) ∧
 bindW (World.drew w88) fun w219 =>
 CW.Spec Tryz.prog 172 #[.pointer o216] w219 fun v220 w221 =>
 ∃ (n222 : Int), v220 = .int .u32 n222 ∧
 (∃ (o223 : Option Addr), ((World.cell? w221 (Addr.add a217 1)) = (some (.pointer o223))) ∧
 ((.pointer o223) : Value) = (.pointer o218)) ∧
 CW.Spec Tryz.prog 173 #[.pointer o218] w221 fun v224 w225 =>
 CW.Spec Tryz.prog 171 #[.int .u32 n222, v224] w225 fun v226 w227 =>
 CW.Spec Tryz.prog 80 #[v226] w227 fun v228 w229 =>
 ∃ (n230 : Int) (n231 : Int) (n232 : Int) (v233 : Value) (n234 : Int), v228 = .agg #[.int .i64 n230, .int .i64 n231, .int .i64 n232, v233, .int .i64 n234] ∧
 (StRow w229 ⟨w0.heap.size, 0, none⟩ #[.int .i64 n230, .int .i64 n231, .int .i64 n232, v233, .int .i64 n234]) ∧
 bindW (stRow w229 ⟨w0.heap.size, 0, none⟩ #[.int .i64 n230, .int .i64 n231, .int .i64 n232, v233, .int .i64 n234]) fun w235 =>
 bindW (stRow w229 ⟨w0.heap.size, 0, none⟩ #[.int .i64 n230, .int .i64 n231, .int .i64 n232, v233, .int .i64 n234]) fun w236 =>
 ∃ (n237 : Int) (n238 : Int) (n239 : Int) (v240 : Value) (n241 : Int), (ldCells w236 ⟨w0.heap.size, 0, none⟩ 5 #[.int .i64 n237, .int .i64 n238, .int .i64 n239, v240, .int .i64 n241]) ∧
 R (.agg #[.int .i64 n237, .int .i64 n238, .int .i64 n239, v240, .int .i64 n241]) w236)
 (cond (n2 == 17)
 (withAddr (.pointer p0) fun a242 =>
 ∃ (o243 : Option Addr), ((World.cell? w88 (Addr.add a242 1)) = (some (.pointer o243))) ∧
 CW.Spec Tryz.prog 174 #[.pointer o243] w88 fun v244 w245 =>
 ∃ (n246 : Int) (n247 : Int), v244 = .tuple #[.int .i64 n246, .int .i64 n247] ∧
 bindW (World.drew w245) fun w248 =>
 withAddr (.pointer p0) fun a249 =>
 ∃ (o250 : Option Addr), ((World.cell? w248 (Addr.add a249 1)) = (some (.pointer o250))) ∧
 withAddr (.pointer p0) fun a251 =>
 ∃ (o252 : Option Addr), ((World.cell? w248 (Addr.add a251 1)) = (some (.pointer o252))) ∧
 bindW (World.drew w245) fun w253 =>
 CW.Spec Tryz.prog 172 #[.pointer o250] w253 fun v254 w255 =>
 ∃ (n256 : Int), v254 = .int .u32 n256 ∧
 (∃ (o257 : Option Addr), ((World.cell? w255 (Addr.add a251 1)) = (some (.pointer o257))) ∧
 ((.pointer o257) : Value) = (.pointer o252)) ∧
 CW.Spec Tryz.prog 176 #[.pointer o252, .int .i64 n246] w255 fun v258 w259 =>
 ∃ (n260 : Int), v258 = .int .u64 n260 ∧
 CW.Spec Tryz.prog 175 #[.int .u32 n256, .int .u64 n260, .int .i64 n247] w259 fun v261 w262 =>
 CW.Spec Tryz.prog 80 #[v261] w262 fun v263 w264 =>
 ∃ (n265 : Int) (n266 : Int) (n267 : Int) (v268 : Value) (n269 : Int), v263 = .agg #[.int .i64 n265, .int .i64 n266, .int .i64 n267, v268, .int .i64 n269] ∧
 (StRow w264 ⟨w0.heap.size, 0, none⟩ #[.int .i64 n265, .int .i64 n266, .int .i64 n267, v268, .int .i64 n269]) ∧
 bindW (stRow w264 ⟨w0.heap.size, 0, none⟩ #[.int .i64 n265, .int .i64 n266, .int .i64 n267, v268, .int .i64 n269]) fun w270 =>
 bindW (stRow w264 ⟨w0.heap.size, 0, none⟩ #[.int .i64 n265, .int .i64 n266, .int .i64 n267, v268, .int .i64 n269]) fun w271 =>
 ∃ (n272 : Int) (n273 : Int) (n274 : Int) (v275 : Value) (n276 : Int), (ldCells w271 ⟨w0.heap.size, 0, none⟩ 5 #[.int .i64 n272, .int .i64 n273, .int .i64 n274, v275, .int .i64 n276]) ∧
 R (.agg #[.int .i64 n272, .int .i64 n273, .int .i64 n274, v275, .int .i64 n276]) w271)
 (j16 w88))))))))))
 (fun j277 =>
 cond (n2 == 2)
 (j277 (n2 == 2) w1)
 (cond (n2 == 3)
 (j277 (n2 == 3) w1)
 (cond (n2 == 4)
 (j277 (n2 == 4) w1)
 (cond (n2 == 5)
 (j277 (n2 == 5) w1)
 (j277 (n2 == 6) w1))))))))))
theorem q41W (p0 p1 p2_0 p2_1 p2_2 p2_3 p2_4 p2_5 p2_6 p2_7 w R) (h : q41F p0 p1 p2_0 p2_1 p2_2 p2_3 p2_4 p2_5 p2_6 p2_7 w R) : CW.Spec Tryz.prog 83 #[.pointer p0, .int .i64 p1, (.agg #[.int .i64 p2_0, .int .i64 p2_1, .int .i64 p2_2, p2_3, .int .u64 p2_4, .int .u64 p2_5, .int .i64 p2_6, .bool p2_7])] w R :=
 sp Tryz.func83 h
def q43F (p0 : Option Addr) (p1_0 : Int) (p1_1 : Int) (p1_2 : Int) (p1_3 : Value) (p1_4 : Int) (p1_5 : Int) (p1_6 : Int) (p1_7 : Bool) (w : World) (R : KV) : Prop :=
 bindW (World.alloc w (.cells #[.int .i64 p1_0, .int .i64 p1_1, .int .i64 p1_2, p1_3, .int .u64 p1_4, .int .u64 p1_5, .int .i64 p1_6, .bool p1_7] 40)) fun w0 =>
 bindW (World.alloc w0 (.cells #[.int .i64 0, .int .i64 0, .int .i64 0, .slice none 0 0, .int .i64 0] 54)) fun w1 =>
 bindW (World.drew w1) fun w2 =>
 withAddr (.pointer p0) fun a3 =>
 ∃ (o4 : Option Addr), ((World.cell? w2 (Addr.add a3 0)) = (some (.pointer o4))) ∧
 ∃ n5, World.cell? w2 (Addr.add ⟨w.heap.size, 0, none⟩ 1) = some (.int .i64 n5) ∧
 ∃ n6, World.cell? w2 (Addr.add ⟨w.heap.size, 0, none⟩ 2) = some (.int .i64 n6) ∧
 bindW (World.drew w1) fun w7 =>
 CW.Spec Tryz.prog 235 #[.pointer o4, .int .i64 n5, .int .i64 n6] w7 fun v8 w9 =>
 ∃ (b10 : Bool), v8 = .bool b10 ∧
 cond (!b10)
 (CW.Spec Tryz.prog 78 #[.int .i64 5, .int .i64 8448] w9 fun v11 w12 =>
 ∃ (n13 : Int) (n14 : Int) (n15 : Int) (v16 : Value) (n17 : Int), v11 = .agg #[.int .i64 n13, .int .i64 n14, .int .i64 n15, v16, .int .i64 n17] ∧
 (StRow w12 ⟨w0.heap.size, 0, none⟩ #[.int .i64 n13, .int .i64 n14, .int .i64 n15, v16, .int .i64 n17]) ∧
 bindW (stRow w12 ⟨w0.heap.size, 0, none⟩ #[.int .i64 n13, .int .i64 n14, .int .i64 n15, v16, .int .i64 n17]) fun w18 =>
 ∃ (n19 : Int) (n20 : Int) (n21 : Int) (v22 : Value) (n23 : Int), (ldCells w18 ⟨w0.heap.size, 0, none⟩ 5 #[.int .i64 n19, .int .i64 n20, .int .i64 n21, v22, .int .i64 n23]) ∧
 R (.agg #[.int .i64 n19, .int .i64 n20, .int .i64 n21, v22, .int .i64 n23]) w18)
 (∃ n24, World.cell? w9 (Addr.add ⟨w.heap.size, 0, none⟩ 2) = some (.int .i64 n24) ∧
 ∃ n25, World.cell? w9 (Addr.add ⟨w.heap.size, 0, none⟩ 0) = some (.int .i64 n25) ∧
 JoinP []
 (fun (w26 : World) =>
 (StRow w26 ⟨w0.heap.size, 0, none⟩ #[.int .i64 0, .int .i64 0, .int .i64 0, .slice none 0 0, .int .i64 0]) ∧
 bindW (stRow w26 ⟨w0.heap.size, 0, none⟩ #[.int .i64 0, .int .i64 0, .int .i64 0, .slice none 0 0, .int .i64 0]) fun w27 =>
 ∃ (n28 : Int) (n29 : Int) (n30 : Int) (v31 : Value) (n32 : Int), (ldCells w27 ⟨w0.heap.size, 0, none⟩ 5 #[.int .i64 n28, .int .i64 n29, .int .i64 n30, v31, .int .i64 n32]) ∧
 R (.agg #[.int .i64 n28, .int .i64 n29, .int .i64 n30, v31, .int .i64 n32]) w27)
 (fun j33 =>
 cond (n25 == 2)
 (bindW (World.drew w9) fun w34 =>
 withAddr (.pointer p0) fun a35 =>
 ∃ (o36 : Option Addr), ((World.cell? w34 (Addr.add a35 0)) = (some (.pointer o36))) ∧
 ∃ n37, World.cell? w34 (Addr.add ⟨w.heap.size, 0, none⟩ 1) = some (.int .i64 n37) ∧
 ∃ n38, World.cell? w34 (Addr.add ⟨w.heap.size, 0, none⟩ 2) = some (.int .i64 n38) ∧
 bindW (World.drew w9) fun w39 =>
 CW.Spec Tryz.prog 236 #[.pointer o36, .int .i64 n37, .int .i64 n38] w39 fun v40 w41 =>
 ∃ (v42 : Value) (n43 : Int), v40 = .tuple #[v42, .int .i64 n43] ∧
 CW.Spec Tryz.prog 80 #[v42] w41 fun v44 w45 =>
 ∃ (n46 : Int) (n47 : Int) (n48 : Int) (v49 : Value) (n50 : Int), v44 = .agg #[.int .i64 n46, .int .i64 n47, .int .i64 n48, v49, .int .i64 n50] ∧
 (StRow w45 ⟨w0.heap.size, 0, none⟩ #[.int .i64 n46, .int .i64 n47, .int .i64 n48, v49, .int .i64 n50]) ∧
 bindW (stRow w45 ⟨w0.heap.size, 0, none⟩ #[.int .i64 n46, .int .i64 n47, .int .i64 n48, v49, .int .i64 n50]) fun w51 =>
 ∃ (n52 : Int) (n53 : Int) (n54 : Int) (v55 : Value) (n56 : Int), (ldCells w51 ⟨w0.heap.size, 0, none⟩ 5 #[.int .i64 n52, .int .i64 n53, .int .i64 n54, v55, .int .i64 n56]) ∧
 R (.agg #[.int .i64 n52, .int .i64 n53, .int .i64 n54, v55, .int .i64 n56]) w51)
 (cond (n25 == 3)
 (∃ v57, World.cell? w9 (Addr.add ⟨w.heap.size, 0, none⟩ 3) = some v57 ∧
 ∃ m58, sliceLen v57 = some m58 ∧
 cond (((m58 : Nat) : Int) != (IntKind.wrap .i64 (n24 * 8)))
 (CW.Spec Tryz.prog 78 #[.int .i64 5, .int .i64 9216] w9 fun v59 w60 =>
 ∃ (n61 : Int) (n62 : Int) (n63 : Int) (v64 : Value) (n65 : Int), v59 = .agg #[.int .i64 n61, .int .i64 n62, .int .i64 n63, v64, .int .i64 n65] ∧
 (StRow w60 ⟨w0.heap.size, 0, none⟩ #[.int .i64 n61, .int .i64 n62, .int .i64 n63, v64, .int .i64 n65]) ∧
 bindW (stRow w60 ⟨w0.heap.size, 0, none⟩ #[.int .i64 n61, .int .i64 n62, .int .i64 n63, v64, .int .i64 n65]) fun w66 =>
 ∃ (n67 : Int) (n68 : Int) (n69 : Int) (v70 : Value) (n71 : Int), (ldCells w66 ⟨w0.heap.size, 0, none⟩ 5 #[.int .i64 n67, .int .i64 n68, .int .i64 n69, v70, .int .i64 n71]) ∧
 R (.agg #[.int .i64 n67, .int .i64 n68, .int .i64 n69, v70, .int .i64 n71]) w66)
 (bindW (World.drew w9) fun w72 =>
 withAddr (.pointer p0) fun a73 =>
 ∃ (o74 : Option Addr), ((World.cell? w72 (Addr.add a73 0)) = (some (.pointer o74))) ∧
 ∃ n75, World.cell? w72 (Addr.add ⟨w.heap.size, 0, none⟩ 1) = some (.int .i64 n75) ∧
 ∃ v76, World.cell? w72 (Addr.add ⟨w.heap.size, 0, none⟩ 3) = some v76 ∧
 bindW (World.drew w9) fun w77 =>
 CW.Spec Tryz.prog 237 #[.pointer o74, .int .i64 n75, v76] w77 fun v78 w79 =>
 ∃ (n80 : Int), v78 = .int .i64 n80 ∧
 j33 w79))
 (cond (n25 == 5)
 (bindW (World.drew w9) fun w81 =>
 withAddr (.pointer p0) fun a82 =>
 ∃ (o83 : Option Addr), ((World.cell? w81 (Addr.add a82 0)) = (some (.pointer o83))) ∧
 ∃ n84, World.cell? w81 (Addr.add ⟨w.heap.size, 0, none⟩ 1) = some (.int .i64 n84) ∧
 ∃ n85, World.cell? w81 (Addr.add ⟨w.heap.size, 0, none⟩ 2) = some (.int .i64 n85) ∧
 bindW (World.drew w9) fun w86 =>
 CW.Spec Tryz.prog 238 #[.pointer o83, .int .i64 n84, .int .i64 n85] w86 fun v87 w88 =>
 ∃ (n89 : Int), v87 = .int .i64 n89 ∧
 j33 w88)
 (cond (n25 == 6)
 (∃ v90, World.cell? w9 (Addr.add ⟨w.heap.size, 0, none⟩ 3) = some v90 ∧
 ∃ m91, sliceLen v90 = some m91 ∧
 cond (((m91 : Nat) : Int) != (IntKind.wrap .i64 ((2 : Int) * (IntKind.wrap .i64 (n24 * 8)))))
 (CW.Spec Tryz.prog 78 #[.int .i64 5, .int .i64 9216] w9 fun v92 w93 =>
 ∃ (n94 : Int) (n95 : Int) (n96 : Int) (v97 : Value) (n98 : Int), v92 = .agg #[.int .i64 n94, .int .i64 n95, .int .i64 n96, v97, .int .i64 n98] ∧
 (StRow w93 ⟨w0.heap.size, 0, none⟩ #[.int .i64 n94, .int .i64 n95, .int .i64 n96, v97, .int .i64 n98]) ∧
 bindW (stRow w93 ⟨w0.heap.size, 0, none⟩ #[.int .i64 n94, .int .i64 n95, .int .i64 n96, v97, .int .i64 n98]) fun w99 =>
 ∃ (n100 : Int) (n101 : Int) (n102 : Int) (v103 : Value) (n104 : Int), (ldCells w99 ⟨w0.heap.size, 0, none⟩ 5 #[.int .i64 n100, .int .i64 n101, .int .i64 n102, v103, .int .i64 n104]) ∧
 R (.agg #[.int .i64 n100, .int .i64 n101, .int .i64 n102, v103, .int .i64 n104]) w99)
 (bindW (World.drew w9) fun w105 =>
 withAddr (.pointer p0) fun a106 =>
 ∃ (o107 : Option Addr), ((World.cell? w105 (Addr.add a106 0)) = (some (.pointer o107))) ∧
 ∃ n108, World.cell? w105 (Addr.add ⟨w.heap.size, 0, none⟩ 1) = some (.int .i64 n108) ∧
 ∃ v109, World.cell? w105 (Addr.add ⟨w.heap.size, 0, none⟩ 3) = some v109 ∧
 bindW (World.drew w9) fun w110 =>
 CW.Spec Tryz.prog 239 #[.pointer o107, .int .i64 n108, v109] w110 fun v111 w112 =>
 ∃ (n113 : Int) (n114 : Int), v111 = .tuple #[.int .i64 n113, .int .i64 n114] ∧
 cond (decide (n113 ≥ 0))
 (CW.Spec Tryz.prog 78 #[.int .i64 14, .int .i64 7424] w112 fun v115 w116 =>
 ∃ (n117 : Int) (n118 : Int) (n119 : Int) (v120 : Value) (n121 : Int), v115 = .agg #[.int .i64 n117, .int .i64 n118, .int .i64 n119, v120, .int .i64 n121] ∧
 bindW (World.alloc w116 (.cells #[.int .i64 0, .int .i64 0, .int .i64 0, .slice none 0 0, .int .i64 0] 54)) fun w122 =>
 (StRow w122 ⟨w116.heap.size, 0, none⟩ #[.int .i64 n117, .int .i64 n118, .int .i64 n119, v120, .int .i64 n121]) ∧
 bindW (stRow w122 ⟨w116.heap.size, 0, none⟩ #[.int .i64 n117, .int .i64 n118, .int .i64 n119, v120, .int .i64 n121]) fun w123 =>
 (St1 w123 (Addr.add ⟨w116.heap.size, 0, none⟩ 4)) ∧
 bindW (World.setCell w123 (Addr.add ⟨w116.heap.size, 0, none⟩ 4) (.int .i64 n113)) fun w124 =>
 ∃ (n125 : Int) (n126 : Int) (n127 : Int) (v128 : Value) (n129 : Int), (ldCells w124 ⟨w116.heap.size, 0, none⟩ 5 #[.int .i64 n125, .int .i64 n126, .int .i64 n127, v128, .int .i64 n129]) ∧
 (StRow w124 ⟨w0.heap.size, 0, none⟩ #[.int .i64 n125, .int .i64 n126, .int .i64 n127, v128, .int .i64 n129]) ∧
 bindW (stRow w124 ⟨w0.heap.size, 0, none⟩ #[.int .i64 n125, .int .i64 n126, .int .i64 n127, v128, .int .i64 n129]) fun w130 =>
 ∃ (n131 : Int) (n132 : Int) (n133 : Int) (v134 : Value) (n135 : Int), (ldCells w130 ⟨w0.heap.size, 0, none⟩ 5 #[.int .i64 n131, .int .i64 n132, .int .i64 n133, v134, .int .i64 n135]) ∧
 R (.agg #[.int .i64 n131, .int .i64 n132, .int .i64 n133, v134, .int .i64 n135]) w130)
 (j33 w112)))
 (j33 w9))))))
theorem q43W (p0 p1_0 p1_1 p1_2 p1_3 p1_4 p1_5 p1_6 p1_7 w R) (h : q43F p0 p1_0 p1_1 p1_2 p1_3 p1_4 p1_5 p1_6 p1_7 w R) : CW.Spec Tryz.prog 164 #[.pointer p0, (.agg #[.int .i64 p1_0, .int .i64 p1_1, .int .i64 p1_2, p1_3, .int .u64 p1_4, .int .u64 p1_5, .int .i64 p1_6, .bool p1_7])] w R :=
 sp Tryz.func164 h
def q42F (p0 : Option Addr) (p1_0 : Int) (p1_1 : Int) (p1_2 : Int) (p1_3 : Value) (p1_4 : Int) (p2 : Value) (w : World) (R : KV) : Prop :=
 bindW (World.alloc w (.cells #[.int .i64 p1_0, .int .i64 p1_1, .int .i64 p1_2, p1_3, .int .i64 p1_4] 54)) fun w0 =>
 bindW (World.alloc w0 (.cells #[.int .i64 0, .int .i64 0, .int .i64 0, .slice none 0 0, .int .i64 0] 54)) fun w1 =>
 ∃ m2, sliceLen p2 = some m2 ∧
 LoopP [.int .i64]
 (fun j3 => fun (n4 : Int) => fun (w5 : World) =>
 cond (decide (n4 < ((m2 : Nat) : Int)))
 (∃ a6, sliceAt p2 n4 2 = some a6 ∧
 ∃ (n7 : Int) (n8 : Int), (ldCells w5 a6 2 #[.int .i64 n7, .int .i64 n8]) ∧
 bindW (World.alloc w5 (.cells #[.int .i64 0, .int .i64 0] 360)) fun w9 =>
 (StRow w9 ⟨w5.heap.size, 0, none⟩ #[.int .i64 n7, .int .i64 n8]) ∧
 bindW (stRow w9 ⟨w5.heap.size, 0, none⟩ #[.int .i64 n7, .int .i64 n8]) fun w10 =>
 ∃ n11, World.cell? w10 (Addr.add ⟨w5.heap.size, 0, none⟩ 0) = some (.int .i64 n11) ∧
 ∃ n12, World.cell? w10 (Addr.add ⟨w5.heap.size, 0, none⟩ 1) = some (.int .i64 n12) ∧
 CW.Spec Tryz.prog 177 #[.pointer p0, .int .i64 n11, .int .i64 n12] w10 fun v13 w14 =>
 v13 = .tuple #[] ∧
 j3 (IntKind.wrap .i64 (n4 + 1)) w14)
 (∃ (n15 : Int) (n16 : Int) (n17 : Int) (v18 : Value) (n19 : Int), (ldCells w5 ⟨w.heap.size, 0, none⟩ 5 #[.int .i64 n15, .int .i64 n16, .int .i64 n17, v18, .int .i64 n19]) ∧
 (StRow w5 ⟨w0.heap.size, 0, none⟩ #[.int .i64 n15, .int .i64 n16, .int .i64 n17, v18, .int .i64 n19]) ∧
 bindW (stRow w5 ⟨w0.heap.size, 0, none⟩ #[.int .i64 n15, .int .i64 n16, .int .i64 n17, v18, .int .i64 n19]) fun w20 =>
 ∃ (n21 : Int) (n22 : Int) (n23 : Int) (v24 : Value) (n25 : Int), (ldCells w20 ⟨w0.heap.size, 0, none⟩ 5 #[.int .i64 n21, .int .i64 n22, .int .i64 n23, v24, .int .i64 n25]) ∧
 R (.agg #[.int .i64 n21, .int .i64 n22, .int .i64 n23, v24, .int .i64 n25]) w20))
 (fun s26 => s26 (0 : Int) w1)
theorem q42W (p0 p1_0 p1_1 p1_2 p1_3 p1_4 p2 w R) (h : q42F p0 p1_0 p1_1 p1_2 p1_3 p1_4 p2 w R) : CW.Spec Tryz.prog 165 #[.pointer p0, (.agg #[.int .i64 p1_0, .int .i64 p1_1, .int .i64 p1_2, p1_3, .int .i64 p1_4]), p2] w R :=
 sp Tryz.func165 h
def q56F  (w : World) (R : KV) : Prop :=
 bindW (World.alloc w (.cells #[.int .u64 0, .int .u64 0, .int .u64 0, .int .u64 0, .int .u64 0, .int .u64 0, .int .u64 0, .int .u64 0, (.int .i64 (-1 : Int)), .int .i64 0, .int .u32 0] 280)) fun w0 =>
 R (.pointer (some ⟨w.heap.size, 0, none⟩)) w0
theorem q56W  (w : World) (R : KV) (h : q56F  w R) : CW.Spec Tryz.prog 75 #[] w R :=
 sp Tryz.func75 h
def q57F (p0 : Option Addr) (p1 : Int) (p2 : Int) (w : World) (R : KV) : Prop :=
 JoinP [.bool]
 (fun (b0 : Bool) => fun (w1 : World) =>
 cond b0
 (R (.bool true) w1)
 (JoinP [.bool]
 (fun (b2 : Bool) => fun (w3 : World) =>
 cond b2
 (JoinP [.bool]
 (fun (b4 : Bool) => fun (w5 : World) =>
 R (.bool b4) w5)
 (fun j6 =>
 withAddr (.pointer p0) fun a7 =>
 ∃ n8, World.cell? w3 (Addr.add a7 9) = some (.int .i64 n8) ∧
 cond (n8 == 1)
 (j6 true w3)
 (withAddr (.pointer p0) fun a9 =>
 ∃ n10, World.cell? w3 (Addr.add a9 9) = some (.int .i64 n10) ∧
 j6 (n10 == 5) w3)))
 (JoinP [.bool]
 (fun (b11 : Bool) => fun (w12 : World) =>
 cond b11
 (R (.bool false) w12)
 (R (.bool true) w12))
 (fun j13 =>
 cond (p2 == 3)
 (j13 (p2 == 3) w3)
 (cond (p2 == 4)
 (j13 (p2 == 4) w3)
 (cond (p2 == 5)
 (j13 (p2 == 5) w3)
 (j13 (p2 == 6) w3))))))
 (fun j14 =>
 cond (p2 == 1)
 (j14 (p2 == 1) w1)
 (j14 (p2 == 2) w1))))
 (fun j15 =>
 withAddr (.pointer p0) fun a16 =>
 ∃ n17, World.cell? w (Addr.add a16 8) = some (.int .i64 n17) ∧
 cond (n17 == (-1 : Int))
 (j15 true w)
 (withAddr (.pointer p0) fun a18 =>
 ∃ n19, World.cell? w (Addr.add a18 8) = some (.int .i64 n19) ∧
 cond (n19 == p1)
 (j15 true w)
 (CW.Spec Tryz.prog 159 #[.pointer p0] w fun v20 w21 =>
 ∃ (b22 : Bool), v20 = .bool b22 ∧
 cond b22
 (CW.Spec Tryz.prog 160 #[.int .i64 p1] w21 fun v23 w24 =>
 ∃ (b25 : Bool), v23 = .bool b25 ∧
 cond b25
 (withAddr (.pointer p0) fun a26 =>
 (inR p1 8) ∧
 ∃ n27, World.cell? w24 (Addr.add (Addr.add a26 0) ((Int.toNat p1) * 1)) = some (.int .u64 n27) ∧
 j15 (n27 != 0) w24)
 (j15 false w24))
 (j15 false w21))))
theorem q57W (p0 p1 p2 w R) (h : q57F p0 p1 p2 w R) : CW.Spec Tryz.prog 82 #[.pointer p0, .int .i64 p1, .int .i64 p2] w R :=
 sp Tryz.func82 h
def q71F (p0 : Int) (w : World) (R : KV) : Prop :=
 JoinP [.bool]
 (fun (b0 : Bool) => fun (w1 : World) =>
 R (.bool b0) w1)
 (fun j2 =>
 cond (decide (p0 ≥ 0))
 (j2 (decide (p0 < 8)) w)
 (j2 false w))
theorem q71W (p0 w R) (h : q71F p0 w R) : CW.Spec Tryz.prog 160 #[.int .i64 p0] w R :=
 sp Tryz.func160 h
def q67F (p0 : Option Addr) (w : World) (R : KV) : Prop :=
 JoinP [.bool]
 (fun (b0 : Bool) => fun (w1 : World) =>
 R (.bool b0) w1)
 (fun j2 =>
 withAddr (.pointer p0) fun a3 =>
 ∃ n4, World.cell? w (Addr.add a3 9) = some (.int .i64 n4) ∧
 cond (n4 == 5)
 (j2 true w)
 (withAddr (.pointer p0) fun a5 =>
 ∃ n6, World.cell? w (Addr.add a5 9) = some (.int .i64 n6) ∧
 j2 (n6 == 6) w))
theorem q67W (p0 w R) (h : q67F p0 w R) : CW.Spec Tryz.prog 159 #[.pointer p0] w R :=
 sp Tryz.func159 h
end
section
open Go Go.CW
def q82F (p0 : Int) (p1 : Int) (w : World) (R : KV) : Prop :=
 bindW (World.alloc w (.cells #[.int .i64 0, .int .i64 0, .int .i64 0, .slice none 0 0, .int .i64 0] 54)) fun w0 =>
 (StRow w0 ⟨w.heap.size, 0, none⟩ #[.int .i64 2, .int .i64 p0, .int .i64 p1, .slice none 0 0, .int .i64 0]) ∧
 bindW (stRow w0 ⟨w.heap.size, 0, none⟩ #[.int .i64 2, .int .i64 p0, .int .i64 p1, .slice none 0 0, .int .i64 0]) fun w1 =>
 ∃ (n2 : Int) (n3 : Int) (n4 : Int) (v5 : Value) (n6 : Int), (ldCells w1 ⟨w.heap.size, 0, none⟩ 5 #[.int .i64 n2, .int .i64 n3, .int .i64 n4, v5, .int .i64 n6]) ∧
 R (.agg #[.int .i64 n2, .int .i64 n3, .int .i64 n4, v5, .int .i64 n6]) w1
theorem q82W (p0 p1 w R) (h : q82F p0 p1 w R) : CW.Spec Tryz.prog 78 #[.int .i64 p0, .int .i64 p1] w R :=
 sp Tryz.func78 h
def q81F (p0 : Value) (w : World) (R : KV) : Prop :=
 bindW (World.alloc w (.cells #[.int .i64 0, .int .i64 0, .int .i64 0, .slice none 0 0, .int .i64 0] 54)) fun w0 =>
 CW.Spec Tryz.prog 85 #[p0] w0 fun v1 w2 =>
 CW.Spec Tryz.prog 96 #[v1] w2 fun v3 w4 =>
 oneK v3 ((StRow w4 ⟨w.heap.size, 0, none⟩ #[.int .i64 0, .int .i64 0, .int .i64 0, v3, .int .i64 0]) ∧
 bindW (stRow w4 ⟨w.heap.size, 0, none⟩ #[.int .i64 0, .int .i64 0, .int .i64 0, v3, .int .i64 0]) fun w5 =>
 ∃ (n6 : Int) (n7 : Int) (n8 : Int) (v9 : Value) (n10 : Int), (ldCells w5 ⟨w.heap.size, 0, none⟩ 5 #[.int .i64 n6, .int .i64 n7, .int .i64 n8, v9, .int .i64 n10]) ∧
 R (.agg #[.int .i64 n6, .int .i64 n7, .int .i64 n8, v9, .int .i64 n10]) w5)
theorem q81W (p0 w R) (h : q81F p0 w R) : CW.Spec Tryz.prog 80 #[p0] w R :=
 sp Tryz.func80 h
end
section
open Go Go.CW
def q54F (p0 : Int) (p1 : Value) (w : World) (R : KV) : Prop :=
 ∃ m0 : Nat, ((sliceLen p1) = (some m0)) ∧
 ∃ v1 : Value, ((subSlice p1 1 none (some (.int .i64 (if (16 : Int) < ((m0 : Nat) : Int) then (16 : Int) else ((m0 : Nat) : Int)))) none) = (some v1)) ∧
 CW.Spec Tryz.prog 120 #[.slice none 0 0, (.int .u64 (IntKind.wrap .u64 p0)), .int .i64 4] w fun v2 w3 =>
 ∃ m4 : Nat, ((sliceLen v1) = (some m4)) ∧
 CW.Spec Tryz.prog 120 #[v2, (.int .u64 (IntKind.wrap .u64 (IntKind.wrap .i64 ((8 : Int) * ((m4 : Nat) : Int))))), .int .i64 4] w3 fun v5 w6 =>
 ∃ m7 : Nat, ((sliceLen v1) = (some m7)) ∧
 LoopP [.val, .int .i64]
 (fun j8 => fun (v9 : Value) => fun (n10 : Int) => fun (w11 : World) =>
 cond (decide (n10 < ((m7 : Nat) : Int)))
 (∃ a12 : Addr, ((sliceAt v1 n10 1) = (some a12)) ∧
 ∃ n13 : Int, ((World.cell? w11 a12) = (some (.int .u64 n13))) ∧
 CW.Spec Tryz.prog 120 #[v9, .int .u64 n13, .int .i64 8] w11 fun v14 w15 =>
 j8 v14 (IntKind.wrap .i64 (n10 + 1)) w15)
 (R v9 w11))
 (fun s16 => s16 v5 (0 : Int) w6)
theorem q54W (p0 p1 w R) (h : q54F p0 p1 w R) : CW.Spec Tryz.prog 171 #[.int .u32 p0, p1] w R :=
 sp Tryz.func171 h
def q53F (p0 : Int) (p1 : Int) (p2 : Int) (w : World) (R : KV) : Prop :=
 CW.Spec Tryz.prog 120 #[.slice none 0 0, (.int .u64 (IntKind.wrap .u64 p0)), .int .i64 4] w fun v0 w1 =>
 cond ((bitsI .and .i64 p2 (15 : Int)) == 0)
 (CW.Spec Tryz.prog 120 #[v0, .int .u64 0, .int .i64 4] w1 fun v2 w3 =>
 R v2 w3)
 (CW.Spec Tryz.prog 120 #[v0, .int .u64 16, .int .i64 4] w1 fun v4 w5 =>
 CW.Spec Tryz.prog 120 #[v4, .int .u64 p1, .int .i64 8] w5 fun v6 w7 =>
 CW.Spec Tryz.prog 120 #[v6, .int .u64 0, .int .i64 4] w7 fun v8 w9 =>
 CW.Spec Tryz.prog 120 #[v8, (.int .u64 (IntKind.wrap .u64 (bitsI .and .i64 p2 (15 : Int)))), .int .i64 2] w9 fun v10 w11 =>
 CW.Spec Tryz.prog 120 #[v10, .int .u64 0, .int .i64 2] w11 fun v12 w13 =>
 R v12 w13)
theorem q53W (p0 p1 p2 w R) (h : q53F p0 p1 p2 w R) : CW.Spec Tryz.prog 175 #[.int .u32 p0, .int .u64 p1, .int .i64 p2] w R :=
 sp Tryz.func175 h
end
section
open Go Go.CW
def q40F (p0 : Option Addr) (p1 : Int) (p2 : Int) (p3 : Int) (p4_0 : Int) (p4_1 : Int) (p4_2 : Int) (p4_3 : Value) (p4_4 : Int) (p4_5 : Int) (p4_6 : Int) (p4_7 : Bool) (w : World) (R : KV) : Prop :=
 bindW (World.alloc w (.cells #[.int .i64 p4_0, .int .i64 p4_1, .int .i64 p4_2, p4_3, .int .u64 p4_4, .int .u64 p4_5, .int .i64 p4_6, .bool p4_7] 40)) fun w0 =>
 bindW (World.alloc w0 (.cells #[.int .i64 0, .int .i64 0, .int .i64 0, .slice none 0 0, .int .i64 0] 54)) fun w1 =>
 bindW (World.alloc w1 (.cells #[.int .i64 0, .int .i64 0, .int .i64 0, .slice none 0 0, .int .i64 0] 54)) fun w2 =>
 (StRow w2 ⟨w1.heap.size, 0, none⟩ #[.int .i64 8, .int .i64 0, .int .i64 0, .slice none 0 0, .int .i64 0]) ∧
 bindW (stRow w2 ⟨w1.heap.size, 0, none⟩ #[.int .i64 8, .int .i64 0, .int .i64 0, .slice none 0 0, .int .i64 0]) fun w3 =>
 JoinP [.bool]
 (fun (b4 : Bool) => fun (w5 : World) =>
 cond b4
 (∃ (n6 : Int) (n7 : Int) (n8 : Int) (v9 : Value) (n10 : Int), (ldCells w5 ⟨w1.heap.size, 0, none⟩ 5 #[.int .i64 n6, .int .i64 n7, .int .i64 n8, v9, .int .i64 n10]) ∧
 (StRow w5 ⟨w0.heap.size, 0, none⟩ #[.int .i64 n6, .int .i64 n7, .int .i64 n8, v9, .int .i64 n10]) ∧
 bindW (stRow w5 ⟨w0.heap.size, 0, none⟩ #[.int .i64 n6, .int .i64 n7, .int .i64 n8, v9, .int .i64 n10]) fun w11 =>
 ∃ (n12 : Int) (n13 : Int) (n14 : Int) (v15 : Value) (n16 : Int), (ldCells w11 ⟨w0.heap.size, 0, none⟩ 5 #[.int .i64 n12, .int .i64 n13, .int .i64 n14, v15, .int .i64 n16]) ∧
 R (.tuple #[(.agg #[.int .i64 n12, .int .i64 n13, .int .i64 n14, v15, .int .i64 n16]), .bool false]) w11)
 (withAddr (.pointer p0) fun a17 =>
 (inR p1 8) ∧
 ∃ n18, World.cell? w5 (Addr.add (Addr.add (Addr.add a17 2) ((Int.toNat p1) * 3)) 1) = some (.int .u64 n18) ∧
 ∃ (v19 : Value) (w20 : World), ((Sem.run Tryz.prog (Instr.makeMap 155 none) w5) = (.ok v19 w20)) ∧
 ∃ v21, World.cell? w20 (Addr.add (Addr.add (Addr.add a17 2) ((Int.toNat p1) * 3)) 2) = some v21 ∧
 ∃ (v22 : Value) (w23 : World), ((Sem.run Tryz.prog (Instr.range 155 v21) w20) = (.ok v22 w23)) ∧
 LoopP []
 (fun j24 => fun (w25 : World) =>
 ((∃ (w26 : World), ((Sem.run Tryz.prog (Instr.next v22 false 0) w25) = (.ok (.tuple #[.bool false]) w26)) ∧
 ∃ (n27 : Int) (n28 : Int) (n29 : Int) (v30 : Value) (n31 : Int) (b32 : Bool), ((Sem.run Tryz.prog (Instr.lookup 155 v19 (.int .u64 p2) true) w26) = (.ok (.tuple #[(.agg #[.int .i64 n27, .int .i64 n28, .int .i64 n29, v30, .int .i64 n31]), .bool b32]) w26)) ∧
 bindW (World.alloc w26 (.cells #[.int .i64 0, .int .i64 0, .int .i64 0, .slice none 0 0, .int .i64 0] 54)) fun w33 =>
 (StRow w33 ⟨w26.heap.size, 0, none⟩ #[.int .i64 n27, .int .i64 n28, .int .i64 n29, v30, .int .i64 n31]) ∧
 bindW (stRow w33 ⟨w26.heap.size, 0, none⟩ #[.int .i64 n27, .int .i64 n28, .int .i64 n29, v30, .int .i64 n31]) fun w34 =>
 cond b32
 ((St1 w34 (Addr.add (Addr.add (Addr.add a17 2) ((Int.toNat p1) * 3)) 1)) ∧
 bindW (World.setCell w34 (Addr.add (Addr.add (Addr.add a17 2) ((Int.toNat p1) * 3)) 1) (.int .u64 (if (if p2 < p3 then p2 else p3) < n18 then n18 else (if p2 < p3 then p2 else p3)))) fun w35 =>
 oneK v19 ((St1 w35 (Addr.add (Addr.add (Addr.add a17 2) ((Int.toNat p1) * 3)) 2)) ∧
 bindW (World.setCell w35 (Addr.add (Addr.add (Addr.add a17 2) ((Int.toNat p1) * 3)) 2) v19) fun w36 =>
 ∃ (n37 : Int) (n38 : Int) (n39 : Int) (v40 : Value) (n41 : Int), (ldCells w36 ⟨w26.heap.size, 0, none⟩ 5 #[.int .i64 n37, .int .i64 n38, .int .i64 n39, v40, .int .i64 n41]) ∧
 CW.Spec Tryz.prog 77 #[(.agg #[.int .i64 n37, .int .i64 n38, .int .i64 n39, v40, .int .i64 n41])] w36 fun v42 w43 =>
 ∃ (n44 : Int) (n45 : Int) (n46 : Int) (v47 : Value) (n48 : Int), v42 = .agg #[.int .i64 n44, .int .i64 n45, .int .i64 n46, v47, .int .i64 n48] ∧
 (StRow w43 ⟨w0.heap.size, 0, none⟩ #[.int .i64 n44, .int .i64 n45, .int .i64 n46, v47, .int .i64 n48]) ∧
 bindW (stRow w43 ⟨w0.heap.size, 0, none⟩ #[.int .i64 n44, .int .i64 n45, .int .i64 n46, v47, .int .i64 n48]) fun w49 =>
 ∃ (n50 : Int) (n51 : Int) (n52 : Int) (v53 : Value) (n54 : Int), (ldCells w49 ⟨w0.heap.size, 0, none⟩ 5 #[.int .i64 n50, .int .i64 n51, .int .i64 n52, v53, .int .i64 n54]) ∧
 R (.tuple #[(.agg #[.int .i64 n50, .int .i64 n51, .int .i64 n52, v53, .int .i64 n54]), .bool false]) w49))
 (∃ (n55 : Int), ((Sem.run Tryz.prog (Builtin.len_ #[155] 0 #[v19]) w34) = (.ok (.int .i64 n55) w34)) ∧
 cond (decide (n55 ≥ 4))
 (∃ (n56 : Int) (n57 : Int) (n58 : Int) (v59 : Value) (n60 : Int), (ldCells w34 ⟨w1.heap.size, 0, none⟩ 5 #[.int .i64 n56, .int .i64 n57, .int .i64 n58, v59, .int .i64 n60]) ∧
 (StRow w34 ⟨w0.heap.size, 0, none⟩ #[.int .i64 n56, .int .i64 n57, .int .i64 n58, v59, .int .i64 n60]) ∧
 bindW (stRow w34 ⟨w0.heap.size, 0, none⟩ #[.int .i64 n56, .int .i64 n57, .int .i64 n58, v59, .int .i64 n60]) fun w61 =>
 ∃ (n62 : Int) (n63 : Int) (n64 : Int) (v65 : Value) (n66 : Int), (ldCells w61 ⟨w0.heap.size, 0, none⟩ 5 #[.int .i64 n62, .int .i64 n63, .int .i64 n64, v65, .int .i64 n66]) ∧
 R (.tuple #[(.agg #[.int .i64 n62, .int .i64 n63, .int .i64 n64, v65, .int .i64 n66]), .bool false]) w61)
 ((St1 w34 (Addr.add (Addr.add (Addr.add a17 2) ((Int.toNat p1) * 3)) 1)) ∧
 bindW (World.setCell w34 (Addr.add (Addr.add (Addr.add a17 2) ((Int.toNat p1) * 3)) 1) (.int .u64 (if (if p2 < p3 then p2 else p3) < n18 then n18 else (if p2 < p3 then p2 else p3)))) fun w67 =>
 oneK v19 ((St1 w67 (Addr.add (Addr.add (Addr.add a17 2) ((Int.toNat p1) * 3)) 2)) ∧
 bindW (World.setCell w67 (Addr.add (Addr.add (Addr.add a17 2) ((Int.toNat p1) * 3)) 2) v19) fun w68 =>
 ∃ (n69 : Int) (n70 : Int) (n71 : Int) (v72 : Value) (n73 : Int) (n74 : Int) (n75 : Int) (b76 : Bool), (ldCells w68 ⟨w.heap.size, 0, none⟩ 8 #[.int .i64 n69, .int .i64 n70, .int .i64 n71, v72, .int .u64 n73, .int .u64 n74, .int .i64 n75, .bool b76]) ∧
 CW.Spec Tryz.prog 20 #[.pointer p0, .int .i64 p1, (.agg #[.int .i64 n69, .int .i64 n70, .int .i64 n71, v72, .int .u64 n73, .int .u64 n74, .int .i64 n75, .bool b76])] w68 fun v77 w78 =>
 ∃ (n79 : Int) (n80 : Int) (n81 : Int) (v82 : Value) (n83 : Int), v77 = .agg #[.int .i64 n79, .int .i64 n80, .int .i64 n81, v82, .int .i64 n83] ∧
 (StRow w78 ⟨w0.heap.size, 0, none⟩ #[.int .i64 n79, .int .i64 n80, .int .i64 n81, v82, .int .i64 n83]) ∧
 bindW (stRow w78 ⟨w0.heap.size, 0, none⟩ #[.int .i64 n79, .int .i64 n80, .int .i64 n81, v82, .int .i64 n83]) fun w84 =>
 ∃ (n85 : Int) (n86 : Int) (n87 : Int) (v88 : Value) (n89 : Int), (ldCells w84 ⟨w0.heap.size, 0, none⟩ 5 #[.int .i64 n85, .int .i64 n86, .int .i64 n87, v88, .int .i64 n89]) ∧
 CW.Spec Tryz.prog 77 #[(.agg #[.int .i64 n85, .int .i64 n86, .int .i64 n87, v88, .int .i64 n89])] w84 fun v90 w91 =>
 ∃ (n92 : Int) (n93 : Int) (n94 : Int) (v95 : Value) (n96 : Int), v90 = .agg #[.int .i64 n92, .int .i64 n93, .int .i64 n94, v95, .int .i64 n96] ∧
 ∃ (w97 : World), ((Sem.run Tryz.prog (Instr.mapUpdate 155 v19 (.int .u64 p2) (.agg #[.int .i64 n92, .int .i64 n93, .int .i64 n94, v95, .int .i64 n96])) w91) = (.ok PUnit.unit w97)) ∧
 ∃ (n98 : Int) (n99 : Int) (n100 : Int) (v101 : Value) (n102 : Int), (ldCells w97 ⟨w0.heap.size, 0, none⟩ 5 #[.int .i64 n98, .int .i64 n99, .int .i64 n100, v101, .int .i64 n102]) ∧
 (StRow w97 ⟨w0.heap.size, 0, none⟩ #[.int .i64 n98, .int .i64 n99, .int .i64 n100, v101, .int .i64 n102]) ∧
 bindW (stRow w97 ⟨w0.heap.size, 0, none⟩ #[.int .i64 n98, .int .i64 n99, .int .i64 n100, v101, .int .i64 n102]) fun w103 =>
 ∃ (n104 : Int) (n105 : Int) (n106 : Int) (v107 : Value) (n108 : Int), (ldCells w103 ⟨w0.heap.size, 0, none⟩ 5 #[.int .i64 n104, .int .i64 n105, .int .i64 n106, v107, .int .i64 n108]) ∧
 R (.tuple #[(.agg #[.int .i64 n104, .int .i64 n105, .int .i64 n106, v107, .int .i64 n108]), .bool true]) w103)))) ∨
 (∃ (v109 : Value) (v110 : Value) (w111 : World), ((Sem.run Tryz.prog (Instr.next v22 false 0) w25) = (.ok (.tuple #[.bool true, v109, v110]) w111)) ∧
 JoinP []
 (fun (w112 : World) =>
 j24 w112)
 (fun j113 =>
 ((∃ (n114 : Int) (o115 : Option Addr), ((Sem.run Tryz.prog (Instr.entry v22) w111) = (.ok (.tuple #[.int .i64 n114, .pointer o115]) w111)) ∧
 bindW (World.alloc w111 (.cells #[.int .i64 0, .int .i64 0, .int .i64 0, .slice none 0 0, .int .i64 0] 54)) fun w116 =>
 False) ∨
 (((∃ (n117 : Int) (n118 : Int) (n119 : Int) (n120 : Int) (v121 : Value) (n122 : Int), ((Sem.run Tryz.prog (Instr.entry v22) w111) = (.ok (.tuple #[.int .u64 n117, (.agg #[.int .i64 n118, .int .i64 n119, .int .i64 n120, v121, .int .i64 n122])]) w111)) ∧
 bindW (World.alloc w111 (.cells #[.int .i64 0, .int .i64 0, .int .i64 0, .slice none 0 0, .int .i64 0] 54)) fun w123 =>
 (StRow w123 ⟨w111.heap.size, 0, none⟩ #[.int .i64 n118, .int .i64 n119, .int .i64 n120, v121, .int .i64 n122]) ∧
 bindW (stRow w123 ⟨w111.heap.size, 0, none⟩ #[.int .i64 n118, .int .i64 n119, .int .i64 n120, v121, .int .i64 n122]) fun w124 =>
 cond (decide (n117 ≥ (if (if p2 < p3 then p2 else p3) < n18 then n18 else (if p2 < p3 then p2 else p3))))
 (∃ (n125 : Int) (n126 : Int) (n127 : Int) (v128 : Value) (n129 : Int), (ldCells w124 ⟨w111.heap.size, 0, none⟩ 5 #[.int .i64 n125, .int .i64 n126, .int .i64 n127, v128, .int .i64 n129]) ∧
 ∃ (w130 : World), ((Sem.run Tryz.prog (Instr.mapUpdate 155 v19 (.int .u64 n117) (.agg #[.int .i64 n125, .int .i64 n126, .int .i64 n127, v128, .int .i64 n129])) w124) = (.ok PUnit.unit w130)) ∧
 j113 w130)
 (j113 w124)) ∨
 (False))))))))
 (fun s131 => s131 w23)))
 (fun j132 =>
 CW.Spec Tryz.prog 76 #[.int .i64 p1] w3 fun v133 w134 =>
 ∃ (b135 : Bool), v133 = .bool b135 ∧
 cond (!b135)
 (j132 true w134)
 (cond (p2 == 0)
 (j132 true w134)
 (withAddr (.pointer p0) fun a136 =>
 (inR p1 8) ∧
 ∃ n137, World.cell? w134 (Addr.add (Addr.add (Addr.add a136 2) ((Int.toNat p1) * 3)) 1) = some (.int .u64 n137) ∧
 j132 (decide (p2 < n137)) w134)))
theorem q40W (p0 p1 p2 p3 p4_0 p4_1 p4_2 p4_3 p4_4 p4_5 p4_6 p4_7 w R) (h : q40F p0 p1 p2 p3 p4_0 p4_1 p4_2 p4_3 p4_4 p4_5 p4_6 p4_7 w R) : CW.Spec Tryz.prog 19 #[.pointer p0, .int .i64 p1, .int .u64 p2, .int .u64 p3, (.agg #[.int .i64 p4_0, .int .i64 p4_1, .int .i64 p4_2, p4_3, .int .u64 p4_4, .int .u64 p4_5, .int .i64 p4_6, .bool p4_7])] w R :=
 sp Tryz.func19 h
def q45F (p0_0 : Int) (p0_1 : Int) (p0_2 : Int) (p0_3 : Value) (p0_4 : Int) (w : World) (R : KV) : Prop :=
 bindW (World.alloc w (.cells #[.int .i64 p0_0, .int .i64 p0_1, .int .i64 p0_2, p0_3, .int .i64 p0_4] 54)) fun w0 =>
 bindW (World.alloc w0 (.cells #[.int .i64 0, .int .i64 0, .int .i64 0, .slice none 0 0, .int .i64 0] 54)) fun w1 =>
 ∃ v2, World.cell? w1 (Addr.add ⟨w.heap.size, 0, none⟩ 3) = some v2 ∧
 CW.Spec Tryz.prog 85 #[v2] w1 fun v3 w4 =>
 CW.Spec Tryz.prog 96 #[v3] w4 fun v5 w6 =>
 oneK v5 ((St1 w6 (Addr.add ⟨w.heap.size, 0, none⟩ 3)) ∧
 bindW (World.setCell w6 (Addr.add ⟨w.heap.size, 0, none⟩ 3) v5) fun w7 =>
 ∃ (n8 : Int) (n9 : Int) (n10 : Int) (v11 : Value) (n12 : Int), (ldCells w7 ⟨w.heap.size, 0, none⟩ 5 #[.int .i64 n8, .int .i64 n9, .int .i64 n10, v11, .int .i64 n12]) ∧
 (StRow w7 ⟨w0.heap.size, 0, none⟩ #[.int .i64 n8, .int .i64 n9, .int .i64 n10, v11, .int .i64 n12]) ∧
 bindW (stRow w7 ⟨w0.heap.size, 0, none⟩ #[.int .i64 n8, .int .i64 n9, .int .i64 n10, v11, .int .i64 n12]) fun w13 =>
 ∃ (n14 : Int) (n15 : Int) (n16 : Int) (v17 : Value) (n18 : Int), (ldCells w13 ⟨w0.heap.size, 0, none⟩ 5 #[.int .i64 n14, .int .i64 n15, .int .i64 n16, v17, .int .i64 n18]) ∧
 R (.agg #[.int .i64 n14, .int .i64 n15, .int .i64 n16, v17, .int .i64 n18]) w13)
theorem q45W (p0_0 p0_1 p0_2 p0_3 p0_4 w R) (h : q45F p0_0 p0_1 p0_2 p0_3 p0_4 w R) : CW.Spec Tryz.prog 77 #[(.agg #[.int .i64 p0_0, .int .i64 p0_1, .int .i64 p0_2, p0_3, .int .i64 p0_4])] w R :=
 sp Tryz.func77 h
def q34F (p0 : Int) (p1 : Int) (p2 : Int) (w : World) (R : KV) : Prop :=
 bindW (World.alloc w (.cells #[.int .i64 0, .int .i64 0, .int .i64 0, .slice none 0 0, .int .u64 0, .int .u64 0, .int .i64 0, .bool false] 40)) fun w0 =>
 JoinP [.bool]
 (fun (b1 : Bool) => fun (w2 : World) =>
 cond b1
 (CW.Spec Tryz.prog 55 #[.int .u8 p2] w2 fun v3 w4 =>
 oneK v3 ((StRow w4 ⟨w.heap.size, 0, none⟩ #[.int .i64 3, (.int .i64 (IntKind.wrap .i64 (bitsI .and .u8 p1 (31 : Int)))), .int .i64 1, v3, .int .u64 0, .int .u64 0, .int .i64 0, .bool false]) ∧
 bindW (stRow w4 ⟨w.heap.size, 0, none⟩ #[.int .i64 3, (.int .i64 (IntKind.wrap .i64 (bitsI .and .u8 p1 (31 : Int)))), .int .i64 1, v3, .int .u64 0, .int .u64 0, .int .i64 0, .bool false]) fun w5 =>
 ∃ (n6 : Int) (n7 : Int) (n8 : Int) (v9 : Value) (n10 : Int) (n11 : Int) (n12 : Int) (b13 : Bool), (ldCells w5 ⟨w.heap.size, 0, none⟩ 8 #[.int .i64 n6, .int .i64 n7, .int .i64 n8, v9, .int .u64 n10, .int .u64 n11, .int .i64 n12, .bool b13]) ∧
 R (.agg #[.int .i64 n6, .int .i64 n7, .int .i64 n8, v9, .int .u64 n10, .int .u64 n11, .int .i64 n12, .bool b13]) w5))
 (cond ((Int.tmod p0 (8 : Int)) == 2)
 ((StRow w2 ⟨w.heap.size, 0, none⟩ #[.int .i64 2, (.int .i64 (IntKind.wrap .i64 (bitsI .and .u8 p1 (31 : Int)))), .int .i64 1, .slice none 0 0, .int .u64 0, .int .u64 0, .int .i64 0, .bool false]) ∧
 bindW (stRow w2 ⟨w.heap.size, 0, none⟩ #[.int .i64 2, (.int .i64 (IntKind.wrap .i64 (bitsI .and .u8 p1 (31 : Int)))), .int .i64 1, .slice none 0 0, .int .u64 0, .int .u64 0, .int .i64 0, .bool false]) fun w14 =>
 ∃ (n15 : Int) (n16 : Int) (n17 : Int) (v18 : Value) (n19 : Int) (n20 : Int) (n21 : Int) (b22 : Bool), (ldCells w14 ⟨w.heap.size, 0, none⟩ 8 #[.int .i64 n15, .int .i64 n16, .int .i64 n17, v18, .int .u64 n19, .int .u64 n20, .int .i64 n21, .bool b22]) ∧
 R (.agg #[.int .i64 n15, .int .i64 n16, .int .i64 n17, v18, .int .u64 n19, .int .u64 n20, .int .i64 n21, .bool b22]) w14)
 (cond ((Int.tmod p0 (8 : Int)) == 3)
 (CW.Spec Tryz.prog 55 #[(.int .u8 (bitsI .and .u8 p2 (1 : Int)))] w2 fun v23 w24 =>
 CW.Spec Tryz.prog 55 #[.int .u8 p2] w24 fun v25 w26 =>
 ∃ (v27 : Value) (w28 : World), ((Sem.run Tryz.prog (Builtin.append_ #[34, 34] 34 #[v23, v25]) w26) = (.ok v27 w28)) ∧
 oneK v27 ((StRow w28 ⟨w.heap.size, 0, none⟩ #[.int .i64 6, (.int .i64 (IntKind.wrap .i64 (bitsI .and .u8 p1 (31 : Int)))), .int .i64 1, v27, .int .u64 0, .int .u64 0, .int .i64 0, .bool false]) ∧
 bindW (stRow w28 ⟨w.heap.size, 0, none⟩ #[.int .i64 6, (.int .i64 (IntKind.wrap .i64 (bitsI .and .u8 p1 (31 : Int)))), .int .i64 1, v27, .int .u64 0, .int .u64 0, .int .i64 0, .bool false]) fun w29 =>
 ∃ (n30 : Int) (n31 : Int) (n32 : Int) (v33 : Value) (n34 : Int) (n35 : Int) (n36 : Int) (b37 : Bool), (ldCells w29 ⟨w.heap.size, 0, none⟩ 8 #[.int .i64 n30, .int .i64 n31, .int .i64 n32, v33, .int .u64 n34, .int .u64 n35, .int .i64 n36, .bool b37]) ∧
 R (.agg #[.int .i64 n30, .int .i64 n31, .int .i64 n32, v33, .int .u64 n34, .int .u64 n35, .int .i64 n36, .bool b37]) w29))
 (cond ((Int.tmod p0 (8 : Int)) == 4)
 ((StRow w2 ⟨w.heap.size, 0, none⟩ #[.int .i64 5, (.int .i64 (IntKind.wrap .i64 (bitsI .and .u8 p1 (31 : Int)))), .int .i64 1, .slice none 0 0, .int .u64 0, .int .u64 0, .int .i64 0, .bool false]) ∧
 bindW (stRow w2 ⟨w.heap.size, 0, none⟩ #[.int .i64 5, (.int .i64 (IntKind.wrap .i64 (bitsI .and .u8 p1 (31 : Int)))), .int .i64 1, .slice none 0 0, .int .u64 0, .int .u64 0, .int .i64 0, .bool false]) fun w38 =>
 ∃ (n39 : Int) (n40 : Int) (n41 : Int) (v42 : Value) (n43 : Int) (n44 : Int) (n45 : Int) (b46 : Bool), (ldCells w38 ⟨w.heap.size, 0, none⟩ 8 #[.int .i64 n39, .int .i64 n40, .int .i64 n41, v42, .int .u64 n43, .int .u64 n44, .int .i64 n45, .bool b46]) ∧
 R (.agg #[.int .i64 n39, .int .i64 n40, .int .i64 n41, v42, .int .u64 n43, .int .u64 n44, .int .i64 n45, .bool b46]) w38)
 (cond ((Int.tmod p0 (8 : Int)) == 5)
 ((StRow w2 ⟨w.heap.size, 0, none⟩ #[.int .i64 11, .int .i64 0, .int .i64 0, .slice none 0 0, .int .u64 0, (.int .u64 (IntKind.wrap .u64 p2)), .int .i64 0, .bool false]) ∧
 bindW (stRow w2 ⟨w.heap.size, 0, none⟩ #[.int .i64 11, .int .i64 0, .int .i64 0, .slice none 0 0, .int .u64 0, (.int .u64 (IntKind.wrap .u64 p2)), .int .i64 0, .bool false]) fun w47 =>
 ∃ (n48 : Int) (n49 : Int) (n50 : Int) (v51 : Value) (n52 : Int) (n53 : Int) (n54 : Int) (b55 : Bool), (ldCells w47 ⟨w.heap.size, 0, none⟩ 8 #[.int .i64 n48, .int .i64 n49, .int .i64 n50, v51, .int .u64 n52, .int .u64 n53, .int .i64 n54, .bool b55]) ∧
 R (.agg #[.int .i64 n48, .int .i64 n49, .int .i64 n50, v51, .int .u64 n52, .int .u64 n53, .int .i64 n54, .bool b55]) w47)
 (cond ((Int.tmod p0 (8 : Int)) == 6)
 ((StRow w2 ⟨w.heap.size, 0, none⟩ #[.int .i64 12, .int .i64 0, .int .i64 0, .slice none 0 0, (.int .u64 (IntKind.wrap .u64 p2)), .int .u64 0, .int .i64 1, .bool false]) ∧
 bindW (stRow w2 ⟨w.heap.size, 0, none⟩ #[.int .i64 12, .int .i64 0, .int .i64 0, .slice none 0 0, (.int .u64 (IntKind.wrap .u64 p2)), .int .u64 0, .int .i64 1, .bool false]) fun w56 =>
 ∃ (n57 : Int) (n58 : Int) (n59 : Int) (v60 : Value) (n61 : Int) (n62 : Int) (n63 : Int) (b64 : Bool), (ldCells w56 ⟨w.heap.size, 0, none⟩ 8 #[.int .i64 n57, .int .i64 n58, .int .i64 n59, v60, .int .u64 n61, .int .u64 n62, .int .i64 n63, .bool b64]) ∧
 R (.agg #[.int .i64 n57, .int .i64 n58, .int .i64 n59, v60, .int .u64 n61, .int .u64 n62, .int .i64 n63, .bool b64]) w56)
 ((StRow w2 ⟨w.heap.size, 0, none⟩ #[.int .i64 16, .int .i64 0, .int .i64 0, .slice none 0 0, .int .u64 0, .int .u64 0, .int .i64 0, .bool false]) ∧
 bindW (stRow w2 ⟨w.heap.size, 0, none⟩ #[.int .i64 16, .int .i64 0, .int .i64 0, .slice none 0 0, .int .u64 0, .int .u64 0, .int .i64 0, .bool false]) fun w65 =>
 ∃ (n66 : Int) (n67 : Int) (n68 : Int) (v69 : Value) (n70 : Int) (n71 : Int) (n72 : Int) (b73 : Bool), (ldCells w65 ⟨w.heap.size, 0, none⟩ 8 #[.int .i64 n66, .int .i64 n67, .int .i64 n68, v69, .int .u64 n70, .int .u64 n71, .int .i64 n72, .bool b73]) ∧
 R (.agg #[.int .i64 n66, .int .i64 n67, .int .i64 n68, v69, .int .u64 n70, .int .u64 n71, .int .i64 n72, .bool b73]) w65)))))))
 (fun j74 =>
 cond ((Int.tmod p0 (8 : Int)) == 0)
 (j74 ((Int.tmod p0 (8 : Int)) == 0) w0)
 (j74 ((Int.tmod p0 (8 : Int)) == 1) w0))
theorem q34W (p0 p1 p2 w R) (h : q34F p0 p1 p2 w R) : CW.Spec Tryz.prog 13 #[.int .u8 p0, .int .u8 p1, .int .u8 p2] w R :=
 sp Tryz.func13 h
def q35F (p0_0 : Int) (p0_1 : Int) (p0_2 : Int) (p0_3 : Value) (p0_4 : Int) (p1_0 : Int) (p1_1 : Int) (p1_2 : Int) (p1_3 : Value) (p1_4 : Int) (w : World) (R : KV) : Prop :=
 bindW (World.alloc w (.cells #[.int .i64 p0_0, .int .i64 p0_1, .int .i64 p0_2, p0_3, .int .i64 p0_4] 54)) fun w0 =>
 bindW (World.alloc w0 (.cells #[.int .i64 p1_0, .int .i64 p1_1, .int .i64 p1_2, p1_3, .int .i64 p1_4] 54)) fun w1 =>
 JoinP [.bool]
 (fun (b2 : Bool) => fun (w3 : World) =>
 R (.bool b2) w3)
 (fun j4 =>
 ∃ n5, World.cell? w1 (Addr.add ⟨w.heap.size, 0, none⟩ 0) = some (.int .i64 n5) ∧
 ∃ n6, World.cell? w1 (Addr.add ⟨w0.heap.size, 0, none⟩ 0) = some (.int .i64 n6) ∧
 cond (n5 == n6)
 (∃ n7, World.cell? w1 (Addr.add ⟨w.heap.size, 0, none⟩ 1) = some (.int .i64 n7) ∧
 ∃ n8, World.cell? w1 (Addr.add ⟨w0.heap.size, 0, none⟩ 1) = some (.int .i64 n8) ∧
 cond (n7 == n8)
 (∃ n9, World.cell? w1 (Addr.add ⟨w.heap.size, 0, none⟩ 2) = some (.int .i64 n9) ∧
 ∃ n10, World.cell? w1 (Addr.add ⟨w0.heap.size, 0, none⟩ 2) = some (.int .i64 n10) ∧
 cond (n9 == n10)
 (∃ n11, World.cell? w1 (Addr.add ⟨w.heap.size, 0, none⟩ 4) = some (.int .i64 n11) ∧
 ∃ n12, World.cell? w1 (Addr.add ⟨w0.heap.size, 0, none⟩ 4) = some (.int .i64 n12) ∧
 cond (n11 == n12)
 (∃ v13, World.cell? w1 (Addr.add ⟨w.heap.size, 0, none⟩ 3) = some v13 ∧
 ∃ (s14 : ByteArray), ((Sem.run Tryz.prog (Go.convert 34 9 v13) w1) = (.ok (.string s14) w1)) ∧
 ∃ v15, World.cell? w1 (Addr.add ⟨w0.heap.size, 0, none⟩ 3) = some v15 ∧
 ∃ (s16 : ByteArray), ((Sem.run Tryz.prog (Go.convert 34 9 v15) w1) = (.ok (.string s16) w1)) ∧
 j4 (ByteArray.toList s14 == ByteArray.toList s16) w1)
 (j4 false w1))
 (j4 false w1))
 (j4 false w1))
 (j4 false w1))
theorem q35W (p0_0 p0_1 p0_2 p0_3 p0_4 p1_0 p1_1 p1_2 p1_3 p1_4 w R) (h : q35F p0_0 p0_1 p0_2 p0_3 p0_4 p1_0 p1_1 p1_2 p1_3 p1_4 w R) : CW.Spec Tryz.prog 21 #[(.agg #[.int .i64 p0_0, .int .i64 p0_1, .int .i64 p0_2, p0_3, .int .i64 p0_4]), (.agg #[.int .i64 p1_0, .int .i64 p1_1, .int .i64 p1_2, p1_3, .int .i64 p1_4])] w R :=
 sp Tryz.func21 h
def q33F (p0 : Int) (w : World) (R : KV) : Prop :=
 ∃ (v0 : Value) (w1 : World), ((Sem.run Tryz.prog (Instr.makeSlice 34 (.int .i64 8) (.int .i64 8)) w) = (.ok v0 w1)) ∧
 LoopP [.int .i64]
 (fun j2 => fun (n3 : Int) => fun (w4 : World) =>
 cond (decide (n3 < 8))
 (∃ a5, sliceAt v0 n3 1 = some a5 ∧
 (St1 w4 a5) ∧
 bindW (World.setCell w4 a5 (.int .u8 p0)) fun w6 =>
 j2 (IntKind.wrap .i64 (n3 + 1)) w6)
 (R v0 w4))
 (fun s7 => s7 (0 : Int) w1)
theorem q33W (p0 w R) (h : q33F p0 w R) : CW.Spec Tryz.prog 55 #[.int .u8 p0] w R :=
 sp Tryz.func55 h
end
section
open Go Go.CW
end
section
open Go Go.CW
end
section
open Go Go.CW
end
end Go.Proofs.YtghineciiljeoaaGreatDoor
