/- Texts of this seat, one behind the other: GSeq, GBln, GSnp, GSnl. -/
import Derived.Test.YtghineciiljeoaaGreatDoorQNam
set_option linter.unusedVariables false
set_option maxRecDepth 100000
namespace Go.Proofs.YtghineciiljeoaaGreatDoor
section
open Go Go.CW
def q91F (p0 : Value) (w : World) (R : KV) : Prop :=
 CW.Spec Tryz.prog 263 #[p0] w fun v0 w1 =>
 CW.Spec Tryz.prog 264 #[v0] w1 fun v2 w3 =>
 v2 = .tuple #[] ∧
 R v0 w3
theorem q91W (p0 w R) (h : q91F p0 w R) : CW.Spec Tryz.prog 207 #[p0] w R :=
 sp Tryz.func207 h
def q52F (p0 : Value) (w : World) (R : KV) : Prop :=
 bindW (World.alloc w (.cells (Value.cells p0) 155)) fun w0 =>
 R (.func (.func 265) #[] #[(.pointer (some ⟨w.heap.size, 0, none⟩))]) w0
theorem q52W (p0 w R) (h : q52F p0 w R) : CW.Spec Tryz.prog 208 #[p0] w R :=
 sp Tryz.func208 h
def q88F (p0 : Value) (w : World) (R : KV) : Prop :=
 CW.Spec Tryz.prog 309 #[.slice none 0 0, p0] w fun v0 w1 =>
 R v0 w1
theorem q88W (p0 w R) (h : q88F p0 w R) : CW.Spec Tryz.prog 263 #[p0] w R :=
 sp Tryz.func263 h
def q90F (p0 : Value) (w : World) (R : KV) : Prop :=
 ∃ m0, sliceLen p0 = some m0 ∧
 CW.Spec Tryz.prog 260 #[(.int .u64 (IntKind.wrap .u64 ((m0 : Nat) : Int)))] w fun v1 w2 =>
 ∃ (n3 : Int), v1 = .int .i64 n3 ∧
 CW.Spec Tryz.prog 310 #[p0, .int .i64 0, (.int .i64 (m0 : Nat)), .int .i64 n3] w2 fun v4 w5 =>
 v4 = .tuple #[] ∧
 R (.tuple #[]) w5
theorem q90W (p0 w R) (h : q90F p0 w R) : CW.Spec Tryz.prog 264 #[p0] w R :=
 sp Tryz.func264 h
def q93F (p0 : Value) (p1 : Int) (p2 : Int) (p3 : Int) (w : World) (R : KV) : Prop :=
 LoopP [.int .i64, .int .i64, .int .i64, .bool, .bool]
 (fun j0 => fun (n1 : Int) => fun (n2 : Int) => fun (n3 : Int) => fun (b4 : Bool) => fun (b5 : Bool) => fun (w6 : World) =>
 JoinP [.int .i64, .int .i64, .int .i64, .bool, .bool]
 (fun (n7 : Int) => fun (n8 : Int) => fun (n9 : Int) => fun (b10 : Bool) => fun (b11 : Bool) => fun (w12 : World) =>
 j0 n7 n8 n9 b10 b11 w12)
 (fun j13 =>
 cond (decide ((IntKind.wrap .i64 (n2 - n1)) ≤ 12))
 (CW.Spec Tryz.prog 342 #[p0, .int .i64 n1, .int .i64 n2] w6 fun v14 w15 =>
 v14 = .tuple #[] ∧
 R (.tuple #[]) w15)
 (cond (n3 == 0)
 (CW.Spec Tryz.prog 343 #[p0, .int .i64 n1, .int .i64 n2] w6 fun v16 w17 =>
 v16 = .tuple #[] ∧
 R (.tuple #[]) w17)
 (JoinP [.int .i64]
 (fun (n18 : Int) => fun (w19 : World) =>
 CW.Spec Tryz.prog 345 #[p0, .int .i64 n1, .int .i64 n2] w19 fun v20 w21 =>
 ∃ (n22 : Int) (n23 : Int), v20 = .tuple #[.int .i64 n22, .int .i64 n23] ∧
 JoinP [.int .i64, .int .i64]
 (fun (n24 : Int) => fun (n25 : Int) => fun (w26 : World) =>
 JoinP []
 (fun (w27 : World) =>
 JoinP [.bool]
 (fun (b28 : Bool) => fun (w29 : World) =>
 cond b28
 (CW.Spec Tryz.prog 349 #[p0, .int .i64 n1, .int .i64 n2, .int .i64 n24] w29 fun v30 w31 =>
 ∃ (n32 : Int), v30 = .int .i64 n32 ∧
 j13 n32 n2 n18 b4 b5 w31)
 (CW.Spec Tryz.prog 350 #[p0, .int .i64 n1, .int .i64 n2, .int .i64 n24] w29 fun v33 w34 =>
 ∃ (n35 : Int) (b36 : Bool), v33 = .tuple #[.int .i64 n35, .bool b36] ∧
 cond (decide ((IntKind.wrap .i64 (n35 - n1)) < (IntKind.wrap .i64 (n2 - n35))))
 (CW.Spec Tryz.prog 310 #[p0, .int .i64 n1, .int .i64 n35, .int .i64 n18] w34 fun v37 w38 =>
 v37 = .tuple #[] ∧
 j13 (IntKind.wrap .i64 (n35 + 1)) n2 n18 (decide ((IntKind.wrap .i64 (n35 - n1)) ≥ (IntKind.wrap .i64 (Int.tdiv (IntKind.wrap .i64 (n2 - n1)) (8 : Int))))) b36 w38)
 (CW.Spec Tryz.prog 310 #[p0, (.int .i64 (IntKind.wrap .i64 (n35 + 1))), .int .i64 n2, .int .i64 n18] w34 fun v39 w40 =>
 v39 = .tuple #[] ∧
 j13 n1 n35 n18 (decide ((IntKind.wrap .i64 (n2 - n35)) ≥ (IntKind.wrap .i64 (Int.tdiv (IntKind.wrap .i64 (n2 - n1)) (8 : Int))))) b36 w40)))
 (fun j41 =>
 bindW (World.drew w27) fun w42 =>
 cond (decide (n1 > 0))
 (∃ a43, sliceAt p0 (IntKind.wrap .i64 (n1 - 1)) 1 = some a43 ∧
 ∃ n44, World.cell? w42 a43 = some (.int .u64 n44) ∧
 ∃ a45, sliceAt p0 n24 1 = some a45 ∧
 ∃ n46, World.cell? w42 a45 = some (.int .u64 n46) ∧
 bindW (World.drew w27) fun w47 =>
 CW.Spec Tryz.prog 348 #[.int .u64 n44, .int .u64 n46] w47 fun v48 w49 =>
 ∃ (b50 : Bool), v48 = .bool b50 ∧
 j41 (!b50) w49)
 (bindW (World.drew w27) fun w51 =>
 j41 false w51)))
 (fun j52 =>
 JoinP [.bool]
 (fun (b53 : Bool) => fun (w54 : World) =>
 cond b53
 (CW.Spec Tryz.prog 347 #[p0, .int .i64 n1, .int .i64 n2] w54 fun v55 w56 =>
 ∃ (b57 : Bool), v55 = .bool b57 ∧
 cond b57
 (R (.tuple #[]) w56)
 (j52 w56))
 (j52 w54))
 (fun j58 =>
 cond b4
 (cond b5
 (j58 (n25 == 1) w26)
 (j58 false w26))
 (j58 false w26))))
 (fun j59 =>
 cond (n23 == 2)
 (CW.Spec Tryz.prog 346 #[p0, .int .i64 n1, .int .i64 n2] w21 fun v60 w61 =>
 v60 = .tuple #[] ∧
 j59 (IntKind.wrap .i64 ((IntKind.wrap .i64 (n2 - 1)) - (IntKind.wrap .i64 (n22 - n1)))) (1 : Int) w61)
 (j59 n22 n23 w21)))
 (fun j62 =>
 cond (!b4)
 (CW.Spec Tryz.prog 344 #[p0, .int .i64 n1, .int .i64 n2] w6 fun v63 w64 =>
 v63 = .tuple #[] ∧
 j62 (IntKind.wrap .i64 (n3 - 1)) w64)
 (j62 n3 w6))))))
 (fun s65 => s65 p1 p2 p3 true true w)
theorem q93W (p0 p1 p2 p3 w R) (h : q93F p0 p1 p2 p3 w R) : CW.Spec Tryz.prog 310 #[p0, .int .i64 p1, .int .i64 p2, .int .i64 p3] w R :=
 sp Tryz.func310 h
def q92F (p0 : Value) (p1 : Int) (p2 : Int) (w : World) (R : KV) : Prop :=
 LoopP [.int .i64]
 (fun j0 => fun (n1 : Int) => fun (w2 : World) =>
 cond (decide (n1 < p2))
 (LoopP [.int .i64]
 (fun j3 => fun (n4 : Int) => fun (w5 : World) =>
 JoinP [.bool]
 (fun (b6 : Bool) => fun (w7 : World) =>
 cond b6
 (bindW (World.drew w7) fun w8 =>
 ∃ a9, sliceAt p0 (IntKind.wrap .i64 (n4 - 1)) 1 = some a9 ∧
 ∃ n10, World.cell? w8 a9 = some (.int .u64 n10) ∧
 ∃ a11, sliceAt p0 n4 1 = some a11 ∧
 ∃ n12, World.cell? w8 a11 = some (.int .u64 n12) ∧
 ∃ a13, sliceAt p0 n4 1 = some a13 ∧
 bindW (World.drew w7) fun w14 =>
 (St1 w14 a13) ∧
 bindW (World.setCell w14 a13 (.int .u64 n10)) fun w15 =>
 ∃ a16, sliceAt p0 (IntKind.wrap .i64 (n4 - 1)) 1 = some a16 ∧
 bindW (World.setCell w14 a13 (.int .u64 n10)) fun w17 =>
 (St1 w17 a16) ∧
 bindW (World.setCell w17 a16 (.int .u64 n12)) fun w18 =>
 bindW (World.setCell w17 a16 (.int .u64 n12)) fun w19 =>
 j3 (IntKind.wrap .i64 (n4 - 1)) w19)
 (j0 (IntKind.wrap .i64 (n1 + 1)) w7))
 (fun j20 =>
 bindW (World.drew w5) fun w21 =>
 cond (decide (n4 > p1))
 (∃ a22, sliceAt p0 n4 1 = some a22 ∧
 ∃ n23, World.cell? w21 a22 = some (.int .u64 n23) ∧
 ∃ a24, sliceAt p0 (IntKind.wrap .i64 (n4 - 1)) 1 = some a24 ∧
 ∃ n25, World.cell? w21 a24 = some (.int .u64 n25) ∧
 bindW (World.drew w5) fun w26 =>
 CW.Spec Tryz.prog 348 #[.int .u64 n23, .int .u64 n25] w26 fun v27 w28 =>
 ∃ (b29 : Bool), v27 = .bool b29 ∧
 j20 b29 w28)
 (bindW (World.drew w5) fun w30 =>
 j20 false w30)))
 (fun s31 => s31 n1 w2))
 (R (.tuple #[]) w2))
 (fun s32 => s32 (IntKind.wrap .i64 (p1 + 1)) w)
theorem q92W (p0 p1 p2 w R) (h : q92F p0 p1 p2 w R) : CW.Spec Tryz.prog 342 #[p0, .int .i64 p1, .int .i64 p2] w R :=
 sp Tryz.func342 h
end
section
open Go Go.CW
def q3F (p0 : Int) (w : World) (R : KV) : Prop :=
 CW.Spec Tryz.prog 306 #[.int .u64 p0] w fun v0 w1 =>
 ∃ (n2 : Int), v0 = .int .i64 n2 ∧
 R (.int .i64 n2) w1
theorem q3W (p0 w R) (h : q3F p0 w R) : CW.Spec Tryz.prog 260 #[.int .u64 p0] w R :=
 sp Tryz.func260 h
def q4F (p0 : Int) (w : World) (R : KV) : Prop :=
 JoinP [.int .u64, .int .i64]
 (fun (n0 : Int) => fun (n1 : Int) => fun (w2 : World) =>
 JoinP [.int .u64, .int .i64]
 (fun (n3 : Int) => fun (n4 : Int) => fun (w5 : World) =>
 JoinP [.int .u64, .int .i64]
 (fun (n6 : Int) => fun (n7 : Int) => fun (w8 : World) =>
 (inR (IntKind.wrap .u8 n6) 256) ∧
 R (.int .i64 (IntKind.wrap .i64 (n7 + (IntKind.wrap .i64 (((UInt8.toNat (@ByteArray.get! (@ByteArray.mk (@List.toArray @UInt8 (@List.append @UInt8 (@List.append @UInt8 [0, 1, 2, 2, 3, 3, 3, 3, 4, 4, 4, 4, 4, 4, 4, 4, 5, 5, 5, 5, 5, 5, 5, 5, 5, 5, 5, 5, 5, 5, 5, 5, 6, 6, 6, 6, 6, 6, 6, 6, 6, 6, 6, 6, 6, 6, 6, 6, 6, 6, 6, 6, 6, 6, 6, 6, 6, 6, 6, 6, 6, 6, 6, 6] [7, 7, 7, 7, 7, 7, 7, 7, 7, 7, 7, 7, 7, 7, 7, 7, 7, 7, 7, 7, 7, 7, 7, 7, 7, 7, 7, 7, 7, 7, 7, 7, 7, 7, 7, 7, 7, 7, 7, 7, 7, 7, 7, 7, 7, 7, 7, 7, 7, 7, 7, 7, 7, 7, 7, 7, 7, 7, 7, 7, 7, 7, 7, 7]) (@List.append @UInt8 [8, 8, 8, 8, 8, 8, 8, 8, 8, 8, 8, 8, 8, 8, 8, 8, 8, 8, 8, 8, 8, 8, 8, 8, 8, 8, 8, 8, 8, 8, 8, 8, 8, 8, 8, 8, 8, 8, 8, 8, 8, 8, 8, 8, 8, 8, 8, 8, 8, 8, 8, 8, 8, 8, 8, 8, 8, 8, 8, 8, 8, 8, 8, 8] [8, 8, 8, 8, 8, 8, 8, 8, 8, 8, 8, 8, 8, 8, 8, 8, 8, 8, 8, 8, 8, 8, 8, 8, 8, 8, 8, 8, 8, 8, 8, 8, 8, 8, 8, 8, 8, 8, 8, 8, 8, 8, 8, 8, 8, 8, 8, 8, 8, 8, 8, 8, 8, 8, 8, 8, 8, 8, 8, 8, 8, 8, 8, 8])))) (@Int.toNat (@Go.IntKind.wrap @Go.IntKind.u8 n6)))) : Nat) : Int))))) w8)
 (fun j9 =>
 cond (decide (n3 ≥ 256))
 (j9 (Int.fdiv n3 (256 : Int)) (IntKind.wrap .i64 (n4 + 8)) w5)
 (j9 n3 n4 w5)))
 (fun j10 =>
 cond (decide (n0 ≥ 65536))
 (j10 (Int.fdiv n0 (65536 : Int)) (IntKind.wrap .i64 (n1 + 16)) w2)
 (j10 n0 n1 w2)))
 (fun j11 =>
 cond (decide (p0 ≥ 4294967296))
 (j11 (Int.fdiv p0 (4294967296 : Int)) (32 : Int) w)
 (j11 p0 (0 : Int) w))
theorem q4W (p0 w R) (h : q4F p0 w R) : CW.Spec Tryz.prog 306 #[.int .u64 p0] w R :=
 sp Tryz.func306 h
end
section
open Go Go.CW
def q47F (p0_0 : Value) (p0_1 : Int) (p0_2 : Value) (w : World) (R : KV) : Prop :=
 bindW (World.alloc w (.cells #[p0_0, .int .u64 p0_1, p0_2] 157)) fun w0 =>
 ∃ v1, World.cell? w0 (Addr.add ⟨w.heap.size, 0, none⟩ 0) = some v1 ∧
 ∃ m2, sliceLen v1 = some m2 ∧
 CW.Spec Tryz.prog 120 #[.slice none 0 0, (.int .u64 (IntKind.wrap .u64 ((m2 : Nat) : Int))), .int .i64 2] w0 fun v3 w4 =>
 ∃ v5, World.cell? w4 (Addr.add ⟨w.heap.size, 0, none⟩ 0) = some v5 ∧
 ∃ m6, sliceLen v5 = some m6 ∧
 LoopP [.val, .int .i64]
 (fun j7 => fun (v8 : Value) => fun (n9 : Int) => fun (w10 : World) =>
 cond (decide (n9 < ((m6 : Nat) : Int)))
 (∃ a11, sliceAt v5 n9 1 = some a11 ∧
 ∃ n12, World.cell? w10 a11 = some (.int .i64 n12) ∧
 CW.Spec Tryz.prog 120 #[v8, (.int .u64 (IntKind.wrap .u64 n12)), .int .i64 2] w10 fun v13 w14 =>
 j7 v13 (IntKind.wrap .i64 (n9 + 1)) w14)
 (bindW (World.drew w10) fun w15 =>
 ∃ n16, World.cell? w15 (Addr.add ⟨w.heap.size, 0, none⟩ 1) = some (.int .u64 n16) ∧
 ∃ v17, World.cell? w15 (Addr.add ⟨w.heap.size, 0, none⟩ 2) = some v17 ∧
 bindW (World.drew w10) fun w18 =>
 CW.Spec Tryz.prog 120 #[v8, .int .u64 n16, .int .i64 8] w18 fun v19 w20 =>
 (∃ v21, World.cell? w20 (Addr.add ⟨w.heap.size, 0, none⟩ 2) = some v21 ∧
 (v21 : Value) = v17) ∧
 ∃ (n22 : Int), ((Sem.run Tryz.prog (Builtin.len_ #[155] 0 #[v17]) w20) = (.ok (.int .i64 n22) w20)) ∧
 CW.Spec Tryz.prog 120 #[v19, (.int .u64 (IntKind.wrap .u64 n22)), .int .i64 2] w20 fun v23 w24 =>
 ∃ v25, World.cell? w24 (Addr.add ⟨w.heap.size, 0, none⟩ 2) = some v25 ∧
 CW.Spec Tryz.prog 208 #[v25] w24 fun v26 w27 =>
 CW.Spec Tryz.prog 207 #[v26] w27 fun v28 w29 =>
 ∃ m30, sliceLen v28 = some m30 ∧
 LoopP [.val, .int .i64]
 (fun j31 => fun (v32 : Value) => fun (n33 : Int) => fun (w34 : World) =>
 cond (decide (n33 < ((m30 : Nat) : Int)))
 (∃ a35, sliceAt v28 n33 1 = some a35 ∧
 ∃ n36, World.cell? w34 a35 = some (.int .u64 n36) ∧
 ∃ v37, World.cell? w34 (Addr.add ⟨w.heap.size, 0, none⟩ 2) = some v37 ∧
 ∃ (n38 : Int) (n39 : Int) (n40 : Int) (v41 : Value) (n42 : Int), ((Sem.run Tryz.prog (Instr.lookup 155 v37 (.int .u64 n36) false) w34) = (.ok (.agg #[.int .i64 n38, .int .i64 n39, .int .i64 n40, v41, .int .i64 n42]) w34)) ∧
 bindW (World.alloc w34 (.cells #[.int .i64 0, .int .i64 0, .int .i64 0, .slice none 0 0, .int .i64 0] 54)) fun w43 =>
 (StRow w43 ⟨w34.heap.size, 0, none⟩ #[.int .i64 n38, .int .i64 n39, .int .i64 n40, v41, .int .i64 n42]) ∧
 bindW (stRow w43 ⟨w34.heap.size, 0, none⟩ #[.int .i64 n38, .int .i64 n39, .int .i64 n40, v41, .int .i64 n42]) fun w44 =>
 CW.Spec Tryz.prog 120 #[v32, .int .u64 n36, .int .i64 8] w44 fun v45 w46 =>
 ∃ n47, World.cell? w46 (Addr.add ⟨w34.heap.size, 0, none⟩ 0) = some (.int .i64 n47) ∧
 ∃ n48, World.cell? w46 (Addr.add ⟨w34.heap.size, 0, none⟩ 1) = some (.int .i64 n48) ∧
 bindW (World.alloc w46 (.cells #[(.int .u8 (IntKind.wrap .u8 n47)), (.int .u8 (IntKind.wrap .u8 n48))] 5)) fun w49 =>
 ∃ (v50 : Value) (w51 : World), ((Sem.run Tryz.prog (Builtin.append_ #[34, 34] 34 #[v45, (.slice (some ⟨w46.heap.size, 0, none⟩) 2 2)]) w49) = (.ok v50 w51)) ∧
 bindW (World.drew w51) fun w52 =>
 ∃ n53, World.cell? w52 (Addr.add ⟨w34.heap.size, 0, none⟩ 2) = some (.int .i64 n53) ∧
 ∃ n54, World.cell? w52 (Addr.add ⟨w34.heap.size, 0, none⟩ 4) = some (.int .i64 n54) ∧
 bindW (World.drew w51) fun w55 =>
 CW.Spec Tryz.prog 120 #[v50, (.int .u64 (IntKind.wrap .u64 n53)), .int .i64 2] w55 fun v56 w57 =>
 (∃ n58, World.cell? w57 (Addr.add ⟨w34.heap.size, 0, none⟩ 4) = some (.int .i64 n58) ∧
 ((.int .i64 n58) : Value) = (.int .i64 n54)) ∧
 CW.Spec Tryz.prog 120 #[v56, (.int .u64 (IntKind.wrap .u64 n54)), .int .i64 4] w57 fun v59 w60 =>
 ∃ v61, World.cell? w60 (Addr.add ⟨w34.heap.size, 0, none⟩ 3) = some v61 ∧
 CW.Spec Tryz.prog 124 #[v59, v61] w60 fun v62 w63 =>
 j31 v62 (IntKind.wrap .i64 (n33 + 1)) w63)
 (R v32 w34))
 (fun s64 => s64 v23 (0 : Int) w29)))
 (fun s65 => s65 v3 (0 : Int) w4)
theorem q47W (p0_0 p0_1 p0_2 w R) (h : q47F p0_0 p0_1 p0_2 w R) : CW.Spec Tryz.prog 127 #[(.agg #[p0_0, .int .u64 p0_1, p0_2])] w R :=
 sp Tryz.func127 h
def q39F (p0 : Option Addr) (w : World) (R : KV) : Prop :=
 bindW (World.drew w) fun w0 =>
 withAddr (.pointer p0) fun a1 =>
 ∃ (o2 : Option Addr), ((World.cell? w0 (Addr.add a1 0)) = (some (.pointer o2))) ∧
 withAddr (.pointer p0) fun a3 =>
 ∃ (o4 : Option Addr), ((World.cell? w0 (Addr.add a3 1)) = (some (.pointer o4))) ∧
 bindW (World.drew w) fun w5 =>
 CW.Spec Tryz.prog 125 #[.pointer o2] w5 fun v6 w7 =>
 (∃ (o8 : Option Addr), ((World.cell? w7 (Addr.add a3 1)) = (some (.pointer o8))) ∧
 ((.pointer o8) : Value) = (.pointer o4)) ∧
 CW.Spec Tryz.prog 124 #[.slice none 0 0, v6] w7 fun v9 w10 =>
 (∃ (o11 : Option Addr), ((World.cell? w10 (Addr.add a3 1)) = (some (.pointer o11))) ∧
 ((.pointer o11) : Value) = (.pointer o4)) ∧
 CW.Spec Tryz.prog 126 #[.pointer o4] w10 fun v12 w13 =>
 CW.Spec Tryz.prog 124 #[v9, v12] w13 fun v14 w15 =>
 withAddr (.pointer p0) fun a16 =>
 ∃ (v17 : Value) (n18 : Int) (v19 : Value) (v20 : Value) (n21 : Int) (v22 : Value) (v23 : Value) (n24 : Int) (v25 : Value) (v26 : Value) (n27 : Int) (v28 : Value) (v29 : Value) (n30 : Int) (v31 : Value) (v32 : Value) (n33 : Int) (v34 : Value) (v35 : Value) (n36 : Int) (v37 : Value) (v38 : Value) (n39 : Int) (v40 : Value), (ldCells w15 (Addr.add a16 2) 24 #[v17, .int .u64 n18, v19, v20, .int .u64 n21, v22, v23, .int .u64 n24, v25, v26, .int .u64 n27, v28, v29, .int .u64 n30, v31, v32, .int .u64 n33, v34, v35, .int .u64 n36, v37, v38, .int .u64 n39, v40]) ∧
 LoopP [.val, .int .i64]
 (fun j41 => fun (v42 : Value) => fun (n43 : Int) => fun (w44 : World) =>
 cond (decide (n43 < 8))
 (∃ (v45 : Value) (n46 : Int) (v47 : Value), ((Sem.run Tryz.prog (Instr.index 158 (.agg #[v17, .int .u64 n18, v19, v20, .int .u64 n21, v22, v23, .int .u64 n24, v25, v26, .int .u64 n27, v28, v29, .int .u64 n30, v31, v32, .int .u64 n33, v34, v35, .int .u64 n36, v37, v38, .int .u64 n39, v40]) (.int .i64 n43)) w44) = (.ok (.agg #[v45, .int .u64 n46, v47]) w44)) ∧
 bindW (World.alloc w44 (.cells #[.slice none 0 0, .int .u64 0, .map none] 157)) fun w48 =>
 (StRow w48 ⟨w44.heap.size, 0, none⟩ #[v45, .int .u64 n46, v47]) ∧
 bindW (stRow w48 ⟨w44.heap.size, 0, none⟩ #[v45, .int .u64 n46, v47]) fun w49 =>
 ∃ (v50 : Value) (n51 : Int) (v52 : Value), (ldCells w49 ⟨w44.heap.size, 0, none⟩ 3 #[v50, .int .u64 n51, v52]) ∧
 CW.Spec Tryz.prog 127 #[(.agg #[v50, .int .u64 n51, v52])] w49 fun v53 w54 =>
 CW.Spec Tryz.prog 124 #[v42, v53] w54 fun v55 w56 =>
 j41 v55 (IntKind.wrap .i64 (n43 + 1)) w56)
 (CW.Spec Tryz.prog 96 #[v42] w44 fun v57 w58 =>
 R v57 w58))
 (fun s59 => s59 v14 (0 : Int) w15)
theorem q39W (p0 w R) (h : q39F p0 w R) : CW.Spec Tryz.prog 49 #[.pointer p0] w R :=
 sp Tryz.func49 h
def q49F (p0 : Value) (p1 : Value) (w : World) (R : KV) : Prop :=
 ∃ m0, sliceLen p1 = some m0 ∧
 CW.Spec Tryz.prog 120 #[p0, (.int .u64 (IntKind.wrap .u64 ((m0 : Nat) : Int))), .int .i64 4] w fun v1 w2 =>
 ∃ (v3 : Value) (w4 : World), ((Sem.run Tryz.prog (Builtin.append_ #[34, 34] 34 #[v1, p1]) w2) = (.ok v3 w4)) ∧
 R v3 w4
theorem q49W (p0 p1 w R) (h : q49F p0 p1 w R) : CW.Spec Tryz.prog 124 #[p0, p1] w R :=
 sp Tryz.func124 h
def q51F (p0 : Option Addr) (w : World) (R : KV) : Prop :=
 CW.Spec Tryz.prog 209 #[.pointer p0, .int .i64 4] w fun v0 w1 =>
 ∃ (n2 : Int), v0 = .int .u64 n2 ∧
 withAddr (.pointer p0) fun a3 =>
 ∃ v4, World.cell? w1 (Addr.add a3 0) = some v4 ∧
 ∃ m5, sliceLen v4 = some m5 ∧
 cond (decide (n2 > (IntKind.wrap .u64 ((m5 : Nat) : Int))))
 (withAddr (.pointer p0) fun a6 =>
 (St1 w1 (Addr.add a6 1)) ∧
 bindW (World.setCell w1 (Addr.add a6 1) (.bool true)) fun w7 =>
 withAddr (.pointer p0) fun a8 =>
 (St1 w7 (Addr.add a8 0)) ∧
 bindW (World.setCell w7 (Addr.add a8 0) (.slice none 0 0)) fun w9 =>
 R (.slice none 0 0) w9)
 (withAddr (.pointer p0) fun a10 =>
 ∃ v11, World.cell? w1 (Addr.add a10 0) = some v11 ∧
 ∃ (v12 : Value), ((subSlice v11 1 none (some (.int .u64 n2)) none) = (some v12)) ∧
 withAddr (.pointer p0) fun a13 =>
 ∃ v14, World.cell? w1 (Addr.add a13 0) = some v14 ∧
 ∃ (v15 : Value), ((subSlice v14 1 (some (.int .u64 n2)) none none) = (some v15)) ∧
 withAddr (.pointer p0) fun a16 =>
 oneK v15 ((St1 w1 (Addr.add a16 0)) ∧
 bindW (World.setCell w1 (Addr.add a16 0) v15) fun w17 =>
 R v12 w17))
theorem q51W (p0 w R) (h : q51F p0 w R) : CW.Spec Tryz.prog 130 #[.pointer p0] w R :=
 sp Tryz.func130 h
def q46F (p0 : Option Addr) (p1 : Value) (w : World) (R : KV) : Prop :=
 oneK p1 (bindW (World.alloc w (.cells #[p1, .bool false] 240)) fun w0 =>
 CW.Spec Tryz.prog 209 #[(.pointer (some ⟨w.heap.size, 0, none⟩)), .int .i64 2] w0 fun v1 w2 =>
 ∃ (n3 : Int), v1 = .int .u64 n3 ∧
 LoopP [.int .u64]
 (fun j4 => fun (n5 : Int) => fun (w6 : World) =>
 JoinP [.bool]
 (fun (b7 : Bool) => fun (w8 : World) =>
 cond b7
 (bindW (World.drew w8) fun w9 =>
 withAddr (.pointer p0) fun a10 =>
 ∃ v11, World.cell? w9 (Addr.add a10 0) = some v11 ∧
 bindW (World.drew w8) fun w12 =>
 CW.Spec Tryz.prog 209 #[(.pointer (some ⟨w.heap.size, 0, none⟩)), .int .i64 2] w12 fun v13 w14 =>
 ∃ (n15 : Int), v13 = .int .u64 n15 ∧
 (∃ v16, World.cell? w14 (Addr.add a10 0) = some v16 ∧
 (v16 : Value) = v11) ∧
 (∃ (v17 : Value), ((World.cell? (World.alloc w14 (.cells #[(.int .i64 (IntKind.wrap .i64 n15))] 3)) (Addr.add a10 0)) = (some v17)) ∧
 (v17 : Value) = v11) ∧
 bindW (World.alloc w14 (.cells #[(.int .i64 (IntKind.wrap .i64 n15))] 3)) fun w18 =>
 bindW (World.alloc w14 (.cells #[(.int .i64 (IntKind.wrap .i64 n15))] 3)) fun w19 =>
 ∃ (v20 : Value) (w21 : World), ((Sem.run Tryz.prog (Builtin.append_ #[79, 79] 79 #[v11, (.slice (some ⟨w14.heap.size, 0, none⟩) 1 1)]) w19) = (.ok v20 w21)) ∧
 withAddr (.pointer p0) fun a22 =>
 oneK v20 ((St1 w21 (Addr.add a22 0)) ∧
 bindW (World.setCell w21 (Addr.add a22 0) v20) fun w23 =>
 bindW (World.setCell w21 (Addr.add a22 0) v20) fun w24 =>
 j4 (IntKind.wrap .u64 (n5 - 1)) w24))
 (CW.Spec Tryz.prog 209 #[(.pointer (some ⟨w.heap.size, 0, none⟩)), .int .i64 8] w8 fun v25 w26 =>
 ∃ (n27 : Int), v25 = .int .u64 n27 ∧
 withAddr (.pointer p0) fun a28 =>
 (St1 w26 (Addr.add a28 1)) ∧
 bindW (World.setCell w26 (Addr.add a28 1) (.int .u64 n27)) fun w29 =>
 CW.Spec Tryz.prog 209 #[(.pointer (some ⟨w.heap.size, 0, none⟩)), .int .i64 2] w29 fun v30 w31 =>
 ∃ (n32 : Int), v30 = .int .u64 n32 ∧
 LoopP [.int .u64]
 (fun j33 => fun (n34 : Int) => fun (w35 : World) =>
 JoinP [.bool]
 (fun (b36 : Bool) => fun (w37 : World) =>
 cond b36
 (CW.Spec Tryz.prog 209 #[(.pointer (some ⟨w.heap.size, 0, none⟩)), .int .i64 8] w37 fun v38 w39 =>
 ∃ (n40 : Int), v38 = .int .u64 n40 ∧
 CW.Spec Tryz.prog 209 #[(.pointer (some ⟨w.heap.size, 0, none⟩)), .int .i64 1] w39 fun v41 w42 =>
 ∃ (n43 : Int), v41 = .int .u64 n43 ∧
 CW.Spec Tryz.prog 209 #[(.pointer (some ⟨w.heap.size, 0, none⟩)), .int .i64 1] w42 fun v44 w45 =>
 ∃ (n46 : Int), v44 = .int .u64 n46 ∧
 bindW (World.alloc w45 (.cells #[.int .i64 0, .int .i64 0, .int .i64 0, .slice none 0 0, .int .i64 0] 54)) fun w47 =>
 (StRow w47 ⟨w45.heap.size, 0, none⟩ #[(.int .i64 (IntKind.wrap .i64 n43)), (.int .i64 (IntKind.wrap .i64 n46)), .int .i64 0, .slice none 0 0, .int .i64 0]) ∧
 bindW (stRow w47 ⟨w45.heap.size, 0, none⟩ #[(.int .i64 (IntKind.wrap .i64 n43)), (.int .i64 (IntKind.wrap .i64 n46)), .int .i64 0, .slice none 0 0, .int .i64 0]) fun w48 =>
 CW.Spec Tryz.prog 209 #[(.pointer (some ⟨w.heap.size, 0, none⟩)), .int .i64 2] w48 fun v49 w50 =>
 ∃ (n51 : Int), v49 = .int .u64 n51 ∧
 CW.Spec Tryz.prog 209 #[(.pointer (some ⟨w.heap.size, 0, none⟩)), .int .i64 4] w50 fun v52 w53 =>
 ∃ (n54 : Int), v52 = .int .u64 n54 ∧
 (St1 w53 (Addr.add ⟨w45.heap.size, 0, none⟩ 2)) ∧
 bindW (World.setCell w53 (Addr.add ⟨w45.heap.size, 0, none⟩ 2) (.int .i64 (IntKind.wrap .i64 n51))) fun w55 =>
 (St1 w55 (Addr.add ⟨w45.heap.size, 0, none⟩ 4)) ∧
 bindW (World.setCell w55 (Addr.add ⟨w45.heap.size, 0, none⟩ 4) (.int .i64 (IntKind.wrap .i64 n54))) fun w56 =>
 CW.Spec Tryz.prog 130 #[(.pointer (some ⟨w.heap.size, 0, none⟩))] w56 fun v57 w58 =>
 CW.Spec Tryz.prog 85 #[v57] w58 fun v59 w60 =>
 oneK v59 ((St1 w60 (Addr.add ⟨w45.heap.size, 0, none⟩ 3)) ∧
 bindW (World.setCell w60 (Addr.add ⟨w45.heap.size, 0, none⟩ 3) v59) fun w61 =>
 bindW (World.drew w61) fun w62 =>
 withAddr (.pointer p0) fun a63 =>
 ∃ v64, World.cell? w62 (Addr.add a63 2) = some v64 ∧
 ∃ (n65 : Int) (n66 : Int) (n67 : Int) (v68 : Value) (n69 : Int), (ldCells w62 ⟨w45.heap.size, 0, none⟩ 5 #[.int .i64 n65, .int .i64 n66, .int .i64 n67, v68, .int .i64 n69]) ∧
 bindW (World.drew w61) fun w70 =>
 ∃ (w71 : World), ((Sem.run Tryz.prog (Instr.mapUpdate 155 v64 (.int .u64 n40) (.agg #[.int .i64 n65, .int .i64 n66, .int .i64 n67, v68, .int .i64 n69])) w70) = (.ok PUnit.unit w71)) ∧
 j33 (IntKind.wrap .u64 (n34 - 1)) w71))
 (JoinP [.bool]
 (fun (b72 : Bool) => fun (w73 : World) =>
 R (.bool b72) w73)
 (fun j74 =>
 ∃ (b75 : Bool), ((World.cell? w37 (Addr.add ⟨w.heap.size, 0, none⟩ 1)) = (some (.bool b75))) ∧
 cond (!b75)
 (∃ v76, World.cell? w37 (Addr.add ⟨w.heap.size, 0, none⟩ 0) = some v76 ∧
 ∃ m77, sliceLen v76 = some m77 ∧
 j74 (((m77 : Nat) : Int) == 0) w37)
 (j74 false w37))))
 (fun j78 =>
 cond (decide (n34 > 0))
 (∃ (b79 : Bool), ((World.cell? w35 (Addr.add ⟨w.heap.size, 0, none⟩ 1)) = (some (.bool b79))) ∧
 j78 (!b79) w35)
 (j78 false w35)))
 (fun s80 => s80 n32 w31)))
 (fun j81 =>
 cond (decide (n5 > 0))
 (∃ (b82 : Bool), ((World.cell? w6 (Addr.add ⟨w.heap.size, 0, none⟩ 1)) = (some (.bool b82))) ∧
 j81 (!b82) w6)
 (j81 false w6)))
 (fun s83 => s83 n3 w2))
theorem q46W (p0 p1 w R) (h : q46F p0 p1 w R) : CW.Spec Tryz.prog 133 #[.pointer p0, p1] w R :=
 sp Tryz.func133 h
def q50F (p0 : Option Addr) (p1 : Int) (w : World) (R : KV) : Prop :=
 withAddr (.pointer p0) fun a0 =>
 ∃ v1, World.cell? w (Addr.add a0 0) = some v1 ∧
 CW.Spec Tryz.prog 148 #[v1, .int .i64 0, .int .i64 p1] w fun v2 w3 =>
 ∃ (n4 : Int) (b5 : Bool), v2 = .tuple #[.int .u64 n4, .bool b5] ∧
 cond (!b5)
 (withAddr (.pointer p0) fun a6 =>
 (St1 w3 (Addr.add a6 1)) ∧
 bindW (World.setCell w3 (Addr.add a6 1) (.bool true)) fun w7 =>
 withAddr (.pointer p0) fun a8 =>
 (St1 w7 (Addr.add a8 0)) ∧
 bindW (World.setCell w7 (Addr.add a8 0) (.slice none 0 0)) fun w9 =>
 R (.int .u64 0) w9)
 (withAddr (.pointer p0) fun a10 =>
 ∃ v11, World.cell? w3 (Addr.add a10 0) = some v11 ∧
 ∃ (v12 : Value), ((subSlice v11 1 (some (.int .i64 p1)) none none) = (some v12)) ∧
 withAddr (.pointer p0) fun a13 =>
 oneK v12 ((St1 w3 (Addr.add a13 0)) ∧
 bindW (World.setCell w3 (Addr.add a13 0) v12) fun w14 =>
 R (.int .u64 n4) w14))
theorem q50W (p0 p1 w R) (h : q50F p0 p1 w R) : CW.Spec Tryz.prog 209 #[.pointer p0, .int .i64 p1] w R :=
 sp Tryz.func209 h
def q36F (p0 : Value) (w : World) (R : KV) : Prop :=
 oneK p0 (bindW (World.alloc w (.cells #[p0, .bool false] 240)) fun w0 =>
 CW.Spec Tryz.prog 130 #[(.pointer (some ⟨w.heap.size, 0, none⟩))] w0 fun v1 w2 =>
 CW.Spec Tryz.prog 129 #[v1] w2 fun v3 w4 =>
 ∃ (o5 : Option Addr) (n6 : Int), v3 = .tuple #[.pointer o5, .int .i64 n6] ∧
 CW.Spec Tryz.prog 130 #[(.pointer (some ⟨w.heap.size, 0, none⟩))] w4 fun v7 w8 =>
 CW.Spec Tryz.prog 131 #[v7] w8 fun v9 w10 =>
 ∃ (o11 : Option Addr) (n12 : Int), v9 = .tuple #[.pointer o11, .int .i64 n12] ∧
 JoinP [.bool]
 (fun (b13 : Bool) => fun (w14 : World) =>
 cond b13
 (R (.tuple #[.pointer none, .int .i64 2]) w14)
 (CW.Spec Tryz.prog 132 #[.pointer o5] w14 fun v15 w16 =>
 ∃ (n17 : Int), v15 = .int .i64 n17 ∧
 CW.Spec Tryz.prog 18 #[.int .i64 n17] w16 fun v18 w19 =>
 ∃ (o20 : Option Addr) (n21 : Int), v18 = .tuple #[.pointer o20, .int .i64 n21] ∧
 withAddr (.pointer o20) fun a22 =>
 (St1 w19 (Addr.add a22 0)) ∧
 bindW (World.setCell w19 (Addr.add a22 0) (.pointer o5)) fun w23 =>
 withAddr (.pointer o20) fun a24 =>
 (St1 w23 (Addr.add a24 1)) ∧
 bindW (World.setCell w23 (Addr.add a24 1) (.pointer o11)) fun w25 =>
 JoinP []
 (fun (w26 : World) =>
 JoinP [.bool]
 (fun (b27 : Bool) => fun (w28 : World) =>
 cond b27
 (R (.tuple #[.pointer none, .int .i64 2]) w28)
 (R (.tuple #[.pointer o20, .int .i64 0]) w28))
 (fun j29 =>
 ∃ (b30 : Bool), ((World.cell? w26 (Addr.add ⟨w.heap.size, 0, none⟩ 1)) = (some (.bool b30))) ∧
 cond b30
 (j29 true w26)
 (CW.Spec Tryz.prog 49 #[.pointer o20] w26 fun v31 w32 =>
 CW.Spec Tryz.prog 134 #[v31, p0] w32 fun v33 w34 =>
 ∃ (b35 : Bool), v33 = .bool b35 ∧
 j29 (!b35) w34)))
 (fun j36 =>
 LoopP [.int .i64]
 (fun j37 => fun (n38 : Int) => fun (w39 : World) =>
 cond (decide (n38 < 8))
 (bindW (World.drew w39) fun w40 =>
 withAddr (.pointer o20) fun a41 =>
 (inR n38 8) ∧
 bindW (World.drew w39) fun w42 =>
 CW.Spec Tryz.prog 130 #[(.pointer (some ⟨w.heap.size, 0, none⟩))] w42 fun v43 w44 =>
 CW.Spec Tryz.prog 133 #[(.pointer (some (Addr.add (Addr.add a41 2) ((Int.toNat n38) * 3)))), v43] w44 fun v45 w46 =>
 ∃ (b47 : Bool), v45 = .bool b47 ∧
 cond (!b47)
 ((St1 w46 (Addr.add ⟨w.heap.size, 0, none⟩ 1)) ∧
 bindW (World.setCell w46 (Addr.add ⟨w.heap.size, 0, none⟩ 1) (.bool true)) fun w48 =>
 j36 w48)
 (j37 (IntKind.wrap .i64 (n38 + 1)) w46))
 (j36 w39))
 (fun s49 => s49 (0 : Int) w25))))
 (fun j50 =>
 cond (n6 != 0)
 (j50 true w10)
 (j50 (n12 != 0) w10)))
theorem q36W (p0 w R) (h : q36F p0 w R) : CW.Spec Tryz.prog 52 #[p0] w R :=
 sp Tryz.func52 h
def q109F (p0 : Option Addr) (p1 : Int) (p2 : Int) (p3 : Value) (w : World) (R : KV) : Prop :=
 withAddr (.pointer p0) fun a0 =>
 ∃ n1, World.cell? w (Addr.add (Addr.add a0 3) 0) = some (.int .u64 n1) ∧
 cond (decide (p1 < n1))
 (R (.int .i64 10) w)
 (∃ m2, sliceLen p3 = some m2 ∧
 cond (decide (((m2 : Nat) : Int) > 24576))
 (R (.int .i64 5) w)
 (CW.Spec Tryz.prog 128 #[.pointer p0, .int .u64 p2, p3] w fun v3 w4 =>
 ∃ (n5 : Int) (n6 : Int) (n7 : Int) (n8 : Int) (n9 : Int) (n10 : Int) (n11 : Int) (n12 : Int), v3 = .tuple #[(.agg #[.int .u64 n5, .int .u32 n6, .int .i64 n7, .int .u64 n8, .int .i64 n9, .int .u64 n10, .int .i64 n11]), .int .i64 n12] ∧
 bindW (World.alloc w4 (.cells #[.int .u64 0, .int .u32 0, .int .i64 0, .int .u64 0, .int .i64 0, .int .u64 0, .int .i64 0] 215)) fun w13 =>
 (StRow w13 ⟨w4.heap.size, 0, none⟩ #[.int .u64 n5, .int .u32 n6, .int .i64 n7, .int .u64 n8, .int .i64 n9, .int .u64 n10, .int .i64 n11]) ∧
 bindW (stRow w13 ⟨w4.heap.size, 0, none⟩ #[.int .u64 n5, .int .u32 n6, .int .i64 n7, .int .u64 n8, .int .i64 n9, .int .u64 n10, .int .i64 n11]) fun w14 =>
 cond (n12 != 0)
 (R (.int .i64 n12) w14)
 (∃ n15, World.cell? w14 (Addr.add ⟨w4.heap.size, 0, none⟩ 1) = some (.int .u32 n15) ∧
 (St1 w14 (Addr.add ⟨w4.heap.size, 0, none⟩ 0)) ∧
 bindW (World.setCell w14 (Addr.add ⟨w4.heap.size, 0, none⟩ 0) (.int .u64 p1)) fun w16 =>
 (St1 w16 (Addr.add ⟨w4.heap.size, 0, none⟩ 1)) ∧
 bindW (World.setCell w16 (Addr.add ⟨w4.heap.size, 0, none⟩ 1) (.int .u32 (IntKind.wrap .u32 (n15 + 1)))) fun w17 =>
 ∃ n18, World.cell? w17 (Addr.add ⟨w4.heap.size, 0, none⟩ 1) = some (.int .u32 n18) ∧
 CW.Spec Tryz.prog 113 #[.int .u32 n18] w17 fun v19 w20 =>
 ∃ (n21 : Int), v19 = .int .u64 n21 ∧
 (St1 w20 (Addr.add ⟨w4.heap.size, 0, none⟩ 5)) ∧
 bindW (World.setCell w20 (Addr.add ⟨w4.heap.size, 0, none⟩ 5) (.int .u64 n21)) fun w22 =>
 (St1 w22 (Addr.add ⟨w4.heap.size, 0, none⟩ 6)) ∧
 bindW (World.setCell w22 (Addr.add ⟨w4.heap.size, 0, none⟩ 6) (.int .i64 0)) fun w23 =>
 ∃ (n24 : Int) (n25 : Int) (n26 : Int) (n27 : Int) (n28 : Int) (n29 : Int) (n30 : Int), (ldCells w23 ⟨w4.heap.size, 0, none⟩ 7 #[.int .u64 n24, .int .u32 n25, .int .i64 n26, .int .u64 n27, .int .i64 n28, .int .u64 n29, .int .i64 n30]) ∧
 CW.Spec Tryz.prog 116 #[.pointer p0, (.agg #[.int .u64 n24, .int .u32 n25, .int .i64 n26, .int .u64 n27, .int .i64 n28, .int .u64 n29, .int .i64 n30])] w23 fun v31 w32 =>
 ∃ (n33 : Int), v31 = .int .i64 n33 ∧
 cond (n33 != 0)
 (R (.int .i64 n33) w32)
 (CW.Spec Tryz.prog 85 #[p3] w32 fun v34 w35 =>
 withAddr (.pointer p0) fun a36 =>
 oneK v34 ((St1 w35 (Addr.add a36 10)) ∧
 bindW (World.setCell w35 (Addr.add a36 10) v34) fun w37 =>
 CW.Spec Tryz.prog 117 #[.pointer p0] w37 fun v38 w39 =>
 ∃ (n40 : Int), v38 = .int .i64 n40 ∧
 R (.int .i64 n40) w39)))))
theorem q109W (p0 p1 p2 p3 w R) (h : q109F p0 p1 p2 p3 w R) : CW.Spec Tryz.prog 50 #[.pointer p0, .int .u64 p1, .int .u64 p2, p3] w R :=
 sp Tryz.func50 h
def q114F (p0 : Option Addr) (p1 : Int) (p2 : Value) (w : World) (R : KV) : Prop :=
 bindW (World.alloc w (.cells #[.int .u64 0, .int .u32 0, .int .i64 0, .int .u64 0, .int .i64 0, .int .u64 0, .int .i64 0] 215)) fun w0 =>
 withAddr (.pointer p0) fun a1 =>
 ∃ (n2 : Int) (n3 : Int) (n4 : Int) (n5 : Int) (n6 : Int) (n7 : Int) (n8 : Int), (ldCells w0 (Addr.add a1 3) 7 #[.int .u64 n2, .int .u32 n3, .int .i64 n4, .int .u64 n5, .int .i64 n6, .int .u64 n7, .int .i64 n8]) ∧
 bindW (World.alloc w0 (.cells #[.int .u64 0, .int .u32 0, .int .i64 0, .int .u64 0, .int .i64 0, .int .u64 0, .int .i64 0] 215)) fun w9 =>
 (StRow w9 ⟨w0.heap.size, 0, none⟩ #[.int .u64 n2, .int .u32 n3, .int .i64 n4, .int .u64 n5, .int .i64 n6, .int .u64 n7, .int .i64 n8]) ∧
 bindW (stRow w9 ⟨w0.heap.size, 0, none⟩ #[.int .u64 n2, .int .u32 n3, .int .i64 n4, .int .u64 n5, .int .i64 n6, .int .u64 n7, .int .i64 n8]) fun w10 =>
 ∃ n11, World.cell? w10 (Addr.add ⟨w0.heap.size, 0, none⟩ 2) = some (.int .i64 n11) ∧
 ∃ m12, sliceLen p2 = some m12 ∧
 (St1 w10 (Addr.add ⟨w0.heap.size, 0, none⟩ 2)) ∧
 bindW (World.setCell w10 (Addr.add ⟨w0.heap.size, 0, none⟩ 2) (.int .i64 (IntKind.wrap .i64 ((1 : Int) - n11)))) fun w13 =>
 (St1 w13 (Addr.add ⟨w0.heap.size, 0, none⟩ 3)) ∧
 bindW (World.setCell w13 (Addr.add ⟨w0.heap.size, 0, none⟩ 3) (.int .u64 p1)) fun w14 =>
 (St1 w14 (Addr.add ⟨w0.heap.size, 0, none⟩ 4)) ∧
 bindW (World.setCell w14 (Addr.add ⟨w0.heap.size, 0, none⟩ 4) (.int .i64 (m12 : Nat))) fun w15 =>
 LoopP [.int .i64]
 (fun j16 => fun (n17 : Int) => fun (w18 : World) =>
 ∃ m19, sliceLen p2 = some m19 ∧
 cond (decide ((IntKind.wrap .i64 (n17 * 512)) ≥ ((m19 : Nat) : Int)))
 (bindW (World.drew w18) fun w20 =>
 ∃ (n21 : Int) (n22 : Int) (n23 : Int) (n24 : Int) (n25 : Int) (n26 : Int) (n27 : Int), (ldCells w20 ⟨w0.heap.size, 0, none⟩ 7 #[.int .u64 n21, .int .u32 n22, .int .i64 n23, .int .u64 n24, .int .i64 n25, .int .u64 n26, .int .i64 n27]) ∧
 withAddr (.pointer p0) fun a28 =>
 ∃ (o29 : Option Addr), ((World.cell? w20 (Addr.add a28 0)) = (some (.pointer o29))) ∧
 bindW (World.drew w18) fun w30 =>
 CW.Spec Tryz.prog 192 #[.pointer o29] w30 fun v31 w32 =>
 ∃ (n33 : Int), v31 = .int .i64 n33 ∧
 (∃ (n34 : Int) (n35 : Int) (n36 : Int) (n37 : Int) (n38 : Int) (n39 : Int) (n40 : Int), (ldCells w32 ⟨w0.heap.size, 0, none⟩ 7 #[.int .u64 n34, .int .u32 n35, .int .i64 n36, .int .u64 n37, .int .i64 n38, .int .u64 n39, .int .i64 n40]) ∧
 ((.agg #[.int .u64 n34, .int .u32 n35, .int .i64 n36, .int .u64 n37, .int .i64 n38, .int .u64 n39, .int .i64 n40]) : Value) = (.agg #[.int .u64 n21, .int .u32 n22, .int .i64 n23, .int .u64 n24, .int .i64 n25, .int .u64 n26, .int .i64 n27])) ∧
 (StRow w32 ⟨w.heap.size, 0, none⟩ #[.int .u64 n21, .int .u32 n22, .int .i64 n23, .int .u64 n24, .int .i64 n25, .int .u64 n26, .int .i64 n27]) ∧
 bindW (stRow w32 ⟨w.heap.size, 0, none⟩ #[.int .u64 n21, .int .u32 n22, .int .i64 n23, .int .u64 n24, .int .i64 n25, .int .u64 n26, .int .i64 n27]) fun w41 =>
 bindW (stRow w32 ⟨w.heap.size, 0, none⟩ #[.int .u64 n21, .int .u32 n22, .int .i64 n23, .int .u64 n24, .int .i64 n25, .int .u64 n26, .int .i64 n27]) fun w42 =>
 ∃ (n43 : Int) (n44 : Int) (n45 : Int) (n46 : Int) (n47 : Int) (n48 : Int) (n49 : Int), (ldCells w42 ⟨w.heap.size, 0, none⟩ 7 #[.int .u64 n43, .int .u32 n44, .int .i64 n45, .int .u64 n46, .int .i64 n47, .int .u64 n48, .int .i64 n49]) ∧
 R (.tuple #[(.agg #[.int .u64 n43, .int .u32 n44, .int .i64 n45, .int .u64 n46, .int .i64 n47, .int .u64 n48, .int .i64 n49]), .int .i64 n33]) w42)
 (bindW (World.drew w18) fun w50 =>
 withAddr (.pointer p0) fun a51 =>
 ∃ (o52 : Option Addr), ((World.cell? w50 (Addr.add a51 0)) = (some (.pointer o52))) ∧
 ∃ n53, World.cell? w50 (Addr.add ⟨w0.heap.size, 0, none⟩ 2) = some (.int .i64 n53) ∧
 ∃ m54, sliceLen p2 = some m54 ∧
 ∃ (v55 : Value), ((subSlice p2 1 (some (.int .i64 (IntKind.wrap .i64 (n17 * 512)))) (some (.int .i64 (if ((m54 : Nat) : Int) < (IntKind.wrap .i64 ((IntKind.wrap .i64 (n17 * 512)) + 512)) then ((m54 : Nat) : Int) else (IntKind.wrap .i64 ((IntKind.wrap .i64 (n17 * 512)) + 512))))) none) = (some v55)) ∧
 bindW (World.drew w18) fun w56 =>
 CW.Spec Tryz.prog 190 #[.pointer o52, (.int .i64 (IntKind.wrap .i64 ((IntKind.wrap .i64 ((2 : Int) + (IntKind.wrap .i64 (n53 * 48)))) + n17))), v55] w56 fun v57 w58 =>
 ∃ (n59 : Int), v57 = .int .i64 n59 ∧
 cond (n59 != 0)
 (∃ (n60 : Int) (n61 : Int) (n62 : Int) (n63 : Int) (n64 : Int) (n65 : Int) (n66 : Int), (ldCells w58 ⟨w0.heap.size, 0, none⟩ 7 #[.int .u64 n60, .int .u32 n61, .int .i64 n62, .int .u64 n63, .int .i64 n64, .int .u64 n65, .int .i64 n66]) ∧
 (StRow w58 ⟨w.heap.size, 0, none⟩ #[.int .u64 n60, .int .u32 n61, .int .i64 n62, .int .u64 n63, .int .i64 n64, .int .u64 n65, .int .i64 n66]) ∧
 bindW (stRow w58 ⟨w.heap.size, 0, none⟩ #[.int .u64 n60, .int .u32 n61, .int .i64 n62, .int .u64 n63, .int .i64 n64, .int .u64 n65, .int .i64 n66]) fun w67 =>
 ∃ (n68 : Int) (n69 : Int) (n70 : Int) (n71 : Int) (n72 : Int) (n73 : Int) (n74 : Int), (ldCells w67 ⟨w.heap.size, 0, none⟩ 7 #[.int .u64 n68, .int .u32 n69, .int .i64 n70, .int .u64 n71, .int .i64 n72, .int .u64 n73, .int .i64 n74]) ∧
 R (.tuple #[(.agg #[.int .u64 n68, .int .u32 n69, .int .i64 n70, .int .u64 n71, .int .i64 n72, .int .u64 n73, .int .i64 n74]), .int .i64 n59]) w67)
 (j16 (IntKind.wrap .i64 (n17 + 1)) w58)))
 (fun s75 => s75 (0 : Int) w15)
theorem q114W (p0 p1 p2 w R) (h : q114F p0 p1 p2 w R) : CW.Spec Tryz.prog 128 #[.pointer p0, .int .u64 p1, p2] w R :=
 sp Tryz.func128 h
end
section
open Go Go.CW
def q32F (p0 : Value) (p1 : Value) (w : World) (R : KV) : Prop :=
 CW.Spec Tryz.prog 9 #[] w fun v0 w1 =>
 ∃ (b2 : Bool), v0 = .bool b2 ∧
 cond (!b2)
 (R (.bool false) w1)
 (JoinP [.bool]
 (fun (b3 : Bool) => fun (w4 : World) =>
 cond b3
 (R (.bool true) w4)
 (CW.Spec Tryz.prog 18 #[.int .i64 32] w4 fun v5 w6 =>
 ∃ (o7 : Option Addr) (n8 : Int), v5 = .tuple #[.pointer o7, .int .i64 n8] ∧
 LoopP [.int .i64]
 (fun j9 => fun (n10 : Int) => fun (w11 : World) =>
 ∃ m12, sliceLen p0 = some m12 ∧
 cond (decide (n10 < ((m12 : Nat) : Int)))
 (bindW (World.drew w11) fun w13 =>
 ∃ a14, sliceAt p0 n10 3 = some a14 ∧
 ∃ n15, World.cell? w13 (Addr.add a14 1) = some (.int .u8 n15) ∧
 ∃ a16, sliceAt p0 n10 3 = some a16 ∧
 ∃ n17, World.cell? w13 (Addr.add a16 0) = some (.int .u8 n17) ∧
 ∃ a18, sliceAt p0 n10 3 = some a18 ∧
 ∃ n19, World.cell? w13 (Addr.add a18 1) = some (.int .u8 n19) ∧
 ∃ a20, sliceAt p0 n10 3 = some a20 ∧
 ∃ n21, World.cell? w13 (Addr.add a20 2) = some (.int .u8 n21) ∧
 bindW (World.drew w11) fun w22 =>
 CW.Spec Tryz.prog 13 #[.int .u8 n17, .int .u8 n19, .int .u8 n21] w22 fun v23 w24 =>
 ∃ (n25 : Int) (n26 : Int) (n27 : Int) (v28 : Value) (n29 : Int) (n30 : Int) (n31 : Int) (b32 : Bool), v23 = .agg #[.int .i64 n25, .int .i64 n26, .int .i64 n27, v28, .int .u64 n29, .int .u64 n30, .int .i64 n31, .bool b32] ∧
 (∃ n33, World.cell? w24 (Addr.add a14 1) = some (.int .u8 n33) ∧
 ((.int .u8 n33) : Value) = (.int .u8 n15)) ∧
 CW.Spec Tryz.prog 19 #[.pointer o7, (.int .i64 (IntKind.wrap .i64 (bitsI .and .u8 n15 (3 : Int)))), (.int .u64 (IntKind.wrap .u64 (IntKind.wrap .i64 (n10 + 1)))), (.int .u64 (IntKind.wrap .u64 (IntKind.wrap .i64 (n10 + 1)))), (.agg #[.int .i64 n25, .int .i64 n26, .int .i64 n27, v28, .int .u64 n29, .int .u64 n30, .int .i64 n31, .bool b32])] w24 fun v34 w35 =>
 ∃ (n36 : Int) (n37 : Int) (n38 : Int) (v39 : Value) (n40 : Int) (b41 : Bool), v34 = .tuple #[(.agg #[.int .i64 n36, .int .i64 n37, .int .i64 n38, v39, .int .i64 n40]), .bool b41] ∧
 j9 (IntKind.wrap .i64 (n10 + 1)) w35)
 (CW.Spec Tryz.prog 49 #[.pointer o7] w11 fun v42 w43 =>
 ∃ m44, sliceLen v42 = some m44 ∧
 cond (decide (((m44 : Nat) : Int) > 24576))
 (R (.bool true) w43)
 (CW.Spec Tryz.prog 43 #[] w43 fun v45 w46 =>
 ∃ (n47 : Int), v45 = .int .i64 n47 ∧
 CW.Spec Tryz.prog 36 #[.int .i64 n47] w46 fun v48 w49 =>
 ∃ (o50 : Option Addr) (n51 : Int), v48 = .tuple #[.pointer o50, .int .i64 n51] ∧
 CW.Spec Tryz.prog 44 #[.pointer o50] w49 fun v52 w53 =>
 ∃ (n54 : Int), v52 = .int .i64 n54 ∧
 CW.Spec Tryz.prog 45 #[.pointer o50] w53 fun v55 w56 =>
 ∃ (o57 : Option Addr) (n58 : Int), v55 = .tuple #[.pointer o57, .int .i64 n58] ∧
 CW.Spec Tryz.prog 50 #[.pointer o57, .int .u64 3, .int .u64 9, v42] w56 fun v59 w60 =>
 ∃ (n61 : Int), v59 = .int .i64 n61 ∧
 cond (n61 != 0)
 (R (.bool false) w60)
 (CW.Spec Tryz.prog 47 #[.pointer o50, p1] w60 fun v62 w63 =>
 v62 = .tuple #[] ∧
 CW.Spec Tryz.prog 41 #[.pointer o50] w63 fun v64 w65 =>
 v64 = .tuple #[] ∧
 CW.Spec Tryz.prog 45 #[.pointer o50] w65 fun v66 w67 =>
 ∃ (o68 : Option Addr) (n69 : Int), v66 = .tuple #[.pointer o68, .int .i64 n69] ∧
 JoinP [.bool]
 (fun (b70 : Bool) => fun (w71 : World) =>
 cond b70
 (R (.bool false) w71)
 (CW.Spec Tryz.prog 51 #[.pointer o68] w71 fun v72 w73 =>
 ∃ (n74 : Int) (v75 : Value), v72 = .tuple #[.int .u64 n74, v75] ∧
 CW.Spec Tryz.prog 52 #[v75] w73 fun v76 w77 =>
 ∃ (o78 : Option Addr) (n79 : Int), v76 = .tuple #[.pointer o78, .int .i64 n79] ∧
 JoinP [.bool]
 (fun (b80 : Bool) => fun (w81 : World) =>
 cond b80
 (R (.bool false) w81)
 (LoopP [.int .i64]
 (fun j82 => fun (n83 : Int) => fun (w84 : World) =>
 cond (decide (n83 < 4))
 (JoinP [.bool]
 (fun (b85 : Bool) => fun (w86 : World) =>
 cond b85
 (R (.bool false) w86)
 (j82 (IntKind.wrap .i64 (n83 + 1)) w86))
 (fun j87 =>
 CW.Spec Tryz.prog 20 #[.pointer o7, .int .i64 n83, (.agg #[.int .i64 2, .int .i64 0, .int .i64 32, .slice none 0 0, .int .u64 0, .int .u64 0, .int .i64 0, .bool false])] w84 fun v88 w89 =>
 ∃ (n90 : Int) (n91 : Int) (n92 : Int) (v93 : Value) (n94 : Int), v88 = .agg #[.int .i64 n90, .int .i64 n91, .int .i64 n92, v93, .int .i64 n94] ∧
 CW.Spec Tryz.prog 20 #[.pointer o78, .int .i64 n83, (.agg #[.int .i64 2, .int .i64 0, .int .i64 32, .slice none 0 0, .int .u64 0, .int .u64 0, .int .i64 0, .bool false])] w89 fun v95 w96 =>
 ∃ (n97 : Int) (n98 : Int) (n99 : Int) (v100 : Value) (n101 : Int), v95 = .agg #[.int .i64 n97, .int .i64 n98, .int .i64 n99, v100, .int .i64 n101] ∧
 CW.Spec Tryz.prog 21 #[(.agg #[.int .i64 n90, .int .i64 n91, .int .i64 n92, v93, .int .i64 n94]), (.agg #[.int .i64 n97, .int .i64 n98, .int .i64 n99, v100, .int .i64 n101])] w96 fun v102 w103 =>
 ∃ (b104 : Bool), v102 = .bool b104 ∧
 cond (!b104)
 (j87 true w103)
 (CW.Spec Tryz.prog 20 #[.pointer o7, .int .i64 n83, (.agg #[.int .i64 16, .int .i64 0, .int .i64 0, .slice none 0 0, .int .u64 0, .int .u64 0, .int .i64 0, .bool false])] w103 fun v105 w106 =>
 ∃ (n107 : Int) (n108 : Int) (n109 : Int) (v110 : Value) (n111 : Int), v105 = .agg #[.int .i64 n107, .int .i64 n108, .int .i64 n109, v110, .int .i64 n111] ∧
 CW.Spec Tryz.prog 20 #[.pointer o78, .int .i64 n83, (.agg #[.int .i64 16, .int .i64 0, .int .i64 0, .slice none 0 0, .int .u64 0, .int .u64 0, .int .i64 0, .bool false])] w106 fun v112 w113 =>
 ∃ (n114 : Int) (n115 : Int) (n116 : Int) (v117 : Value) (n118 : Int), v112 = .agg #[.int .i64 n114, .int .i64 n115, .int .i64 n116, v117, .int .i64 n118] ∧
 CW.Spec Tryz.prog 21 #[(.agg #[.int .i64 n107, .int .i64 n108, .int .i64 n109, v110, .int .i64 n111]), (.agg #[.int .i64 n114, .int .i64 n115, .int .i64 n116, v117, .int .i64 n118])] w113 fun v119 w120 =>
 ∃ (b121 : Bool), v119 = .bool b121 ∧
 j87 (!b121) w120)))
 (R (.bool true) w84))
 (fun s122 => s122 (0 : Int) w81)))
 (fun j123 =>
 cond (n74 != 9)
 (j123 true w77)
 (CW.Spec Tryz.prog 53 #[.pointer o68] w77 fun v124 w125 =>
 ∃ (n126 : Int), v124 = .int .u64 n126 ∧
 cond (n126 != 3)
 (j123 true w125)
 (cond (n79 != 0)
 (j123 true w125)
 (∃ (b127 : Bool), ((Go.CW.isNilP (.pointer o78)) = (some b127)) ∧
 j123 b127 w125))))))
 (fun j128 =>
 cond (n69 != 0)
 (j128 true w67)
 (∃ (b129 : Bool), ((Go.CW.isNilP (.pointer o68)) = (some b129)) ∧
 j128 b129 w67))))))
 (fun s130 => s130 (0 : Int) w6)))
 (fun j131 =>
 ∃ m132, sliceLen p0 = some m132 ∧
 cond (decide (((m132 : Nat) : Int) > 30))
 (j131 true w1)
 (∃ m133, sliceLen p1 = some m133 ∧
 j131 (decide (((m133 : Nat) : Int) > 20)) w1)))
theorem q32W (p0 p1 w R) (h : q32F p0 p1 w R) : CW.Spec Tryz.prog 8 #[p0, p1] w R :=
 sp Tryz.func8 h
end
end Go.Proofs.YtghineciiljeoaaGreatDoor
