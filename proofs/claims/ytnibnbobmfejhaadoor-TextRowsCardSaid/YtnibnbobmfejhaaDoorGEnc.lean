/- The formulas of some functions, printed by a program (wip/cw/CwGen). -/
import Derived.Test.YtnibnbobmfejhaaDoorNam
set_option linter.unusedVariables false
set_option maxRecDepth 100000
namespace Go.Proofs.YtnibnbobmfejhaaDoor
open Go Go.CW

/-- gemel/text.Encode -/
def text_Encode_F (p0 : Value) (w : World) (R : KV) : Prop :=
 ∃ (v0 : Value) (w1 : World), ((Sem.run @Go.Proofs.Tryd.prog (Go.Instr.makeMap 54 none) w) = (.ok v0 w1)) ∧
 ∃ (m2 : Nat), ((Go.CW.sliceLen p0) = (some m2)) ∧
 LoopP [.val, .bool, .int .i64]
 (fun j3 => fun (v4 : Value) => fun (b5 : Bool) => fun (n6 : Int) => fun (w7 : World) =>
 cond (decide (n6 < ((m2 : Nat) : Int)))
 (JoinP [.val, .bool]
 (fun (v8 : Value) => fun (b9 : Bool) => fun (w10 : World) =>
 j3 v8 b9 (IntKind.wrap .i64 (n6 + (1 : Int))) w10)
 (fun j11 =>
 ∃ (a12 : Addr), ((Go.CW.sliceAt p0 n6 2) = (some a12)) ∧
 ∃ (s13 : ByteArray) (s14 : ByteArray), (ldCells w7 a12 2 #[(.string s13), (.string s14)]) ∧
 bindW (World.alloc w7 (.cells #[(.string (ByteArray.mk #[])), (.string (ByteArray.mk #[]))] 31)) fun w15 =>
 (StRow w15 ⟨w7.heap.size, 0, none⟩ #[(.string s13), (.string s14)]) ∧
 bindW (stRow w15 ⟨w7.heap.size, 0, none⟩ #[(.string s13), (.string s14)]) fun w16 =>
 JoinP [.bool]
 (fun (b17 : Bool) => fun (w18 : World) =>
 ∃ (s19 : ByteArray), ((Go.World.cell? w18 (Addr.add ⟨w7.heap.size, 0, none⟩ 0)) = (some (.string s19))) ∧
 ∃ (w20 : World), ((Sem.run @Go.Proofs.Tryd.prog (Go.Instr.mapUpdate 54 v0 (.string s19) (.bool true)) w18) = (.ok PUnit.unit w20)) ∧
 ∃ (m21 : Nat), ((Go.CW.sliceLen v4) = (some m21)) ∧
 cond (decide (((m21 : Nat) : Int) ≤ (4096 : Int)))
 (∃ (s22 : ByteArray), ((Go.World.cell? w20 (Addr.add ⟨w7.heap.size, 0, none⟩ 0)) = (some (.string s22))) ∧
 (((ByteArray.size s22) + 1) ≤ 9223372036854775807) ∧
 ∃ (s23 : ByteArray), ((Go.World.cell? w20 (Addr.add ⟨w7.heap.size, 0, none⟩ 1)) = (some (.string s23))) ∧
 (((ByteArray.size (s22 ++ (ByteArray.mk #[61]))) + (ByteArray.size s23)) ≤ 9223372036854775807) ∧
 (((ByteArray.size ((s22 ++ (ByteArray.mk #[61])) ++ s23)) + 1) ≤ 9223372036854775807) ∧
 ∃ (v24 : Value) (w25 : World), ((Sem.run @Go.Proofs.Tryd.prog (Go.Builtin.append_ #[32, 9] 32 #[v4, (.string (((s22 ++ (ByteArray.mk #[61])) ++ s23) ++ (ByteArray.mk #[0])))]) w20) = (.ok v24 w25)) ∧
 j11 v24 b17 w25)
 (j11 v4 b17 w20))
 (fun j26 =>
 cond b5
 (j26 true w16)
 (∃ (s27 : ByteArray) (s28 : ByteArray), (ldCells w16 ⟨w7.heap.size, 0, none⟩ 2 #[(.string s27), (.string s28)]) ∧
 Go.CW.Spec Tryd.prog 24 #[(.agg #[(.string s27), (.string s28)])] w16 fun v29 w30 =>
 ∃ (b31 : Bool), ((v29 : Value) = (.bool b31)) ∧
 cond (!b31)
 (j26 true w30)
 (∃ (s32 : ByteArray), ((Go.World.cell? w30 (Addr.add ⟨w7.heap.size, 0, none⟩ 0)) = (some (.string s32))) ∧
 ∃ (b33 : Bool), ((Sem.run @Go.Proofs.Tryd.prog (Go.Instr.lookup 54 v0 (.string s32) false) w30) = (.ok (.bool b33) w30)) ∧
 j26 b33 w30)))))
 (cond b5
 (R (.tuple #[(.slice none 0 0), (.int .i64 (1 : Int))]) w7)
 (∃ (m34 : Nat), ((Go.CW.sliceLen v4) = (some m34)) ∧
 cond (decide (((m34 : Nat) : Int) > (4096 : Int)))
 (R (.tuple #[(.slice none 0 0), (.int .i64 (5 : Int))]) w7)
 (Go.CW.Spec Tryd.prog 25 #[v4] w7 fun v35 w36 =>
 R (.tuple #[v35, (.int .i64 (0 : Int))]) w36))))
 (fun s37 => s37 (.slice none 0 0) false (0 : Int) w1)

theorem text_Encode_wp (p0 : Value) (w : World) (R : KV) (h : text_Encode_F p0 w R) : Go.CW.Spec Tryd.prog 10 #[p0] w R :=
  spec_of Tryd.func10 (by kernel_rfl) (show text_Encode_F p0 w R = _ by kernel_rfl) h

/-- gemel/text.Decode -/
def text_Decode_F (p0 : Value) (w : World) (R : KV) : Prop :=
 ∃ (m0 : Nat), ((Go.CW.sliceLen p0) = (some m0)) ∧
 cond (decide (((m0 : Nat) : Int) > (4096 : Int)))
 (R (.tuple #[(.slice none 0 0), (.int .i64 (5 : Int))]) w)
 (∃ (v1 : Value) (w2 : World), ((Sem.run @Go.Proofs.Tryd.prog (Go.Instr.makeMap 54 none) w) = (.ok v1 w2)) ∧
 ∃ (s3 : ByteArray), ((Sem.run @Go.Proofs.Tryd.prog (Go.convert 32 9 p0) w2) = (.ok (.string s3) w2)) ∧
 LoopP [.val, .str]
 (fun j4 => fun (v5 : Value) => fun (s6 : ByteArray) => fun (w7 : World) =>
 cond (!(ByteArray.toList s6 == ByteArray.toList (ByteArray.mk #[])))
 (Go.CW.Spec Tryd.prog 26 #[(.string s6), (.string (ByteArray.mk #[0]))] w7 fun v8 w9 =>
 ∃ (s10 : ByteArray) (s11 : ByteArray) (b12 : Bool), ((v8 : Value) = (.tuple #[(.string s10), (.string s11), (.bool b12)])) ∧
 Go.CW.Spec Tryd.prog 26 #[(.string s10), (.string (ByteArray.mk #[61]))] w9 fun v13 w14 =>
 ∃ (s15 : ByteArray) (s16 : ByteArray) (b17 : Bool), ((v13 : Value) = (.tuple #[(.string s15), (.string s16), (.bool b17)])) ∧
 bindW (World.alloc w14 (.cells #[(.string (ByteArray.mk #[])), (.string (ByteArray.mk #[]))] 31)) fun w18 =>
 (StRow w18 ⟨w14.heap.size, 0, none⟩ #[(.string s15), (.string s16)]) ∧
 bindW (stRow w18 ⟨w14.heap.size, 0, none⟩ #[(.string s15), (.string s16)]) fun w19 =>
 JoinP [.bool]
 (fun (b20 : Bool) => fun (w21 : World) =>
 cond b20
 (R (.tuple #[(.slice none 0 0), (.int .i64 (2 : Int))]) w21)
 (∃ (w22 : World), ((Sem.run @Go.Proofs.Tryd.prog (Go.Instr.mapUpdate 54 v1 (.string s15) (.bool true)) w21) = (.ok PUnit.unit w22)) ∧
 ∃ (s23 : ByteArray) (s24 : ByteArray), (ldCells w22 ⟨w14.heap.size, 0, none⟩ 2 #[(.string s23), (.string s24)]) ∧
 bindW (World.alloc w22 (.cells #[(.string s23), (.string s24)] 31)) fun w25 =>
 ∃ (v26 : Value) (w27 : World), ((Sem.run @Go.Proofs.Tryd.prog (Go.Builtin.append_ #[29, 29] 29 #[v5, (.slice (some ⟨w22.heap.size, 0, none⟩) 1 1)]) w25) = (.ok v26 w27)) ∧
 j4 v26 s11 w27))
 (fun j28 =>
 cond (!b12)
 (j28 true w19)
 (cond (!b17)
 (j28 true w19)
 (∃ (s29 : ByteArray) (s30 : ByteArray), (ldCells w19 ⟨w14.heap.size, 0, none⟩ 2 #[(.string s29), (.string s30)]) ∧
 Go.CW.Spec Tryd.prog 24 #[(.agg #[(.string s29), (.string s30)])] w19 fun v31 w32 =>
 ∃ (b33 : Bool), ((v31 : Value) = (.bool b33)) ∧
 cond (!b33)
 (j28 true w32)
 (∃ (b34 : Bool), ((Sem.run @Go.Proofs.Tryd.prog (Go.Instr.lookup 54 v1 (.string s15) false) w32) = (.ok (.bool b34) w32)) ∧
 j28 b34 w32)))))
 (Go.CW.Spec Tryd.prog 27 #[v5] w7 fun v35 w36 =>
 R (.tuple #[v35, (.int .i64 (0 : Int))]) w36))
 (fun s37 => s37 (.slice none 0 0) s3 w2))

theorem text_Decode_wp (p0 : Value) (w : World) (R : KV) (h : text_Decode_F p0 w R) : Go.CW.Spec Tryd.prog 11 #[p0] w R :=
  spec_of Tryd.func11 (by kernel_rfl) (show text_Decode_F p0 w R = _ by kernel_rfl) h

/-- gemel/text.Find -/
def text_Find_F (p0 : Value) (p1 : ByteArray) (w : World) (R : KV) : Prop :=
 ∃ (m0 : Nat), ((Go.CW.sliceLen p0) = (some m0)) ∧
 LoopP [.int .i64]
 (fun j1 => fun (n2 : Int) => fun (w3 : World) =>
 cond (decide (n2 < ((m0 : Nat) : Int)))
 (∃ (a4 : Addr), ((Go.CW.sliceAt p0 n2 2) = (some a4)) ∧
 ∃ (s5 : ByteArray) (s6 : ByteArray), (ldCells w3 a4 2 #[(.string s5), (.string s6)]) ∧
 bindW (World.alloc w3 (.cells #[(.string (ByteArray.mk #[])), (.string (ByteArray.mk #[]))] 31)) fun w7 =>
 (StRow w7 ⟨w3.heap.size, 0, none⟩ #[(.string s5), (.string s6)]) ∧
 bindW (stRow w7 ⟨w3.heap.size, 0, none⟩ #[(.string s5), (.string s6)]) fun w8 =>
 ∃ (s9 : ByteArray), ((Go.World.cell? w8 (Addr.add ⟨w3.heap.size, 0, none⟩ 0)) = (some (.string s9))) ∧
 cond (ByteArray.toList s9 == ByteArray.toList p1)
 (∃ (s10 : ByteArray), ((Go.World.cell? w8 (Addr.add ⟨w3.heap.size, 0, none⟩ 1)) = (some (.string s10))) ∧
 R (.tuple #[(.string s10), (.bool true)]) w8)
 (j1 (IntKind.wrap .i64 (n2 + (1 : Int))) w8))
 (R (.tuple #[(.string (ByteArray.mk #[])), (.bool false)]) w3))
 (fun s11 => s11 (0 : Int) w)

theorem text_Find_wp (p0 : Value) (p1 : ByteArray) (w : World) (R : KV) (h : text_Find_F p0 p1 w R) : Go.CW.Spec Tryd.prog 12 #[p0, (.string p1)] w R :=
  spec_of Tryd.func12 (by kernel_rfl) (show text_Find_F p0 p1 w R = _ by kernel_rfl) h

/-- gemel/text.right -/
def text_right_F (p0_0 : ByteArray) (p0_1 : ByteArray) (w : World) (R : KV) : Prop :=
 bindW (World.alloc w (.cells #[(.string p0_0), (.string p0_1)] 31)) fun w0 =>
 JoinP [.bool]
 (fun (b1 : Bool) => fun (w2 : World) =>
 R (.bool b1) w2)
 (fun j3 =>
 ∃ (s4 : ByteArray), ((Go.World.cell? w0 (Addr.add ⟨w.heap.size, 0, none⟩ 0)) = (some (.string s4))) ∧
 cond (!(ByteArray.toList s4 == ByteArray.toList (ByteArray.mk #[])))
 (∃ (s5 : ByteArray), ((Go.World.cell? w0 (Addr.add ⟨w.heap.size, 0, none⟩ 0)) = (some (.string s5))) ∧
 cond (decide ((((ByteArray.size s5) : Nat) : Int) ≤ (63 : Int)))
 (∃ (s6 : ByteArray), ((Go.World.cell? w0 (Addr.add ⟨w.heap.size, 0, none⟩ 0)) = (some (.string s6))) ∧
 Go.CW.Spec Tryd.prog 22 #[(.string s6), (.func (.func 37) #[] #[])] w0 fun v7 w8 =>
 ∃ (b9 : Bool), ((v7 : Value) = (.bool b9)) ∧
 cond b9
 (∃ (s10 : ByteArray), ((Go.World.cell? w8 (Addr.add ⟨w.heap.size, 0, none⟩ 1)) = (some (.string s10))) ∧
 cond (decide ((((ByteArray.size s10) : Nat) : Int) ≤ (255 : Int)))
 (∃ (s11 : ByteArray), ((Go.World.cell? w8 (Addr.add ⟨w.heap.size, 0, none⟩ 1)) = (some (.string s11))) ∧
 Go.CW.Spec Tryd.prog 38 #[(.string s11), (.int .u8 (0 : Int))] w8 fun v12 w13 =>
 ∃ (n14 : Int), ((v12 : Value) = (.int .i64 n14)) ∧
 j3 (decide (n14 < (0 : Int))) w13)
 (j3 false w8))
 (j3 false w8))
 (j3 false w0))
 (j3 false w0))

theorem text_right_wp (p0_0 : ByteArray) (p0_1 : ByteArray) (w : World) (R : KV) (h : text_right_F p0_0 p0_1 w R) : Go.CW.Spec Tryd.prog 24 #[(.agg #[(.string p0_0), (.string p0_1)])] w R :=
  spec_of Tryd.func24 (by kernel_rfl) (show text_right_F p0_0 p0_1 w R = _ by kernel_rfl) h

/-- gemel/text.right$1 -/
def text_right_1_F (p0 : Int) (w : World) (R : KV) : Prop :=
 JoinP [.bool]
 (fun (b0 : Bool) => fun (w1 : World) =>
 R (.bool b0) w1)
 (fun j2 =>
 Go.CW.Spec Tryd.prog 21 #[(.int .u8 p0), (.int .u8 (65 : Int)), (.int .u8 (90 : Int))] w fun v3 w4 =>
 ∃ (b5 : Bool), ((v3 : Value) = (.bool b5)) ∧
 cond b5
 (j2 true w4)
 (Go.CW.Spec Tryd.prog 21 #[(.int .u8 p0), (.int .u8 (97 : Int)), (.int .u8 (122 : Int))] w4 fun v6 w7 =>
 ∃ (b8 : Bool), ((v6 : Value) = (.bool b8)) ∧
 cond b8
 (j2 true w7)
 (Go.CW.Spec Tryd.prog 21 #[(.int .u8 p0), (.int .u8 (48 : Int)), (.int .u8 (57 : Int))] w7 fun v9 w10 =>
 ∃ (b11 : Bool), ((v9 : Value) = (.bool b11)) ∧
 cond b11
 (j2 true w10)
 (Go.CW.Spec Tryd.prog 38 #[(.string (ByteArray.mk #[46, 45, 43, 64, 95])), (.int .u8 p0)] w10 fun v12 w13 =>
 ∃ (n14 : Int), ((v12 : Value) = (.int .i64 n14)) ∧
 j2 (decide (n14 ≥ (0 : Int))) w13))))

theorem text_right_1_wp (p0 : Int) (w : World) (R : KV) (h : text_right_1_F p0 w R) : Go.CW.Spec Tryd.prog 37 #[(.int .u8 p0)] w R :=
  spec_of Tryd.func37 (by kernel_rfl) (show text_right_1_F p0 w R = _ by kernel_rfl) h

/-- slices.Clip[[]gemel/text.Pair,gemel/text.Pair] -/
def slices_Clip_27_F (p0 : Value) (w : World) (R : KV) : Prop :=
 ∃ (m0 : Nat), ((Go.CW.sliceLen p0) = (some m0)) ∧
 ∃ (m1 : Nat), ((Go.CW.sliceLen p0) = (some m1)) ∧
 ∃ (v2 : Value), ((Go.CW.subSlice p0 2 none (some (.int .i64 ((m0 : Nat) : Int))) (some (.int .i64 ((m1 : Nat) : Int)))) = (some v2)) ∧
 R v2 w

theorem slices_Clip_27_wp (p0 : Value) (w : World) (R : KV) (h : slices_Clip_27_F p0 w R) : Go.CW.Spec Tryd.prog 27 #[p0] w R :=
  spec_of Tryd.func27 (by kernel_rfl) (show slices_Clip_27_F p0 w R = _ by kernel_rfl) h

/-- internal/strconv.lower -/
def strconv_lower_F (p0 : Int) (w : World) (R : KV) : Prop :=
 R (.int .u8 (bitsI .or .u8 p0 (32 : Int))) w

theorem strconv_lower_wp (p0 : Int) (w : World) (R : KV) (h : strconv_lower_F p0 w R) : Go.CW.Spec Tryd.prog 55 #[(.int .u8 p0)] w R :=
  spec_of Tryd.func55 (by kernel_rfl) (show strconv_lower_F p0 w R = _ by kernel_rfl) h

end Go.Proofs.YtnibnbobmfejhaaDoor
