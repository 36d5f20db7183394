/- The formulas of some functions, printed by a program (wip/cw/CwGen). -/
import Derived.Test.YtacenidajlncaaaDoorNam
set_option linter.unusedVariables false
set_option maxRecDepth 100000
namespace Go.Proofs.YtacenidajlncaaaDoor
open Go Go.CW

/-- gemel/gemellaw5.SenseWords -/
def gemellaw5_SenseWords_F (p0 : Int) (p1 : Int) (p2 : Int) (p3 : Int) (p4 : Int) (p5 : Int) (w : World) (R : KV) : Prop :=
 Go.CW.Spec Tryd.prog 4 #[] w fun v0 w1 =>
 ∃ (b2 : Bool), ((v0 : Value) = (.bool b2)) ∧
 cond (!b2)
 (R (.bool false) w1)
 (Go.CW.Spec Tryd.prog 5 #[(.agg #[(.int .i64 p2), (.int .i64 p4), (.int .i64 p0), (.slice none 0 0), (.int .i64 (0 : Int))])] w1 fun v3 w4 =>
 ∃ (s5 : ByteArray), ((v3 : Value) = (.string s5)) ∧
 Go.CW.Spec Tryd.prog 5 #[(.agg #[(.int .i64 p3), (.int .i64 p5), (.int .i64 p1), (.slice none 0 0), (.int .i64 (0 : Int))])] w4 fun v6 w7 =>
 ∃ (s8 : ByteArray), ((v6 : Value) = (.string s8)) ∧
 JoinP [.bool]
 (fun (b9 : Bool) => fun (w10 : World) =>
 R (.bool ((ByteArray.toList s5 == ByteArray.toList s8) == b9)) w10)
 (fun j11 =>
 cond (p2 == p3)
 (cond (p2 != (2 : Int))
 (j11 true w7)
 (cond (p0 == p1)
 (j11 (p4 == p5) w7)
 (j11 false w7)))
 (j11 false w7)))

theorem gemellaw5_SenseWords_wp (p0 : Int) (p1 : Int) (p2 : Int) (p3 : Int) (p4 : Int) (p5 : Int) (w : World) (R : KV) (h : gemellaw5_SenseWords_F p0 p1 p2 p3 p4 p5 w R) : Go.CW.Spec Tryd.prog 3 #[(.int .i64 p0), (.int .i64 p1), (.int .i64 p2), (.int .i64 p3), (.int .i64 p4), (.int .i64 p5)] w R :=
  spec_of Tryd.func3 (by kernel_rfl) (show gemellaw5_SenseWords_F p0 p1 p2 p3 p4 p5 w R = _ by kernel_rfl) h

/-- gemel/gemellaw5.known -/
def gemellaw5_known_F  (w : World) (R : KV) : Prop :=
 Go.CW.Spec Tryd.prog 6 #[(.agg #[(.int .i64 (2 : Int)), (.int .i64 (14 : Int)), (.int .i64 (7424 : Int)), (.slice none 0 0), (.int .i64 (7 : Int))])] w fun v0 w1 =>
 Go.CW.Spec Tryd.prog 7 #[v0] w1 fun v2 w3 =>
 ∃ (n4 : Int) (n5 : Int) (n6 : Int) (n7 : Int), ((v2 : Value) = (.tuple #[(.int .i64 n4), (.int .i64 n5), (.int .i64 n6), (.int .i64 n7)])) ∧
 Go.CW.Spec Tryd.prog 8 #[] w3 fun v8 w9 =>
 Go.CW.Spec Tryd.prog 9 #[(.int .i64 (5 : Int)), (.int .i64 (8192 : Int))] w9 fun v10 w11 =>
 ∃ (n12 : Int) (n13 : Int) (n14 : Int) (v15 : Value) (n16 : Int), ((v10 : Value) = (.agg #[(.int .i64 n12), (.int .i64 n13), (.int .i64 n14), v15, (.int .i64 n16)])) ∧
 bindW (World.alloc w11 (.cells #[(.int .i64 (0 : Int)), (.int .i64 (0 : Int)), (.int .i64 (0 : Int)), (.slice none 0 0), (.int .i64 (0 : Int))] 26)) fun w17 =>
 (StRow w17 ⟨w11.heap.size, 0, none⟩ #[(.int .i64 n12), (.int .i64 n13), (.int .i64 n14), v15, (.int .i64 n16)]) ∧
 bindW (stRow w17 ⟨w11.heap.size, 0, none⟩ #[(.int .i64 n12), (.int .i64 n13), (.int .i64 n14), v15, (.int .i64 n16)]) fun w18 =>
 bindW (World.alloc w18 (.cells #[(.int .u8 (120 : Int))] 5)) fun w19 =>
 ∃ (v20 : Value) (w21 : World), ((Sem.run @Go.Proofs.Tryd.prog (Go.convert 24 24 (.slice (some ⟨w18.heap.size, 0, none⟩) 1 1)) w19) = (.ok v20 w21)) ∧
 Go.CW.Spec Tryd.prog 10 #[v20] w21 fun v22 w23 =>
 ∃ (n24 : Int) (n25 : Int) (n26 : Int) (v27 : Value) (n28 : Int), ((v22 : Value) = (.agg #[(.int .i64 n24), (.int .i64 n25), (.int .i64 n26), v27, (.int .i64 n28)])) ∧
 bindW (World.alloc w23 (.cells #[(.int .i64 (0 : Int)), (.int .i64 (0 : Int)), (.int .i64 (0 : Int)), (.slice none 0 0), (.int .i64 (0 : Int))] 26)) fun w29 =>
 (StRow w29 ⟨w23.heap.size, 0, none⟩ #[(.int .i64 n24), (.int .i64 n25), (.int .i64 n26), v27, (.int .i64 n28)]) ∧
 bindW (stRow w29 ⟨w23.heap.size, 0, none⟩ #[(.int .i64 n24), (.int .i64 n25), (.int .i64 n26), v27, (.int .i64 n28)]) fun w30 =>
 JoinP [.bool]
 (fun (b31 : Bool) => fun (w32 : World) =>
 R (.bool b31) w32)
 (fun j33 =>
 cond (n7 == (0 : Int))
 (cond (n4 == (14 : Int))
 (cond (n5 == (7424 : Int))
 (cond (n6 == (7 : Int))
 (∃ (m34 : Nat), ((Go.CW.sliceLen v8) = (some m34)) ∧
 cond (((m34 : Nat) : Int) == (36 : Int))
 (∃ (a35 : Addr), ((Go.CW.sliceAt v8 (8 : Int) 1) = (some a35)) ∧
 ∃ (n36 : Int), ((Go.World.cell? w30 a35) = (some (.int .u8 n36))) ∧
 cond (n36 == (71 : Int))
 (∃ (n37 : Int) (n38 : Int) (n39 : Int) (v40 : Value) (n41 : Int), (ldCells w30 ⟨w11.heap.size, 0, none⟩ 5 #[(.int .i64 n37), (.int .i64 n38), (.int .i64 n39), v40, (.int .i64 n41)]) ∧
 Go.CW.Spec Tryd.prog 5 #[(.agg #[(.int .i64 n37), (.int .i64 n38), (.int .i64 n39), v40, (.int .i64 n41)])] w30 fun v42 w43 =>
 ∃ (s44 : ByteArray), ((v42 : Value) = (.string s44)) ∧
 cond (ByteArray.toList s44 == ByteArray.toList (ByteArray.mk #[99, 104, 101, 99, 107, 32, 53, 32, 56, 49, 57, 50]))
 (∃ (v45 : Value), ((Go.World.cell? w43 (Addr.add ⟨w23.heap.size, 0, none⟩ 3)) = (some v45)) ∧
 ∃ (s46 : ByteArray), ((Sem.run @Go.Proofs.Tryd.prog (Go.convert 24 9 v45) w43) = (.ok (.string s46) w43)) ∧
 cond (ByteArray.toList s46 == ByteArray.toList (ByteArray.mk #[120]))
 (∃ (n47 : Int), ((Go.World.cell? w43 (Addr.add ⟨w23.heap.size, 0, none⟩ 0)) = (some (.int .i64 n47))) ∧
 j33 (n47 == (0 : Int)) w43)
 (j33 false w43))
 (j33 false w43))
 (j33 false w30))
 (j33 false w30))
 (j33 false w30))
 (j33 false w30))
 (j33 false w30))
 (j33 false w30))

theorem gemellaw5_known_wp  (w : World) (R : KV) (h : gemellaw5_known_F  w R) : Go.CW.Spec Tryd.prog 4 #[] w R :=
  spec_of Tryd.func4 (by kernel_rfl) (show gemellaw5_known_F  w R = _ by kernel_rfl) h

/-- gemel/sense.Text -/
def sense_Text_F (p0_0 : Int) (p0_1 : Int) (p0_2 : Int) (p0_3 : Value) (p0_4 : Int) (w : World) (R : KV) : Prop :=
 bindW (World.alloc w (.cells #[(.int .i64 p0_0), (.int .i64 p0_1), (.int .i64 p0_2), p0_3, (.int .i64 p0_4)] 26)) fun w0 =>
 ∃ (n1 : Int), ((Go.World.cell? w0 (Addr.add ⟨w.heap.size, 0, none⟩ 0)) = (some (.int .i64 n1))) ∧
 cond (n1 == (0 : Int))
 (R (.string (ByteArray.mk #[103, 111, 111, 100])) w0)
 (cond (n1 == (24 : Int))
 (R (.string (ByteArray.mk #[99, 111, 110, 102, 108, 105, 99, 116])) w0)
 (cond (n1 == (8 : Int))
 (R (.string (ByteArray.mk #[98, 117, 115, 121])) w0)
 (cond (n1 == (2 : Int))
 (bindW (World.drew w0) fun w2 =>
 ∃ (n3 : Int), ((Go.World.cell? w2 (Addr.add ⟨w.heap.size, 0, none⟩ 1)) = (some (.int .i64 n3))) ∧
 ∃ (n4 : Int), ((Go.World.cell? w2 (Addr.add ⟨w.heap.size, 0, none⟩ 2)) = (some (.int .i64 n4))) ∧
 bindW (World.drew w0) fun w5 =>
 Go.CW.Spec Tryd.prog 11 #[(.int .i64 n3)] w5 fun v6 w7 =>
 ∃ (s8 : ByteArray), ((v6 : Value) = (.string s8)) ∧
 (∃ (n9 : Int), ((Go.World.cell? w7 (Addr.add ⟨w.heap.size, 0, none⟩ 2)) = (some (.int .i64 n9))) ∧
 ((.int .i64 n9) : Value) = (.int .i64 n4)) ∧
 ((6 + (ByteArray.size s8)) ≤ 9223372036854775807) ∧
 (((ByteArray.size ((ByteArray.mk #[99, 104, 101, 99, 107, 32]) ++ s8)) + 1) ≤ 9223372036854775807) ∧
 Go.CW.Spec Tryd.prog 11 #[(.int .i64 n4)] w7 fun v10 w11 =>
 ∃ (s12 : ByteArray), ((v10 : Value) = (.string s12)) ∧
 (((ByteArray.size (((ByteArray.mk #[99, 104, 101, 99, 107, 32]) ++ s8) ++ (ByteArray.mk #[32]))) + (ByteArray.size s12)) ≤ 9223372036854775807) ∧
 R (.string ((((ByteArray.mk #[99, 104, 101, 99, 107, 32]) ++ s8) ++ (ByteArray.mk #[32])) ++ s12)) w11)
 (∃ (n13 : Int), ((Go.World.cell? w0 (Addr.add ⟨w.heap.size, 0, none⟩ 0)) = (some (.int .i64 n13))) ∧
 Go.CW.Spec Tryd.prog 11 #[(.int .i64 n13)] w0 fun v14 w15 =>
 ∃ (s16 : ByteArray), ((v14 : Value) = (.string s16)) ∧
 ((7 + (ByteArray.size s16)) ≤ 9223372036854775807) ∧
 R (.string ((ByteArray.mk #[115, 116, 97, 116, 117, 115, 32]) ++ s16)) w15))))

theorem sense_Text_wp (p0_0 : Int) (p0_1 : Int) (p0_2 : Int) (p0_3 : Value) (p0_4 : Int) (w : World) (R : KV) (h : sense_Text_F p0_0 p0_1 p0_2 p0_3 p0_4 w R) : Go.CW.Spec Tryd.prog 5 #[(.agg #[(.int .i64 p0_0), (.int .i64 p0_1), (.int .i64 p0_2), p0_3, (.int .i64 p0_4)])] w R :=
  spec_of Tryd.func5 (by kernel_rfl) (show sense_Text_F p0_0 p0_1 p0_2 p0_3 p0_4 w R = _ by kernel_rfl) h

/-- gemel/sense.Encode -/
def sense_Encode_F (p0_0 : Int) (p0_1 : Int) (p0_2 : Int) (p0_3 : Value) (p0_4 : Int) (w : World) (R : KV) : Prop :=
 bindW (World.alloc w (.cells #[(.int .i64 p0_0), (.int .i64 p0_1), (.int .i64 p0_2), p0_3, (.int .i64 p0_4)] 26)) fun w0 =>
 ∃ (v1 : Value) (w2 : World), ((Sem.run @Go.Proofs.Tryd.prog (Go.Instr.makeSlice 24 (.int .i64 (18 : Int)) (.int .i64 (18 : Int))) w0) = (.ok v1 w2)) ∧
 Go.CW.Spec Tryd.prog 12 #[v1] w2 fun v3 w4 =>
 JoinP [.int .u8]
 (fun (n5 : Int) => fun (w6 : World) =>
 bindW (World.alloc w6 (.cells #[(.int .u8 n5)] 5)) fun w7 =>
 Go.CW.callU Tryd.prog v3 #[(.int .i64 (0 : Int)), (.slice (some ⟨w6.heap.size, 0, none⟩) 1 1)] w7 fun v8 w9 =>
 ((v8 : Value) = (.tuple #[])) ∧
 ∃ (n10 : Int), ((Go.World.cell? w9 (Addr.add ⟨w.heap.size, 0, none⟩ 1)) = (some (.int .i64 n10))) ∧
 bindW (World.alloc w9 (.cells #[(.int .u8 (IntKind.wrap .u8 (bitsI .and .i64 n10 (15 : Int))))] 5)) fun w11 =>
 Go.CW.callU Tryd.prog v3 #[(.int .i64 (2 : Int)), (.slice (some ⟨w9.heap.size, 0, none⟩) 1 1)] w11 fun v12 w13 =>
 ((v12 : Value) = (.tuple #[])) ∧
 ∃ (n14 : Int), ((Go.World.cell? w13 (Addr.add ⟨w.heap.size, 0, none⟩ 4)) = (some (.int .i64 n14))) ∧
 Go.CW.Spec Tryd.prog 13 #[(.slice none 0 0), (.int .u64 (IntKind.wrap .u64 n14)), (.int .i64 (4 : Int))] w13 fun v15 w16 =>
 Go.CW.callU Tryd.prog v3 #[(.int .i64 (3 : Int)), v15] w16 fun v17 w18 =>
 ((v17 : Value) = (.tuple #[])) ∧
 bindW (World.alloc w18 (.cells #[(.int .u8 (10 : Int))] 5)) fun w19 =>
 Go.CW.callU Tryd.prog v3 #[(.int .i64 (7 : Int)), (.slice (some ⟨w18.heap.size, 0, none⟩) 1 1)] w19 fun v20 w21 =>
 ((v20 : Value) = (.tuple #[])) ∧
 ∃ (n22 : Int), ((Go.World.cell? w21 (Addr.add ⟨w.heap.size, 0, none⟩ 2)) = (some (.int .i64 n22))) ∧
 Go.CW.Spec Tryd.prog 13 #[(.slice none 0 0), (.int .u64 (IntKind.wrap .u64 n22)), (.int .i64 (2 : Int))] w21 fun v23 w24 =>
 Go.CW.callU Tryd.prog v3 #[(.int .i64 (12 : Int)), v23] w24 fun v25 w26 =>
 ((v25 : Value) = (.tuple #[])) ∧
 R v1 w26)
 (fun j27 =>
 ∃ (n28 : Int), ((Go.World.cell? w4 (Addr.add ⟨w.heap.size, 0, none⟩ 4)) = (some (.int .i64 n28))) ∧
 cond ((IntKind.wrap .u32 n28) != (0 : Int))
 (j27 (240 : Int) w4)
 (j27 (112 : Int) w4))

theorem sense_Encode_wp (p0_0 : Int) (p0_1 : Int) (p0_2 : Int) (p0_3 : Value) (p0_4 : Int) (w : World) (R : KV) (h : sense_Encode_F p0_0 p0_1 p0_2 p0_3 p0_4 w R) : Go.CW.Spec Tryd.prog 6 #[(.agg #[(.int .i64 p0_0), (.int .i64 p0_1), (.int .i64 p0_2), p0_3, (.int .i64 p0_4)])] w R :=
  spec_of Tryd.func6 (by kernel_rfl) (show sense_Encode_F p0_0 p0_1 p0_2 p0_3 p0_4 w R = _ by kernel_rfl) h

/-- gemel/sense.Decode -/
def sense_Decode_F (p0 : Value) (w : World) (R : KV) : Prop :=
 ∃ (m0 : Nat), ((Go.CW.sliceLen p0) = (some m0)) ∧
 cond (decide (((m0 : Nat) : Int) < (18 : Int)))
 (R (.tuple #[(.int .i64 (0 : Int)), (.int .i64 (0 : Int)), (.int .i64 (0 : Int)), (.int .i64 (3 : Int))]) w)
 (JoinP [.bool]
 (fun (b1 : Bool) => fun (w2 : World) =>
 cond b1
 (R (.tuple #[(.int .i64 (0 : Int)), (.int .i64 (0 : Int)), (.int .i64 (0 : Int)), (.int .i64 (2 : Int))]) w2)
 (Go.CW.Spec Tryd.prog 14 #[p0, (.int .i64 (12 : Int)), (.int .i64 (2 : Int))] w2 fun v3 w4 =>
 ∃ (n5 : Int) (b6 : Bool), ((v3 : Value) = (.tuple #[(.int .u64 n5), (.bool b6)])) ∧
 JoinP [.int .i64]
 (fun (n7 : Int) => fun (w8 : World) =>
 ∃ (a9 : Addr), ((Go.CW.sliceAt p0 (2 : Int) 1) = (some a9)) ∧
 ∃ (n10 : Int), ((Go.World.cell? w8 a9) = (some (.int .u8 n10))) ∧
 R (.tuple #[(.int .i64 (IntKind.wrap .i64 (bitsI .and .u8 n10 (15 : Int)))), (.int .i64 (IntKind.wrap .i64 n5)), (.int .i64 n7), (.int .i64 (0 : Int))]) w8)
 (fun j11 =>
 ∃ (a12 : Addr), ((Go.CW.sliceAt p0 (0 : Int) 1) = (some a12)) ∧
 ∃ (n13 : Int), ((Go.World.cell? w4 a12) = (some (.int .u8 n13))) ∧
 cond ((bitsI .and .u8 n13 (128 : Int)) != (0 : Int))
 (Go.CW.Spec Tryd.prog 14 #[p0, (.int .i64 (3 : Int)), (.int .i64 (4 : Int))] w4 fun v14 w15 =>
 ∃ (n16 : Int) (b17 : Bool), ((v14 : Value) = (.tuple #[(.int .u64 n16), (.bool b17)])) ∧
 j11 (IntKind.wrap .i64 n16) w15)
 (j11 (0 : Int) w4))))
 (fun j18 =>
 ∃ (a19 : Addr), ((Go.CW.sliceAt p0 (0 : Int) 1) = (some a19)) ∧
 ∃ (n20 : Int), ((Go.World.cell? w a19) = (some (.int .u8 n20))) ∧
 cond ((bitsI .andNot .u8 n20 (128 : Int)) != (112 : Int))
 (j18 true w)
 (∃ (a21 : Addr), ((Go.CW.sliceAt p0 (7 : Int) 1) = (some a21)) ∧
 ∃ (n22 : Int), ((Go.World.cell? w a21) = (some (.int .u8 n22))) ∧
 j18 (n22 != (10 : Int)) w)))

theorem sense_Decode_wp (p0 : Value) (w : World) (R : KV) (h : sense_Decode_F p0 w R) : Go.CW.Spec Tryd.prog 7 #[p0] w R :=
  spec_of Tryd.func7 (by kernel_rfl) (show sense_Decode_F p0 w R = _ by kernel_rfl) h

/-- gemel/sense.Inquiry -/
def sense_Inquiry_F  (w : World) (R : KV) : Prop :=
 ∃ (v0 : Value) (w1 : World), ((Sem.run @Go.Proofs.Tryd.prog (Go.Instr.makeSlice 24 (.int .i64 (36 : Int)) (.int .i64 (36 : Int))) w) = (.ok v0 w1)) ∧
 Go.CW.Spec Tryd.prog 12 #[v0] w1 fun v2 w3 =>
 bindW (World.alloc w3 (.cells #[(.int .u8 (5 : Int)), (.int .u8 (2 : Int)), (.int .u8 (31 : Int))] 5)) fun w4 =>
 Go.CW.callU Tryd.prog v2 #[(.int .i64 (2 : Int)), (.slice (some ⟨w3.heap.size, 0, none⟩) 3 3)] w4 fun v5 w6 =>
 ((v5 : Value) = (.tuple #[])) ∧
 bindW (World.alloc w6 (.cells #[(.int .u8 (71 : Int)), (.int .u8 (69 : Int)), (.int .u8 (77 : Int)), (.int .u8 (69 : Int)), (.int .u8 (76 : Int)), (.int .u8 (32 : Int)), (.int .u8 (32 : Int)), (.int .u8 (32 : Int)), (.int .u8 (84 : Int)), (.int .u8 (87 : Int)), (.int .u8 (73 : Int)), (.int .u8 (78 : Int)), (.int .u8 (32 : Int)), (.int .u8 (68 : Int)), (.int .u8 (73 : Int)), (.int .u8 (83 : Int)), (.int .u8 (75 : Int)), (.int .u8 (32 : Int)), (.int .u8 (32 : Int)), (.int .u8 (32 : Int)), (.int .u8 (32 : Int)), (.int .u8 (32 : Int)), (.int .u8 (32 : Int)), (.int .u8 (32 : Int)), (.int .u8 (48 : Int)), (.int .u8 (48 : Int)), (.int .u8 (48 : Int)), (.int .u8 (49 : Int))] 5)) fun w7 =>
 ∃ (v8 : Value) (w9 : World), ((Sem.run @Go.Proofs.Tryd.prog (Go.convert 24 24 (.slice (some ⟨w6.heap.size, 0, none⟩) 28 28)) w7) = (.ok v8 w9)) ∧
 Go.CW.callU Tryd.prog v2 #[(.int .i64 (8 : Int)), v8] w9 fun v10 w11 =>
 ((v10 : Value) = (.tuple #[])) ∧
 R v0 w11

theorem sense_Inquiry_wp  (w : World) (R : KV) (h : sense_Inquiry_F  w R) : Go.CW.Spec Tryd.prog 8 #[] w R :=
  spec_of Tryd.func8 (by kernel_rfl) (show sense_Inquiry_F  w R = _ by kernel_rfl) h

/-- gemel/sense.Wrong -/
def sense_Wrong_F (p0 : Int) (p1 : Int) (w : World) (R : KV) : Prop :=
 bindW (World.alloc w (.cells #[(.int .i64 (0 : Int)), (.int .i64 (0 : Int)), (.int .i64 (0 : Int)), (.slice none 0 0), (.int .i64 (0 : Int))] 26)) fun w0 =>
 (StRow w0 ⟨w.heap.size, 0, none⟩ #[(.int .i64 (2 : Int)), (.int .i64 p0), (.int .i64 p1), (.slice none 0 0), (.int .i64 (0 : Int))]) ∧
 bindW (stRow w0 ⟨w.heap.size, 0, none⟩ #[(.int .i64 (2 : Int)), (.int .i64 p0), (.int .i64 p1), (.slice none 0 0), (.int .i64 (0 : Int))]) fun w1 =>
 ∃ (n2 : Int) (n3 : Int) (n4 : Int) (v5 : Value) (n6 : Int), (ldCells w1 ⟨w.heap.size, 0, none⟩ 5 #[(.int .i64 n2), (.int .i64 n3), (.int .i64 n4), v5, (.int .i64 n6)]) ∧
 R (.agg #[(.int .i64 n2), (.int .i64 n3), (.int .i64 n4), v5, (.int .i64 n6)]) w1

theorem sense_Wrong_wp (p0 : Int) (p1 : Int) (w : World) (R : KV) (h : sense_Wrong_F p0 p1 w R) : Go.CW.Spec Tryd.prog 9 #[(.int .i64 p0), (.int .i64 p1)] w R :=
  spec_of Tryd.func9 (by kernel_rfl) (show sense_Wrong_F p0 p1 w R = _ by kernel_rfl) h

/-- gemel/sense.Good -/
def sense_Good_F (p0 : Value) (w : World) (R : KV) : Prop :=
 bindW (World.alloc w (.cells #[(.int .i64 (0 : Int)), (.int .i64 (0 : Int)), (.int .i64 (0 : Int)), (.slice none 0 0), (.int .i64 (0 : Int))] 26)) fun w0 =>
 Go.CW.Spec Tryd.prog 16 #[p0] w0 fun v1 w2 =>
 Go.CW.Spec Tryd.prog 15 #[v1] w2 fun v3 w4 =>
 oneK v3 ((StRow w4 ⟨w.heap.size, 0, none⟩ #[(.int .i64 (0 : Int)), (.int .i64 (0 : Int)), (.int .i64 (0 : Int)), v3, (.int .i64 (0 : Int))]) ∧
 bindW (stRow w4 ⟨w.heap.size, 0, none⟩ #[(.int .i64 (0 : Int)), (.int .i64 (0 : Int)), (.int .i64 (0 : Int)), v3, (.int .i64 (0 : Int))]) fun w5 =>
 ∃ (n6 : Int) (n7 : Int) (n8 : Int) (v9 : Value) (n10 : Int), (ldCells w5 ⟨w.heap.size, 0, none⟩ 5 #[(.int .i64 n6), (.int .i64 n7), (.int .i64 n8), v9, (.int .i64 n10)]) ∧
 R (.agg #[(.int .i64 n6), (.int .i64 n7), (.int .i64 n8), v9, (.int .i64 n10)]) w5)

theorem sense_Good_wp (p0 : Value) (w : World) (R : KV) (h : sense_Good_F p0 w R) : Go.CW.Spec Tryd.prog 10 #[p0] w R :=
  spec_of Tryd.func10 (by kernel_rfl) (show sense_Good_F p0 w R = _ by kernel_rfl) h

/-- gemel/sense.laid -/
def sense_laid_F (p0 : Value) (w : World) (R : KV) : Prop :=
 bindW (World.alloc w (.cells (Value.cells p0) 24)) fun w0 =>
 R (.func (.func 18) #[] #[(.pointer (some ⟨w.heap.size, 0, none⟩))]) w0

theorem sense_laid_wp (p0 : Value) (w : World) (R : KV) (h : sense_laid_F p0 w R) : Go.CW.Spec Tryd.prog 12 #[p0] w R :=
  spec_of Tryd.func12 (by kernel_rfl) (show sense_laid_F p0 w R = _ by kernel_rfl) h

/-- gemel/sense.laid$1 -/
def sense_laid_1_F (p0 : Int) (p1 : Value) (p2 : Value) (w : World) (R : KV) : Prop :=
 withAddr p2 fun a0 =>
 ∃ (v1 : Value), ((Go.World.cell? w a0) = (some v1)) ∧
 ∃ (v2 : Value), ((Go.CW.subSlice v1 1 (some (.int .i64 p0)) none none) = (some v2)) ∧
 ∃ (n3 : Int) (w4 : World), ((Sem.run @Go.Proofs.Tryd.prog (Go.Builtin.copy_ #[24, 24] 3 #[v2, p1]) w) = (.ok (.int .i64 n3) w4)) ∧
 R (.tuple #[]) w4

theorem sense_laid_1_wp (p0 : Int) (p1 : Value) (p2 : Value) (w : World) (R : KV) (h : sense_laid_1_F p0 p1 p2 w R) : Go.CW.Spec Tryd.prog 18 #[(.int .i64 p0), p1, p2] w R :=
  spec_of Tryd.func18 (by kernel_rfl) (show sense_laid_1_F p0 p1 p2 w R = _ by kernel_rfl) h

end Go.Proofs.YtacenidajlncaaaDoor
