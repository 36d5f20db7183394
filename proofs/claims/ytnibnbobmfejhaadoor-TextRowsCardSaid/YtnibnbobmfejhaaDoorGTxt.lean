/- The formulas of some functions, printed by a program (wip/cw/CwGen). -/
import Derived.Test.YtnibnbobmfejhaaDoorNam
set_option linter.unusedVariables false
set_option maxRecDepth 100000
namespace Go.Proofs.YtnibnbobmfejhaaDoor
open Go Go.CW

/-- gemel/gemellaw3.TextNumbers -/
def gemellaw3_TextNumbers_F (p0 : Int) (w : World) (R : KV) : Prop :=
 Go.CW.Spec Tryd.prog 7 #[] w fun v0 w1 =>
 ∃ (b2 : Bool), ((v0 : Value) = (.bool b2)) ∧
 cond (!b2)
 (R (.bool false) w1)
 (JoinP [.bool]
 (fun (b3 : Bool) => fun (w4 : World) =>
 cond b3
 (R (.bool true) w4)
 (Go.CW.Spec Tryd.prog 8 #[(.int .i64 p0)] w4 fun v5 w6 =>
 ∃ (s7 : ByteArray), ((v5 : Value) = (.string s7)) ∧
 Go.CW.Spec Tryd.prog 9 #[(.string s7)] w6 fun v8 w9 =>
 ∃ (n10 : Int) (b11 : Bool), ((v8 : Value) = (.tuple #[(.int .i64 n10), (.bool b11)])) ∧
 JoinP [.bool]
 (fun (b12 : Bool) => fun (w13 : World) =>
 cond b12
 (R (.bool false) w13)
 (JoinP []
 (fun (w14 : World) =>
 ((1 + (ByteArray.size s7)) ≤ 9223372036854775807) ∧
 Go.CW.Spec Tryd.prog 9 #[(.string ((ByteArray.mk #[48]) ++ s7))] w14 fun v15 w16 =>
 ∃ (n17 : Int) (b18 : Bool), ((v15 : Value) = (.tuple #[(.int .i64 n17), (.bool b18)])) ∧
 ((1 + (ByteArray.size s7)) ≤ 9223372036854775807) ∧
 Go.CW.Spec Tryd.prog 9 #[(.string ((ByteArray.mk #[45]) ++ s7))] w16 fun v19 w20 =>
 ∃ (n21 : Int) (b22 : Bool), ((v19 : Value) = (.tuple #[(.int .i64 n21), (.bool b22)])) ∧
 ((1 + (ByteArray.size s7)) ≤ 9223372036854775807) ∧
 Go.CW.Spec Tryd.prog 9 #[(.string ((ByteArray.mk #[32]) ++ s7))] w20 fun v23 w24 =>
 ∃ (n25 : Int) (b26 : Bool), ((v23 : Value) = (.tuple #[(.int .i64 n25), (.bool b26)])) ∧
 JoinP [.bool]
 (fun (b27 : Bool) => fun (w28 : World) =>
 R (.bool b27) w28)
 (fun j29 =>
 cond (!b18)
 (cond (!b22)
 (j29 (!b26) w24)
 (j29 false w24))
 (j29 false w24)))
 (fun j30 =>
 cond (decide (p0 ≤ (268435455 : Int)))
 (LoopP [.str, .str, .int .i64]
 (fun j31 => fun (s32 : ByteArray) => fun (s33 : ByteArray) => fun (n34 : Int) => fun (w35 : World) =>
 ∃ (m36 : Nat) (m37 : Nat) (m38 : Nat), ((Go.CW.boundsOf 16 16 (some (.int .i64 (bitsI .and .i64 n34 (15 : Int)))) (some (.int .i64 (IntKind.wrap .i64 ((bitsI .and .i64 n34 (15 : Int)) + (1 : Int))))) none) = (some (m36, (m37, m38)))) ∧
 (((ByteArray.size (ByteArray.extract (ByteArray.mk #[48, 49, 50, 51, 52, 53, 54, 55, 56, 57, 97, 98, 99, 100, 101, 102]) m36 m37)) + (ByteArray.size s32)) ≤ 9223372036854775807) ∧
 ∃ (m39 : Nat) (m40 : Nat) (m41 : Nat), ((Go.CW.boundsOf 16 16 (some (.int .i64 (bitsI .and .i64 n34 (15 : Int)))) (some (.int .i64 (IntKind.wrap .i64 ((bitsI .and .i64 n34 (15 : Int)) + (1 : Int))))) none) = (some (m39, (m40, m41)))) ∧
 (((ByteArray.size (ByteArray.extract (ByteArray.mk #[48, 49, 50, 51, 52, 53, 54, 55, 56, 57, 65, 66, 67, 68, 69, 70]) m39 m40)) + (ByteArray.size s33)) ≤ 9223372036854775807) ∧
 cond ((Int.fdiv n34 (16 : Int)) == (0 : Int))
 (((2 + (ByteArray.size ((ByteArray.extract (ByteArray.mk #[48, 49, 50, 51, 52, 53, 54, 55, 56, 57, 97, 98, 99, 100, 101, 102]) m36 m37) ++ s32))) ≤ 9223372036854775807) ∧
 Go.CW.Spec Tryd.prog 9 #[(.string ((ByteArray.mk #[48, 120]) ++ ((ByteArray.extract (ByteArray.mk #[48, 49, 50, 51, 52, 53, 54, 55, 56, 57, 97, 98, 99, 100, 101, 102]) m36 m37) ++ s32)))] w35 fun v42 w43 =>
 ∃ (n44 : Int) (b45 : Bool), ((v42 : Value) = (.tuple #[(.int .i64 n44), (.bool b45)])) ∧
 ((2 + (ByteArray.size ((ByteArray.extract (ByteArray.mk #[48, 49, 50, 51, 52, 53, 54, 55, 56, 57, 65, 66, 67, 68, 69, 70]) m39 m40) ++ s33))) ≤ 9223372036854775807) ∧
 Go.CW.Spec Tryd.prog 9 #[(.string ((ByteArray.mk #[48, 120]) ++ ((ByteArray.extract (ByteArray.mk #[48, 49, 50, 51, 52, 53, 54, 55, 56, 57, 65, 66, 67, 68, 69, 70]) m39 m40) ++ s33)))] w43 fun v46 w47 =>
 ∃ (n48 : Int) (b49 : Bool), ((v46 : Value) = (.tuple #[(.int .i64 n48), (.bool b49)])) ∧
 JoinP [.bool]
 (fun (b50 : Bool) => fun (w51 : World) =>
 cond b50
 (R (.bool false) w51)
 (j30 w51))
 (fun j52 =>
 cond (!b45)
 (j52 true w47)
 (cond (!b49)
 (j52 true w47)
 (cond (n44 != p0)
 (j52 true w47)
 (j52 (n48 != p0) w47)))))
 (j31 ((ByteArray.extract (ByteArray.mk #[48, 49, 50, 51, 52, 53, 54, 55, 56, 57, 97, 98, 99, 100, 101, 102]) m36 m37) ++ s32) ((ByteArray.extract (ByteArray.mk #[48, 49, 50, 51, 52, 53, 54, 55, 56, 57, 65, 66, 67, 68, 69, 70]) m39 m40) ++ s33) (Int.fdiv n34 (16 : Int)) w35))
 (fun s53 => s53 (ByteArray.mk #[]) (ByteArray.mk #[]) p0 w13))
 (j30 w13))))
 (fun j54 =>
 cond (!b11)
 (j54 true w9)
 (j54 (n10 != p0) w9))))
 (fun j55 =>
 cond (decide (p0 < (0 : Int)))
 (j55 true w1)
 (j55 (decide (p0 > (999999999 : Int))) w1)))

theorem gemellaw3_TextNumbers_wp (p0 : Int) (w : World) (R : KV) (h : gemellaw3_TextNumbers_F p0 w R) : Go.CW.Spec Tryd.prog 3 #[(.int .i64 p0)] w R :=
  spec_of Tryd.func3 (by kernel_rfl) (show gemellaw3_TextNumbers_F p0 w R = _ by kernel_rfl) h

/-- gemel/gemellaw3.TextChoices -/
def gemellaw3_TextChoices_F (p0 : Value) (p1 : Value) (w : World) (R : KV) : Prop :=
 Go.CW.Spec Tryd.prog 7 #[] w fun v0 w1 =>
 ∃ (b2 : Bool), ((v0 : Value) = (.bool b2)) ∧
 cond (!b2)
 (R (.bool false) w1)
 (JoinP [.bool]
 (fun (b3 : Bool) => fun (w4 : World) =>
 cond b3
 (R (.bool true) w4)
 (Go.CW.Spec Tryd.prog 13 #[p0] w4 fun v5 w6 =>
 ∃ (s7 : ByteArray), ((v5 : Value) = (.string s7)) ∧
 Go.CW.Spec Tryd.prog 13 #[p1] w6 fun v8 w9 =>
 ∃ (s10 : ByteArray), ((v8 : Value) = (.string s10)) ∧
 LoopP [.str, .bool, .int .i64]
 (fun j11 => fun (s12 : ByteArray) => fun (b13 : Bool) => fun (n14 : Int) => fun (w15 : World) =>
 JoinP [.bool]
 (fun (b16 : Bool) => fun (w17 : World) =>
 cond b16
 (LoopP [.str, .bool, .int .i64]
 (fun j18 => fun (s19 : ByteArray) => fun (b20 : Bool) => fun (n21 : Int) => fun (w22 : World) =>
 ∃ (m23 : Nat), ((Go.CW.sliceLen p1) = (some m23)) ∧
 cond (decide (n21 < ((m23 : Nat) : Int)))
 (JoinP [.str, .bool]
 (fun (s24 : ByteArray) => fun (b25 : Bool) => fun (w26 : World) =>
 j18 s24 b25 (IntKind.wrap .i64 (n21 + (1 : Int))) w26)
 (fun j27 =>
 bindW (World.drew w22) fun w28 =>
 ∃ (a29 : Addr), ((Go.CW.sliceAt p0 n14 1) = (some a29)) ∧
 ∃ (n30 : Int), ((Go.World.cell? w28 a29) = (some (.int .u8 n30))) ∧
 ∃ (a31 : Addr), ((Go.CW.sliceAt p1 n21 1) = (some a31)) ∧
 ∃ (n32 : Int), ((Go.World.cell? w28 a31) = (some (.int .u8 n32))) ∧
 bindW (World.drew w22) fun w33 =>
 cond ((Int.tmod n30 (6 : Int)) == (Int.tmod n32 (6 : Int)))
 (∃ (a34 : Addr), ((Go.CW.sliceAt p0 n14 1) = (some a34)) ∧
 ∃ (n35 : Int), ((Go.World.cell? w33 a34) = (some (.int .u8 n35))) ∧
 Go.CW.Spec Tryd.prog 14 #[(.int .u8 n35)] w33 fun v36 w37 =>
 ∃ (s38 : ByteArray), ((v36 : Value) = (.string s38)) ∧
 j27 s38 true w37)
 (j27 s19 b20 w33)))
 (j11 s19 b20 (IntKind.wrap .i64 (n14 + (1 : Int))) w22))
 (fun s39 => s39 s12 b13 (0 : Int) w17))
 (Go.CW.Spec Tryd.prog 15 #[(.string s7), (.string s10)] w17 fun v40 w41 =>
 ∃ (s42 : ByteArray) (b43 : Bool), ((v40 : Value) = (.tuple #[(.string s42), (.bool b43)])) ∧
 JoinP [.bool]
 (fun (b44 : Bool) => fun (w45 : World) =>
 R (.bool b44) w45)
 (fun j46 =>
 cond (ByteArray.toList s42 == ByteArray.toList s12)
 (j46 (b43 == b13) w41)
 (j46 false w41))))
 (fun j47 =>
 ∃ (m48 : Nat), ((Go.CW.sliceLen p0) = (some m48)) ∧
 cond (decide (n14 < ((m48 : Nat) : Int)))
 (j47 (!b13) w15)
 (j47 false w15)))
 (fun s49 => s49 (ByteArray.mk #[]) false (0 : Int) w9)))
 (fun j50 =>
 ∃ (m51 : Nat), ((Go.CW.sliceLen p0) = (some m51)) ∧
 cond (((m51 : Nat) : Int) == (0 : Int))
 (j50 true w1)
 (∃ (m52 : Nat), ((Go.CW.sliceLen p1) = (some m52)) ∧
 cond (((m52 : Nat) : Int) == (0 : Int))
 (j50 true w1)
 (∃ (m53 : Nat), ((Go.CW.sliceLen p0) = (some m53)) ∧
 cond (decide (((m53 : Nat) : Int) > (20 : Int)))
 (j50 true w1)
 (∃ (m54 : Nat), ((Go.CW.sliceLen p1) = (some m54)) ∧
 j50 (decide (((m54 : Nat) : Int) > (20 : Int))) w1)))))

theorem gemellaw3_TextChoices_wp (p0 : Value) (p1 : Value) (w : World) (R : KV) (h : gemellaw3_TextChoices_F p0 p1 w R) : Go.CW.Spec Tryd.prog 5 #[p0, p1] w R :=
  spec_of Tryd.func5 (by kernel_rfl) (show gemellaw3_TextChoices_F p0 p1 w R = _ by kernel_rfl) h

/-- gemel/gemellaw3.TextSides -/
def gemellaw3_TextSides_F (p0 : ByteArray) (p1 : ByteArray) (w : World) (R : KV) : Prop :=
 Go.CW.Spec Tryd.prog 7 #[] w fun v0 w1 =>
 ∃ (b2 : Bool), ((v0 : Value) = (.bool b2)) ∧
 cond (!b2)
 (R (.bool false) w1)
 (JoinP [.bool]
 (fun (b3 : Bool) => fun (w4 : World) =>
 cond b3
 (R (.bool true) w4)
 (Go.CW.Spec Tryd.prog 16 #[(.string p0), (.string p1)] w4 fun v5 w6 =>
 ∃ (s7 : ByteArray) (b8 : Bool), ((v5 : Value) = (.tuple #[(.string s7), (.bool b8)])) ∧
 Go.CW.Spec Tryd.prog 17 #[(.string p0), (.string p1)] w6 fun v9 w10 =>
 ∃ (s11 : ByteArray) (b12 : Bool), ((v9 : Value) = (.tuple #[(.string s11), (.bool b12)])) ∧
 Go.CW.Spec Tryd.prog 16 #[(.string p1), (.string p0)] w10 fun v13 w14 =>
 ∃ (s15 : ByteArray) (b16 : Bool), ((v13 : Value) = (.tuple #[(.string s15), (.bool b16)])) ∧
 JoinP [.bool]
 (fun (b17 : Bool) => fun (w18 : World) =>
 cond b17
 (R (.bool false) w18)
 (JoinP []
 (fun (w19 : World) =>
 Go.CW.Spec Tryd.prog 15 #[(.string p0), (.string p1)] w19 fun v20 w21 =>
 ∃ (s22 : ByteArray) (b23 : Bool), ((v20 : Value) = (.tuple #[(.string s22), (.bool b23)])) ∧
 Go.CW.Spec Tryd.prog 15 #[(.string p1), (.string p0)] w21 fun v24 w25 =>
 ∃ (s26 : ByteArray) (b27 : Bool), ((v24 : Value) = (.tuple #[(.string s26), (.bool b27)])) ∧
 cond (!(b23 == b27))
 (R (.bool false) w25)
 (Go.CW.Spec Tryd.prog 15 #[(.string s22), (.string p0)] w25 fun v28 w29 =>
 ∃ (s30 : ByteArray) (b31 : Bool), ((v28 : Value) = (.tuple #[(.string s30), (.bool b31)])) ∧
 Go.CW.Spec Tryd.prog 15 #[(.string s22), (.string p1)] w29 fun v32 w33 =>
 ∃ (s34 : ByteArray) (b35 : Bool), ((v32 : Value) = (.tuple #[(.string s34), (.bool b35)])) ∧
 JoinP [.bool]
 (fun (b36 : Bool) => fun (w37 : World) =>
 R (.bool b36) w37)
 (fun j38 =>
 cond (!b23)
 (j38 true w33)
 (cond b31
 (cond b35
 (cond (ByteArray.toList s30 == ByteArray.toList s22)
 (j38 (ByteArray.toList s34 == ByteArray.toList s22) w33)
 (j38 false w33))
 (j38 false w33))
 (j38 false w33)))))
 (fun j39 =>
 cond b8
 (Go.CW.Spec Tryd.prog 9 #[(.string p0)] w18 fun v40 w41 =>
 ∃ (n42 : Int) (b43 : Bool), ((v40 : Value) = (.tuple #[(.int .i64 n42), (.bool b43)])) ∧
 Go.CW.Spec Tryd.prog 9 #[(.string p1)] w41 fun v44 w45 =>
 ∃ (n46 : Int) (b47 : Bool), ((v44 : Value) = (.tuple #[(.int .i64 n46), (.bool b47)])) ∧
 Go.CW.Spec Tryd.prog 9 #[(.string s7)] w45 fun v48 w49 =>
 ∃ (n50 : Int) (b51 : Bool), ((v48 : Value) = (.tuple #[(.int .i64 n50), (.bool b51)])) ∧
 Go.CW.Spec Tryd.prog 9 #[(.string s11)] w49 fun v52 w53 =>
 ∃ (n54 : Int) (b55 : Bool), ((v52 : Value) = (.tuple #[(.int .i64 n54), (.bool b55)])) ∧
 JoinP [.bool]
 (fun (b56 : Bool) => fun (w57 : World) =>
 cond b56
 (R (.bool false) w57)
 (j39 w57))
 (fun j58 =>
 cond (decide (n50 > n54))
 (j58 true w53)
 (j58 ((IntKind.wrap .i64 (n50 + n54)) != (IntKind.wrap .i64 (n42 + n46))) w53)))
 (j39 w18))))
 (fun j59 =>
 cond (!(b8 == b12))
 (j59 true w14)
 (cond (!(ByteArray.toList s7 == ByteArray.toList s15))
 (j59 true w14)
 (j59 (!(b8 == b16)) w14)))))
 (fun j60 =>
 cond (decide ((((ByteArray.size p0) : Nat) : Int) > (400 : Int)))
 (j60 true w1)
 (j60 (decide ((((ByteArray.size p1) : Nat) : Int) > (400 : Int))) w1)))

theorem gemellaw3_TextSides_wp (p0 : ByteArray) (p1 : ByteArray) (w : World) (R : KV) (h : gemellaw3_TextSides_F p0 p1 w R) : Go.CW.Spec Tryd.prog 6 #[(.string p0), (.string p1)] w R :=
  spec_of Tryd.func6 (by kernel_rfl) (show gemellaw3_TextSides_F p0 p1 w R = _ by kernel_rfl) h

/-- gemel/gemellaw3.known -/
def gemellaw3_known_F  (w : World) (R : KV) : Prop :=
 bindW (World.alloc w (.cells #[(.string (ByteArray.mk #[65])), (.string (ByteArray.mk #[49]))] 31)) fun w0 =>
 Go.CW.Spec Tryd.prog 10 #[(.slice (some ⟨w.heap.size, 0, none⟩) 1 1)] w0 fun v1 w2 =>
 ∃ (v3 : Value) (n4 : Int), ((v1 : Value) = (.tuple #[v3, (.int .i64 n4)])) ∧
 Go.CW.Spec Tryd.prog 11 #[v3] w2 fun v5 w6 =>
 ∃ (v7 : Value) (n8 : Int), ((v5 : Value) = (.tuple #[v7, (.int .i64 n8)])) ∧
 Go.CW.Spec Tryd.prog 9 #[(.string (ByteArray.mk #[48, 120, 49, 70]))] w6 fun v9 w10 =>
 ∃ (n11 : Int) (b12 : Bool), ((v9 : Value) = (.tuple #[(.int .i64 n11), (.bool b12)])) ∧
 Go.CW.Spec Tryd.prog 16 #[(.string (ByteArray.mk #[49, 50])), (.string (ByteArray.mk #[48, 120, 48, 98]))] w10 fun v13 w14 =>
 ∃ (s15 : ByteArray) (b16 : Bool), ((v13 : Value) = (.tuple #[(.string s15), (.bool b16)])) ∧
 JoinP [.bool]
 (fun (b17 : Bool) => fun (w18 : World) =>
 R (.bool b17) w18)
 (fun j19 =>
 cond ((IntKind.wrap .i64 (n4 + n8)) == (0 : Int))
 (∃ (m20 : Nat), ((Go.CW.sliceLen v7) = (some m20)) ∧
 cond (((m20 : Nat) : Int) == (1 : Int))
 (∃ (a21 : Addr), ((Go.CW.sliceAt v7 (0 : Int) 2) = (some a21)) ∧
 ∃ (s22 : ByteArray), ((Go.World.cell? w14 (Addr.add a21 1)) = (some (.string s22))) ∧
 cond (ByteArray.toList s22 == ByteArray.toList (ByteArray.mk #[49]))
 (cond b12
 (cond (n11 == (31 : Int))
 (cond b16
 (cond (ByteArray.toList s15 == ByteArray.toList (ByteArray.mk #[49, 49]))
 (Go.CW.Spec Tryd.prog 18 #[(.string (ByteArray.mk #[105, 113, 110, 46, 97, 58, 98]))] w14 fun v23 w24 =>
 ∃ (b25 : Bool), ((v23 : Value) = (.bool b25)) ∧
 j19 b25 w24)
 (j19 false w14))
 (j19 false w14))
 (j19 false w14))
 (j19 false w14))
 (j19 false w14))
 (j19 false w14))
 (j19 false w14))

theorem gemellaw3_known_wp  (w : World) (R : KV) (h : gemellaw3_known_F  w R) : Go.CW.Spec Tryd.prog 7 #[] w R :=
  spec_of Tryd.func7 (by kernel_rfl) (show gemellaw3_known_F  w R = _ by kernel_rfl) h

/-- gemel/gemellaw3.decimal -/
def gemellaw3_decimal_F (p0 : Int) (w : World) (R : KV) : Prop :=
 bindW (World.alloc w (.cells #[(.int .u8 (IntKind.wrap .u8 (IntKind.wrap .i64 ((48 : Int) + (Int.tmod p0 (10 : Int))))))] 5)) fun w0 =>
 ∃ (s1 : ByteArray), ((Sem.run @Go.Proofs.Tryd.prog (Go.convert 32 9 (.slice (some ⟨w.heap.size, 0, none⟩) 1 1)) w0) = (.ok (.string s1) w0)) ∧
 LoopP [.int .i64, .str]
 (fun j2 => fun (n3 : Int) => fun (s4 : ByteArray) => fun (w5 : World) =>
 cond (decide (n3 ≥ (10 : Int)))
 (bindW (World.alloc w5 (.cells #[(.int .u8 (IntKind.wrap .u8 (IntKind.wrap .i64 ((48 : Int) + (Int.tmod (IntKind.wrap .i64 (Int.tdiv n3 (10 : Int))) (10 : Int))))))] 5)) fun w6 =>
 ∃ (s7 : ByteArray), ((Sem.run @Go.Proofs.Tryd.prog (Go.convert 32 9 (.slice (some ⟨w5.heap.size, 0, none⟩) 1 1)) w6) = (.ok (.string s7) w6)) ∧
 (((ByteArray.size s7) + (ByteArray.size s4)) ≤ 9223372036854775807) ∧
 j2 (IntKind.wrap .i64 (Int.tdiv n3 (10 : Int))) (s7 ++ s4) w6)
 (R (.string s4) w5))
 (fun s8 => s8 p0 s1 w0)

theorem gemellaw3_decimal_wp (p0 : Int) (w : World) (R : KV) (h : gemellaw3_decimal_F p0 w R) : Go.CW.Spec Tryd.prog 8 #[(.int .i64 p0)] w R :=
  spec_of Tryd.func8 (by kernel_rfl) (show gemellaw3_decimal_F p0 w R = _ by kernel_rfl) h

/-- gemel/text.Number -/
def text_Number_F (p0 : ByteArray) (w : World) (R : KV) : Prop :=
 bindW (World.alloc w (.cells #[(.int .i64 (0 : Int))] 3)) fun w0 =>
 (St1 w0 ⟨w.heap.size, 0, none⟩) ∧
 bindW (World.setCell w0 ⟨w.heap.size, 0, none⟩ (.int .i64 (10 : Int))) fun w1 =>
 JoinP [.str, .int .i64]
 (fun (s2 : ByteArray) => fun (n3 : Int) => fun (w4 : World) =>
 JoinP [.bool]
 (fun (b5 : Bool) => fun (w6 : World) =>
 cond b5
 (R (.tuple #[(.int .i64 (0 : Int)), (.bool false)]) w6)
 (∃ (n7 : Int), ((Go.World.cell? w6 ⟨w.heap.size, 0, none⟩) = (some (.int .i64 n7))) ∧
 Go.CW.Spec Tryd.prog 23 #[(.string s2), (.int .i64 n7), (.int .i64 (64 : Int))] w6 fun v8 w9 =>
 ∃ (n10 : Int) (v11 : Value), ((v8 : Value) = (.tuple #[(.int .i64 n10), v11])) ∧
 R (.tuple #[(.int .i64 n10), (.bool true)]) w9))
 (fun j12 =>
 cond (ByteArray.toList s2 == ByteArray.toList (ByteArray.mk #[]))
 (j12 true w4)
 (cond (decide ((((ByteArray.size s2) : Nat) : Int) > n3))
 (j12 true w4)
 (Go.CW.Spec Tryd.prog 22 #[(.string s2), (.func (.func 20) #[] #[(.pointer (some ⟨w.heap.size, 0, none⟩))])] w4 fun v13 w14 =>
 ∃ (b15 : Bool), ((v13 : Value) = (.bool b15)) ∧
 j12 (!b15) w14))))
 (fun j16 =>
 Go.CW.Spec Tryd.prog 19 #[(.string p0), (.string (ByteArray.mk #[48, 120]))] w1 fun v17 w18 =>
 ∃ (s19 : ByteArray) (b20 : Bool), ((v17 : Value) = (.tuple #[(.string s19), (.bool b20)])) ∧
 cond b20
 ((St1 w18 ⟨w.heap.size, 0, none⟩) ∧
 bindW (World.setCell w18 ⟨w.heap.size, 0, none⟩ (.int .i64 (16 : Int))) fun w21 =>
 j16 s19 (7 : Int) w21)
 (JoinP [.bool]
 (fun (b22 : Bool) => fun (w23 : World) =>
 cond b22
 (R (.tuple #[(.int .i64 (0 : Int)), (.bool false)]) w23)
 (j16 p0 (9 : Int) w23))
 (fun j24 =>
 cond (decide ((((ByteArray.size p0) : Nat) : Int) > (1 : Int)))
 ((inR (0 : Int) (ByteArray.size p0)) ∧
 j24 ((((UInt8.toNat (@ByteArray.get! p0 (@Int.toNat (@OfNat.ofNat @Int 0 (@instOfNat 0))))) : Nat) : Int) == (48 : Int)) w18)
 (j24 false w18))))

theorem text_Number_wp (p0 : ByteArray) (w : World) (R : KV) (h : text_Number_F p0 w R) : Go.CW.Spec Tryd.prog 9 #[(.string p0)] w R :=
  spec_of Tryd.func9 (by kernel_rfl) (show text_Number_F p0 w R = _ by kernel_rfl) h

/-- gemel/gemellaw3.list -/
def gemellaw3_list_F (p0 : Value) (w : World) (R : KV) : Prop :=
 LoopP [.str, .int .i64]
 (fun j0 => fun (s1 : ByteArray) => fun (n2 : Int) => fun (w3 : World) =>
 ∃ (m4 : Nat), ((Go.CW.sliceLen p0) = (some m4)) ∧
 cond (decide (n2 < ((m4 : Nat) : Int)))
 (JoinP [.str]
 (fun (s5 : ByteArray) => fun (w6 : World) =>
 ∃ (a7 : Addr), ((Go.CW.sliceAt p0 n2 1) = (some a7)) ∧
 ∃ (n8 : Int), ((Go.World.cell? w6 a7) = (some (.int .u8 n8))) ∧
 Go.CW.Spec Tryd.prog 14 #[(.int .u8 n8)] w6 fun v9 w10 =>
 ∃ (s11 : ByteArray), ((v9 : Value) = (.string s11)) ∧
 (((ByteArray.size s5) + (ByteArray.size s11)) ≤ 9223372036854775807) ∧
 j0 (s5 ++ s11) (IntKind.wrap .i64 (n2 + (1 : Int))) w10)
 (fun j12 =>
 cond (decide (n2 > (0 : Int)))
 ((((ByteArray.size s1) + 1) ≤ 9223372036854775807) ∧
 j12 (s1 ++ (ByteArray.mk #[44])) w3)
 (j12 s1 w3)))
 (R (.string s1) w3))
 (fun s13 => s13 (ByteArray.mk #[]) (0 : Int) w)

theorem gemellaw3_list_wp (p0 : Value) (w : World) (R : KV) (h : gemellaw3_list_F p0 w R) : Go.CW.Spec Tryd.prog 13 #[p0] w R :=
  spec_of Tryd.func13 (by kernel_rfl) (show gemellaw3_list_F p0 w R = _ by kernel_rfl) h

/-- gemel/gemellaw3.letter -/
def gemellaw3_letter_F (p0 : Int) (w : World) (R : KV) : Prop :=
 bindW (World.alloc w (.cells #[(.int .u8 (IntKind.wrap .u8 ((97 : Int) + (Int.tmod p0 (6 : Int)))))] 5)) fun w0 =>
 ∃ (s1 : ByteArray), ((Sem.run @Go.Proofs.Tryd.prog (Go.convert 32 9 (.slice (some ⟨w.heap.size, 0, none⟩) 1 1)) w0) = (.ok (.string s1) w0)) ∧
 R (.string s1) w0

theorem gemellaw3_letter_wp (p0 : Int) (w : World) (R : KV) (h : gemellaw3_letter_F p0 w R) : Go.CW.Spec Tryd.prog 14 #[(.int .u8 p0)] w R :=
  spec_of Tryd.func14 (by kernel_rfl) (show gemellaw3_letter_F p0 w R = _ by kernel_rfl) h

/-- gemel/text.Choose -/
def text_Choose_F (p0 : ByteArray) (p1 : ByteArray) (w : World) (R : KV) : Prop :=
 Go.CW.Spec Tryd.prog 28 #[(.string p1), (.string (ByteArray.mk #[44]))] w fun v0 w1 =>
 Go.CW.Spec Tryd.prog 28 #[(.string p0), (.string (ByteArray.mk #[44]))] w1 fun v2 w3 =>
 ∃ (m4 : Nat), ((Go.CW.sliceLen v2) = (some m4)) ∧
 LoopP [.int .i64]
 (fun j5 => fun (n6 : Int) => fun (w7 : World) =>
 cond (decide (n6 < ((m4 : Nat) : Int)))
 (∃ (a8 : Addr), ((Go.CW.sliceAt v2 n6 1) = (some a8)) ∧
 ∃ (s9 : ByteArray), ((Go.World.cell? w7 a8) = (some (.string s9))) ∧
 Go.CW.Spec Tryd.prog 29 #[v0, (.string s9)] w7 fun v10 w11 =>
 ∃ (b12 : Bool), ((v10 : Value) = (.bool b12)) ∧
 cond b12
 (R (.tuple #[(.string s9), (.bool true)]) w11)
 (j5 (IntKind.wrap .i64 (n6 + (1 : Int))) w11))
 (R (.tuple #[(.string (ByteArray.mk #[])), (.bool false)]) w7))
 (fun s13 => s13 (0 : Int) w3)

theorem text_Choose_wp (p0 : ByteArray) (p1 : ByteArray) (w : World) (R : KV) (h : text_Choose_F p0 p1 w R) : Go.CW.Spec Tryd.prog 15 #[(.string p0), (.string p1)] w R :=
  spec_of Tryd.func15 (by kernel_rfl) (show text_Choose_F p0 p1 w R = _ by kernel_rfl) h

/-- gemel/text.Lesser -/
def text_Lesser_F (p0 : ByteArray) (p1 : ByteArray) (w : World) (R : KV) : Prop :=
 Go.CW.Spec Tryd.prog 30 #[(.string p0), (.string p1), (.func (.func 31) #[] #[])] w fun v0 w1 =>
 ∃ (s2 : ByteArray) (b3 : Bool), ((v0 : Value) = (.tuple #[(.string s2), (.bool b3)])) ∧
 R (.tuple #[(.string s2), (.bool b3)]) w1

theorem text_Lesser_wp (p0 : ByteArray) (p1 : ByteArray) (w : World) (R : KV) (h : text_Lesser_F p0 p1 w R) : Go.CW.Spec Tryd.prog 16 #[(.string p0), (.string p1)] w R :=
  spec_of Tryd.func16 (by kernel_rfl) (show text_Lesser_F p0 p1 w R = _ by kernel_rfl) h

/-- gemel/text.Greater -/
def text_Greater_F (p0 : ByteArray) (p1 : ByteArray) (w : World) (R : KV) : Prop :=
 Go.CW.Spec Tryd.prog 30 #[(.string p0), (.string p1), (.func (.func 32) #[] #[])] w fun v0 w1 =>
 ∃ (s2 : ByteArray) (b3 : Bool), ((v0 : Value) = (.tuple #[(.string s2), (.bool b3)])) ∧
 R (.tuple #[(.string s2), (.bool b3)]) w1

theorem text_Greater_wp (p0 : ByteArray) (p1 : ByteArray) (w : World) (R : KV) (h : text_Greater_F p0 p1 w R) : Go.CW.Spec Tryd.prog 17 #[(.string p0), (.string p1)] w R :=
  spec_of Tryd.func17 (by kernel_rfl) (show text_Greater_F p0 p1 w R = _ by kernel_rfl) h

/-- gemel/text.Name -/
def text_Name_F (p0 : ByteArray) (w : World) (R : KV) : Prop :=
 Go.CW.Spec Tryd.prog 19 #[(.string p0), (.string (ByteArray.mk #[105, 113, 110, 46]))] w fun v0 w1 =>
 ∃ (s2 : ByteArray) (b3 : Bool), ((v0 : Value) = (.tuple #[(.string s2), (.bool b3)])) ∧
 JoinP [.bool]
 (fun (b4 : Bool) => fun (w5 : World) =>
 R (.bool b4) w5)
 (fun j6 =>
 cond b3
 (cond (!(ByteArray.toList s2 == ByteArray.toList (ByteArray.mk #[])))
 (cond (decide ((((ByteArray.size s2) : Nat) : Int) ≤ (219 : Int)))
 (Go.CW.Spec Tryd.prog 22 #[(.string s2), (.func (.func 33) #[] #[])] w1 fun v7 w8 =>
 ∃ (b9 : Bool), ((v7 : Value) = (.bool b9)) ∧
 j6 b9 w8)
 (j6 false w1))
 (j6 false w1))
 (j6 false w1))

theorem text_Name_wp (p0 : ByteArray) (w : World) (R : KV) (h : text_Name_F p0 w R) : Go.CW.Spec Tryd.prog 18 #[(.string p0)] w R :=
  spec_of Tryd.func18 (by kernel_rfl) (show text_Name_F p0 w R = _ by kernel_rfl) h

/-- strings.CutPrefix -/
def strings_CutPrefix_F (p0 : ByteArray) (p1 : ByteArray) (w : World) (R : KV) : Prop :=
 Go.CW.Spec Tryd.prog 34 #[(.string p0), (.string p1)] w fun v0 w1 =>
 ∃ (s2 : ByteArray) (b3 : Bool), ((v0 : Value) = (.tuple #[(.string s2), (.bool b3)])) ∧
 R (.tuple #[(.string s2), (.bool b3)]) w1

theorem strings_CutPrefix_wp (p0 : ByteArray) (p1 : ByteArray) (w : World) (R : KV) (h : strings_CutPrefix_F p0 p1 w R) : Go.CW.Spec Tryd.prog 19 #[(.string p0), (.string p1)] w R :=
  spec_of Tryd.func19 (by kernel_rfl) (show strings_CutPrefix_F p0 p1 w R = _ by kernel_rfl) h

/-- gemel/text.Number$1 -/
def text_Number_1_F (p0 : Int) (p1 : Value) (w : World) (R : KV) : Prop :=
 JoinP [.bool]
 (fun (b0 : Bool) => fun (w1 : World) =>
 R (.bool b0) w1)
 (fun j2 =>
 Go.CW.Spec Tryd.prog 21 #[(.int .u8 p0), (.int .u8 (48 : Int)), (.int .u8 (57 : Int))] w fun v3 w4 =>
 ∃ (b5 : Bool), ((v3 : Value) = (.bool b5)) ∧
 cond b5
 (j2 true w4)
 (withAddr p1 fun a6 =>
 ∃ (n7 : Int), ((Go.World.cell? w4 a6) = (some (.int .i64 n7))) ∧
 cond (n7 == (16 : Int))
 (Go.CW.Spec Tryd.prog 21 #[(.int .u8 p0), (.int .u8 (97 : Int)), (.int .u8 (102 : Int))] w4 fun v8 w9 =>
 ∃ (b10 : Bool), ((v8 : Value) = (.bool b10)) ∧
 cond b10
 (j2 true w9)
 (Go.CW.Spec Tryd.prog 21 #[(.int .u8 p0), (.int .u8 (65 : Int)), (.int .u8 (70 : Int))] w9 fun v11 w12 =>
 ∃ (b13 : Bool), ((v11 : Value) = (.bool b13)) ∧
 j2 b13 w12))
 (j2 false w4)))

theorem text_Number_1_wp (p0 : Int) (p1 : Value) (w : World) (R : KV) (h : text_Number_1_F p0 p1 w R) : Go.CW.Spec Tryd.prog 20 #[(.int .u8 p0), p1] w R :=
  spec_of Tryd.func20 (by kernel_rfl) (show text_Number_1_F p0 p1 w R = _ by kernel_rfl) h

/-- gemel/text.inside -/
def text_inside_F (p0 : Int) (p1 : Int) (p2 : Int) (w : World) (R : KV) : Prop :=
 JoinP [.bool]
 (fun (b0 : Bool) => fun (w1 : World) =>
 R (.bool b0) w1)
 (fun j2 =>
 cond (decide (p0 ≥ p1))
 (j2 (decide (p0 ≤ p2)) w)
 (j2 false w))

theorem text_inside_wp (p0 : Int) (p1 : Int) (p2 : Int) (w : World) (R : KV) (h : text_inside_F p0 p1 p2 w R) : Go.CW.Spec Tryd.prog 21 #[(.int .u8 p0), (.int .u8 p1), (.int .u8 p2)] w R :=
  spec_of Tryd.func21 (by kernel_rfl) (show text_inside_F p0 p1 p2 w R = _ by kernel_rfl) h

/-- gemel/text.of -/
def text_of_F (p0 : ByteArray) (p1 : Value) (w : World) (R : KV) : Prop :=
 LoopP [.int .i64]
 (fun j0 => fun (n1 : Int) => fun (w2 : World) =>
 cond (decide (n1 < (((ByteArray.size p0) : Nat) : Int)))
 ((inR n1 (ByteArray.size p0)) ∧
 Go.CW.callU Tryd.prog p1 #[(.int .u8 (((UInt8.toNat (@ByteArray.get! p0 (@Int.toNat n1))) : Nat) : Int))] w2 fun v3 w4 =>
 ∃ (b5 : Bool), ((v3 : Value) = (.bool b5)) ∧
 cond (!b5)
 (R (.bool false) w4)
 (j0 (IntKind.wrap .i64 (n1 + (1 : Int))) w4))
 (R (.bool true) w2))
 (fun s6 => s6 (0 : Int) w)

theorem text_of_wp (p0 : ByteArray) (p1 : Value) (w : World) (R : KV) (h : text_of_F p0 p1 w R) : Go.CW.Spec Tryd.prog 22 #[(.string p0), p1] w R :=
  spec_of Tryd.func22 (by kernel_rfl) (show text_of_F p0 p1 w R = _ by kernel_rfl) h

/-- strings.Cut -/
def strings_Cut_F (p0 : ByteArray) (p1 : ByteArray) (w : World) (R : KV) : Prop :=
 Go.CW.Spec Tryd.prog 39 #[(.string p0), (.string p1)] w fun v0 w1 =>
 ∃ (s2 : ByteArray) (s3 : ByteArray) (b4 : Bool), ((v0 : Value) = (.tuple #[(.string s2), (.string s3), (.bool b4)])) ∧
 R (.tuple #[(.string s2), (.string s3), (.bool b4)]) w1

theorem strings_Cut_wp (p0 : ByteArray) (p1 : ByteArray) (w : World) (R : KV) (h : strings_Cut_F p0 p1 w R) : Go.CW.Spec Tryd.prog 26 #[(.string p0), (.string p1)] w R :=
  spec_of Tryd.func26 (by kernel_rfl) (show strings_Cut_F p0 p1 w R = _ by kernel_rfl) h

/-- strings.Split -/
def strings_Split_F (p0 : ByteArray) (p1 : ByteArray) (w : World) (R : KV) : Prop :=
 Go.CW.Spec Tryd.prog 40 #[(.string p0), (.string p1), (.int .i64 (0 : Int)), (.int .i64 (-1 : Int))] w fun v0 w1 =>
 R v0 w1

theorem strings_Split_wp (p0 : ByteArray) (p1 : ByteArray) (w : World) (R : KV) (h : strings_Split_F p0 p1 w R) : Go.CW.Spec Tryd.prog 28 #[(.string p0), (.string p1)] w R :=
  spec_of Tryd.func28 (by kernel_rfl) (show strings_Split_F p0 p1 w R = _ by kernel_rfl) h

/-- slices.Contains[[]string,string] -/
def slices_Contains_29_F (p0 : Value) (p1 : ByteArray) (w : World) (R : KV) : Prop :=
 Go.CW.Spec Tryd.prog 41 #[p0, (.string p1)] w fun v0 w1 =>
 ∃ (n2 : Int), ((v0 : Value) = (.int .i64 n2)) ∧
 R (.bool (decide (n2 ≥ (0 : Int)))) w1

theorem slices_Contains_29_wp (p0 : Value) (p1 : ByteArray) (w : World) (R : KV) (h : slices_Contains_29_F p0 p1 w R) : Go.CW.Spec Tryd.prog 29 #[p0, (.string p1)] w R :=
  spec_of Tryd.func29 (by kernel_rfl) (show slices_Contains_29_F p0 p1 w R = _ by kernel_rfl) h

/-- gemel/text.numbers -/
def text_numbers_F (p0 : ByteArray) (p1 : ByteArray) (p2 : Value) (w : World) (R : KV) : Prop :=
 Go.CW.Spec Tryd.prog 9 #[(.string p0)] w fun v0 w1 =>
 ∃ (n2 : Int) (b3 : Bool), ((v0 : Value) = (.tuple #[(.int .i64 n2), (.bool b3)])) ∧
 Go.CW.Spec Tryd.prog 9 #[(.string p1)] w1 fun v4 w5 =>
 ∃ (n6 : Int) (b7 : Bool), ((v4 : Value) = (.tuple #[(.int .i64 n6), (.bool b7)])) ∧
 JoinP [.bool]
 (fun (b8 : Bool) => fun (w9 : World) =>
 cond b8
 (R (.tuple #[(.string (ByteArray.mk #[])), (.bool false)]) w9)
 (Go.CW.callU Tryd.prog p2 #[(.int .i64 n2), (.int .i64 n6)] w9 fun v10 w11 =>
 ∃ (n12 : Int), ((v10 : Value) = (.int .i64 n12)) ∧
 Go.CW.Spec Tryd.prog 42 #[(.int .i64 n12)] w11 fun v13 w14 =>
 ∃ (s15 : ByteArray), ((v13 : Value) = (.string s15)) ∧
 R (.tuple #[(.string s15), (.bool true)]) w14))
 (fun j16 =>
 cond (!b3)
 (j16 true w5)
 (j16 (!b7) w5))

theorem text_numbers_wp (p0 : ByteArray) (p1 : ByteArray) (p2 : Value) (w : World) (R : KV) (h : text_numbers_F p0 p1 p2 w R) : Go.CW.Spec Tryd.prog 30 #[(.string p0), (.string p1), p2] w R :=
  spec_of Tryd.func30 (by kernel_rfl) (show text_numbers_F p0 p1 p2 w R = _ by kernel_rfl) h

/-- gemel/text.Lesser$1 -/
def text_Lesser_1_F (p0 : Int) (p1 : Int) (w : World) (R : KV) : Prop :=
 R (.int .i64 (if p1 < p0 then p1 else p0)) w

theorem text_Lesser_1_wp (p0 : Int) (p1 : Int) (w : World) (R : KV) (h : text_Lesser_1_F p0 p1 w R) : Go.CW.Spec Tryd.prog 31 #[(.int .i64 p0), (.int .i64 p1)] w R :=
  spec_of Tryd.func31 (by kernel_rfl) (show text_Lesser_1_F p0 p1 w R = _ by kernel_rfl) h

/-- gemel/text.Greater$1 -/
def text_Greater_1_F (p0 : Int) (p1 : Int) (w : World) (R : KV) : Prop :=
 R (.int .i64 (if p0 < p1 then p1 else p0)) w

theorem text_Greater_1_wp (p0 : Int) (p1 : Int) (w : World) (R : KV) (h : text_Greater_1_F p0 p1 w R) : Go.CW.Spec Tryd.prog 32 #[(.int .i64 p0), (.int .i64 p1)] w R :=
  spec_of Tryd.func32 (by kernel_rfl) (show text_Greater_1_F p0 p1 w R = _ by kernel_rfl) h

/-- gemel/text.Name$1 -/
def text_Name_1_F (p0 : Int) (w : World) (R : KV) : Prop :=
 JoinP [.bool]
 (fun (b0 : Bool) => fun (w1 : World) =>
 R (.bool b0) w1)
 (fun j2 =>
 Go.CW.Spec Tryd.prog 21 #[(.int .u8 p0), (.int .u8 (97 : Int)), (.int .u8 (122 : Int))] w fun v3 w4 =>
 ∃ (b5 : Bool), ((v3 : Value) = (.bool b5)) ∧
 cond b5
 (j2 true w4)
 (Go.CW.Spec Tryd.prog 21 #[(.int .u8 p0), (.int .u8 (48 : Int)), (.int .u8 (57 : Int))] w4 fun v6 w7 =>
 ∃ (b8 : Bool), ((v6 : Value) = (.bool b8)) ∧
 cond b8
 (j2 true w7)
 (cond (p0 == (46 : Int))
 (j2 true w7)
 (cond (p0 == (45 : Int))
 (j2 true w7)
 (j2 (p0 == (58 : Int)) w7)))))

theorem text_Name_1_wp (p0 : Int) (w : World) (R : KV) (h : text_Name_1_F p0 w R) : Go.CW.Spec Tryd.prog 33 #[(.int .u8 p0)] w R :=
  spec_of Tryd.func33 (by kernel_rfl) (show text_Name_1_F p0 w R = _ by kernel_rfl) h

/-- internal/stringslite.CutPrefix -/
def stringslite_CutPrefix_F (p0 : ByteArray) (p1 : ByteArray) (w : World) (R : KV) : Prop :=
 Go.CW.Spec Tryd.prog 43 #[(.string p0), (.string p1)] w fun v0 w1 =>
 ∃ (b2 : Bool), ((v0 : Value) = (.bool b2)) ∧
 cond (!b2)
 (R (.tuple #[(.string p0), (.bool false)]) w1)
 (∃ (m3 : Nat) (m4 : Nat) (m5 : Nat), ((Go.CW.boundsOf (ByteArray.size p0) (ByteArray.size p0) (some (.int .i64 (((ByteArray.size p1) : Nat) : Int))) none none) = (some (m3, (m4, m5)))) ∧
 R (.tuple #[(.string (ByteArray.extract p0 m3 m4)), (.bool true)]) w1)

theorem stringslite_CutPrefix_wp (p0 : ByteArray) (p1 : ByteArray) (w : World) (R : KV) (h : stringslite_CutPrefix_F p0 p1 w R) : Go.CW.Spec Tryd.prog 34 #[(.string p0), (.string p1)] w R :=
  spec_of Tryd.func34 (by kernel_rfl) (show stringslite_CutPrefix_F p0 p1 w R = _ by kernel_rfl) h

/-- slices.Index[[]string,string] -/
def slices_Index_41_F (p0 : Value) (p1 : ByteArray) (w : World) (R : KV) : Prop :=
 ∃ (m0 : Nat), ((Go.CW.sliceLen p0) = (some m0)) ∧
 LoopP [.int .i64]
 (fun j1 => fun (n2 : Int) => fun (w3 : World) =>
 cond (decide (n2 < ((m0 : Nat) : Int)))
 (∃ (a4 : Addr), ((Go.CW.sliceAt p0 n2 1) = (some a4)) ∧
 ∃ (s5 : ByteArray), ((Go.World.cell? w3 a4) = (some (.string s5))) ∧
 cond (ByteArray.toList p1 == ByteArray.toList s5)
 (R (.int .i64 n2) w3)
 (j1 (IntKind.wrap .i64 (n2 + (1 : Int))) w3))
 (R (.int .i64 (-1 : Int)) w3))
 (fun s6 => s6 (0 : Int) w)

theorem slices_Index_41_wp (p0 : Value) (p1 : ByteArray) (w : World) (R : KV) (h : slices_Index_41_F p0 p1 w R) : Go.CW.Spec Tryd.prog 41 #[p0, (.string p1)] w R :=
  spec_of Tryd.func41 (by kernel_rfl) (show slices_Index_41_F p0 p1 w R = _ by kernel_rfl) h

/-- internal/stringslite.HasPrefix -/
def stringslite_HasPrefix_F (p0 : ByteArray) (p1 : ByteArray) (w : World) (R : KV) : Prop :=
 JoinP [.bool]
 (fun (b0 : Bool) => fun (w1 : World) =>
 R (.bool b0) w1)
 (fun j2 =>
 cond (decide ((((ByteArray.size p0) : Nat) : Int) ≥ (((ByteArray.size p1) : Nat) : Int)))
 (∃ (m3 : Nat) (m4 : Nat) (m5 : Nat), ((Go.CW.boundsOf (ByteArray.size p0) (ByteArray.size p0) none (some (.int .i64 (((ByteArray.size p1) : Nat) : Int))) none) = (some (m3, (m4, m5)))) ∧
 j2 (ByteArray.toList (ByteArray.extract p0 m3 m4) == ByteArray.toList p1) w)
 (j2 false w))

theorem stringslite_HasPrefix_wp (p0 : ByteArray) (p1 : ByteArray) (w : World) (R : KV) (h : stringslite_HasPrefix_F p0 p1 w R) : Go.CW.Spec Tryd.prog 43 #[(.string p0), (.string p1)] w R :=
  spec_of Tryd.func43 (by kernel_rfl) (show stringslite_HasPrefix_F p0 p1 w R = _ by kernel_rfl) h

end Go.Proofs.YtnibnbobmfejhaaDoor
