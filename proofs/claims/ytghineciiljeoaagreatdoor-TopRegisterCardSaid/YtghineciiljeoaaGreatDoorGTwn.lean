/- The formulas of some functions, printed by a program (wip/cw/CwGen). -/
import Derived.Test.YtghineciiljeoaaGreatDoorNam
set_option linter.unusedVariables false
set_option maxRecDepth 100000
namespace Go.Proofs.YtghineciiljeoaaGreatDoor
open Go Go.CW

/-- gemel/twin.Format -/
def twin_Format_F (p0 : Option Addr) (p1 : Int) (p2 : Value) (w : World) (R : KV) : Prop :=
 bindW (World.alloc w (.cells #[(.pointer p0)] 86)) fun w0 =>
 bindW (World.alloc w0 (.cells #[(.int .i64 p1)] 3)) fun w1 =>
 ∃ (o2 : Option Addr), ((Go.World.cell? w1 ⟨w.heap.size, 0, none⟩) = (some (.pointer o2))) ∧
 ∃ (n3 : Int), ((Go.World.cell? w1 ⟨w0.heap.size, 0, none⟩) = (some (.int .i64 n3))) ∧
 Go.CW.Spec Tryz.prog 187 #[(.pointer o2), (.int .i64 n3)] w1 fun v4 w5 =>
 ∃ (b6 : Bool), ((v4 : Value) = (.bool b6)) ∧
 cond (!b6)
 (R (.int .i64 (1 : Int)) w5)
 (Go.CW.Spec Tryz.prog 188 #[(.int .u64 (1 : Int)), p2] w5 fun v7 w8 =>
 ∃ (v9 : Value) (n10 : Int), ((v7 : Value) = (.tuple #[v9, (.int .i64 n10)])) ∧
 bindW (World.alloc w8 (.cells #[(.slice none 0 0)] 34)) fun w11 =>
 oneK v9 ((St1 w11 ⟨w8.heap.size, 0, none⟩) ∧
 bindW (World.setCell w11 ⟨w8.heap.size, 0, none⟩ v9) fun w12 =>
 cond (n10 != (0 : Int))
 (R (.int .i64 n10) w12)
 (∃ (o13 : Option Addr), ((Go.World.cell? w12 ⟨w.heap.size, 0, none⟩) = (some (.pointer o13))) ∧
 ((isOne (.func (.func 189) #[] #[(.pointer (some ⟨w.heap.size, 0, none⟩)), (.pointer (some ⟨w0.heap.size, 0, none⟩))])) = true) ∧
 ((isOne (.func (.func 191) #[] #[(.pointer (some ⟨w.heap.size, 0, none⟩)), (.pointer (some ⟨w0.heap.size, 0, none⟩)), (.pointer (some ⟨w8.heap.size, 0, none⟩))])) = true) ∧
 ((isOne (.func (.func 192) #[(.pointer o13)] #[])) = true) ∧
 bindW (World.alloc w12 (.cells #[(.func (.func 189) #[] #[(.pointer (some ⟨w.heap.size, 0, none⟩)), (.pointer (some ⟨w0.heap.size, 0, none⟩))]), (.func (.func 191) #[] #[(.pointer (some ⟨w.heap.size, 0, none⟩)), (.pointer (some ⟨w0.heap.size, 0, none⟩)), (.pointer (some ⟨w8.heap.size, 0, none⟩))]), (.func (.func 192) #[(.pointer o13)] #[])] 225)) fun w14 =>
 ∃ (m15 : Nat), ((Go.CW.sliceLen (.slice (some ⟨w12.heap.size, 0, none⟩) 3 3)) = (some m15)) ∧
 LoopP [.int .i64]
 (fun j16 => fun (n17 : Int) => fun (w18 : World) =>
 cond (decide (n17 < ((m15 : Nat) : Int)))
 (∃ (a19 : Addr), ((Go.CW.sliceAt (.slice (some ⟨w12.heap.size, 0, none⟩) 3 3) n17 1) = (some a19)) ∧
 ∃ (v20 : Value), ((Go.World.cell? w18 a19) = (some v20)) ∧
 Go.CW.callU Tryz.prog v20 #[] w18 fun v21 w22 =>
 ∃ (n23 : Int), ((v21 : Value) = (.int .i64 n23)) ∧
 cond (n23 != (0 : Int))
 (R (.int .i64 n23) w22)
 (j16 (IntKind.wrap .i64 (n17 + (1 : Int))) w22))
 (R (.int .i64 (0 : Int)) w18))
 (fun s24 => s24 (0 : Int) w14))))

theorem twin_Format_wp (p0 : Option Addr) (p1 : Int) (p2 : Value) (w : World) (R : KV) (h : twin_Format_F p0 p1 p2 w R) : Go.CW.Spec Tryz.prog 103 #[(.pointer p0), (.int .i64 p1), p2] w R :=
  spec_of Tryz.func103 (by kernel_rfl) (show twin_Format_F p0 p1 p2 w R = _ by kernel_rfl) h

/-- gemel/twin.Open -/
def twin_Open_F (p0 : Option Addr) (p1 : Int) (w : World) (R : KV) : Prop :=
 Go.CW.Spec Tryz.prog 187 #[(.pointer p0), (.int .i64 p1)] w fun v0 w1 =>
 ∃ (b2 : Bool), ((v0 : Value) = (.bool b2)) ∧
 cond (!b2)
 (R (.tuple #[(.pointer none), (.int .i64 (1 : Int))]) w1)
 (bindW (World.alloc w1 (.cells #[(.pointer p0), (.int .i64 p1), (.int .u64 (0 : Int)), (.slice none 0 0)] 311)) fun w3 =>
 LoopP [.bool, .int .i64]
 (fun j4 => fun (b5 : Bool) => fun (n6 : Int) => fun (w7 : World) =>
 cond (decide (n6 < (2 : Int)))
 (JoinP [.bool]
 (fun (b8 : Bool) => fun (w9 : World) =>
 j4 b8 (IntKind.wrap .i64 (n6 + (1 : Int))) w9)
 (fun j10 =>
 Go.CW.Spec Tryz.prog 193 #[(.pointer p0), (.int .i64 (IntKind.wrap .i64 (p1 + n6)))] w7 fun v11 w12 =>
 ∃ (v13 : Value) (n14 : Int), ((v11 : Value) = (.tuple #[v13, (.int .i64 n14)])) ∧
 cond (n14 != (0 : Int))
 (R (.tuple #[(.pointer none), (.int .i64 n14)]) w12)
 (Go.CW.Spec Tryz.prog 194 #[v13] w12 fun v15 w16 =>
 ∃ (n17 : Int) (v18 : Value) (n19 : Int), ((v15 : Value) = (.tuple #[(.int .u64 n17), v18, (.int .i64 n19)])) ∧
 JoinP [.bool]
 (fun (b20 : Bool) => fun (w21 : World) =>
 cond b20
 (j10 b5 w21)
 ((St1 w21 (Addr.add ⟨w1.heap.size, 0, none⟩ 2)) ∧
 bindW (World.setCell w21 (Addr.add ⟨w1.heap.size, 0, none⟩ 2) (.int .u64 n17)) fun w22 =>
 oneK v18 ((St1 w22 (Addr.add ⟨w1.heap.size, 0, none⟩ 3)) ∧
 bindW (World.setCell w22 (Addr.add ⟨w1.heap.size, 0, none⟩ 3) v18) fun w23 =>
 j10 true w23)))
 (fun j24 =>
 cond (n19 != (0 : Int))
 (j24 true w16)
 (cond ((IntKind.wrap .i64 (Int.tmod n17 (2 : Int))) != n6)
 (j24 true w16)
 (cond b5
 (∃ (n25 : Int), ((Go.World.cell? w16 (Addr.add ⟨w1.heap.size, 0, none⟩ 2)) = (some (.int .u64 n25))) ∧
 j24 (decide (n17 < n25)) w16)
 (j24 false w16)))))))
 (cond (!b5)
 (R (.tuple #[(.pointer none), (.int .i64 (2 : Int))]) w7)
 (R (.tuple #[(.pointer (some ⟨w1.heap.size, 0, none⟩)), (.int .i64 (0 : Int))]) w7)))
 (fun s26 => s26 false (0 : Int) w3))

theorem twin_Open_wp (p0 : Option Addr) (p1 : Int) (w : World) (R : KV) (h : twin_Open_F p0 p1 w R) : Go.CW.Spec Tryz.prog 105 #[(.pointer p0), (.int .i64 p1)] w R :=
  spec_of Tryz.func105 (by kernel_rfl) (show twin_Open_F p0 p1 w R = _ by kernel_rfl) h

/-- (*gemel/twin.Twin).Value -/
def twin_Twin_Value_m_F (p0 : Option Addr) (w : World) (R : KV) : Prop :=
 withAddr (.pointer p0) fun a0 =>
 ∃ (v1 : Value), ((Go.World.cell? w (Addr.add a0 3)) = (some v1)) ∧
 Go.CW.Spec Tryz.prog 85 #[v1] w fun v2 w3 =>
 Go.CW.Spec Tryz.prog 96 #[v2] w3 fun v4 w5 =>
 R v4 w5

theorem twin_Twin_Value_m_wp (p0 : Option Addr) (w : World) (R : KV) (h : twin_Twin_Value_m_F p0 w R) : Go.CW.Spec Tryz.prog 107 #[(.pointer p0)] w R :=
  spec_of Tryz.func107 (by kernel_rfl) (show twin_Twin_Value_m_F p0 w R = _ by kernel_rfl) h

/-- (*gemel/twin.Twin).Put -/
def twin_Twin_Put_m_F (p0 : Option Addr) (p1 : Value) (w : World) (R : KV) : Prop :=
 withAddr (.pointer p0) fun a0 =>
 ∃ (n1 : Int), ((Go.World.cell? w (Addr.add a0 2)) = (some (.int .u64 n1))) ∧
 Go.CW.Spec Tryz.prog 188 #[(.int .u64 (IntKind.wrap .u64 (n1 + (1 : Int)))), p1] w fun v2 w3 =>
 ∃ (v4 : Value) (n5 : Int), ((v2 : Value) = (.tuple #[v4, (.int .i64 n5)])) ∧
 cond (n5 != (0 : Int))
 (R (.int .i64 n5) w3)
 (bindW (World.drew w3) fun w6 =>
 withAddr (.pointer p0) fun a7 =>
 ∃ (o8 : Option Addr), ((Go.World.cell? w6 (Addr.add a7 0)) = (some (.pointer o8))) ∧
 withAddr (.pointer p0) fun a9 =>
 ∃ (n10 : Int), ((Go.World.cell? w6 (Addr.add a9 1)) = (some (.int .i64 n10))) ∧
 withAddr (.pointer p0) fun a11 =>
 ∃ (n12 : Int), ((Go.World.cell? w6 (Addr.add a11 2)) = (some (.int .u64 n12))) ∧
 bindW (World.drew w3) fun w13 =>
 Go.CW.Spec Tryz.prog 190 #[(.pointer o8), (.int .i64 (IntKind.wrap .i64 (n10 + (IntKind.wrap .i64 (Int.tmod (IntKind.wrap .u64 (n12 + (1 : Int))) (2 : Int)))))), v4] w13 fun v14 w15 =>
 ∃ (n16 : Int), ((v14 : Value) = (.int .i64 n16)) ∧
 cond (n16 != (0 : Int))
 (R (.int .i64 n16) w15)
 (withAddr (.pointer p0) fun a17 =>
 ∃ (o18 : Option Addr), ((Go.World.cell? w15 (Addr.add a17 0)) = (some (.pointer o18))) ∧
 Go.CW.Spec Tryz.prog 192 #[(.pointer o18)] w15 fun v19 w20 =>
 ∃ (n21 : Int), ((v19 : Value) = (.int .i64 n21)) ∧
 cond (n21 != (0 : Int))
 (R (.int .i64 n21) w20)
 (bindW (World.drew w20) fun w22 =>
 withAddr (.pointer p0) fun a23 =>
 ∃ (n24 : Int), ((Go.World.cell? w22 (Addr.add a23 2)) = (some (.int .u64 n24))) ∧
 bindW (World.drew w20) fun w25 =>
 Go.CW.Spec Tryz.prog 85 #[p1] w25 fun v26 w27 =>
 (∃ (n28 : Int), ((Go.World.cell? w27 (Addr.add a23 2)) = (some (.int .u64 n28))) ∧
 ((.int .u64 n28) : Value) = (.int .u64 n24)) ∧
 withAddr (.pointer p0) fun a29 =>
 (St1 w27 (Addr.add a29 2)) ∧
 bindW (World.setCell w27 (Addr.add a29 2) (.int .u64 (IntKind.wrap .u64 (n24 + (1 : Int))))) fun w30 =>
 withAddr (.pointer p0) fun a31 =>
 bindW (World.setCell w27 (Addr.add a29 2) (.int .u64 (IntKind.wrap .u64 (n24 + (1 : Int))))) fun w32 =>
 oneK v26 ((St1 w32 (Addr.add a31 3)) ∧
 bindW (World.setCell w32 (Addr.add a31 3) v26) fun w33 =>
 bindW (World.setCell w32 (Addr.add a31 3) v26) fun w34 =>
 R (.int .i64 (0 : Int)) w34))))

theorem twin_Twin_Put_m_wp (p0 : Option Addr) (p1 : Value) (w : World) (R : KV) (h : twin_Twin_Put_m_F p0 p1 w R) : Go.CW.Spec Tryz.prog 110 #[(.pointer p0), p1] w R :=
  spec_of Tryz.func110 (by kernel_rfl) (show twin_Twin_Put_m_F p0 p1 w R = _ by kernel_rfl) h

/-- gemel/twin.in -/
def twin_in_F (p0 : Option Addr) (p1 : Int) (w : World) (R : KV) : Prop :=
 JoinP [.bool]
 (fun (b0 : Bool) => fun (w1 : World) =>
 R (.bool b0) w1)
 (fun j2 =>
 cond (decide (p1 ≥ (0 : Int)))
 (Go.CW.Spec Tryz.prog 111 #[(.pointer p0)] w fun v3 w4 =>
 ∃ (n5 : Int), ((v3 : Value) = (.int .i64 n5)) ∧
 j2 (decide (p1 < (IntKind.wrap .i64 (n5 - (1 : Int))))) w4)
 (j2 false w))

theorem twin_in_wp (p0 : Option Addr) (p1 : Int) (w : World) (R : KV) (h : twin_in_F p0 p1 w R) : Go.CW.Spec Tryz.prog 187 #[(.pointer p0), (.int .i64 p1)] w R :=
  spec_of Tryz.func187 (by kernel_rfl) (show twin_in_F p0 p1 w R = _ by kernel_rfl) h

/-- gemel/twin.Pack -/
def twin_Pack_F (p0 : Int) (p1 : Value) (w : World) (R : KV) : Prop :=
 ∃ (m0 : Nat), ((Go.CW.sliceLen p1) = (some m0)) ∧
 cond (decide (((m0 : Nat) : Int) > (488 : Int)))
 (R (.tuple #[(.slice none 0 0), (.int .i64 (5 : Int))]) w)
 (bindW (World.alloc w (.cells #[(.int .u8 (84 : Int)), (.int .u8 (87 : Int)), (.int .u8 (73 : Int)), (.int .u8 (78 : Int))] 5)) fun w1 =>
 ∃ (v2 : Value) (w3 : World), ((Sem.run @Go.Proofs.Tryz.prog (Go.convert 34 34 (.slice (some ⟨w.heap.size, 0, none⟩) 4 4)) w1) = (.ok v2 w3)) ∧
 Go.CW.Spec Tryz.prog 120 #[v2, (.int .u64 p0), (.int .i64 (8 : Int))] w3 fun v4 w5 =>
 ∃ (m6 : Nat), ((Go.CW.sliceLen p1) = (some m6)) ∧
 Go.CW.Spec Tryz.prog 120 #[v4, (.int .u64 (IntKind.wrap .u64 ((m6 : Nat) : Int))), (.int .i64 (2 : Int))] w5 fun v7 w8 =>
 ∃ (v9 : Value) (w10 : World), ((Sem.run @Go.Proofs.Tryz.prog (Go.Builtin.append_ #[34, 34] 34 #[v7, p1]) w8) = (.ok v9 w10)) ∧
 Go.CW.Spec Tryz.prog 252 #[v9, (.int .i64 (508 : Int))] w10 fun v11 w12 =>
 Go.CW.Spec Tryz.prog 218 #[v11] w12 fun v13 w14 =>
 R (.tuple #[v13, (.int .i64 (0 : Int))]) w14)

theorem twin_Pack_wp (p0 : Int) (p1 : Value) (w : World) (R : KV) (h : twin_Pack_F p0 p1 w R) : Go.CW.Spec Tryz.prog 188 #[(.int .u64 p0), p1] w R :=
  spec_of Tryz.func188 (by kernel_rfl) (show twin_Pack_F p0 p1 w R = _ by kernel_rfl) h

/-- gemel/twin.Format$1 -/
def twin_Format_1_F (p0 : Value) (p1 : Value) (w : World) (R : KV) : Prop :=
 withAddr p0 fun a0 =>
 ∃ (o1 : Option Addr), ((Go.World.cell? w a0) = (some (.pointer o1))) ∧
 withAddr p1 fun a2 =>
 ∃ (n3 : Int), ((Go.World.cell? w a2) = (some (.int .i64 n3))) ∧
 Go.CW.Spec Tryz.prog 190 #[(.pointer o1), (.int .i64 n3), (.slice none 0 0)] w fun v4 w5 =>
 ∃ (n6 : Int), ((v4 : Value) = (.int .i64 n6)) ∧
 R (.int .i64 n6) w5

theorem twin_Format_1_wp (p0 : Value) (p1 : Value) (w : World) (R : KV) (h : twin_Format_1_F p0 p1 w R) : Go.CW.Spec Tryz.prog 189 #[p0, p1] w R :=
  spec_of Tryz.func189 (by kernel_rfl) (show twin_Format_1_F p0 p1 w R = _ by kernel_rfl) h

/-- gemel/twin.Format$2 -/
def twin_Format_2_F (p0 : Value) (p1 : Value) (p2 : Value) (w : World) (R : KV) : Prop :=
 withAddr p0 fun a0 =>
 ∃ (o1 : Option Addr), ((Go.World.cell? w a0) = (some (.pointer o1))) ∧
 withAddr p1 fun a2 =>
 ∃ (n3 : Int), ((Go.World.cell? w a2) = (some (.int .i64 n3))) ∧
 withAddr p2 fun a4 =>
 ∃ (v5 : Value), ((Go.World.cell? w a4) = (some v5)) ∧
 Go.CW.Spec Tryz.prog 190 #[(.pointer o1), (.int .i64 (IntKind.wrap .i64 (n3 + (1 : Int)))), v5] w fun v6 w7 =>
 ∃ (n8 : Int), ((v6 : Value) = (.int .i64 n8)) ∧
 R (.int .i64 n8) w7

theorem twin_Format_2_wp (p0 : Value) (p1 : Value) (p2 : Value) (w : World) (R : KV) (h : twin_Format_2_F p0 p1 p2 w R) : Go.CW.Spec Tryz.prog 191 #[p0, p1, p2] w R :=
  spec_of Tryz.func191 (by kernel_rfl) (show twin_Format_2_F p0 p1 p2 w R = _ by kernel_rfl) h

/-- gemel/twin.Unpack -/
def twin_Unpack_F (p0 : Value) (w : World) (R : KV) : Prop :=
 ∃ (m0 : Nat), ((Go.CW.sliceLen p0) = (some m0)) ∧
 cond (((m0 : Nat) : Int) != (512 : Int))
 (R (.tuple #[(.int .u64 (0 : Int)), (.slice none 0 0), (.int .i64 (3 : Int))]) w)
 (Go.CW.Spec Tryz.prog 29 #[p0] w fun v1 w2 =>
 ∃ (v3 : Value) (n4 : Int), ((v1 : Value) = (.tuple #[v3, (.int .i64 n4)])) ∧
 cond (n4 != (0 : Int))
 (R (.tuple #[(.int .u64 (0 : Int)), (.slice none 0 0), (.int .i64 n4)]) w2)
 (Go.CW.Spec Tryz.prog 148 #[v3, (.int .i64 (4 : Int)), (.int .i64 (8 : Int))] w2 fun v5 w6 =>
 ∃ (n7 : Int) (b8 : Bool), ((v5 : Value) = (.tuple #[(.int .u64 n7), (.bool b8)])) ∧
 Go.CW.Spec Tryz.prog 148 #[v3, (.int .i64 (12 : Int)), (.int .i64 (2 : Int))] w6 fun v9 w10 =>
 ∃ (n11 : Int) (b12 : Bool), ((v9 : Value) = (.tuple #[(.int .u64 n11), (.bool b12)])) ∧
 cond (decide (n11 > (488 : Int)))
 (R (.tuple #[(.int .u64 (0 : Int)), (.slice none 0 0), (.int .i64 (2 : Int))]) w10)
 (∃ (v13 : Value), ((Go.CW.subSlice v3 1 (some (.int .i64 (14 : Int))) (some (.int .i64 (IntKind.wrap .i64 ((14 : Int) + (IntKind.wrap .i64 n11))))) none) = (some v13)) ∧
 Go.CW.Spec Tryz.prog 85 #[v13] w10 fun v14 w15 =>
 Go.CW.Spec Tryz.prog 96 #[v14] w15 fun v16 w17 =>
 Go.CW.Spec Tryz.prog 188 #[(.int .u64 n7), v16] w17 fun v18 w19 =>
 ∃ (v20 : Value) (n21 : Int), ((v18 : Value) = (.tuple #[v20, (.int .i64 n21)])) ∧
 Go.CW.Spec Tryz.prog 134 #[v20, p0] w19 fun v22 w23 =>
 ∃ (b24 : Bool), ((v22 : Value) = (.bool b24)) ∧
 cond (!b24)
 (R (.tuple #[(.int .u64 (0 : Int)), (.slice none 0 0), (.int .i64 (2 : Int))]) w23)
 (R (.tuple #[(.int .u64 n7), v16, (.int .i64 (0 : Int))]) w23))))

theorem twin_Unpack_wp (p0 : Value) (w : World) (R : KV) (h : twin_Unpack_F p0 w R) : Go.CW.Spec Tryz.prog 194 #[p0] w R :=
  spec_of Tryz.func194 (by kernel_rfl) (show twin_Unpack_F p0 w R = _ by kernel_rfl) h

/-- bytes.Equal -/
def bytes_Equal_F (p0 : Value) (p1 : Value) (w : World) (R : KV) : Prop :=
 ∃ (s0 : ByteArray), ((Sem.run @Go.Proofs.Tryz.prog (Go.convert 34 9 p0) w) = (.ok (.string s0) w)) ∧
 ∃ (s1 : ByteArray), ((Sem.run @Go.Proofs.Tryz.prog (Go.convert 34 9 p1) w) = (.ok (.string s1) w)) ∧
 R (.bool (ByteArray.toList s0 == ByteArray.toList s1)) w

theorem bytes_Equal_wp (p0 : Value) (p1 : Value) (w : World) (R : KV) (h : bytes_Equal_F p0 p1 w R) : Go.CW.Spec Tryz.prog 134 #[p0, p1] w R :=
  spec_of Tryz.func134 (by kernel_rfl) (show bytes_Equal_F p0 p1 w R = _ by kernel_rfl) h

end Go.Proofs.YtghineciiljeoaaGreatDoor
