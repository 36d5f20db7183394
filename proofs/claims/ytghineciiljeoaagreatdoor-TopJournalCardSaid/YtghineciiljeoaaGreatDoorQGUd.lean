/- Texts of this seat, one behind the other: GWit, GTwn, GDsk, GRng, GSto. -/
import Derived.Test.YtghineciiljeoaaGreatDoorQNam
section
set_option linter.unusedVariables false
set_option maxRecDepth 100000
namespace Go.Proofs.YtghineciiljeoaaGreatDoor
open Go Go.CW
def bin_Pad_F (p0 : Value) (p1 : Int) (w : World) (R : KV) : Prop :=
 Go.CW.Spec Tryz.prog 85 #[p0] w fun v0 w1 =>
 JoinP [.bool]
 (fun (b2 : Bool) => fun (w3 : World) =>
 cond b2
 (R v0 w3)
 (LoopP [.val]
 (fun j4 => fun (v5 : Value) => fun (w6 : World) =>
 ∃ (m7 : Nat), ((Go.CW.sliceLen v5) = (some m7)) ∧
 nzK p1 (cond ((Int.tmod ((m7 : Nat) : Int) p1) != (0 : Int))
 (bindW (World.alloc w6 (.cells #[(.int .u8 (0 : Int))] 5)) fun w8 =>
 ∃ (v9 : Value) (w10 : World), ((Sem.run @Go.Proofs.Tryz.prog (Go.Builtin.append_ #[34, 34] 34 #[v5, (.slice (some ⟨w6.heap.size, 0, none⟩) 1 1)]) w8) = (.ok v9 w10)) ∧
 j4 v9 w10)
 (Go.CW.Spec Tryz.prog 96 #[v5] w6 fun v11 w12 =>
 R v11 w12)))
 (fun s13 => s13 v0 w3)))
 (fun j14 =>
 cond (decide (p1 < (1 : Int)))
 (j14 true w1)
 (j14 (decide (p1 > (4096 : Int))) w1))
theorem bin_Pad_wp (p0 : Value) (p1 : Int) (w : World) (R : KV) (h : bin_Pad_F p0 p1 w R) : Go.CW.Spec Tryz.prog 252 #[p0, (.int .i64 p1)] w R :=
  spec_of Tryz.func252 (by kernel_rfl) (show bin_Pad_F p0 p1 w R = _ by kernel_rfl) h
end Go.Proofs.YtghineciiljeoaaGreatDoor
end
section
set_option linter.unusedVariables false
set_option maxRecDepth 100000
namespace Go.Proofs.YtghineciiljeoaaGreatDoor
open Go Go.CW
def twin_Format_F (p0 : Option Addr) (p1 : Int) (p2 : Value) (w : World) (R : KV) : Prop :=
 bindW (World.alloc w (.cells #[(.pointer p0)] 86)) fun w0 =>
 bindW (World.alloc w0 (.cells #[(.int .i64 p1)] 3)) fun w1 =>
 ∃ (o2 : Option Addr), ((Go.World.cell? w1 ⟨w.heap.size, 0, none⟩) = (some (.pointer o2))) ∧
 ∃ (n3 : Int), ((Go.World.cell? w1 ⟨w0.heap.size, 0, none⟩) = (some (.int .i64 n3))) ∧
 Go.CW.Spec Tryz.prog 187 #[(.pointer o2), (.int .i64 n3)] w1 fun v4 w5 =>
 ∃ (b6 : Bool), ((v4 : Value) = (.bool b6)) ∧
 cond (!b6)
 (R (.int .i64 (1 : Int)) w5)
 (Go.CW.Spec Tryz.prog 188 #[(.int .u64 (1 : Int)), p2] w5 fun v7 w8 =>
 ∃ (v9 : Value) (n10 : Int), ((v7 : Value) = (.tuple #[v9, (.int .i64 n10)])) ∧
 bindW (World.alloc w8 (.cells #[(.slice none 0 0)] 34)) fun w11 =>
 oneK v9 ((St1 w11 ⟨w8.heap.size, 0, none⟩) ∧
 bindW (World.setCell w11 ⟨w8.heap.size, 0, none⟩ v9) fun w12 =>
 cond (n10 != (0 : Int))
 (R (.int .i64 n10) w12)
 (∃ (o13 : Option Addr), ((Go.World.cell? w12 ⟨w.heap.size, 0, none⟩) = (some (.pointer o13))) ∧
 ((isOne (.func (.func 189) #[] #[(.pointer (some ⟨w.heap.size, 0, none⟩)), (.pointer (some ⟨w0.heap.size, 0, none⟩))])) = true) ∧
 ((isOne (.func (.func 191) #[] #[(.pointer (some ⟨w.heap.size, 0, none⟩)), (.pointer (some ⟨w0.heap.size, 0, none⟩)), (.pointer (some ⟨w8.heap.size, 0, none⟩))])) = true) ∧
 ((isOne (.func (.func 192) #[(.pointer o13)] #[])) = true) ∧
 bindW (World.alloc w12 (.cells #[(.func (.func 189) #[] #[(.pointer (some ⟨w.heap.size, 0, none⟩)), (.pointer (some ⟨w0.heap.size, 0, none⟩))]), (.func (.func 191) #[] #[(.pointer (some ⟨w.heap.size, 0, none⟩)), (.pointer (some ⟨w0.heap.size, 0, none⟩)), (.pointer (some ⟨w8.heap.size, 0, none⟩))]), (.func (.func 192) #[(.pointer o13)] #[])] 225)) fun w14 =>
 ∃ (m15 : Nat), ((Go.CW.sliceLen (.slice (some ⟨w12.heap.size, 0, none⟩) 3 3)) = (some m15)) ∧
 LoopP [.int .i64]
 (fun j16 => fun (n17 : Int) => fun (w18 : World) =>
 cond (decide (n17 < ((m15 : Nat) : Int)))
 (∃ (a19 : Addr), ((Go.CW.sliceAt (.slice (some ⟨w12.heap.size, 0, none⟩) 3 3) n17 1) = (some a19)) ∧
 ∃ (v20 : Value), ((Go.World.cell? w18 a19) = (some v20)) ∧
 Go.CW.callU Tryz.prog v20 #[] w18 fun v21 w22 =>
 ∃ (n23 : Int), ((v21 : Value) = (.int .i64 n23)) ∧
 cond (n23 != (0 : Int))
 (R (.int .i64 n23) w22)
 (j16 (IntKind.wrap .i64 (n17 + (1 : Int))) w22))
 (R (.int .i64 (0 : Int)) w18))
 (fun s24 => s24 (0 : Int) w14))))
theorem twin_Format_wp (p0 : Option Addr) (p1 : Int) (p2 : Value) (w : World) (R : KV) (h : twin_Format_F p0 p1 p2 w R) : Go.CW.Spec Tryz.prog 103 #[(.pointer p0), (.int .i64 p1), p2] w R :=
  spec_of Tryz.func103 (by kernel_rfl) (show twin_Format_F p0 p1 p2 w R = _ by kernel_rfl) h
def twin_Open_F (p0 : Option Addr) (p1 : Int) (w : World) (R : KV) : Prop :=
 Go.CW.Spec Tryz.prog 187 #[(.pointer p0), (.int .i64 p1)] w fun v0 w1 =>
 ∃ (b2 : Bool), ((v0 : Value) = (.bool b2)) ∧
 cond (!b2)
 (R (.tuple #[(.pointer none), (.int .i64 (1 : Int))]) w1)
 (bindW (World.alloc w1 (.cells #[(.pointer p0), (.int .i64 p1), (.int .u64 (0 : Int)), (.slice none 0 0)] 311)) fun w3 =>
 LoopP [.bool, .int .i64]
 (fun j4 => fun (b5 : Bool) => fun (n6 : Int) => fun (w7 : World) =>
 cond (decide (n6 < (2 : Int)))
 (JoinP [.bool]
 (fun (b8 : Bool) => fun (w9 : World) =>
 j4 b8 (IntKind.wrap .i64 (n6 + (1 : Int))) w9)
 (fun j10 =>
 Go.CW.Spec Tryz.prog 193 #[(.pointer p0), (.int .i64 (IntKind.wrap .i64 (p1 + n6)))] w7 fun v11 w12 =>
 ∃ (v13 : Value) (n14 : Int), ((v11 : Value) = (.tuple #[v13, (.int .i64 n14)])) ∧
 cond (n14 != (0 : Int))
 (R (.tuple #[(.pointer none), (.int .i64 n14)]) w12)
 (Go.CW.Spec Tryz.prog 194 #[v13] w12 fun v15 w16 =>
 ∃ (n17 : Int) (v18 : Value) (n19 : Int), ((v15 : Value) = (.tuple #[(.int .u64 n17), v18, (.int .i64 n19)])) ∧
 JoinP [.bool]
 (fun (b20 : Bool) => fun (w21 : World) =>
 cond b20
 (j10 b5 w21)
 ((St1 w21 (Addr.add ⟨w1.heap.size, 0, none⟩ 2)) ∧
 bindW (World.setCell w21 (Addr.add ⟨w1.heap.size, 0, none⟩ 2) (.int .u64 n17)) fun w22 =>
 oneK v18 ((St1 w22 (Addr.add ⟨w1.heap.size, 0, none⟩ 3)) ∧
 bindW (World.setCell w22 (Addr.add ⟨w1.heap.size, 0, none⟩ 3) v18) fun w23 =>
 j10 true w23)))
 (fun j24 =>
 cond (n19 != (0 : Int))
 (j24 true w16)
 (cond ((IntKind.wrap .i64 (Int.tmod n17 (2 : Int))) != n6)
 (j24 true w16)
 (cond b5
 (∃ (n25 : Int), ((Go.World.cell? w16 (Addr.add ⟨w1.heap.size, 0, none⟩ 2)) = (some (.int .u64 n25))) ∧
 j24 (decide (n17 < n25)) w16)
 (j24 false w16)))))))
 (cond (!b5)
 (R (.tuple #[(.pointer none), (.int .i64 (2 : Int))]) w7)
 (R (.tuple #[(.pointer (some ⟨w1.heap.size, 0, none⟩)), (.int .i64 (0 : Int))]) w7)))
 (fun s26 => s26 false (0 : Int) w3))
theorem twin_Open_wp (p0 : Option Addr) (p1 : Int) (w : World) (R : KV) (h : twin_Open_F p0 p1 w R) : Go.CW.Spec Tryz.prog 105 #[(.pointer p0), (.int .i64 p1)] w R :=
  spec_of Tryz.func105 (by kernel_rfl) (show twin_Open_F p0 p1 w R = _ by kernel_rfl) h
def twin_Twin_Value_m_F (p0 : Option Addr) (w : World) (R : KV) : Prop :=
 withAddr (.pointer p0) fun a0 =>
 ∃ (v1 : Value), ((Go.World.cell? w (Addr.add a0 3)) = (some v1)) ∧
 Go.CW.Spec Tryz.prog 85 #[v1] w fun v2 w3 =>
 Go.CW.Spec Tryz.prog 96 #[v2] w3 fun v4 w5 =>
 R v4 w5
theorem twin_Twin_Value_m_wp (p0 : Option Addr) (w : World) (R : KV) (h : twin_Twin_Value_m_F p0 w R) : Go.CW.Spec Tryz.prog 107 #[(.pointer p0)] w R :=
  spec_of Tryz.func107 (by kernel_rfl) (show twin_Twin_Value_m_F p0 w R = _ by kernel_rfl) h
def twin_Twin_Put_m_F (p0 : Option Addr) (p1 : Value) (w : World) (R : KV) : Prop :=
 withAddr (.pointer p0) fun a0 =>
 ∃ (n1 : Int), ((Go.World.cell? w (Addr.add a0 2)) = (some (.int .u64 n1))) ∧
 Go.CW.Spec Tryz.prog 188 #[(.int .u64 (IntKind.wrap .u64 (n1 + (1 : Int)))), p1] w fun v2 w3 =>
 ∃ (v4 : Value) (n5 : Int), ((v2 : Value) = (.tuple #[v4, (.int .i64 n5)])) ∧
 cond (n5 != (0 : Int))
 (R (.int .i64 n5) w3)
 (bindW (World.drew w3) fun w6 =>
 withAddr (.pointer p0) fun a7 =>
 ∃ (o8 : Option Addr), ((Go.World.cell? w6 (Addr.add a7 0)) = (some (.pointer o8))) ∧
 withAddr (.pointer p0) fun a9 =>
 ∃ (n10 : Int), ((Go.World.cell? w6 (Addr.add a9 1)) = (some (.int .i64 n10))) ∧
 withAddr (.pointer p0) fun a11 =>
 ∃ (n12 : Int), ((Go.World.cell? w6 (Addr.add a11 2)) = (some (.int .u64 n12))) ∧
 bindW (World.drew w3) fun w13 =>
 Go.CW.Spec Tryz.prog 190 #[(.pointer o8), (.int .i64 (IntKind.wrap .i64 (n10 + (IntKind.wrap .i64 (Int.tmod (IntKind.wrap .u64 (n12 + (1 : Int))) (2 : Int)))))), v4] w13 fun v14 w15 =>
 ∃ (n16 : Int), ((v14 : Value) = (.int .i64 n16)) ∧
 cond (n16 != (0 : Int))
 (R (.int .i64 n16) w15)
 (withAddr (.pointer p0) fun a17 =>
 ∃ (o18 : Option Addr), ((Go.World.cell? w15 (Addr.add a17 0)) = (some (.pointer o18))) ∧
 Go.CW.Spec Tryz.prog 192 #[(.pointer o18)] w15 fun v19 w20 =>
 ∃ (n21 : Int), ((v19 : Value) = (.int .i64 n21)) ∧
 cond (n21 != (0 : Int))
 (R (.int .i64 n21) w20)
 (bindW (World.drew w20) fun w22 =>
 withAddr (.pointer p0) fun a23 =>
 ∃ (n24 : Int), ((Go.World.cell? w22 (Addr.add a23 2)) = (some (.int .u64 n24))) ∧
 bindW (World.drew w20) fun w25 =>
 Go.CW.Spec Tryz.prog 85 #[p1] w25 fun v26 w27 =>
 (∃ (n28 : Int), ((Go.World.cell? w27 (Addr.add a23 2)) = (some (.int .u64 n28))) ∧
 ((.int .u64 n28) : Value) = (.int .u64 n24)) ∧
 withAddr (.pointer p0) fun a29 =>
 (St1 w27 (Addr.add a29 2)) ∧
 bindW (World.setCell w27 (Addr.add a29 2) (.int .u64 (IntKind.wrap .u64 (n24 + (1 : Int))))) fun w30 =>
 withAddr (.pointer p0) fun a31 =>
 bindW (World.setCell w27 (Addr.add a29 2) (.int .u64 (IntKind.wrap .u64 (n24 + (1 : Int))))) fun w32 =>
 oneK v26 ((St1 w32 (Addr.add a31 3)) ∧
 bindW (World.setCell w32 (Addr.add a31 3) v26) fun w33 =>
 bindW (World.setCell w32 (Addr.add a31 3) v26) fun w34 =>
 R (.int .i64 (0 : Int)) w34))))
theorem twin_Twin_Put_m_wp (p0 : Option Addr) (p1 : Value) (w : World) (R : KV) (h : twin_Twin_Put_m_F p0 p1 w R) : Go.CW.Spec Tryz.prog 110 #[(.pointer p0), p1] w R :=
  spec_of Tryz.func110 (by kernel_rfl) (show twin_Twin_Put_m_F p0 p1 w R = _ by kernel_rfl) h
def twin_in_F (p0 : Option Addr) (p1 : Int) (w : World) (R : KV) : Prop :=
 JoinP [.bool]
 (fun (b0 : Bool) => fun (w1 : World) =>
 R (.bool b0) w1)
 (fun j2 =>
 cond (decide (p1 ≥ (0 : Int)))
 (Go.CW.Spec Tryz.prog 111 #[(.pointer p0)] w fun v3 w4 =>
 ∃ (n5 : Int), ((v3 : Value) = (.int .i64 n5)) ∧
 j2 (decide (p1 < (IntKind.wrap .i64 (n5 - (1 : Int))))) w4)
 (j2 false w))
theorem twin_in_wp (p0 : Option Addr) (p1 : Int) (w : World) (R : KV) (h : twin_in_F p0 p1 w R) : Go.CW.Spec Tryz.prog 187 #[(.pointer p0), (.int .i64 p1)] w R :=
  spec_of Tryz.func187 (by kernel_rfl) (show twin_in_F p0 p1 w R = _ by kernel_rfl) h
def twin_Pack_F (p0 : Int) (p1 : Value) (w : World) (R : KV) : Prop :=
 ∃ (m0 : Nat), ((Go.CW.sliceLen p1) = (some m0)) ∧
 cond (decide (((m0 : Nat) : Int) > (488 : Int)))
 (R (.tuple #[(.slice none 0 0), (.int .i64 (5 : Int))]) w)
 (bindW (World.alloc w (.cells #[(.int .u8 (84 : Int)), (.int .u8 (87 : Int)), (.int .u8 (73 : Int)), (.int .u8 (78 : Int))] 5)) fun w1 =>
 ∃ (v2 : Value) (w3 : World), ((Sem.run @Go.Proofs.Tryz.prog (Go.convert 34 34 (.slice (some ⟨w.heap.size, 0, none⟩) 4 4)) w1) = (.ok v2 w3)) ∧
 Go.CW.Spec Tryz.prog 120 #[v2, (.int .u64 p0), (.int .i64 (8 : Int))] w3 fun v4 w5 =>
 ∃ (m6 : Nat), ((Go.CW.sliceLen p1) = (some m6)) ∧
 Go.CW.Spec Tryz.prog 120 #[v4, (.int .u64 (IntKind.wrap .u64 ((m6 : Nat) : Int))), (.int .i64 (2 : Int))] w5 fun v7 w8 =>
 ∃ (v9 : Value) (w10 : World), ((Sem.run @Go.Proofs.Tryz.prog (Go.Builtin.append_ #[34, 34] 34 #[v7, p1]) w8) = (.ok v9 w10)) ∧
 Go.CW.Spec Tryz.prog 252 #[v9, (.int .i64 (508 : Int))] w10 fun v11 w12 =>
 Go.CW.Spec Tryz.prog 218 #[v11] w12 fun v13 w14 =>
 R (.tuple #[v13, (.int .i64 (0 : Int))]) w14)
theorem twin_Pack_wp (p0 : Int) (p1 : Value) (w : World) (R : KV) (h : twin_Pack_F p0 p1 w R) : Go.CW.Spec Tryz.prog 188 #[(.int .u64 p0), p1] w R :=
  spec_of Tryz.func188 (by kernel_rfl) (show twin_Pack_F p0 p1 w R = _ by kernel_rfl) h
def twin_Format_1_F (p0 : Value) (p1 : Value) (w : World) (R : KV) : Prop :=
 withAddr p0 fun a0 =>
 ∃ (o1 : Option Addr), ((Go.World.cell? w a0) = (some (.pointer o1))) ∧
 withAddr p1 fun a2 =>
 ∃ (n3 : Int), ((Go.World.cell? w a2) = (some (.int .i64 n3))) ∧
 Go.CW.Spec Tryz.prog 190 #[(.pointer o1), (.int .i64 n3), (.slice none 0 0)] w fun v4 w5 =>
 ∃ (n6 : Int), ((v4 : Value) = (.int .i64 n6)) ∧
 R (.int .i64 n6) w5
theorem twin_Format_1_wp (p0 : Value) (p1 : Value) (w : World) (R : KV) (h : twin_Format_1_F p0 p1 w R) : Go.CW.Spec Tryz.prog 189 #[p0, p1] w R :=
  spec_of Tryz.func189 (by kernel_rfl) (show twin_Format_1_F p0 p1 w R = _ by kernel_rfl) h
def twin_Format_2_F (p0 : Value) (p1 : Value) (p2 : Value) (w : World) (R : KV) : Prop :=
 withAddr p0 fun a0 =>
 ∃ (o1 : Option Addr), ((Go.World.cell? w a0) = (some (.pointer o1))) ∧
 withAddr p1 fun a2 =>
 ∃ (n3 : Int), ((Go.World.cell? w a2) = (some (.int .i64 n3))) ∧
 withAddr p2 fun a4 =>
 ∃ (v5 : Value), ((Go.World.cell? w a4) = (some v5)) ∧
 Go.CW.Spec Tryz.prog 190 #[(.pointer o1), (.int .i64 (IntKind.wrap .i64 (n3 + (1 : Int)))), v5] w fun v6 w7 =>
 ∃ (n8 : Int), ((v6 : Value) = (.int .i64 n8)) ∧
 R (.int .i64 n8) w7
theorem twin_Format_2_wp (p0 : Value) (p1 : Value) (p2 : Value) (w : World) (R : KV) (h : twin_Format_2_F p0 p1 p2 w R) : Go.CW.Spec Tryz.prog 191 #[p0, p1, p2] w R :=
  spec_of Tryz.func191 (by kernel_rfl) (show twin_Format_2_F p0 p1 p2 w R = _ by kernel_rfl) h
def twin_Unpack_F (p0 : Value) (w : World) (R : KV) : Prop :=
 ∃ (m0 : Nat), ((Go.CW.sliceLen p0) = (some m0)) ∧
 cond (((m0 : Nat) : Int) != (512 : Int))
 (R (.tuple #[(.int .u64 (0 : Int)), (.slice none 0 0), (.int .i64 (3 : Int))]) w)
 (Go.CW.Spec Tryz.prog 29 #[p0] w fun v1 w2 =>
 ∃ (v3 : Value) (n4 : Int), ((v1 : Value) = (.tuple #[v3, (.int .i64 n4)])) ∧
 cond (n4 != (0 : Int))
 (R (.tuple #[(.int .u64 (0 : Int)), (.slice none 0 0), (.int .i64 n4)]) w2)
 (Go.CW.Spec Tryz.prog 148 #[v3, (.int .i64 (4 : Int)), (.int .i64 (8 : Int))] w2 fun v5 w6 =>
 ∃ (n7 : Int) (b8 : Bool), ((v5 : Value) = (.tuple #[(.int .u64 n7), (.bool b8)])) ∧
 Go.CW.Spec Tryz.prog 148 #[v3, (.int .i64 (12 : Int)), (.int .i64 (2 : Int))] w6 fun v9 w10 =>
 ∃ (n11 : Int) (b12 : Bool), ((v9 : Value) = (.tuple #[(.int .u64 n11), (.bool b12)])) ∧
 cond (decide (n11 > (488 : Int)))
 (R (.tuple #[(.int .u64 (0 : Int)), (.slice none 0 0), (.int .i64 (2 : Int))]) w10)
 (∃ (v13 : Value), ((Go.CW.subSlice v3 1 (some (.int .i64 (14 : Int))) (some (.int .i64 (IntKind.wrap .i64 ((14 : Int) + (IntKind.wrap .i64 n11))))) none) = (some v13)) ∧
 Go.CW.Spec Tryz.prog 85 #[v13] w10 fun v14 w15 =>
 Go.CW.Spec Tryz.prog 96 #[v14] w15 fun v16 w17 =>
 Go.CW.Spec Tryz.prog 188 #[(.int .u64 n7), v16] w17 fun v18 w19 =>
 ∃ (v20 : Value) (n21 : Int), ((v18 : Value) = (.tuple #[v20, (.int .i64 n21)])) ∧
 Go.CW.Spec Tryz.prog 134 #[v20, p0] w19 fun v22 w23 =>
 ∃ (b24 : Bool), ((v22 : Value) = (.bool b24)) ∧
 cond (!b24)
 (R (.tuple #[(.int .u64 (0 : Int)), (.slice none 0 0), (.int .i64 (2 : Int))]) w23)
 (R (.tuple #[(.int .u64 n7), v16, (.int .i64 (0 : Int))]) w23))))
theorem twin_Unpack_wp (p0 : Value) (w : World) (R : KV) (h : twin_Unpack_F p0 w R) : Go.CW.Spec Tryz.prog 194 #[p0] w R :=
  spec_of Tryz.func194 (by kernel_rfl) (show twin_Unpack_F p0 w R = _ by kernel_rfl) h
end Go.Proofs.YtghineciiljeoaaGreatDoor
end
section
set_option linter.unusedVariables false
set_option maxRecDepth 100000
namespace Go.Proofs.YtghineciiljeoaaGreatDoor
open Go Go.CW
def disk_New_F (p0 : Int) (w : World) (R : KV) : Prop :=
 JoinP [.bool]
 (fun (b0 : Bool) => fun (w1 : World) =>
 cond b0
 (R (.tuple #[(.pointer none), (.int .i64 (1 : Int))]) w1)
 (∃ (v2 : Value) (w3 : World), ((Sem.run @Go.Proofs.Tryz.prog (Go.Instr.makeMap 199 none) w1) = (.ok v2 w3)) ∧
 oneK v2 (bindW (World.alloc w3 (.cells #[(.int .i64 p0), v2, (.bool false), (.bool false), (.int .i64 (0 : Int)), (.slice none 0 0), (.int .i64 (0 : Int))] 201)) fun w4 =>
 R (.tuple #[(.pointer (some ⟨w3.heap.size, 0, none⟩)), (.int .i64 (0 : Int))]) w4)))
 (fun j5 =>
 cond (decide (p0 < (1 : Int)))
 (j5 true w)
 (j5 (decide (p0 > (4096 : Int))) w))
theorem disk_New_wp (p0 : Int) (w : World) (R : KV) (h : disk_New_F p0 w R) : Go.CW.Spec Tryz.prog 36 #[(.int .i64 p0)] w R :=
  spec_of Tryz.func36 (by kernel_rfl) (show disk_New_F p0 w R = _ by kernel_rfl) h
def disk_Disk_Write_m_F (p0 : Option Addr) (p1 : Int) (p2 : Value) (w : World) (R : KV) : Prop :=
 Go.CW.Spec Tryz.prog 253 #[(.pointer p0)] w fun v0 w1 =>
 ∃ (n2 : Int), ((v0 : Value) = (.int .i64 n2)) ∧
 cond (n2 != (0 : Int))
 (R (.int .i64 n2) w1)
 (JoinP [.bool]
 (fun (b3 : Bool) => fun (w4 : World) =>
 cond b3
 (R (.int .i64 (1 : Int)) w4)
 (Go.CW.Spec Tryz.prog 255 #[(.pointer p0)] w4 fun v5 w6 =>
 ∃ (n7 : Int), ((v5 : Value) = (.int .i64 n7)) ∧
 cond (n7 != (0 : Int))
 (R (.int .i64 n7) w6)
 (JoinP []
 (fun (w8 : World) =>
 bindW (World.drew w8) fun w9 =>
 withAddr (.pointer p0) fun a10 =>
 ∃ (v11 : Value), ((Go.World.cell? w9 (Addr.add a10 1)) = (some v11)) ∧
 ∃ (o12 : Option Addr), ((Sem.run @Go.Proofs.Tryz.prog (Go.Instr.lookup 199 v11 (.int .i64 p1) false) w9) = (.ok (.pointer o12) w9)) ∧
 withAddr (.pointer p0) fun a13 =>
 ∃ (v14 : Value), ((Go.World.cell? w9 (Addr.add a13 1)) = (some v14)) ∧
 ∃ (o15 : Option Addr), ((Sem.run @Go.Proofs.Tryz.prog (Go.Instr.lookup 199 v14 (.int .i64 p1) false) w9) = (.ok (.pointer o15) w9)) ∧
 withAddr (.pointer o15) fun a16 =>
 ∃ (v17 : Value), ((Go.World.cell? w9 (Addr.add a16 1)) = (some v17)) ∧
 bindW (World.drew w8) fun w18 =>
 Go.CW.Spec Tryz.prog 85 #[p2] w18 fun v19 w20 =>
 (∃ (v21 : Value), ((Go.World.cell? w20 (Addr.add a10 1)) = (some v21)) ∧
 (v21 : Value) = v11) ∧
 (∃ (o22 : Option Addr), ((Sem.run @Go.Proofs.Tryz.prog (Go.Instr.lookup 199 v11 (.int .i64 p1) false) w20) = (.ok (.pointer o22) w20)) ∧
 ((.pointer o22) : Value) = (.pointer o12)) ∧
 (∃ (v23 : Value), ((Go.World.cell? w20 (Addr.add a13 1)) = (some v23)) ∧
 (v23 : Value) = v14) ∧
 (∃ (o24 : Option Addr), ((Sem.run @Go.Proofs.Tryz.prog (Go.Instr.lookup 199 v14 (.int .i64 p1) false) w20) = (.ok (.pointer o24) w20)) ∧
 ((.pointer o24) : Value) = (.pointer o15)) ∧
 (∃ (v25 : Value), ((Go.World.cell? w20 (Addr.add a16 1)) = (some v25)) ∧
 (v25 : Value) = v17) ∧
 oneK v19 ((∃ (v26 : Value), ((Go.World.cell? (World.alloc w20 (.cells #[v19] 34)) (Addr.add a10 1)) = (some v26)) ∧
 (v26 : Value) = v11) ∧
 (∃ (o27 : Option Addr), ((Sem.run @Go.Proofs.Tryz.prog (Go.Instr.lookup 199 v11 (.int .i64 p1) false) (World.alloc w20 (.cells #[v19] 34))) = (.ok (.pointer o27) (World.alloc w20 (.cells #[v19] 34)))) ∧
 ((.pointer o27) : Value) = (.pointer o12)) ∧
 (∃ (v28 : Value), ((Go.World.cell? (World.alloc w20 (.cells #[v19] 34)) (Addr.add a13 1)) = (some v28)) ∧
 (v28 : Value) = v14) ∧
 (∃ (o29 : Option Addr), ((Sem.run @Go.Proofs.Tryz.prog (Go.Instr.lookup 199 v14 (.int .i64 p1) false) (World.alloc w20 (.cells #[v19] 34))) = (.ok (.pointer o29) (World.alloc w20 (.cells #[v19] 34)))) ∧
 ((.pointer o29) : Value) = (.pointer o15)) ∧
 (∃ (v30 : Value), ((Go.World.cell? (World.alloc w20 (.cells #[v19] 34)) (Addr.add a16 1)) = (some v30)) ∧
 (v30 : Value) = v17) ∧
 bindW (World.alloc w20 (.cells #[v19] 34)) fun w31 =>
 bindW (World.alloc w20 (.cells #[v19] 34)) fun w32 =>
 ∃ (v33 : Value) (w34 : World), ((Sem.run @Go.Proofs.Tryz.prog (Go.Builtin.append_ #[143, 143] 143 #[v17, (.slice (some ⟨w20.heap.size, 0, none⟩) 1 1)]) w32) = (.ok v33 w34)) ∧
 (∃ (v35 : Value), ((Go.World.cell? w34 (Addr.add a10 1)) = (some v35)) ∧
 (v35 : Value) = v11) ∧
 (∃ (o36 : Option Addr), ((Sem.run @Go.Proofs.Tryz.prog (Go.Instr.lookup 199 v11 (.int .i64 p1) false) w34) = (.ok (.pointer o36) w34)) ∧
 ((.pointer o36) : Value) = (.pointer o12)) ∧
 withAddr (.pointer o12) fun a37 =>
 oneK v33 ((St1 w34 (Addr.add a37 1)) ∧
 bindW (World.setCell w34 (Addr.add a37 1) v33) fun w38 =>
 bindW (World.setCell w34 (Addr.add a37 1) v33) fun w39 =>
 R (.int .i64 (0 : Int)) w39)))
 (fun j40 =>
 withAddr (.pointer p0) fun a41 =>
 ∃ (v42 : Value), ((Go.World.cell? w6 (Addr.add a41 1)) = (some v42)) ∧
 ∃ (o43 : Option Addr), ((Sem.run @Go.Proofs.Tryz.prog (Go.Instr.lookup 199 v42 (.int .i64 p1) false) w6) = (.ok (.pointer o43) w6)) ∧
 ∃ (b44 : Bool), ((Go.CW.isNilP (.pointer o43)) = (some b44)) ∧
 cond b44
 (withAddr (.pointer p0) fun a45 =>
 ∃ (v46 : Value), ((Go.World.cell? w6 (Addr.add a45 1)) = (some v46)) ∧
 bindW (World.alloc w6 (.cells #[(.slice none 0 0), (.slice none 0 0)] 234)) fun w47 =>
 ∃ (w48 : World), ((Sem.run @Go.Proofs.Tryz.prog (Go.Instr.mapUpdate 199 v46 (.int .i64 p1) (.pointer (some ⟨w6.heap.size, 0, none⟩))) w47) = (.ok PUnit.unit w48)) ∧
 j40 w48)
 (j40 w6)))))
 (fun j49 =>
 Go.CW.Spec Tryz.prog 254 #[(.pointer p0), (.int .i64 p1)] w1 fun v50 w51 =>
 ∃ (b52 : Bool), ((v50 : Value) = (.bool b52)) ∧
 cond (!b52)
 (j49 true w51)
 (∃ (m53 : Nat), ((Go.CW.sliceLen p2) = (some m53)) ∧
 j49 (decide (((m53 : Nat) : Int) > (512 : Int))) w51)))
theorem disk_Disk_Write_m_wp (p0 : Option Addr) (p1 : Int) (p2 : Value) (w : World) (R : KV) (h : disk_Disk_Write_m_F p0 p1 p2 w R) : Go.CW.Spec Tryz.prog 190 #[(.pointer p0), (.int .i64 p1), p2] w R :=
  spec_of Tryz.func190 (by kernel_rfl) (show disk_Disk_Write_m_F p0 p1 p2 w R = _ by kernel_rfl) h
def disk_Disk_Flush_m_F (p0 : Option Addr) (w : World) (R : KV) : Prop :=
 Go.CW.Spec Tryz.prog 253 #[(.pointer p0)] w fun v0 w1 =>
 ∃ (n2 : Int), ((v0 : Value) = (.int .i64 n2)) ∧
 cond (n2 != (0 : Int))
 (R (.int .i64 n2) w1)
 (Go.CW.Spec Tryz.prog 255 #[(.pointer p0)] w1 fun v3 w4 =>
 ∃ (n5 : Int), ((v3 : Value) = (.int .i64 n5)) ∧
 cond (n5 != (0 : Int))
 (R (.int .i64 n5) w4)
 (withAddr (.pointer p0) fun a6 =>
 ∃ (v7 : Value), ((Go.World.cell? w4 (Addr.add a6 1)) = (some v7)) ∧
 ∃ (v8 : Value) (w9 : World), ((Sem.run @Go.Proofs.Tryz.prog (Go.Instr.range 199 v7) w4) = (.ok v8 w9)) ∧
 LoopP []
 (fun j10 => fun (w11 : World) =>
 ((∃ (w12 : World), ((Sem.run @Go.Proofs.Tryz.prog (Go.Instr.next v8 false 0) w11) = (.ok (.tuple #[(.bool false)]) w12)) ∧
 R (.int .i64 (0 : Int)) w12) ∨
 (∃ (v13 : Value) (v14 : Value) (w15 : World), ((Sem.run @Go.Proofs.Tryz.prog (Go.Instr.next v8 false 0) w11) = (.ok (.tuple #[(.bool true), v13, v14]) w15)) ∧
 ((∃ (n16 : Int) (o17 : Option Addr), ((Sem.run @Go.Proofs.Tryz.prog (Go.Instr.entry v8) w15) = (.ok (.tuple #[(.int .i64 n16), (.pointer o17)]) w15)) ∧
 Go.CW.Spec Tryz.prog 256 #[(.pointer o17)] w15 fun v18 w19 =>
 withAddr (.pointer o17) fun a20 =>
 oneK v18 ((St1 w19 (Addr.add a20 0)) ∧
 bindW (World.setCell w19 (Addr.add a20 0) v18) fun w21 =>
 withAddr (.pointer o17) fun a22 =>
 (St1 w21 (Addr.add a22 1)) ∧
 bindW (World.setCell w21 (Addr.add a22 1) (.slice none 0 0)) fun w23 =>
 j10 w23)) ∨
 (((∃ (n24 : Int) (n25 : Int) (n26 : Int) (n27 : Int) (v28 : Value) (n29 : Int), ((Sem.run @Go.Proofs.Tryz.prog (Go.Instr.entry v8) w15) = (.ok (.tuple #[(.int .u64 n24), (.agg #[(.int .i64 n25), (.int .i64 n26), (.int .i64 n27), v28, (.int .i64 n29)])]) w15)) ∧
 Go.CW.Spec Tryz.prog 256 #[(.agg #[(.int .i64 n25), (.int .i64 n26), (.int .i64 n27), v28, (.int .i64 n29)])] w15 fun v30 w31 =>
 False) ∨
 (False)))))))
 (fun s32 => s32 w9)))
theorem disk_Disk_Flush_m_wp (p0 : Option Addr) (w : World) (R : KV) (h : disk_Disk_Flush_m_F p0 w R) : Go.CW.Spec Tryz.prog 192 #[(.pointer p0)] w R :=
  spec_of Tryz.func192 (by kernel_rfl) (show disk_Disk_Flush_m_F p0 w R = _ by kernel_rfl) h
def disk_Disk_Read_m_F (p0 : Option Addr) (p1 : Int) (w : World) (R : KV) : Prop :=
 Go.CW.Spec Tryz.prog 253 #[(.pointer p0)] w fun v0 w1 =>
 ∃ (n2 : Int), ((v0 : Value) = (.int .i64 n2)) ∧
 cond (n2 != (0 : Int))
 (R (.tuple #[(.slice none 0 0), (.int .i64 n2)]) w1)
 (Go.CW.Spec Tryz.prog 254 #[(.pointer p0), (.int .i64 p1)] w1 fun v3 w4 =>
 ∃ (b5 : Bool), ((v3 : Value) = (.bool b5)) ∧
 cond (!b5)
 (R (.tuple #[(.slice none 0 0), (.int .i64 (1 : Int))]) w4)
 (∃ (v6 : Value) (w7 : World), ((Sem.run @Go.Proofs.Tryz.prog (Go.Instr.makeSlice 34 (.int .i64 (512 : Int)) (.int .i64 (512 : Int))) w4) = (.ok v6 w7)) ∧
 JoinP []
 (fun (w8 : World) =>
 R (.tuple #[v6, (.int .i64 (0 : Int))]) w8)
 (fun j9 =>
 withAddr (.pointer p0) fun a10 =>
 ∃ (v11 : Value), ((Go.World.cell? w7 (Addr.add a10 1)) = (some v11)) ∧
 ∃ (o12 : Option Addr), ((Sem.run @Go.Proofs.Tryz.prog (Go.Instr.lookup 199 v11 (.int .i64 p1) false) w7) = (.ok (.pointer o12) w7)) ∧
 ∃ (b13 : Bool), ((Go.CW.isNilP (.pointer o12)) = (some b13)) ∧
 cond (!b13)
 (Go.CW.Spec Tryz.prog 256 #[(.pointer o12)] w7 fun v14 w15 =>
 ∃ (n16 : Int) (w17 : World), ((Sem.run @Go.Proofs.Tryz.prog (Go.Builtin.copy_ #[34, 34] 3 #[v6, v14]) w15) = (.ok (.int .i64 n16) w17)) ∧
 j9 w17)
 (j9 w7))))
theorem disk_Disk_Read_m_wp (p0 : Option Addr) (p1 : Int) (w : World) (R : KV) (h : disk_Disk_Read_m_F p0 p1 w R) : Go.CW.Spec Tryz.prog 193 #[(.pointer p0), (.int .i64 p1)] w R :=
  spec_of Tryz.func193 (by kernel_rfl) (show disk_Disk_Read_m_F p0 p1 w R = _ by kernel_rfl) h
def disk_Disk_Crash_m_F (p0 : Option Addr) (p1 : Value) (w : World) (R : KV) : Prop :=
 withAddr (.pointer p0) fun a0 =>
 ∃ (b1 : Bool), ((Go.World.cell? w (Addr.add a0 2)) = (some (.bool b1))) ∧
 cond b1
 (R (.tuple #[]) w)
 (withAddr (.pointer p0) fun a2 =>
 (St1 w (Addr.add a2 2)) ∧
 bindW (World.setCell w (Addr.add a2 2) (.bool true)) fun w3 =>
 withAddr (.pointer p0) fun a4 =>
 (St1 w3 (Addr.add a4 4)) ∧
 bindW (World.setCell w3 (Addr.add a4 4) (.int .i64 (0 : Int))) fun w5 =>
 withAddr (.pointer p0) fun a6 =>
 ∃ (b7 : Bool), ((Go.World.cell? w5 (Addr.add a6 3)) = (some (.bool b7))) ∧
 cond b7
 (R (.tuple #[]) w5)
 (withAddr (.pointer p0) fun a8 =>
 ∃ (v9 : Value), ((Go.World.cell? w5 (Addr.add a8 1)) = (some v9)) ∧
 Go.CW.Spec Tryz.prog 123 #[v9] w5 fun v10 w11 =>
 Go.CW.Spec Tryz.prog 122 #[v10] w11 fun v12 w13 =>
 ∃ (m14 : Nat), ((Go.CW.sliceLen v12) = (some m14)) ∧
 LoopP [.int .i64, .int .i64]
 (fun j15 => fun (n16 : Int) => fun (n17 : Int) => fun (w18 : World) =>
 cond (decide (n17 < ((m14 : Nat) : Int)))
 (JoinP [.int .i64]
 (fun (n19 : Int) => fun (w20 : World) =>
 j15 n19 (IntKind.wrap .i64 (n17 + (1 : Int))) w20)
 (fun j21 =>
 ∃ (a22 : Addr), ((Go.CW.sliceAt v12 n17 1) = (some a22)) ∧
 ∃ (n23 : Int), ((Go.World.cell? w18 a22) = (some (.int .i64 n23))) ∧
 withAddr (.pointer p0) fun a24 =>
 ∃ (v25 : Value), ((Go.World.cell? w18 (Addr.add a24 1)) = (some v25)) ∧
 ∃ (o26 : Option Addr), ((Sem.run @Go.Proofs.Tryz.prog (Go.Instr.lookup 199 v25 (.int .i64 n23) false) w18) = (.ok (.pointer o26) w18)) ∧
 withAddr (.pointer o26) fun a27 =>
 ∃ (v28 : Value), ((Go.World.cell? w18 (Addr.add a27 1)) = (some v28)) ∧
 ∃ (m29 : Nat), ((Go.CW.sliceLen v28) = (some m29)) ∧
 cond (((m29 : Nat) : Int) == (0 : Int))
 (j21 n16 w18)
 (JoinP [.int .i64]
 (fun (n30 : Int) => fun (w31 : World) =>
 JoinP []
 (fun (w32 : World) =>
 withAddr (.pointer o26) fun a33 =>
 (St1 w32 (Addr.add a33 1)) ∧
 bindW (World.setCell w32 (Addr.add a33 1) (.slice none 0 0)) fun w34 =>
 j21 (IntKind.wrap .i64 (n16 + (1 : Int))) w34)
 (fun j35 =>
 cond (decide (n30 > (0 : Int)))
 (withAddr (.pointer o26) fun a36 =>
 ∃ (v37 : Value), ((Go.World.cell? w31 (Addr.add a36 1)) = (some v37)) ∧
 ∃ (a38 : Addr), ((Go.CW.sliceAt v37 (IntKind.wrap .i64 (n30 - (1 : Int))) 1) = (some a38)) ∧
 ∃ (v39 : Value), ((Go.World.cell? w31 a38) = (some v39)) ∧
 withAddr (.pointer o26) fun a40 =>
 oneK v39 ((St1 w31 (Addr.add a40 0)) ∧
 bindW (World.setCell w31 (Addr.add a40 0) v39) fun w41 =>
 j35 w41))
 (j35 w31)))
 (fun j42 =>
 ∃ (m43 : Nat), ((Go.CW.sliceLen p1) = (some m43)) ∧
 cond (decide (n16 < ((m43 : Nat) : Int)))
 (∃ (a44 : Addr), ((Go.CW.sliceAt p1 n16 1) = (some a44)) ∧
 ∃ (n45 : Int), ((Go.World.cell? w18 a44) = (some (.int .i64 n45))) ∧
 nzK (IntKind.wrap .i64 (((m29 : Nat) : Int) + (1 : Int))) (cond (decide ((Int.tmod n45 (IntKind.wrap .i64 (((m29 : Nat) : Int) + (1 : Int)))) < (0 : Int)))
 (j42 (IntKind.wrap .i64 ((Int.tmod n45 (IntKind.wrap .i64 (((m29 : Nat) : Int) + (1 : Int)))) + (IntKind.wrap .i64 (((m29 : Nat) : Int) + (1 : Int))))) w18)
 (j42 (Int.tmod n45 (IntKind.wrap .i64 (((m29 : Nat) : Int) + (1 : Int)))) w18)))
 (j42 (0 : Int) w18)))))
 (R (.tuple #[]) w18))
 (fun s46 => s46 (0 : Int) (0 : Int) w13)))
theorem disk_Disk_Crash_m_wp (p0 : Option Addr) (p1 : Value) (w : World) (R : KV) (h : disk_Disk_Crash_m_F p0 p1 w R) : Go.CW.Spec Tryz.prog 47 #[(.pointer p0), p1] w R :=
  spec_of Tryz.func47 (by kernel_rfl) (show disk_Disk_Crash_m_F p0 p1 w R = _ by kernel_rfl) h
def disk_Disk_On_m_F (p0 : Option Addr) (w : World) (R : KV) : Prop :=
 withAddr (.pointer p0) fun a0 =>
 (St1 w (Addr.add a0 2)) ∧
 bindW (World.setCell w (Addr.add a0 2) (.bool false)) fun w1 =>
 withAddr (.pointer p0) fun a2 =>
 (St1 w1 (Addr.add a2 4)) ∧
 bindW (World.setCell w1 (Addr.add a2 4) (.int .i64 (0 : Int))) fun w3 =>
 R (.tuple #[]) w3
theorem disk_Disk_On_m_wp (p0 : Option Addr) (w : World) (R : KV) (h : disk_Disk_On_m_F p0 w R) : Go.CW.Spec Tryz.prog 41 #[(.pointer p0)] w R :=
  spec_of Tryz.func41 (by kernel_rfl) (show disk_Disk_On_m_F p0 w R = _ by kernel_rfl) h
def disk_Disk_Sectors_m_F (p0 : Option Addr) (w : World) (R : KV) : Prop :=
 withAddr (.pointer p0) fun a0 =>
 ∃ (n1 : Int), ((Go.World.cell? w (Addr.add a0 0)) = (some (.int .i64 n1))) ∧
 R (.int .i64 n1) w
theorem disk_Disk_Sectors_m_wp (p0 : Option Addr) (w : World) (R : KV) (h : disk_Disk_Sectors_m_F p0 w R) : Go.CW.Spec Tryz.prog 111 #[(.pointer p0)] w R :=
  spec_of Tryz.func111 (by kernel_rfl) (show disk_Disk_Sectors_m_F p0 w R = _ by kernel_rfl) h
def disk_Disk_state_m_F (p0 : Option Addr) (w : World) (R : KV) : Prop :=
 withAddr (.pointer p0) fun a0 =>
 ∃ (b1 : Bool), ((Go.World.cell? w (Addr.add a0 3)) = (some (.bool b1))) ∧
 cond b1
 (R (.int .i64 (9 : Int)) w)
 (withAddr (.pointer p0) fun a2 =>
 ∃ (b3 : Bool), ((Go.World.cell? w (Addr.add a2 2)) = (some (.bool b3))) ∧
 cond b3
 (R (.int .i64 (8 : Int)) w)
 (R (.int .i64 (0 : Int)) w))
theorem disk_Disk_state_m_wp (p0 : Option Addr) (w : World) (R : KV) (h : disk_Disk_state_m_F p0 w R) : Go.CW.Spec Tryz.prog 253 #[(.pointer p0)] w R :=
  spec_of Tryz.func253 (by kernel_rfl) (show disk_Disk_state_m_F p0 w R = _ by kernel_rfl) h
def disk_Disk_in_m_F (p0 : Option Addr) (p1 : Int) (w : World) (R : KV) : Prop :=
 JoinP [.bool]
 (fun (b0 : Bool) => fun (w1 : World) =>
 R (.bool b0) w1)
 (fun j2 =>
 cond (decide (p1 ≥ (0 : Int)))
 (withAddr (.pointer p0) fun a3 =>
 ∃ (n4 : Int), ((Go.World.cell? w (Addr.add a3 0)) = (some (.int .i64 n4))) ∧
 j2 (decide (p1 < n4)) w)
 (j2 false w))
theorem disk_Disk_in_m_wp (p0 : Option Addr) (p1 : Int) (w : World) (R : KV) (h : disk_Disk_in_m_F p0 p1 w R) : Go.CW.Spec Tryz.prog 254 #[(.pointer p0), (.int .i64 p1)] w R :=
  spec_of Tryz.func254 (by kernel_rfl) (show disk_Disk_in_m_F p0 p1 w R = _ by kernel_rfl) h
def disk_Disk_call_m_F (p0 : Option Addr) (w : World) (R : KV) : Prop :=
 JoinP []
 (fun (w0 : World) =>
 withAddr (.pointer p0) fun a1 =>
 ∃ (n2 : Int), ((Go.World.cell? w0 (Addr.add a1 6)) = (some (.int .i64 n2))) ∧
 withAddr (.pointer p0) fun a3 =>
 (St1 w0 (Addr.add a3 6)) ∧
 bindW (World.setCell w0 (Addr.add a3 6) (.int .i64 (IntKind.wrap .i64 (n2 + (1 : Int))))) fun w4 =>
 R (.int .i64 (0 : Int)) w4)
 (fun j5 =>
 withAddr (.pointer p0) fun a6 =>
 ∃ (n7 : Int), ((Go.World.cell? w (Addr.add a6 4)) = (some (.int .i64 n7))) ∧
 cond (decide (n7 > (0 : Int)))
 (withAddr (.pointer p0) fun a8 =>
 ∃ (n9 : Int), ((Go.World.cell? w (Addr.add a8 4)) = (some (.int .i64 n9))) ∧
 withAddr (.pointer p0) fun a10 =>
 (St1 w (Addr.add a10 4)) ∧
 bindW (World.setCell w (Addr.add a10 4) (.int .i64 (IntKind.wrap .i64 (n9 - (1 : Int))))) fun w11 =>
 withAddr (.pointer p0) fun a12 =>
 ∃ (n13 : Int), ((Go.World.cell? w11 (Addr.add a12 4)) = (some (.int .i64 n13))) ∧
 cond (n13 == (0 : Int))
 (withAddr (.pointer p0) fun a14 =>
 ∃ (v15 : Value), ((Go.World.cell? w11 (Addr.add a14 5)) = (some v15)) ∧
 Go.CW.Spec Tryz.prog 47 #[(.pointer p0), v15] w11 fun v16 w17 =>
 ((v16 : Value) = (.tuple #[])) ∧
 R (.int .i64 (8 : Int)) w17)
 (j5 w11))
 (j5 w))
theorem disk_Disk_call_m_wp (p0 : Option Addr) (w : World) (R : KV) (h : disk_Disk_call_m_F p0 w R) : Go.CW.Spec Tryz.prog 255 #[(.pointer p0)] w R :=
  spec_of Tryz.func255 (by kernel_rfl) (show disk_Disk_call_m_F p0 w R = _ by kernel_rfl) h
def disk_sector_now_m_F (p0 : Option Addr) (w : World) (R : KV) : Prop :=
 withAddr (.pointer p0) fun a0 =>
 ∃ (v1 : Value), ((Go.World.cell? w (Addr.add a0 1)) = (some v1)) ∧
 ∃ (m2 : Nat), ((Go.CW.sliceLen v1) = (some m2)) ∧
 cond (decide (((m2 : Nat) : Int) > (0 : Int)))
 (withAddr (.pointer p0) fun a3 =>
 ∃ (v4 : Value), ((Go.World.cell? w (Addr.add a3 1)) = (some v4)) ∧
 ∃ (a5 : Addr), ((Go.CW.sliceAt v4 (IntKind.wrap .i64 (((m2 : Nat) : Int) - (1 : Int))) 1) = (some a5)) ∧
 ∃ (v6 : Value), ((Go.World.cell? w a5) = (some v6)) ∧
 R v6 w)
 (withAddr (.pointer p0) fun a7 =>
 ∃ (v8 : Value), ((Go.World.cell? w (Addr.add a7 0)) = (some v8)) ∧
 R v8 w)
theorem disk_sector_now_m_wp (p0 : Option Addr) (w : World) (R : KV) (h : disk_sector_now_m_F p0 w R) : Go.CW.Spec Tryz.prog 256 #[(.pointer p0)] w R :=
  spec_of Tryz.func256 (by kernel_rfl) (show disk_sector_now_m_F p0 w R = _ by kernel_rfl) h
end Go.Proofs.YtghineciiljeoaaGreatDoor
end
section
set_option linter.unusedVariables false
set_option maxRecDepth 100000
namespace Go.Proofs.YtghineciiljeoaaGreatDoor
open Go Go.CW
def ring_Open_F (p0 : Option Addr) (p1 : Int) (p2 : Int) (p3 : Int) (p4 : Int) (p5 : Int) (w : World) (R : KV) : Prop :=
 JoinP [.bool]
 (fun (b0 : Bool) => fun (w1 : World) =>
 cond b0
 (R (.tuple #[(.pointer none), (.slice none 0 0), (.int .i64 (1 : Int))]) w1)
 (bindW (World.alloc w1 (.cells #[(.pointer p0), (.int .i64 p1), (.int .i64 p2), (.int .u64 p3), (.int .i64 p4), (.int .i64 (0 : Int)), (.int .u32 p5), (.slice none 0 0)] 320)) fun w2 =>
 Go.CW.Spec Tryz.prog 193 #[(.pointer p0), (.int .i64 p1)] w2 fun v3 w4 =>
 ∃ (v5 : Value) (n6 : Int), ((v3 : Value) = (.tuple #[v5, (.int .i64 n6)])) ∧
 cond (n6 != (0 : Int))
 (R (.tuple #[(.pointer none), (.slice none 0 0), (.int .i64 n6)]) w4)
 (LoopP [.val, .int .u32]
 (fun j7 => fun (v8 : Value) => fun (n9 : Int) => fun (w10 : World) =>
 Go.CW.Spec Tryz.prog 257 #[(.pointer (some ⟨w1.heap.size, 0, none⟩)), (.int .u32 n9)] w10 fun v11 w12 =>
 ∃ (v13 : Value) (n14 : Int) (b15 : Bool) (n16 : Int), ((v11 : Value) = (.tuple #[v13, (.int .u32 n14), (.bool b15), (.int .i64 n16)])) ∧
 cond (n16 != (0 : Int))
 (R (.tuple #[(.pointer none), (.slice none 0 0), (.int .i64 n16)]) w12)
 (cond (!b15)
 (Go.CW.Spec Tryz.prog 147 #[v8] w12 fun v17 w18 =>
 R (.tuple #[(.pointer (some ⟨w1.heap.size, 0, none⟩)), v17, (.int .i64 (0 : Int))]) w18)
 (Go.CW.Spec Tryz.prog 201 #[(.pointer (some ⟨w1.heap.size, 0, none⟩)), v13] w12 fun v19 w20 =>
 ((v19 : Value) = (.tuple #[])) ∧
 Go.CW.Spec Tryz.prog 85 #[v13] w20 fun v21 w22 =>
 Go.CW.Spec Tryz.prog 96 #[v21] w22 fun v23 w24 =>
 oneK v23 (bindW (World.alloc w24 (.cells #[v23] 34)) fun w25 =>
 ∃ (v26 : Value) (w27 : World), ((Sem.run @Go.Proofs.Tryz.prog (Go.Builtin.append_ #[143, 143] 143 #[v8, (.slice (some ⟨w24.heap.size, 0, none⟩) 1 1)]) w25) = (.ok v26 w27)) ∧
 j7 v26 n14 w27))))
 (fun s28 => s28 (.slice none 0 0) (0 : Int) w4))))
 (fun j29 =>
 cond (decide (p2 < (2 : Int)))
 (j29 true w)
 (cond (decide (p1 < (0 : Int)))
 (j29 true w)
 (Go.CW.Spec Tryz.prog 111 #[(.pointer p0)] w fun v30 w31 =>
 ∃ (n32 : Int), ((v30 : Value) = (.int .i64 n32)) ∧
 cond (decide (p1 > n32))
 (j29 true w31)
 (Go.CW.Spec Tryz.prog 111 #[(.pointer p0)] w31 fun v33 w34 =>
 ∃ (n35 : Int), ((v33 : Value) = (.int .i64 n35)) ∧
 cond (decide (p2 > (IntKind.wrap .i64 (n35 - p1))))
 (j29 true w34)
 (cond (decide (p4 < (0 : Int)))
 (j29 true w34)
 (cond (decide (p4 ≥ p2))
 (j29 true w34)
 (j29 (decide (p3 > (4611686018427387904 : Int))) w34)))))))
theorem ring_Open_wp (p0 : Option Addr) (p1 : Int) (p2 : Int) (p3 : Int) (p4 : Int) (p5 : Int) (w : World) (R : KV) (h : ring_Open_F p0 p1 p2 p3 p4 p5 w R) : Go.CW.Spec Tryz.prog 196 #[(.pointer p0), (.int .i64 p1), (.int .i64 p2), (.int .u64 p3), (.int .i64 p4), (.int .u32 p5)] w R :=
  spec_of Tryz.func196 (by kernel_rfl) (show ring_Open_F p0 p1 p2 p3 p4 p5 w R = _ by kernel_rfl) h
def ring_Need_F (p0 : Int) (w : World) (R : KV) : Prop :=
 JoinP [.int .i64]
 (fun (n0 : Int) => fun (w1 : World) =>
 R (.int .i64 (if n0 < (1 : Int) then (1 : Int) else n0)) w1)
 (fun j2 =>
 cond (decide (p0 > (IntKind.wrap .i64 ((IntKind.wrap .i64 (Int.tdiv (if p0 < (0 : Int) then (0 : Int) else p0) (480 : Int))) * (480 : Int)))))
 (j2 (IntKind.wrap .i64 ((IntKind.wrap .i64 (Int.tdiv (if p0 < (0 : Int) then (0 : Int) else p0) (480 : Int))) + (1 : Int))) w)
 (j2 (IntKind.wrap .i64 (Int.tdiv (if p0 < (0 : Int) then (0 : Int) else p0) (480 : Int))) w))
theorem ring_Need_wp (p0 : Int) (w : World) (R : KV) (h : ring_Need_F p0 w R) : Go.CW.Spec Tryz.prog 197 #[(.int .i64 p0)] w R :=
  spec_of Tryz.func197 (by kernel_rfl) (show ring_Need_F p0 w R = _ by kernel_rfl) h
def ring_Ring_Room_m_F (p0 : Option Addr) (w : World) (R : KV) : Prop :=
 bindW (World.drew w) fun w0 =>
 withAddr (.pointer p0) fun a1 =>
 ∃ (n2 : Int), ((Go.World.cell? w0 (Addr.add a1 2)) = (some (.int .i64 n2))) ∧
 withAddr (.pointer p0) fun a3 =>
 ∃ (n4 : Int), ((Go.World.cell? w0 (Addr.add a3 5)) = (some (.int .i64 n4))) ∧
 bindW (World.drew w) fun w5 =>
 R (.int .i64 (IntKind.wrap .i64 (n2 - n4))) w5
theorem ring_Ring_Room_m_wp (p0 : Option Addr) (w : World) (R : KV) (h : ring_Ring_Room_m_F p0 w R) : Go.CW.Spec Tryz.prog 198 #[(.pointer p0)] w R :=
  spec_of Tryz.func198 (by kernel_rfl) (show ring_Ring_Room_m_F p0 w R = _ by kernel_rfl) h
def ring_Ring_Next_m_F (p0 : Option Addr) (w : World) (R : KV) : Prop :=
 bindW (World.drew w) fun w0 =>
 withAddr (.pointer p0) fun a1 =>
 ∃ (n2 : Int), ((Go.World.cell? w0 (Addr.add a1 3)) = (some (.int .u64 n2))) ∧
 withAddr (.pointer p0) fun a3 =>
 ∃ (v4 : Value), ((Go.World.cell? w0 (Addr.add a3 7)) = (some v4)) ∧
 ∃ (m5 : Nat), ((Go.CW.sliceLen v4) = (some m5)) ∧
 bindW (World.drew w) fun w6 =>
 R (.int .u64 (IntKind.wrap .u64 (n2 + (IntKind.wrap .u64 ((m5 : Nat) : Int))))) w6
theorem ring_Ring_Next_m_wp (p0 : Option Addr) (w : World) (R : KV) (h : ring_Ring_Next_m_F p0 w R) : Go.CW.Spec Tryz.prog 199 #[(.pointer p0)] w R :=
  spec_of Tryz.func199 (by kernel_rfl) (show ring_Ring_Next_m_F p0 w R = _ by kernel_rfl) h
def ring_Pack_F (p0 : Int) (p1 : Int) (p2 : Int) (p3 : Int) (p4 : Value) (w : World) (R : KV) : Prop :=
 JoinP [.bool]
 (fun (b0 : Bool) => fun (w1 : World) =>
 cond b0
 (R (.tuple #[(.slice none 0 0), (.int .i64 (1 : Int))]) w1)
 (∃ (m2 : Nat), ((Go.CW.sliceLen p4) = (some m2)) ∧
 cond (decide (((m2 : Nat) : Int) > (480 : Int)))
 (R (.tuple #[(.slice none 0 0), (.int .i64 (5 : Int))]) w1)
 (bindW (World.alloc w1 (.cells #[(.int .u8 (82 : Int)), (.int .u8 (73 : Int)), (.int .u8 (78 : Int)), (.int .u8 (71 : Int))] 5)) fun w3 =>
 ∃ (v4 : Value) (w5 : World), ((Sem.run @Go.Proofs.Tryz.prog (Go.convert 34 34 (.slice (some ⟨w1.heap.size, 0, none⟩) 4 4)) w3) = (.ok v4 w5)) ∧
 Go.CW.Spec Tryz.prog 120 #[v4, (.int .u64 p0), (.int .i64 (8 : Int))] w5 fun v6 w7 =>
 Go.CW.Spec Tryz.prog 120 #[v6, (.int .u64 (IntKind.wrap .u64 p1)), (.int .i64 (4 : Int))] w7 fun v8 w9 =>
 ∃ (m10 : Nat), ((Go.CW.sliceLen p4) = (some m10)) ∧
 bindW (World.alloc w9 (.cells #[(.int .i64 p2), (.int .i64 p3), (.int .i64 ((m10 : Nat) : Int))] 3)) fun w11 =>
 ∃ (m12 : Nat), ((Go.CW.sliceLen (.slice (some ⟨w9.heap.size, 0, none⟩) 3 3)) = (some m12)) ∧
 LoopP [.val, .int .i64]
 (fun j13 => fun (v14 : Value) => fun (n15 : Int) => fun (w16 : World) =>
 cond (decide (n15 < ((m12 : Nat) : Int)))
 (∃ (a17 : Addr), ((Go.CW.sliceAt (.slice (some ⟨w9.heap.size, 0, none⟩) 3 3) n15 1) = (some a17)) ∧
 ∃ (n18 : Int), ((Go.World.cell? w16 a17) = (some (.int .i64 n18))) ∧
 Go.CW.Spec Tryz.prog 120 #[v14, (.int .u64 (IntKind.wrap .u64 n18)), (.int .i64 (2 : Int))] w16 fun v19 w20 =>
 j13 v19 (IntKind.wrap .i64 (n15 + (1 : Int))) w20)
 (∃ (v21 : Value) (w22 : World), ((Sem.run @Go.Proofs.Tryz.prog (Go.Builtin.append_ #[34, 34] 34 #[v14, p4]) w16) = (.ok v21 w22)) ∧
 Go.CW.Spec Tryz.prog 252 #[v21, (.int .i64 (508 : Int))] w22 fun v23 w24 =>
 Go.CW.Spec Tryz.prog 218 #[v23] w24 fun v25 w26 =>
 R (.tuple #[v25, (.int .i64 (0 : Int))]) w26))
 (fun s27 => s27 v8 (0 : Int) w11))))
 (fun j28 =>
 cond (decide (p2 < (0 : Int)))
 (j28 true w)
 (cond (decide (p2 ≥ p3))
 (j28 true w)
 (j28 (decide (p3 > (65535 : Int))) w)))
theorem ring_Pack_wp (p0 : Int) (p1 : Int) (p2 : Int) (p3 : Int) (p4 : Value) (w : World) (R : KV) (h : ring_Pack_F p0 p1 p2 p3 p4 w R) : Go.CW.Spec Tryz.prog 200 #[(.int .u64 p0), (.int .u32 p1), (.int .i64 p2), (.int .i64 p3), p4] w R :=
  spec_of Tryz.func200 (by kernel_rfl) (show ring_Pack_F p0 p1 p2 p3 p4 w R = _ by kernel_rfl) h
def ring_Ring_keep_m_F (p0 : Option Addr) (p1 : Value) (w : World) (R : KV) : Prop :=
 bindW (World.drew w) fun w0 =>
 withAddr (.pointer p0) fun a1 =>
 ∃ (v2 : Value), ((Go.World.cell? w0 (Addr.add a1 7)) = (some v2)) ∧
 withAddr (.pointer p0) fun a3 =>
 ∃ (n4 : Int), ((Go.World.cell? w0 (Addr.add a3 4)) = (some (.int .i64 n4))) ∧
 bindW (World.drew w) fun w5 =>
 Go.CW.Spec Tryz.prog 85 #[p1] w5 fun v6 w7 =>
 (∃ (v8 : Value), ((Go.World.cell? w7 (Addr.add a1 7)) = (some v8)) ∧
 (v8 : Value) = v2) ∧
 (∃ (n9 : Int), ((Go.World.cell? w7 (Addr.add a3 4)) = (some (.int .i64 n9))) ∧
 ((.int .i64 n9) : Value) = (.int .i64 n4)) ∧
 oneK v6 ((∃ (v10 : Value), ((Go.World.cell? (World.alloc w7 (.cells #[(.int .i64 n4), v6] 375)) (Addr.add a1 7)) = (some v10)) ∧
 (v10 : Value) = v2) ∧
 bindW (World.alloc w7 (.cells #[(.int .i64 n4), v6] 375)) fun w11 =>
 bindW (World.alloc w7 (.cells #[(.int .i64 n4), v6] 375)) fun w12 =>
 ∃ (v13 : Value) (w14 : World), ((Sem.run @Go.Proofs.Tryz.prog (Go.Builtin.append_ #[318, 318] 318 #[v2, (.slice (some ⟨w7.heap.size, 0, none⟩) 1 1)]) w12) = (.ok v13 w14)) ∧
 withAddr (.pointer p0) fun a15 =>
 oneK v13 ((St1 w14 (Addr.add a15 7)) ∧
 bindW (World.setCell w14 (Addr.add a15 7) v13) fun w16 =>
 bindW (World.setCell w14 (Addr.add a15 7) v13) fun w17 =>
 bindW (World.drew w17) fun w18 =>
 withAddr (.pointer p0) fun a19 =>
 ∃ (n20 : Int), ((Go.World.cell? w18 (Addr.add a19 5)) = (some (.int .i64 n20))) ∧
 ∃ (m21 : Nat), ((Go.CW.sliceLen p1) = (some m21)) ∧
 bindW (World.drew w17) fun w22 =>
 Go.CW.Spec Tryz.prog 197 #[(.int .i64 ((m21 : Nat) : Int))] w22 fun v23 w24 =>
 ∃ (n25 : Int), ((v23 : Value) = (.int .i64 n25)) ∧
 (∃ (n26 : Int), ((Go.World.cell? w24 (Addr.add a19 5)) = (some (.int .i64 n26))) ∧
 ((.int .i64 n26) : Value) = (.int .i64 n20)) ∧
 withAddr (.pointer p0) fun a27 =>
 (St1 w24 (Addr.add a27 5)) ∧
 bindW (World.setCell w24 (Addr.add a27 5) (.int .i64 (IntKind.wrap .i64 (n20 + n25)))) fun w28 =>
 bindW (World.setCell w24 (Addr.add a27 5) (.int .i64 (IntKind.wrap .i64 (n20 + n25)))) fun w29 =>
 bindW (World.drew w29) fun w30 =>
 withAddr (.pointer p0) fun a31 =>
 ∃ (n32 : Int), ((Go.World.cell? w30 (Addr.add a31 4)) = (some (.int .i64 n32))) ∧
 ∃ (m33 : Nat), ((Go.CW.sliceLen p1) = (some m33)) ∧
 withAddr (.pointer p0) fun a34 =>
 ∃ (n35 : Int), ((Go.World.cell? w30 (Addr.add a34 2)) = (some (.int .i64 n35))) ∧
 bindW (World.drew w29) fun w36 =>
 Go.CW.Spec Tryz.prog 197 #[(.int .i64 ((m33 : Nat) : Int))] w36 fun v37 w38 =>
 ∃ (n39 : Int), ((v37 : Value) = (.int .i64 n39)) ∧
 (∃ (n40 : Int), ((Go.World.cell? w38 (Addr.add a31 4)) = (some (.int .i64 n40))) ∧
 ((.int .i64 n40) : Value) = (.int .i64 n32)) ∧
 (∃ (n41 : Int), ((Go.World.cell? w38 (Addr.add a34 2)) = (some (.int .i64 n41))) ∧
 ((.int .i64 n41) : Value) = (.int .i64 n35)) ∧
 nzK n35 (withAddr (.pointer p0) fun a42 =>
 (St1 w38 (Addr.add a42 4)) ∧
 bindW (World.setCell w38 (Addr.add a42 4) (.int .i64 (Int.tmod (IntKind.wrap .i64 (n32 + n39)) n35))) fun w43 =>
 bindW (World.setCell w38 (Addr.add a42 4) (.int .i64 (Int.tmod (IntKind.wrap .i64 (n32 + n39)) n35))) fun w44 =>
 R (.tuple #[]) w44)))
theorem ring_Ring_keep_m_wp (p0 : Option Addr) (p1 : Value) (w : World) (R : KV) (h : ring_Ring_keep_m_F p0 p1 w R) : Go.CW.Spec Tryz.prog 201 #[(.pointer p0), p1] w R :=
  spec_of Tryz.func201 (by kernel_rfl) (show ring_Ring_keep_m_F p0 p1 w R = _ by kernel_rfl) h
def ring_Ring_Append_m_F (p0 : Option Addr) (p1 : Value) (w : World) (R : KV) : Prop :=
 ∃ (m0 : Nat), ((Go.CW.sliceLen p1) = (some m0)) ∧
 Go.CW.Spec Tryz.prog 197 #[(.int .i64 ((m0 : Nat) : Int))] w fun v1 w2 =>
 ∃ (n3 : Int), ((v1 : Value) = (.int .i64 n3)) ∧
 ∃ (m4 : Nat), ((Go.CW.sliceLen p1) = (some m4)) ∧
 cond (decide (((m4 : Nat) : Int) > (32768 : Int)))
 (R (.tuple #[(.int .u64 (0 : Int)), (.int .i64 (5 : Int))]) w2)
 (Go.CW.Spec Tryz.prog 198 #[(.pointer p0)] w2 fun v5 w6 =>
 ∃ (n7 : Int), ((v5 : Value) = (.int .i64 n7)) ∧
 cond (decide (n3 > n7))
 (R (.tuple #[(.int .u64 (0 : Int)), (.int .i64 (7 : Int))]) w6)
 (Go.CW.Spec Tryz.prog 199 #[(.pointer p0)] w6 fun v8 w9 =>
 ∃ (n10 : Int), ((v8 : Value) = (.int .u64 n10)) ∧
 LoopP [.int .i64]
 (fun j11 => fun (n12 : Int) => fun (w13 : World) =>
 cond (decide (n12 < n3))
 (bindW (World.drew w13) fun w14 =>
 withAddr (.pointer p0) fun a15 =>
 ∃ (n16 : Int), ((Go.World.cell? w14 (Addr.add a15 6)) = (some (.int .u32 n16))) ∧
 ∃ (m17 : Nat), ((Go.CW.sliceLen p1) = (some m17)) ∧
 ∃ (v18 : Value), ((Go.CW.subSlice p1 1 (some (.int .i64 (IntKind.wrap .i64 (n12 * (480 : Int))))) (some (.int .i64 (if ((m17 : Nat) : Int) < (IntKind.wrap .i64 ((IntKind.wrap .i64 (n12 + (1 : Int))) * (480 : Int))) then ((m17 : Nat) : Int) else (IntKind.wrap .i64 ((IntKind.wrap .i64 (n12 + (1 : Int))) * (480 : Int)))))) none) = (some v18)) ∧
 bindW (World.drew w13) fun w19 =>
 Go.CW.Spec Tryz.prog 200 #[(.int .u64 n10), (.int .u32 n16), (.int .i64 n12), (.int .i64 n3), v18] w19 fun v20 w21 =>
 ∃ (v22 : Value) (n23 : Int), ((v20 : Value) = (.tuple #[v22, (.int .i64 n23)])) ∧
 bindW (World.drew w21) fun w24 =>
 withAddr (.pointer p0) fun a25 =>
 ∃ (o26 : Option Addr), ((Go.World.cell? w24 (Addr.add a25 0)) = (some (.pointer o26))) ∧
 withAddr (.pointer p0) fun a27 =>
 ∃ (n28 : Int), ((Go.World.cell? w24 (Addr.add a27 1)) = (some (.int .i64 n28))) ∧
 withAddr (.pointer p0) fun a29 =>
 ∃ (n30 : Int), ((Go.World.cell? w24 (Addr.add a29 4)) = (some (.int .i64 n30))) ∧
 withAddr (.pointer p0) fun a31 =>
 ∃ (n32 : Int), ((Go.World.cell? w24 (Addr.add a31 2)) = (some (.int .i64 n32))) ∧
 nzK n32 (bindW (World.drew w21) fun w33 =>
 Go.CW.Spec Tryz.prog 190 #[(.pointer o26), (.int .i64 (IntKind.wrap .i64 (n28 + (Int.tmod (IntKind.wrap .i64 (n30 + n12)) n32)))), v22] w33 fun v34 w35 =>
 ∃ (n36 : Int), ((v34 : Value) = (.int .i64 n36)) ∧
 cond (n36 != (0 : Int))
 (R (.tuple #[(.int .u64 (0 : Int)), (.int .i64 n36)]) w35)
 (j11 (IntKind.wrap .i64 (n12 + (1 : Int))) w35)))
 (Go.CW.Spec Tryz.prog 201 #[(.pointer p0), p1] w13 fun v37 w38 =>
 ((v37 : Value) = (.tuple #[])) ∧
 R (.tuple #[(.int .u64 n10), (.int .i64 (0 : Int))]) w38))
 (fun s39 => s39 (0 : Int) w9)))
theorem ring_Ring_Append_m_wp (p0 : Option Addr) (p1 : Value) (w : World) (R : KV) (h : ring_Ring_Append_m_F p0 p1 w R) : Go.CW.Spec Tryz.prog 119 #[(.pointer p0), p1] w R :=
  spec_of Tryz.func119 (by kernel_rfl) (show ring_Ring_Append_m_F p0 p1 w R = _ by kernel_rfl) h
def ring_Ring_Flush_m_F (p0 : Option Addr) (w : World) (R : KV) : Prop :=
 withAddr (.pointer p0) fun a0 =>
 ∃ (o1 : Option Addr), ((Go.World.cell? w (Addr.add a0 0)) = (some (.pointer o1))) ∧
 Go.CW.Spec Tryz.prog 192 #[(.pointer o1)] w fun v2 w3 =>
 ∃ (n4 : Int), ((v2 : Value) = (.int .i64 n4)) ∧
 R (.int .i64 n4) w3
theorem ring_Ring_Flush_m_wp (p0 : Option Addr) (w : World) (R : KV) (h : ring_Ring_Flush_m_F p0 w R) : Go.CW.Spec Tryz.prog 121 #[(.pointer p0)] w R :=
  spec_of Tryz.func121 (by kernel_rfl) (show ring_Ring_Flush_m_F p0 w R = _ by kernel_rfl) h
def ring_Ring_scan_m_F (p0 : Option Addr) (p1 : Int) (w : World) (R : KV) : Prop :=
 JoinP [.val, .int .u32, .bool]
 (fun (v0 : Value) => fun (n1 : Int) => fun (b2 : Bool) => fun (w3 : World) =>
 R (.tuple #[v0, (.int .u32 n1), (.bool b2), (.int .i64 (0 : Int))]) w3)
 (fun j4 =>
 LoopP [.val, .int .u32, .bool, .int .i64, .int .i64]
 (fun j5 => fun (v6 : Value) => fun (n7 : Int) => fun (b8 : Bool) => fun (n9 : Int) => fun (n10 : Int) => fun (w11 : World) =>
 cond (decide (n10 < n9))
 (bindW (World.drew w11) fun w12 =>
 withAddr (.pointer p0) fun a13 =>
 ∃ (n14 : Int), ((Go.World.cell? w12 (Addr.add a13 5)) = (some (.int .i64 n14))) ∧
 withAddr (.pointer p0) fun a15 =>
 ∃ (n16 : Int), ((Go.World.cell? w12 (Addr.add a15 2)) = (some (.int .i64 n16))) ∧
 bindW (World.drew w11) fun w17 =>
 cond (decide ((IntKind.wrap .i64 (n14 + n10)) ≥ n16))
 (R (.tuple #[(.slice none 0 0), (.int .u32 (0 : Int)), (.bool false), (.int .i64 (0 : Int))]) w17)
 (bindW (World.drew w17) fun w18 =>
 withAddr (.pointer p0) fun a19 =>
 ∃ (o20 : Option Addr), ((Go.World.cell? w18 (Addr.add a19 0)) = (some (.pointer o20))) ∧
 withAddr (.pointer p0) fun a21 =>
 ∃ (n22 : Int), ((Go.World.cell? w18 (Addr.add a21 1)) = (some (.int .i64 n22))) ∧
 withAddr (.pointer p0) fun a23 =>
 ∃ (n24 : Int), ((Go.World.cell? w18 (Addr.add a23 4)) = (some (.int .i64 n24))) ∧
 withAddr (.pointer p0) fun a25 =>
 ∃ (n26 : Int), ((Go.World.cell? w18 (Addr.add a25 2)) = (some (.int .i64 n26))) ∧
 nzK n26 (bindW (World.drew w17) fun w27 =>
 Go.CW.Spec Tryz.prog 193 #[(.pointer o20), (.int .i64 (IntKind.wrap .i64 (n22 + (Int.tmod (IntKind.wrap .i64 (n24 + n10)) n26))))] w27 fun v28 w29 =>
 ∃ (v30 : Value) (n31 : Int), ((v28 : Value) = (.tuple #[v30, (.int .i64 n31)])) ∧
 cond (n31 != (0 : Int))
 (R (.tuple #[(.slice none 0 0), (.int .u32 (0 : Int)), (.bool false), (.int .i64 n31)]) w29)
 (Go.CW.Spec Tryz.prog 295 #[v30] w29 fun v32 w33 =>
 ∃ (n34 : Int) (n35 : Int) (n36 : Int) (n37 : Int) (v38 : Value) (n39 : Int), ((v32 : Value) = (.tuple #[(.int .u64 n34), (.int .u32 n35), (.int .i64 n36), (.int .i64 n37), v38, (.int .i64 n39)])) ∧
 JoinP [.bool]
 (fun (b40 : Bool) => fun (w41 : World) =>
 cond b40
 (j4 v6 n7 b8 w41)
 (JoinP [.int .u32, .int .i64]
 (fun (n42 : Int) => fun (n43 : Int) => fun (w44 : World) =>
 JoinP [.bool]
 (fun (b45 : Bool) => fun (w46 : World) =>
 JoinP [.bool]
 (fun (b47 : Bool) => fun (w48 : World) =>
 cond b47
 (j4 v6 n42 b8 w48)
 (∃ (v49 : Value) (w50 : World), ((Sem.run @Go.Proofs.Tryz.prog (Go.Builtin.append_ #[34, 34] 34 #[v6, v38]) w48) = (.ok v49 w50)) ∧
 j5 v49 n42 (n10 == (IntKind.wrap .i64 (n43 - (1 : Int)))) n43 (IntKind.wrap .i64 (n10 + (1 : Int))) w50))
 (fun j51 =>
 cond (n37 != n43)
 (j51 true w46)
 (cond (n35 != n42)
 (j51 true w46)
 (j51 (!b45) w46))))
 (fun j52 =>
 cond (decide (n36 < (IntKind.wrap .i64 (n37 - (1 : Int)))))
 (∃ (m53 : Nat), ((Go.CW.sliceLen v38) = (some m53)) ∧
 cond (((m53 : Nat) : Int) == (480 : Int))
 (j52 true w44)
 (cond (n36 == (IntKind.wrap .i64 (n37 - (1 : Int))))
 (∃ (m54 : Nat), ((Go.CW.sliceLen v38) = (some m54)) ∧
 cond (decide (((m54 : Nat) : Int) > (0 : Int)))
 (j52 true w44)
 (j52 (n37 == (1 : Int)) w44))
 (j52 false w44)))
 (cond (n36 == (IntKind.wrap .i64 (n37 - (1 : Int))))
 (∃ (m55 : Nat), ((Go.CW.sliceLen v38) = (some m55)) ∧
 cond (decide (((m55 : Nat) : Int) > (0 : Int)))
 (j52 true w44)
 (j52 (n37 == (1 : Int)) w44))
 (j52 false w44))))
 (fun j56 =>
 cond (n10 == (0 : Int))
 (j56 n35 n37 w41)
 (j56 n7 n9 w41))))
 (fun j57 =>
 cond (n39 != (0 : Int))
 (j57 true w33)
 (Go.CW.Spec Tryz.prog 199 #[(.pointer p0)] w33 fun v58 w59 =>
 ∃ (n60 : Int), ((v58 : Value) = (.int .u64 n60)) ∧
 cond (n34 != n60)
 (j57 true w59)
 (cond (n36 != n10)
 (j57 true w59)
 (cond (decide (n35 < p1))
 (j57 true w59)
 (withAddr (.pointer p0) fun a61 =>
 ∃ (n62 : Int), ((Go.World.cell? w59 (Addr.add a61 6)) = (some (.int .u32 n62))) ∧
 j57 (decide (n35 > n62)) w59)))))))))
 (j4 v6 n7 b8 w11))
 (fun s63 => s63 (.slice none 0 0) (0 : Int) false (1 : Int) (0 : Int) w))
theorem ring_Ring_scan_m_wp (p0 : Option Addr) (p1 : Int) (w : World) (R : KV) (h : ring_Ring_scan_m_F p0 p1 w R) : Go.CW.Spec Tryz.prog 257 #[(.pointer p0), (.int .u32 p1)] w R :=
  spec_of Tryz.func257 (by kernel_rfl) (show ring_Ring_scan_m_F p0 p1 w R = _ by kernel_rfl) h
def ring_Unpack_F (p0 : Value) (w : World) (R : KV) : Prop :=
 ∃ (m0 : Nat), ((Go.CW.sliceLen p0) = (some m0)) ∧
 cond (((m0 : Nat) : Int) != (512 : Int))
 (R (.tuple #[(.int .u64 (0 : Int)), (.int .u32 (0 : Int)), (.int .i64 (0 : Int)), (.int .i64 (0 : Int)), (.slice none 0 0), (.int .i64 (3 : Int))]) w)
 (Go.CW.Spec Tryz.prog 29 #[p0] w fun v1 w2 =>
 ∃ (v3 : Value) (n4 : Int), ((v1 : Value) = (.tuple #[v3, (.int .i64 n4)])) ∧
 bindW (World.alloc w2 (.cells #[(.slice none 0 0)] 34)) fun w5 =>
 oneK v3 ((St1 w5 ⟨w2.heap.size, 0, none⟩) ∧
 bindW (World.setCell w5 ⟨w2.heap.size, 0, none⟩ v3) fun w6 =>
 cond (n4 != (0 : Int))
 (R (.tuple #[(.int .u64 (0 : Int)), (.int .u32 (0 : Int)), (.int .i64 (0 : Int)), (.int .i64 (0 : Int)), (.slice none 0 0), (.int .i64 n4)]) w6)
 (Go.CW.Spec Tryz.prog 335 #[(.int .i64 (4 : Int)), (.int .i64 (8 : Int)), (.pointer (some ⟨w2.heap.size, 0, none⟩))] w6 fun v7 w8 =>
 ∃ (n9 : Int), ((v7 : Value) = (.int .u64 n9)) ∧
 Go.CW.Spec Tryz.prog 335 #[(.int .i64 (12 : Int)), (.int .i64 (4 : Int)), (.pointer (some ⟨w2.heap.size, 0, none⟩))] w8 fun v10 w11 =>
 ∃ (n12 : Int), ((v10 : Value) = (.int .u64 n12)) ∧
 Go.CW.Spec Tryz.prog 335 #[(.int .i64 (16 : Int)), (.int .i64 (2 : Int)), (.pointer (some ⟨w2.heap.size, 0, none⟩))] w11 fun v13 w14 =>
 ∃ (n15 : Int), ((v13 : Value) = (.int .u64 n15)) ∧
 Go.CW.Spec Tryz.prog 335 #[(.int .i64 (18 : Int)), (.int .i64 (2 : Int)), (.pointer (some ⟨w2.heap.size, 0, none⟩))] w14 fun v16 w17 =>
 ∃ (n18 : Int), ((v16 : Value) = (.int .u64 n18)) ∧
 Go.CW.Spec Tryz.prog 335 #[(.int .i64 (20 : Int)), (.int .i64 (2 : Int)), (.pointer (some ⟨w2.heap.size, 0, none⟩))] w17 fun v19 w20 =>
 ∃ (n21 : Int), ((v19 : Value) = (.int .u64 n21)) ∧
 cond (decide ((IntKind.wrap .i64 n21) > (480 : Int)))
 (R (.tuple #[(.int .u64 (0 : Int)), (.int .u32 (0 : Int)), (.int .i64 (0 : Int)), (.int .i64 (0 : Int)), (.slice none 0 0), (.int .i64 (2 : Int))]) w20)
 (∃ (v22 : Value), ((Go.World.cell? w20 ⟨w2.heap.size, 0, none⟩) = (some v22)) ∧
 ∃ (v23 : Value), ((Go.CW.subSlice v22 1 (some (.int .i64 (22 : Int))) (some (.int .i64 (IntKind.wrap .i64 ((22 : Int) + (IntKind.wrap .i64 n21))))) none) = (some v23)) ∧
 Go.CW.Spec Tryz.prog 85 #[v23] w20 fun v24 w25 =>
 Go.CW.Spec Tryz.prog 96 #[v24] w25 fun v26 w27 =>
 Go.CW.Spec Tryz.prog 200 #[(.int .u64 n9), (.int .u32 (IntKind.wrap .u32 n12)), (.int .i64 (IntKind.wrap .i64 n15)), (.int .i64 (IntKind.wrap .i64 n18)), v26] w27 fun v28 w29 =>
 ∃ (v30 : Value) (n31 : Int), ((v28 : Value) = (.tuple #[v30, (.int .i64 n31)])) ∧
 JoinP [.bool]
 (fun (b32 : Bool) => fun (w33 : World) =>
 cond b32
 (R (.tuple #[(.int .u64 (0 : Int)), (.int .u32 (0 : Int)), (.int .i64 (0 : Int)), (.int .i64 (0 : Int)), (.slice none 0 0), (.int .i64 (2 : Int))]) w33)
 (R (.tuple #[(.int .u64 n9), (.int .u32 (IntKind.wrap .u32 n12)), (.int .i64 (IntKind.wrap .i64 n15)), (.int .i64 (IntKind.wrap .i64 n18)), v26, (.int .i64 (0 : Int))]) w33))
 (fun j34 =>
 cond (n31 != (0 : Int))
 (j34 true w29)
 (Go.CW.Spec Tryz.prog 134 #[v30, p0] w29 fun v35 w36 =>
 ∃ (b37 : Bool), ((v35 : Value) = (.bool b37)) ∧
 j34 (!b37) w36))))))
theorem ring_Unpack_wp (p0 : Value) (w : World) (R : KV) (h : ring_Unpack_F p0 w R) : Go.CW.Spec Tryz.prog 295 #[p0] w R :=
  spec_of Tryz.func295 (by kernel_rfl) (show ring_Unpack_F p0 w R = _ by kernel_rfl) h
def ring_Unpack_1_F (p0 : Int) (p1 : Int) (p2 : Value) (w : World) (R : KV) : Prop :=
 withAddr p2 fun a0 =>
 ∃ (v1 : Value), ((Go.World.cell? w a0) = (some v1)) ∧
 Go.CW.Spec Tryz.prog 148 #[v1, (.int .i64 p0), (.int .i64 p1)] w fun v2 w3 =>
 ∃ (n4 : Int) (b5 : Bool), ((v2 : Value) = (.tuple #[(.int .u64 n4), (.bool b5)])) ∧
 R (.int .u64 n4) w3
theorem ring_Unpack_1_wp (p0 : Int) (p1 : Int) (p2 : Value) (w : World) (R : KV) (h : ring_Unpack_1_F p0 p1 p2 w R) : Go.CW.Spec Tryz.prog 335 #[(.int .i64 p0), (.int .i64 p1), p2] w R :=
  spec_of Tryz.func335 (by kernel_rfl) (show ring_Unpack_1_F p0 p1 p2 w R = _ by kernel_rfl) h
def slices_Clip_147_F (p0 : Value) (w : World) (R : KV) : Prop :=
 ∃ (m0 : Nat), ((Go.CW.sliceLen p0) = (some m0)) ∧
 ∃ (m1 : Nat), ((Go.CW.sliceLen p0) = (some m1)) ∧
 ∃ (v2 : Value), ((Go.CW.subSlice p0 1 none (some (.int .i64 ((m0 : Nat) : Int))) (some (.int .i64 ((m1 : Nat) : Int)))) = (some v2)) ∧
 R v2 w
theorem slices_Clip_147_wp (p0 : Value) (w : World) (R : KV) (h : slices_Clip_147_F p0 w R) : Go.CW.Spec Tryz.prog 147 #[p0] w R :=
  spec_of Tryz.func147 (by kernel_rfl) (show slices_Clip_147_F p0 w R = _ by kernel_rfl) h
end Go.Proofs.YtghineciiljeoaaGreatDoor
end
section
set_option linter.unusedVariables false
set_option maxRecDepth 100000
namespace Go.Proofs.YtghineciiljeoaaGreatDoor
open Go Go.CW
def store_Least_F  (w : World) (R : KV) : Prop :=
 R (.int .i64 (354 : Int)) w
theorem store_Least_wp  (w : World) (R : KV) (h : store_Least_F  w R) : Go.CW.Spec Tryz.prog 43 #[] w R :=
  spec_of Tryz.func43 (by kernel_rfl) (show store_Least_F  w R = _ by kernel_rfl) h
def store_Format_F (p0 : Option Addr) (w : World) (R : KV) : Prop :=
 Go.CW.Spec Tryz.prog 111 #[(.pointer p0)] w fun v0 w1 =>
 ∃ (n2 : Int), ((v0 : Value) = (.int .i64 n2)) ∧
 cond (decide (n2 < (354 : Int)))
 (R (.int .i64 (1 : Int)) w1)
 (JoinP [.int .u32]
 (fun (n3 : Int) => fun (w4 : World) =>
 Go.CW.Spec Tryz.prog 113 #[(.int .u32 n3)] w4 fun v5 w6 =>
 ∃ (n7 : Int), ((v5 : Value) = (.int .u64 n7)) ∧
 Go.CW.Spec Tryz.prog 114 #[(.agg #[(.int .u64 (0 : Int)), (.int .u32 n3), (.int .i64 (0 : Int)), (.int .u64 (0 : Int)), (.int .i64 (0 : Int)), (.int .u64 n7), (.int .i64 (0 : Int))])] w6 fun v8 w9 =>
 Go.CW.Spec Tryz.prog 103 #[(.pointer p0), (.int .i64 (0 : Int)), v8] w9 fun v10 w11 =>
 ∃ (n12 : Int), ((v10 : Value) = (.int .i64 n12)) ∧
 R (.int .i64 n12) w11)
 (fun j13 =>
 Go.CW.Spec Tryz.prog 105 #[(.pointer p0), (.int .i64 (0 : Int))] w1 fun v14 w15 =>
 ∃ (o16 : Option Addr) (n17 : Int), ((v14 : Value) = (.tuple #[(.pointer o16), (.int .i64 n17)])) ∧
 cond (n17 == (0 : Int))
 (Go.CW.Spec Tryz.prog 107 #[(.pointer o16)] w15 fun v18 w19 =>
 Go.CW.Spec Tryz.prog 112 #[v18] w19 fun v20 w21 =>
 ∃ (n22 : Int) (n23 : Int) (n24 : Int) (n25 : Int) (n26 : Int) (n27 : Int) (n28 : Int) (b29 : Bool), ((v20 : Value) = (.tuple #[(.agg #[(.int .u64 n22), (.int .u32 n23), (.int .i64 n24), (.int .u64 n25), (.int .i64 n26), (.int .u64 n27), (.int .i64 n28)]), (.bool b29)])) ∧
 bindW (World.alloc w21 (.cells #[(.int .u64 (0 : Int)), (.int .u32 (0 : Int)), (.int .i64 (0 : Int)), (.int .u64 (0 : Int)), (.int .i64 (0 : Int)), (.int .u64 (0 : Int)), (.int .i64 (0 : Int))] 215)) fun w30 =>
 (StRow w30 ⟨w21.heap.size, 0, none⟩ #[(.int .u64 n22), (.int .u32 n23), (.int .i64 n24), (.int .u64 n25), (.int .i64 n26), (.int .u64 n27), (.int .i64 n28)]) ∧
 bindW (stRow w30 ⟨w21.heap.size, 0, none⟩ #[(.int .u64 n22), (.int .u32 n23), (.int .i64 n24), (.int .u64 n25), (.int .i64 n26), (.int .u64 n27), (.int .i64 n28)]) fun w31 =>
 cond b29
 (∃ (n32 : Int), ((Go.World.cell? w31 (Addr.add ⟨w21.heap.size, 0, none⟩ 1)) = (some (.int .u32 n32))) ∧
 j13 (IntKind.wrap .u32 (n32 + (1 : Int))) w31)
 (j13 (1 : Int) w31))
 (j13 (1 : Int) w15)))
theorem store_Format_wp (p0 : Option Addr) (w : World) (R : KV) (h : store_Format_F p0 w R) : Go.CW.Spec Tryz.prog 44 #[(.pointer p0)] w R :=
  spec_of Tryz.func44 (by kernel_rfl) (show store_Format_F p0 w R = _ by kernel_rfl) h
def store_Open_F (p0 : Option Addr) (w : World) (R : KV) : Prop :=
 Go.CW.Spec Tryz.prog 111 #[(.pointer p0)] w fun v0 w1 =>
 ∃ (n2 : Int), ((v0 : Value) = (.int .i64 n2)) ∧
 cond (decide (n2 < (354 : Int)))
 (R (.tuple #[(.pointer none), (.int .i64 (2 : Int))]) w1)
 (Go.CW.Spec Tryz.prog 105 #[(.pointer p0), (.int .i64 (0 : Int))] w1 fun v3 w4 =>
 ∃ (o5 : Option Addr) (n6 : Int), ((v3 : Value) = (.tuple #[(.pointer o5), (.int .i64 n6)])) ∧
 cond (n6 != (0 : Int))
 (R (.tuple #[(.pointer none), (.int .i64 n6)]) w4)
 (Go.CW.Spec Tryz.prog 107 #[(.pointer o5)] w4 fun v7 w8 =>
 Go.CW.Spec Tryz.prog 112 #[v7] w8 fun v9 w10 =>
 ∃ (n11 : Int) (n12 : Int) (n13 : Int) (n14 : Int) (n15 : Int) (n16 : Int) (n17 : Int) (b18 : Bool), ((v9 : Value) = (.tuple #[(.agg #[(.int .u64 n11), (.int .u32 n12), (.int .i64 n13), (.int .u64 n14), (.int .i64 n15), (.int .u64 n16), (.int .i64 n17)]), (.bool b18)])) ∧
 bindW (World.alloc w10 (.cells #[(.int .u64 (0 : Int)), (.int .u32 (0 : Int)), (.int .i64 (0 : Int)), (.int .u64 (0 : Int)), (.int .i64 (0 : Int)), (.int .u64 (0 : Int)), (.int .i64 (0 : Int))] 215)) fun w19 =>
 (StRow w19 ⟨w10.heap.size, 0, none⟩ #[(.int .u64 n11), (.int .u32 n12), (.int .i64 n13), (.int .u64 n14), (.int .i64 n15), (.int .u64 n16), (.int .i64 n17)]) ∧
 bindW (stRow w19 ⟨w10.heap.size, 0, none⟩ #[(.int .u64 n11), (.int .u32 n12), (.int .i64 n13), (.int .u64 n14), (.int .i64 n15), (.int .u64 n16), (.int .i64 n17)]) fun w20 =>
 cond (!b18)
 (R (.tuple #[(.pointer none), (.int .i64 (2 : Int))]) w20)
 (∃ (n21 : Int) (n22 : Int) (n23 : Int) (n24 : Int) (n25 : Int) (n26 : Int) (n27 : Int), (ldCells w20 ⟨w10.heap.size, 0, none⟩ 7 #[(.int .u64 n21), (.int .u32 n22), (.int .i64 n23), (.int .u64 n24), (.int .i64 n25), (.int .u64 n26), (.int .i64 n27)]) ∧
 bindW (World.alloc w20 (.cells #[(.pointer p0), (.pointer o5), (.pointer none), (.int .u64 n21), (.int .u32 n22), (.int .i64 n23), (.int .u64 n24), (.int .i64 n25), (.int .u64 n26), (.int .i64 n27), (.slice none 0 0), (.slice none 0 0)] 222)) fun w28 =>
 ∃ (n29 : Int), ((Go.World.cell? w28 (Addr.add ⟨w10.heap.size, 0, none⟩ 2)) = (some (.int .i64 n29))) ∧
 ∃ (n30 : Int), ((Go.World.cell? w28 (Addr.add ⟨w10.heap.size, 0, none⟩ 4)) = (some (.int .i64 n30))) ∧
 Go.CW.Spec Tryz.prog 115 #[(.pointer (some ⟨w20.heap.size, 0, none⟩)), (.int .i64 n29), (.int .i64 n30)] w28 fun v31 w32 =>
 ∃ (v33 : Value) (n34 : Int), ((v31 : Value) = (.tuple #[v33, (.int .i64 n34)])) ∧
 oneK v33 ((St1 w32 (Addr.add ⟨w20.heap.size, 0, none⟩ 10)) ∧
 bindW (World.setCell w32 (Addr.add ⟨w20.heap.size, 0, none⟩ 10) v33) fun w35 =>
 cond (n34 != (0 : Int))
 (R (.tuple #[(.pointer none), (.int .i64 n34)]) w35)
 (∃ (n36 : Int), ((Go.World.cell? w35 (Addr.add ⟨w10.heap.size, 0, none⟩ 1)) = (some (.int .u32 n36))) ∧
 (St1 w35 (Addr.add ⟨w10.heap.size, 0, none⟩ 1)) ∧
 bindW (World.setCell w35 (Addr.add ⟨w10.heap.size, 0, none⟩ 1) (.int .u32 (IntKind.wrap .u32 (n36 + (1 : Int))))) fun w37 =>
 ∃ (n38 : Int) (n39 : Int) (n40 : Int) (n41 : Int) (n42 : Int) (n43 : Int) (n44 : Int), (ldCells w37 ⟨w10.heap.size, 0, none⟩ 7 #[(.int .u64 n38), (.int .u32 n39), (.int .i64 n40), (.int .u64 n41), (.int .i64 n42), (.int .u64 n43), (.int .i64 n44)]) ∧
 Go.CW.Spec Tryz.prog 116 #[(.pointer (some ⟨w20.heap.size, 0, none⟩)), (.agg #[(.int .u64 n38), (.int .u32 n39), (.int .i64 n40), (.int .u64 n41), (.int .i64 n42), (.int .u64 n43), (.int .i64 n44)])] w37 fun v45 w46 =>
 ∃ (n47 : Int), ((v45 : Value) = (.int .i64 n47)) ∧
 cond (n47 != (0 : Int))
 (R (.tuple #[(.pointer none), (.int .i64 n47)]) w46)
 (Go.CW.Spec Tryz.prog 117 #[(.pointer (some ⟨w20.heap.size, 0, none⟩))] w46 fun v48 w49 =>
 ∃ (n50 : Int), ((v48 : Value) = (.int .i64 n50)) ∧
 cond (n50 != (0 : Int))
 (R (.tuple #[(.pointer none), (.int .i64 n50)]) w49)
 (R (.tuple #[(.pointer (some ⟨w20.heap.size, 0, none⟩)), (.int .i64 (0 : Int))]) w49)))))))
theorem store_Open_wp (p0 : Option Addr) (w : World) (R : KV) (h : store_Open_F p0 w R) : Go.CW.Spec Tryz.prog 45 #[(.pointer p0)] w R :=
  spec_of Tryz.func45 (by kernel_rfl) (show store_Open_F p0 w R = _ by kernel_rfl) h
def store_Store_Append_m_F (p0 : Option Addr) (p1_0 : Int) (p1_1 : Int) (p1_2 : Value) (w : World) (R : KV) : Prop :=
 bindW (World.alloc w (.cells #[(.int .u64 p1_0), (.int .u64 p1_1), p1_2] 108)) fun w0 =>
 JoinP [.bool]
 (fun (b1 : Bool) => fun (w2 : World) =>
 cond b1
 (R (.int .i64 (1 : Int)) w2)
 (bindW (World.drew w2) fun w3 =>
 withAddr (.pointer p0) fun a4 =>
 ∃ (o5 : Option Addr), ((Go.World.cell? w3 (Addr.add a4 2)) = (some (.pointer o5))) ∧
 ∃ (n6 : Int), ((Go.World.cell? w3 (Addr.add ⟨w.heap.size, 0, none⟩ 0)) = (some (.int .u64 n6))) ∧
 ∃ (n7 : Int), ((Go.World.cell? w3 (Addr.add ⟨w.heap.size, 0, none⟩ 1)) = (some (.int .u64 n7))) ∧
 ∃ (v8 : Value), ((Go.World.cell? w3 (Addr.add ⟨w.heap.size, 0, none⟩ 2)) = (some v8)) ∧
 bindW (World.drew w2) fun w9 =>
 Go.CW.Spec Tryz.prog 120 #[(.slice none 0 0), (.int .u64 n6), (.int .i64 (8 : Int))] w9 fun v10 w11 =>
 (∃ (o12 : Option Addr), ((Go.World.cell? w11 (Addr.add a4 2)) = (some (.pointer o12))) ∧
 ((.pointer o12) : Value) = (.pointer o5)) ∧
 (∃ (n13 : Int), ((Go.World.cell? w11 (Addr.add ⟨w.heap.size, 0, none⟩ 1)) = (some (.int .u64 n13))) ∧
 ((.int .u64 n13) : Value) = (.int .u64 n7)) ∧
 (∃ (v14 : Value), ((Go.World.cell? w11 (Addr.add ⟨w.heap.size, 0, none⟩ 2)) = (some v14)) ∧
 (v14 : Value) = v8) ∧
 Go.CW.Spec Tryz.prog 120 #[v10, (.int .u64 n7), (.int .i64 (8 : Int))] w11 fun v15 w16 =>
 (∃ (o17 : Option Addr), ((Go.World.cell? w16 (Addr.add a4 2)) = (some (.pointer o17))) ∧
 ((.pointer o17) : Value) = (.pointer o5)) ∧
 (∃ (v18 : Value), ((Go.World.cell? w16 (Addr.add ⟨w.heap.size, 0, none⟩ 2)) = (some v18)) ∧
 (v18 : Value) = v8) ∧
 ∃ (v19 : Value) (w20 : World), ((Sem.run @Go.Proofs.Tryz.prog (Go.Builtin.append_ #[34, 34] 34 #[v15, v8]) w16) = (.ok v19 w20)) ∧
 (∃ (o21 : Option Addr), ((Go.World.cell? w20 (Addr.add a4 2)) = (some (.pointer o21))) ∧
 ((.pointer o21) : Value) = (.pointer o5)) ∧
 Go.CW.Spec Tryz.prog 119 #[(.pointer o5), v19] w20 fun v22 w23 =>
 ∃ (n24 : Int) (n25 : Int), ((v22 : Value) = (.tuple #[(.int .u64 n24), (.int .i64 n25)])) ∧
 cond (n25 != (0 : Int))
 (R (.int .i64 n25) w23)
 (withAddr (.pointer p0) fun a26 =>
 ∃ (o27 : Option Addr), ((Go.World.cell? w23 (Addr.add a26 2)) = (some (.pointer o27))) ∧
 Go.CW.Spec Tryz.prog 121 #[(.pointer o27)] w23 fun v28 w29 =>
 ∃ (n30 : Int), ((v28 : Value) = (.int .i64 n30)) ∧
 cond (n30 != (0 : Int))
 (R (.int .i64 n30) w29)
 (∃ (v31 : Value), ((Go.World.cell? w29 (Addr.add ⟨w.heap.size, 0, none⟩ 2)) = (some v31)) ∧
 Go.CW.Spec Tryz.prog 85 #[v31] w29 fun v32 w33 =>
 oneK v32 ((St1 w33 (Addr.add ⟨w.heap.size, 0, none⟩ 2)) ∧
 bindW (World.setCell w33 (Addr.add ⟨w.heap.size, 0, none⟩ 2) v32) fun w34 =>
 bindW (World.drew w34) fun w35 =>
 withAddr (.pointer p0) fun a36 =>
 ∃ (v37 : Value), ((Go.World.cell? w35 (Addr.add a36 11)) = (some v37)) ∧
 ∃ (n38 : Int) (n39 : Int) (v40 : Value), (ldCells w35 ⟨w.heap.size, 0, none⟩ 3 #[(.int .u64 n38), (.int .u64 n39), v40]) ∧
 bindW (World.drew w34) fun w41 =>
 (∃ (v42 : Value), ((Go.World.cell? (World.alloc w41 (.cells #[(.int .u64 n38), (.int .u64 n39), v40] 108)) (Addr.add a36 11)) = (some v42)) ∧
 (v42 : Value) = v37) ∧
 bindW (World.alloc w41 (.cells #[(.int .u64 n38), (.int .u64 n39), v40] 108)) fun w43 =>
 bindW (World.alloc w41 (.cells #[(.int .u64 n38), (.int .u64 n39), v40] 108)) fun w44 =>
 ∃ (v45 : Value) (w46 : World), ((Sem.run @Go.Proofs.Tryz.prog (Go.Builtin.append_ #[220, 220] 220 #[v37, (.slice (some ⟨w41.heap.size, 0, none⟩) 1 1)]) w44) = (.ok v45 w46)) ∧
 withAddr (.pointer p0) fun a47 =>
 oneK v45 ((St1 w46 (Addr.add a47 11)) ∧
 bindW (World.setCell w46 (Addr.add a47 11) v45) fun w48 =>
 bindW (World.setCell w46 (Addr.add a47 11) v45) fun w49 =>
 R (.int .i64 (0 : Int)) w49))))))
 (fun j50 =>
 bindW (World.drew w0) fun w51 =>
 ∃ (n52 : Int), ((Go.World.cell? w51 (Addr.add ⟨w.heap.size, 0, none⟩ 0)) = (some (.int .u64 n52))) ∧
 bindW (World.drew w0) fun w53 =>
 Go.CW.Spec Tryz.prog 118 #[(.pointer p0)] w53 fun v54 w55 =>
 ∃ (n56 : Int), ((v54 : Value) = (.int .u64 n56)) ∧
 (∃ (n57 : Int), ((Go.World.cell? w55 (Addr.add ⟨w.heap.size, 0, none⟩ 0)) = (some (.int .u64 n57))) ∧
 ((.int .u64 n57) : Value) = (.int .u64 n52)) ∧
 cond (n52 != (IntKind.wrap .u64 (n56 + (1 : Int))))
 (j50 true w55)
 (∃ (v58 : Value), ((Go.World.cell? w55 (Addr.add ⟨w.heap.size, 0, none⟩ 2)) = (some v58)) ∧
 ∃ (m59 : Nat), ((Go.CW.sliceLen v58) = (some m59)) ∧
 j50 (decide (((m59 : Nat) : Int) > (2048 : Int))) w55))
theorem store_Store_Append_m_wp (p0 : Option Addr) (p1_0 : Int) (p1_1 : Int) (p1_2 : Value) (w : World) (R : KV) (h : store_Store_Append_m_F p0 p1_0 p1_1 p1_2 w R) : Go.CW.Spec Tryz.prog 46 #[(.pointer p0), (.agg #[(.int .u64 p1_0), (.int .u64 p1_1), p1_2])] w R :=
  spec_of Tryz.func46 (by kernel_rfl) (show store_Store_Append_m_F p0 p1_0 p1_1 p1_2 w R = _ by kernel_rfl) h
def store_Store_Entry_m_F (p0 : Option Addr) (p1 : Int) (w : World) (R : KV) : Prop :=
 bindW (World.alloc w (.cells #[(.int .u64 (0 : Int)), (.int .u64 (0 : Int)), (.slice none 0 0)] 108)) fun w0 =>
 JoinP [.bool]
 (fun (b1 : Bool) => fun (w2 : World) =>
 cond b1
 ((StRow w2 ⟨w.heap.size, 0, none⟩ #[(.int .u64 (0 : Int)), (.int .u64 (0 : Int)), (.slice none 0 0)]) ∧
 bindW (stRow w2 ⟨w.heap.size, 0, none⟩ #[(.int .u64 (0 : Int)), (.int .u64 (0 : Int)), (.slice none 0 0)]) fun w3 =>
 ∃ (n4 : Int) (n5 : Int) (v6 : Value), (ldCells w3 ⟨w.heap.size, 0, none⟩ 3 #[(.int .u64 n4), (.int .u64 n5), v6]) ∧
 R (.tuple #[(.agg #[(.int .u64 n4), (.int .u64 n5), v6]), (.bool false)]) w3)
 (bindW (World.drew w2) fun w7 =>
 withAddr (.pointer p0) fun a8 =>
 ∃ (v9 : Value), ((Go.World.cell? w7 (Addr.add a8 11)) = (some v9)) ∧
 withAddr (.pointer p0) fun a10 =>
 ∃ (n11 : Int), ((Go.World.cell? w7 (Addr.add (Addr.add a10 3) 3)) = (some (.int .u64 n11))) ∧
 ∃ (a12 : Addr), ((Go.CW.sliceAt v9 (IntKind.wrap .u64 ((IntKind.wrap .u64 (p1 - n11)) - (1 : Int))) 3) = (some a12)) ∧
 ∃ (n13 : Int) (n14 : Int) (v15 : Value), (ldCells w7 a12 3 #[(.int .u64 n13), (.int .u64 n14), v15]) ∧
 bindW (World.drew w2) fun w16 =>
 (∃ (v17 : Value), ((Go.World.cell? (World.alloc w16 (.cells #[(.int .u64 (0 : Int)), (.int .u64 (0 : Int)), (.slice none 0 0)] 108)) (Addr.add a8 11)) = (some v17)) ∧
 (v17 : Value) = v9) ∧
 (∃ (n18 : Int), ((Go.World.cell? (World.alloc w16 (.cells #[(.int .u64 (0 : Int)), (.int .u64 (0 : Int)), (.slice none 0 0)] 108)) (Addr.add (Addr.add a10 3) 3)) = (some (.int .u64 n18))) ∧
 ((.int .u64 n18) : Value) = (.int .u64 n11)) ∧
 (∃ (n19 : Int) (n20 : Int) (v21 : Value), (ldCells (World.alloc w16 (.cells #[(.int .u64 (0 : Int)), (.int .u64 (0 : Int)), (.slice none 0 0)] 108)) a12 3 #[(.int .u64 n19), (.int .u64 n20), v21]) ∧
 ((.agg #[(.int .u64 n19), (.int .u64 n20), v21]) : Value) = (.agg #[(.int .u64 n13), (.int .u64 n14), v15])) ∧
 bindW (World.alloc w16 (.cells #[(.int .u64 (0 : Int)), (.int .u64 (0 : Int)), (.slice none 0 0)] 108)) fun w22 =>
 bindW (World.alloc w16 (.cells #[(.int .u64 (0 : Int)), (.int .u64 (0 : Int)), (.slice none 0 0)] 108)) fun w23 =>
 (StRow w23 ⟨w16.heap.size, 0, none⟩ #[(.int .u64 n13), (.int .u64 n14), v15]) ∧
 bindW (stRow w23 ⟨w16.heap.size, 0, none⟩ #[(.int .u64 n13), (.int .u64 n14), v15]) fun w24 =>
 bindW (stRow w23 ⟨w16.heap.size, 0, none⟩ #[(.int .u64 n13), (.int .u64 n14), v15]) fun w25 =>
 ∃ (v26 : Value), ((Go.World.cell? w25 (Addr.add ⟨w16.heap.size, 0, none⟩ 2)) = (some v26)) ∧
 Go.CW.Spec Tryz.prog 85 #[v26] w25 fun v27 w28 =>
 Go.CW.Spec Tryz.prog 96 #[v27] w28 fun v29 w30 =>
 oneK v29 ((St1 w30 (Addr.add ⟨w16.heap.size, 0, none⟩ 2)) ∧
 bindW (World.setCell w30 (Addr.add ⟨w16.heap.size, 0, none⟩ 2) v29) fun w31 =>
 ∃ (n32 : Int) (n33 : Int) (v34 : Value), (ldCells w31 ⟨w16.heap.size, 0, none⟩ 3 #[(.int .u64 n32), (.int .u64 n33), v34]) ∧
 (StRow w31 ⟨w.heap.size, 0, none⟩ #[(.int .u64 n32), (.int .u64 n33), v34]) ∧
 bindW (stRow w31 ⟨w.heap.size, 0, none⟩ #[(.int .u64 n32), (.int .u64 n33), v34]) fun w35 =>
 ∃ (n36 : Int) (n37 : Int) (v38 : Value), (ldCells w35 ⟨w.heap.size, 0, none⟩ 3 #[(.int .u64 n36), (.int .u64 n37), v38]) ∧
 R (.tuple #[(.agg #[(.int .u64 n36), (.int .u64 n37), v38]), (.bool true)]) w35)))
 (fun j39 =>
 withAddr (.pointer p0) fun a40 =>
 ∃ (n41 : Int), ((Go.World.cell? w0 (Addr.add (Addr.add a40 3) 3)) = (some (.int .u64 n41))) ∧
 cond (decide (p1 ≤ n41))
 (j39 true w0)
 (Go.CW.Spec Tryz.prog 118 #[(.pointer p0)] w0 fun v42 w43 =>
 ∃ (n44 : Int), ((v42 : Value) = (.int .u64 n44)) ∧
 j39 (decide (p1 > n44)) w43))
theorem store_Store_Entry_m_wp (p0 : Option Addr) (p1 : Int) (w : World) (R : KV) (h : store_Store_Entry_m_F p0 p1 w R) : Go.CW.Spec Tryz.prog 48 #[(.pointer p0), (.int .u64 p1)] w R :=
  spec_of Tryz.func48 (by kernel_rfl) (show store_Store_Entry_m_F p0 p1 w R = _ by kernel_rfl) h
def store_parse_F (p0 : Value) (w : World) (R : KV) : Prop :=
 bindW (World.alloc w (.cells (Value.cells p0) 34)) fun w0 =>
 bindW (World.alloc w0 (.cells #[(.int .u64 (0 : Int)), (.int .u32 (0 : Int)), (.int .i64 (0 : Int)), (.int .u64 (0 : Int)), (.int .i64 (0 : Int)), (.int .u64 (0 : Int)), (.int .i64 (0 : Int))] 215)) fun w1 =>
 ∃ (v2 : Value), ((Go.World.cell? w1 ⟨w.heap.size, 0, none⟩) = (some v2)) ∧
 ∃ (m3 : Nat), ((Go.CW.sliceLen v2) = (some m3)) ∧
 cond (((m3 : Nat) : Int) != (35 : Int))
 ((StRow w1 ⟨w0.heap.size, 0, none⟩ #[(.int .u64 (0 : Int)), (.int .u32 (0 : Int)), (.int .i64 (0 : Int)), (.int .u64 (0 : Int)), (.int .i64 (0 : Int)), (.int .u64 (0 : Int)), (.int .i64 (0 : Int))]) ∧
 bindW (stRow w1 ⟨w0.heap.size, 0, none⟩ #[(.int .u64 (0 : Int)), (.int .u32 (0 : Int)), (.int .i64 (0 : Int)), (.int .u64 (0 : Int)), (.int .i64 (0 : Int)), (.int .u64 (0 : Int)), (.int .i64 (0 : Int))]) fun w4 =>
 ∃ (n5 : Int) (n6 : Int) (n7 : Int) (n8 : Int) (n9 : Int) (n10 : Int) (n11 : Int), (ldCells w4 ⟨w0.heap.size, 0, none⟩ 7 #[(.int .u64 n5), (.int .u32 n6), (.int .i64 n7), (.int .u64 n8), (.int .i64 n9), (.int .u64 n10), (.int .i64 n11)]) ∧
 R (.tuple #[(.agg #[(.int .u64 n5), (.int .u32 n6), (.int .i64 n7), (.int .u64 n8), (.int .i64 n9), (.int .u64 n10), (.int .i64 n11)]), (.bool false)]) w4)
 (bindW (World.alloc w1 (.cells #[(.int .i64 (0 : Int))] 3)) fun w12 =>
 (St1 w12 ⟨w1.heap.size, 0, none⟩) ∧
 bindW (World.setCell w12 ⟨w1.heap.size, 0, none⟩ (.int .i64 (0 : Int))) fun w13 =>
 Go.CW.Spec Tryz.prog 195 #[(.int .i64 (8 : Int)), (.pointer (some ⟨w.heap.size, 0, none⟩)), (.pointer (some ⟨w1.heap.size, 0, none⟩))] w13 fun v14 w15 =>
 ∃ (n16 : Int), ((v14 : Value) = (.int .u64 n16)) ∧
 Go.CW.Spec Tryz.prog 195 #[(.int .i64 (4 : Int)), (.pointer (some ⟨w.heap.size, 0, none⟩)), (.pointer (some ⟨w1.heap.size, 0, none⟩))] w15 fun v17 w18 =>
 ∃ (n19 : Int), ((v17 : Value) = (.int .u64 n19)) ∧
 Go.CW.Spec Tryz.prog 195 #[(.int .i64 (1 : Int)), (.pointer (some ⟨w.heap.size, 0, none⟩)), (.pointer (some ⟨w1.heap.size, 0, none⟩))] w18 fun v20 w21 =>
 ∃ (n22 : Int), ((v20 : Value) = (.int .u64 n22)) ∧
 Go.CW.Spec Tryz.prog 195 #[(.int .i64 (8 : Int)), (.pointer (some ⟨w.heap.size, 0, none⟩)), (.pointer (some ⟨w1.heap.size, 0, none⟩))] w21 fun v23 w24 =>
 ∃ (n25 : Int), ((v23 : Value) = (.int .u64 n25)) ∧
 Go.CW.Spec Tryz.prog 195 #[(.int .i64 (4 : Int)), (.pointer (some ⟨w.heap.size, 0, none⟩)), (.pointer (some ⟨w1.heap.size, 0, none⟩))] w24 fun v26 w27 =>
 ∃ (n28 : Int), ((v26 : Value) = (.int .u64 n28)) ∧
 Go.CW.Spec Tryz.prog 195 #[(.int .i64 (8 : Int)), (.pointer (some ⟨w.heap.size, 0, none⟩)), (.pointer (some ⟨w1.heap.size, 0, none⟩))] w27 fun v29 w30 =>
 ∃ (n31 : Int), ((v29 : Value) = (.int .u64 n31)) ∧
 Go.CW.Spec Tryz.prog 195 #[(.int .i64 (2 : Int)), (.pointer (some ⟨w.heap.size, 0, none⟩)), (.pointer (some ⟨w1.heap.size, 0, none⟩))] w30 fun v32 w33 =>
 ∃ (n34 : Int), ((v32 : Value) = (.int .u64 n34)) ∧
 bindW (World.alloc w33 (.cells #[(.int .u64 (0 : Int)), (.int .u32 (0 : Int)), (.int .i64 (0 : Int)), (.int .u64 (0 : Int)), (.int .i64 (0 : Int)), (.int .u64 (0 : Int)), (.int .i64 (0 : Int))] 215)) fun w35 =>
 (StRow w35 ⟨w33.heap.size, 0, none⟩ #[(.int .u64 n16), (.int .u32 (IntKind.wrap .u32 n19)), (.int .i64 (IntKind.wrap .i64 n22)), (.int .u64 n25), (.int .i64 (IntKind.wrap .i64 n28)), (.int .u64 n31), (.int .i64 (IntKind.wrap .i64 n34))]) ∧
 bindW (stRow w35 ⟨w33.heap.size, 0, none⟩ #[(.int .u64 n16), (.int .u32 (IntKind.wrap .u32 n19)), (.int .i64 (IntKind.wrap .i64 n22)), (.int .u64 n25), (.int .i64 (IntKind.wrap .i64 n28)), (.int .u64 n31), (.int .i64 (IntKind.wrap .i64 n34))]) fun w36 =>
 JoinP [.bool]
 (fun (b37 : Bool) => fun (w38 : World) =>
 ∃ (n39 : Int) (n40 : Int) (n41 : Int) (n42 : Int) (n43 : Int) (n44 : Int) (n45 : Int), (ldCells w38 ⟨w0.heap.size, 0, none⟩ 7 #[(.int .u64 n39), (.int .u32 n40), (.int .i64 n41), (.int .u64 n42), (.int .i64 n43), (.int .u64 n44), (.int .i64 n45)]) ∧
 R (.tuple #[(.agg #[(.int .u64 n39), (.int .u32 n40), (.int .i64 n41), (.int .u64 n42), (.int .i64 n43), (.int .u64 n44), (.int .i64 n45)]), (.bool b37)]) w38)
 (fun j46 =>
 bindW (World.drew w36) fun w47 =>
 ∃ (n48 : Int) (n49 : Int) (n50 : Int) (n51 : Int) (n52 : Int) (n53 : Int) (n54 : Int), (ldCells w47 ⟨w33.heap.size, 0, none⟩ 7 #[(.int .u64 n48), (.int .u32 n49), (.int .i64 n50), (.int .u64 n51), (.int .i64 n52), (.int .u64 n53), (.int .i64 n54)]) ∧
 ∃ (n55 : Int), ((Go.World.cell? w47 (Addr.add ⟨w33.heap.size, 0, none⟩ 2)) = (some (.int .i64 n55))) ∧
 cond (decide (n55 ≤ (1 : Int)))
 (∃ (n56 : Int), ((Go.World.cell? w47 (Addr.add ⟨w33.heap.size, 0, none⟩ 4)) = (some (.int .i64 n56))) ∧
 bindW (World.drew w36) fun w57 =>
 (StRow w57 ⟨w0.heap.size, 0, none⟩ #[(.int .u64 n48), (.int .u32 n49), (.int .i64 n50), (.int .u64 n51), (.int .i64 n52), (.int .u64 n53), (.int .i64 n54)]) ∧
 (∃ (n58 : Int), ((Go.World.cell? (stRow w57 ⟨w0.heap.size, 0, none⟩ #[(.int .u64 n48), (.int .u32 n49), (.int .i64 n50), (.int .u64 n51), (.int .i64 n52), (.int .u64 n53), (.int .i64 n54)]) (Addr.add ⟨w33.heap.size, 0, none⟩ 4)) = (some (.int .i64 n58))) ∧
 ((.int .i64 n58) : Value) = (.int .i64 n56)) ∧
 bindW (stRow w57 ⟨w0.heap.size, 0, none⟩ #[(.int .u64 n48), (.int .u32 n49), (.int .i64 n50), (.int .u64 n51), (.int .i64 n52), (.int .u64 n53), (.int .i64 n54)]) fun w59 =>
 bindW (stRow w57 ⟨w0.heap.size, 0, none⟩ #[(.int .u64 n48), (.int .u32 n49), (.int .i64 n50), (.int .u64 n51), (.int .i64 n52), (.int .u64 n53), (.int .i64 n54)]) fun w60 =>
 j46 (decide (n56 ≤ (24576 : Int))) w60)
 (bindW (World.drew w36) fun w61 =>
 (StRow w61 ⟨w0.heap.size, 0, none⟩ #[(.int .u64 n48), (.int .u32 n49), (.int .i64 n50), (.int .u64 n51), (.int .i64 n52), (.int .u64 n53), (.int .i64 n54)]) ∧
 (True) ∧
 bindW (stRow w61 ⟨w0.heap.size, 0, none⟩ #[(.int .u64 n48), (.int .u32 n49), (.int .i64 n50), (.int .u64 n51), (.int .i64 n52), (.int .u64 n53), (.int .i64 n54)]) fun w62 =>
 bindW (stRow w61 ⟨w0.heap.size, 0, none⟩ #[(.int .u64 n48), (.int .u32 n49), (.int .i64 n50), (.int .u64 n51), (.int .i64 n52), (.int .u64 n53), (.int .i64 n54)]) fun w63 =>
 j46 false w63)))
theorem store_parse_wp (p0 : Value) (w : World) (R : KV) (h : store_parse_F p0 w R) : Go.CW.Spec Tryz.prog 112 #[p0] w R :=
  spec_of Tryz.func112 (by kernel_rfl) (show store_parse_F p0 w R = _ by kernel_rfl) h
def store_begin_F (p0 : Int) (w : World) (R : KV) : Prop :=
 R (.int .u64 (IntKind.wrap .u64 ((IntKind.wrap .u64 p0) * (4294967296 : Int)))) w
theorem store_begin_wp (p0 : Int) (w : World) (R : KV) (h : store_begin_F p0 w R) : Go.CW.Spec Tryz.prog 113 #[(.int .u32 p0)] w R :=
  spec_of Tryz.func113 (by kernel_rfl) (show store_begin_F p0 w R = _ by kernel_rfl) h
def store_head_bytes_m_F (p0_0 : Int) (p0_1 : Int) (p0_2 : Int) (p0_3 : Int) (p0_4 : Int) (p0_5 : Int) (p0_6 : Int) (w : World) (R : KV) : Prop :=
 bindW (World.alloc w (.cells #[(.int .u64 p0_0), (.int .u32 p0_1), (.int .i64 p0_2), (.int .u64 p0_3), (.int .i64 p0_4), (.int .u64 p0_5), (.int .i64 p0_6)] 215)) fun w0 =>
 bindW (World.drew w0) fun w1 =>
 ∃ (n2 : Int), ((Go.World.cell? w1 (Addr.add ⟨w.heap.size, 0, none⟩ 0)) = (some (.int .u64 n2))) ∧
 ∃ (n3 : Int), ((Go.World.cell? w1 (Addr.add ⟨w.heap.size, 0, none⟩ 1)) = (some (.int .u32 n3))) ∧
 ∃ (n4 : Int), ((Go.World.cell? w1 (Addr.add ⟨w.heap.size, 0, none⟩ 2)) = (some (.int .i64 n4))) ∧
 bindW (World.drew w0) fun w5 =>
 Go.CW.Spec Tryz.prog 120 #[(.slice none 0 0), (.int .u64 n2), (.int .i64 (8 : Int))] w5 fun v6 w7 =>
 (∃ (n8 : Int), ((Go.World.cell? w7 (Addr.add ⟨w.heap.size, 0, none⟩ 1)) = (some (.int .u32 n8))) ∧
 ((.int .u32 n8) : Value) = (.int .u32 n3)) ∧
 (∃ (n9 : Int), ((Go.World.cell? w7 (Addr.add ⟨w.heap.size, 0, none⟩ 2)) = (some (.int .i64 n9))) ∧
 ((.int .i64 n9) : Value) = (.int .i64 n4)) ∧
 Go.CW.Spec Tryz.prog 120 #[v6, (.int .u64 (IntKind.wrap .u64 n3)), (.int .i64 (4 : Int))] w7 fun v10 w11 =>
 (∃ (n12 : Int), ((Go.World.cell? w11 (Addr.add ⟨w.heap.size, 0, none⟩ 2)) = (some (.int .i64 n12))) ∧
 ((.int .i64 n12) : Value) = (.int .i64 n4)) ∧
 Go.CW.Spec Tryz.prog 120 #[v10, (.int .u64 (IntKind.wrap .u64 n4)), (.int .i64 (1 : Int))] w11 fun v13 w14 =>
 bindW (World.drew w14) fun w15 =>
 ∃ (n16 : Int), ((Go.World.cell? w15 (Addr.add ⟨w.heap.size, 0, none⟩ 3)) = (some (.int .u64 n16))) ∧
 ∃ (n17 : Int), ((Go.World.cell? w15 (Addr.add ⟨w.heap.size, 0, none⟩ 4)) = (some (.int .i64 n17))) ∧
 bindW (World.drew w14) fun w18 =>
 Go.CW.Spec Tryz.prog 120 #[v13, (.int .u64 n16), (.int .i64 (8 : Int))] w18 fun v19 w20 =>
 (∃ (n21 : Int), ((Go.World.cell? w20 (Addr.add ⟨w.heap.size, 0, none⟩ 4)) = (some (.int .i64 n21))) ∧
 ((.int .i64 n21) : Value) = (.int .i64 n17)) ∧
 Go.CW.Spec Tryz.prog 120 #[v19, (.int .u64 (IntKind.wrap .u64 n17)), (.int .i64 (4 : Int))] w20 fun v22 w23 =>
 bindW (World.drew w23) fun w24 =>
 ∃ (n25 : Int), ((Go.World.cell? w24 (Addr.add ⟨w.heap.size, 0, none⟩ 5)) = (some (.int .u64 n25))) ∧
 ∃ (n26 : Int), ((Go.World.cell? w24 (Addr.add ⟨w.heap.size, 0, none⟩ 6)) = (some (.int .i64 n26))) ∧
 bindW (World.drew w23) fun w27 =>
 Go.CW.Spec Tryz.prog 120 #[v22, (.int .u64 n25), (.int .i64 (8 : Int))] w27 fun v28 w29 =>
 (∃ (n30 : Int), ((Go.World.cell? w29 (Addr.add ⟨w.heap.size, 0, none⟩ 6)) = (some (.int .i64 n30))) ∧
 ((.int .i64 n30) : Value) = (.int .i64 n26)) ∧
 Go.CW.Spec Tryz.prog 120 #[v28, (.int .u64 (IntKind.wrap .u64 n26)), (.int .i64 (2 : Int))] w29 fun v31 w32 =>
 R v31 w32
theorem store_head_bytes_m_wp (p0_0 : Int) (p0_1 : Int) (p0_2 : Int) (p0_3 : Int) (p0_4 : Int) (p0_5 : Int) (p0_6 : Int) (w : World) (R : KV) (h : store_head_bytes_m_F p0_0 p0_1 p0_2 p0_3 p0_4 p0_5 p0_6 w R) : Go.CW.Spec Tryz.prog 114 #[(.agg #[(.int .u64 p0_0), (.int .u32 p0_1), (.int .i64 p0_2), (.int .u64 p0_3), (.int .i64 p0_4), (.int .u64 p0_5), (.int .i64 p0_6)])] w R :=
  spec_of Tryz.func114 (by kernel_rfl) (show store_head_bytes_m_F p0_0 p0_1 p0_2 p0_3 p0_4 p0_5 p0_6 w R = _ by kernel_rfl) h
def store_Store_read_m_F (p0 : Option Addr) (p1 : Int) (p2 : Int) (w : World) (R : KV) : Prop :=
 LoopP [.val, .int .i64]
 (fun j0 => fun (v1 : Value) => fun (n2 : Int) => fun (w3 : World) =>
 ∃ (m4 : Nat), ((Go.CW.sliceLen v1) = (some m4)) ∧
 cond (decide (((m4 : Nat) : Int) ≥ p2))
 (∃ (v5 : Value), ((Go.CW.subSlice v1 1 none (some (.int .i64 p2)) none) = (some v5)) ∧
 Go.CW.Spec Tryz.prog 96 #[v5] w3 fun v6 w7 =>
 R (.tuple #[v6, (.int .i64 (0 : Int))]) w7)
 (withAddr (.pointer p0) fun a8 =>
 ∃ (o9 : Option Addr), ((Go.World.cell? w3 (Addr.add a8 0)) = (some (.pointer o9))) ∧
 Go.CW.Spec Tryz.prog 193 #[(.pointer o9), (.int .i64 (IntKind.wrap .i64 ((IntKind.wrap .i64 ((2 : Int) + (IntKind.wrap .i64 (p1 * (48 : Int))))) + n2)))] w3 fun v10 w11 =>
 ∃ (v12 : Value) (n13 : Int), ((v10 : Value) = (.tuple #[v12, (.int .i64 n13)])) ∧
 cond (n13 != (0 : Int))
 (R (.tuple #[(.slice none 0 0), (.int .i64 n13)]) w11)
 (∃ (v14 : Value) (w15 : World), ((Sem.run @Go.Proofs.Tryz.prog (Go.Builtin.append_ #[34, 34] 34 #[v1, v12]) w11) = (.ok v14 w15)) ∧
 j0 v14 (IntKind.wrap .i64 (n2 + (1 : Int))) w15)))
 (fun s16 => s16 (.slice none 0 0) (0 : Int) w)
theorem store_Store_read_m_wp (p0 : Option Addr) (p1 : Int) (p2 : Int) (w : World) (R : KV) (h : store_Store_read_m_F p0 p1 p2 w R) : Go.CW.Spec Tryz.prog 115 #[(.pointer p0), (.int .i64 p1), (.int .i64 p2)] w R :=
  spec_of Tryz.func115 (by kernel_rfl) (show store_Store_read_m_F p0 p1 p2 w R = _ by kernel_rfl) h
def store_Store_put_m_F (p0 : Option Addr) (p1_0 : Int) (p1_1 : Int) (p1_2 : Int) (p1_3 : Int) (p1_4 : Int) (p1_5 : Int) (p1_6 : Int) (w : World) (R : KV) : Prop :=
 bindW (World.alloc w (.cells #[(.int .u64 p1_0), (.int .u32 p1_1), (.int .i64 p1_2), (.int .u64 p1_3), (.int .i64 p1_4), (.int .u64 p1_5), (.int .i64 p1_6)] 215)) fun w0 =>
 bindW (World.drew w0) fun w1 =>
 withAddr (.pointer p0) fun a2 =>
 ∃ (o3 : Option Addr), ((Go.World.cell? w1 (Addr.add a2 1)) = (some (.pointer o3))) ∧
 ∃ (n4 : Int) (n5 : Int) (n6 : Int) (n7 : Int) (n8 : Int) (n9 : Int) (n10 : Int), (ldCells w1 ⟨w.heap.size, 0, none⟩ 7 #[(.int .u64 n4), (.int .u32 n5), (.int .i64 n6), (.int .u64 n7), (.int .i64 n8), (.int .u64 n9), (.int .i64 n10)]) ∧
 bindW (World.drew w0) fun w11 =>
 Go.CW.Spec Tryz.prog 114 #[(.agg #[(.int .u64 n4), (.int .u32 n5), (.int .i64 n6), (.int .u64 n7), (.int .i64 n8), (.int .u64 n9), (.int .i64 n10)])] w11 fun v12 w13 =>
 (∃ (o14 : Option Addr), ((Go.World.cell? w13 (Addr.add a2 1)) = (some (.pointer o14))) ∧
 ((.pointer o14) : Value) = (.pointer o3)) ∧
 Go.CW.Spec Tryz.prog 110 #[(.pointer o3), v12] w13 fun v15 w16 =>
 ∃ (n17 : Int), ((v15 : Value) = (.int .i64 n17)) ∧
 cond (n17 != (0 : Int))
 (R (.int .i64 n17) w16)
 (∃ (n18 : Int) (n19 : Int) (n20 : Int) (n21 : Int) (n22 : Int) (n23 : Int) (n24 : Int), (ldCells w16 ⟨w.heap.size, 0, none⟩ 7 #[(.int .u64 n18), (.int .u32 n19), (.int .i64 n20), (.int .u64 n21), (.int .i64 n22), (.int .u64 n23), (.int .i64 n24)]) ∧
 withAddr (.pointer p0) fun a25 =>
 (StRow w16 (Addr.add a25 3) #[(.int .u64 n18), (.int .u32 n19), (.int .i64 n20), (.int .u64 n21), (.int .i64 n22), (.int .u64 n23), (.int .i64 n24)]) ∧
 bindW (stRow w16 (Addr.add a25 3) #[(.int .u64 n18), (.int .u32 n19), (.int .i64 n20), (.int .u64 n21), (.int .i64 n22), (.int .u64 n23), (.int .i64 n24)]) fun w26 =>
 R (.int .i64 (0 : Int)) w26)
theorem store_Store_put_m_wp (p0 : Option Addr) (p1_0 : Int) (p1_1 : Int) (p1_2 : Int) (p1_3 : Int) (p1_4 : Int) (p1_5 : Int) (p1_6 : Int) (w : World) (R : KV) (h : store_Store_put_m_F p0 p1_0 p1_1 p1_2 p1_3 p1_4 p1_5 p1_6 w R) : Go.CW.Spec Tryz.prog 116 #[(.pointer p0), (.agg #[(.int .u64 p1_0), (.int .u32 p1_1), (.int .i64 p1_2), (.int .u64 p1_3), (.int .i64 p1_4), (.int .u64 p1_5), (.int .i64 p1_6)])] w R :=
  spec_of Tryz.func116 (by kernel_rfl) (show store_Store_put_m_F p0 p1_0 p1_1 p1_2 p1_3 p1_4 p1_5 p1_6 w R = _ by kernel_rfl) h
def store_Store_journal_m_F (p0 : Option Addr) (w : World) (R : KV) : Prop :=
 bindW (World.drew w) fun w0 =>
 withAddr (.pointer p0) fun a1 =>
 ∃ (o2 : Option Addr), ((Go.World.cell? w0 (Addr.add a1 0)) = (some (.pointer o2))) ∧
 withAddr (.pointer p0) fun a3 =>
 ∃ (n4 : Int), ((Go.World.cell? w0 (Addr.add (Addr.add a3 3) 5)) = (some (.int .u64 n4))) ∧
 withAddr (.pointer p0) fun a5 =>
 ∃ (n6 : Int), ((Go.World.cell? w0 (Addr.add (Addr.add a5 3) 6)) = (some (.int .i64 n6))) ∧
 withAddr (.pointer p0) fun a7 =>
 ∃ (n8 : Int), ((Go.World.cell? w0 (Addr.add (Addr.add a7 3) 1)) = (some (.int .u32 n8))) ∧
 bindW (World.drew w) fun w9 =>
 Go.CW.Spec Tryz.prog 196 #[(.pointer o2), (.int .i64 (98 : Int)), (.int .i64 (256 : Int)), (.int .u64 n4), (.int .i64 n6), (.int .u32 n8)] w9 fun v10 w11 =>
 ∃ (o12 : Option Addr) (v13 : Value) (n14 : Int), ((v10 : Value) = (.tuple #[(.pointer o12), v13, (.int .i64 n14)])) ∧
 cond (n14 != (0 : Int))
 (R (.int .i64 n14) w11)
 (withAddr (.pointer p0) fun a15 =>
 (St1 w11 (Addr.add a15 2)) ∧
 bindW (World.setCell w11 (Addr.add a15 2) (.pointer o12)) fun w16 =>
 withAddr (.pointer p0) fun a17 =>
 (St1 w16 (Addr.add a17 11)) ∧
 bindW (World.setCell w16 (Addr.add a17 11) (.slice none 0 0)) fun w18 =>
 ∃ (m19 : Nat), ((Go.CW.sliceLen v13) = (some m19)) ∧
 JoinP []
 (fun (w20 : World) =>
 R (.int .i64 (0 : Int)) w20)
 (fun j21 =>
 LoopP [.int .i64]
 (fun j22 => fun (n23 : Int) => fun (w24 : World) =>
 cond (decide (n23 < ((m19 : Nat) : Int)))
 (∃ (a25 : Addr), ((Go.CW.sliceAt v13 n23 1) = (some a25)) ∧
 ∃ (v26 : Value), ((Go.World.cell? w24 a25) = (some v26)) ∧
 Go.CW.Spec Tryz.prog 148 #[v26, (.int .i64 (0 : Int)), (.int .i64 (8 : Int))] w24 fun v27 w28 =>
 ∃ (n29 : Int) (b30 : Bool), ((v27 : Value) = (.tuple #[(.int .u64 n29), (.bool b30)])) ∧
 Go.CW.Spec Tryz.prog 148 #[v26, (.int .i64 (8 : Int)), (.int .i64 (8 : Int))] w28 fun v31 w32 =>
 ∃ (n33 : Int) (b34 : Bool), ((v31 : Value) = (.tuple #[(.int .u64 n33), (.bool b34)])) ∧
 JoinP [.bool]
 (fun (b35 : Bool) => fun (w36 : World) =>
 cond b35
 (j21 w36)
 (bindW (World.drew w36) fun w37 =>
 withAddr (.pointer p0) fun a38 =>
 ∃ (v39 : Value), ((Go.World.cell? w37 (Addr.add a38 11)) = (some v39)) ∧
 ∃ (v40 : Value), ((Go.CW.subSlice v26 1 (some (.int .i64 (16 : Int))) none none) = (some v40)) ∧
 bindW (World.drew w36) fun w41 =>
 Go.CW.Spec Tryz.prog 85 #[v40] w41 fun v42 w43 =>
 (∃ (v44 : Value), ((Go.World.cell? w43 (Addr.add a38 11)) = (some v44)) ∧
 (v44 : Value) = v39) ∧
 oneK v42 ((∃ (v45 : Value), ((Go.World.cell? (World.alloc w43 (.cells #[(.int .u64 n29), (.int .u64 n33), v42] 108)) (Addr.add a38 11)) = (some v45)) ∧
 (v45 : Value) = v39) ∧
 bindW (World.alloc w43 (.cells #[(.int .u64 n29), (.int .u64 n33), v42] 108)) fun w46 =>
 bindW (World.alloc w43 (.cells #[(.int .u64 n29), (.int .u64 n33), v42] 108)) fun w47 =>
 ∃ (v48 : Value) (w49 : World), ((Sem.run @Go.Proofs.Tryz.prog (Go.Builtin.append_ #[220, 220] 220 #[v39, (.slice (some ⟨w43.heap.size, 0, none⟩) 1 1)]) w47) = (.ok v48 w49)) ∧
 withAddr (.pointer p0) fun a50 =>
 oneK v48 ((St1 w49 (Addr.add a50 11)) ∧
 bindW (World.setCell w49 (Addr.add a50 11) v48) fun w51 =>
 bindW (World.setCell w49 (Addr.add a50 11) v48) fun w52 =>
 j22 (IntKind.wrap .i64 (n23 + (1 : Int))) w52))))
 (fun j53 =>
 cond (!b34)
 (j53 true w32)
 (Go.CW.Spec Tryz.prog 118 #[(.pointer p0)] w32 fun v54 w55 =>
 ∃ (n56 : Int), ((v54 : Value) = (.int .u64 n56)) ∧
 j53 (n29 != (IntKind.wrap .u64 (n56 + (1 : Int)))) w55)))
 (j21 w24))
 (fun s57 => s57 (0 : Int) w18)))
theorem store_Store_journal_m_wp (p0 : Option Addr) (w : World) (R : KV) (h : store_Store_journal_m_F p0 w R) : Go.CW.Spec Tryz.prog 117 #[(.pointer p0)] w R :=
  spec_of Tryz.func117 (by kernel_rfl) (show store_Store_journal_m_F p0 w R = _ by kernel_rfl) h
def store_Store_Last_m_F (p0 : Option Addr) (w : World) (R : KV) : Prop :=
 bindW (World.drew w) fun w0 =>
 withAddr (.pointer p0) fun a1 =>
 ∃ (n2 : Int), ((Go.World.cell? w0 (Addr.add (Addr.add a1 3) 3)) = (some (.int .u64 n2))) ∧
 withAddr (.pointer p0) fun a3 =>
 ∃ (v4 : Value), ((Go.World.cell? w0 (Addr.add a3 11)) = (some v4)) ∧
 ∃ (m5 : Nat), ((Go.CW.sliceLen v4) = (some m5)) ∧
 bindW (World.drew w) fun w6 =>
 R (.int .u64 (IntKind.wrap .u64 (n2 + (IntKind.wrap .u64 ((m5 : Nat) : Int))))) w6
theorem store_Store_Last_m_wp (p0 : Option Addr) (w : World) (R : KV) (h : store_Store_Last_m_F p0 w R) : Go.CW.Spec Tryz.prog 118 #[(.pointer p0)] w R :=
  spec_of Tryz.func118 (by kernel_rfl) (show store_Store_Last_m_F p0 w R = _ by kernel_rfl) h
def store_parse_1_F (p0 : Int) (p1 : Value) (p2 : Value) (w : World) (R : KV) : Prop :=
 withAddr p1 fun a0 =>
 ∃ (v1 : Value), ((Go.World.cell? w a0) = (some v1)) ∧
 withAddr p2 fun a2 =>
 ∃ (n3 : Int), ((Go.World.cell? w a2) = (some (.int .i64 n3))) ∧
 Go.CW.Spec Tryz.prog 148 #[v1, (.int .i64 n3), (.int .i64 p0)] w fun v4 w5 =>
 ∃ (n6 : Int) (b7 : Bool), ((v4 : Value) = (.tuple #[(.int .u64 n6), (.bool b7)])) ∧
 withAddr p2 fun a8 =>
 ∃ (n9 : Int), ((Go.World.cell? w5 a8) = (some (.int .i64 n9))) ∧
 withAddr p2 fun a10 =>
 (St1 w5 a10) ∧
 bindW (World.setCell w5 a10 (.int .i64 (IntKind.wrap .i64 (n9 + p0)))) fun w11 =>
 R (.int .u64 n6) w11
theorem store_parse_1_wp (p0 : Int) (p1 : Value) (p2 : Value) (w : World) (R : KV) (h : store_parse_1_F p0 p1 p2 w R) : Go.CW.Spec Tryz.prog 195 #[(.int .i64 p0), p1, p2] w R :=
  spec_of Tryz.func195 (by kernel_rfl) (show store_parse_1_F p0 p1 p2 w R = _ by kernel_rfl) h
def gemeltop_TopJournal_F (p0 : Value) (p1 : Value) (p2 : Value) (w : World) (R : KV) : Prop :=
 Go.CW.Spec Tryz.prog 9 #[] w fun v0 w1 =>
 ∃ (b2 : Bool), ((v0 : Value) = (.bool b2)) ∧
 cond (!b2)
 (R (.bool false) w1)
 (JoinP [.bool]
 (fun (b3 : Bool) => fun (w4 : World) =>
 cond b3
 (R (.bool true) w4)
 (Go.CW.Spec Tryz.prog 43 #[] w4 fun v5 w6 =>
 ∃ (n7 : Int), ((v5 : Value) = (.int .i64 n7)) ∧
 Go.CW.Spec Tryz.prog 36 #[(.int .i64 n7)] w6 fun v8 w9 =>
 ∃ (o10 : Option Addr) (n11 : Int), ((v8 : Value) = (.tuple #[(.pointer o10), (.int .i64 n11)])) ∧
 Go.CW.Spec Tryz.prog 44 #[(.pointer o10)] w9 fun v12 w13 =>
 ∃ (n14 : Int), ((v12 : Value) = (.int .i64 n14)) ∧
 cond (n14 != (0 : Int))
 (R (.bool false) w13)
 (Go.CW.Spec Tryz.prog 45 #[(.pointer o10)] w13 fun v15 w16 =>
 ∃ (o17 : Option Addr) (n18 : Int), ((v15 : Value) = (.tuple #[(.pointer o17), (.int .i64 n18)])) ∧
 cond (n18 != (0 : Int))
 (R (.bool false) w16)
 (Go.CW.Spec Tryz.prog 18 #[(.int .i64 (32 : Int))] w16 fun v19 w20 =>
 ∃ (o21 : Option Addr) (n22 : Int), ((v19 : Value) = (.tuple #[(.pointer o21), (.int .i64 n22)])) ∧
 LoopP [.ptr, .int .i64]
 (fun j23 => fun (o24 : Option Addr) => fun (n25 : Int) => fun (w26 : World) =>
 ∃ (m27 : Nat), ((Go.CW.sliceLen p0) = (some m27)) ∧
 cond (decide (n25 < ((m27 : Nat) : Int)))
 (JoinP [.ptr]
 (fun (o28 : Option Addr) => fun (w29 : World) =>
 j23 o28 (IntKind.wrap .i64 (n25 + (1 : Int))) w29)
 (fun j30 =>
 bindW (World.drew w26) fun w31 =>
 ∃ (a32 : Addr), ((Go.CW.sliceAt p0 n25 3) = (some a32)) ∧
 ∃ (n33 : Int), ((Go.World.cell? w31 (Addr.add a32 0)) = (some (.int .u8 n33))) ∧
 ∃ (a34 : Addr), ((Go.CW.sliceAt p0 n25 3) = (some a34)) ∧
 ∃ (n35 : Int), ((Go.World.cell? w31 (Addr.add a34 1)) = (some (.int .u8 n35))) ∧
 ∃ (a36 : Addr), ((Go.CW.sliceAt p0 n25 3) = (some a36)) ∧
 ∃ (n37 : Int), ((Go.World.cell? w31 (Addr.add a36 2)) = (some (.int .u8 n37))) ∧
 bindW (World.drew w26) fun w38 =>
 bindW (World.alloc w38 (.cells #[(.int .u8 n33), (.int .u8 n35), (.int .u8 n37)] 5)) fun w39 =>
 bindW (World.alloc w38 (.cells #[(.int .u8 n33), (.int .u8 n35), (.int .u8 n37)] 5)) fun w40 =>
 Go.CW.Spec Tryz.prog 46 #[(.pointer o24), (.agg #[(.int .u64 (IntKind.wrap .u64 (IntKind.wrap .i64 (n25 + (1 : Int))))), (.int .u64 (0 : Int)), (.slice (some ⟨w38.heap.size, 0, none⟩) 3 3)])] w40 fun v41 w42 =>
 ∃ (n43 : Int), ((v41 : Value) = (.int .i64 n43)) ∧
 cond (n43 != (0 : Int))
 (R (.bool false) w42)
 (bindW (World.drew w42) fun w44 =>
 ∃ (a45 : Addr), ((Go.CW.sliceAt p0 n25 3) = (some a45)) ∧
 ∃ (n46 : Int), ((Go.World.cell? w44 (Addr.add a45 0)) = (some (.int .u8 n46))) ∧
 ∃ (a47 : Addr), ((Go.CW.sliceAt p0 n25 3) = (some a47)) ∧
 ∃ (n48 : Int), ((Go.World.cell? w44 (Addr.add a47 1)) = (some (.int .u8 n48))) ∧
 ∃ (a49 : Addr), ((Go.CW.sliceAt p0 n25 3) = (some a49)) ∧
 ∃ (n50 : Int), ((Go.World.cell? w44 (Addr.add a49 2)) = (some (.int .u8 n50))) ∧
 bindW (World.drew w42) fun w51 =>
 Go.CW.Spec Tryz.prog 13 #[(.int .u8 n46), (.int .u8 n48), (.int .u8 n50)] w51 fun v52 w53 =>
 ∃ (n54 : Int) (n55 : Int) (n56 : Int) (v57 : Value) (n58 : Int) (n59 : Int) (n60 : Int) (b61 : Bool), ((v52 : Value) = (.agg #[(.int .i64 n54), (.int .i64 n55), (.int .i64 n56), v57, (.int .u64 n58), (.int .u64 n59), (.int .i64 n60), (.bool b61)])) ∧
 Go.CW.Spec Tryz.prog 20 #[(.pointer o21), (.int .i64 (1 : Int)), (.agg #[(.int .i64 n54), (.int .i64 n55), (.int .i64 n56), v57, (.int .u64 n58), (.int .u64 n59), (.int .i64 n60), (.bool b61)])] w53 fun v62 w63 =>
 ∃ (n64 : Int) (n65 : Int) (n66 : Int) (v67 : Value) (n68 : Int), ((v62 : Value) = (.agg #[(.int .i64 n64), (.int .i64 n65), (.int .i64 n66), v67, (.int .i64 n68)])) ∧
 ∃ (a69 : Addr), ((Go.CW.sliceAt p1 n25 1) = (some a69)) ∧
 ∃ (b70 : Bool), ((Go.World.cell? w63 a69) = (some (.bool b70))) ∧
 cond b70
 (Go.CW.Spec Tryz.prog 47 #[(.pointer o10), p2] w63 fun v71 w72 =>
 ((v71 : Value) = (.tuple #[])) ∧
 Go.CW.Spec Tryz.prog 41 #[(.pointer o10)] w72 fun v73 w74 =>
 ((v73 : Value) = (.tuple #[])) ∧
 Go.CW.Spec Tryz.prog 45 #[(.pointer o10)] w74 fun v75 w76 =>
 ∃ (o77 : Option Addr) (n78 : Int), ((v75 : Value) = (.tuple #[(.pointer o77), (.int .i64 n78)])) ∧
 JoinP [.bool]
 (fun (b79 : Bool) => fun (w80 : World) =>
 cond b79
 (R (.bool false) w80)
 (j30 o77 w80))
 (fun j81 =>
 cond (n78 != (0 : Int))
 (j81 true w76)
 (∃ (b82 : Bool), ((Go.CW.isNilP (.pointer o77)) = (some b82)) ∧
 j81 b82 w76)))
 (j30 o24 w63))))
 (Go.CW.Spec Tryz.prog 18 #[(.int .i64 (32 : Int))] w26 fun v83 w84 =>
 ∃ (o85 : Option Addr) (n86 : Int), ((v83 : Value) = (.tuple #[(.pointer o85), (.int .i64 n86)])) ∧
 LoopP [.int .i64]
 (fun j87 => fun (n88 : Int) => fun (w89 : World) =>
 ∃ (m90 : Nat), ((Go.CW.sliceLen p0) = (some m90)) ∧
 cond (decide (n88 < ((m90 : Nat) : Int)))
 (Go.CW.Spec Tryz.prog 48 #[(.pointer o24), (.int .u64 (IntKind.wrap .u64 (IntKind.wrap .i64 (n88 + (1 : Int)))))] w89 fun v91 w92 =>
 ∃ (n93 : Int) (n94 : Int) (v95 : Value) (b96 : Bool), ((v91 : Value) = (.tuple #[(.agg #[(.int .u64 n93), (.int .u64 n94), v95]), (.bool b96)])) ∧
 bindW (World.alloc w92 (.cells #[(.int .u64 (0 : Int)), (.int .u64 (0 : Int)), (.slice none 0 0)] 108)) fun w97 =>
 (StRow w97 ⟨w92.heap.size, 0, none⟩ #[(.int .u64 n93), (.int .u64 n94), v95]) ∧
 bindW (stRow w97 ⟨w92.heap.size, 0, none⟩ #[(.int .u64 n93), (.int .u64 n94), v95]) fun w98 =>
 JoinP [.bool]
 (fun (b99 : Bool) => fun (w100 : World) =>
 cond b99
 (R (.bool false) w100)
 (bindW (World.drew w100) fun w101 =>
 ∃ (v102 : Value), ((Go.World.cell? w101 (Addr.add ⟨w92.heap.size, 0, none⟩ 2)) = (some v102)) ∧
 ∃ (a103 : Addr), ((Go.CW.sliceAt v102 (0 : Int) 1) = (some a103)) ∧
 ∃ (n104 : Int), ((Go.World.cell? w101 a103) = (some (.int .u8 n104))) ∧
 ∃ (v105 : Value), ((Go.World.cell? w101 (Addr.add ⟨w92.heap.size, 0, none⟩ 2)) = (some v105)) ∧
 ∃ (a106 : Addr), ((Go.CW.sliceAt v105 (1 : Int) 1) = (some a106)) ∧
 ∃ (n107 : Int), ((Go.World.cell? w101 a106) = (some (.int .u8 n107))) ∧
 ∃ (v108 : Value), ((Go.World.cell? w101 (Addr.add ⟨w92.heap.size, 0, none⟩ 2)) = (some v108)) ∧
 ∃ (a109 : Addr), ((Go.CW.sliceAt v108 (2 : Int) 1) = (some a109)) ∧
 ∃ (n110 : Int), ((Go.World.cell? w101 a109) = (some (.int .u8 n110))) ∧
 bindW (World.drew w100) fun w111 =>
 Go.CW.Spec Tryz.prog 13 #[(.int .u8 n104), (.int .u8 n107), (.int .u8 n110)] w111 fun v112 w113 =>
 ∃ (n114 : Int) (n115 : Int) (n116 : Int) (v117 : Value) (n118 : Int) (n119 : Int) (n120 : Int) (b121 : Bool), ((v112 : Value) = (.agg #[(.int .i64 n114), (.int .i64 n115), (.int .i64 n116), v117, (.int .u64 n118), (.int .u64 n119), (.int .i64 n120), (.bool b121)])) ∧
 Go.CW.Spec Tryz.prog 20 #[(.pointer o85), (.int .i64 (1 : Int)), (.agg #[(.int .i64 n114), (.int .i64 n115), (.int .i64 n116), v117, (.int .u64 n118), (.int .u64 n119), (.int .i64 n120), (.bool b121)])] w113 fun v122 w123 =>
 ∃ (n124 : Int) (n125 : Int) (n126 : Int) (v127 : Value) (n128 : Int), ((v122 : Value) = (.agg #[(.int .i64 n124), (.int .i64 n125), (.int .i64 n126), v127, (.int .i64 n128)])) ∧
 j87 (IntKind.wrap .i64 (n88 + (1 : Int))) w123))
 (fun j129 =>
 cond (!b96)
 (j129 true w98)
 (∃ (v130 : Value), ((Go.World.cell? w98 (Addr.add ⟨w92.heap.size, 0, none⟩ 2)) = (some v130)) ∧
 ∃ (m131 : Nat), ((Go.CW.sliceLen v130) = (some m131)) ∧
 j129 (((m131 : Nat) : Int) != (3 : Int)) w98)))
 (Go.CW.Spec Tryz.prog 20 #[(.pointer o21), (.int .i64 (1 : Int)), (.agg #[(.int .i64 (2 : Int)), (.int .i64 (0 : Int)), (.int .i64 (32 : Int)), (.slice none 0 0), (.int .u64 (0 : Int)), (.int .u64 (0 : Int)), (.int .i64 (0 : Int)), (.bool false)])] w89 fun v132 w133 =>
 ∃ (n134 : Int) (n135 : Int) (n136 : Int) (v137 : Value) (n138 : Int), ((v132 : Value) = (.agg #[(.int .i64 n134), (.int .i64 n135), (.int .i64 n136), v137, (.int .i64 n138)])) ∧
 bindW (World.alloc w133 (.cells #[(.int .i64 (0 : Int)), (.int .i64 (0 : Int)), (.int .i64 (0 : Int)), (.slice none 0 0), (.int .i64 (0 : Int))] 54)) fun w139 =>
 (StRow w139 ⟨w133.heap.size, 0, none⟩ #[(.int .i64 n134), (.int .i64 n135), (.int .i64 n136), v137, (.int .i64 n138)]) ∧
 bindW (stRow w139 ⟨w133.heap.size, 0, none⟩ #[(.int .i64 n134), (.int .i64 n135), (.int .i64 n136), v137, (.int .i64 n138)]) fun w140 =>
 Go.CW.Spec Tryz.prog 20 #[(.pointer o85), (.int .i64 (1 : Int)), (.agg #[(.int .i64 (2 : Int)), (.int .i64 (0 : Int)), (.int .i64 (32 : Int)), (.slice none 0 0), (.int .u64 (0 : Int)), (.int .u64 (0 : Int)), (.int .i64 (0 : Int)), (.bool false)])] w140 fun v141 w142 =>
 ∃ (n143 : Int) (n144 : Int) (n145 : Int) (v146 : Value) (n147 : Int), ((v141 : Value) = (.agg #[(.int .i64 n143), (.int .i64 n144), (.int .i64 n145), v146, (.int .i64 n147)])) ∧
 bindW (World.alloc w142 (.cells #[(.int .i64 (0 : Int)), (.int .i64 (0 : Int)), (.int .i64 (0 : Int)), (.slice none 0 0), (.int .i64 (0 : Int))] 54)) fun w148 =>
 (StRow w148 ⟨w142.heap.size, 0, none⟩ #[(.int .i64 n143), (.int .i64 n144), (.int .i64 n145), v146, (.int .i64 n147)]) ∧
 bindW (stRow w148 ⟨w142.heap.size, 0, none⟩ #[(.int .i64 n143), (.int .i64 n144), (.int .i64 n145), v146, (.int .i64 n147)]) fun w149 =>
 Go.CW.Spec Tryz.prog 20 #[(.pointer o21), (.int .i64 (1 : Int)), (.agg #[(.int .i64 (17 : Int)), (.int .i64 (0 : Int)), (.int .i64 (0 : Int)), (.slice none 0 0), (.int .u64 (0 : Int)), (.int .u64 (0 : Int)), (.int .i64 (0 : Int)), (.bool false)])] w149 fun v150 w151 =>
 ∃ (n152 : Int) (n153 : Int) (n154 : Int) (v155 : Value) (n156 : Int), ((v150 : Value) = (.agg #[(.int .i64 n152), (.int .i64 n153), (.int .i64 n154), v155, (.int .i64 n156)])) ∧
 bindW (World.alloc w151 (.cells #[(.int .i64 (0 : Int)), (.int .i64 (0 : Int)), (.int .i64 (0 : Int)), (.slice none 0 0), (.int .i64 (0 : Int))] 54)) fun w157 =>
 (StRow w157 ⟨w151.heap.size, 0, none⟩ #[(.int .i64 n152), (.int .i64 n153), (.int .i64 n154), v155, (.int .i64 n156)]) ∧
 bindW (stRow w157 ⟨w151.heap.size, 0, none⟩ #[(.int .i64 n152), (.int .i64 n153), (.int .i64 n154), v155, (.int .i64 n156)]) fun w158 =>
 Go.CW.Spec Tryz.prog 20 #[(.pointer o85), (.int .i64 (1 : Int)), (.agg #[(.int .i64 (17 : Int)), (.int .i64 (0 : Int)), (.int .i64 (0 : Int)), (.slice none 0 0), (.int .u64 (0 : Int)), (.int .u64 (0 : Int)), (.int .i64 (0 : Int)), (.bool false)])] w158 fun v159 w160 =>
 ∃ (n161 : Int) (n162 : Int) (n163 : Int) (v164 : Value) (n165 : Int), ((v159 : Value) = (.agg #[(.int .i64 n161), (.int .i64 n162), (.int .i64 n163), v164, (.int .i64 n165)])) ∧
 bindW (World.alloc w160 (.cells #[(.int .i64 (0 : Int)), (.int .i64 (0 : Int)), (.int .i64 (0 : Int)), (.slice none 0 0), (.int .i64 (0 : Int))] 54)) fun w166 =>
 (StRow w166 ⟨w160.heap.size, 0, none⟩ #[(.int .i64 n161), (.int .i64 n162), (.int .i64 n163), v164, (.int .i64 n165)]) ∧
 bindW (stRow w166 ⟨w160.heap.size, 0, none⟩ #[(.int .i64 n161), (.int .i64 n162), (.int .i64 n163), v164, (.int .i64 n165)]) fun w167 =>
 JoinP [.bool]
 (fun (b168 : Bool) => fun (w169 : World) =>
 R (.bool b168) w169)
 (fun j170 =>
 ∃ (n171 : Int) (n172 : Int) (n173 : Int) (v174 : Value) (n175 : Int), (ldCells w167 ⟨w133.heap.size, 0, none⟩ 5 #[(.int .i64 n171), (.int .i64 n172), (.int .i64 n173), v174, (.int .i64 n175)]) ∧
 ∃ (n176 : Int) (n177 : Int) (n178 : Int) (v179 : Value) (n180 : Int), (ldCells w167 ⟨w142.heap.size, 0, none⟩ 5 #[(.int .i64 n176), (.int .i64 n177), (.int .i64 n178), v179, (.int .i64 n180)]) ∧
 Go.CW.Spec Tryz.prog 21 #[(.agg #[(.int .i64 n171), (.int .i64 n172), (.int .i64 n173), v174, (.int .i64 n175)]), (.agg #[(.int .i64 n176), (.int .i64 n177), (.int .i64 n178), v179, (.int .i64 n180)])] w167 fun v181 w182 =>
 ∃ (b183 : Bool), ((v181 : Value) = (.bool b183)) ∧
 cond b183
 (∃ (n184 : Int) (n185 : Int) (n186 : Int) (v187 : Value) (n188 : Int), (ldCells w182 ⟨w151.heap.size, 0, none⟩ 5 #[(.int .i64 n184), (.int .i64 n185), (.int .i64 n186), v187, (.int .i64 n188)]) ∧
 ∃ (n189 : Int) (n190 : Int) (n191 : Int) (v192 : Value) (n193 : Int), (ldCells w182 ⟨w160.heap.size, 0, none⟩ 5 #[(.int .i64 n189), (.int .i64 n190), (.int .i64 n191), v192, (.int .i64 n193)]) ∧
 Go.CW.Spec Tryz.prog 21 #[(.agg #[(.int .i64 n184), (.int .i64 n185), (.int .i64 n186), v187, (.int .i64 n188)]), (.agg #[(.int .i64 n189), (.int .i64 n190), (.int .i64 n191), v192, (.int .i64 n193)])] w182 fun v194 w195 =>
 ∃ (b196 : Bool), ((v194 : Value) = (.bool b196)) ∧
 j170 b196 w195)
 (j170 false w182))))
 (fun s197 => s197 (0 : Int) w84)))
 (fun s198 => s198 o17 (0 : Int) w20)))))
 (fun j199 =>
 ∃ (m200 : Nat), ((Go.CW.sliceLen p0) = (some m200)) ∧
 cond (decide (((m200 : Nat) : Int) > (30 : Int)))
 (j199 true w1)
 (∃ (m201 : Nat), ((Go.CW.sliceLen p1) = (some m201)) ∧
 ∃ (m202 : Nat), ((Go.CW.sliceLen p0) = (some m202)) ∧
 cond (decide (((m201 : Nat) : Int) < ((m202 : Nat) : Int)))
 (j199 true w1)
 (∃ (m203 : Nat), ((Go.CW.sliceLen p2) = (some m203)) ∧
 j199 (decide (((m203 : Nat) : Int) > (20 : Int))) w1))))
theorem gemeltop_TopJournal_wp (p0 : Value) (p1 : Value) (p2 : Value) (w : World) (R : KV) (h : gemeltop_TopJournal_F p0 p1 p2 w R) : Go.CW.Spec Tryz.prog 7 #[p0, p1, p2] w R :=
  spec_of Tryz.func7 (by kernel_rfl) (show gemeltop_TopJournal_F p0 p1 p2 w R = _ by kernel_rfl) h
end Go.Proofs.YtghineciiljeoaaGreatDoor
end
