/- The formulas of some functions, printed by a program (wip/cw/CwGen). -/
import Derived.Test.YtnmofoekabbjlaaNam
set_option linter.unusedVariables false
set_option maxRecDepth 100000
namespace Go.Proofs.Ytnmofoekabbjlaa
open Go Go.CW

/-- gemel/gemellaw18.ConnBytes -/
def gemellaw18_ConnBytes_F (p0 : Value) (p1 : Value) (w : World) (R : KV) : Prop :=
 Go.CW.Spec Try.prog 4 #[] w fun v0 w1 =>
 ∃ (b2 : Bool), ((v0 : Value) = (.bool b2)) ∧
 cond (!b2)
 (R (.bool false) w1)
 (JoinP [.bool]
 (fun (b3 : Bool) => fun (w4 : World) =>
 cond b3
 (R (.bool true) w4)
 (Go.CW.Spec Try.prog 5 #[(.int .u32 (1 : Int)), (.bool true)] w4 fun v5 w6 =>
 ∃ (o7 : Option Addr), ((v5 : Value) = (.pointer o7)) ∧
 Go.CW.Spec Try.prog 5 #[(.int .u32 (2 : Int)), (.bool false)] w6 fun v8 w9 =>
 ∃ (o10 : Option Addr), ((v8 : Value) = (.pointer o10)) ∧
 LoopP [.int .i64]
 (fun j11 => fun (n12 : Int) => fun (w13 : World) =>
 ∃ (m14 : Nat), ((Go.CW.sliceLen p0) = (some m14)) ∧
 cond (decide (n12 < ((m14 : Nat) : Int)))
 (∃ (a15 : Addr), ((Go.CW.sliceAt p0 n12 1) = (some a15)) ∧
 ∃ (v16 : Value), ((Go.World.cell? w13 a15) = (some v16)) ∧
 ∃ (m17 : Nat), ((Go.CW.sliceLen v16) = (some m17)) ∧
 cond (decide (((m17 : Nat) : Int) > (3 : Int)))
 (R (.bool true) w13)
 (∃ (a18 : Addr), ((Go.CW.sliceAt p0 n12 1) = (some a18)) ∧
 ∃ (v19 : Value), ((Go.World.cell? w13 a18) = (some v19)) ∧
 Go.CW.Spec Try.prog 6 #[(.pointer o7), v19] w13 fun v20 w21 =>
 ((v20 : Value) = (.tuple #[])) ∧
 ∃ (a22 : Addr), ((Go.CW.sliceAt p0 n12 1) = (some a22)) ∧
 ∃ (v23 : Value), ((Go.World.cell? w21 a22) = (some v23)) ∧
 Go.CW.Spec Try.prog 6 #[(.pointer o10), v23] w21 fun v24 w25 =>
 ((v24 : Value) = (.tuple #[])) ∧
 j11 (IntKind.wrap .i64 (n12 + (1 : Int))) w25))
 (Go.CW.Spec Try.prog 7 #[(.pointer o7), p1] w13 fun v26 w27 =>
 ∃ (n28 : Int), ((v26 : Value) = (.int .i64 n28)) ∧
 LoopP [.val, .int .i64]
 (fun j29 => fun (v30 : Value) => fun (n31 : Int) => fun (w32 : World) =>
 cond (decide (n31 < (70 : Int)))
 (Go.CW.Spec Try.prog 8 #[(.pointer o7), (.pointer o10)] w32 fun v33 w34 =>
 ((v33 : Value) = (.tuple #[])) ∧
 Go.CW.Spec Try.prog 9 #[(.pointer o10)] w34 fun v35 w36 =>
 ∃ (v37 : Value) (w38 : World), ((Sem.run @Go.Proofs.Try.prog (Go.Builtin.append_ #[23, 23] 23 #[v30, v35]) w36) = (.ok v37 w38)) ∧
 j29 v37 (IntKind.wrap .i64 (n31 + (1 : Int))) w38)
 (JoinP [.bool]
 (fun (b39 : Bool) => fun (w40 : World) =>
 R (.bool b39) w40)
 (fun j41 =>
 ∃ (s42 : ByteArray), ((Sem.run @Go.Proofs.Try.prog (Go.convert 23 9 v30) w32) = (.ok (.string s42) w32)) ∧
 ∃ (s43 : ByteArray), ((Sem.run @Go.Proofs.Try.prog (Go.convert 23 9 p1) w32) = (.ok (.string s43) w32)) ∧
 cond (ByteArray.toList s42 == ByteArray.toList s43)
 (Go.CW.Spec Try.prog 10 #[(.pointer o7)] w32 fun v44 w45 =>
 ∃ (b46 : Bool), ((v44 : Value) = (.bool b46)) ∧
 j41 b46 w45)
 (j41 false w32))))
 (fun s47 => s47 (.slice none 0 0) (0 : Int) w27)))
 (fun s48 => s48 (0 : Int) w9)))
 (fun j49 =>
 ∃ (m50 : Nat), ((Go.CW.sliceLen p0) = (some m50)) ∧
 cond (decide (((m50 : Nat) : Int) > (20 : Int)))
 (j49 true w1)
 (∃ (m51 : Nat), ((Go.CW.sliceLen p1) = (some m51)) ∧
 j49 (decide (((m51 : Nat) : Int) > (1000 : Int))) w1)))

theorem gemellaw18_ConnBytes_wp (p0 : Value) (p1 : Value) (w : World) (R : KV) (h : gemellaw18_ConnBytes_F p0 p1 w R) : Go.CW.Spec Try.prog 3 #[p0, p1] w R :=
  spec_of Try.func3 (by kernel_rfl) (show gemellaw18_ConnBytes_F p0 p1 w R = _ by kernel_rfl) h

/-- gemel/gemellaw18.known -/
def gemellaw18_known_F  (w : World) (R : KV) : Prop :=
 Go.CW.Spec Try.prog 5 #[(.int .u32 (1 : Int)), (.bool true)] w fun v0 w1 =>
 ∃ (o2 : Option Addr), ((v0 : Value) = (.pointer o2)) ∧
 Go.CW.Spec Try.prog 5 #[(.int .u32 (2 : Int)), (.bool false)] w1 fun v3 w4 =>
 ∃ (o5 : Option Addr), ((v3 : Value) = (.pointer o5)) ∧
 JoinP [.bool]
 (fun (b6 : Bool) => fun (w7 : World) =>
 cond b6
 (R (.bool false) w7)
 (LoopP [.val, .int .i64]
 (fun j8 => fun (v9 : Value) => fun (n10 : Int) => fun (w11 : World) =>
 cond (decide (n10 < (64 : Int)))
 (Go.CW.Spec Try.prog 8 #[(.pointer o2), (.pointer o5)] w11 fun v12 w13 =>
 ((v12 : Value) = (.tuple #[])) ∧
 Go.CW.Spec Try.prog 9 #[(.pointer o5)] w13 fun v14 w15 =>
 ∃ (v16 : Value) (w17 : World), ((Sem.run @Go.Proofs.Try.prog (Go.Builtin.append_ #[23, 23] 23 #[v9, v14]) w15) = (.ok v16 w17)) ∧
 j8 v16 (IntKind.wrap .i64 (n10 + (1 : Int))) w17)
 (JoinP [.bool]
 (fun (b18 : Bool) => fun (w19 : World) =>
 R (.bool b18) w19)
 (fun j20 =>
 ∃ (s21 : ByteArray), ((Sem.run @Go.Proofs.Try.prog (Go.convert 23 9 v9) w11) = (.ok (.string s21) w11)) ∧
 cond (ByteArray.toList s21 == ByteArray.toList (ByteArray.mk #[104, 101, 108, 108, 111]))
 (Go.CW.Spec Try.prog 11 #[(.pointer o2)] w11 fun v22 w23 =>
 ∃ (b24 : Bool), ((v22 : Value) = (.bool b24)) ∧
 cond b24
 (Go.CW.Spec Try.prog 11 #[(.pointer o5)] w23 fun v25 w26 =>
 ∃ (b27 : Bool), ((v25 : Value) = (.bool b27)) ∧
 cond b27
 (Go.CW.Spec Try.prog 10 #[(.pointer o2)] w26 fun v28 w29 =>
 ∃ (b30 : Bool), ((v28 : Value) = (.bool b30)) ∧
 cond b30
 (Go.CW.Spec Try.prog 12 #[(.pointer o2)] w29 fun v31 w32 =>
 ∃ (b33 : Bool), ((v31 : Value) = (.bool b33)) ∧
 j20 (!b33) w32)
 (j20 false w29))
 (j20 false w26))
 (j20 false w23))
 (j20 false w11))))
 (fun s34 => s34 (.slice none 0 0) (0 : Int) w7)))
 (fun j35 =>
 ∃ (b36 : Bool), ((Go.CW.isNilP (.pointer o2)) = (some b36)) ∧
 cond b36
 (j35 true w4)
 (∃ (b37 : Bool), ((Go.CW.isNilP (.pointer o5)) = (some b37)) ∧
 cond b37
 (j35 true w4)
 (bindW (World.alloc w4 (.cells #[(.int .u8 (104 : Int)), (.int .u8 (101 : Int)), (.int .u8 (108 : Int)), (.int .u8 (108 : Int)), (.int .u8 (111 : Int))] 5)) fun w38 =>
 ∃ (v39 : Value) (w40 : World), ((Sem.run @Go.Proofs.Try.prog (Go.convert 23 23 (.slice (some ⟨w4.heap.size, 0, none⟩) 5 5)) w38) = (.ok v39 w40)) ∧
 Go.CW.Spec Try.prog 7 #[(.pointer o2), v39] w40 fun v41 w42 =>
 ∃ (n43 : Int), ((v41 : Value) = (.int .i64 n43)) ∧
 j35 (n43 != (5 : Int)) w42)))

theorem gemellaw18_known_wp  (w : World) (R : KV) (h : gemellaw18_known_F  w R) : Go.CW.Spec Try.prog 4 #[] w R :=
  spec_of Try.func4 (by kernel_rfl) (show gemellaw18_known_F  w R = _ by kernel_rfl) h

/-- gemel/conn.New -/
def conn_New_F (p0 : Int) (p1 : Bool) (w : World) (R : KV) : Prop :=
 bindW (World.alloc w (.cells #[(.int .u32 p0), (.bool p1), (.int .u32 (0 : Int)), (.bool false), (.bool false), (.bool false), (.slice none 0 0), (.int .u32 (0 : Int)), (.int .i64 (0 : Int)), (.slice none 0 0), (.int .u32 (0 : Int)), (.bool p1)] 34)) fun w0 =>
 R (.pointer (some ⟨w.heap.size, 0, none⟩)) w0

theorem conn_New_wp (p0 : Int) (p1 : Bool) (w : World) (R : KV) (h : conn_New_F p0 p1 w R) : Go.CW.Spec Try.prog 5 #[(.int .u32 p0), (.bool p1)] w R :=
  spec_of Try.func5 (by kernel_rfl) (show conn_New_F p0 p1 w R = _ by kernel_rfl) h

/-- (*gemel/conn.Conn).In -/
def conn_Conn_In_m_F (p0 : Option Addr) (p1 : Value) (w : World) (R : KV) : Prop :=
 Go.CW.Spec Try.prog 13 #[p1] w fun v0 w1 =>
 ∃ (v2 : Value) (n3 : Int), ((v0 : Value) = (.tuple #[v2, (.int .i64 n3)])) ∧
 JoinP [.bool]
 (fun (b4 : Bool) => fun (w5 : World) =>
 cond b4
 (R (.tuple #[]) w5)
 (bindW (World.alloc w5 (.cells #[(.int .u32 (0 : Int)), (.int .u32 (0 : Int)), (.int .u32 (0 : Int)), (.int .u32 (0 : Int))] 38)) fun w6 =>
 LoopP [.int .i64]
 (fun j7 => fun (n8 : Int) => fun (w9 : World) =>
 cond (decide (n8 < (4 : Int)))
 (Go.CW.Spec Try.prog 14 #[v2, (.int .i64 (IntKind.wrap .i64 ((1 : Int) + (IntKind.wrap .i64 ((4 : Int) * n8))))), (.int .i64 (4 : Int))] w9 fun v10 w11 =>
 ∃ (n12 : Int) (b13 : Bool), ((v10 : Value) = (.tuple #[(.int .u64 n12), (.bool b13)])) ∧
 (inR n8 4) ∧
 (St1 w11 (Addr.add ⟨w5.heap.size, 0, none⟩ ((Int.toNat n8) * 1))) ∧
 bindW (World.setCell w11 (Addr.add ⟨w5.heap.size, 0, none⟩ ((Int.toNat n8) * 1)) (.int .u32 (IntKind.wrap .u32 n12))) fun w14 =>
 j7 (IntKind.wrap .i64 (n8 + (1 : Int))) w14)
 (bindW (World.drew w9) fun w15 =>
 (inR (0 : Int) 4) ∧
 ∃ (n16 : Int), ((Go.World.cell? w15 (Addr.add ⟨w5.heap.size, 0, none⟩ 0)) = (some (.int .u32 n16))) ∧
 (inR (1 : Int) 4) ∧
 ∃ (n17 : Int), ((Go.World.cell? w15 (Addr.add ⟨w5.heap.size, 0, none⟩ 1)) = (some (.int .u32 n17))) ∧
 (inR (2 : Int) 4) ∧
 ∃ (n18 : Int), ((Go.World.cell? w15 (Addr.add ⟨w5.heap.size, 0, none⟩ 2)) = (some (.int .u32 n18))) ∧
 (inR (3 : Int) 4) ∧
 ∃ (n19 : Int), ((Go.World.cell? w15 (Addr.add ⟨w5.heap.size, 0, none⟩ 3)) = (some (.int .u32 n19))) ∧
 bindW (World.drew w9) fun w20 =>
 JoinP [.bool]
 (fun (b21 : Bool) => fun (w22 : World) =>
 cond b21
 (withAddr (.pointer p0) fun a23 =>
 (St1 w22 (Addr.add a23 5)) ∧
 bindW (World.setCell w22 (Addr.add a23 5) (.bool true)) fun w24 =>
 R (.tuple #[]) w24)
 (∃ (a25 : Addr), ((Go.CW.sliceAt v2 (0 : Int) 1) = (some a25)) ∧
 ∃ (n26 : Int), ((Go.World.cell? w22 a25) = (some (.int .u8 n26))) ∧
 cond (n26 == (0 : Int))
 (withAddr (.pointer p0) fun a27 =>
 (St1 w22 (Addr.add a27 2)) ∧
 bindW (World.setCell w22 (Addr.add a27 2) (.int .u32 n16)) fun w28 =>
 withAddr (.pointer p0) fun a29 =>
 (St1 w28 (Addr.add a29 3)) ∧
 bindW (World.setCell w28 (Addr.add a29 3) (.bool true)) fun w30 =>
 withAddr (.pointer p0) fun a31 =>
 (St1 w30 (Addr.add a31 11)) ∧
 bindW (World.setCell w30 (Addr.add a31 11) (.bool true)) fun w32 =>
 R (.tuple #[]) w32)
 (withAddr (.pointer p0) fun a33 =>
 ∃ (n34 : Int), ((Go.World.cell? w22 (Addr.add a33 0)) = (some (.int .u32 n34))) ∧
 cond (n17 != n34)
 (withAddr (.pointer p0) fun a35 =>
 (St1 w22 (Addr.add a35 2)) ∧
 bindW (World.setCell w22 (Addr.add a35 2) (.int .u32 n16)) fun w36 =>
 withAddr (.pointer p0) fun a37 =>
 (St1 w36 (Addr.add a37 3)) ∧
 bindW (World.setCell w36 (Addr.add a37 3) (.bool true)) fun w38 =>
 withAddr (.pointer p0) fun a39 =>
 (St1 w38 (Addr.add a39 11)) ∧
 bindW (World.setCell w38 (Addr.add a39 11) (.bool true)) fun w40 =>
 R (.tuple #[]) w40)
 (JoinP []
 (fun (w41 : World) =>
 withAddr (.pointer p0) fun a42 =>
 (St1 w41 (Addr.add a42 2)) ∧
 bindW (World.setCell w41 (Addr.add a42 2) (.int .u32 n16)) fun w43 =>
 withAddr (.pointer p0) fun a44 =>
 (St1 w43 (Addr.add a44 3)) ∧
 bindW (World.setCell w43 (Addr.add a44 3) (.bool true)) fun w45 =>
 withAddr (.pointer p0) fun a46 =>
 (St1 w45 (Addr.add a46 4)) ∧
 bindW (World.setCell w45 (Addr.add a46 4) (.bool true)) fun w47 =>
 ∃ (v48 : Value), ((Go.CW.subSlice v2 1 (some (.int .i64 (17 : Int))) none none) = (some v48)) ∧
 Go.CW.Spec Try.prog 15 #[(.pointer p0), (.int .u32 n18), (.int .u32 n19), v48] w47 fun v49 w50 =>
 ((v49 : Value) = (.tuple #[])) ∧
 R (.tuple #[]) w50)
 (fun j51 =>
 withAddr (.pointer p0) fun a52 =>
 ∃ (b53 : Bool), ((Go.World.cell? w22 (Addr.add a52 11)) = (some (.bool b53))) ∧
 cond b53
 (withAddr (.pointer p0) fun a54 =>
 (St1 w22 (Addr.add a54 11)) ∧
 bindW (World.setCell w22 (Addr.add a54 11) (.bool true)) fun w55 =>
 j51 w55)
 (withAddr (.pointer p0) fun a56 =>
 ∃ (b57 : Bool), ((Go.World.cell? w22 (Addr.add a56 4)) = (some (.bool b57))) ∧
 cond (!b57)
 (withAddr (.pointer p0) fun a58 =>
 (St1 w22 (Addr.add a58 11)) ∧
 bindW (World.setCell w22 (Addr.add a58 11) (.bool true)) fun w59 =>
 j51 w59)
 (∃ (a60 : Addr), ((Go.CW.sliceAt v2 (0 : Int) 1) = (some a60)) ∧
 ∃ (n61 : Int), ((Go.World.cell? w22 a60) = (some (.int .u8 n61))) ∧
 withAddr (.pointer p0) fun a62 =>
 (St1 w22 (Addr.add a62 11)) ∧
 bindW (World.setCell w22 (Addr.add a62 11) (.bool (n61 == (1 : Int)))) fun w63 =>
 j51 w63)))))))
 (fun j64 =>
 withAddr (.pointer p0) fun a65 =>
 ∃ (b66 : Bool), ((Go.World.cell? w20 (Addr.add a65 3)) = (some (.bool b66))) ∧
 cond b66
 (withAddr (.pointer p0) fun a67 =>
 ∃ (n68 : Int), ((Go.World.cell? w20 (Addr.add a67 2)) = (some (.int .u32 n68))) ∧
 j64 (n16 != n68) w20)
 (j64 false w20))))
 (fun s69 => s69 (0 : Int) w6)))
 (fun j70 =>
 cond (n3 != (0 : Int))
 (j70 true w1)
 (∃ (m71 : Nat), ((Go.CW.sliceLen v2) = (some m71)) ∧
 cond (decide (((m71 : Nat) : Int) < (17 : Int)))
 (j70 true w1)
 (∃ (a72 : Addr), ((Go.CW.sliceAt v2 (0 : Int) 1) = (some a72)) ∧
 ∃ (n73 : Int), ((Go.World.cell? w1 a72) = (some (.int .u8 n73))) ∧
 cond (decide (n73 > (2 : Int)))
 (j70 true w1)
 (withAddr (.pointer p0) fun a74 =>
 ∃ (b75 : Bool), ((Go.World.cell? w1 (Addr.add a74 5)) = (some (.bool b75))) ∧
 j70 b75 w1))))

theorem conn_Conn_In_m_wp (p0 : Option Addr) (p1 : Value) (w : World) (R : KV) (h : conn_Conn_In_m_F p0 p1 w R) : Go.CW.Spec Try.prog 6 #[(.pointer p0), p1] w R :=
  spec_of Try.func6 (by kernel_rfl) (show conn_Conn_In_m_F p0 p1 w R = _ by kernel_rfl) h

/-- (*gemel/conn.Conn).Send -/
def conn_Conn_Send_m_F (p0 : Option Addr) (p1 : Value) (w : World) (R : KV) : Prop :=
 withAddr (.pointer p0) fun a0 =>
 ∃ (b1 : Bool), ((Go.World.cell? w (Addr.add a0 5)) = (some (.bool b1))) ∧
 cond b1
 (R (.int .i64 (0 : Int)) w)
 (∃ (m2 : Nat), ((Go.CW.sliceLen p1) = (some m2)) ∧
 withAddr (.pointer p0) fun a3 =>
 ∃ (v4 : Value), ((Go.World.cell? w (Addr.add a3 6)) = (some v4)) ∧
 ∃ (m5 : Nat), ((Go.CW.sliceLen v4) = (some m5)) ∧
 bindW (World.drew w) fun w6 =>
 withAddr (.pointer p0) fun a7 =>
 ∃ (v8 : Value), ((Go.World.cell? w6 (Addr.add a7 6)) = (some v8)) ∧
 ∃ (v9 : Value), ((Go.CW.subSlice p1 1 none (some (.int .i64 (if (IntKind.wrap .i64 ((4096 : Int) - ((m5 : Nat) : Int))) < ((m2 : Nat) : Int) then (IntKind.wrap .i64 ((4096 : Int) - ((m5 : Nat) : Int))) else ((m2 : Nat) : Int)))) none) = (some v9)) ∧
 bindW (World.drew w) fun w10 =>
 ∃ (v11 : Value) (w12 : World), ((Sem.run @Go.Proofs.Try.prog (Go.Builtin.append_ #[23, 23] 23 #[v8, v9]) w10) = (.ok v11 w12)) ∧
 withAddr (.pointer p0) fun a13 =>
 oneK v11 ((St1 w12 (Addr.add a13 6)) ∧
 bindW (World.setCell w12 (Addr.add a13 6) v11) fun w14 =>
 bindW (World.setCell w12 (Addr.add a13 6) v11) fun w15 =>
 R (.int .i64 (if (IntKind.wrap .i64 ((4096 : Int) - ((m5 : Nat) : Int))) < ((m2 : Nat) : Int) then (IntKind.wrap .i64 ((4096 : Int) - ((m5 : Nat) : Int))) else ((m2 : Nat) : Int))) w15))

theorem conn_Conn_Send_m_wp (p0 : Option Addr) (p1 : Value) (w : World) (R : KV) (h : conn_Conn_Send_m_F p0 p1 w R) : Go.CW.Spec Try.prog 7 #[(.pointer p0), p1] w R :=
  spec_of Try.func7 (by kernel_rfl) (show conn_Conn_Send_m_F p0 p1 w R = _ by kernel_rfl) h

/-- gemel/gemellaw18.round -/
def gemellaw18_round_F (p0 : Option Addr) (p1 : Option Addr) (w : World) (R : KV) : Prop :=
 Go.CW.Spec Try.prog 16 #[(.pointer p0)] w fun v0 w1 =>
 ((v0 : Value) = (.tuple #[])) ∧
 Go.CW.Spec Try.prog 16 #[(.pointer p1)] w1 fun v2 w3 =>
 ((v2 : Value) = (.tuple #[])) ∧
 Go.CW.Spec Try.prog 17 #[(.pointer p0)] w3 fun v4 w5 =>
 Go.CW.Spec Try.prog 17 #[(.pointer p1)] w5 fun v6 w7 =>
 LoopP [.int .i64]
 (fun j8 => fun (n9 : Int) => fun (w10 : World) =>
 ∃ (m11 : Nat), ((Go.CW.sliceLen v4) = (some m11)) ∧
 cond (decide (n9 < ((m11 : Nat) : Int)))
 (∃ (a12 : Addr), ((Go.CW.sliceAt v4 n9 1) = (some a12)) ∧
 ∃ (v13 : Value), ((Go.World.cell? w10 a12) = (some v13)) ∧
 Go.CW.Spec Try.prog 6 #[(.pointer p1), v13] w10 fun v14 w15 =>
 ((v14 : Value) = (.tuple #[])) ∧
 j8 (IntKind.wrap .i64 (n9 + (1 : Int))) w15)
 (LoopP [.int .i64]
 (fun j16 => fun (n17 : Int) => fun (w18 : World) =>
 ∃ (m19 : Nat), ((Go.CW.sliceLen v6) = (some m19)) ∧
 cond (decide (n17 < ((m19 : Nat) : Int)))
 (∃ (a20 : Addr), ((Go.CW.sliceAt v6 n17 1) = (some a20)) ∧
 ∃ (v21 : Value), ((Go.World.cell? w18 a20) = (some v21)) ∧
 Go.CW.Spec Try.prog 6 #[(.pointer p0), v21] w18 fun v22 w23 =>
 ((v22 : Value) = (.tuple #[])) ∧
 j16 (IntKind.wrap .i64 (n17 + (1 : Int))) w23)
 (R (.tuple #[]) w18))
 (fun s24 => s24 (0 : Int) w10)))
 (fun s25 => s25 (0 : Int) w7)

theorem gemellaw18_round_wp (p0 : Option Addr) (p1 : Option Addr) (w : World) (R : KV) (h : gemellaw18_round_F p0 p1 w R) : Go.CW.Spec Try.prog 8 #[(.pointer p0), (.pointer p1)] w R :=
  spec_of Try.func8 (by kernel_rfl) (show gemellaw18_round_F p0 p1 w R = _ by kernel_rfl) h

/-- (*gemel/conn.Conn).Recv -/
def conn_Conn_Recv_m_F (p0 : Option Addr) (w : World) (R : KV) : Prop :=
 withAddr (.pointer p0) fun a0 =>
 ∃ (v1 : Value), ((Go.World.cell? w (Addr.add a0 9)) = (some v1)) ∧
 Go.CW.Spec Try.prog 18 #[v1] w fun v2 w3 =>
 withAddr (.pointer p0) fun a4 =>
 (St1 w3 (Addr.add a4 9)) ∧
 bindW (World.setCell w3 (Addr.add a4 9) (.slice none 0 0)) fun w5 =>
 R v2 w5

theorem conn_Conn_Recv_m_wp (p0 : Option Addr) (w : World) (R : KV) (h : conn_Conn_Recv_m_F p0 w R) : Go.CW.Spec Try.prog 9 #[(.pointer p0)] w R :=
  spec_of Try.func9 (by kernel_rfl) (show conn_Conn_Recv_m_F p0 w R = _ by kernel_rfl) h

/-- (*gemel/conn.Conn).Idle -/
def conn_Conn_Idle_m_F (p0 : Option Addr) (w : World) (R : KV) : Prop :=
 withAddr (.pointer p0) fun a0 =>
 ∃ (v1 : Value), ((Go.World.cell? w (Addr.add a0 6)) = (some v1)) ∧
 ∃ (m2 : Nat), ((Go.CW.sliceLen v1) = (some m2)) ∧
 R (.bool (((m2 : Nat) : Int) == (0 : Int))) w

theorem conn_Conn_Idle_m_wp (p0 : Option Addr) (w : World) (R : KV) (h : conn_Conn_Idle_m_F p0 w R) : Go.CW.Spec Try.prog 10 #[(.pointer p0)] w R :=
  spec_of Try.func10 (by kernel_rfl) (show conn_Conn_Idle_m_F p0 w R = _ by kernel_rfl) h

/-- (*gemel/conn.Conn).Up -/
def conn_Conn_Up_m_F (p0 : Option Addr) (w : World) (R : KV) : Prop :=
 JoinP [.bool]
 (fun (b0 : Bool) => fun (w1 : World) =>
 R (.bool b0) w1)
 (fun j2 =>
 withAddr (.pointer p0) fun a3 =>
 ∃ (b4 : Bool), ((Go.World.cell? w (Addr.add a3 3)) = (some (.bool b4))) ∧
 cond b4
 (withAddr (.pointer p0) fun a5 =>
 ∃ (b6 : Bool), ((Go.World.cell? w (Addr.add a5 4)) = (some (.bool b6))) ∧
 cond b6
 (withAddr (.pointer p0) fun a7 =>
 ∃ (b8 : Bool), ((Go.World.cell? w (Addr.add a7 5)) = (some (.bool b8))) ∧
 j2 (!b8) w)
 (j2 false w))
 (j2 false w))

theorem conn_Conn_Up_m_wp (p0 : Option Addr) (w : World) (R : KV) (h : conn_Conn_Up_m_F p0 w R) : Go.CW.Spec Try.prog 11 #[(.pointer p0)] w R :=
  spec_of Try.func11 (by kernel_rfl) (show conn_Conn_Up_m_F p0 w R = _ by kernel_rfl) h

/-- (*gemel/conn.Conn).Reset -/
def conn_Conn_Reset_m_F (p0 : Option Addr) (w : World) (R : KV) : Prop :=
 withAddr (.pointer p0) fun a0 =>
 ∃ (b1 : Bool), ((Go.World.cell? w (Addr.add a0 5)) = (some (.bool b1))) ∧
 R (.bool b1) w

theorem conn_Conn_Reset_m_wp (p0 : Option Addr) (w : World) (R : KV) (h : conn_Conn_Reset_m_F p0 w R) : Go.CW.Spec Try.prog 12 #[(.pointer p0)] w R :=
  spec_of Try.func12 (by kernel_rfl) (show conn_Conn_Reset_m_F p0 w R = _ by kernel_rfl) h

/-- (*gemel/conn.Conn).take -/
def conn_Conn_take_m_F (p0 : Option Addr) (p1 : Int) (p2 : Int) (p3 : Value) (w : World) (R : KV) : Prop :=
 JoinP []
 (fun (w0 : World) =>
 ∃ (m1 : Nat), ((Go.CW.sliceLen p3) = (some m1)) ∧
 cond (((m1 : Nat) : Int) == (0 : Int))
 (R (.tuple #[]) w0)
 (withAddr (.pointer p0) fun a2 =>
 (St1 w0 (Addr.add a2 11)) ∧
 bindW (World.setCell w0 (Addr.add a2 11) (.bool true)) fun w3 =>
 withAddr (.pointer p0) fun a4 =>
 ∃ (n5 : Int), ((Go.World.cell? w3 (Addr.add a4 10)) = (some (.int .u32 n5))) ∧
 Go.CW.Spec Try.prog 23 #[(.int .u32 p2), (.int .u32 n5)] w3 fun v6 w7 =>
 ∃ (n8 : Int), ((v6 : Value) = (.int .i64 n8)) ∧
 JoinP [.bool]
 (fun (b9 : Bool) => fun (w10 : World) =>
 cond b9
 (R (.tuple #[]) w10)
 (∃ (v11 : Value), ((Go.CW.subSlice p3 1 (some (.int .i64 n8)) none none) = (some v11)) ∧
 ∃ (m12 : Nat), ((Go.CW.sliceLen v11) = (some m12)) ∧
 withAddr (.pointer p0) fun a13 =>
 ∃ (v14 : Value), ((Go.World.cell? w10 (Addr.add a13 9)) = (some v14)) ∧
 ∃ (m15 : Nat), ((Go.CW.sliceLen v14) = (some m15)) ∧
 ∃ (v16 : Value), ((Go.CW.subSlice v11 1 none (some (.int .i64 (if (IntKind.wrap .i64 ((4096 : Int) - ((m15 : Nat) : Int))) < ((m12 : Nat) : Int) then (IntKind.wrap .i64 ((4096 : Int) - ((m15 : Nat) : Int))) else ((m12 : Nat) : Int)))) none) = (some v16)) ∧
 withAddr (.pointer p0) fun a17 =>
 ∃ (v18 : Value), ((Go.World.cell? w10 (Addr.add a17 9)) = (some v18)) ∧
 ∃ (v19 : Value) (w20 : World), ((Sem.run @Go.Proofs.Try.prog (Go.Builtin.append_ #[23, 23] 23 #[v18, v16]) w10) = (.ok v19 w20)) ∧
 withAddr (.pointer p0) fun a21 =>
 oneK v19 ((St1 w20 (Addr.add a21 9)) ∧
 bindW (World.setCell w20 (Addr.add a21 9) v19) fun w22 =>
 withAddr (.pointer p0) fun a23 =>
 ∃ (n24 : Int), ((Go.World.cell? w22 (Addr.add a23 10)) = (some (.int .u32 n24))) ∧
 ∃ (m25 : Nat), ((Go.CW.sliceLen v16) = (some m25)) ∧
 withAddr (.pointer p0) fun a26 =>
 (St1 w22 (Addr.add a26 10)) ∧
 bindW (World.setCell w22 (Addr.add a26 10) (.int .u32 (IntKind.wrap .u32 (n24 + (IntKind.wrap .u32 ((m25 : Nat) : Int)))))) fun w27 =>
 R (.tuple #[]) w27)))
 (fun j28 =>
 cond (decide (n8 < (0 : Int)))
 (j28 true w7)
 (∃ (m29 : Nat), ((Go.CW.sliceLen p3) = (some m29)) ∧
 j28 (decide (n8 ≥ ((m29 : Nat) : Int))) w7))))
 (fun j30 =>
 withAddr (.pointer p0) fun a31 =>
 ∃ (n32 : Int), ((Go.World.cell? w (Addr.add a31 7)) = (some (.int .u32 n32))) ∧
 Go.CW.Spec Try.prog 23 #[(.int .u32 n32), (.int .u32 p1)] w fun v33 w34 =>
 ∃ (n35 : Int), ((v33 : Value) = (.int .i64 n35)) ∧
 JoinP [.bool]
 (fun (b36 : Bool) => fun (w37 : World) =>
 cond b36
 (withAddr (.pointer p0) fun a38 =>
 ∃ (v39 : Value), ((Go.World.cell? w37 (Addr.add a38 6)) = (some v39)) ∧
 ∃ (v40 : Value), ((Go.CW.subSlice v39 1 (some (.int .i64 n35)) none none) = (some v40)) ∧
 Go.CW.Spec Try.prog 22 #[v40] w37 fun v41 w42 =>
 withAddr (.pointer p0) fun a43 =>
 oneK v41 ((St1 w42 (Addr.add a43 6)) ∧
 bindW (World.setCell w42 (Addr.add a43 6) v41) fun w44 =>
 withAddr (.pointer p0) fun a45 =>
 (St1 w44 (Addr.add a45 7)) ∧
 bindW (World.setCell w44 (Addr.add a45 7) (.int .u32 p1)) fun w46 =>
 withAddr (.pointer p0) fun a47 =>
 ∃ (n48 : Int), ((Go.World.cell? w46 (Addr.add a47 8)) = (some (.int .i64 n48))) ∧
 withAddr (.pointer p0) fun a49 =>
 (St1 w46 (Addr.add a49 8)) ∧
 bindW (World.setCell w46 (Addr.add a49 8) (.int .i64 (if (IntKind.wrap .i64 (n48 - n35)) < (0 : Int) then (0 : Int) else (IntKind.wrap .i64 (n48 - n35))))) fun w50 =>
 j30 w50))
 (j30 w37))
 (fun j51 =>
 cond (decide (n35 > (0 : Int)))
 (withAddr (.pointer p0) fun a52 =>
 ∃ (v53 : Value), ((Go.World.cell? w34 (Addr.add a52 6)) = (some v53)) ∧
 ∃ (m54 : Nat), ((Go.CW.sliceLen v53) = (some m54)) ∧
 j51 (decide (n35 ≤ ((m54 : Nat) : Int))) w34)
 (j51 false w34)))

theorem conn_Conn_take_m_wp (p0 : Option Addr) (p1 : Int) (p2 : Int) (p3 : Value) (w : World) (R : KV) (h : conn_Conn_take_m_F p0 p1 p2 p3 w R) : Go.CW.Spec Try.prog 15 #[(.pointer p0), (.int .u32 p1), (.int .u32 p2), p3] w R :=
  spec_of Try.func15 (by kernel_rfl) (show conn_Conn_take_m_F p0 p1 p2 p3 w R = _ by kernel_rfl) h

/-- (*gemel/conn.Conn).Tick -/
def conn_Conn_Tick_m_F (p0 : Option Addr) (w : World) (R : KV) : Prop :=
 withAddr (.pointer p0) fun a0 =>
 (St1 w (Addr.add a0 8)) ∧
 bindW (World.setCell w (Addr.add a0 8) (.int .i64 (0 : Int))) fun w1 =>
 withAddr (.pointer p0) fun a2 =>
 ∃ (b3 : Bool), ((Go.World.cell? w1 (Addr.add a2 11)) = (some (.bool b3))) ∧
 cond b3
 (withAddr (.pointer p0) fun a4 =>
 (St1 w1 (Addr.add a4 11)) ∧
 bindW (World.setCell w1 (Addr.add a4 11) (.bool true)) fun w5 =>
 R (.tuple #[]) w5)
 (withAddr (.pointer p0) fun a6 =>
 ∃ (b7 : Bool), ((Go.World.cell? w1 (Addr.add a6 1)) = (some (.bool b7))) ∧
 cond b7
 (withAddr (.pointer p0) fun a8 =>
 ∃ (b9 : Bool), ((Go.World.cell? w1 (Addr.add a8 3)) = (some (.bool b9))) ∧
 cond (!b9)
 (withAddr (.pointer p0) fun a10 =>
 (St1 w1 (Addr.add a10 11)) ∧
 bindW (World.setCell w1 (Addr.add a10 11) (.bool true)) fun w11 =>
 R (.tuple #[]) w11)
 (withAddr (.pointer p0) fun a12 =>
 ∃ (b13 : Bool), ((Go.World.cell? w1 (Addr.add a12 3)) = (some (.bool b13))) ∧
 cond b13
 (withAddr (.pointer p0) fun a14 =>
 ∃ (b15 : Bool), ((Go.World.cell? w1 (Addr.add a14 4)) = (some (.bool b15))) ∧
 cond (!b15)
 (withAddr (.pointer p0) fun a16 =>
 (St1 w1 (Addr.add a16 11)) ∧
 bindW (World.setCell w1 (Addr.add a16 11) (.bool true)) fun w17 =>
 R (.tuple #[]) w17)
 (withAddr (.pointer p0) fun a18 =>
 ∃ (v19 : Value), ((Go.World.cell? w1 (Addr.add a18 6)) = (some v19)) ∧
 ∃ (m20 : Nat), ((Go.CW.sliceLen v19) = (some m20)) ∧
 withAddr (.pointer p0) fun a21 =>
 (St1 w1 (Addr.add a21 11)) ∧
 bindW (World.setCell w1 (Addr.add a21 11) (.bool (decide (((m20 : Nat) : Int) > (0 : Int))))) fun w22 =>
 R (.tuple #[]) w22))
 (withAddr (.pointer p0) fun a23 =>
 ∃ (v24 : Value), ((Go.World.cell? w1 (Addr.add a23 6)) = (some v24)) ∧
 ∃ (m25 : Nat), ((Go.CW.sliceLen v24) = (some m25)) ∧
 withAddr (.pointer p0) fun a26 =>
 (St1 w1 (Addr.add a26 11)) ∧
 bindW (World.setCell w1 (Addr.add a26 11) (.bool (decide (((m25 : Nat) : Int) > (0 : Int))))) fun w27 =>
 R (.tuple #[]) w27)))
 (withAddr (.pointer p0) fun a28 =>
 ∃ (b29 : Bool), ((Go.World.cell? w1 (Addr.add a28 3)) = (some (.bool b29))) ∧
 cond b29
 (withAddr (.pointer p0) fun a30 =>
 ∃ (b31 : Bool), ((Go.World.cell? w1 (Addr.add a30 4)) = (some (.bool b31))) ∧
 cond (!b31)
 (withAddr (.pointer p0) fun a32 =>
 (St1 w1 (Addr.add a32 11)) ∧
 bindW (World.setCell w1 (Addr.add a32 11) (.bool true)) fun w33 =>
 R (.tuple #[]) w33)
 (withAddr (.pointer p0) fun a34 =>
 ∃ (v35 : Value), ((Go.World.cell? w1 (Addr.add a34 6)) = (some v35)) ∧
 ∃ (m36 : Nat), ((Go.CW.sliceLen v35) = (some m36)) ∧
 withAddr (.pointer p0) fun a37 =>
 (St1 w1 (Addr.add a37 11)) ∧
 bindW (World.setCell w1 (Addr.add a37 11) (.bool (decide (((m36 : Nat) : Int) > (0 : Int))))) fun w38 =>
 R (.tuple #[]) w38))
 (withAddr (.pointer p0) fun a39 =>
 ∃ (v40 : Value), ((Go.World.cell? w1 (Addr.add a39 6)) = (some v40)) ∧
 ∃ (m41 : Nat), ((Go.CW.sliceLen v40) = (some m41)) ∧
 withAddr (.pointer p0) fun a42 =>
 (St1 w1 (Addr.add a42 11)) ∧
 bindW (World.setCell w1 (Addr.add a42 11) (.bool (decide (((m41 : Nat) : Int) > (0 : Int))))) fun w43 =>
 R (.tuple #[]) w43)))

theorem conn_Conn_Tick_m_wp (p0 : Option Addr) (w : World) (R : KV) (h : conn_Conn_Tick_m_F p0 w R) : Go.CW.Spec Try.prog 16 #[(.pointer p0)] w R :=
  spec_of Try.func16 (by kernel_rfl) (show conn_Conn_Tick_m_F p0 w R = _ by kernel_rfl) h

/-- (*gemel/conn.Conn).Out -/
def conn_Conn_Out_m_F (p0 : Option Addr) (w : World) (R : KV) : Prop :=
 withAddr (.pointer p0) fun a0 =>
 ∃ (b1 : Bool), ((Go.World.cell? w (Addr.add a0 5)) = (some (.bool b1))) ∧
 cond b1
 (R (.slice none 0 0) w)
 (JoinP [.val]
 (fun (v2 : Value) => fun (w3 : World) =>
 JoinP [.val]
 (fun (v4 : Value) => fun (w5 : World) =>
 withAddr (.pointer p0) fun a6 =>
 (St1 w5 (Addr.add a6 11)) ∧
 bindW (World.setCell w5 (Addr.add a6 11) (.bool false)) fun w7 =>
 Go.CW.Spec Try.prog 25 #[v4] w7 fun v8 w9 =>
 R v8 w9)
 (fun j10 =>
 JoinP [.bool]
 (fun (b11 : Bool) => fun (w12 : World) =>
 cond b11
 (withAddr (.pointer p0) fun a13 =>
 ∃ (n14 : Int), ((Go.World.cell? w12 (Addr.add a13 8)) = (some (.int .i64 n14))) ∧
 Go.CW.Spec Try.prog 24 #[(.pointer p0), (.int .i64 n14), (.slice none 0 0)] w12 fun v15 w16 =>
 oneK v15 (bindW (World.alloc w16 (.cells #[v15] 23)) fun w17 =>
 ∃ (v18 : Value) (w19 : World), ((Sem.run @Go.Proofs.Try.prog (Go.Builtin.append_ #[22, 22] 22 #[v2, (.slice (some ⟨w16.heap.size, 0, none⟩) 1 1)]) w17) = (.ok v18 w19)) ∧
 j10 v18 w19))
 (j10 v2 w12))
 (fun j20 =>
 withAddr (.pointer p0) fun a21 =>
 ∃ (b22 : Bool), ((Go.World.cell? w3 (Addr.add a21 11)) = (some (.bool b22))) ∧
 cond b22
 (∃ (m23 : Nat), ((Go.CW.sliceLen v2) = (some m23)) ∧
 j20 (((m23 : Nat) : Int) == (0 : Int)) w3)
 (j20 false w3))))
 (fun j24 =>
 LoopP [.val]
 (fun j25 => fun (v26 : Value) => fun (w27 : World) =>
 withAddr (.pointer p0) fun a28 =>
 ∃ (b29 : Bool), ((Go.World.cell? w27 (Addr.add a28 3)) = (some (.bool b29))) ∧
 cond b29
 (bindW (World.drew w27) fun w30 =>
 withAddr (.pointer p0) fun a31 =>
 ∃ (v32 : Value), ((Go.World.cell? w30 (Addr.add a31 6)) = (some v32)) ∧
 ∃ (m33 : Nat), ((Go.CW.sliceLen v32) = (some m33)) ∧
 withAddr (.pointer p0) fun a34 =>
 ∃ (n35 : Int), ((Go.World.cell? w30 (Addr.add a34 8)) = (some (.int .i64 n35))) ∧
 bindW (World.drew w27) fun w36 =>
 cond ((if (1024 : Int) < (IntKind.wrap .i64 (((m33 : Nat) : Int) - n35)) then (1024 : Int) else (IntKind.wrap .i64 (((m33 : Nat) : Int) - n35))) == (0 : Int))
 (j24 v26 w36)
 (bindW (World.drew w36) fun w37 =>
 withAddr (.pointer p0) fun a38 =>
 ∃ (n39 : Int), ((Go.World.cell? w37 (Addr.add a38 8)) = (some (.int .i64 n39))) ∧
 withAddr (.pointer p0) fun a40 =>
 ∃ (v41 : Value), ((Go.World.cell? w37 (Addr.add a40 6)) = (some v41)) ∧
 withAddr (.pointer p0) fun a42 =>
 ∃ (n43 : Int), ((Go.World.cell? w37 (Addr.add a42 8)) = (some (.int .i64 n43))) ∧
 withAddr (.pointer p0) fun a44 =>
 ∃ (n45 : Int), ((Go.World.cell? w37 (Addr.add a44 8)) = (some (.int .i64 n45))) ∧
 ∃ (v46 : Value), ((Go.CW.subSlice v41 1 (some (.int .i64 n43)) (some (.int .i64 (IntKind.wrap .i64 (n45 + (if (1024 : Int) < (IntKind.wrap .i64 (((m33 : Nat) : Int) - n35)) then (1024 : Int) else (IntKind.wrap .i64 (((m33 : Nat) : Int) - n35))))))) none) = (some v46)) ∧
 bindW (World.drew w36) fun w47 =>
 Go.CW.Spec Try.prog 24 #[(.pointer p0), (.int .i64 n39), v46] w47 fun v48 w49 =>
 oneK v48 (bindW (World.alloc w49 (.cells #[v48] 23)) fun w50 =>
 bindW (World.alloc w49 (.cells #[v48] 23)) fun w51 =>
 ∃ (v52 : Value) (w53 : World), ((Sem.run @Go.Proofs.Try.prog (Go.Builtin.append_ #[22, 22] 22 #[v26, (.slice (some ⟨w49.heap.size, 0, none⟩) 1 1)]) w51) = (.ok v52 w53)) ∧
 withAddr (.pointer p0) fun a54 =>
 ∃ (n55 : Int), ((Go.World.cell? w53 (Addr.add a54 8)) = (some (.int .i64 n55))) ∧
 withAddr (.pointer p0) fun a56 =>
 (St1 w53 (Addr.add a56 8)) ∧
 bindW (World.setCell w53 (Addr.add a56 8) (.int .i64 (IntKind.wrap .i64 (n55 + (if (1024 : Int) < (IntKind.wrap .i64 (((m33 : Nat) : Int) - n35)) then (1024 : Int) else (IntKind.wrap .i64 (((m33 : Nat) : Int) - n35))))))) fun w57 =>
 j25 v52 w57)))
 (j24 v26 w27))
 (fun s58 => s58 (.slice none 0 0) w)))

theorem conn_Conn_Out_m_wp (p0 : Option Addr) (w : World) (R : KV) (h : conn_Conn_Out_m_F p0 w R) : Go.CW.Spec Try.prog 17 #[(.pointer p0)] w R :=
  spec_of Try.func17 (by kernel_rfl) (show conn_Conn_Out_m_F p0 w R = _ by kernel_rfl) h

/-- (*gemel/conn.Conn).packet -/
def conn_Conn_packet_m_F (p0 : Option Addr) (p1 : Int) (p2 : Value) (w : World) (R : KV) : Prop :=
 bindW (World.alloc w (.cells #[(.int .u8 (0 : Int))] 5)) fun w0 =>
 JoinP []
 (fun (w1 : World) =>
 bindW (World.drew w1) fun w2 =>
 withAddr (.pointer p0) fun a3 =>
 ∃ (n4 : Int), ((Go.World.cell? w2 (Addr.add a3 0)) = (some (.int .u32 n4))) ∧
 withAddr (.pointer p0) fun a5 =>
 ∃ (n6 : Int), ((Go.World.cell? w2 (Addr.add a5 2)) = (some (.int .u32 n6))) ∧
 withAddr (.pointer p0) fun a7 =>
 ∃ (n8 : Int), ((Go.World.cell? w2 (Addr.add a7 10)) = (some (.int .u32 n8))) ∧
 withAddr (.pointer p0) fun a9 =>
 ∃ (n10 : Int), ((Go.World.cell? w2 (Addr.add a9 7)) = (some (.int .u32 n10))) ∧
 bindW (World.drew w1) fun w11 =>
 bindW (World.alloc w11 (.cells #[(.int .u32 n4), (.int .u32 n6), (.int .u32 n8), (.int .u32 (IntKind.wrap .u32 (n10 + (IntKind.wrap .u32 p1))))] 27)) fun w12 =>
 ∃ (m13 : Nat), ((Go.CW.sliceLen (.slice (some ⟨w11.heap.size, 0, none⟩) 4 4)) = (some m13)) ∧
 bindW (World.alloc w11 (.cells #[(.int .u32 n4), (.int .u32 n6), (.int .u32 n8), (.int .u32 (IntKind.wrap .u32 (n10 + (IntKind.wrap .u32 p1))))] 27)) fun w14 =>
 LoopP [.val, .int .i64]
 (fun j15 => fun (v16 : Value) => fun (n17 : Int) => fun (w18 : World) =>
 cond (decide (n17 < ((m13 : Nat) : Int)))
 (∃ (a19 : Addr), ((Go.CW.sliceAt (.slice (some ⟨w11.heap.size, 0, none⟩) 4 4) n17 1) = (some a19)) ∧
 ∃ (n20 : Int), ((Go.World.cell? w18 a19) = (some (.int .u32 n20))) ∧
 Go.CW.Spec Try.prog 27 #[v16, (.int .u64 (IntKind.wrap .u64 n20)), (.int .i64 (4 : Int))] w18 fun v21 w22 =>
 j15 v21 (IntKind.wrap .i64 (n17 + (1 : Int))) w22)
 (∃ (v23 : Value) (w24 : World), ((Sem.run @Go.Proofs.Try.prog (Go.Builtin.append_ #[23, 23] 23 #[v16, p2]) w18) = (.ok v23 w24)) ∧
 Go.CW.Spec Try.prog 28 #[v23] w24 fun v25 w26 =>
 R v25 w26))
 (fun s27 => s27 (.slice (some ⟨w.heap.size, 0, none⟩) 1 1) (0 : Int) w14))
 (fun j28 =>
 withAddr (.pointer p0) fun a29 =>
 ∃ (b30 : Bool), ((Go.World.cell? w0 (Addr.add a29 4)) = (some (.bool b30))) ∧
 cond b30
 (∃ (a31 : Addr), ((Go.CW.sliceAt (.slice (some ⟨w.heap.size, 0, none⟩) 1 1) (0 : Int) 1) = (some a31)) ∧
 (St1 w0 a31) ∧
 bindW (World.setCell w0 a31 (.int .u8 (2 : Int))) fun w32 =>
 j28 w32)
 (withAddr (.pointer p0) fun a33 =>
 ∃ (b34 : Bool), ((Go.World.cell? w0 (Addr.add a33 3)) = (some (.bool b34))) ∧
 cond b34
 (∃ (a35 : Addr), ((Go.CW.sliceAt (.slice (some ⟨w.heap.size, 0, none⟩) 1 1) (0 : Int) 1) = (some a35)) ∧
 (St1 w0 a35) ∧
 bindW (World.setCell w0 a35 (.int .u8 (1 : Int))) fun w36 =>
 j28 w36)
 (j28 w0)))

theorem conn_Conn_packet_m_wp (p0 : Option Addr) (p1 : Int) (p2 : Value) (w : World) (R : KV) (h : conn_Conn_packet_m_F p0 p1 p2 w R) : Go.CW.Spec Try.prog 24 #[(.pointer p0), (.int .i64 p1), p2] w R :=
  spec_of Try.func24 (by kernel_rfl) (show conn_Conn_packet_m_F p0 p1 p2 w R = _ by kernel_rfl) h

/-- slices.Clip[[][]byte,[]byte] -/
def slices_ClipB___F (p0 : Value) (w : World) (R : KV) : Prop :=
 ∃ (m0 : Nat), ((Go.CW.sliceLen p0) = (some m0)) ∧
 ∃ (m1 : Nat), ((Go.CW.sliceLen p0) = (some m1)) ∧
 ∃ (v2 : Value), ((Go.CW.subSlice p0 1 none (some (.int .i64 ((m0 : Nat) : Int))) (some (.int .i64 ((m1 : Nat) : Int)))) = (some v2)) ∧
 R v2 w

theorem slices_ClipB___wp (p0 : Value) (w : World) (R : KV) (h : slices_ClipB___F p0 w R) : Go.CW.Spec Try.prog 25 #[p0] w R :=
  spec_of Try.func25 (by kernel_rfl) (show slices_ClipB___F p0 w R = _ by kernel_rfl) h

end Go.Proofs.Ytnmofoekabbjlaa
