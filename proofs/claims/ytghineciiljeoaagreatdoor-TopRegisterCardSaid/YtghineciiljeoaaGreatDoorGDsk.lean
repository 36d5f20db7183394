/- The formulas of some functions, printed by a program (wip/cw/CwGen). -/
import Derived.Test.YtghineciiljeoaaGreatDoorNam
set_option linter.unusedVariables false
set_option maxRecDepth 100000
namespace Go.Proofs.YtghineciiljeoaaGreatDoor
open Go Go.CW

/-- gemel/disk.New -/
def disk_New_F (p0 : Int) (w : World) (R : KV) : Prop :=
 JoinP [.bool]
 (fun (b0 : Bool) => fun (w1 : World) =>
 cond b0
 (R (.tuple #[(.pointer none), (.int .i64 (1 : Int))]) w1)
 (∃ (v2 : Value) (w3 : World), ((Sem.run @Go.Proofs.Tryz.prog (Go.Instr.makeMap 199 none) w1) = (.ok v2 w3)) ∧
 oneK v2 (bindW (World.alloc w3 (.cells #[(.int .i64 p0), v2, (.bool false), (.bool false), (.int .i64 (0 : Int)), (.slice none 0 0), (.int .i64 (0 : Int))] 201)) fun w4 =>
 R (.tuple #[(.pointer (some ⟨w3.heap.size, 0, none⟩)), (.int .i64 (0 : Int))]) w4)))
 (fun j5 =>
 cond (decide (p0 < (1 : Int)))
 (j5 true w)
 (j5 (decide (p0 > (4096 : Int))) w))

theorem disk_New_wp (p0 : Int) (w : World) (R : KV) (h : disk_New_F p0 w R) : Go.CW.Spec Tryz.prog 36 #[(.int .i64 p0)] w R :=
  spec_of Tryz.func36 (by kernel_rfl) (show disk_New_F p0 w R = _ by kernel_rfl) h

/-- (*gemel/disk.Disk).Write -/
def disk_Disk_Write_m_F (p0 : Option Addr) (p1 : Int) (p2 : Value) (w : World) (R : KV) : Prop :=
 Go.CW.Spec Tryz.prog 253 #[(.pointer p0)] w fun v0 w1 =>
 ∃ (n2 : Int), ((v0 : Value) = (.int .i64 n2)) ∧
 cond (n2 != (0 : Int))
 (R (.int .i64 n2) w1)
 (JoinP [.bool]
 (fun (b3 : Bool) => fun (w4 : World) =>
 cond b3
 (R (.int .i64 (1 : Int)) w4)
 (Go.CW.Spec Tryz.prog 255 #[(.pointer p0)] w4 fun v5 w6 =>
 ∃ (n7 : Int), ((v5 : Value) = (.int .i64 n7)) ∧
 cond (n7 != (0 : Int))
 (R (.int .i64 n7) w6)
 (JoinP []
 (fun (w8 : World) =>
 bindW (World.drew w8) fun w9 =>
 withAddr (.pointer p0) fun a10 =>
 ∃ (v11 : Value), ((Go.World.cell? w9 (Addr.add a10 1)) = (some v11)) ∧
 ∃ (o12 : Option Addr), ((Sem.run @Go.Proofs.Tryz.prog (Go.Instr.lookup 199 v11 (.int .i64 p1) false) w9) = (.ok (.pointer o12) w9)) ∧
 withAddr (.pointer p0) fun a13 =>
 ∃ (v14 : Value), ((Go.World.cell? w9 (Addr.add a13 1)) = (some v14)) ∧
 ∃ (o15 : Option Addr), ((Sem.run @Go.Proofs.Tryz.prog (Go.Instr.lookup 199 v14 (.int .i64 p1) false) w9) = (.ok (.pointer o15) w9)) ∧
 withAddr (.pointer o15) fun a16 =>
 ∃ (v17 : Value), ((Go.World.cell? w9 (Addr.add a16 1)) = (some v17)) ∧
 bindW (World.drew w8) fun w18 =>
 Go.CW.Spec Tryz.prog 85 #[p2] w18 fun v19 w20 =>
 (∃ (v21 : Value), ((Go.World.cell? w20 (Addr.add a10 1)) = (some v21)) ∧
 (v21 : Value) = v11) ∧
 (∃ (o22 : Option Addr), ((Sem.run @Go.Proofs.Tryz.prog (Go.Instr.lookup 199 v11 (.int .i64 p1) false) w20) = (.ok (.pointer o22) w20)) ∧
 ((.pointer o22) : Value) = (.pointer o12)) ∧
 (∃ (v23 : Value), ((Go.World.cell? w20 (Addr.add a13 1)) = (some v23)) ∧
 (v23 : Value) = v14) ∧
 (∃ (o24 : Option Addr), ((Sem.run @Go.Proofs.Tryz.prog (Go.Instr.lookup 199 v14 (.int .i64 p1) false) w20) = (.ok (.pointer o24) w20)) ∧
 ((.pointer o24) : Value) = (.pointer o15)) ∧
 (∃ (v25 : Value), ((Go.World.cell? w20 (Addr.add a16 1)) = (some v25)) ∧
 (v25 : Value) = v17) ∧
 oneK v19 ((∃ (v26 : Value), ((Go.World.cell? (World.alloc w20 (.cells #[v19] 34)) (Addr.add a10 1)) = (some v26)) ∧
 (v26 : Value) = v11) ∧
 (∃ (o27 : Option Addr), ((Sem.run @Go.Proofs.Tryz.prog (Go.Instr.lookup 199 v11 (.int .i64 p1) false) (World.alloc w20 (.cells #[v19] 34))) = (.ok (.pointer o27) (World.alloc w20 (.cells #[v19] 34)))) ∧
 ((.pointer o27) : Value) = (.pointer o12)) ∧
 (∃ (v28 : Value), ((Go.World.cell? (World.alloc w20 (.cells #[v19] 34)) (Addr.add a13 1)) = (some v28)) ∧
 (v28 : Value) = v14) ∧
 (∃ (o29 : Option Addr), ((Sem.run @Go.Proofs.Tryz.prog (Go.Instr.lookup 199 v14 (.int .i64 p1) false) (World.alloc w20 (.cells #[v19] 34))) = (.ok (.pointer o29) (World.alloc w20 (.cells #[v19] 34)))) ∧
 ((.pointer o29) : Value) = (.pointer o15)) ∧
 (∃ (v30 : Value), ((Go.World.cell? (World.alloc w20 (.cells #[v19] 34)) (Addr.add a16 1)) = (some v30)) ∧
 (v30 : Value) = v17) ∧
 bindW (World.alloc w20 (.cells #[v19] 34)) fun w31 =>
 bindW (World.alloc w20 (.cells #[v19] 34)) fun w32 =>
 ∃ (v33 : Value) (w34 : World), ((Sem.run @Go.Proofs.Tryz.prog (Go.Builtin.append_ #[143, 143] 143 #[v17, (.slice (some ⟨w20.heap.size, 0, none⟩) 1 1)]) w32) = (.ok v33 w34)) ∧
 (∃ (v35 : Value), ((Go.World.cell? w34 (Addr.add a10 1)) = (some v35)) ∧
 (v35 : Value) = v11) ∧
 (∃ (o36 : Option Addr), ((Sem.run @Go.Proofs.Tryz.prog (Go.Instr.lookup 199 v11 (.int .i64 p1) false) w34) = (.ok (.pointer o36) w34)) ∧
 ((.pointer o36) : Value) = (.pointer o12)) ∧
 withAddr (.pointer o12) fun a37 =>
 oneK v33 ((St1 w34 (Addr.add a37 1)) ∧
 bindW (World.setCell w34 (Addr.add a37 1) v33) fun w38 =>
 bindW (World.setCell w34 (Addr.add a37 1) v33) fun w39 =>
 R (.int .i64 (0 : Int)) w39)))
 (fun j40 =>
 withAddr (.pointer p0) fun a41 =>
 ∃ (v42 : Value), ((Go.World.cell? w6 (Addr.add a41 1)) = (some v42)) ∧
 ∃ (o43 : Option Addr), ((Sem.run @Go.Proofs.Tryz.prog (Go.Instr.lookup 199 v42 (.int .i64 p1) false) w6) = (.ok (.pointer o43) w6)) ∧
 ∃ (b44 : Bool), ((Go.CW.isNilP (.pointer o43)) = (some b44)) ∧
 cond b44
 (withAddr (.pointer p0) fun a45 =>
 ∃ (v46 : Value), ((Go.World.cell? w6 (Addr.add a45 1)) = (some v46)) ∧
 bindW (World.alloc w6 (.cells #[(.slice none 0 0), (.slice none 0 0)] 234)) fun w47 =>
 ∃ (w48 : World), ((Sem.run @Go.Proofs.Tryz.prog (Go.Instr.mapUpdate 199 v46 (.int .i64 p1) (.pointer (some ⟨w6.heap.size, 0, none⟩))) w47) = (.ok PUnit.unit w48)) ∧
 j40 w48)
 (j40 w6)))))
 (fun j49 =>
 Go.CW.Spec Tryz.prog 254 #[(.pointer p0), (.int .i64 p1)] w1 fun v50 w51 =>
 ∃ (b52 : Bool), ((v50 : Value) = (.bool b52)) ∧
 cond (!b52)
 (j49 true w51)
 (∃ (m53 : Nat), ((Go.CW.sliceLen p2) = (some m53)) ∧
 j49 (decide (((m53 : Nat) : Int) > (512 : Int))) w51)))

theorem disk_Disk_Write_m_wp (p0 : Option Addr) (p1 : Int) (p2 : Value) (w : World) (R : KV) (h : disk_Disk_Write_m_F p0 p1 p2 w R) : Go.CW.Spec Tryz.prog 190 #[(.pointer p0), (.int .i64 p1), p2] w R :=
  spec_of Tryz.func190 (by kernel_rfl) (show disk_Disk_Write_m_F p0 p1 p2 w R = _ by kernel_rfl) h

/-- (*gemel/disk.Disk).Flush -/
def disk_Disk_Flush_m_F (p0 : Option Addr) (w : World) (R : KV) : Prop :=
 Go.CW.Spec Tryz.prog 253 #[(.pointer p0)] w fun v0 w1 =>
 ∃ (n2 : Int), ((v0 : Value) = (.int .i64 n2)) ∧
 cond (n2 != (0 : Int))
 (R (.int .i64 n2) w1)
 (Go.CW.Spec Tryz.prog 255 #[(.pointer p0)] w1 fun v3 w4 =>
 ∃ (n5 : Int), ((v3 : Value) = (.int .i64 n5)) ∧
 cond (n5 != (0 : Int))
 (R (.int .i64 n5) w4)
 (withAddr (.pointer p0) fun a6 =>
 ∃ (v7 : Value), ((Go.World.cell? w4 (Addr.add a6 1)) = (some v7)) ∧
 ∃ (v8 : Value) (w9 : World), ((Sem.run @Go.Proofs.Tryz.prog (Go.Instr.range 199 v7) w4) = (.ok v8 w9)) ∧
 LoopP []
 (fun j10 => fun (w11 : World) =>
 ((∃ (w12 : World), ((Sem.run @Go.Proofs.Tryz.prog (Go.Instr.next v8 false 0) w11) = (.ok (.tuple #[(.bool false)]) w12)) ∧
 R (.int .i64 (0 : Int)) w12) ∨
 (∃ (v13 : Value) (v14 : Value) (w15 : World), ((Sem.run @Go.Proofs.Tryz.prog (Go.Instr.next v8 false 0) w11) = (.ok (.tuple #[(.bool true), v13, v14]) w15)) ∧
 ((∃ (n16 : Int) (o17 : Option Addr), ((Sem.run @Go.Proofs.Tryz.prog (Go.Instr.entry v8) w15) = (.ok (.tuple #[(.int .i64 n16), (.pointer o17)]) w15)) ∧
 Go.CW.Spec Tryz.prog 256 #[(.pointer o17)] w15 fun v18 w19 =>
 withAddr (.pointer o17) fun a20 =>
 oneK v18 ((St1 w19 (Addr.add a20 0)) ∧
 bindW (World.setCell w19 (Addr.add a20 0) v18) fun w21 =>
 withAddr (.pointer o17) fun a22 =>
 (St1 w21 (Addr.add a22 1)) ∧
 bindW (World.setCell w21 (Addr.add a22 1) (.slice none 0 0)) fun w23 =>
 j10 w23)) ∨
 (((∃ (n24 : Int) (n25 : Int) (n26 : Int) (n27 : Int) (v28 : Value) (n29 : Int), ((Sem.run @Go.Proofs.Tryz.prog (Go.Instr.entry v8) w15) = (.ok (.tuple #[(.int .u64 n24), (.agg #[(.int .i64 n25), (.int .i64 n26), (.int .i64 n27), v28, (.int .i64 n29)])]) w15)) ∧
 Go.CW.Spec Tryz.prog 256 #[(.agg #[(.int .i64 n25), (.int .i64 n26), (.int .i64 n27), v28, (.int .i64 n29)])] w15 fun v30 w31 =>
 False) ∨
 (False)))))))
 (fun s32 => s32 w9)))

theorem disk_Disk_Flush_m_wp (p0 : Option Addr) (w : World) (R : KV) (h : disk_Disk_Flush_m_F p0 w R) : Go.CW.Spec Tryz.prog 192 #[(.pointer p0)] w R :=
  spec_of Tryz.func192 (by kernel_rfl) (show disk_Disk_Flush_m_F p0 w R = _ by kernel_rfl) h

/-- (*gemel/disk.Disk).Read -/
def disk_Disk_Read_m_F (p0 : Option Addr) (p1 : Int) (w : World) (R : KV) : Prop :=
 Go.CW.Spec Tryz.prog 253 #[(.pointer p0)] w fun v0 w1 =>
 ∃ (n2 : Int), ((v0 : Value) = (.int .i64 n2)) ∧
 cond (n2 != (0 : Int))
 (R (.tuple #[(.slice none 0 0), (.int .i64 n2)]) w1)
 (Go.CW.Spec Tryz.prog 254 #[(.pointer p0), (.int .i64 p1)] w1 fun v3 w4 =>
 ∃ (b5 : Bool), ((v3 : Value) = (.bool b5)) ∧
 cond (!b5)
 (R (.tuple #[(.slice none 0 0), (.int .i64 (1 : Int))]) w4)
 (∃ (v6 : Value) (w7 : World), ((Sem.run @Go.Proofs.Tryz.prog (Go.Instr.makeSlice 34 (.int .i64 (512 : Int)) (.int .i64 (512 : Int))) w4) = (.ok v6 w7)) ∧
 JoinP []
 (fun (w8 : World) =>
 R (.tuple #[v6, (.int .i64 (0 : Int))]) w8)
 (fun j9 =>
 withAddr (.pointer p0) fun a10 =>
 ∃ (v11 : Value), ((Go.World.cell? w7 (Addr.add a10 1)) = (some v11)) ∧
 ∃ (o12 : Option Addr), ((Sem.run @Go.Proofs.Tryz.prog (Go.Instr.lookup 199 v11 (.int .i64 p1) false) w7) = (.ok (.pointer o12) w7)) ∧
 ∃ (b13 : Bool), ((Go.CW.isNilP (.pointer o12)) = (some b13)) ∧
 cond (!b13)
 (Go.CW.Spec Tryz.prog 256 #[(.pointer o12)] w7 fun v14 w15 =>
 ∃ (n16 : Int) (w17 : World), ((Sem.run @Go.Proofs.Tryz.prog (Go.Builtin.copy_ #[34, 34] 3 #[v6, v14]) w15) = (.ok (.int .i64 n16) w17)) ∧
 j9 w17)
 (j9 w7))))

theorem disk_Disk_Read_m_wp (p0 : Option Addr) (p1 : Int) (w : World) (R : KV) (h : disk_Disk_Read_m_F p0 p1 w R) : Go.CW.Spec Tryz.prog 193 #[(.pointer p0), (.int .i64 p1)] w R :=
  spec_of Tryz.func193 (by kernel_rfl) (show disk_Disk_Read_m_F p0 p1 w R = _ by kernel_rfl) h

/-- (*gemel/disk.Disk).Crash -/
def disk_Disk_Crash_m_F (p0 : Option Addr) (p1 : Value) (w : World) (R : KV) : Prop :=
 withAddr (.pointer p0) fun a0 =>
 ∃ (b1 : Bool), ((Go.World.cell? w (Addr.add a0 2)) = (some (.bool b1))) ∧
 cond b1
 (R (.tuple #[]) w)
 (withAddr (.pointer p0) fun a2 =>
 (St1 w (Addr.add a2 2)) ∧
 bindW (World.setCell w (Addr.add a2 2) (.bool true)) fun w3 =>
 withAddr (.pointer p0) fun a4 =>
 (St1 w3 (Addr.add a4 4)) ∧
 bindW (World.setCell w3 (Addr.add a4 4) (.int .i64 (0 : Int))) fun w5 =>
 withAddr (.pointer p0) fun a6 =>
 ∃ (b7 : Bool), ((Go.World.cell? w5 (Addr.add a6 3)) = (some (.bool b7))) ∧
 cond b7
 (R (.tuple #[]) w5)
 (withAddr (.pointer p0) fun a8 =>
 ∃ (v9 : Value), ((Go.World.cell? w5 (Addr.add a8 1)) = (some v9)) ∧
 Go.CW.Spec Tryz.prog 123 #[v9] w5 fun v10 w11 =>
 Go.CW.Spec Tryz.prog 122 #[v10] w11 fun v12 w13 =>
 ∃ (m14 : Nat), ((Go.CW.sliceLen v12) = (some m14)) ∧
 LoopP [.int .i64, .int .i64]
 (fun j15 => fun (n16 : Int) => fun (n17 : Int) => fun (w18 : World) =>
 cond (decide (n17 < ((m14 : Nat) : Int)))
 (JoinP [.int .i64]
 (fun (n19 : Int) => fun (w20 : World) =>
 j15 n19 (IntKind.wrap .i64 (n17 + (1 : Int))) w20)
 (fun j21 =>
 ∃ (a22 : Addr), ((Go.CW.sliceAt v12 n17 1) = (some a22)) ∧
 ∃ (n23 : Int), ((Go.World.cell? w18 a22) = (some (.int .i64 n23))) ∧
 withAddr (.pointer p0) fun a24 =>
 ∃ (v25 : Value), ((Go.World.cell? w18 (Addr.add a24 1)) = (some v25)) ∧
 ∃ (o26 : Option Addr), ((Sem.run @Go.Proofs.Tryz.prog (Go.Instr.lookup 199 v25 (.int .i64 n23) false) w18) = (.ok (.pointer o26) w18)) ∧
 withAddr (.pointer o26) fun a27 =>
 ∃ (v28 : Value), ((Go.World.cell? w18 (Addr.add a27 1)) = (some v28)) ∧
 ∃ (m29 : Nat), ((Go.CW.sliceLen v28) = (some m29)) ∧
 cond (((m29 : Nat) : Int) == (0 : Int))
 (j21 n16 w18)
 (JoinP [.int .i64]
 (fun (n30 : Int) => fun (w31 : World) =>
 JoinP []
 (fun (w32 : World) =>
 withAddr (.pointer o26) fun a33 =>
 (St1 w32 (Addr.add a33 1)) ∧
 bindW (World.setCell w32 (Addr.add a33 1) (.slice none 0 0)) fun w34 =>
 j21 (IntKind.wrap .i64 (n16 + (1 : Int))) w34)
 (fun j35 =>
 cond (decide (n30 > (0 : Int)))
 (withAddr (.pointer o26) fun a36 =>
 ∃ (v37 : Value), ((Go.World.cell? w31 (Addr.add a36 1)) = (some v37)) ∧
 ∃ (a38 : Addr), ((Go.CW.sliceAt v37 (IntKind.wrap .i64 (n30 - (1 : Int))) 1) = (some a38)) ∧
 ∃ (v39 : Value), ((Go.World.cell? w31 a38) = (some v39)) ∧
 withAddr (.pointer o26) fun a40 =>
 oneK v39 ((St1 w31 (Addr.add a40 0)) ∧
 bindW (World.setCell w31 (Addr.add a40 0) v39) fun w41 =>
 j35 w41))
 (j35 w31)))
 (fun j42 =>
 ∃ (m43 : Nat), ((Go.CW.sliceLen p1) = (some m43)) ∧
 cond (decide (n16 < ((m43 : Nat) : Int)))
 (∃ (a44 : Addr), ((Go.CW.sliceAt p1 n16 1) = (some a44)) ∧
 ∃ (n45 : Int), ((Go.World.cell? w18 a44) = (some (.int .i64 n45))) ∧
 nzK (IntKind.wrap .i64 (((m29 : Nat) : Int) + (1 : Int))) (cond (decide ((Int.tmod n45 (IntKind.wrap .i64 (((m29 : Nat) : Int) + (1 : Int)))) < (0 : Int)))
 (j42 (IntKind.wrap .i64 ((Int.tmod n45 (IntKind.wrap .i64 (((m29 : Nat) : Int) + (1 : Int)))) + (IntKind.wrap .i64 (((m29 : Nat) : Int) + (1 : Int))))) w18)
 (j42 (Int.tmod n45 (IntKind.wrap .i64 (((m29 : Nat) : Int) + (1 : Int)))) w18)))
 (j42 (0 : Int) w18)))))
 (R (.tuple #[]) w18))
 (fun s46 => s46 (0 : Int) (0 : Int) w13)))

theorem disk_Disk_Crash_m_wp (p0 : Option Addr) (p1 : Value) (w : World) (R : KV) (h : disk_Disk_Crash_m_F p0 p1 w R) : Go.CW.Spec Tryz.prog 47 #[(.pointer p0), p1] w R :=
  spec_of Tryz.func47 (by kernel_rfl) (show disk_Disk_Crash_m_F p0 p1 w R = _ by kernel_rfl) h

/-- (*gemel/disk.Disk).On -/
def disk_Disk_On_m_F (p0 : Option Addr) (w : World) (R : KV) : Prop :=
 withAddr (.pointer p0) fun a0 =>
 (St1 w (Addr.add a0 2)) ∧
 bindW (World.setCell w (Addr.add a0 2) (.bool false)) fun w1 =>
 withAddr (.pointer p0) fun a2 =>
 (St1 w1 (Addr.add a2 4)) ∧
 bindW (World.setCell w1 (Addr.add a2 4) (.int .i64 (0 : Int))) fun w3 =>
 R (.tuple #[]) w3

theorem disk_Disk_On_m_wp (p0 : Option Addr) (w : World) (R : KV) (h : disk_Disk_On_m_F p0 w R) : Go.CW.Spec Tryz.prog 41 #[(.pointer p0)] w R :=
  spec_of Tryz.func41 (by kernel_rfl) (show disk_Disk_On_m_F p0 w R = _ by kernel_rfl) h

/-- (*gemel/disk.Disk).Arm -/
def disk_Disk_Arm_m_F (p0 : Option Addr) (p1 : Int) (p2 : Value) (w : World) (R : KV) : Prop :=
 withAddr (.pointer p0) fun a0 =>
 (St1 w (Addr.add a0 4)) ∧
 bindW (World.setCell w (Addr.add a0 4) (.int .i64 (0 : Int))) fun w1 =>
 cond (decide (p1 > (0 : Int)))
 (Go.CW.Spec Tryz.prog 108 #[p2] w1 fun v2 w3 =>
 withAddr (.pointer p0) fun a4 =>
 (St1 w3 (Addr.add a4 4)) ∧
 bindW (World.setCell w3 (Addr.add a4 4) (.int .i64 p1)) fun w5 =>
 withAddr (.pointer p0) fun a6 =>
 oneK v2 ((St1 w5 (Addr.add a6 5)) ∧
 bindW (World.setCell w5 (Addr.add a6 5) v2) fun w7 =>
 R (.tuple #[]) w7))
 (R (.tuple #[]) w1)

theorem disk_Disk_Arm_m_wp (p0 : Option Addr) (p1 : Int) (p2 : Value) (w : World) (R : KV) (h : disk_Disk_Arm_m_F p0 p1 p2 w R) : Go.CW.Spec Tryz.prog 39 #[(.pointer p0), (.int .i64 p1), p2] w R :=
  spec_of Tryz.func39 (by kernel_rfl) (show disk_Disk_Arm_m_F p0 p1 p2 w R = _ by kernel_rfl) h

/-- (*gemel/disk.Disk).Sectors -/
def disk_Disk_Sectors_m_F (p0 : Option Addr) (w : World) (R : KV) : Prop :=
 withAddr (.pointer p0) fun a0 =>
 ∃ (n1 : Int), ((Go.World.cell? w (Addr.add a0 0)) = (some (.int .i64 n1))) ∧
 R (.int .i64 n1) w

theorem disk_Disk_Sectors_m_wp (p0 : Option Addr) (w : World) (R : KV) (h : disk_Disk_Sectors_m_F p0 w R) : Go.CW.Spec Tryz.prog 111 #[(.pointer p0)] w R :=
  spec_of Tryz.func111 (by kernel_rfl) (show disk_Disk_Sectors_m_F p0 w R = _ by kernel_rfl) h

/-- (*gemel/disk.Disk).state -/
def disk_Disk_state_m_F (p0 : Option Addr) (w : World) (R : KV) : Prop :=
 withAddr (.pointer p0) fun a0 =>
 ∃ (b1 : Bool), ((Go.World.cell? w (Addr.add a0 3)) = (some (.bool b1))) ∧
 cond b1
 (R (.int .i64 (9 : Int)) w)
 (withAddr (.pointer p0) fun a2 =>
 ∃ (b3 : Bool), ((Go.World.cell? w (Addr.add a2 2)) = (some (.bool b3))) ∧
 cond b3
 (R (.int .i64 (8 : Int)) w)
 (R (.int .i64 (0 : Int)) w))

theorem disk_Disk_state_m_wp (p0 : Option Addr) (w : World) (R : KV) (h : disk_Disk_state_m_F p0 w R) : Go.CW.Spec Tryz.prog 253 #[(.pointer p0)] w R :=
  spec_of Tryz.func253 (by kernel_rfl) (show disk_Disk_state_m_F p0 w R = _ by kernel_rfl) h

/-- (*gemel/disk.Disk).in -/
def disk_Disk_in_m_F (p0 : Option Addr) (p1 : Int) (w : World) (R : KV) : Prop :=
 JoinP [.bool]
 (fun (b0 : Bool) => fun (w1 : World) =>
 R (.bool b0) w1)
 (fun j2 =>
 cond (decide (p1 ≥ (0 : Int)))
 (withAddr (.pointer p0) fun a3 =>
 ∃ (n4 : Int), ((Go.World.cell? w (Addr.add a3 0)) = (some (.int .i64 n4))) ∧
 j2 (decide (p1 < n4)) w)
 (j2 false w))

theorem disk_Disk_in_m_wp (p0 : Option Addr) (p1 : Int) (w : World) (R : KV) (h : disk_Disk_in_m_F p0 p1 w R) : Go.CW.Spec Tryz.prog 254 #[(.pointer p0), (.int .i64 p1)] w R :=
  spec_of Tryz.func254 (by kernel_rfl) (show disk_Disk_in_m_F p0 p1 w R = _ by kernel_rfl) h

/-- (*gemel/disk.Disk).call -/
def disk_Disk_call_m_F (p0 : Option Addr) (w : World) (R : KV) : Prop :=
 JoinP []
 (fun (w0 : World) =>
 withAddr (.pointer p0) fun a1 =>
 ∃ (n2 : Int), ((Go.World.cell? w0 (Addr.add a1 6)) = (some (.int .i64 n2))) ∧
 withAddr (.pointer p0) fun a3 =>
 (St1 w0 (Addr.add a3 6)) ∧
 bindW (World.setCell w0 (Addr.add a3 6) (.int .i64 (IntKind.wrap .i64 (n2 + (1 : Int))))) fun w4 =>
 R (.int .i64 (0 : Int)) w4)
 (fun j5 =>
 withAddr (.pointer p0) fun a6 =>
 ∃ (n7 : Int), ((Go.World.cell? w (Addr.add a6 4)) = (some (.int .i64 n7))) ∧
 cond (decide (n7 > (0 : Int)))
 (withAddr (.pointer p0) fun a8 =>
 ∃ (n9 : Int), ((Go.World.cell? w (Addr.add a8 4)) = (some (.int .i64 n9))) ∧
 withAddr (.pointer p0) fun a10 =>
 (St1 w (Addr.add a10 4)) ∧
 bindW (World.setCell w (Addr.add a10 4) (.int .i64 (IntKind.wrap .i64 (n9 - (1 : Int))))) fun w11 =>
 withAddr (.pointer p0) fun a12 =>
 ∃ (n13 : Int), ((Go.World.cell? w11 (Addr.add a12 4)) = (some (.int .i64 n13))) ∧
 cond (n13 == (0 : Int))
 (withAddr (.pointer p0) fun a14 =>
 ∃ (v15 : Value), ((Go.World.cell? w11 (Addr.add a14 5)) = (some v15)) ∧
 Go.CW.Spec Tryz.prog 47 #[(.pointer p0), v15] w11 fun v16 w17 =>
 ((v16 : Value) = (.tuple #[])) ∧
 R (.int .i64 (8 : Int)) w17)
 (j5 w11))
 (j5 w))

theorem disk_Disk_call_m_wp (p0 : Option Addr) (w : World) (R : KV) (h : disk_Disk_call_m_F p0 w R) : Go.CW.Spec Tryz.prog 255 #[(.pointer p0)] w R :=
  spec_of Tryz.func255 (by kernel_rfl) (show disk_Disk_call_m_F p0 w R = _ by kernel_rfl) h

/-- (*gemel/disk.sector).now -/
def disk_sector_now_m_F (p0 : Option Addr) (w : World) (R : KV) : Prop :=
 withAddr (.pointer p0) fun a0 =>
 ∃ (v1 : Value), ((Go.World.cell? w (Addr.add a0 1)) = (some v1)) ∧
 ∃ (m2 : Nat), ((Go.CW.sliceLen v1) = (some m2)) ∧
 cond (decide (((m2 : Nat) : Int) > (0 : Int)))
 (withAddr (.pointer p0) fun a3 =>
 ∃ (v4 : Value), ((Go.World.cell? w (Addr.add a3 1)) = (some v4)) ∧
 ∃ (a5 : Addr), ((Go.CW.sliceAt v4 (IntKind.wrap .i64 (((m2 : Nat) : Int) - (1 : Int))) 1) = (some a5)) ∧
 ∃ (v6 : Value), ((Go.World.cell? w a5) = (some v6)) ∧
 R v6 w)
 (withAddr (.pointer p0) fun a7 =>
 ∃ (v8 : Value), ((Go.World.cell? w (Addr.add a7 0)) = (some v8)) ∧
 R v8 w)

theorem disk_sector_now_m_wp (p0 : Option Addr) (w : World) (R : KV) (h : disk_sector_now_m_F p0 w R) : Go.CW.Spec Tryz.prog 256 #[(.pointer p0)] w R :=
  spec_of Tryz.func256 (by kernel_rfl) (show disk_sector_now_m_F p0 w R = _ by kernel_rfl) h

/-- slices.Clone[[]int,int] -/
def slices_Clone_108_F (p0 : Value) (w : World) (R : KV) : Prop :=
 ∃ (b0 : Bool), ((Go.CW.isNilS p0) = (some b0)) ∧
 cond b0
 (R (.slice none 0 0) w)
 (bindW (World.alloc w (.cells #[] 3)) fun w1 =>
 ∃ (v2 : Value) (w3 : World), ((Sem.run @Go.Proofs.Tryz.prog (Go.Builtin.append_ #[79, 79] 79 #[(.slice (some ⟨w.heap.size, 0, none⟩) 0 0), p0]) w1) = (.ok v2 w3)) ∧
 R v2 w3)

theorem slices_Clone_108_wp (p0 : Value) (w : World) (R : KV) (h : slices_Clone_108_F p0 w R) : Go.CW.Spec Tryz.prog 108 #[p0] w R :=
  spec_of Tryz.func108 (by kernel_rfl) (show slices_Clone_108_F p0 w R = _ by kernel_rfl) h

end Go.Proofs.YtghineciiljeoaaGreatDoor
