/- The formulas of some functions, printed by a program (wip/cw/CwGen). -/
import Derived.Test.YtnibnbobmfejhaaDoorNam
set_option linter.unusedVariables false
set_option maxRecDepth 100000
namespace Go.Proofs.YtnibnbobmfejhaaDoor
open Go Go.CW

/-- gemel/gemellaw3.TextRows -/
def gemellaw3_TextRows_F (p0 : Value) (p1 : Int) (w : World) (R : KV) : Prop :=
 Go.CW.Spec Tryd.prog 7 #[] w fun v0 w1 =>
 ∃ (b2 : Bool), ((v0 : Value) = (.bool b2)) ∧
 cond (!b2)
 (R (.bool false) w1)
 (∃ (m3 : Nat), ((Go.CW.sliceLen p0) = (some m3)) ∧
 cond (decide (((m3 : Nat) : Int) > (30 : Int)))
 (R (.bool true) w1)
 (LoopP [.val, .int .i64]
 (fun j4 => fun (v5 : Value) => fun (n6 : Int) => fun (w7 : World) =>
 ∃ (m8 : Nat), ((Go.CW.sliceLen p0) = (some m8)) ∧
 cond (decide (n6 < ((m8 : Nat) : Int)))
 (∃ (a9 : Addr), ((Go.CW.sliceAt p0 n6 1) = (some a9)) ∧
 ∃ (s10 : ByteArray), ((Go.World.cell? w7 a9) = (some (.string s10))) ∧
 cond (decide ((((ByteArray.size s10) : Nat) : Int) > (100 : Int)))
 (R (.bool true) w7)
 (LoopP [.int .i64]
 (fun j11 => fun (n12 : Int) => fun (w13 : World) =>
 ∃ (a14 : Addr), ((Go.CW.sliceAt p0 n6 1) = (some a14)) ∧
 ∃ (s15 : ByteArray), ((Go.World.cell? w13 a14) = (some (.string s15))) ∧
 cond (decide (n12 < (((ByteArray.size s15) : Nat) : Int)))
 (∃ (a16 : Addr), ((Go.CW.sliceAt p0 n6 1) = (some a16)) ∧
 ∃ (s17 : ByteArray), ((Go.World.cell? w13 a16) = (some (.string s17))) ∧
 (inR n12 (ByteArray.size s17)) ∧
 cond ((((UInt8.toNat (@ByteArray.get! s17 (@Int.toNat n12))) : Nat) : Int) == (0 : Int))
 (R (.bool true) w13)
 (j11 (IntKind.wrap .i64 (n12 + (1 : Int))) w13))
 (bindW (World.drew w13) fun w18 =>
 ∃ (a19 : Addr), ((Go.CW.sliceAt p0 n6 1) = (some a19)) ∧
 ∃ (s20 : ByteArray), ((Go.World.cell? w18 a19) = (some (.string s20))) ∧
 bindW (World.drew w13) fun w21 =>
 Go.CW.Spec Tryd.prog 8 #[(.int .i64 n6)] w21 fun v22 w23 =>
 ∃ (s24 : ByteArray), ((v22 : Value) = (.string s24)) ∧
 (∃ (s25 : ByteArray), ((Go.World.cell? w23 a19) = (some (.string s25))) ∧
 ((.string s25) : Value) = (.string s20)) ∧
 ((1 + (ByteArray.size s24)) ≤ 9223372036854775807) ∧
 bindW (World.alloc w23 (.cells #[(.string ((ByteArray.mk #[107]) ++ s24)), (.string s20)] 31)) fun w26 =>
 bindW (World.alloc w23 (.cells #[(.string ((ByteArray.mk #[107]) ++ s24)), (.string s20)] 31)) fun w27 =>
 ∃ (v28 : Value) (w29 : World), ((Sem.run @Go.Proofs.Tryd.prog (Go.Builtin.append_ #[29, 29] 29 #[v5, (.slice (some ⟨w23.heap.size, 0, none⟩) 1 1)]) w27) = (.ok v28 w29)) ∧
 j4 v28 (IntKind.wrap .i64 (n6 + (1 : Int))) w29))
 (fun s30 => s30 (0 : Int) w7)))
 (Go.CW.Spec Tryd.prog 10 #[v5] w7 fun v31 w32 =>
 ∃ (v33 : Value) (n34 : Int), ((v31 : Value) = (.tuple #[v33, (.int .i64 n34)])) ∧
 Go.CW.Spec Tryd.prog 11 #[v33] w32 fun v35 w36 =>
 ∃ (v37 : Value) (n38 : Int), ((v35 : Value) = (.tuple #[v37, (.int .i64 n38)])) ∧
 JoinP [.bool]
 (fun (b39 : Bool) => fun (w40 : World) =>
 cond b39
 (R (.bool false) w40)
 (LoopP [.int .i64]
 (fun j41 => fun (n42 : Int) => fun (w43 : World) =>
 ∃ (m44 : Nat), ((Go.CW.sliceLen v5) = (some m44)) ∧
 cond (decide (n42 < ((m44 : Nat) : Int)))
 (∃ (a45 : Addr), ((Go.CW.sliceAt v5 n42 2) = (some a45)) ∧
 ∃ (s46 : ByteArray), ((Go.World.cell? w43 (Addr.add a45 0)) = (some (.string s46))) ∧
 Go.CW.Spec Tryd.prog 12 #[v37, (.string s46)] w43 fun v47 w48 =>
 ∃ (s49 : ByteArray) (b50 : Bool), ((v47 : Value) = (.tuple #[(.string s49), (.bool b50)])) ∧
 JoinP [.bool]
 (fun (b51 : Bool) => fun (w52 : World) =>
 cond b51
 (R (.bool false) w52)
 (j41 (IntKind.wrap .i64 (n42 + (1 : Int))) w52))
 (fun j53 =>
 bindW (World.drew w48) fun w54 =>
 cond (!b50)
 (bindW (World.drew w48) fun w55 =>
 j53 true w55)
 (∃ (a56 : Addr), ((Go.CW.sliceAt p0 n42 1) = (some a56)) ∧
 ∃ (s57 : ByteArray), ((Go.World.cell? w54 a56) = (some (.string s57))) ∧
 cond (!(ByteArray.toList s49 == ByteArray.toList s57))
 (bindW (World.drew w48) fun w58 =>
 j53 true w58)
 (∃ (a59 : Addr), ((Go.CW.sliceAt v37 n42 2) = (some a59)) ∧
 ∃ (s60 : ByteArray) (s61 : ByteArray), (ldCells w54 a59 2 #[(.string s60), (.string s61)]) ∧
 ∃ (a62 : Addr), ((Go.CW.sliceAt v5 n42 2) = (some a62)) ∧
 ∃ (s63 : ByteArray) (s64 : ByteArray), (ldCells w54 a62 2 #[(.string s63), (.string s64)]) ∧
 ∃ (b65 : Bool), ((Sem.run @Go.Proofs.Tryd.prog (Go.binOp Go.BinOp.neq 31 (.agg #[(.string s60), (.string s61)]) (.agg #[(.string s63), (.string s64)])) w54) = (.ok (.bool b65) w54)) ∧
 (∀ (a66 : @Go.Operand), ∀ (b67 : @Go.Operand), (Sem.run @Go.Proofs.Tryd.prog (Go.eqGuard Go.BinOp.neq 31 a66 b67 (.agg #[(.string s60), (.string s61)]) (.agg #[(.string s63), (.string s64)])) w54) = (.ok PUnit.unit w54)) ∧
 bindW (World.drew w48) fun w68 =>
 j53 b65 w68))))
 (JoinP [.bool]
 (fun (b69 : Bool) => fun (w70 : World) =>
 cond b69
 (R (.bool true) w70)
 (∃ (m71 : Nat), ((Go.CW.sliceLen v5) = (some m71)) ∧
 nzK ((m71 : Nat) : Int) (JoinP [.int .i64]
 (fun (n72 : Int) => fun (w73 : World) =>
 JoinP [.int .i64]
 (fun (n74 : Int) => fun (w75 : World) =>
 JoinP [.bool]
 (fun (b76 : Bool) => fun (w77 : World) =>
 R (.bool b76) w77)
 (fun j78 =>
 cond (n72 == (1 : Int))
 (j78 (n74 == (2 : Int)) w75)
 (j78 false w75)))
 (fun j79 =>
 bindW (World.drew w73) fun w80 =>
 ∃ (a81 : Addr), ((Go.CW.sliceAt v5 (Int.tmod p1 ((m71 : Nat) : Int)) 2) = (some a81)) ∧
 ∃ (s82 : ByteArray), ((Go.World.cell? w80 (Addr.add a81 0)) = (some (.string s82))) ∧
 (((ByteArray.size s82) + 1) ≤ 9223372036854775807) ∧
 bindW (World.drew w73) fun w83 =>
 ((∃ (s84 : ByteArray), ((Go.World.cell? (World.alloc w83 (.cells #[] 5)) (Addr.add a81 0)) = (some (.string s84))) ∧
 ((.string s84) : Value) = (.string s82)) ∧
 bindW (World.alloc w83 (.cells #[] 5)) fun w85 =>
 bindW (World.alloc w83 (.cells #[] 5)) fun w86 =>
 (∃ (v87 : Value) (w88 : World), ((Sem.run @Go.Proofs.Tryd.prog (Go.Builtin.append_ #[32, 32] 32 #[(.slice (some ⟨w83.heap.size, 0, none⟩) 0 0), v33]) w86) = (.ok v87 w88)) ∧
 (∃ (s89 : ByteArray), ((Go.World.cell? w88 (Addr.add a81 0)) = (some (.string s89))) ∧
 ((.string s89) : Value) = (.string s82)) ∧
 (∃ (s90 : ByteArray), ((Go.World.cell? (World.alloc w88 (.cells #[(.int .u8 (0 : Int))] 5)) (Addr.add a81 0)) = (some (.string s90))) ∧
 ((.string s90) : Value) = (.string s82)) ∧
 bindW (World.alloc w88 (.cells #[(.int .u8 (0 : Int))] 5)) fun w91 =>
 ∃ (s92 : ByteArray), ((Sem.run @Go.Proofs.Tryd.prog (Go.convert 32 9 (.slice (some ⟨w88.heap.size, 0, none⟩) 1 1)) w91) = (.ok (.string s92) w91)) ∧
 (((ByteArray.size (s82 ++ (ByteArray.mk #[61]))) + (ByteArray.size s92)) ≤ 9223372036854775807) ∧
 bindW (World.alloc w88 (.cells #[(.int .u8 (0 : Int))] 5)) fun w93 =>
 ∃ (v94 : Value) (w95 : World), ((Sem.run @Go.Proofs.Tryd.prog (Go.Builtin.append_ #[32, 9] 32 #[v87, (.string ((s82 ++ (ByteArray.mk #[61])) ++ s92))]) w93) = (.ok v94 w95)) ∧
 Go.CW.Spec Tryd.prog 11 #[v94] w95 fun v96 w97 =>
 ∃ (v98 : Value) (n99 : Int), ((v96 : Value) = (.tuple #[v98, (.int .i64 n99)])) ∧
 j79 n99 w97) ∧
 (∃ (s100 : ByteArray), ((Go.World.cell? (World.alloc w86 (.cells #[(.int .u8 (0 : Int))] 5)) (Addr.add a81 0)) = (some (.string s100))) ∧
 ((.string s100) : Value) = (.string s82)) ∧
 bindW (World.alloc w86 (.cells #[(.int .u8 (0 : Int))] 5)) fun w101 =>
 ∃ (s102 : ByteArray), ((Sem.run @Go.Proofs.Tryd.prog (Go.convert 32 9 (.slice (some ⟨w86.heap.size, 0, none⟩) 1 1)) w101) = (.ok (.string s102) w101)) ∧
 (((ByteArray.size (s82 ++ (ByteArray.mk #[61]))) + (ByteArray.size s102)) ≤ 9223372036854775807) ∧
 bindW (World.alloc w86 (.cells #[(.int .u8 (0 : Int))] 5)) fun w103 =>
 ∃ (v104 : Value) (w105 : World), ((Sem.run @Go.Proofs.Tryd.prog (Go.Builtin.append_ #[32, 32] 32 #[(.slice (some ⟨w83.heap.size, 0, none⟩) 0 0), v33]) w103) = (.ok v104 w105)) ∧
 (∃ (s106 : ByteArray), ((Go.World.cell? w105 (Addr.add a81 0)) = (some (.string s106))) ∧
 ((.string s106) : Value) = (.string s82)) ∧
 (∃ (s107 : ByteArray), ((Sem.run @Go.Proofs.Tryd.prog (Go.convert 32 9 (.slice (some ⟨w86.heap.size, 0, none⟩) 1 1)) w105) = (.ok (.string s107) w105)) ∧
 ((.string s107) : Value) = (.string s102)) ∧
 ∃ (v108 : Value) (w109 : World), ((Sem.run @Go.Proofs.Tryd.prog (Go.Builtin.append_ #[32, 9] 32 #[v104, (.string ((s82 ++ (ByteArray.mk #[61])) ++ s102))]) w105) = (.ok v108 w109)) ∧
 Go.CW.Spec Tryd.prog 11 #[v108] w109 fun v110 w111 =>
 ∃ (v112 : Value) (n113 : Int), ((v110 : Value) = (.tuple #[v112, (.int .i64 n113)])) ∧
 j79 n113 w111) ∧
 (∃ (s114 : ByteArray), ((Go.World.cell? (World.alloc w83 (.cells #[(.int .u8 (0 : Int))] 5)) (Addr.add a81 0)) = (some (.string s114))) ∧
 ((.string s114) : Value) = (.string s82)) ∧
 bindW (World.alloc w83 (.cells #[(.int .u8 (0 : Int))] 5)) fun w115 =>
 ∃ (s116 : ByteArray), ((Sem.run @Go.Proofs.Tryd.prog (Go.convert 32 9 (.slice (some ⟨w83.heap.size, 0, none⟩) 1 1)) w115) = (.ok (.string s116) w115)) ∧
 (((ByteArray.size (s82 ++ (ByteArray.mk #[61]))) + (ByteArray.size s116)) ≤ 9223372036854775807) ∧
 bindW (World.alloc w83 (.cells #[(.int .u8 (0 : Int))] 5)) fun w117 =>
 (∃ (s118 : ByteArray), ((Go.World.cell? (World.alloc w117 (.cells #[] 5)) (Addr.add a81 0)) = (some (.string s118))) ∧
 ((.string s118) : Value) = (.string s82)) ∧
 (∃ (s119 : ByteArray), ((Sem.run @Go.Proofs.Tryd.prog (Go.convert 32 9 (.slice (some ⟨w83.heap.size, 0, none⟩) 1 1)) (World.alloc w117 (.cells #[] 5))) = (.ok (.string s119) (World.alloc w117 (.cells #[] 5)))) ∧
 ((.string s119) : Value) = (.string s116)) ∧
 bindW (World.alloc w117 (.cells #[] 5)) fun w120 =>
 bindW (World.alloc w117 (.cells #[] 5)) fun w121 =>
 ∃ (v122 : Value) (w123 : World), ((Sem.run @Go.Proofs.Tryd.prog (Go.Builtin.append_ #[32, 32] 32 #[(.slice (some ⟨w117.heap.size, 0, none⟩) 0 0), v33]) w121) = (.ok v122 w123)) ∧
 (∃ (s124 : ByteArray), ((Go.World.cell? w123 (Addr.add a81 0)) = (some (.string s124))) ∧
 ((.string s124) : Value) = (.string s82)) ∧
 (∃ (s125 : ByteArray), ((Sem.run @Go.Proofs.Tryd.prog (Go.convert 32 9 (.slice (some ⟨w83.heap.size, 0, none⟩) 1 1)) w123) = (.ok (.string s125) w123)) ∧
 ((.string s125) : Value) = (.string s116)) ∧
 ∃ (v126 : Value) (w127 : World), ((Sem.run @Go.Proofs.Tryd.prog (Go.Builtin.append_ #[32, 9] 32 #[v122, (.string ((s82 ++ (ByteArray.mk #[61])) ++ s116))]) w123) = (.ok v126 w127)) ∧
 Go.CW.Spec Tryd.prog 11 #[v126] w127 fun v128 w129 =>
 ∃ (v130 : Value) (n131 : Int), ((v128 : Value) = (.tuple #[v130, (.int .i64 n131)])) ∧
 j79 n131 w129))
 (fun j132 =>
 bindW (World.drew w70) fun w133 =>
 ∃ (a134 : Addr), ((Go.CW.sliceAt v5 (Int.tmod p1 ((m71 : Nat) : Int)) 2) = (some a134)) ∧
 ∃ (s135 : ByteArray) (s136 : ByteArray), (ldCells w133 a134 2 #[(.string s135), (.string s136)]) ∧
 bindW (World.drew w70) fun w137 =>
 ((∃ (s138 : ByteArray) (s139 : ByteArray), (ldCells (World.alloc w137 (.cells #[] 31)) a134 2 #[(.string s138), (.string s139)]) ∧
 ((.agg #[(.string s138), (.string s139)]) : Value) = (.agg #[(.string s135), (.string s136)])) ∧
 bindW (World.alloc w137 (.cells #[] 31)) fun w140 =>
 bindW (World.alloc w137 (.cells #[] 31)) fun w141 =>
 (∃ (v142 : Value) (w143 : World), ((Sem.run @Go.Proofs.Tryd.prog (Go.Builtin.append_ #[29, 29] 29 #[(.slice (some ⟨w137.heap.size, 0, none⟩) 0 0), v5]) w141) = (.ok v142 w143)) ∧
 (∃ (s144 : ByteArray) (s145 : ByteArray), (ldCells w143 a134 2 #[(.string s144), (.string s145)]) ∧
 ((.agg #[(.string s144), (.string s145)]) : Value) = (.agg #[(.string s135), (.string s136)])) ∧
 bindW (World.alloc w143 (.cells #[(.string s135), (.string s136)] 31)) fun w146 =>
 bindW (World.alloc w143 (.cells #[(.string s135), (.string s136)] 31)) fun w147 =>
 ∃ (v148 : Value) (w149 : World), ((Sem.run @Go.Proofs.Tryd.prog (Go.Builtin.append_ #[29, 29] 29 #[v142, (.slice (some ⟨w143.heap.size, 0, none⟩) 1 1)]) w147) = (.ok v148 w149)) ∧
 Go.CW.Spec Tryd.prog 10 #[v148] w149 fun v150 w151 =>
 ∃ (v152 : Value) (n153 : Int), ((v150 : Value) = (.tuple #[v152, (.int .i64 n153)])) ∧
 j132 n153 w151) ∧
 bindW (World.alloc w141 (.cells #[(.string s135), (.string s136)] 31)) fun w154 =>
 bindW (World.alloc w141 (.cells #[(.string s135), (.string s136)] 31)) fun w155 =>
 ∃ (v156 : Value) (w157 : World), ((Sem.run @Go.Proofs.Tryd.prog (Go.Builtin.append_ #[29, 29] 29 #[(.slice (some ⟨w137.heap.size, 0, none⟩) 0 0), v5]) w155) = (.ok v156 w157)) ∧
 (∃ (s158 : ByteArray) (s159 : ByteArray), (ldCells w157 a134 2 #[(.string s158), (.string s159)]) ∧
 ((.agg #[(.string s158), (.string s159)]) : Value) = (.agg #[(.string s135), (.string s136)])) ∧
 ∃ (v160 : Value) (w161 : World), ((Sem.run @Go.Proofs.Tryd.prog (Go.Builtin.append_ #[29, 29] 29 #[v156, (.slice (some ⟨w141.heap.size, 0, none⟩) 1 1)]) w157) = (.ok v160 w161)) ∧
 Go.CW.Spec Tryd.prog 10 #[v160] w161 fun v162 w163 =>
 ∃ (v164 : Value) (n165 : Int), ((v162 : Value) = (.tuple #[v164, (.int .i64 n165)])) ∧
 j132 n165 w163) ∧
 bindW (World.alloc w137 (.cells #[(.string s135), (.string s136)] 31)) fun w166 =>
 bindW (World.alloc w137 (.cells #[(.string s135), (.string s136)] 31)) fun w167 =>
 (∃ (s168 : ByteArray) (s169 : ByteArray), (ldCells (World.alloc w167 (.cells #[] 31)) a134 2 #[(.string s168), (.string s169)]) ∧
 ((.agg #[(.string s168), (.string s169)]) : Value) = (.agg #[(.string s135), (.string s136)])) ∧
 bindW (World.alloc w167 (.cells #[] 31)) fun w170 =>
 bindW (World.alloc w167 (.cells #[] 31)) fun w171 =>
 ∃ (v172 : Value) (w173 : World), ((Sem.run @Go.Proofs.Tryd.prog (Go.Builtin.append_ #[29, 29] 29 #[(.slice (some ⟨w167.heap.size, 0, none⟩) 0 0), v5]) w171) = (.ok v172 w173)) ∧
 (∃ (s174 : ByteArray) (s175 : ByteArray), (ldCells w173 a134 2 #[(.string s174), (.string s175)]) ∧
 ((.agg #[(.string s174), (.string s175)]) : Value) = (.agg #[(.string s135), (.string s136)])) ∧
 ∃ (v176 : Value) (w177 : World), ((Sem.run @Go.Proofs.Tryd.prog (Go.Builtin.append_ #[29, 29] 29 #[v172, (.slice (some ⟨w137.heap.size, 0, none⟩) 1 1)]) w173) = (.ok v176 w177)) ∧
 Go.CW.Spec Tryd.prog 10 #[v176] w177 fun v178 w179 =>
 ∃ (v180 : Value) (n181 : Int), ((v178 : Value) = (.tuple #[v180, (.int .i64 n181)])) ∧
 j132 n181 w179))))
 (fun j182 =>
 ∃ (m183 : Nat), ((Go.CW.sliceLen v5) = (some m183)) ∧
 cond (((m183 : Nat) : Int) == (0 : Int))
 (j182 true w43)
 (j182 (decide (p1 < (0 : Int))) w43))))
 (fun s184 => s184 (0 : Int) w40)))
 (fun j185 =>
 cond ((IntKind.wrap .i64 (n34 + n38)) != (0 : Int))
 (j185 true w36)
 (∃ (m186 : Nat), ((Go.CW.sliceLen v37) = (some m186)) ∧
 ∃ (m187 : Nat), ((Go.CW.sliceLen v5) = (some m187)) ∧
 j185 (((m186 : Nat) : Int) != ((m187 : Nat) : Int)) w36))))
 (fun s188 => s188 (.slice none 0 0) (0 : Int) w1)))

theorem gemellaw3_TextRows_wp (p0 : Value) (p1 : Int) (w : World) (R : KV) (h : gemellaw3_TextRows_F p0 p1 w R) : Go.CW.Spec Tryd.prog 4 #[p0, (.int .i64 p1)] w R :=
  spec_of Tryd.func4 (by kernel_rfl) (show gemellaw3_TextRows_F p0 p1 w R = _ by kernel_rfl) h

end Go.Proofs.YtnibnbobmfejhaaDoor
