/- The formulas of some functions, printed by a program (wip/cw/CwGen). -/
import Derived.Test.YtooeeodkaeimeaaNam
set_option linter.unusedVariables false
set_option maxRecDepth 100000
namespace Go.Proofs.Ytooeeodkaeimeaa
open Go Go.CW

/-- gemel/gemellaw7.PduFlips -/
def gemellaw7_PduFlips_F (p0_0 : Int) (p0_1 : Bool) (p0_2 : Int) (p0_3 : Int) (p0_4 : Int) (p0_5 : Int) (p0_6 : Int) (p0_7 : Int) (p0_8 : Int) (p0_9 : Int) (p0_10 : Int) (p0_11 : Int) (p0_12 : Int) (p0_13 : Int) (p0_14 : Int) (p0_15 : Int) (p0_16 : Int) (p0_17 : Int) (p0_18 : Int) (p0_19 : Int) (p0_20 : Int) (p0_21 : Int) (p0_22 : Int) (p0_23 : Int) (p0_24 : Int) (p0_25 : Int) (p0_26 : Value) (p1 : Int) (p2 : Int) (w : World) (R : KV) : Prop :=
 bindW (World.alloc w (.cells #[(.int .i64 p0_0), (.bool p0_1), (.int .i64 p0_2), (.int .i64 p0_3), (.int .u32 p0_4), (.int .u32 p0_5), (.int .u32 p0_6), (.int .u32 p0_7), (.int .u32 p0_8), (.int .u32 p0_9), (.int .u8 p0_10), (.int .u8 p0_11), (.int .u8 p0_12), (.int .u8 p0_13), (.int .u8 p0_14), (.int .u8 p0_15), (.int .u8 p0_16), (.int .u8 p0_17), (.int .u8 p0_18), (.int .u8 p0_19), (.int .u8 p0_20), (.int .u8 p0_21), (.int .u8 p0_22), (.int .u8 p0_23), (.int .u8 p0_24), (.int .u8 p0_25), p0_26] 26)) fun w0 =>
 Go.CW.Spec Try.prog 5 #[] w0 fun v1 w2 =>
 ∃ (b3 : Bool), ((v1 : Value) = (.bool b3)) ∧
 cond (!b3)
 (R (.bool false) w2)
 (JoinP [.bool]
 (fun (b4 : Bool) => fun (w5 : World) =>
 cond b4
 (R (.bool true) w5)
 (∃ (n6 : Int) (b7 : Bool) (n8 : Int) (n9 : Int) (n10 : Int) (n11 : Int) (n12 : Int) (n13 : Int) (n14 : Int) (n15 : Int) (n16 : Int) (n17 : Int) (n18 : Int) (n19 : Int) (n20 : Int) (n21 : Int) (n22 : Int) (n23 : Int) (n24 : Int) (n25 : Int) (n26 : Int) (n27 : Int) (n28 : Int) (n29 : Int) (n30 : Int) (n31 : Int) (v32 : Value), (ldCells w5 ⟨w.heap.size, 0, none⟩ 27 #[(.int .i64 n6), (.bool b7), (.int .i64 n8), (.int .i64 n9), (.int .u32 n10), (.int .u32 n11), (.int .u32 n12), (.int .u32 n13), (.int .u32 n14), (.int .u32 n15), (.int .u8 n16), (.int .u8 n17), (.int .u8 n18), (.int .u8 n19), (.int .u8 n20), (.int .u8 n21), (.int .u8 n22), (.int .u8 n23), (.int .u8 n24), (.int .u8 n25), (.int .u8 n26), (.int .u8 n27), (.int .u8 n28), (.int .u8 n29), (.int .u8 n30), (.int .u8 n31), v32]) ∧
 Go.CW.Spec Try.prog 6 #[(.agg #[(.int .i64 n6), (.bool b7), (.int .i64 n8), (.int .i64 n9), (.int .u32 n10), (.int .u32 n11), (.int .u32 n12), (.int .u32 n13), (.int .u32 n14), (.int .u32 n15), (.int .u8 n16), (.int .u8 n17), (.int .u8 n18), (.int .u8 n19), (.int .u8 n20), (.int .u8 n21), (.int .u8 n22), (.int .u8 n23), (.int .u8 n24), (.int .u8 n25), (.int .u8 n26), (.int .u8 n27), (.int .u8 n28), (.int .u8 n29), (.int .u8 n30), (.int .u8 n31), v32])] w5 fun v33 w34 =>
 ∃ (v35 : Value) (n36 : Int), ((v33 : Value) = (.tuple #[v35, (.int .i64 n36)])) ∧
 cond (n36 != (0 : Int))
 (R (.bool true) w34)
 (JoinP [.int .i64, .int .i64]
 (fun (n37 : Int) => fun (n38 : Int) => fun (w39 : World) =>
 bindW (World.alloc w39 (.cells #[] 5)) fun w40 =>
 ∃ (v41 : Value) (w42 : World), ((Sem.run @Go.Proofs.Try.prog (Go.Builtin.append_ #[24, 24] 24 #[(.slice (some ⟨w39.heap.size, 0, none⟩) 0 0), v35]) w40) = (.ok v41 w42)) ∧
 nzK (IntKind.wrap .i64 (n38 - n37)) (LoopP [.bool, .int .i64]
 (fun j43 => fun (b44 : Bool) => fun (n45 : Int) => fun (w46 : World) =>
 JoinP [.bool]
 (fun (b47 : Bool) => fun (w48 : World) =>
 cond b47
 (JoinP [.bool]
 (fun (b49 : Bool) => fun (w50 : World) =>
 j43 b49 (IntKind.wrap .i64 (n45 + (1 : Int))) w50)
 (fun j51 =>
 leK (IntKind.wrap .u64 n45) (cond ((bitsI .and .u32 (Int.fdiv p2 ((2 : Int) ^ (min (Int.toNat (IntKind.wrap .u64 n45)) 32))) (1 : Int)) == (1 : Int))
 (∃ (a52 : Addr), ((Go.CW.sliceAt v41 (IntKind.wrap .i64 (Int.tdiv (IntKind.wrap .i64 ((IntKind.wrap .i64 (n37 + (Int.tmod (IntKind.wrap .i64 (Int.tdiv p1 (2 : Int))) (IntKind.wrap .i64 (n38 - n37))))) + n45)) (8 : Int))) 1) = (some a52)) ∧
 ∃ (n53 : Int), ((Go.World.cell? w48 a52) = (some (.int .u8 n53))) ∧
 leK (IntKind.wrap .u64 (Int.tmod (IntKind.wrap .i64 ((IntKind.wrap .i64 (n37 + (Int.tmod (IntKind.wrap .i64 (Int.tdiv p1 (2 : Int))) (IntKind.wrap .i64 (n38 - n37))))) + n45)) (8 : Int))) (∃ (a54 : Addr), ((Go.CW.sliceAt v41 (IntKind.wrap .i64 (Int.tdiv (IntKind.wrap .i64 ((IntKind.wrap .i64 (n37 + (Int.tmod (IntKind.wrap .i64 (Int.tdiv p1 (2 : Int))) (IntKind.wrap .i64 (n38 - n37))))) + n45)) (8 : Int))) 1) = (some a54)) ∧
 (St1 w48 a54) ∧
 bindW (World.setCell w48 a54 (.int .u8 (bitsI .xor .u8 n53 (IntKind.wrap .u8 ((1 : Int) * ((2 : Int) ^ (min (Int.toNat (IntKind.wrap .u64 (Int.tmod (IntKind.wrap .i64 ((IntKind.wrap .i64 (n37 + (Int.tmod (IntKind.wrap .i64 (Int.tdiv p1 (2 : Int))) (IntKind.wrap .i64 (n38 - n37))))) + n45)) (8 : Int)))) 8))))))) fun w55 =>
 j51 true w55))
 (j51 b44 w48))))
 (Go.CW.Spec Try.prog 7 #[v41] w48 fun v56 w57 =>
 ∃ (n58 : Int) (b59 : Bool) (n60 : Int) (n61 : Int) (n62 : Int) (n63 : Int) (n64 : Int) (n65 : Int) (n66 : Int) (n67 : Int) (n68 : Int) (n69 : Int) (n70 : Int) (n71 : Int) (n72 : Int) (n73 : Int) (n74 : Int) (n75 : Int) (n76 : Int) (n77 : Int) (n78 : Int) (n79 : Int) (n80 : Int) (n81 : Int) (n82 : Int) (n83 : Int) (v84 : Value) (n85 : Int) (n86 : Int), ((v56 : Value) = (.tuple #[(.agg #[(.int .i64 n58), (.bool b59), (.int .i64 n60), (.int .i64 n61), (.int .u32 n62), (.int .u32 n63), (.int .u32 n64), (.int .u32 n65), (.int .u32 n66), (.int .u32 n67), (.int .u8 n68), (.int .u8 n69), (.int .u8 n70), (.int .u8 n71), (.int .u8 n72), (.int .u8 n73), (.int .u8 n74), (.int .u8 n75), (.int .u8 n76), (.int .u8 n77), (.int .u8 n78), (.int .u8 n79), (.int .u8 n80), (.int .u8 n81), (.int .u8 n82), (.int .u8 n83), v84]), (.int .i64 n85), (.int .i64 n86)])) ∧
 bindW (World.alloc w57 (.cells #[(.int .i64 (0 : Int)), (.bool false), (.int .i64 (0 : Int)), (.int .i64 (0 : Int)), (.int .u32 (0 : Int)), (.int .u32 (0 : Int)), (.int .u32 (0 : Int)), (.int .u32 (0 : Int)), (.int .u32 (0 : Int)), (.int .u32 (0 : Int)), (.int .u8 (0 : Int)), (.int .u8 (0 : Int)), (.int .u8 (0 : Int)), (.int .u8 (0 : Int)), (.int .u8 (0 : Int)), (.int .u8 (0 : Int)), (.int .u8 (0 : Int)), (.int .u8 (0 : Int)), (.int .u8 (0 : Int)), (.int .u8 (0 : Int)), (.int .u8 (0 : Int)), (.int .u8 (0 : Int)), (.int .u8 (0 : Int)), (.int .u8 (0 : Int)), (.int .u8 (0 : Int)), (.int .u8 (0 : Int)), (.slice none 0 0)] 26)) fun w87 =>
 (StRow w87 ⟨w57.heap.size, 0, none⟩ #[(.int .i64 n58), (.bool b59), (.int .i64 n60), (.int .i64 n61), (.int .u32 n62), (.int .u32 n63), (.int .u32 n64), (.int .u32 n65), (.int .u32 n66), (.int .u32 n67), (.int .u8 n68), (.int .u8 n69), (.int .u8 n70), (.int .u8 n71), (.int .u8 n72), (.int .u8 n73), (.int .u8 n74), (.int .u8 n75), (.int .u8 n76), (.int .u8 n77), (.int .u8 n78), (.int .u8 n79), (.int .u8 n80), (.int .u8 n81), (.int .u8 n82), (.int .u8 n83), v84]) ∧
 bindW (stRow w87 ⟨w57.heap.size, 0, none⟩ #[(.int .i64 n58), (.bool b59), (.int .i64 n60), (.int .i64 n61), (.int .u32 n62), (.int .u32 n63), (.int .u32 n64), (.int .u32 n65), (.int .u32 n66), (.int .u32 n67), (.int .u8 n68), (.int .u8 n69), (.int .u8 n70), (.int .u8 n71), (.int .u8 n72), (.int .u8 n73), (.int .u8 n74), (.int .u8 n75), (.int .u8 n76), (.int .u8 n77), (.int .u8 n78), (.int .u8 n79), (.int .u8 n80), (.int .u8 n81), (.int .u8 n82), (.int .u8 n83), v84]) fun w88 =>
 cond b44
 (JoinP [.bool]
 (fun (b89 : Bool) => fun (w90 : World) =>
 R (.bool b89) w90)
 (fun j91 =>
 cond (n86 == (4 : Int))
 (cond (n85 == (0 : Int))
 (∃ (n92 : Int) (b93 : Bool) (n94 : Int) (n95 : Int) (n96 : Int) (n97 : Int) (n98 : Int) (n99 : Int) (n100 : Int) (n101 : Int) (n102 : Int) (n103 : Int) (n104 : Int) (n105 : Int) (n106 : Int) (n107 : Int) (n108 : Int) (n109 : Int) (n110 : Int) (n111 : Int) (n112 : Int) (n113 : Int) (n114 : Int) (n115 : Int) (n116 : Int) (n117 : Int) (v118 : Value), (ldCells w88 ⟨w57.heap.size, 0, none⟩ 27 #[(.int .i64 n92), (.bool b93), (.int .i64 n94), (.int .i64 n95), (.int .u32 n96), (.int .u32 n97), (.int .u32 n98), (.int .u32 n99), (.int .u32 n100), (.int .u32 n101), (.int .u8 n102), (.int .u8 n103), (.int .u8 n104), (.int .u8 n105), (.int .u8 n106), (.int .u8 n107), (.int .u8 n108), (.int .u8 n109), (.int .u8 n110), (.int .u8 n111), (.int .u8 n112), (.int .u8 n113), (.int .u8 n114), (.int .u8 n115), (.int .u8 n116), (.int .u8 n117), v118]) ∧
 Go.CW.Spec Try.prog 8 #[(.agg #[(.int .i64 n92), (.bool b93), (.int .i64 n94), (.int .i64 n95), (.int .u32 n96), (.int .u32 n97), (.int .u32 n98), (.int .u32 n99), (.int .u32 n100), (.int .u32 n101), (.int .u8 n102), (.int .u8 n103), (.int .u8 n104), (.int .u8 n105), (.int .u8 n106), (.int .u8 n107), (.int .u8 n108), (.int .u8 n109), (.int .u8 n110), (.int .u8 n111), (.int .u8 n112), (.int .u8 n113), (.int .u8 n114), (.int .u8 n115), (.int .u8 n116), (.int .u8 n117), v118]), (.agg #[(.int .i64 (0 : Int)), (.bool false), (.int .i64 (0 : Int)), (.int .i64 (0 : Int)), (.int .u32 (0 : Int)), (.int .u32 (0 : Int)), (.int .u32 (0 : Int)), (.int .u32 (0 : Int)), (.int .u32 (0 : Int)), (.int .u32 (0 : Int)), (.int .u8 (0 : Int)), (.int .u8 (0 : Int)), (.int .u8 (0 : Int)), (.int .u8 (0 : Int)), (.int .u8 (0 : Int)), (.int .u8 (0 : Int)), (.int .u8 (0 : Int)), (.int .u8 (0 : Int)), (.int .u8 (0 : Int)), (.int .u8 (0 : Int)), (.int .u8 (0 : Int)), (.int .u8 (0 : Int)), (.int .u8 (0 : Int)), (.int .u8 (0 : Int)), (.int .u8 (0 : Int)), (.int .u8 (0 : Int)), (.slice none 0 0)])] w88 fun v119 w120 =>
 ∃ (b121 : Bool), ((v119 : Value) = (.bool b121)) ∧
 j91 b121 w120)
 (j91 false w88))
 (j91 false w88)))
 (JoinP [.bool]
 (fun (b122 : Bool) => fun (w123 : World) =>
 R (.bool b122) w123)
 (fun j124 =>
 bindW (World.drew w88) fun w125 =>
 cond (n86 == (0 : Int))
 (∃ (n126 : Int) (b127 : Bool) (n128 : Int) (n129 : Int) (n130 : Int) (n131 : Int) (n132 : Int) (n133 : Int) (n134 : Int) (n135 : Int) (n136 : Int) (n137 : Int) (n138 : Int) (n139 : Int) (n140 : Int) (n141 : Int) (n142 : Int) (n143 : Int) (n144 : Int) (n145 : Int) (n146 : Int) (n147 : Int) (n148 : Int) (n149 : Int) (n150 : Int) (n151 : Int) (v152 : Value), (ldCells w125 ⟨w57.heap.size, 0, none⟩ 27 #[(.int .i64 n126), (.bool b127), (.int .i64 n128), (.int .i64 n129), (.int .u32 n130), (.int .u32 n131), (.int .u32 n132), (.int .u32 n133), (.int .u32 n134), (.int .u32 n135), (.int .u8 n136), (.int .u8 n137), (.int .u8 n138), (.int .u8 n139), (.int .u8 n140), (.int .u8 n141), (.int .u8 n142), (.int .u8 n143), (.int .u8 n144), (.int .u8 n145), (.int .u8 n146), (.int .u8 n147), (.int .u8 n148), (.int .u8 n149), (.int .u8 n150), (.int .u8 n151), v152]) ∧
 ∃ (n153 : Int) (b154 : Bool) (n155 : Int) (n156 : Int) (n157 : Int) (n158 : Int) (n159 : Int) (n160 : Int) (n161 : Int) (n162 : Int) (n163 : Int) (n164 : Int) (n165 : Int) (n166 : Int) (n167 : Int) (n168 : Int) (n169 : Int) (n170 : Int) (n171 : Int) (n172 : Int) (n173 : Int) (n174 : Int) (n175 : Int) (n176 : Int) (n177 : Int) (n178 : Int) (v179 : Value), (ldCells w125 ⟨w.heap.size, 0, none⟩ 27 #[(.int .i64 n153), (.bool b154), (.int .i64 n155), (.int .i64 n156), (.int .u32 n157), (.int .u32 n158), (.int .u32 n159), (.int .u32 n160), (.int .u32 n161), (.int .u32 n162), (.int .u8 n163), (.int .u8 n164), (.int .u8 n165), (.int .u8 n166), (.int .u8 n167), (.int .u8 n168), (.int .u8 n169), (.int .u8 n170), (.int .u8 n171), (.int .u8 n172), (.int .u8 n173), (.int .u8 n174), (.int .u8 n175), (.int .u8 n176), (.int .u8 n177), (.int .u8 n178), v179]) ∧
 bindW (World.drew w88) fun w180 =>
 Go.CW.Spec Try.prog 9 #[(.agg #[(.int .i64 n153), (.bool b154), (.int .i64 n155), (.int .i64 n156), (.int .u32 n157), (.int .u32 n158), (.int .u32 n159), (.int .u32 n160), (.int .u32 n161), (.int .u32 n162), (.int .u8 n163), (.int .u8 n164), (.int .u8 n165), (.int .u8 n166), (.int .u8 n167), (.int .u8 n168), (.int .u8 n169), (.int .u8 n170), (.int .u8 n171), (.int .u8 n172), (.int .u8 n173), (.int .u8 n174), (.int .u8 n175), (.int .u8 n176), (.int .u8 n177), (.int .u8 n178), v179])] w180 fun v181 w182 =>
 ∃ (n183 : Int) (b184 : Bool) (n185 : Int) (n186 : Int) (n187 : Int) (n188 : Int) (n189 : Int) (n190 : Int) (n191 : Int) (n192 : Int) (n193 : Int) (n194 : Int) (n195 : Int) (n196 : Int) (n197 : Int) (n198 : Int) (n199 : Int) (n200 : Int) (n201 : Int) (n202 : Int) (n203 : Int) (n204 : Int) (n205 : Int) (n206 : Int) (n207 : Int) (n208 : Int) (v209 : Value), ((v181 : Value) = (.agg #[(.int .i64 n183), (.bool b184), (.int .i64 n185), (.int .i64 n186), (.int .u32 n187), (.int .u32 n188), (.int .u32 n189), (.int .u32 n190), (.int .u32 n191), (.int .u32 n192), (.int .u8 n193), (.int .u8 n194), (.int .u8 n195), (.int .u8 n196), (.int .u8 n197), (.int .u8 n198), (.int .u8 n199), (.int .u8 n200), (.int .u8 n201), (.int .u8 n202), (.int .u8 n203), (.int .u8 n204), (.int .u8 n205), (.int .u8 n206), (.int .u8 n207), (.int .u8 n208), v209])) ∧
 (∃ (n210 : Int) (b211 : Bool) (n212 : Int) (n213 : Int) (n214 : Int) (n215 : Int) (n216 : Int) (n217 : Int) (n218 : Int) (n219 : Int) (n220 : Int) (n221 : Int) (n222 : Int) (n223 : Int) (n224 : Int) (n225 : Int) (n226 : Int) (n227 : Int) (n228 : Int) (n229 : Int) (n230 : Int) (n231 : Int) (n232 : Int) (n233 : Int) (n234 : Int) (n235 : Int) (v236 : Value), (ldCells w182 ⟨w57.heap.size, 0, none⟩ 27 #[(.int .i64 n210), (.bool b211), (.int .i64 n212), (.int .i64 n213), (.int .u32 n214), (.int .u32 n215), (.int .u32 n216), (.int .u32 n217), (.int .u32 n218), (.int .u32 n219), (.int .u8 n220), (.int .u8 n221), (.int .u8 n222), (.int .u8 n223), (.int .u8 n224), (.int .u8 n225), (.int .u8 n226), (.int .u8 n227), (.int .u8 n228), (.int .u8 n229), (.int .u8 n230), (.int .u8 n231), (.int .u8 n232), (.int .u8 n233), (.int .u8 n234), (.int .u8 n235), v236]) ∧
 ((.agg #[(.int .i64 n210), (.bool b211), (.int .i64 n212), (.int .i64 n213), (.int .u32 n214), (.int .u32 n215), (.int .u32 n216), (.int .u32 n217), (.int .u32 n218), (.int .u32 n219), (.int .u8 n220), (.int .u8 n221), (.int .u8 n222), (.int .u8 n223), (.int .u8 n224), (.int .u8 n225), (.int .u8 n226), (.int .u8 n227), (.int .u8 n228), (.int .u8 n229), (.int .u8 n230), (.int .u8 n231), (.int .u8 n232), (.int .u8 n233), (.int .u8 n234), (.int .u8 n235), v236]) : Value) = (.agg #[(.int .i64 n126), (.bool b127), (.int .i64 n128), (.int .i64 n129), (.int .u32 n130), (.int .u32 n131), (.int .u32 n132), (.int .u32 n133), (.int .u32 n134), (.int .u32 n135), (.int .u8 n136), (.int .u8 n137), (.int .u8 n138), (.int .u8 n139), (.int .u8 n140), (.int .u8 n141), (.int .u8 n142), (.int .u8 n143), (.int .u8 n144), (.int .u8 n145), (.int .u8 n146), (.int .u8 n147), (.int .u8 n148), (.int .u8 n149), (.int .u8 n150), (.int .u8 n151), v152])) ∧
 Go.CW.Spec Try.prog 8 #[(.agg #[(.int .i64 n126), (.bool b127), (.int .i64 n128), (.int .i64 n129), (.int .u32 n130), (.int .u32 n131), (.int .u32 n132), (.int .u32 n133), (.int .u32 n134), (.int .u32 n135), (.int .u8 n136), (.int .u8 n137), (.int .u8 n138), (.int .u8 n139), (.int .u8 n140), (.int .u8 n141), (.int .u8 n142), (.int .u8 n143), (.int .u8 n144), (.int .u8 n145), (.int .u8 n146), (.int .u8 n147), (.int .u8 n148), (.int .u8 n149), (.int .u8 n150), (.int .u8 n151), v152]), (.agg #[(.int .i64 n183), (.bool b184), (.int .i64 n185), (.int .i64 n186), (.int .u32 n187), (.int .u32 n188), (.int .u32 n189), (.int .u32 n190), (.int .u32 n191), (.int .u32 n192), (.int .u8 n193), (.int .u8 n194), (.int .u8 n195), (.int .u8 n196), (.int .u8 n197), (.int .u8 n198), (.int .u8 n199), (.int .u8 n200), (.int .u8 n201), (.int .u8 n202), (.int .u8 n203), (.int .u8 n204), (.int .u8 n205), (.int .u8 n206), (.int .u8 n207), (.int .u8 n208), v209])] w182 fun v237 w238 =>
 ∃ (b239 : Bool), ((v237 : Value) = (.bool b239)) ∧
 j124 b239 w238)
 (bindW (World.drew w88) fun w240 =>
 j124 false w240)))))
 (fun j241 =>
 cond (decide (n45 < (32 : Int)))
 (j241 (decide ((IntKind.wrap .i64 ((IntKind.wrap .i64 (n37 + (Int.tmod (IntKind.wrap .i64 (Int.tdiv p1 (2 : Int))) (IntKind.wrap .i64 (n38 - n37))))) + n45)) < n38)) w46)
 (j241 false w46)))
 (fun s242 => s242 false (0 : Int) w42)))
 (fun j243 =>
 JoinP [.bool]
 (fun (b244 : Bool) => fun (w245 : World) =>
 cond b244
 (∃ (m246 : Nat), ((Go.CW.sliceLen v35) = (some m246)) ∧
 j243 (416 : Int) (IntKind.wrap .i64 ((8 : Int) * ((m246 : Nat) : Int))) w245)
 (j243 (0 : Int) (416 : Int) w245))
 (fun j247 =>
 ∃ (m248 : Nat), ((Go.CW.sliceLen v35) = (some m248)) ∧
 cond (decide (((m248 : Nat) : Int) > (52 : Int)))
 (j247 (!((Int.tmod p1 (2 : Int)) == (0 : Int))) w34)
 (j247 false w34))))))
 (fun j249 =>
 ∃ (v250 : Value), ((Go.World.cell? w2 (Addr.add ⟨w.heap.size, 0, none⟩ 26)) = (some v250)) ∧
 ∃ (m251 : Nat), ((Go.CW.sliceLen v250) = (some m251)) ∧
 cond (decide (((m251 : Nat) : Int) > (1500 : Int)))
 (j249 true w2)
 (j249 (decide (p1 < (0 : Int))) w2)))

theorem gemellaw7_PduFlips_wp (p0_0 : Int) (p0_1 : Bool) (p0_2 : Int) (p0_3 : Int) (p0_4 : Int) (p0_5 : Int) (p0_6 : Int) (p0_7 : Int) (p0_8 : Int) (p0_9 : Int) (p0_10 : Int) (p0_11 : Int) (p0_12 : Int) (p0_13 : Int) (p0_14 : Int) (p0_15 : Int) (p0_16 : Int) (p0_17 : Int) (p0_18 : Int) (p0_19 : Int) (p0_20 : Int) (p0_21 : Int) (p0_22 : Int) (p0_23 : Int) (p0_24 : Int) (p0_25 : Int) (p0_26 : Value) (p1 : Int) (p2 : Int) (w : World) (R : KV) (h : gemellaw7_PduFlips_F p0_0 p0_1 p0_2 p0_3 p0_4 p0_5 p0_6 p0_7 p0_8 p0_9 p0_10 p0_11 p0_12 p0_13 p0_14 p0_15 p0_16 p0_17 p0_18 p0_19 p0_20 p0_21 p0_22 p0_23 p0_24 p0_25 p0_26 p1 p2 w R) : Go.CW.Spec Try.prog 3 #[(.agg #[(.int .i64 p0_0), (.bool p0_1), (.int .i64 p0_2), (.int .i64 p0_3), (.int .u32 p0_4), (.int .u32 p0_5), (.int .u32 p0_6), (.int .u32 p0_7), (.int .u32 p0_8), (.int .u32 p0_9), (.int .u8 p0_10), (.int .u8 p0_11), (.int .u8 p0_12), (.int .u8 p0_13), (.int .u8 p0_14), (.int .u8 p0_15), (.int .u8 p0_16), (.int .u8 p0_17), (.int .u8 p0_18), (.int .u8 p0_19), (.int .u8 p0_20), (.int .u8 p0_21), (.int .u8 p0_22), (.int .u8 p0_23), (.int .u8 p0_24), (.int .u8 p0_25), p0_26]), (.int .i64 p1), (.int .u32 p2)] w R :=
  spec_of Try.func3 (by kernel_rfl) (show gemellaw7_PduFlips_F p0_0 p0_1 p0_2 p0_3 p0_4 p0_5 p0_6 p0_7 p0_8 p0_9 p0_10 p0_11 p0_12 p0_13 p0_14 p0_15 p0_16 p0_17 p0_18 p0_19 p0_20 p0_21 p0_22 p0_23 p0_24 p0_25 p0_26 p1 p2 w R = _ by kernel_rfl) h

/-- gemel/gemellaw7.PduBounds -/
def gemellaw7_PduBounds_F (p0 : Int) (p1 : Int) (w : World) (R : KV) : Prop :=
 Go.CW.Spec Try.prog 5 #[] w fun v0 w1 =>
 ∃ (b2 : Bool), ((v0 : Value) = (.bool b2)) ∧
 cond (!b2)
 (R (.bool false) w1)
 (JoinP [.bool]
 (fun (b3 : Bool) => fun (w4 : World) =>
 cond b3
 (R (.bool true) w4)
 (∃ (v5 : Value) (w6 : World), ((Sem.run @Go.Proofs.Try.prog (Go.Instr.makeSlice 24 (.int .i64 p0) (.int .i64 p0)) w4) = (.ok v5 w6)) ∧
 oneK v5 (Go.CW.Spec Try.prog 6 #[(.agg #[(.int .i64 (0 : Int)), (.bool false), (.int .i64 (0 : Int)), (.int .i64 (0 : Int)), (.int .u32 (0 : Int)), (.int .u32 (0 : Int)), (.int .u32 (0 : Int)), (.int .u32 (0 : Int)), (.int .u32 (0 : Int)), (.int .u32 (0 : Int)), (.int .u8 (0 : Int)), (.int .u8 (0 : Int)), (.int .u8 (0 : Int)), (.int .u8 (0 : Int)), (.int .u8 (0 : Int)), (.int .u8 (0 : Int)), (.int .u8 (0 : Int)), (.int .u8 (0 : Int)), (.int .u8 (0 : Int)), (.int .u8 (0 : Int)), (.int .u8 (0 : Int)), (.int .u8 (0 : Int)), (.int .u8 (0 : Int)), (.int .u8 (0 : Int)), (.int .u8 (0 : Int)), (.int .u8 (0 : Int)), v5])] w6 fun v7 w8 =>
 ∃ (v9 : Value) (n10 : Int), ((v7 : Value) = (.tuple #[v9, (.int .i64 n10)])) ∧
 cond (decide (p0 > (4096 : Int)))
 (JoinP [.bool]
 (fun (b11 : Bool) => fun (w12 : World) =>
 R (.bool b11) w12)
 (fun j13 =>
 cond (n10 == (5 : Int))
 (∃ (m14 : Nat), ((Go.CW.sliceLen v9) = (some m14)) ∧
 j13 (((m14 : Nat) : Int) == (0 : Int)) w8)
 (j13 false w8)))
 (Go.CW.Spec Try.prog 7 #[v9] w8 fun v15 w16 =>
 ∃ (n17 : Int) (b18 : Bool) (n19 : Int) (n20 : Int) (n21 : Int) (n22 : Int) (n23 : Int) (n24 : Int) (n25 : Int) (n26 : Int) (n27 : Int) (n28 : Int) (n29 : Int) (n30 : Int) (n31 : Int) (n32 : Int) (n33 : Int) (n34 : Int) (n35 : Int) (n36 : Int) (n37 : Int) (n38 : Int) (n39 : Int) (n40 : Int) (n41 : Int) (n42 : Int) (v43 : Value) (n44 : Int) (n45 : Int), ((v15 : Value) = (.tuple #[(.agg #[(.int .i64 n17), (.bool b18), (.int .i64 n19), (.int .i64 n20), (.int .u32 n21), (.int .u32 n22), (.int .u32 n23), (.int .u32 n24), (.int .u32 n25), (.int .u32 n26), (.int .u8 n27), (.int .u8 n28), (.int .u8 n29), (.int .u8 n30), (.int .u8 n31), (.int .u8 n32), (.int .u8 n33), (.int .u8 n34), (.int .u8 n35), (.int .u8 n36), (.int .u8 n37), (.int .u8 n38), (.int .u8 n39), (.int .u8 n40), (.int .u8 n41), (.int .u8 n42), v43]), (.int .i64 n44), (.int .i64 n45)])) ∧
 bindW (World.alloc w16 (.cells #[(.int .i64 (0 : Int)), (.bool false), (.int .i64 (0 : Int)), (.int .i64 (0 : Int)), (.int .u32 (0 : Int)), (.int .u32 (0 : Int)), (.int .u32 (0 : Int)), (.int .u32 (0 : Int)), (.int .u32 (0 : Int)), (.int .u32 (0 : Int)), (.int .u8 (0 : Int)), (.int .u8 (0 : Int)), (.int .u8 (0 : Int)), (.int .u8 (0 : Int)), (.int .u8 (0 : Int)), (.int .u8 (0 : Int)), (.int .u8 (0 : Int)), (.int .u8 (0 : Int)), (.int .u8 (0 : Int)), (.int .u8 (0 : Int)), (.int .u8 (0 : Int)), (.int .u8 (0 : Int)), (.int .u8 (0 : Int)), (.int .u8 (0 : Int)), (.int .u8 (0 : Int)), (.int .u8 (0 : Int)), (.slice none 0 0)] 26)) fun w46 =>
 (StRow w46 ⟨w16.heap.size, 0, none⟩ #[(.int .i64 n17), (.bool b18), (.int .i64 n19), (.int .i64 n20), (.int .u32 n21), (.int .u32 n22), (.int .u32 n23), (.int .u32 n24), (.int .u32 n25), (.int .u32 n26), (.int .u8 n27), (.int .u8 n28), (.int .u8 n29), (.int .u8 n30), (.int .u8 n31), (.int .u8 n32), (.int .u8 n33), (.int .u8 n34), (.int .u8 n35), (.int .u8 n36), (.int .u8 n37), (.int .u8 n38), (.int .u8 n39), (.int .u8 n40), (.int .u8 n41), (.int .u8 n42), v43]) ∧
 bindW (stRow w46 ⟨w16.heap.size, 0, none⟩ #[(.int .i64 n17), (.bool b18), (.int .i64 n19), (.int .i64 n20), (.int .u32 n21), (.int .u32 n22), (.int .u32 n23), (.int .u32 n24), (.int .u32 n25), (.int .u32 n26), (.int .u8 n27), (.int .u8 n28), (.int .u8 n29), (.int .u8 n30), (.int .u8 n31), (.int .u8 n32), (.int .u8 n33), (.int .u8 n34), (.int .u8 n35), (.int .u8 n36), (.int .u8 n37), (.int .u8 n38), (.int .u8 n39), (.int .u8 n40), (.int .u8 n41), (.int .u8 n42), v43]) fun w47 =>
 JoinP [.bool]
 (fun (b48 : Bool) => fun (w49 : World) =>
 cond b48
 (R (.bool false) w49)
 (Go.CW.Spec Try.prog 10 #[(.agg #[(.int .i64 (0 : Int)), (.bool false), (.int .i64 (0 : Int)), (.int .i64 (0 : Int)), (.int .u32 (0 : Int)), (.int .u32 (0 : Int)), (.int .u32 (0 : Int)), (.int .u32 (0 : Int)), (.int .u32 (0 : Int)), (.int .u32 (0 : Int)), (.int .u8 (0 : Int)), (.int .u8 (0 : Int)), (.int .u8 (0 : Int)), (.int .u8 (0 : Int)), (.int .u8 (0 : Int)), (.int .u8 (0 : Int)), (.int .u8 (0 : Int)), (.int .u8 (0 : Int)), (.int .u8 (0 : Int)), (.int .u8 (0 : Int)), (.int .u8 (0 : Int)), (.int .u8 (0 : Int)), (.int .u8 (0 : Int)), (.int .u8 (0 : Int)), (.int .u8 (0 : Int)), (.int .u8 (0 : Int)), (.slice none 0 0)])] w49 fun v50 w51 =>
 ∃ (v52 : Value) (n53 : Int), ((v50 : Value) = (.tuple #[v52, (.int .i64 n53)])) ∧
 ∃ (a54 : Addr), ((Go.CW.sliceAt v52 (4 : Int) 1) = (some a54)) ∧
 (St1 w51 a54) ∧
 bindW (World.setCell w51 a54 (.int .u8 (IntKind.wrap .u8 (Int.fdiv (IntKind.wrap .u32 ((4097 : Int) + (Int.tmod p1 (100000 : Int)))) (16777216 : Int))))) fun w55 =>
 ∃ (a56 : Addr), ((Go.CW.sliceAt v52 (5 : Int) 1) = (some a56)) ∧
 (St1 w55 a56) ∧
 bindW (World.setCell w55 a56 (.int .u8 (IntKind.wrap .u8 (Int.fdiv (IntKind.wrap .u32 ((4097 : Int) + (Int.tmod p1 (100000 : Int)))) (65536 : Int))))) fun w57 =>
 ∃ (a58 : Addr), ((Go.CW.sliceAt v52 (6 : Int) 1) = (some a58)) ∧
 (St1 w57 a58) ∧
 bindW (World.setCell w57 a58 (.int .u8 (IntKind.wrap .u8 (Int.fdiv (IntKind.wrap .u32 ((4097 : Int) + (Int.tmod p1 (100000 : Int)))) (256 : Int))))) fun w59 =>
 ∃ (a60 : Addr), ((Go.CW.sliceAt v52 (7 : Int) 1) = (some a60)) ∧
 (St1 w59 a60) ∧
 bindW (World.setCell w59 a60 (.int .u8 (IntKind.wrap .u8 (IntKind.wrap .u32 ((4097 : Int) + (Int.tmod p1 (100000 : Int))))))) fun w61 =>
 ∃ (v62 : Value), ((Go.CW.subSlice v52 1 none (some (.int .i64 (48 : Int))) none) = (some v62)) ∧
 Go.CW.Spec Try.prog 12 #[v62] w61 fun v63 w64 =>
 ∃ (n65 : Int), ((v63 : Value) = (.int .u32 n65)) ∧
 Go.CW.Spec Try.prog 11 #[(.int .u32 n65)] w64 fun v66 w67 =>
 LoopP [.int .i64]
 (fun j68 => fun (n69 : Int) => fun (w70 : World) =>
 cond (decide (n69 < (4 : Int)))
 (∃ (a71 : Addr), ((Go.CW.sliceAt v66 n69 1) = (some a71)) ∧
 ∃ (n72 : Int), ((Go.World.cell? w70 a71) = (some (.int .u8 n72))) ∧
 ∃ (a73 : Addr), ((Go.CW.sliceAt v52 (IntKind.wrap .i64 ((48 : Int) + n69)) 1) = (some a73)) ∧
 (St1 w70 a73) ∧
 bindW (World.setCell w70 a73 (.int .u8 n72)) fun w74 =>
 j68 (IntKind.wrap .i64 (n69 + (1 : Int))) w74)
 (Go.CW.Spec Try.prog 7 #[v52] w70 fun v75 w76 =>
 ∃ (n77 : Int) (b78 : Bool) (n79 : Int) (n80 : Int) (n81 : Int) (n82 : Int) (n83 : Int) (n84 : Int) (n85 : Int) (n86 : Int) (n87 : Int) (n88 : Int) (n89 : Int) (n90 : Int) (n91 : Int) (n92 : Int) (n93 : Int) (n94 : Int) (n95 : Int) (n96 : Int) (n97 : Int) (n98 : Int) (n99 : Int) (n100 : Int) (n101 : Int) (n102 : Int) (v103 : Value) (n104 : Int) (n105 : Int), ((v75 : Value) = (.tuple #[(.agg #[(.int .i64 n77), (.bool b78), (.int .i64 n79), (.int .i64 n80), (.int .u32 n81), (.int .u32 n82), (.int .u32 n83), (.int .u32 n84), (.int .u32 n85), (.int .u32 n86), (.int .u8 n87), (.int .u8 n88), (.int .u8 n89), (.int .u8 n90), (.int .u8 n91), (.int .u8 n92), (.int .u8 n93), (.int .u8 n94), (.int .u8 n95), (.int .u8 n96), (.int .u8 n97), (.int .u8 n98), (.int .u8 n99), (.int .u8 n100), (.int .u8 n101), (.int .u8 n102), v103]), (.int .i64 n104), (.int .i64 n105)])) ∧
 bindW (World.alloc w76 (.cells #[(.int .i64 (0 : Int)), (.bool false), (.int .i64 (0 : Int)), (.int .i64 (0 : Int)), (.int .u32 (0 : Int)), (.int .u32 (0 : Int)), (.int .u32 (0 : Int)), (.int .u32 (0 : Int)), (.int .u32 (0 : Int)), (.int .u32 (0 : Int)), (.int .u8 (0 : Int)), (.int .u8 (0 : Int)), (.int .u8 (0 : Int)), (.int .u8 (0 : Int)), (.int .u8 (0 : Int)), (.int .u8 (0 : Int)), (.int .u8 (0 : Int)), (.int .u8 (0 : Int)), (.int .u8 (0 : Int)), (.int .u8 (0 : Int)), (.int .u8 (0 : Int)), (.int .u8 (0 : Int)), (.int .u8 (0 : Int)), (.int .u8 (0 : Int)), (.int .u8 (0 : Int)), (.int .u8 (0 : Int)), (.slice none 0 0)] 26)) fun w106 =>
 (StRow w106 ⟨w76.heap.size, 0, none⟩ #[(.int .i64 n77), (.bool b78), (.int .i64 n79), (.int .i64 n80), (.int .u32 n81), (.int .u32 n82), (.int .u32 n83), (.int .u32 n84), (.int .u32 n85), (.int .u32 n86), (.int .u8 n87), (.int .u8 n88), (.int .u8 n89), (.int .u8 n90), (.int .u8 n91), (.int .u8 n92), (.int .u8 n93), (.int .u8 n94), (.int .u8 n95), (.int .u8 n96), (.int .u8 n97), (.int .u8 n98), (.int .u8 n99), (.int .u8 n100), (.int .u8 n101), (.int .u8 n102), v103]) ∧
 bindW (stRow w106 ⟨w76.heap.size, 0, none⟩ #[(.int .i64 n77), (.bool b78), (.int .i64 n79), (.int .i64 n80), (.int .u32 n81), (.int .u32 n82), (.int .u32 n83), (.int .u32 n84), (.int .u32 n85), (.int .u32 n86), (.int .u8 n87), (.int .u8 n88), (.int .u8 n89), (.int .u8 n90), (.int .u8 n91), (.int .u8 n92), (.int .u8 n93), (.int .u8 n94), (.int .u8 n95), (.int .u8 n96), (.int .u8 n97), (.int .u8 n98), (.int .u8 n99), (.int .u8 n100), (.int .u8 n101), (.int .u8 n102), v103]) fun w107 =>
 Go.CW.Spec Try.prog 13 #[] w107 fun v108 w109 =>
 ∃ (o110 : Option Addr), ((v108 : Value) = (.pointer o110)) ∧
 Go.CW.Spec Try.prog 14 #[(.pointer o110), v52] w109 fun v111 w112 =>
 ((v111 : Value) = (.tuple #[])) ∧
 Go.CW.Spec Try.prog 15 #[(.pointer o110)] w112 fun v113 w114 =>
 ∃ (n115 : Int) (b116 : Bool) (n117 : Int) (n118 : Int) (n119 : Int) (n120 : Int) (n121 : Int) (n122 : Int) (n123 : Int) (n124 : Int) (n125 : Int) (n126 : Int) (n127 : Int) (n128 : Int) (n129 : Int) (n130 : Int) (n131 : Int) (n132 : Int) (n133 : Int) (n134 : Int) (n135 : Int) (n136 : Int) (n137 : Int) (n138 : Int) (n139 : Int) (n140 : Int) (v141 : Value) (b142 : Bool), ((v113 : Value) = (.tuple #[(.agg #[(.int .i64 n115), (.bool b116), (.int .i64 n117), (.int .i64 n118), (.int .u32 n119), (.int .u32 n120), (.int .u32 n121), (.int .u32 n122), (.int .u32 n123), (.int .u32 n124), (.int .u8 n125), (.int .u8 n126), (.int .u8 n127), (.int .u8 n128), (.int .u8 n129), (.int .u8 n130), (.int .u8 n131), (.int .u8 n132), (.int .u8 n133), (.int .u8 n134), (.int .u8 n135), (.int .u8 n136), (.int .u8 n137), (.int .u8 n138), (.int .u8 n139), (.int .u8 n140), v141]), (.bool b142)])) ∧
 bindW (World.alloc w114 (.cells #[(.int .i64 (0 : Int)), (.bool false), (.int .i64 (0 : Int)), (.int .i64 (0 : Int)), (.int .u32 (0 : Int)), (.int .u32 (0 : Int)), (.int .u32 (0 : Int)), (.int .u32 (0 : Int)), (.int .u32 (0 : Int)), (.int .u32 (0 : Int)), (.int .u8 (0 : Int)), (.int .u8 (0 : Int)), (.int .u8 (0 : Int)), (.int .u8 (0 : Int)), (.int .u8 (0 : Int)), (.int .u8 (0 : Int)), (.int .u8 (0 : Int)), (.int .u8 (0 : Int)), (.int .u8 (0 : Int)), (.int .u8 (0 : Int)), (.int .u8 (0 : Int)), (.int .u8 (0 : Int)), (.int .u8 (0 : Int)), (.int .u8 (0 : Int)), (.int .u8 (0 : Int)), (.int .u8 (0 : Int)), (.slice none 0 0)] 26)) fun w143 =>
 (StRow w143 ⟨w114.heap.size, 0, none⟩ #[(.int .i64 n115), (.bool b116), (.int .i64 n117), (.int .i64 n118), (.int .u32 n119), (.int .u32 n120), (.int .u32 n121), (.int .u32 n122), (.int .u32 n123), (.int .u32 n124), (.int .u8 n125), (.int .u8 n126), (.int .u8 n127), (.int .u8 n128), (.int .u8 n129), (.int .u8 n130), (.int .u8 n131), (.int .u8 n132), (.int .u8 n133), (.int .u8 n134), (.int .u8 n135), (.int .u8 n136), (.int .u8 n137), (.int .u8 n138), (.int .u8 n139), (.int .u8 n140), v141]) ∧
 bindW (stRow w143 ⟨w114.heap.size, 0, none⟩ #[(.int .i64 n115), (.bool b116), (.int .i64 n117), (.int .i64 n118), (.int .u32 n119), (.int .u32 n120), (.int .u32 n121), (.int .u32 n122), (.int .u32 n123), (.int .u32 n124), (.int .u8 n125), (.int .u8 n126), (.int .u8 n127), (.int .u8 n128), (.int .u8 n129), (.int .u8 n130), (.int .u8 n131), (.int .u8 n132), (.int .u8 n133), (.int .u8 n134), (.int .u8 n135), (.int .u8 n136), (.int .u8 n137), (.int .u8 n138), (.int .u8 n139), (.int .u8 n140), v141]) fun w144 =>
 JoinP [.bool]
 (fun (b145 : Bool) => fun (w146 : World) =>
 R (.bool b145) w146)
 (fun j147 =>
 cond (n105 == (5 : Int))
 (cond (!b142)
 (Go.CW.Spec Try.prog 16 #[(.pointer o110)] w144 fun v148 w149 =>
 ∃ (n150 : Int), ((v148 : Value) = (.int .i64 n150)) ∧
 j147 (n150 == (5 : Int)) w149)
 (j147 false w144))
 (j147 false w144))))
 (fun s151 => s151 (0 : Int) w67)))
 (fun j152 =>
 cond ((IntKind.wrap .i64 (n10 + n45)) != (0 : Int))
 (j152 true w47)
 (∃ (v153 : Value), ((Go.World.cell? w47 (Addr.add ⟨w16.heap.size, 0, none⟩ 26)) = (some v153)) ∧
 ∃ (m154 : Nat), ((Go.CW.sliceLen v153) = (some m154)) ∧
 cond (((m154 : Nat) : Int) != p0)
 (j152 true w47)
 (∃ (m155 : Nat), ((Go.CW.sliceLen v9) = (some m155)) ∧
 j152 (n44 != ((m155 : Nat) : Int)) w47)))))))
 (fun j156 =>
 cond (decide (p0 < (4090 : Int)))
 (j156 true w1)
 (j156 (decide (p0 > (4100 : Int))) w1)))

theorem gemellaw7_PduBounds_wp (p0 : Int) (p1 : Int) (w : World) (R : KV) (h : gemellaw7_PduBounds_F p0 p1 w R) : Go.CW.Spec Try.prog 4 #[(.int .i64 p0), (.int .u32 p1)] w R :=
  spec_of Try.func4 (by kernel_rfl) (show gemellaw7_PduBounds_F p0 p1 w R = _ by kernel_rfl) h

/-- gemel/gemellaw7.known -/
def gemellaw7_known_F  (w : World) (R : KV) : Prop :=
 bindW (World.alloc w (.cells #[(.int .u8 (104 : Int)), (.int .u8 (101 : Int)), (.int .u8 (108 : Int)), (.int .u8 (108 : Int)), (.int .u8 (111 : Int))] 5)) fun w0 =>
 ∃ (v1 : Value) (w2 : World), ((Sem.run @Go.Proofs.Try.prog (Go.convert 24 24 (.slice (some ⟨w.heap.size, 0, none⟩) 5 5)) w0) = (.ok v1 w2)) ∧
 oneK v1 (Go.CW.Spec Try.prog 6 #[(.agg #[(.int .i64 (0 : Int)), (.bool false), (.int .i64 (0 : Int)), (.int .i64 (0 : Int)), (.int .u32 (9 : Int)), (.int .u32 (0 : Int)), (.int .u32 (0 : Int)), (.int .u32 (0 : Int)), (.int .u32 (0 : Int)), (.int .u32 (0 : Int)), (.int .u8 (0 : Int)), (.int .u8 (0 : Int)), (.int .u8 (0 : Int)), (.int .u8 (0 : Int)), (.int .u8 (0 : Int)), (.int .u8 (0 : Int)), (.int .u8 (0 : Int)), (.int .u8 (0 : Int)), (.int .u8 (0 : Int)), (.int .u8 (0 : Int)), (.int .u8 (0 : Int)), (.int .u8 (0 : Int)), (.int .u8 (0 : Int)), (.int .u8 (0 : Int)), (.int .u8 (0 : Int)), (.int .u8 (0 : Int)), v1])] w2 fun v3 w4 =>
 ∃ (v5 : Value) (n6 : Int), ((v3 : Value) = (.tuple #[v5, (.int .i64 n6)])) ∧
 Go.CW.Spec Try.prog 7 #[v5] w4 fun v7 w8 =>
 ∃ (n9 : Int) (b10 : Bool) (n11 : Int) (n12 : Int) (n13 : Int) (n14 : Int) (n15 : Int) (n16 : Int) (n17 : Int) (n18 : Int) (n19 : Int) (n20 : Int) (n21 : Int) (n22 : Int) (n23 : Int) (n24 : Int) (n25 : Int) (n26 : Int) (n27 : Int) (n28 : Int) (n29 : Int) (n30 : Int) (n31 : Int) (n32 : Int) (n33 : Int) (n34 : Int) (v35 : Value) (n36 : Int) (n37 : Int), ((v7 : Value) = (.tuple #[(.agg #[(.int .i64 n9), (.bool b10), (.int .i64 n11), (.int .i64 n12), (.int .u32 n13), (.int .u32 n14), (.int .u32 n15), (.int .u32 n16), (.int .u32 n17), (.int .u32 n18), (.int .u8 n19), (.int .u8 n20), (.int .u8 n21), (.int .u8 n22), (.int .u8 n23), (.int .u8 n24), (.int .u8 n25), (.int .u8 n26), (.int .u8 n27), (.int .u8 n28), (.int .u8 n29), (.int .u8 n30), (.int .u8 n31), (.int .u8 n32), (.int .u8 n33), (.int .u8 n34), v35]), (.int .i64 n36), (.int .i64 n37)])) ∧
 bindW (World.alloc w8 (.cells #[(.int .i64 (0 : Int)), (.bool false), (.int .i64 (0 : Int)), (.int .i64 (0 : Int)), (.int .u32 (0 : Int)), (.int .u32 (0 : Int)), (.int .u32 (0 : Int)), (.int .u32 (0 : Int)), (.int .u32 (0 : Int)), (.int .u32 (0 : Int)), (.int .u8 (0 : Int)), (.int .u8 (0 : Int)), (.int .u8 (0 : Int)), (.int .u8 (0 : Int)), (.int .u8 (0 : Int)), (.int .u8 (0 : Int)), (.int .u8 (0 : Int)), (.int .u8 (0 : Int)), (.int .u8 (0 : Int)), (.int .u8 (0 : Int)), (.int .u8 (0 : Int)), (.int .u8 (0 : Int)), (.int .u8 (0 : Int)), (.int .u8 (0 : Int)), (.int .u8 (0 : Int)), (.int .u8 (0 : Int)), (.slice none 0 0)] 26)) fun w38 =>
 (StRow w38 ⟨w8.heap.size, 0, none⟩ #[(.int .i64 n9), (.bool b10), (.int .i64 n11), (.int .i64 n12), (.int .u32 n13), (.int .u32 n14), (.int .u32 n15), (.int .u32 n16), (.int .u32 n17), (.int .u32 n18), (.int .u8 n19), (.int .u8 n20), (.int .u8 n21), (.int .u8 n22), (.int .u8 n23), (.int .u8 n24), (.int .u8 n25), (.int .u8 n26), (.int .u8 n27), (.int .u8 n28), (.int .u8 n29), (.int .u8 n30), (.int .u8 n31), (.int .u8 n32), (.int .u8 n33), (.int .u8 n34), v35]) ∧
 bindW (stRow w38 ⟨w8.heap.size, 0, none⟩ #[(.int .i64 n9), (.bool b10), (.int .i64 n11), (.int .i64 n12), (.int .u32 n13), (.int .u32 n14), (.int .u32 n15), (.int .u32 n16), (.int .u32 n17), (.int .u32 n18), (.int .u8 n19), (.int .u8 n20), (.int .u8 n21), (.int .u8 n22), (.int .u8 n23), (.int .u8 n24), (.int .u8 n25), (.int .u8 n26), (.int .u8 n27), (.int .u8 n28), (.int .u8 n29), (.int .u8 n30), (.int .u8 n31), (.int .u8 n32), (.int .u8 n33), (.int .u8 n34), v35]) fun w39 =>
 Go.CW.Spec Try.prog 13 #[] w39 fun v40 w41 =>
 ∃ (o42 : Option Addr), ((v40 : Value) = (.pointer o42)) ∧
 ∃ (b43 : Bool), ((Go.CW.isNilP (.pointer o42)) = (some b43)) ∧
 cond b43
 (R (.bool false) w41)
 (∃ (v44 : Value), ((Go.CW.subSlice v5 1 none (some (.int .i64 (20 : Int))) none) = (some v44)) ∧
 Go.CW.Spec Try.prog 14 #[(.pointer o42), v44] w41 fun v45 w46 =>
 ((v45 : Value) = (.tuple #[])) ∧
 Go.CW.Spec Try.prog 15 #[(.pointer o42)] w46 fun v47 w48 =>
 ∃ (n49 : Int) (b50 : Bool) (n51 : Int) (n52 : Int) (n53 : Int) (n54 : Int) (n55 : Int) (n56 : Int) (n57 : Int) (n58 : Int) (n59 : Int) (n60 : Int) (n61 : Int) (n62 : Int) (n63 : Int) (n64 : Int) (n65 : Int) (n66 : Int) (n67 : Int) (n68 : Int) (n69 : Int) (n70 : Int) (n71 : Int) (n72 : Int) (n73 : Int) (n74 : Int) (v75 : Value) (b76 : Bool), ((v47 : Value) = (.tuple #[(.agg #[(.int .i64 n49), (.bool b50), (.int .i64 n51), (.int .i64 n52), (.int .u32 n53), (.int .u32 n54), (.int .u32 n55), (.int .u32 n56), (.int .u32 n57), (.int .u32 n58), (.int .u8 n59), (.int .u8 n60), (.int .u8 n61), (.int .u8 n62), (.int .u8 n63), (.int .u8 n64), (.int .u8 n65), (.int .u8 n66), (.int .u8 n67), (.int .u8 n68), (.int .u8 n69), (.int .u8 n70), (.int .u8 n71), (.int .u8 n72), (.int .u8 n73), (.int .u8 n74), v75]), (.bool b76)])) ∧
 bindW (World.alloc w48 (.cells #[(.int .i64 (0 : Int)), (.bool false), (.int .i64 (0 : Int)), (.int .i64 (0 : Int)), (.int .u32 (0 : Int)), (.int .u32 (0 : Int)), (.int .u32 (0 : Int)), (.int .u32 (0 : Int)), (.int .u32 (0 : Int)), (.int .u32 (0 : Int)), (.int .u8 (0 : Int)), (.int .u8 (0 : Int)), (.int .u8 (0 : Int)), (.int .u8 (0 : Int)), (.int .u8 (0 : Int)), (.int .u8 (0 : Int)), (.int .u8 (0 : Int)), (.int .u8 (0 : Int)), (.int .u8 (0 : Int)), (.int .u8 (0 : Int)), (.int .u8 (0 : Int)), (.int .u8 (0 : Int)), (.int .u8 (0 : Int)), (.int .u8 (0 : Int)), (.int .u8 (0 : Int)), (.int .u8 (0 : Int)), (.slice none 0 0)] 26)) fun w77 =>
 (StRow w77 ⟨w48.heap.size, 0, none⟩ #[(.int .i64 n49), (.bool b50), (.int .i64 n51), (.int .i64 n52), (.int .u32 n53), (.int .u32 n54), (.int .u32 n55), (.int .u32 n56), (.int .u32 n57), (.int .u32 n58), (.int .u8 n59), (.int .u8 n60), (.int .u8 n61), (.int .u8 n62), (.int .u8 n63), (.int .u8 n64), (.int .u8 n65), (.int .u8 n66), (.int .u8 n67), (.int .u8 n68), (.int .u8 n69), (.int .u8 n70), (.int .u8 n71), (.int .u8 n72), (.int .u8 n73), (.int .u8 n74), v75]) ∧
 bindW (stRow w77 ⟨w48.heap.size, 0, none⟩ #[(.int .i64 n49), (.bool b50), (.int .i64 n51), (.int .i64 n52), (.int .u32 n53), (.int .u32 n54), (.int .u32 n55), (.int .u32 n56), (.int .u32 n57), (.int .u32 n58), (.int .u8 n59), (.int .u8 n60), (.int .u8 n61), (.int .u8 n62), (.int .u8 n63), (.int .u8 n64), (.int .u8 n65), (.int .u8 n66), (.int .u8 n67), (.int .u8 n68), (.int .u8 n69), (.int .u8 n70), (.int .u8 n71), (.int .u8 n72), (.int .u8 n73), (.int .u8 n74), v75]) fun w78 =>
 ∃ (v79 : Value), ((Go.CW.subSlice v5 1 (some (.int .i64 (20 : Int))) none none) = (some v79)) ∧
 Go.CW.Spec Try.prog 14 #[(.pointer o42), v79] w78 fun v80 w81 =>
 ((v80 : Value) = (.tuple #[])) ∧
 Go.CW.Spec Try.prog 15 #[(.pointer o42)] w81 fun v82 w83 =>
 ∃ (n84 : Int) (b85 : Bool) (n86 : Int) (n87 : Int) (n88 : Int) (n89 : Int) (n90 : Int) (n91 : Int) (n92 : Int) (n93 : Int) (n94 : Int) (n95 : Int) (n96 : Int) (n97 : Int) (n98 : Int) (n99 : Int) (n100 : Int) (n101 : Int) (n102 : Int) (n103 : Int) (n104 : Int) (n105 : Int) (n106 : Int) (n107 : Int) (n108 : Int) (n109 : Int) (v110 : Value) (b111 : Bool), ((v82 : Value) = (.tuple #[(.agg #[(.int .i64 n84), (.bool b85), (.int .i64 n86), (.int .i64 n87), (.int .u32 n88), (.int .u32 n89), (.int .u32 n90), (.int .u32 n91), (.int .u32 n92), (.int .u32 n93), (.int .u8 n94), (.int .u8 n95), (.int .u8 n96), (.int .u8 n97), (.int .u8 n98), (.int .u8 n99), (.int .u8 n100), (.int .u8 n101), (.int .u8 n102), (.int .u8 n103), (.int .u8 n104), (.int .u8 n105), (.int .u8 n106), (.int .u8 n107), (.int .u8 n108), (.int .u8 n109), v110]), (.bool b111)])) ∧
 bindW (World.alloc w83 (.cells #[(.int .i64 (0 : Int)), (.bool false), (.int .i64 (0 : Int)), (.int .i64 (0 : Int)), (.int .u32 (0 : Int)), (.int .u32 (0 : Int)), (.int .u32 (0 : Int)), (.int .u32 (0 : Int)), (.int .u32 (0 : Int)), (.int .u32 (0 : Int)), (.int .u8 (0 : Int)), (.int .u8 (0 : Int)), (.int .u8 (0 : Int)), (.int .u8 (0 : Int)), (.int .u8 (0 : Int)), (.int .u8 (0 : Int)), (.int .u8 (0 : Int)), (.int .u8 (0 : Int)), (.int .u8 (0 : Int)), (.int .u8 (0 : Int)), (.int .u8 (0 : Int)), (.int .u8 (0 : Int)), (.int .u8 (0 : Int)), (.int .u8 (0 : Int)), (.int .u8 (0 : Int)), (.int .u8 (0 : Int)), (.slice none 0 0)] 26)) fun w112 =>
 (StRow w112 ⟨w83.heap.size, 0, none⟩ #[(.int .i64 n84), (.bool b85), (.int .i64 n86), (.int .i64 n87), (.int .u32 n88), (.int .u32 n89), (.int .u32 n90), (.int .u32 n91), (.int .u32 n92), (.int .u32 n93), (.int .u8 n94), (.int .u8 n95), (.int .u8 n96), (.int .u8 n97), (.int .u8 n98), (.int .u8 n99), (.int .u8 n100), (.int .u8 n101), (.int .u8 n102), (.int .u8 n103), (.int .u8 n104), (.int .u8 n105), (.int .u8 n106), (.int .u8 n107), (.int .u8 n108), (.int .u8 n109), v110]) ∧
 bindW (stRow w112 ⟨w83.heap.size, 0, none⟩ #[(.int .i64 n84), (.bool b85), (.int .i64 n86), (.int .i64 n87), (.int .u32 n88), (.int .u32 n89), (.int .u32 n90), (.int .u32 n91), (.int .u32 n92), (.int .u32 n93), (.int .u8 n94), (.int .u8 n95), (.int .u8 n96), (.int .u8 n97), (.int .u8 n98), (.int .u8 n99), (.int .u8 n100), (.int .u8 n101), (.int .u8 n102), (.int .u8 n103), (.int .u8 n104), (.int .u8 n105), (.int .u8 n106), (.int .u8 n107), (.int .u8 n108), (.int .u8 n109), v110]) fun w113 =>
 JoinP [.bool]
 (fun (b114 : Bool) => fun (w115 : World) =>
 R (.bool b114) w115)
 (fun j116 =>
 cond ((IntKind.wrap .i64 (n6 + n37)) == (0 : Int))
 (∃ (m117 : Nat), ((Go.CW.sliceLen v5) = (some m117)) ∧
 cond (((m117 : Nat) : Int) == (64 : Int))
 (cond (n36 == (64 : Int))
 (∃ (n118 : Int), ((Go.World.cell? w113 (Addr.add ⟨w8.heap.size, 0, none⟩ 4)) = (some (.int .u32 n118))) ∧
 cond (n118 == (9 : Int))
 (∃ (v119 : Value), ((Go.World.cell? w113 (Addr.add ⟨w8.heap.size, 0, none⟩ 26)) = (some v119)) ∧
 ∃ (s120 : ByteArray), ((Sem.run @Go.Proofs.Try.prog (Go.convert 24 9 v119) w113) = (.ok (.string s120) w113)) ∧
 cond (ByteArray.toList s120 == ByteArray.toList (ByteArray.mk #[104, 101, 108, 108, 111]))
 (cond (!b76)
 (cond b111
 (∃ (n121 : Int), ((Go.World.cell? w113 (Addr.add ⟨w83.heap.size, 0, none⟩ 4)) = (some (.int .u32 n121))) ∧
 cond (n121 == (9 : Int))
 (Go.CW.Spec Try.prog 17 #[(.int .i64 (63 : Int))] w113 fun v122 w123 =>
 ∃ (b124 : Bool), ((v122 : Value) = (.bool b124)) ∧
 cond b124
 (Go.CW.Spec Try.prog 17 #[(.int .i64 (4 : Int))] w123 fun v125 w126 =>
 ∃ (b127 : Bool), ((v125 : Value) = (.bool b127)) ∧
 j116 (!b127) w126)
 (j116 false w123))
 (j116 false w113))
 (j116 false w113))
 (j116 false w113))
 (j116 false w113))
 (j116 false w113))
 (j116 false w113))
 (j116 false w113))
 (j116 false w113))))

theorem gemellaw7_known_wp  (w : World) (R : KV) (h : gemellaw7_known_F  w R) : Go.CW.Spec Try.prog 5 #[] w R :=
  spec_of Try.func5 (by kernel_rfl) (show gemellaw7_known_F  w R = _ by kernel_rfl) h

/-- gemel/pdu.Encode -/
def pdu_Encode_F (p0_0 : Int) (p0_1 : Bool) (p0_2 : Int) (p0_3 : Int) (p0_4 : Int) (p0_5 : Int) (p0_6 : Int) (p0_7 : Int) (p0_8 : Int) (p0_9 : Int) (p0_10 : Int) (p0_11 : Int) (p0_12 : Int) (p0_13 : Int) (p0_14 : Int) (p0_15 : Int) (p0_16 : Int) (p0_17 : Int) (p0_18 : Int) (p0_19 : Int) (p0_20 : Int) (p0_21 : Int) (p0_22 : Int) (p0_23 : Int) (p0_24 : Int) (p0_25 : Int) (p0_26 : Value) (w : World) (R : KV) : Prop :=
 bindW (World.alloc w (.cells #[(.int .i64 p0_0), (.bool p0_1), (.int .i64 p0_2), (.int .i64 p0_3), (.int .u32 p0_4), (.int .u32 p0_5), (.int .u32 p0_6), (.int .u32 p0_7), (.int .u32 p0_8), (.int .u32 p0_9), (.int .u8 p0_10), (.int .u8 p0_11), (.int .u8 p0_12), (.int .u8 p0_13), (.int .u8 p0_14), (.int .u8 p0_15), (.int .u8 p0_16), (.int .u8 p0_17), (.int .u8 p0_18), (.int .u8 p0_19), (.int .u8 p0_20), (.int .u8 p0_21), (.int .u8 p0_22), (.int .u8 p0_23), (.int .u8 p0_24), (.int .u8 p0_25), p0_26] 26)) fun w0 =>
 JoinP [.bool]
 (fun (b1 : Bool) => fun (w2 : World) =>
 cond b1
 (R (.tuple #[(.slice none 0 0), (.int .i64 (1 : Int))]) w2)
 (∃ (v3 : Value), ((Go.World.cell? w2 (Addr.add ⟨w.heap.size, 0, none⟩ 26)) = (some v3)) ∧
 ∃ (m4 : Nat), ((Go.CW.sliceLen v3) = (some m4)) ∧
 cond (decide (((m4 : Nat) : Int) > (4096 : Int)))
 (R (.tuple #[(.slice none 0 0), (.int .i64 (5 : Int))]) w2)
 (∃ (n5 : Int), ((Go.World.cell? w2 (Addr.add ⟨w.heap.size, 0, none⟩ 2)) = (some (.int .i64 n5))) ∧
 JoinP [.int .u8]
 (fun (n6 : Int) => fun (w7 : World) =>
 ∃ (n8 : Int), ((Go.World.cell? w7 (Addr.add ⟨w.heap.size, 0, none⟩ 0)) = (some (.int .i64 n8))) ∧
 ∃ (n9 : Int), ((Go.World.cell? w7 (Addr.add ⟨w.heap.size, 0, none⟩ 3)) = (some (.int .i64 n9))) ∧
 bindW (World.alloc w7 (.cells #[(.int .u8 (IntKind.wrap .u8 n8)), (.int .u8 n6), (.int .u8 (IntKind.wrap .u8 n9)), (.int .u8 (0 : Int))] 5)) fun w10 =>
 ∃ (v11 : Value), ((Go.World.cell? w10 (Addr.add ⟨w.heap.size, 0, none⟩ 26)) = (some v11)) ∧
 ∃ (m12 : Nat), ((Go.CW.sliceLen v11) = (some m12)) ∧
 Go.CW.Spec Try.prog 18 #[(.slice (some ⟨w7.heap.size, 0, none⟩) 4 4), (.int .u64 (IntKind.wrap .u64 ((m12 : Nat) : Int))), (.int .i64 (4 : Int))] w10 fun v13 w14 =>
 ∃ (n15 : Int), ((Go.World.cell? w14 (Addr.add ⟨w.heap.size, 0, none⟩ 4)) = (some (.int .u32 n15))) ∧
 ∃ (n16 : Int), ((Go.World.cell? w14 (Addr.add ⟨w.heap.size, 0, none⟩ 5)) = (some (.int .u32 n16))) ∧
 ∃ (n17 : Int), ((Go.World.cell? w14 (Addr.add ⟨w.heap.size, 0, none⟩ 6)) = (some (.int .u32 n17))) ∧
 ∃ (n18 : Int), ((Go.World.cell? w14 (Addr.add ⟨w.heap.size, 0, none⟩ 7)) = (some (.int .u32 n18))) ∧
 ∃ (n19 : Int), ((Go.World.cell? w14 (Addr.add ⟨w.heap.size, 0, none⟩ 8)) = (some (.int .u32 n19))) ∧
 ∃ (n20 : Int), ((Go.World.cell? w14 (Addr.add ⟨w.heap.size, 0, none⟩ 9)) = (some (.int .u32 n20))) ∧
 bindW (World.alloc w14 (.cells #[(.int .u32 n15), (.int .u32 n16), (.int .u32 n17), (.int .u32 n18), (.int .u32 n19), (.int .u32 n20)] 22)) fun w21 =>
 ∃ (m22 : Nat), ((Go.CW.sliceLen (.slice (some ⟨w14.heap.size, 0, none⟩) 6 6)) = (some m22)) ∧
 LoopP [.val, .int .i64]
 (fun j23 => fun (v24 : Value) => fun (n25 : Int) => fun (w26 : World) =>
 cond (decide (n25 < ((m22 : Nat) : Int)))
 (∃ (a27 : Addr), ((Go.CW.sliceAt (.slice (some ⟨w14.heap.size, 0, none⟩) 6 6) n25 1) = (some a27)) ∧
 ∃ (n28 : Int), ((Go.World.cell? w26 a27) = (some (.int .u32 n28))) ∧
 Go.CW.Spec Try.prog 18 #[v24, (.int .u64 (IntKind.wrap .u64 n28)), (.int .i64 (4 : Int))] w26 fun v29 w30 =>
 j23 v29 (IntKind.wrap .i64 (n25 + (1 : Int))) w30)
 (∃ (v31 : Value) (w32 : World), ((Sem.run @Go.Proofs.Try.prog (Go.Builtin.append_ #[24, 24] 24 #[v24, (.slice (some (Addr.add ⟨w.heap.size, 0, none⟩ 10)) 16 16)]) w26) = (.ok v31 w32)) ∧
 Go.CW.Spec Try.prog 19 #[v31] w32 fun v33 w34 =>
 ∃ (v35 : Value) (w36 : World), ((Sem.run @Go.Proofs.Try.prog (Go.Builtin.append_ #[24, 24] 24 #[v31, v33]) w34) = (.ok v35 w36)) ∧
 JoinP [.val]
 (fun (v37 : Value) => fun (w38 : World) =>
 Go.CW.Spec Try.prog 22 #[v37] w38 fun v39 w40 =>
 R (.tuple #[v39, (.int .i64 (0 : Int))]) w40)
 (fun j41 =>
 ∃ (v42 : Value), ((Go.World.cell? w36 (Addr.add ⟨w.heap.size, 0, none⟩ 26)) = (some v42)) ∧
 ∃ (m43 : Nat), ((Go.CW.sliceLen v42) = (some m43)) ∧
 cond (decide (((m43 : Nat) : Int) > (0 : Int)))
 (∃ (v44 : Value), ((Go.World.cell? w36 (Addr.add ⟨w.heap.size, 0, none⟩ 26)) = (some v44)) ∧
 Go.CW.Spec Try.prog 20 #[v44, (.int .i64 (4 : Int))] w36 fun v45 w46 =>
 Go.CW.Spec Try.prog 19 #[v45] w46 fun v47 w48 =>
 oneK v35 (oneK v45 (oneK v47 (bindW (World.alloc w48 (.cells #[v35, v45, v47] 24)) fun w49 =>
 Go.CW.Spec Try.prog 21 #[(.slice (some ⟨w48.heap.size, 0, none⟩) 3 3)] w49 fun v50 w51 =>
 j41 v50 w51))))
 (j41 v35 w36))))
 (fun s52 => s52 v13 (0 : Int) w21))
 (fun j53 =>
 ∃ (b54 : Bool), ((Go.World.cell? w2 (Addr.add ⟨w.heap.size, 0, none⟩ 1)) = (some (.bool b54))) ∧
 cond b54
 (j53 (bitsI .or .u8 (IntKind.wrap .u8 n5) (128 : Int)) w2)
 (j53 (IntKind.wrap .u8 n5) w2)))))
 (fun j55 =>
 ∃ (n56 : Int), ((Go.World.cell? w0 (Addr.add ⟨w.heap.size, 0, none⟩ 0)) = (some (.int .i64 n56))) ∧
 Go.CW.Spec Try.prog 17 #[(.int .i64 n56)] w0 fun v57 w58 =>
 ∃ (b59 : Bool), ((v57 : Value) = (.bool b59)) ∧
 cond (!b59)
 (j55 (!b59) w58)
 (JoinP [.bool]
 (fun (b60 : Bool) => fun (w61 : World) =>
 cond b60
 (j55 b60 w61)
 (∃ (n62 : Int), ((Go.World.cell? w61 (Addr.add ⟨w.heap.size, 0, none⟩ 3)) = (some (.int .i64 n62))) ∧
 cond (decide (n62 < (0 : Int)))
 (j55 true w61)
 (∃ (n63 : Int), ((Go.World.cell? w61 (Addr.add ⟨w.heap.size, 0, none⟩ 3)) = (some (.int .i64 n63))) ∧
 j55 (decide (n63 > (255 : Int))) w61)))
 (fun j64 =>
 ∃ (n65 : Int), ((Go.World.cell? w58 (Addr.add ⟨w.heap.size, 0, none⟩ 2)) = (some (.int .i64 n65))) ∧
 cond (decide (n65 < (0 : Int)))
 (j64 true w58)
 (∃ (n66 : Int), ((Go.World.cell? w58 (Addr.add ⟨w.heap.size, 0, none⟩ 2)) = (some (.int .i64 n66))) ∧
 j64 (decide (n66 ≥ (128 : Int))) w58))))

theorem pdu_Encode_wp (p0_0 : Int) (p0_1 : Bool) (p0_2 : Int) (p0_3 : Int) (p0_4 : Int) (p0_5 : Int) (p0_6 : Int) (p0_7 : Int) (p0_8 : Int) (p0_9 : Int) (p0_10 : Int) (p0_11 : Int) (p0_12 : Int) (p0_13 : Int) (p0_14 : Int) (p0_15 : Int) (p0_16 : Int) (p0_17 : Int) (p0_18 : Int) (p0_19 : Int) (p0_20 : Int) (p0_21 : Int) (p0_22 : Int) (p0_23 : Int) (p0_24 : Int) (p0_25 : Int) (p0_26 : Value) (w : World) (R : KV) (h : pdu_Encode_F p0_0 p0_1 p0_2 p0_3 p0_4 p0_5 p0_6 p0_7 p0_8 p0_9 p0_10 p0_11 p0_12 p0_13 p0_14 p0_15 p0_16 p0_17 p0_18 p0_19 p0_20 p0_21 p0_22 p0_23 p0_24 p0_25 p0_26 w R) : Go.CW.Spec Try.prog 6 #[(.agg #[(.int .i64 p0_0), (.bool p0_1), (.int .i64 p0_2), (.int .i64 p0_3), (.int .u32 p0_4), (.int .u32 p0_5), (.int .u32 p0_6), (.int .u32 p0_7), (.int .u32 p0_8), (.int .u32 p0_9), (.int .u8 p0_10), (.int .u8 p0_11), (.int .u8 p0_12), (.int .u8 p0_13), (.int .u8 p0_14), (.int .u8 p0_15), (.int .u8 p0_16), (.int .u8 p0_17), (.int .u8 p0_18), (.int .u8 p0_19), (.int .u8 p0_20), (.int .u8 p0_21), (.int .u8 p0_22), (.int .u8 p0_23), (.int .u8 p0_24), (.int .u8 p0_25), p0_26])] w R :=
  spec_of Try.func6 (by kernel_rfl) (show pdu_Encode_F p0_0 p0_1 p0_2 p0_3 p0_4 p0_5 p0_6 p0_7 p0_8 p0_9 p0_10 p0_11 p0_12 p0_13 p0_14 p0_15 p0_16 p0_17 p0_18 p0_19 p0_20 p0_21 p0_22 p0_23 p0_24 p0_25 p0_26 w R = _ by kernel_rfl) h

/-- gemel/pdu.Decode -/
def pdu_Decode_F (p0 : Value) (w : World) (R : KV) : Prop :=
 bindW (World.alloc w (.cells #[(.int .i64 (0 : Int)), (.bool false), (.int .i64 (0 : Int)), (.int .i64 (0 : Int)), (.int .u32 (0 : Int)), (.int .u32 (0 : Int)), (.int .u32 (0 : Int)), (.int .u32 (0 : Int)), (.int .u32 (0 : Int)), (.int .u32 (0 : Int)), (.int .u8 (0 : Int)), (.int .u8 (0 : Int)), (.int .u8 (0 : Int)), (.int .u8 (0 : Int)), (.int .u8 (0 : Int)), (.int .u8 (0 : Int)), (.int .u8 (0 : Int)), (.int .u8 (0 : Int)), (.int .u8 (0 : Int)), (.int .u8 (0 : Int)), (.int .u8 (0 : Int)), (.int .u8 (0 : Int)), (.int .u8 (0 : Int)), (.int .u8 (0 : Int)), (.int .u8 (0 : Int)), (.int .u8 (0 : Int)), (.slice none 0 0)] 26)) fun w0 =>
 Go.CW.Spec Try.prog 23 #[p0] w0 fun v1 w2 =>
 ∃ (n3 : Int) (b4 : Bool) (n5 : Int) (n6 : Int) (n7 : Int) (n8 : Int) (n9 : Int) (n10 : Int) (n11 : Int) (n12 : Int) (n13 : Int) (n14 : Int) (n15 : Int) (n16 : Int) (n17 : Int) (n18 : Int) (n19 : Int) (n20 : Int) (n21 : Int) (n22 : Int) (n23 : Int) (n24 : Int) (n25 : Int) (n26 : Int) (n27 : Int) (n28 : Int) (v29 : Value) (n30 : Int) (n31 : Int), ((v1 : Value) = (.tuple #[(.agg #[(.int .i64 n3), (.bool b4), (.int .i64 n5), (.int .i64 n6), (.int .u32 n7), (.int .u32 n8), (.int .u32 n9), (.int .u32 n10), (.int .u32 n11), (.int .u32 n12), (.int .u8 n13), (.int .u8 n14), (.int .u8 n15), (.int .u8 n16), (.int .u8 n17), (.int .u8 n18), (.int .u8 n19), (.int .u8 n20), (.int .u8 n21), (.int .u8 n22), (.int .u8 n23), (.int .u8 n24), (.int .u8 n25), (.int .u8 n26), (.int .u8 n27), (.int .u8 n28), v29]), (.int .i64 n30), (.int .i64 n31)])) ∧
 bindW (World.alloc w2 (.cells #[(.int .i64 (0 : Int)), (.bool false), (.int .i64 (0 : Int)), (.int .i64 (0 : Int)), (.int .u32 (0 : Int)), (.int .u32 (0 : Int)), (.int .u32 (0 : Int)), (.int .u32 (0 : Int)), (.int .u32 (0 : Int)), (.int .u32 (0 : Int)), (.int .u8 (0 : Int)), (.int .u8 (0 : Int)), (.int .u8 (0 : Int)), (.int .u8 (0 : Int)), (.int .u8 (0 : Int)), (.int .u8 (0 : Int)), (.int .u8 (0 : Int)), (.int .u8 (0 : Int)), (.int .u8 (0 : Int)), (.int .u8 (0 : Int)), (.int .u8 (0 : Int)), (.int .u8 (0 : Int)), (.int .u8 (0 : Int)), (.int .u8 (0 : Int)), (.int .u8 (0 : Int)), (.int .u8 (0 : Int)), (.slice none 0 0)] 26)) fun w32 =>
 (StRow w32 ⟨w2.heap.size, 0, none⟩ #[(.int .i64 n3), (.bool b4), (.int .i64 n5), (.int .i64 n6), (.int .u32 n7), (.int .u32 n8), (.int .u32 n9), (.int .u32 n10), (.int .u32 n11), (.int .u32 n12), (.int .u8 n13), (.int .u8 n14), (.int .u8 n15), (.int .u8 n16), (.int .u8 n17), (.int .u8 n18), (.int .u8 n19), (.int .u8 n20), (.int .u8 n21), (.int .u8 n22), (.int .u8 n23), (.int .u8 n24), (.int .u8 n25), (.int .u8 n26), (.int .u8 n27), (.int .u8 n28), v29]) ∧
 bindW (stRow w32 ⟨w2.heap.size, 0, none⟩ #[(.int .i64 n3), (.bool b4), (.int .i64 n5), (.int .i64 n6), (.int .u32 n7), (.int .u32 n8), (.int .u32 n9), (.int .u32 n10), (.int .u32 n11), (.int .u32 n12), (.int .u8 n13), (.int .u8 n14), (.int .u8 n15), (.int .u8 n16), (.int .u8 n17), (.int .u8 n18), (.int .u8 n19), (.int .u8 n20), (.int .u8 n21), (.int .u8 n22), (.int .u8 n23), (.int .u8 n24), (.int .u8 n25), (.int .u8 n26), (.int .u8 n27), (.int .u8 n28), v29]) fun w33 =>
 JoinP [.bool]
 (fun (b34 : Bool) => fun (w35 : World) =>
 cond b34
 (cond (n31 != (0 : Int))
 ((StRow w35 ⟨w.heap.size, 0, none⟩ #[(.int .i64 (0 : Int)), (.bool false), (.int .i64 (0 : Int)), (.int .i64 (0 : Int)), (.int .u32 (0 : Int)), (.int .u32 (0 : Int)), (.int .u32 (0 : Int)), (.int .u32 (0 : Int)), (.int .u32 (0 : Int)), (.int .u32 (0 : Int)), (.int .u8 (0 : Int)), (.int .u8 (0 : Int)), (.int .u8 (0 : Int)), (.int .u8 (0 : Int)), (.int .u8 (0 : Int)), (.int .u8 (0 : Int)), (.int .u8 (0 : Int)), (.int .u8 (0 : Int)), (.int .u8 (0 : Int)), (.int .u8 (0 : Int)), (.int .u8 (0 : Int)), (.int .u8 (0 : Int)), (.int .u8 (0 : Int)), (.int .u8 (0 : Int)), (.int .u8 (0 : Int)), (.int .u8 (0 : Int)), (.slice none 0 0)]) ∧
 bindW (stRow w35 ⟨w.heap.size, 0, none⟩ #[(.int .i64 (0 : Int)), (.bool false), (.int .i64 (0 : Int)), (.int .i64 (0 : Int)), (.int .u32 (0 : Int)), (.int .u32 (0 : Int)), (.int .u32 (0 : Int)), (.int .u32 (0 : Int)), (.int .u32 (0 : Int)), (.int .u32 (0 : Int)), (.int .u8 (0 : Int)), (.int .u8 (0 : Int)), (.int .u8 (0 : Int)), (.int .u8 (0 : Int)), (.int .u8 (0 : Int)), (.int .u8 (0 : Int)), (.int .u8 (0 : Int)), (.int .u8 (0 : Int)), (.int .u8 (0 : Int)), (.int .u8 (0 : Int)), (.int .u8 (0 : Int)), (.int .u8 (0 : Int)), (.int .u8 (0 : Int)), (.int .u8 (0 : Int)), (.int .u8 (0 : Int)), (.int .u8 (0 : Int)), (.slice none 0 0)]) fun w36 =>
 ∃ (n37 : Int) (b38 : Bool) (n39 : Int) (n40 : Int) (n41 : Int) (n42 : Int) (n43 : Int) (n44 : Int) (n45 : Int) (n46 : Int) (n47 : Int) (n48 : Int) (n49 : Int) (n50 : Int) (n51 : Int) (n52 : Int) (n53 : Int) (n54 : Int) (n55 : Int) (n56 : Int) (n57 : Int) (n58 : Int) (n59 : Int) (n60 : Int) (n61 : Int) (n62 : Int) (v63 : Value), (ldCells w36 ⟨w.heap.size, 0, none⟩ 27 #[(.int .i64 n37), (.bool b38), (.int .i64 n39), (.int .i64 n40), (.int .u32 n41), (.int .u32 n42), (.int .u32 n43), (.int .u32 n44), (.int .u32 n45), (.int .u32 n46), (.int .u8 n47), (.int .u8 n48), (.int .u8 n49), (.int .u8 n50), (.int .u8 n51), (.int .u8 n52), (.int .u8 n53), (.int .u8 n54), (.int .u8 n55), (.int .u8 n56), (.int .u8 n57), (.int .u8 n58), (.int .u8 n59), (.int .u8 n60), (.int .u8 n61), (.int .u8 n62), v63]) ∧
 R (.tuple #[(.agg #[(.int .i64 n37), (.bool b38), (.int .i64 n39), (.int .i64 n40), (.int .u32 n41), (.int .u32 n42), (.int .u32 n43), (.int .u32 n44), (.int .u32 n45), (.int .u32 n46), (.int .u8 n47), (.int .u8 n48), (.int .u8 n49), (.int .u8 n50), (.int .u8 n51), (.int .u8 n52), (.int .u8 n53), (.int .u8 n54), (.int .u8 n55), (.int .u8 n56), (.int .u8 n57), (.int .u8 n58), (.int .u8 n59), (.int .u8 n60), (.int .u8 n61), (.int .u8 n62), v63]), (.int .i64 (0 : Int)), (.int .i64 n31)]) w36)
 (∃ (n64 : Int) (b65 : Bool) (n66 : Int) (n67 : Int) (n68 : Int) (n69 : Int) (n70 : Int) (n71 : Int) (n72 : Int) (n73 : Int) (n74 : Int) (n75 : Int) (n76 : Int) (n77 : Int) (n78 : Int) (n79 : Int) (n80 : Int) (n81 : Int) (n82 : Int) (n83 : Int) (n84 : Int) (n85 : Int) (n86 : Int) (n87 : Int) (n88 : Int) (n89 : Int) (v90 : Value), (ldCells w35 ⟨w2.heap.size, 0, none⟩ 27 #[(.int .i64 n64), (.bool b65), (.int .i64 n66), (.int .i64 n67), (.int .u32 n68), (.int .u32 n69), (.int .u32 n70), (.int .u32 n71), (.int .u32 n72), (.int .u32 n73), (.int .u8 n74), (.int .u8 n75), (.int .u8 n76), (.int .u8 n77), (.int .u8 n78), (.int .u8 n79), (.int .u8 n80), (.int .u8 n81), (.int .u8 n82), (.int .u8 n83), (.int .u8 n84), (.int .u8 n85), (.int .u8 n86), (.int .u8 n87), (.int .u8 n88), (.int .u8 n89), v90]) ∧
 (StRow w35 ⟨w.heap.size, 0, none⟩ #[(.int .i64 n64), (.bool b65), (.int .i64 n66), (.int .i64 n67), (.int .u32 n68), (.int .u32 n69), (.int .u32 n70), (.int .u32 n71), (.int .u32 n72), (.int .u32 n73), (.int .u8 n74), (.int .u8 n75), (.int .u8 n76), (.int .u8 n77), (.int .u8 n78), (.int .u8 n79), (.int .u8 n80), (.int .u8 n81), (.int .u8 n82), (.int .u8 n83), (.int .u8 n84), (.int .u8 n85), (.int .u8 n86), (.int .u8 n87), (.int .u8 n88), (.int .u8 n89), v90]) ∧
 bindW (stRow w35 ⟨w.heap.size, 0, none⟩ #[(.int .i64 n64), (.bool b65), (.int .i64 n66), (.int .i64 n67), (.int .u32 n68), (.int .u32 n69), (.int .u32 n70), (.int .u32 n71), (.int .u32 n72), (.int .u32 n73), (.int .u8 n74), (.int .u8 n75), (.int .u8 n76), (.int .u8 n77), (.int .u8 n78), (.int .u8 n79), (.int .u8 n80), (.int .u8 n81), (.int .u8 n82), (.int .u8 n83), (.int .u8 n84), (.int .u8 n85), (.int .u8 n86), (.int .u8 n87), (.int .u8 n88), (.int .u8 n89), v90]) fun w91 =>
 ∃ (n92 : Int) (b93 : Bool) (n94 : Int) (n95 : Int) (n96 : Int) (n97 : Int) (n98 : Int) (n99 : Int) (n100 : Int) (n101 : Int) (n102 : Int) (n103 : Int) (n104 : Int) (n105 : Int) (n106 : Int) (n107 : Int) (n108 : Int) (n109 : Int) (n110 : Int) (n111 : Int) (n112 : Int) (n113 : Int) (n114 : Int) (n115 : Int) (n116 : Int) (n117 : Int) (v118 : Value), (ldCells w91 ⟨w.heap.size, 0, none⟩ 27 #[(.int .i64 n92), (.bool b93), (.int .i64 n94), (.int .i64 n95), (.int .u32 n96), (.int .u32 n97), (.int .u32 n98), (.int .u32 n99), (.int .u32 n100), (.int .u32 n101), (.int .u8 n102), (.int .u8 n103), (.int .u8 n104), (.int .u8 n105), (.int .u8 n106), (.int .u8 n107), (.int .u8 n108), (.int .u8 n109), (.int .u8 n110), (.int .u8 n111), (.int .u8 n112), (.int .u8 n113), (.int .u8 n114), (.int .u8 n115), (.int .u8 n116), (.int .u8 n117), v118]) ∧
 R (.tuple #[(.agg #[(.int .i64 n92), (.bool b93), (.int .i64 n94), (.int .i64 n95), (.int .u32 n96), (.int .u32 n97), (.int .u32 n98), (.int .u32 n99), (.int .u32 n100), (.int .u32 n101), (.int .u8 n102), (.int .u8 n103), (.int .u8 n104), (.int .u8 n105), (.int .u8 n106), (.int .u8 n107), (.int .u8 n108), (.int .u8 n109), (.int .u8 n110), (.int .u8 n111), (.int .u8 n112), (.int .u8 n113), (.int .u8 n114), (.int .u8 n115), (.int .u8 n116), (.int .u8 n117), v118]), (.int .i64 (52 : Int)), (.int .i64 (0 : Int))]) w91))
 (∃ (v119 : Value), ((Go.CW.subSlice p0 1 (some (.int .i64 (52 : Int))) none none) = (some v119)) ∧
 ∃ (m120 : Nat), ((Go.CW.sliceLen v119) = (some m120)) ∧
 cond (decide (((m120 : Nat) : Int) < (IntKind.wrap .i64 ((IntKind.wrap .i64 ((IntKind.wrap .i64 (Int.tdiv (IntKind.wrap .i64 (n30 + (3 : Int))) (4 : Int))) * (4 : Int))) + (4 : Int)))))
 ((StRow w35 ⟨w.heap.size, 0, none⟩ #[(.int .i64 (0 : Int)), (.bool false), (.int .i64 (0 : Int)), (.int .i64 (0 : Int)), (.int .u32 (0 : Int)), (.int .u32 (0 : Int)), (.int .u32 (0 : Int)), (.int .u32 (0 : Int)), (.int .u32 (0 : Int)), (.int .u32 (0 : Int)), (.int .u8 (0 : Int)), (.int .u8 (0 : Int)), (.int .u8 (0 : Int)), (.int .u8 (0 : Int)), (.int .u8 (0 : Int)), (.int .u8 (0 : Int)), (.int .u8 (0 : Int)), (.int .u8 (0 : Int)), (.int .u8 (0 : Int)), (.int .u8 (0 : Int)), (.int .u8 (0 : Int)), (.int .u8 (0 : Int)), (.int .u8 (0 : Int)), (.int .u8 (0 : Int)), (.int .u8 (0 : Int)), (.int .u8 (0 : Int)), (.slice none 0 0)]) ∧
 bindW (stRow w35 ⟨w.heap.size, 0, none⟩ #[(.int .i64 (0 : Int)), (.bool false), (.int .i64 (0 : Int)), (.int .i64 (0 : Int)), (.int .u32 (0 : Int)), (.int .u32 (0 : Int)), (.int .u32 (0 : Int)), (.int .u32 (0 : Int)), (.int .u32 (0 : Int)), (.int .u32 (0 : Int)), (.int .u8 (0 : Int)), (.int .u8 (0 : Int)), (.int .u8 (0 : Int)), (.int .u8 (0 : Int)), (.int .u8 (0 : Int)), (.int .u8 (0 : Int)), (.int .u8 (0 : Int)), (.int .u8 (0 : Int)), (.int .u8 (0 : Int)), (.int .u8 (0 : Int)), (.int .u8 (0 : Int)), (.int .u8 (0 : Int)), (.int .u8 (0 : Int)), (.int .u8 (0 : Int)), (.int .u8 (0 : Int)), (.int .u8 (0 : Int)), (.slice none 0 0)]) fun w121 =>
 ∃ (n122 : Int) (b123 : Bool) (n124 : Int) (n125 : Int) (n126 : Int) (n127 : Int) (n128 : Int) (n129 : Int) (n130 : Int) (n131 : Int) (n132 : Int) (n133 : Int) (n134 : Int) (n135 : Int) (n136 : Int) (n137 : Int) (n138 : Int) (n139 : Int) (n140 : Int) (n141 : Int) (n142 : Int) (n143 : Int) (n144 : Int) (n145 : Int) (n146 : Int) (n147 : Int) (v148 : Value), (ldCells w121 ⟨w.heap.size, 0, none⟩ 27 #[(.int .i64 n122), (.bool b123), (.int .i64 n124), (.int .i64 n125), (.int .u32 n126), (.int .u32 n127), (.int .u32 n128), (.int .u32 n129), (.int .u32 n130), (.int .u32 n131), (.int .u8 n132), (.int .u8 n133), (.int .u8 n134), (.int .u8 n135), (.int .u8 n136), (.int .u8 n137), (.int .u8 n138), (.int .u8 n139), (.int .u8 n140), (.int .u8 n141), (.int .u8 n142), (.int .u8 n143), (.int .u8 n144), (.int .u8 n145), (.int .u8 n146), (.int .u8 n147), v148]) ∧
 R (.tuple #[(.agg #[(.int .i64 n122), (.bool b123), (.int .i64 n124), (.int .i64 n125), (.int .u32 n126), (.int .u32 n127), (.int .u32 n128), (.int .u32 n129), (.int .u32 n130), (.int .u32 n131), (.int .u8 n132), (.int .u8 n133), (.int .u8 n134), (.int .u8 n135), (.int .u8 n136), (.int .u8 n137), (.int .u8 n138), (.int .u8 n139), (.int .u8 n140), (.int .u8 n141), (.int .u8 n142), (.int .u8 n143), (.int .u8 n144), (.int .u8 n145), (.int .u8 n146), (.int .u8 n147), v148]), (.int .i64 (0 : Int)), (.int .i64 (3 : Int))]) w121)
 (bindW (World.drew w35) fun w149 =>
 ∃ (v150 : Value), ((Go.CW.subSlice v119 1 none (some (.int .i64 (IntKind.wrap .i64 ((IntKind.wrap .i64 (Int.tdiv (IntKind.wrap .i64 (n30 + (3 : Int))) (4 : Int))) * (4 : Int))))) none) = (some v150)) ∧
 ∃ (v151 : Value), ((Go.CW.subSlice v119 1 (some (.int .i64 (IntKind.wrap .i64 ((IntKind.wrap .i64 (Int.tdiv (IntKind.wrap .i64 (n30 + (3 : Int))) (4 : Int))) * (4 : Int))))) (some (.int .i64 (IntKind.wrap .i64 ((IntKind.wrap .i64 ((IntKind.wrap .i64 (Int.tdiv (IntKind.wrap .i64 (n30 + (3 : Int))) (4 : Int))) * (4 : Int))) + (4 : Int))))) none) = (some v151)) ∧
 bindW (World.drew w35) fun w152 =>
 Go.CW.Spec Try.prog 19 #[v150] w152 fun v153 w154 =>
 Go.CW.Spec Try.prog 24 #[v153, v151] w154 fun v155 w156 =>
 ∃ (b157 : Bool), ((v155 : Value) = (.bool b157)) ∧
 cond (!b157)
 ((StRow w156 ⟨w.heap.size, 0, none⟩ #[(.int .i64 (0 : Int)), (.bool false), (.int .i64 (0 : Int)), (.int .i64 (0 : Int)), (.int .u32 (0 : Int)), (.int .u32 (0 : Int)), (.int .u32 (0 : Int)), (.int .u32 (0 : Int)), (.int .u32 (0 : Int)), (.int .u32 (0 : Int)), (.int .u8 (0 : Int)), (.int .u8 (0 : Int)), (.int .u8 (0 : Int)), (.int .u8 (0 : Int)), (.int .u8 (0 : Int)), (.int .u8 (0 : Int)), (.int .u8 (0 : Int)), (.int .u8 (0 : Int)), (.int .u8 (0 : Int)), (.int .u8 (0 : Int)), (.int .u8 (0 : Int)), (.int .u8 (0 : Int)), (.int .u8 (0 : Int)), (.int .u8 (0 : Int)), (.int .u8 (0 : Int)), (.int .u8 (0 : Int)), (.slice none 0 0)]) ∧
 bindW (stRow w156 ⟨w.heap.size, 0, none⟩ #[(.int .i64 (0 : Int)), (.bool false), (.int .i64 (0 : Int)), (.int .i64 (0 : Int)), (.int .u32 (0 : Int)), (.int .u32 (0 : Int)), (.int .u32 (0 : Int)), (.int .u32 (0 : Int)), (.int .u32 (0 : Int)), (.int .u32 (0 : Int)), (.int .u8 (0 : Int)), (.int .u8 (0 : Int)), (.int .u8 (0 : Int)), (.int .u8 (0 : Int)), (.int .u8 (0 : Int)), (.int .u8 (0 : Int)), (.int .u8 (0 : Int)), (.int .u8 (0 : Int)), (.int .u8 (0 : Int)), (.int .u8 (0 : Int)), (.int .u8 (0 : Int)), (.int .u8 (0 : Int)), (.int .u8 (0 : Int)), (.int .u8 (0 : Int)), (.int .u8 (0 : Int)), (.int .u8 (0 : Int)), (.slice none 0 0)]) fun w158 =>
 ∃ (n159 : Int) (b160 : Bool) (n161 : Int) (n162 : Int) (n163 : Int) (n164 : Int) (n165 : Int) (n166 : Int) (n167 : Int) (n168 : Int) (n169 : Int) (n170 : Int) (n171 : Int) (n172 : Int) (n173 : Int) (n174 : Int) (n175 : Int) (n176 : Int) (n177 : Int) (n178 : Int) (n179 : Int) (n180 : Int) (n181 : Int) (n182 : Int) (n183 : Int) (n184 : Int) (v185 : Value), (ldCells w158 ⟨w.heap.size, 0, none⟩ 27 #[(.int .i64 n159), (.bool b160), (.int .i64 n161), (.int .i64 n162), (.int .u32 n163), (.int .u32 n164), (.int .u32 n165), (.int .u32 n166), (.int .u32 n167), (.int .u32 n168), (.int .u8 n169), (.int .u8 n170), (.int .u8 n171), (.int .u8 n172), (.int .u8 n173), (.int .u8 n174), (.int .u8 n175), (.int .u8 n176), (.int .u8 n177), (.int .u8 n178), (.int .u8 n179), (.int .u8 n180), (.int .u8 n181), (.int .u8 n182), (.int .u8 n183), (.int .u8 n184), v185]) ∧
 R (.tuple #[(.agg #[(.int .i64 n159), (.bool b160), (.int .i64 n161), (.int .i64 n162), (.int .u32 n163), (.int .u32 n164), (.int .u32 n165), (.int .u32 n166), (.int .u32 n167), (.int .u32 n168), (.int .u8 n169), (.int .u8 n170), (.int .u8 n171), (.int .u8 n172), (.int .u8 n173), (.int .u8 n174), (.int .u8 n175), (.int .u8 n176), (.int .u8 n177), (.int .u8 n178), (.int .u8 n179), (.int .u8 n180), (.int .u8 n181), (.int .u8 n182), (.int .u8 n183), (.int .u8 n184), v185]), (.int .i64 (0 : Int)), (.int .i64 (4 : Int))]) w158)
 (∃ (v186 : Value), ((Go.CW.subSlice v119 1 (some (.int .i64 n30)) (some (.int .i64 (IntKind.wrap .i64 ((IntKind.wrap .i64 (Int.tdiv (IntKind.wrap .i64 (n30 + (3 : Int))) (4 : Int))) * (4 : Int))))) none) = (some v186)) ∧
 ∃ (m187 : Nat), ((Go.CW.sliceLen v186) = (some m187)) ∧
 LoopP [.int .i64]
 (fun j188 => fun (n189 : Int) => fun (w190 : World) =>
 cond (decide (n189 < ((m187 : Nat) : Int)))
 (∃ (a191 : Addr), ((Go.CW.sliceAt v186 n189 1) = (some a191)) ∧
 ∃ (n192 : Int), ((Go.World.cell? w190 a191) = (some (.int .u8 n192))) ∧
 cond (n192 != (0 : Int))
 ((StRow w190 ⟨w.heap.size, 0, none⟩ #[(.int .i64 (0 : Int)), (.bool false), (.int .i64 (0 : Int)), (.int .i64 (0 : Int)), (.int .u32 (0 : Int)), (.int .u32 (0 : Int)), (.int .u32 (0 : Int)), (.int .u32 (0 : Int)), (.int .u32 (0 : Int)), (.int .u32 (0 : Int)), (.int .u8 (0 : Int)), (.int .u8 (0 : Int)), (.int .u8 (0 : Int)), (.int .u8 (0 : Int)), (.int .u8 (0 : Int)), (.int .u8 (0 : Int)), (.int .u8 (0 : Int)), (.int .u8 (0 : Int)), (.int .u8 (0 : Int)), (.int .u8 (0 : Int)), (.int .u8 (0 : Int)), (.int .u8 (0 : Int)), (.int .u8 (0 : Int)), (.int .u8 (0 : Int)), (.int .u8 (0 : Int)), (.int .u8 (0 : Int)), (.slice none 0 0)]) ∧
 bindW (stRow w190 ⟨w.heap.size, 0, none⟩ #[(.int .i64 (0 : Int)), (.bool false), (.int .i64 (0 : Int)), (.int .i64 (0 : Int)), (.int .u32 (0 : Int)), (.int .u32 (0 : Int)), (.int .u32 (0 : Int)), (.int .u32 (0 : Int)), (.int .u32 (0 : Int)), (.int .u32 (0 : Int)), (.int .u8 (0 : Int)), (.int .u8 (0 : Int)), (.int .u8 (0 : Int)), (.int .u8 (0 : Int)), (.int .u8 (0 : Int)), (.int .u8 (0 : Int)), (.int .u8 (0 : Int)), (.int .u8 (0 : Int)), (.int .u8 (0 : Int)), (.int .u8 (0 : Int)), (.int .u8 (0 : Int)), (.int .u8 (0 : Int)), (.int .u8 (0 : Int)), (.int .u8 (0 : Int)), (.int .u8 (0 : Int)), (.int .u8 (0 : Int)), (.slice none 0 0)]) fun w193 =>
 ∃ (n194 : Int) (b195 : Bool) (n196 : Int) (n197 : Int) (n198 : Int) (n199 : Int) (n200 : Int) (n201 : Int) (n202 : Int) (n203 : Int) (n204 : Int) (n205 : Int) (n206 : Int) (n207 : Int) (n208 : Int) (n209 : Int) (n210 : Int) (n211 : Int) (n212 : Int) (n213 : Int) (n214 : Int) (n215 : Int) (n216 : Int) (n217 : Int) (n218 : Int) (n219 : Int) (v220 : Value), (ldCells w193 ⟨w.heap.size, 0, none⟩ 27 #[(.int .i64 n194), (.bool b195), (.int .i64 n196), (.int .i64 n197), (.int .u32 n198), (.int .u32 n199), (.int .u32 n200), (.int .u32 n201), (.int .u32 n202), (.int .u32 n203), (.int .u8 n204), (.int .u8 n205), (.int .u8 n206), (.int .u8 n207), (.int .u8 n208), (.int .u8 n209), (.int .u8 n210), (.int .u8 n211), (.int .u8 n212), (.int .u8 n213), (.int .u8 n214), (.int .u8 n215), (.int .u8 n216), (.int .u8 n217), (.int .u8 n218), (.int .u8 n219), v220]) ∧
 R (.tuple #[(.agg #[(.int .i64 n194), (.bool b195), (.int .i64 n196), (.int .i64 n197), (.int .u32 n198), (.int .u32 n199), (.int .u32 n200), (.int .u32 n201), (.int .u32 n202), (.int .u32 n203), (.int .u8 n204), (.int .u8 n205), (.int .u8 n206), (.int .u8 n207), (.int .u8 n208), (.int .u8 n209), (.int .u8 n210), (.int .u8 n211), (.int .u8 n212), (.int .u8 n213), (.int .u8 n214), (.int .u8 n215), (.int .u8 n216), (.int .u8 n217), (.int .u8 n218), (.int .u8 n219), v220]), (.int .i64 (0 : Int)), (.int .i64 (2 : Int))]) w193)
 (j188 (IntKind.wrap .i64 (n189 + (1 : Int))) w190))
 (∃ (v221 : Value), ((Go.CW.subSlice v119 1 none (some (.int .i64 n30)) none) = (some v221)) ∧
 Go.CW.Spec Try.prog 25 #[v221] w190 fun v222 w223 =>
 Go.CW.Spec Try.prog 22 #[v222] w223 fun v224 w225 =>
 oneK v224 ((St1 w225 (Addr.add ⟨w2.heap.size, 0, none⟩ 26)) ∧
 bindW (World.setCell w225 (Addr.add ⟨w2.heap.size, 0, none⟩ 26) v224) fun w226 =>
 ∃ (n227 : Int) (b228 : Bool) (n229 : Int) (n230 : Int) (n231 : Int) (n232 : Int) (n233 : Int) (n234 : Int) (n235 : Int) (n236 : Int) (n237 : Int) (n238 : Int) (n239 : Int) (n240 : Int) (n241 : Int) (n242 : Int) (n243 : Int) (n244 : Int) (n245 : Int) (n246 : Int) (n247 : Int) (n248 : Int) (n249 : Int) (n250 : Int) (n251 : Int) (n252 : Int) (v253 : Value), (ldCells w226 ⟨w2.heap.size, 0, none⟩ 27 #[(.int .i64 n227), (.bool b228), (.int .i64 n229), (.int .i64 n230), (.int .u32 n231), (.int .u32 n232), (.int .u32 n233), (.int .u32 n234), (.int .u32 n235), (.int .u32 n236), (.int .u8 n237), (.int .u8 n238), (.int .u8 n239), (.int .u8 n240), (.int .u8 n241), (.int .u8 n242), (.int .u8 n243), (.int .u8 n244), (.int .u8 n245), (.int .u8 n246), (.int .u8 n247), (.int .u8 n248), (.int .u8 n249), (.int .u8 n250), (.int .u8 n251), (.int .u8 n252), v253]) ∧
 (StRow w226 ⟨w.heap.size, 0, none⟩ #[(.int .i64 n227), (.bool b228), (.int .i64 n229), (.int .i64 n230), (.int .u32 n231), (.int .u32 n232), (.int .u32 n233), (.int .u32 n234), (.int .u32 n235), (.int .u32 n236), (.int .u8 n237), (.int .u8 n238), (.int .u8 n239), (.int .u8 n240), (.int .u8 n241), (.int .u8 n242), (.int .u8 n243), (.int .u8 n244), (.int .u8 n245), (.int .u8 n246), (.int .u8 n247), (.int .u8 n248), (.int .u8 n249), (.int .u8 n250), (.int .u8 n251), (.int .u8 n252), v253]) ∧
 bindW (stRow w226 ⟨w.heap.size, 0, none⟩ #[(.int .i64 n227), (.bool b228), (.int .i64 n229), (.int .i64 n230), (.int .u32 n231), (.int .u32 n232), (.int .u32 n233), (.int .u32 n234), (.int .u32 n235), (.int .u32 n236), (.int .u8 n237), (.int .u8 n238), (.int .u8 n239), (.int .u8 n240), (.int .u8 n241), (.int .u8 n242), (.int .u8 n243), (.int .u8 n244), (.int .u8 n245), (.int .u8 n246), (.int .u8 n247), (.int .u8 n248), (.int .u8 n249), (.int .u8 n250), (.int .u8 n251), (.int .u8 n252), v253]) fun w254 =>
 ∃ (n255 : Int) (b256 : Bool) (n257 : Int) (n258 : Int) (n259 : Int) (n260 : Int) (n261 : Int) (n262 : Int) (n263 : Int) (n264 : Int) (n265 : Int) (n266 : Int) (n267 : Int) (n268 : Int) (n269 : Int) (n270 : Int) (n271 : Int) (n272 : Int) (n273 : Int) (n274 : Int) (n275 : Int) (n276 : Int) (n277 : Int) (n278 : Int) (n279 : Int) (n280 : Int) (v281 : Value), (ldCells w254 ⟨w.heap.size, 0, none⟩ 27 #[(.int .i64 n255), (.bool b256), (.int .i64 n257), (.int .i64 n258), (.int .u32 n259), (.int .u32 n260), (.int .u32 n261), (.int .u32 n262), (.int .u32 n263), (.int .u32 n264), (.int .u8 n265), (.int .u8 n266), (.int .u8 n267), (.int .u8 n268), (.int .u8 n269), (.int .u8 n270), (.int .u8 n271), (.int .u8 n272), (.int .u8 n273), (.int .u8 n274), (.int .u8 n275), (.int .u8 n276), (.int .u8 n277), (.int .u8 n278), (.int .u8 n279), (.int .u8 n280), v281]) ∧
 R (.tuple #[(.agg #[(.int .i64 n255), (.bool b256), (.int .i64 n257), (.int .i64 n258), (.int .u32 n259), (.int .u32 n260), (.int .u32 n261), (.int .u32 n262), (.int .u32 n263), (.int .u32 n264), (.int .u8 n265), (.int .u8 n266), (.int .u8 n267), (.int .u8 n268), (.int .u8 n269), (.int .u8 n270), (.int .u8 n271), (.int .u8 n272), (.int .u8 n273), (.int .u8 n274), (.int .u8 n275), (.int .u8 n276), (.int .u8 n277), (.int .u8 n278), (.int .u8 n279), (.int .u8 n280), v281]), (.int .i64 (IntKind.wrap .i64 ((IntKind.wrap .i64 ((52 : Int) + (IntKind.wrap .i64 ((IntKind.wrap .i64 (Int.tdiv (IntKind.wrap .i64 (n30 + (3 : Int))) (4 : Int))) * (4 : Int))))) + (4 : Int)))), (.int .i64 (0 : Int))]) w254)))
 (fun s282 => s282 (0 : Int) w156)))))
 (fun j283 =>
 cond (n31 != (0 : Int))
 (j283 true w33)
 (j283 (n30 == (0 : Int)) w33))

theorem pdu_Decode_wp (p0 : Value) (w : World) (R : KV) (h : pdu_Decode_F p0 w R) : Go.CW.Spec Try.prog 7 #[p0] w R :=
  spec_of Try.func7 (by kernel_rfl) (show pdu_Decode_F p0 w R = _ by kernel_rfl) h

/-- gemel/gemellaw7.Same -/
def gemellaw7_Same_F (p0_0 : Int) (p0_1 : Bool) (p0_2 : Int) (p0_3 : Int) (p0_4 : Int) (p0_5 : Int) (p0_6 : Int) (p0_7 : Int) (p0_8 : Int) (p0_9 : Int) (p0_10 : Int) (p0_11 : Int) (p0_12 : Int) (p0_13 : Int) (p0_14 : Int) (p0_15 : Int) (p0_16 : Int) (p0_17 : Int) (p0_18 : Int) (p0_19 : Int) (p0_20 : Int) (p0_21 : Int) (p0_22 : Int) (p0_23 : Int) (p0_24 : Int) (p0_25 : Int) (p0_26 : Value) (p1_0 : Int) (p1_1 : Bool) (p1_2 : Int) (p1_3 : Int) (p1_4 : Int) (p1_5 : Int) (p1_6 : Int) (p1_7 : Int) (p1_8 : Int) (p1_9 : Int) (p1_10 : Int) (p1_11 : Int) (p1_12 : Int) (p1_13 : Int) (p1_14 : Int) (p1_15 : Int) (p1_16 : Int) (p1_17 : Int) (p1_18 : Int) (p1_19 : Int) (p1_20 : Int) (p1_21 : Int) (p1_22 : Int) (p1_23 : Int) (p1_24 : Int) (p1_25 : Int) (p1_26 : Value) (w : World) (R : KV) : Prop :=
 bindW (World.alloc w (.cells #[(.int .i64 p0_0), (.bool p0_1), (.int .i64 p0_2), (.int .i64 p0_3), (.int .u32 p0_4), (.int .u32 p0_5), (.int .u32 p0_6), (.int .u32 p0_7), (.int .u32 p0_8), (.int .u32 p0_9), (.int .u8 p0_10), (.int .u8 p0_11), (.int .u8 p0_12), (.int .u8 p0_13), (.int .u8 p0_14), (.int .u8 p0_15), (.int .u8 p0_16), (.int .u8 p0_17), (.int .u8 p0_18), (.int .u8 p0_19), (.int .u8 p0_20), (.int .u8 p0_21), (.int .u8 p0_22), (.int .u8 p0_23), (.int .u8 p0_24), (.int .u8 p0_25), p0_26] 26)) fun w0 =>
 bindW (World.alloc w0 (.cells #[(.int .i64 p1_0), (.bool p1_1), (.int .i64 p1_2), (.int .i64 p1_3), (.int .u32 p1_4), (.int .u32 p1_5), (.int .u32 p1_6), (.int .u32 p1_7), (.int .u32 p1_8), (.int .u32 p1_9), (.int .u8 p1_10), (.int .u8 p1_11), (.int .u8 p1_12), (.int .u8 p1_13), (.int .u8 p1_14), (.int .u8 p1_15), (.int .u8 p1_16), (.int .u8 p1_17), (.int .u8 p1_18), (.int .u8 p1_19), (.int .u8 p1_20), (.int .u8 p1_21), (.int .u8 p1_22), (.int .u8 p1_23), (.int .u8 p1_24), (.int .u8 p1_25), p1_26] 35)) fun w1 =>
 JoinP [.bool]
 (fun (b2 : Bool) => fun (w3 : World) =>
 R (.bool b2) w3)
 (fun j4 =>
 ∃ (n5 : Int), ((Go.World.cell? w1 (Addr.add ⟨w.heap.size, 0, none⟩ 0)) = (some (.int .i64 n5))) ∧
 ∃ (n6 : Int), ((Go.World.cell? w1 (Addr.add ⟨w0.heap.size, 0, none⟩ 0)) = (some (.int .i64 n6))) ∧
 cond (n5 == n6)
 (∃ (b7 : Bool), ((Go.World.cell? w1 (Addr.add ⟨w.heap.size, 0, none⟩ 1)) = (some (.bool b7))) ∧
 ∃ (b8 : Bool), ((Go.World.cell? w1 (Addr.add ⟨w0.heap.size, 0, none⟩ 1)) = (some (.bool b8))) ∧
 cond (b7 == b8)
 (∃ (n9 : Int), ((Go.World.cell? w1 (Addr.add ⟨w.heap.size, 0, none⟩ 2)) = (some (.int .i64 n9))) ∧
 ∃ (n10 : Int), ((Go.World.cell? w1 (Addr.add ⟨w0.heap.size, 0, none⟩ 2)) = (some (.int .i64 n10))) ∧
 cond (n9 == n10)
 (∃ (n11 : Int), ((Go.World.cell? w1 (Addr.add ⟨w.heap.size, 0, none⟩ 3)) = (some (.int .i64 n11))) ∧
 ∃ (n12 : Int), ((Go.World.cell? w1 (Addr.add ⟨w0.heap.size, 0, none⟩ 3)) = (some (.int .i64 n12))) ∧
 cond (n11 == n12)
 (∃ (n13 : Int), ((Go.World.cell? w1 (Addr.add ⟨w.heap.size, 0, none⟩ 4)) = (some (.int .u32 n13))) ∧
 ∃ (n14 : Int), ((Go.World.cell? w1 (Addr.add ⟨w0.heap.size, 0, none⟩ 4)) = (some (.int .u32 n14))) ∧
 cond (n13 == n14)
 (∃ (n15 : Int), ((Go.World.cell? w1 (Addr.add ⟨w.heap.size, 0, none⟩ 5)) = (some (.int .u32 n15))) ∧
 ∃ (n16 : Int), ((Go.World.cell? w1 (Addr.add ⟨w0.heap.size, 0, none⟩ 5)) = (some (.int .u32 n16))) ∧
 cond (n15 == n16)
 (∃ (n17 : Int), ((Go.World.cell? w1 (Addr.add ⟨w.heap.size, 0, none⟩ 6)) = (some (.int .u32 n17))) ∧
 ∃ (n18 : Int), ((Go.World.cell? w1 (Addr.add ⟨w0.heap.size, 0, none⟩ 6)) = (some (.int .u32 n18))) ∧
 cond (n17 == n18)
 (∃ (n19 : Int), ((Go.World.cell? w1 (Addr.add ⟨w.heap.size, 0, none⟩ 7)) = (some (.int .u32 n19))) ∧
 ∃ (n20 : Int), ((Go.World.cell? w1 (Addr.add ⟨w0.heap.size, 0, none⟩ 7)) = (some (.int .u32 n20))) ∧
 cond (n19 == n20)
 (∃ (n21 : Int), ((Go.World.cell? w1 (Addr.add ⟨w.heap.size, 0, none⟩ 8)) = (some (.int .u32 n21))) ∧
 ∃ (n22 : Int), ((Go.World.cell? w1 (Addr.add ⟨w0.heap.size, 0, none⟩ 8)) = (some (.int .u32 n22))) ∧
 cond (n21 == n22)
 (∃ (n23 : Int), ((Go.World.cell? w1 (Addr.add ⟨w.heap.size, 0, none⟩ 9)) = (some (.int .u32 n23))) ∧
 ∃ (n24 : Int), ((Go.World.cell? w1 (Addr.add ⟨w0.heap.size, 0, none⟩ 9)) = (some (.int .u32 n24))) ∧
 cond (n23 == n24)
 (∃ (n25 : Int) (n26 : Int) (n27 : Int) (n28 : Int) (n29 : Int) (n30 : Int) (n31 : Int) (n32 : Int) (n33 : Int) (n34 : Int) (n35 : Int) (n36 : Int) (n37 : Int) (n38 : Int) (n39 : Int) (n40 : Int), (ldCells w1 (Addr.add ⟨w.heap.size, 0, none⟩ 10) 16 #[(.int .u8 n25), (.int .u8 n26), (.int .u8 n27), (.int .u8 n28), (.int .u8 n29), (.int .u8 n30), (.int .u8 n31), (.int .u8 n32), (.int .u8 n33), (.int .u8 n34), (.int .u8 n35), (.int .u8 n36), (.int .u8 n37), (.int .u8 n38), (.int .u8 n39), (.int .u8 n40)]) ∧
 ∃ (n41 : Int) (n42 : Int) (n43 : Int) (n44 : Int) (n45 : Int) (n46 : Int) (n47 : Int) (n48 : Int) (n49 : Int) (n50 : Int) (n51 : Int) (n52 : Int) (n53 : Int) (n54 : Int) (n55 : Int) (n56 : Int), (ldCells w1 (Addr.add ⟨w0.heap.size, 0, none⟩ 10) 16 #[(.int .u8 n41), (.int .u8 n42), (.int .u8 n43), (.int .u8 n44), (.int .u8 n45), (.int .u8 n46), (.int .u8 n47), (.int .u8 n48), (.int .u8 n49), (.int .u8 n50), (.int .u8 n51), (.int .u8 n52), (.int .u8 n53), (.int .u8 n54), (.int .u8 n55), (.int .u8 n56)]) ∧
 ∃ (b57 : Bool), ((Sem.run @Go.Proofs.Try.prog (Go.binOp Go.BinOp.eql 23 (.agg #[(.int .u8 n25), (.int .u8 n26), (.int .u8 n27), (.int .u8 n28), (.int .u8 n29), (.int .u8 n30), (.int .u8 n31), (.int .u8 n32), (.int .u8 n33), (.int .u8 n34), (.int .u8 n35), (.int .u8 n36), (.int .u8 n37), (.int .u8 n38), (.int .u8 n39), (.int .u8 n40)]) (.agg #[(.int .u8 n41), (.int .u8 n42), (.int .u8 n43), (.int .u8 n44), (.int .u8 n45), (.int .u8 n46), (.int .u8 n47), (.int .u8 n48), (.int .u8 n49), (.int .u8 n50), (.int .u8 n51), (.int .u8 n52), (.int .u8 n53), (.int .u8 n54), (.int .u8 n55), (.int .u8 n56)])) w1) = (.ok (.bool b57) w1)) ∧
 (∀ (a58 : @Go.Operand), ∀ (b59 : @Go.Operand), (Sem.run @Go.Proofs.Try.prog (Go.eqGuard Go.BinOp.eql 23 a58 b59 (.agg #[(.int .u8 n25), (.int .u8 n26), (.int .u8 n27), (.int .u8 n28), (.int .u8 n29), (.int .u8 n30), (.int .u8 n31), (.int .u8 n32), (.int .u8 n33), (.int .u8 n34), (.int .u8 n35), (.int .u8 n36), (.int .u8 n37), (.int .u8 n38), (.int .u8 n39), (.int .u8 n40)]) (.agg #[(.int .u8 n41), (.int .u8 n42), (.int .u8 n43), (.int .u8 n44), (.int .u8 n45), (.int .u8 n46), (.int .u8 n47), (.int .u8 n48), (.int .u8 n49), (.int .u8 n50), (.int .u8 n51), (.int .u8 n52), (.int .u8 n53), (.int .u8 n54), (.int .u8 n55), (.int .u8 n56)])) w1) = (.ok PUnit.unit w1)) ∧
 cond b57
 (∃ (v60 : Value), ((Go.World.cell? w1 (Addr.add ⟨w.heap.size, 0, none⟩ 26)) = (some v60)) ∧
 ∃ (s61 : ByteArray), ((Sem.run @Go.Proofs.Try.prog (Go.convert 24 9 v60) w1) = (.ok (.string s61) w1)) ∧
 ∃ (v62 : Value), ((Go.World.cell? w1 (Addr.add ⟨w0.heap.size, 0, none⟩ 26)) = (some v62)) ∧
 ∃ (s63 : ByteArray), ((Sem.run @Go.Proofs.Try.prog (Go.convert 24 9 v62) w1) = (.ok (.string s63) w1)) ∧
 j4 (ByteArray.toList s61 == ByteArray.toList s63) w1)
 (j4 false w1))
 (j4 false w1))
 (j4 false w1))
 (j4 false w1))
 (j4 false w1))
 (j4 false w1))
 (j4 false w1))
 (j4 false w1))
 (j4 false w1))
 (j4 false w1))
 (j4 false w1))

theorem gemellaw7_Same_wp (p0_0 : Int) (p0_1 : Bool) (p0_2 : Int) (p0_3 : Int) (p0_4 : Int) (p0_5 : Int) (p0_6 : Int) (p0_7 : Int) (p0_8 : Int) (p0_9 : Int) (p0_10 : Int) (p0_11 : Int) (p0_12 : Int) (p0_13 : Int) (p0_14 : Int) (p0_15 : Int) (p0_16 : Int) (p0_17 : Int) (p0_18 : Int) (p0_19 : Int) (p0_20 : Int) (p0_21 : Int) (p0_22 : Int) (p0_23 : Int) (p0_24 : Int) (p0_25 : Int) (p0_26 : Value) (p1_0 : Int) (p1_1 : Bool) (p1_2 : Int) (p1_3 : Int) (p1_4 : Int) (p1_5 : Int) (p1_6 : Int) (p1_7 : Int) (p1_8 : Int) (p1_9 : Int) (p1_10 : Int) (p1_11 : Int) (p1_12 : Int) (p1_13 : Int) (p1_14 : Int) (p1_15 : Int) (p1_16 : Int) (p1_17 : Int) (p1_18 : Int) (p1_19 : Int) (p1_20 : Int) (p1_21 : Int) (p1_22 : Int) (p1_23 : Int) (p1_24 : Int) (p1_25 : Int) (p1_26 : Value) (w : World) (R : KV) (h : gemellaw7_Same_F p0_0 p0_1 p0_2 p0_3 p0_4 p0_5 p0_6 p0_7 p0_8 p0_9 p0_10 p0_11 p0_12 p0_13 p0_14 p0_15 p0_16 p0_17 p0_18 p0_19 p0_20 p0_21 p0_22 p0_23 p0_24 p0_25 p0_26 p1_0 p1_1 p1_2 p1_3 p1_4 p1_5 p1_6 p1_7 p1_8 p1_9 p1_10 p1_11 p1_12 p1_13 p1_14 p1_15 p1_16 p1_17 p1_18 p1_19 p1_20 p1_21 p1_22 p1_23 p1_24 p1_25 p1_26 w R) : Go.CW.Spec Try.prog 8 #[(.agg #[(.int .i64 p0_0), (.bool p0_1), (.int .i64 p0_2), (.int .i64 p0_3), (.int .u32 p0_4), (.int .u32 p0_5), (.int .u32 p0_6), (.int .u32 p0_7), (.int .u32 p0_8), (.int .u32 p0_9), (.int .u8 p0_10), (.int .u8 p0_11), (.int .u8 p0_12), (.int .u8 p0_13), (.int .u8 p0_14), (.int .u8 p0_15), (.int .u8 p0_16), (.int .u8 p0_17), (.int .u8 p0_18), (.int .u8 p0_19), (.int .u8 p0_20), (.int .u8 p0_21), (.int .u8 p0_22), (.int .u8 p0_23), (.int .u8 p0_24), (.int .u8 p0_25), p0_26]), (.agg #[(.int .i64 p1_0), (.bool p1_1), (.int .i64 p1_2), (.int .i64 p1_3), (.int .u32 p1_4), (.int .u32 p1_5), (.int .u32 p1_6), (.int .u32 p1_7), (.int .u32 p1_8), (.int .u32 p1_9), (.int .u8 p1_10), (.int .u8 p1_11), (.int .u8 p1_12), (.int .u8 p1_13), (.int .u8 p1_14), (.int .u8 p1_15), (.int .u8 p1_16), (.int .u8 p1_17), (.int .u8 p1_18), (.int .u8 p1_19), (.int .u8 p1_20), (.int .u8 p1_21), (.int .u8 p1_22), (.int .u8 p1_23), (.int .u8 p1_24), (.int .u8 p1_25), p1_26])] w R :=
  spec_of Try.func8 (by kernel_rfl) (show gemellaw7_Same_F p0_0 p0_1 p0_2 p0_3 p0_4 p0_5 p0_6 p0_7 p0_8 p0_9 p0_10 p0_11 p0_12 p0_13 p0_14 p0_15 p0_16 p0_17 p0_18 p0_19 p0_20 p0_21 p0_22 p0_23 p0_24 p0_25 p0_26 p1_0 p1_1 p1_2 p1_3 p1_4 p1_5 p1_6 p1_7 p1_8 p1_9 p1_10 p1_11 p1_12 p1_13 p1_14 p1_15 p1_16 p1_17 p1_18 p1_19 p1_20 p1_21 p1_22 p1_23 p1_24 p1_25 p1_26 w R = _ by kernel_rfl) h

/-- gemel/gemelref7.Encode -/
def gemelref7_Encode_F (p0_0 : Int) (p0_1 : Bool) (p0_2 : Int) (p0_3 : Int) (p0_4 : Int) (p0_5 : Int) (p0_6 : Int) (p0_7 : Int) (p0_8 : Int) (p0_9 : Int) (p0_10 : Int) (p0_11 : Int) (p0_12 : Int) (p0_13 : Int) (p0_14 : Int) (p0_15 : Int) (p0_16 : Int) (p0_17 : Int) (p0_18 : Int) (p0_19 : Int) (p0_20 : Int) (p0_21 : Int) (p0_22 : Int) (p0_23 : Int) (p0_24 : Int) (p0_25 : Int) (p0_26 : Value) (w : World) (R : KV) : Prop :=
 bindW (World.alloc w (.cells #[(.int .i64 p0_0), (.bool p0_1), (.int .i64 p0_2), (.int .i64 p0_3), (.int .u32 p0_4), (.int .u32 p0_5), (.int .u32 p0_6), (.int .u32 p0_7), (.int .u32 p0_8), (.int .u32 p0_9), (.int .u8 p0_10), (.int .u8 p0_11), (.int .u8 p0_12), (.int .u8 p0_13), (.int .u8 p0_14), (.int .u8 p0_15), (.int .u8 p0_16), (.int .u8 p0_17), (.int .u8 p0_18), (.int .u8 p0_19), (.int .u8 p0_20), (.int .u8 p0_21), (.int .u8 p0_22), (.int .u8 p0_23), (.int .u8 p0_24), (.int .u8 p0_25), p0_26] 35)) fun w0 =>
 JoinP [.bool]
 (fun (b1 : Bool) => fun (w2 : World) =>
 cond b1
 (R (.tuple #[(.slice none 0 0), (.int .i64 (1 : Int))]) w2)
 (∃ (v3 : Value), ((Go.World.cell? w2 (Addr.add ⟨w.heap.size, 0, none⟩ 26)) = (some v3)) ∧
 ∃ (m4 : Nat), ((Go.CW.sliceLen v3) = (some m4)) ∧
 cond (decide (((m4 : Nat) : Int) > (4096 : Int)))
 (R (.tuple #[(.slice none 0 0), (.int .i64 (5 : Int))]) w2)
 (∃ (n5 : Int), ((Go.World.cell? w2 (Addr.add ⟨w.heap.size, 0, none⟩ 2)) = (some (.int .i64 n5))) ∧
 JoinP [.int .u8]
 (fun (n6 : Int) => fun (w7 : World) =>
 ∃ (n8 : Int), ((Go.World.cell? w7 (Addr.add ⟨w.heap.size, 0, none⟩ 0)) = (some (.int .i64 n8))) ∧
 ∃ (n9 : Int), ((Go.World.cell? w7 (Addr.add ⟨w.heap.size, 0, none⟩ 3)) = (some (.int .i64 n9))) ∧
 bindW (World.alloc w7 (.cells #[(.int .u8 (IntKind.wrap .u8 n8)), (.int .u8 n6), (.int .u8 (IntKind.wrap .u8 n9)), (.int .u8 (0 : Int))] 5)) fun w10 =>
 ∃ (v11 : Value), ((Go.World.cell? w10 (Addr.add ⟨w.heap.size, 0, none⟩ 26)) = (some v11)) ∧
 ∃ (m12 : Nat), ((Go.CW.sliceLen v11) = (some m12)) ∧
 Go.CW.Spec Try.prog 27 #[(.slice (some ⟨w7.heap.size, 0, none⟩) 4 4), (.int .u64 (IntKind.wrap .u64 ((m12 : Nat) : Int))), (.int .i64 (4 : Int))] w10 fun v13 w14 =>
 ∃ (n15 : Int), ((Go.World.cell? w14 (Addr.add ⟨w.heap.size, 0, none⟩ 4)) = (some (.int .u32 n15))) ∧
 ∃ (n16 : Int), ((Go.World.cell? w14 (Addr.add ⟨w.heap.size, 0, none⟩ 5)) = (some (.int .u32 n16))) ∧
 ∃ (n17 : Int), ((Go.World.cell? w14 (Addr.add ⟨w.heap.size, 0, none⟩ 6)) = (some (.int .u32 n17))) ∧
 ∃ (n18 : Int), ((Go.World.cell? w14 (Addr.add ⟨w.heap.size, 0, none⟩ 7)) = (some (.int .u32 n18))) ∧
 ∃ (n19 : Int), ((Go.World.cell? w14 (Addr.add ⟨w.heap.size, 0, none⟩ 8)) = (some (.int .u32 n19))) ∧
 ∃ (n20 : Int), ((Go.World.cell? w14 (Addr.add ⟨w.heap.size, 0, none⟩ 9)) = (some (.int .u32 n20))) ∧
 bindW (World.alloc w14 (.cells #[(.int .u32 n15), (.int .u32 n16), (.int .u32 n17), (.int .u32 n18), (.int .u32 n19), (.int .u32 n20)] 22)) fun w21 =>
 LoopP [.val, .int .i64]
 (fun j22 => fun (v23 : Value) => fun (n24 : Int) => fun (w25 : World) =>
 cond (decide (n24 < (6 : Int)))
 (∃ (a26 : Addr), ((Go.CW.sliceAt (.slice (some ⟨w14.heap.size, 0, none⟩) 6 6) n24 1) = (some a26)) ∧
 ∃ (n27 : Int), ((Go.World.cell? w25 a26) = (some (.int .u32 n27))) ∧
 Go.CW.Spec Try.prog 27 #[v23, (.int .u64 (IntKind.wrap .u64 n27)), (.int .i64 (4 : Int))] w25 fun v28 w29 =>
 j22 v28 (IntKind.wrap .i64 (n24 + (1 : Int))) w29)
 (∃ (v30 : Value) (w31 : World), ((Sem.run @Go.Proofs.Try.prog (Go.Builtin.append_ #[24, 24] 24 #[v23, (.slice (some (Addr.add ⟨w.heap.size, 0, none⟩ 10)) 16 16)]) w25) = (.ok v30 w31)) ∧
 Go.CW.Spec Try.prog 12 #[v30] w31 fun v32 w33 =>
 ∃ (n34 : Int), ((v32 : Value) = (.int .u32 n34)) ∧
 Go.CW.Spec Try.prog 11 #[(.int .u32 n34)] w33 fun v35 w36 =>
 ∃ (v37 : Value) (w38 : World), ((Sem.run @Go.Proofs.Try.prog (Go.Builtin.append_ #[24, 24] 24 #[v30, v35]) w36) = (.ok v37 w38)) ∧
 JoinP [.val]
 (fun (v39 : Value) => fun (w40 : World) =>
 R (.tuple #[v39, (.int .i64 (0 : Int))]) w40)
 (fun j41 =>
 ∃ (v42 : Value), ((Go.World.cell? w38 (Addr.add ⟨w.heap.size, 0, none⟩ 26)) = (some v42)) ∧
 ∃ (m43 : Nat), ((Go.CW.sliceLen v42) = (some m43)) ∧
 cond (decide (((m43 : Nat) : Int) > (0 : Int)))
 (bindW (World.alloc w38 (.cells #[] 5)) fun w44 =>
 ∃ (v45 : Value), ((Go.World.cell? w44 (Addr.add ⟨w.heap.size, 0, none⟩ 26)) = (some v45)) ∧
 ∃ (v46 : Value) (w47 : World), ((Sem.run @Go.Proofs.Try.prog (Go.Builtin.append_ #[24, 24] 24 #[(.slice (some ⟨w38.heap.size, 0, none⟩) 0 0), v45]) w44) = (.ok v46 w47)) ∧
 Go.CW.Spec Try.prog 28 #[v46, (.int .i64 (4 : Int))] w47 fun v48 w49 =>
 ∃ (v50 : Value) (w51 : World), ((Sem.run @Go.Proofs.Try.prog (Go.Builtin.append_ #[24, 24] 24 #[v37, v48]) w49) = (.ok v50 w51)) ∧
 Go.CW.Spec Try.prog 12 #[v48] w51 fun v52 w53 =>
 ∃ (n54 : Int), ((v52 : Value) = (.int .u32 n54)) ∧
 Go.CW.Spec Try.prog 11 #[(.int .u32 n54)] w53 fun v55 w56 =>
 ∃ (v57 : Value) (w58 : World), ((Sem.run @Go.Proofs.Try.prog (Go.Builtin.append_ #[24, 24] 24 #[v50, v55]) w56) = (.ok v57 w58)) ∧
 j41 v57 w58)
 (j41 v37 w38))))
 (fun s59 => s59 v13 (0 : Int) w21))
 (fun j60 =>
 ∃ (b61 : Bool), ((Go.World.cell? w2 (Addr.add ⟨w.heap.size, 0, none⟩ 1)) = (some (.bool b61))) ∧
 cond b61
 (j60 (bitsI .or .u8 (IntKind.wrap .u8 n5) (128 : Int)) w2)
 (j60 (IntKind.wrap .u8 n5) w2)))))
 (fun j62 =>
 ∃ (n63 : Int), ((Go.World.cell? w0 (Addr.add ⟨w.heap.size, 0, none⟩ 0)) = (some (.int .i64 n63))) ∧
 Go.CW.Spec Try.prog 26 #[(.int .i64 n63)] w0 fun v64 w65 =>
 ∃ (b66 : Bool), ((v64 : Value) = (.bool b66)) ∧
 cond (!b66)
 (j62 true w65)
 (∃ (n67 : Int), ((Go.World.cell? w65 (Addr.add ⟨w.heap.size, 0, none⟩ 2)) = (some (.int .i64 n67))) ∧
 cond (decide (n67 < (0 : Int)))
 (j62 true w65)
 (∃ (n68 : Int), ((Go.World.cell? w65 (Addr.add ⟨w.heap.size, 0, none⟩ 2)) = (some (.int .i64 n68))) ∧
 cond (decide (n68 > (127 : Int)))
 (j62 true w65)
 (∃ (n69 : Int), ((Go.World.cell? w65 (Addr.add ⟨w.heap.size, 0, none⟩ 3)) = (some (.int .i64 n69))) ∧
 cond (decide (n69 < (0 : Int)))
 (j62 true w65)
 (∃ (n70 : Int), ((Go.World.cell? w65 (Addr.add ⟨w.heap.size, 0, none⟩ 3)) = (some (.int .i64 n70))) ∧
 j62 (decide (n70 > (255 : Int))) w65)))))

theorem gemelref7_Encode_wp (p0_0 : Int) (p0_1 : Bool) (p0_2 : Int) (p0_3 : Int) (p0_4 : Int) (p0_5 : Int) (p0_6 : Int) (p0_7 : Int) (p0_8 : Int) (p0_9 : Int) (p0_10 : Int) (p0_11 : Int) (p0_12 : Int) (p0_13 : Int) (p0_14 : Int) (p0_15 : Int) (p0_16 : Int) (p0_17 : Int) (p0_18 : Int) (p0_19 : Int) (p0_20 : Int) (p0_21 : Int) (p0_22 : Int) (p0_23 : Int) (p0_24 : Int) (p0_25 : Int) (p0_26 : Value) (w : World) (R : KV) (h : gemelref7_Encode_F p0_0 p0_1 p0_2 p0_3 p0_4 p0_5 p0_6 p0_7 p0_8 p0_9 p0_10 p0_11 p0_12 p0_13 p0_14 p0_15 p0_16 p0_17 p0_18 p0_19 p0_20 p0_21 p0_22 p0_23 p0_24 p0_25 p0_26 w R) : Go.CW.Spec Try.prog 10 #[(.agg #[(.int .i64 p0_0), (.bool p0_1), (.int .i64 p0_2), (.int .i64 p0_3), (.int .u32 p0_4), (.int .u32 p0_5), (.int .u32 p0_6), (.int .u32 p0_7), (.int .u32 p0_8), (.int .u32 p0_9), (.int .u8 p0_10), (.int .u8 p0_11), (.int .u8 p0_12), (.int .u8 p0_13), (.int .u8 p0_14), (.int .u8 p0_15), (.int .u8 p0_16), (.int .u8 p0_17), (.int .u8 p0_18), (.int .u8 p0_19), (.int .u8 p0_20), (.int .u8 p0_21), (.int .u8 p0_22), (.int .u8 p0_23), (.int .u8 p0_24), (.int .u8 p0_25), p0_26])] w R :=
  spec_of Try.func10 (by kernel_rfl) (show gemelref7_Encode_F p0_0 p0_1 p0_2 p0_3 p0_4 p0_5 p0_6 p0_7 p0_8 p0_9 p0_10 p0_11 p0_12 p0_13 p0_14 p0_15 p0_16 p0_17 p0_18 p0_19 p0_20 p0_21 p0_22 p0_23 p0_24 p0_25 p0_26 w R = _ by kernel_rfl) h

/-- gemel/pdu.NewReader -/
def pdu_NewReader_F  (w : World) (R : KV) : Prop :=
 bindW (World.alloc w (.cells #[(.slice none 0 0), (.int .i64 (0 : Int))] 59)) fun w0 =>
 R (.pointer (some ⟨w.heap.size, 0, none⟩)) w0

theorem pdu_NewReader_wp  (w : World) (R : KV) (h : pdu_NewReader_F  w R) : Go.CW.Spec Try.prog 13 #[] w R :=
  spec_of Try.func13 (by kernel_rfl) (show pdu_NewReader_F  w R = _ by kernel_rfl) h

/-- (*gemel/pdu.Reader).Put -/
def pdu_Reader_Put_m_F (p0 : Option Addr) (p1 : Value) (w : World) (R : KV) : Prop :=
 withAddr (.pointer p0) fun a0 =>
 ∃ (n1 : Int), ((Go.World.cell? w (Addr.add a0 1)) = (some (.int .i64 n1))) ∧
 cond (n1 == (0 : Int))
 (withAddr (.pointer p0) fun a2 =>
 ∃ (v3 : Value), ((Go.World.cell? w (Addr.add a2 0)) = (some v3)) ∧
 ∃ (v4 : Value) (w5 : World), ((Sem.run @Go.Proofs.Try.prog (Go.Builtin.append_ #[24, 24] 24 #[v3, p1]) w) = (.ok v4 w5)) ∧
 withAddr (.pointer p0) fun a6 =>
 oneK v4 ((St1 w5 (Addr.add a6 0)) ∧
 bindW (World.setCell w5 (Addr.add a6 0) v4) fun w7 =>
 R (.tuple #[]) w7))
 (R (.tuple #[]) w)

theorem pdu_Reader_Put_m_wp (p0 : Option Addr) (p1 : Value) (w : World) (R : KV) (h : pdu_Reader_Put_m_F p0 p1 w R) : Go.CW.Spec Try.prog 14 #[(.pointer p0), p1] w R :=
  spec_of Try.func14 (by kernel_rfl) (show pdu_Reader_Put_m_F p0 p1 w R = _ by kernel_rfl) h

/-- (*gemel/pdu.Reader).Next -/
def pdu_Reader_Next_m_F (p0 : Option Addr) (w : World) (R : KV) : Prop :=
 bindW (World.alloc w (.cells #[(.int .i64 (0 : Int)), (.bool false), (.int .i64 (0 : Int)), (.int .i64 (0 : Int)), (.int .u32 (0 : Int)), (.int .u32 (0 : Int)), (.int .u32 (0 : Int)), (.int .u32 (0 : Int)), (.int .u32 (0 : Int)), (.int .u32 (0 : Int)), (.int .u8 (0 : Int)), (.int .u8 (0 : Int)), (.int .u8 (0 : Int)), (.int .u8 (0 : Int)), (.int .u8 (0 : Int)), (.int .u8 (0 : Int)), (.int .u8 (0 : Int)), (.int .u8 (0 : Int)), (.int .u8 (0 : Int)), (.int .u8 (0 : Int)), (.int .u8 (0 : Int)), (.int .u8 (0 : Int)), (.int .u8 (0 : Int)), (.int .u8 (0 : Int)), (.int .u8 (0 : Int)), (.int .u8 (0 : Int)), (.slice none 0 0)] 26)) fun w0 =>
 withAddr (.pointer p0) fun a1 =>
 ∃ (n2 : Int), ((Go.World.cell? w0 (Addr.add a1 1)) = (some (.int .i64 n2))) ∧
 cond (n2 != (0 : Int))
 ((StRow w0 ⟨w.heap.size, 0, none⟩ #[(.int .i64 (0 : Int)), (.bool false), (.int .i64 (0 : Int)), (.int .i64 (0 : Int)), (.int .u32 (0 : Int)), (.int .u32 (0 : Int)), (.int .u32 (0 : Int)), (.int .u32 (0 : Int)), (.int .u32 (0 : Int)), (.int .u32 (0 : Int)), (.int .u8 (0 : Int)), (.int .u8 (0 : Int)), (.int .u8 (0 : Int)), (.int .u8 (0 : Int)), (.int .u8 (0 : Int)), (.int .u8 (0 : Int)), (.int .u8 (0 : Int)), (.int .u8 (0 : Int)), (.int .u8 (0 : Int)), (.int .u8 (0 : Int)), (.int .u8 (0 : Int)), (.int .u8 (0 : Int)), (.int .u8 (0 : Int)), (.int .u8 (0 : Int)), (.int .u8 (0 : Int)), (.int .u8 (0 : Int)), (.slice none 0 0)]) ∧
 bindW (stRow w0 ⟨w.heap.size, 0, none⟩ #[(.int .i64 (0 : Int)), (.bool false), (.int .i64 (0 : Int)), (.int .i64 (0 : Int)), (.int .u32 (0 : Int)), (.int .u32 (0 : Int)), (.int .u32 (0 : Int)), (.int .u32 (0 : Int)), (.int .u32 (0 : Int)), (.int .u32 (0 : Int)), (.int .u8 (0 : Int)), (.int .u8 (0 : Int)), (.int .u8 (0 : Int)), (.int .u8 (0 : Int)), (.int .u8 (0 : Int)), (.int .u8 (0 : Int)), (.int .u8 (0 : Int)), (.int .u8 (0 : Int)), (.int .u8 (0 : Int)), (.int .u8 (0 : Int)), (.int .u8 (0 : Int)), (.int .u8 (0 : Int)), (.int .u8 (0 : Int)), (.int .u8 (0 : Int)), (.int .u8 (0 : Int)), (.int .u8 (0 : Int)), (.slice none 0 0)]) fun w3 =>
 ∃ (n4 : Int) (b5 : Bool) (n6 : Int) (n7 : Int) (n8 : Int) (n9 : Int) (n10 : Int) (n11 : Int) (n12 : Int) (n13 : Int) (n14 : Int) (n15 : Int) (n16 : Int) (n17 : Int) (n18 : Int) (n19 : Int) (n20 : Int) (n21 : Int) (n22 : Int) (n23 : Int) (n24 : Int) (n25 : Int) (n26 : Int) (n27 : Int) (n28 : Int) (n29 : Int) (v30 : Value), (ldCells w3 ⟨w.heap.size, 0, none⟩ 27 #[(.int .i64 n4), (.bool b5), (.int .i64 n6), (.int .i64 n7), (.int .u32 n8), (.int .u32 n9), (.int .u32 n10), (.int .u32 n11), (.int .u32 n12), (.int .u32 n13), (.int .u8 n14), (.int .u8 n15), (.int .u8 n16), (.int .u8 n17), (.int .u8 n18), (.int .u8 n19), (.int .u8 n20), (.int .u8 n21), (.int .u8 n22), (.int .u8 n23), (.int .u8 n24), (.int .u8 n25), (.int .u8 n26), (.int .u8 n27), (.int .u8 n28), (.int .u8 n29), v30]) ∧
 R (.tuple #[(.agg #[(.int .i64 n4), (.bool b5), (.int .i64 n6), (.int .i64 n7), (.int .u32 n8), (.int .u32 n9), (.int .u32 n10), (.int .u32 n11), (.int .u32 n12), (.int .u32 n13), (.int .u8 n14), (.int .u8 n15), (.int .u8 n16), (.int .u8 n17), (.int .u8 n18), (.int .u8 n19), (.int .u8 n20), (.int .u8 n21), (.int .u8 n22), (.int .u8 n23), (.int .u8 n24), (.int .u8 n25), (.int .u8 n26), (.int .u8 n27), (.int .u8 n28), (.int .u8 n29), v30]), (.bool false)]) w3)
 (withAddr (.pointer p0) fun a31 =>
 ∃ (v32 : Value), ((Go.World.cell? w0 (Addr.add a31 0)) = (some v32)) ∧
 Go.CW.Spec Try.prog 7 #[v32] w0 fun v33 w34 =>
 ∃ (n35 : Int) (b36 : Bool) (n37 : Int) (n38 : Int) (n39 : Int) (n40 : Int) (n41 : Int) (n42 : Int) (n43 : Int) (n44 : Int) (n45 : Int) (n46 : Int) (n47 : Int) (n48 : Int) (n49 : Int) (n50 : Int) (n51 : Int) (n52 : Int) (n53 : Int) (n54 : Int) (n55 : Int) (n56 : Int) (n57 : Int) (n58 : Int) (n59 : Int) (n60 : Int) (v61 : Value) (n62 : Int) (n63 : Int), ((v33 : Value) = (.tuple #[(.agg #[(.int .i64 n35), (.bool b36), (.int .i64 n37), (.int .i64 n38), (.int .u32 n39), (.int .u32 n40), (.int .u32 n41), (.int .u32 n42), (.int .u32 n43), (.int .u32 n44), (.int .u8 n45), (.int .u8 n46), (.int .u8 n47), (.int .u8 n48), (.int .u8 n49), (.int .u8 n50), (.int .u8 n51), (.int .u8 n52), (.int .u8 n53), (.int .u8 n54), (.int .u8 n55), (.int .u8 n56), (.int .u8 n57), (.int .u8 n58), (.int .u8 n59), (.int .u8 n60), v61]), (.int .i64 n62), (.int .i64 n63)])) ∧
 bindW (World.alloc w34 (.cells #[(.int .i64 (0 : Int)), (.bool false), (.int .i64 (0 : Int)), (.int .i64 (0 : Int)), (.int .u32 (0 : Int)), (.int .u32 (0 : Int)), (.int .u32 (0 : Int)), (.int .u32 (0 : Int)), (.int .u32 (0 : Int)), (.int .u32 (0 : Int)), (.int .u8 (0 : Int)), (.int .u8 (0 : Int)), (.int .u8 (0 : Int)), (.int .u8 (0 : Int)), (.int .u8 (0 : Int)), (.int .u8 (0 : Int)), (.int .u8 (0 : Int)), (.int .u8 (0 : Int)), (.int .u8 (0 : Int)), (.int .u8 (0 : Int)), (.int .u8 (0 : Int)), (.int .u8 (0 : Int)), (.int .u8 (0 : Int)), (.int .u8 (0 : Int)), (.int .u8 (0 : Int)), (.int .u8 (0 : Int)), (.slice none 0 0)] 26)) fun w64 =>
 (StRow w64 ⟨w34.heap.size, 0, none⟩ #[(.int .i64 n35), (.bool b36), (.int .i64 n37), (.int .i64 n38), (.int .u32 n39), (.int .u32 n40), (.int .u32 n41), (.int .u32 n42), (.int .u32 n43), (.int .u32 n44), (.int .u8 n45), (.int .u8 n46), (.int .u8 n47), (.int .u8 n48), (.int .u8 n49), (.int .u8 n50), (.int .u8 n51), (.int .u8 n52), (.int .u8 n53), (.int .u8 n54), (.int .u8 n55), (.int .u8 n56), (.int .u8 n57), (.int .u8 n58), (.int .u8 n59), (.int .u8 n60), v61]) ∧
 bindW (stRow w64 ⟨w34.heap.size, 0, none⟩ #[(.int .i64 n35), (.bool b36), (.int .i64 n37), (.int .i64 n38), (.int .u32 n39), (.int .u32 n40), (.int .u32 n41), (.int .u32 n42), (.int .u32 n43), (.int .u32 n44), (.int .u8 n45), (.int .u8 n46), (.int .u8 n47), (.int .u8 n48), (.int .u8 n49), (.int .u8 n50), (.int .u8 n51), (.int .u8 n52), (.int .u8 n53), (.int .u8 n54), (.int .u8 n55), (.int .u8 n56), (.int .u8 n57), (.int .u8 n58), (.int .u8 n59), (.int .u8 n60), v61]) fun w65 =>
 JoinP []
 (fun (w66 : World) =>
 (StRow w66 ⟨w.heap.size, 0, none⟩ #[(.int .i64 (0 : Int)), (.bool false), (.int .i64 (0 : Int)), (.int .i64 (0 : Int)), (.int .u32 (0 : Int)), (.int .u32 (0 : Int)), (.int .u32 (0 : Int)), (.int .u32 (0 : Int)), (.int .u32 (0 : Int)), (.int .u32 (0 : Int)), (.int .u8 (0 : Int)), (.int .u8 (0 : Int)), (.int .u8 (0 : Int)), (.int .u8 (0 : Int)), (.int .u8 (0 : Int)), (.int .u8 (0 : Int)), (.int .u8 (0 : Int)), (.int .u8 (0 : Int)), (.int .u8 (0 : Int)), (.int .u8 (0 : Int)), (.int .u8 (0 : Int)), (.int .u8 (0 : Int)), (.int .u8 (0 : Int)), (.int .u8 (0 : Int)), (.int .u8 (0 : Int)), (.int .u8 (0 : Int)), (.slice none 0 0)]) ∧
 bindW (stRow w66 ⟨w.heap.size, 0, none⟩ #[(.int .i64 (0 : Int)), (.bool false), (.int .i64 (0 : Int)), (.int .i64 (0 : Int)), (.int .u32 (0 : Int)), (.int .u32 (0 : Int)), (.int .u32 (0 : Int)), (.int .u32 (0 : Int)), (.int .u32 (0 : Int)), (.int .u32 (0 : Int)), (.int .u8 (0 : Int)), (.int .u8 (0 : Int)), (.int .u8 (0 : Int)), (.int .u8 (0 : Int)), (.int .u8 (0 : Int)), (.int .u8 (0 : Int)), (.int .u8 (0 : Int)), (.int .u8 (0 : Int)), (.int .u8 (0 : Int)), (.int .u8 (0 : Int)), (.int .u8 (0 : Int)), (.int .u8 (0 : Int)), (.int .u8 (0 : Int)), (.int .u8 (0 : Int)), (.int .u8 (0 : Int)), (.int .u8 (0 : Int)), (.slice none 0 0)]) fun w67 =>
 ∃ (n68 : Int) (b69 : Bool) (n70 : Int) (n71 : Int) (n72 : Int) (n73 : Int) (n74 : Int) (n75 : Int) (n76 : Int) (n77 : Int) (n78 : Int) (n79 : Int) (n80 : Int) (n81 : Int) (n82 : Int) (n83 : Int) (n84 : Int) (n85 : Int) (n86 : Int) (n87 : Int) (n88 : Int) (n89 : Int) (n90 : Int) (n91 : Int) (n92 : Int) (n93 : Int) (v94 : Value), (ldCells w67 ⟨w.heap.size, 0, none⟩ 27 #[(.int .i64 n68), (.bool b69), (.int .i64 n70), (.int .i64 n71), (.int .u32 n72), (.int .u32 n73), (.int .u32 n74), (.int .u32 n75), (.int .u32 n76), (.int .u32 n77), (.int .u8 n78), (.int .u8 n79), (.int .u8 n80), (.int .u8 n81), (.int .u8 n82), (.int .u8 n83), (.int .u8 n84), (.int .u8 n85), (.int .u8 n86), (.int .u8 n87), (.int .u8 n88), (.int .u8 n89), (.int .u8 n90), (.int .u8 n91), (.int .u8 n92), (.int .u8 n93), v94]) ∧
 R (.tuple #[(.agg #[(.int .i64 n68), (.bool b69), (.int .i64 n70), (.int .i64 n71), (.int .u32 n72), (.int .u32 n73), (.int .u32 n74), (.int .u32 n75), (.int .u32 n76), (.int .u32 n77), (.int .u8 n78), (.int .u8 n79), (.int .u8 n80), (.int .u8 n81), (.int .u8 n82), (.int .u8 n83), (.int .u8 n84), (.int .u8 n85), (.int .u8 n86), (.int .u8 n87), (.int .u8 n88), (.int .u8 n89), (.int .u8 n90), (.int .u8 n91), (.int .u8 n92), (.int .u8 n93), v94]), (.bool false)]) w67)
 (fun j95 =>
 LoopP []
 (fun j96 => fun (w97 : World) =>
 cond (n63 == (0 : Int))
 (withAddr (.pointer p0) fun a98 =>
 ∃ (v99 : Value), ((Go.World.cell? w97 (Addr.add a98 0)) = (some v99)) ∧
 ∃ (v100 : Value), ((Go.CW.subSlice v99 1 (some (.int .i64 n62)) none none) = (some v100)) ∧
 Go.CW.Spec Try.prog 25 #[v100] w97 fun v101 w102 =>
 withAddr (.pointer p0) fun a103 =>
 oneK v101 ((St1 w102 (Addr.add a103 0)) ∧
 bindW (World.setCell w102 (Addr.add a103 0) v101) fun w104 =>
 ∃ (n105 : Int) (b106 : Bool) (n107 : Int) (n108 : Int) (n109 : Int) (n110 : Int) (n111 : Int) (n112 : Int) (n113 : Int) (n114 : Int) (n115 : Int) (n116 : Int) (n117 : Int) (n118 : Int) (n119 : Int) (n120 : Int) (n121 : Int) (n122 : Int) (n123 : Int) (n124 : Int) (n125 : Int) (n126 : Int) (n127 : Int) (n128 : Int) (n129 : Int) (n130 : Int) (v131 : Value), (ldCells w104 ⟨w34.heap.size, 0, none⟩ 27 #[(.int .i64 n105), (.bool b106), (.int .i64 n107), (.int .i64 n108), (.int .u32 n109), (.int .u32 n110), (.int .u32 n111), (.int .u32 n112), (.int .u32 n113), (.int .u32 n114), (.int .u8 n115), (.int .u8 n116), (.int .u8 n117), (.int .u8 n118), (.int .u8 n119), (.int .u8 n120), (.int .u8 n121), (.int .u8 n122), (.int .u8 n123), (.int .u8 n124), (.int .u8 n125), (.int .u8 n126), (.int .u8 n127), (.int .u8 n128), (.int .u8 n129), (.int .u8 n130), v131]) ∧
 (StRow w104 ⟨w.heap.size, 0, none⟩ #[(.int .i64 n105), (.bool b106), (.int .i64 n107), (.int .i64 n108), (.int .u32 n109), (.int .u32 n110), (.int .u32 n111), (.int .u32 n112), (.int .u32 n113), (.int .u32 n114), (.int .u8 n115), (.int .u8 n116), (.int .u8 n117), (.int .u8 n118), (.int .u8 n119), (.int .u8 n120), (.int .u8 n121), (.int .u8 n122), (.int .u8 n123), (.int .u8 n124), (.int .u8 n125), (.int .u8 n126), (.int .u8 n127), (.int .u8 n128), (.int .u8 n129), (.int .u8 n130), v131]) ∧
 bindW (stRow w104 ⟨w.heap.size, 0, none⟩ #[(.int .i64 n105), (.bool b106), (.int .i64 n107), (.int .i64 n108), (.int .u32 n109), (.int .u32 n110), (.int .u32 n111), (.int .u32 n112), (.int .u32 n113), (.int .u32 n114), (.int .u8 n115), (.int .u8 n116), (.int .u8 n117), (.int .u8 n118), (.int .u8 n119), (.int .u8 n120), (.int .u8 n121), (.int .u8 n122), (.int .u8 n123), (.int .u8 n124), (.int .u8 n125), (.int .u8 n126), (.int .u8 n127), (.int .u8 n128), (.int .u8 n129), (.int .u8 n130), v131]) fun w132 =>
 ∃ (n133 : Int) (b134 : Bool) (n135 : Int) (n136 : Int) (n137 : Int) (n138 : Int) (n139 : Int) (n140 : Int) (n141 : Int) (n142 : Int) (n143 : Int) (n144 : Int) (n145 : Int) (n146 : Int) (n147 : Int) (n148 : Int) (n149 : Int) (n150 : Int) (n151 : Int) (n152 : Int) (n153 : Int) (n154 : Int) (n155 : Int) (n156 : Int) (n157 : Int) (n158 : Int) (v159 : Value), (ldCells w132 ⟨w.heap.size, 0, none⟩ 27 #[(.int .i64 n133), (.bool b134), (.int .i64 n135), (.int .i64 n136), (.int .u32 n137), (.int .u32 n138), (.int .u32 n139), (.int .u32 n140), (.int .u32 n141), (.int .u32 n142), (.int .u8 n143), (.int .u8 n144), (.int .u8 n145), (.int .u8 n146), (.int .u8 n147), (.int .u8 n148), (.int .u8 n149), (.int .u8 n150), (.int .u8 n151), (.int .u8 n152), (.int .u8 n153), (.int .u8 n154), (.int .u8 n155), (.int .u8 n156), (.int .u8 n157), (.int .u8 n158), v159]) ∧
 R (.tuple #[(.agg #[(.int .i64 n133), (.bool b134), (.int .i64 n135), (.int .i64 n136), (.int .u32 n137), (.int .u32 n138), (.int .u32 n139), (.int .u32 n140), (.int .u32 n141), (.int .u32 n142), (.int .u8 n143), (.int .u8 n144), (.int .u8 n145), (.int .u8 n146), (.int .u8 n147), (.int .u8 n148), (.int .u8 n149), (.int .u8 n150), (.int .u8 n151), (.int .u8 n152), (.int .u8 n153), (.int .u8 n154), (.int .u8 n155), (.int .u8 n156), (.int .u8 n157), (.int .u8 n158), v159]), (.bool true)]) w132))
 (cond (n63 == (3 : Int))
 (j95 w97)
 (withAddr (.pointer p0) fun a160 =>
 (St1 w97 (Addr.add a160 1)) ∧
 bindW (World.setCell w97 (Addr.add a160 1) (.int .i64 n63)) fun w161 =>
 withAddr (.pointer p0) fun a162 =>
 (St1 w161 (Addr.add a162 0)) ∧
 bindW (World.setCell w161 (Addr.add a162 0) (.slice none 0 0)) fun w163 =>
 j95 w163)))
 (fun s164 => s164 w65)))

theorem pdu_Reader_Next_m_wp (p0 : Option Addr) (w : World) (R : KV) (h : pdu_Reader_Next_m_F p0 w R) : Go.CW.Spec Try.prog 15 #[(.pointer p0)] w R :=
  spec_of Try.func15 (by kernel_rfl) (show pdu_Reader_Next_m_F p0 w R = _ by kernel_rfl) h

/-- (*gemel/pdu.Reader).Err -/
def pdu_Reader_Err_m_F (p0 : Option Addr) (w : World) (R : KV) : Prop :=
 withAddr (.pointer p0) fun a0 =>
 ∃ (n1 : Int), ((Go.World.cell? w (Addr.add a0 1)) = (some (.int .i64 n1))) ∧
 R (.int .i64 n1) w

theorem pdu_Reader_Err_m_wp (p0 : Option Addr) (w : World) (R : KV) (h : pdu_Reader_Err_m_F p0 w R) : Go.CW.Spec Try.prog 16 #[(.pointer p0)] w R :=
  spec_of Try.func16 (by kernel_rfl) (show pdu_Reader_Err_m_F p0 w R = _ by kernel_rfl) h

/-- gemel/pdu.Known -/
def pdu_Known_F (p0 : Int) (w : World) (R : KV) : Prop :=
 JoinP [.bool]
 (fun (b0 : Bool) => fun (w1 : World) =>
 cond b0
 (R (.bool true) w1)
 (R (.bool false) w1))
 (fun j2 =>
 cond (p0 == (0 : Int))
 (j2 (p0 == (0 : Int)) w)
 (cond (p0 == (1 : Int))
 (j2 (p0 == (1 : Int)) w)
 (cond (p0 == (2 : Int))
 (j2 (p0 == (2 : Int)) w)
 (cond (p0 == (3 : Int))
 (j2 (p0 == (3 : Int)) w)
 (cond (p0 == (5 : Int))
 (j2 (p0 == (5 : Int)) w)
 (cond (p0 == (6 : Int))
 (j2 (p0 == (6 : Int)) w)
 (cond (p0 == (32 : Int))
 (j2 (p0 == (32 : Int)) w)
 (cond (p0 == (33 : Int))
 (j2 (p0 == (33 : Int)) w)
 (cond (p0 == (34 : Int))
 (j2 (p0 == (34 : Int)) w)
 (cond (p0 == (35 : Int))
 (j2 (p0 == (35 : Int)) w)
 (cond (p0 == (37 : Int))
 (j2 (p0 == (37 : Int)) w)
 (cond (p0 == (38 : Int))
 (j2 (p0 == (38 : Int)) w)
 (cond (p0 == (49 : Int))
 (j2 (p0 == (49 : Int)) w)
 (j2 (p0 == (63 : Int)) w))))))))))))))

theorem pdu_Known_wp (p0 : Int) (w : World) (R : KV) (h : pdu_Known_F p0 w R) : Go.CW.Spec Try.prog 17 #[(.int .i64 p0)] w R :=
  spec_of Try.func17 (by kernel_rfl) (show pdu_Known_F p0 w R = _ by kernel_rfl) h

/-- gemel/pdu.low -/
def pdu_low_F (p0 : Value) (w : World) (R : KV) : Prop :=
 Go.CW.Spec Try.prog 30 #[p0] w fun v0 w1 =>
 ∃ (n2 : Int), ((v0 : Value) = (.int .u32 n2)) ∧
 Go.CW.Spec Try.prog 18 #[(.slice none 0 0), (.int .u64 (IntKind.wrap .u64 n2)), (.int .i64 (4 : Int))] w1 fun v3 w4 =>
 Go.CW.Spec Try.prog 31 #[v3] w4 fun v5 w6 =>
 ((v5 : Value) = (.tuple #[])) ∧
 R v3 w6

theorem pdu_low_wp (p0 : Value) (w : World) (R : KV) (h : pdu_low_F p0 w R) : Go.CW.Spec Try.prog 19 #[p0] w R :=
  spec_of Try.func19 (by kernel_rfl) (show pdu_low_F p0 w R = _ by kernel_rfl) h

/-- gemel/bin.Pad -/
def bin_Pad_F (p0 : Value) (p1 : Int) (w : World) (R : KV) : Prop :=
 Go.CW.Spec Try.prog 25 #[p0] w fun v0 w1 =>
 JoinP [.bool]
 (fun (b2 : Bool) => fun (w3 : World) =>
 cond b2
 (R v0 w3)
 (LoopP [.val]
 (fun j4 => fun (v5 : Value) => fun (w6 : World) =>
 ∃ (m7 : Nat), ((Go.CW.sliceLen v5) = (some m7)) ∧
 nzK p1 (cond ((Int.tmod ((m7 : Nat) : Int) p1) != (0 : Int))
 (bindW (World.alloc w6 (.cells #[(.int .u8 (0 : Int))] 5)) fun w8 =>
 ∃ (v9 : Value) (w10 : World), ((Sem.run @Go.Proofs.Try.prog (Go.Builtin.append_ #[24, 24] 24 #[v5, (.slice (some ⟨w6.heap.size, 0, none⟩) 1 1)]) w8) = (.ok v9 w10)) ∧
 j4 v9 w10)
 (Go.CW.Spec Try.prog 22 #[v5] w6 fun v11 w12 =>
 R v11 w12)))
 (fun s13 => s13 v0 w3)))
 (fun j14 =>
 cond (decide (p1 < (1 : Int)))
 (j14 true w1)
 (j14 (decide (p1 > (4096 : Int))) w1))

theorem bin_Pad_wp (p0 : Value) (p1 : Int) (w : World) (R : KV) (h : bin_Pad_F p0 p1 w R) : Go.CW.Spec Try.prog 20 #[p0, (.int .i64 p1)] w R :=
  spec_of Try.func20 (by kernel_rfl) (show bin_Pad_F p0 p1 w R = _ by kernel_rfl) h

/-- slices.Concat[[]byte,byte] -/
def slices_Concat___F (p0 : Value) (w : World) (R : KV) : Prop :=
 ∃ (m0 : Nat), ((Go.CW.sliceLen p0) = (some m0)) ∧
 LoopP [.int .i64, .int .i64]
 (fun j1 => fun (n2 : Int) => fun (n3 : Int) => fun (w4 : World) =>
 cond (decide (n3 < ((m0 : Nat) : Int)))
 (JoinP [.int .i64]
 (fun (n5 : Int) => fun (w6 : World) =>
 j1 n5 (IntKind.wrap .i64 (n3 + (1 : Int))) w6)
 (fun j7 =>
 ∃ (a8 : Addr), ((Go.CW.sliceAt p0 n3 1) = (some a8)) ∧
 ∃ (v9 : Value), ((Go.World.cell? w4 a8) = (some v9)) ∧
 ∃ (m10 : Nat), ((Go.CW.sliceLen v9) = (some m10)) ∧
 cond (decide ((IntKind.wrap .i64 (n2 + ((m10 : Nat) : Int))) < (0 : Int)))
 (∃ (v11 : Value), ((Sem.run @Go.Proofs.Try.prog (Go.Instr.makeInterface 9 (.string (ByteArray.mk #[108, 101, 110, 32, 111, 117, 116, 32, 111, 102, 32, 114, 97, 110, 103, 101]))) w4) = (.ok v11 w4)) ∧
 False)
 (j7 (IntKind.wrap .i64 (n2 + ((m10 : Nat) : Int))) w4)))
 (Go.CW.Spec Try.prog 32 #[(.slice none 0 0), (.int .i64 n2)] w4 fun v12 w13 =>
 ∃ (m14 : Nat), ((Go.CW.sliceLen p0) = (some m14)) ∧
 LoopP [.val, .int .i64]
 (fun j15 => fun (v16 : Value) => fun (n17 : Int) => fun (w18 : World) =>
 cond (decide (n17 < ((m14 : Nat) : Int)))
 (∃ (a19 : Addr), ((Go.CW.sliceAt p0 n17 1) = (some a19)) ∧
 ∃ (v20 : Value), ((Go.World.cell? w18 a19) = (some v20)) ∧
 ∃ (v21 : Value) (w22 : World), ((Sem.run @Go.Proofs.Try.prog (Go.Builtin.append_ #[24, 24] 24 #[v16, v20]) w18) = (.ok v21 w22)) ∧
 j15 v21 (IntKind.wrap .i64 (n17 + (1 : Int))) w22)
 (R v16 w18))
 (fun s23 => s23 v12 (0 : Int) w13)))
 (fun s24 => s24 (0 : Int) (0 : Int) w)

theorem slices_Concat___wp (p0 : Value) (w : World) (R : KV) (h : slices_Concat___F p0 w R) : Go.CW.Spec Try.prog 21 #[p0] w R :=
  spec_of Try.func21 (by kernel_rfl) (show slices_Concat___F p0 w R = _ by kernel_rfl) h

/-- gemel/gemelref7.Known -/
def gemelref7_Known_F (p0 : Int) (w : World) (R : KV) : Prop :=
 bindW (World.alloc w (.cells #[(.int .i64 (0 : Int)), (.int .i64 (1 : Int)), (.int .i64 (2 : Int)), (.int .i64 (3 : Int)), (.int .i64 (5 : Int)), (.int .i64 (6 : Int)), (.int .i64 (32 : Int)), (.int .i64 (33 : Int)), (.int .i64 (34 : Int)), (.int .i64 (35 : Int)), (.int .i64 (37 : Int)), (.int .i64 (38 : Int)), (.int .i64 (49 : Int)), (.int .i64 (63 : Int))] 3)) fun w0 =>
 LoopP [.int .i64]
 (fun j1 => fun (n2 : Int) => fun (w3 : World) =>
 ∃ (m4 : Nat), ((Go.CW.sliceLen (.slice (some ⟨w.heap.size, 0, none⟩) 14 14)) = (some m4)) ∧
 cond (decide (n2 < ((m4 : Nat) : Int)))
 (∃ (a5 : Addr), ((Go.CW.sliceAt (.slice (some ⟨w.heap.size, 0, none⟩) 14 14) n2 1) = (some a5)) ∧
 ∃ (n6 : Int), ((Go.World.cell? w3 a5) = (some (.int .i64 n6))) ∧
 cond (n6 == p0)
 (R (.bool true) w3)
 (j1 (IntKind.wrap .i64 (n2 + (1 : Int))) w3))
 (R (.bool false) w3))
 (fun s7 => s7 (0 : Int) w0)

theorem gemelref7_Known_wp (p0 : Int) (w : World) (R : KV) (h : gemelref7_Known_F p0 w R) : Go.CW.Spec Try.prog 26 #[(.int .i64 p0)] w R :=
  spec_of Try.func26 (by kernel_rfl) (show gemelref7_Known_F p0 w R = _ by kernel_rfl) h

/-- gemel/gemelref1.Pad -/
def gemelref1_Pad_F (p0 : Value) (p1 : Int) (w : World) (R : KV) : Prop :=
 JoinP [.bool]
 (fun (b0 : Bool) => fun (w1 : World) =>
 cond b0
 (R p0 w1)
 (LoopP [.val]
 (fun j2 => fun (v3 : Value) => fun (w4 : World) =>
 ∃ (m5 : Nat), ((Go.CW.sliceLen v3) = (some m5)) ∧
 nzK p1 (cond ((Int.tmod ((m5 : Nat) : Int) p1) != (0 : Int))
 (bindW (World.alloc w4 (.cells #[(.int .u8 (0 : Int))] 5)) fun w6 =>
 ∃ (v7 : Value) (w8 : World), ((Sem.run @Go.Proofs.Try.prog (Go.Builtin.append_ #[24, 24] 24 #[v3, (.slice (some ⟨w4.heap.size, 0, none⟩) 1 1)]) w6) = (.ok v7 w8)) ∧
 j2 v7 w8)
 (R v3 w4)))
 (fun s9 => s9 p0 w1)))
 (fun j10 =>
 cond (decide (p1 < (1 : Int)))
 (j10 true w)
 (j10 (decide (p1 > (4096 : Int))) w))

theorem gemelref1_Pad_wp (p0 : Value) (p1 : Int) (w : World) (R : KV) (h : gemelref1_Pad_F p0 p1 w R) : Go.CW.Spec Try.prog 28 #[p0, (.int .i64 p1)] w R :=
  spec_of Try.func28 (by kernel_rfl) (show gemelref1_Pad_F p0 p1 w R = _ by kernel_rfl) h

/-- slices.Reverse[[]byte,byte] -/
def slices_Reverse___F (p0 : Value) (w : World) (R : KV) : Prop :=
 ∃ (m0 : Nat), ((Go.CW.sliceLen p0) = (some m0)) ∧
 LoopP [.int .i64, .int .i64]
 (fun j1 => fun (n2 : Int) => fun (n3 : Int) => fun (w4 : World) =>
 cond (decide (n2 < n3))
 (bindW (World.drew w4) fun w5 =>
 ∃ (a6 : Addr), ((Go.CW.sliceAt p0 n3 1) = (some a6)) ∧
 ∃ (n7 : Int), ((Go.World.cell? w5 a6) = (some (.int .u8 n7))) ∧
 ∃ (a8 : Addr), ((Go.CW.sliceAt p0 n2 1) = (some a8)) ∧
 ∃ (n9 : Int), ((Go.World.cell? w5 a8) = (some (.int .u8 n9))) ∧
 ∃ (a10 : Addr), ((Go.CW.sliceAt p0 n2 1) = (some a10)) ∧
 bindW (World.drew w4) fun w11 =>
 (St1 w11 a10) ∧
 bindW (World.setCell w11 a10 (.int .u8 n7)) fun w12 =>
 ∃ (a13 : Addr), ((Go.CW.sliceAt p0 n3 1) = (some a13)) ∧
 bindW (World.setCell w11 a10 (.int .u8 n7)) fun w14 =>
 (St1 w14 a13) ∧
 bindW (World.setCell w14 a13 (.int .u8 n9)) fun w15 =>
 bindW (World.setCell w14 a13 (.int .u8 n9)) fun w16 =>
 j1 (IntKind.wrap .i64 (n2 + (1 : Int))) (IntKind.wrap .i64 (n3 - (1 : Int))) w16)
 (R (.tuple #[]) w4))
 (fun s17 => s17 (0 : Int) (IntKind.wrap .i64 (((m0 : Nat) : Int) - (1 : Int))) w)

theorem slices_Reverse___wp (p0 : Value) (w : World) (R : KV) (h : slices_Reverse___F p0 w R) : Go.CW.Spec Try.prog 31 #[p0] w R :=
  spec_of Try.func31 (by kernel_rfl) (show slices_Reverse___F p0 w R = _ by kernel_rfl) h

/-- slices.Grow[[]byte,byte] -/
def slices_Grow___F (p0 : Value) (p1 : Int) (w : World) (R : KV) : Prop :=
 JoinP []
 (fun (w0 : World) =>
 JoinP [.val]
 (fun (v1 : Value) => fun (w2 : World) =>
 R v1 w2)
 (fun j3 =>
 ∃ (n4 : Int), ((Sem.run @Go.Proofs.Try.prog (Go.Builtin.cap_ #[24] 3 #[p0]) w0) = (.ok (.int .i64 n4) w0)) ∧
 ∃ (m5 : Nat), ((Go.CW.sliceLen p0) = (some m5)) ∧
 cond (decide ((IntKind.wrap .i64 (p1 - (IntKind.wrap .i64 (n4 - ((m5 : Nat) : Int))))) > (0 : Int)))
 (∃ (n6 : Int), ((Sem.run @Go.Proofs.Try.prog (Go.Builtin.cap_ #[24] 3 #[p0]) w0) = (.ok (.int .i64 n6) w0)) ∧
 ∃ (v7 : Value), ((Go.CW.subSlice p0 1 none (some (.int .i64 n6)) none) = (some v7)) ∧
 ∃ (v8 : Value) (w9 : World), ((Sem.run @Go.Proofs.Try.prog (Go.Builtin.append_ #[24, 3] 24 #[v7, (.int .i64 (IntKind.wrap .i64 (p1 - (IntKind.wrap .i64 (n4 - ((m5 : Nat) : Int))))))]) w0) = (.ok v8 w9)) ∧
 ∃ (m10 : Nat), ((Go.CW.sliceLen p0) = (some m10)) ∧
 ∃ (v11 : Value), ((Go.CW.subSlice v8 1 none (some (.int .i64 ((m10 : Nat) : Int))) none) = (some v11)) ∧
 j3 v11 w9)
 (j3 p0 w0)))
 (fun j12 =>
 cond (decide (p1 < (0 : Int)))
 (∃ (v13 : Value), ((Sem.run @Go.Proofs.Try.prog (Go.Instr.makeInterface 9 (.string (ByteArray.mk #[99, 97, 110, 110, 111, 116, 32, 98, 101, 32, 110, 101, 103, 97, 116, 105, 118, 101]))) w) = (.ok v13 w)) ∧
 False)
 (j12 w))

theorem slices_Grow___wp (p0 : Value) (p1 : Int) (w : World) (R : KV) (h : slices_Grow___F p0 p1 w R) : Go.CW.Spec Try.prog 32 #[p0, (.int .i64 p1)] w R :=
  spec_of Try.func32 (by kernel_rfl) (show slices_Grow___F p0 p1 w R = _ by kernel_rfl) h

/-- gemel/gemellaw7.Of -/
def gemellaw7_Of_F (p0_0 : Int) (p0_1 : Bool) (p0_2 : Int) (p0_3 : Int) (p0_4 : Int) (p0_5 : Int) (p0_6 : Int) (p0_7 : Int) (p0_8 : Int) (p0_9 : Int) (p0_10 : Int) (p0_11 : Int) (p0_12 : Int) (p0_13 : Int) (p0_14 : Int) (p0_15 : Int) (p0_16 : Int) (p0_17 : Int) (p0_18 : Int) (p0_19 : Int) (p0_20 : Int) (p0_21 : Int) (p0_22 : Int) (p0_23 : Int) (p0_24 : Int) (p0_25 : Int) (p0_26 : Value) (w : World) (R : KV) : Prop :=
 bindW (World.alloc w (.cells #[(.int .i64 p0_0), (.bool p0_1), (.int .i64 p0_2), (.int .i64 p0_3), (.int .u32 p0_4), (.int .u32 p0_5), (.int .u32 p0_6), (.int .u32 p0_7), (.int .u32 p0_8), (.int .u32 p0_9), (.int .u8 p0_10), (.int .u8 p0_11), (.int .u8 p0_12), (.int .u8 p0_13), (.int .u8 p0_14), (.int .u8 p0_15), (.int .u8 p0_16), (.int .u8 p0_17), (.int .u8 p0_18), (.int .u8 p0_19), (.int .u8 p0_20), (.int .u8 p0_21), (.int .u8 p0_22), (.int .u8 p0_23), (.int .u8 p0_24), (.int .u8 p0_25), p0_26] 26)) fun w0 =>
 bindW (World.alloc w0 (.cells #[(.int .i64 (0 : Int)), (.bool false), (.int .i64 (0 : Int)), (.int .i64 (0 : Int)), (.int .u32 (0 : Int)), (.int .u32 (0 : Int)), (.int .u32 (0 : Int)), (.int .u32 (0 : Int)), (.int .u32 (0 : Int)), (.int .u32 (0 : Int)), (.int .u8 (0 : Int)), (.int .u8 (0 : Int)), (.int .u8 (0 : Int)), (.int .u8 (0 : Int)), (.int .u8 (0 : Int)), (.int .u8 (0 : Int)), (.int .u8 (0 : Int)), (.int .u8 (0 : Int)), (.int .u8 (0 : Int)), (.int .u8 (0 : Int)), (.int .u8 (0 : Int)), (.int .u8 (0 : Int)), (.int .u8 (0 : Int)), (.int .u8 (0 : Int)), (.int .u8 (0 : Int)), (.int .u8 (0 : Int)), (.slice none 0 0)] 35)) fun w1 =>
 ∃ (n2 : Int), ((Go.World.cell? w1 (Addr.add ⟨w.heap.size, 0, none⟩ 0)) = (some (.int .i64 n2))) ∧
 ∃ (b3 : Bool), ((Go.World.cell? w1 (Addr.add ⟨w.heap.size, 0, none⟩ 1)) = (some (.bool b3))) ∧
 ∃ (n4 : Int), ((Go.World.cell? w1 (Addr.add ⟨w.heap.size, 0, none⟩ 2)) = (some (.int .i64 n4))) ∧
 ∃ (n5 : Int), ((Go.World.cell? w1 (Addr.add ⟨w.heap.size, 0, none⟩ 3)) = (some (.int .i64 n5))) ∧
 ∃ (n6 : Int), ((Go.World.cell? w1 (Addr.add ⟨w.heap.size, 0, none⟩ 4)) = (some (.int .u32 n6))) ∧
 ∃ (n7 : Int), ((Go.World.cell? w1 (Addr.add ⟨w.heap.size, 0, none⟩ 5)) = (some (.int .u32 n7))) ∧
 ∃ (n8 : Int), ((Go.World.cell? w1 (Addr.add ⟨w.heap.size, 0, none⟩ 6)) = (some (.int .u32 n8))) ∧
 ∃ (n9 : Int), ((Go.World.cell? w1 (Addr.add ⟨w.heap.size, 0, none⟩ 7)) = (some (.int .u32 n9))) ∧
 ∃ (n10 : Int), ((Go.World.cell? w1 (Addr.add ⟨w.heap.size, 0, none⟩ 8)) = (some (.int .u32 n10))) ∧
 ∃ (n11 : Int), ((Go.World.cell? w1 (Addr.add ⟨w.heap.size, 0, none⟩ 9)) = (some (.int .u32 n11))) ∧
 ∃ (n12 : Int) (n13 : Int) (n14 : Int) (n15 : Int) (n16 : Int) (n17 : Int) (n18 : Int) (n19 : Int) (n20 : Int) (n21 : Int) (n22 : Int) (n23 : Int) (n24 : Int) (n25 : Int) (n26 : Int) (n27 : Int), (ldCells w1 (Addr.add ⟨w.heap.size, 0, none⟩ 10) 16 #[(.int .u8 n12), (.int .u8 n13), (.int .u8 n14), (.int .u8 n15), (.int .u8 n16), (.int .u8 n17), (.int .u8 n18), (.int .u8 n19), (.int .u8 n20), (.int .u8 n21), (.int .u8 n22), (.int .u8 n23), (.int .u8 n24), (.int .u8 n25), (.int .u8 n26), (.int .u8 n27)]) ∧
 ∃ (v28 : Value), ((Go.World.cell? w1 (Addr.add ⟨w.heap.size, 0, none⟩ 26)) = (some v28)) ∧
 oneK v28 ((StRow w1 ⟨w0.heap.size, 0, none⟩ #[(.int .i64 n2), (.bool b3), (.int .i64 n4), (.int .i64 n5), (.int .u32 n6), (.int .u32 n7), (.int .u32 n8), (.int .u32 n9), (.int .u32 n10), (.int .u32 n11), (.int .u8 n12), (.int .u8 n13), (.int .u8 n14), (.int .u8 n15), (.int .u8 n16), (.int .u8 n17), (.int .u8 n18), (.int .u8 n19), (.int .u8 n20), (.int .u8 n21), (.int .u8 n22), (.int .u8 n23), (.int .u8 n24), (.int .u8 n25), (.int .u8 n26), (.int .u8 n27), v28]) ∧
 bindW (stRow w1 ⟨w0.heap.size, 0, none⟩ #[(.int .i64 n2), (.bool b3), (.int .i64 n4), (.int .i64 n5), (.int .u32 n6), (.int .u32 n7), (.int .u32 n8), (.int .u32 n9), (.int .u32 n10), (.int .u32 n11), (.int .u8 n12), (.int .u8 n13), (.int .u8 n14), (.int .u8 n15), (.int .u8 n16), (.int .u8 n17), (.int .u8 n18), (.int .u8 n19), (.int .u8 n20), (.int .u8 n21), (.int .u8 n22), (.int .u8 n23), (.int .u8 n24), (.int .u8 n25), (.int .u8 n26), (.int .u8 n27), v28]) fun w29 =>
 ∃ (n30 : Int) (b31 : Bool) (n32 : Int) (n33 : Int) (n34 : Int) (n35 : Int) (n36 : Int) (n37 : Int) (n38 : Int) (n39 : Int) (n40 : Int) (n41 : Int) (n42 : Int) (n43 : Int) (n44 : Int) (n45 : Int) (n46 : Int) (n47 : Int) (n48 : Int) (n49 : Int) (n50 : Int) (n51 : Int) (n52 : Int) (n53 : Int) (n54 : Int) (n55 : Int) (v56 : Value), (ldCells w29 ⟨w0.heap.size, 0, none⟩ 27 #[(.int .i64 n30), (.bool b31), (.int .i64 n32), (.int .i64 n33), (.int .u32 n34), (.int .u32 n35), (.int .u32 n36), (.int .u32 n37), (.int .u32 n38), (.int .u32 n39), (.int .u8 n40), (.int .u8 n41), (.int .u8 n42), (.int .u8 n43), (.int .u8 n44), (.int .u8 n45), (.int .u8 n46), (.int .u8 n47), (.int .u8 n48), (.int .u8 n49), (.int .u8 n50), (.int .u8 n51), (.int .u8 n52), (.int .u8 n53), (.int .u8 n54), (.int .u8 n55), v56]) ∧
 R (.agg #[(.int .i64 n30), (.bool b31), (.int .i64 n32), (.int .i64 n33), (.int .u32 n34), (.int .u32 n35), (.int .u32 n36), (.int .u32 n37), (.int .u32 n38), (.int .u32 n39), (.int .u8 n40), (.int .u8 n41), (.int .u8 n42), (.int .u8 n43), (.int .u8 n44), (.int .u8 n45), (.int .u8 n46), (.int .u8 n47), (.int .u8 n48), (.int .u8 n49), (.int .u8 n50), (.int .u8 n51), (.int .u8 n52), (.int .u8 n53), (.int .u8 n54), (.int .u8 n55), v56]) w29)

theorem gemellaw7_Of_wp (p0_0 : Int) (p0_1 : Bool) (p0_2 : Int) (p0_3 : Int) (p0_4 : Int) (p0_5 : Int) (p0_6 : Int) (p0_7 : Int) (p0_8 : Int) (p0_9 : Int) (p0_10 : Int) (p0_11 : Int) (p0_12 : Int) (p0_13 : Int) (p0_14 : Int) (p0_15 : Int) (p0_16 : Int) (p0_17 : Int) (p0_18 : Int) (p0_19 : Int) (p0_20 : Int) (p0_21 : Int) (p0_22 : Int) (p0_23 : Int) (p0_24 : Int) (p0_25 : Int) (p0_26 : Value) (w : World) (R : KV) (h : gemellaw7_Of_F p0_0 p0_1 p0_2 p0_3 p0_4 p0_5 p0_6 p0_7 p0_8 p0_9 p0_10 p0_11 p0_12 p0_13 p0_14 p0_15 p0_16 p0_17 p0_18 p0_19 p0_20 p0_21 p0_22 p0_23 p0_24 p0_25 p0_26 w R) : Go.CW.Spec Try.prog 9 #[(.agg #[(.int .i64 p0_0), (.bool p0_1), (.int .i64 p0_2), (.int .i64 p0_3), (.int .u32 p0_4), (.int .u32 p0_5), (.int .u32 p0_6), (.int .u32 p0_7), (.int .u32 p0_8), (.int .u32 p0_9), (.int .u8 p0_10), (.int .u8 p0_11), (.int .u8 p0_12), (.int .u8 p0_13), (.int .u8 p0_14), (.int .u8 p0_15), (.int .u8 p0_16), (.int .u8 p0_17), (.int .u8 p0_18), (.int .u8 p0_19), (.int .u8 p0_20), (.int .u8 p0_21), (.int .u8 p0_22), (.int .u8 p0_23), (.int .u8 p0_24), (.int .u8 p0_25), p0_26])] w R :=
  spec_of Try.func9 (by kernel_rfl) (show gemellaw7_Of_F p0_0 p0_1 p0_2 p0_3 p0_4 p0_5 p0_6 p0_7 p0_8 p0_9 p0_10 p0_11 p0_12 p0_13 p0_14 p0_15 p0_16 p0_17 p0_18 p0_19 p0_20 p0_21 p0_22 p0_23 p0_24 p0_25 p0_26 w R = _ by kernel_rfl) h

/-- gemel/pdu.front -/
def pdu_front_F (p0 : Value) (w : World) (R : KV) : Prop :=
 bindW (World.alloc w (.cells #[(.int .i64 (0 : Int)), (.bool false), (.int .i64 (0 : Int)), (.int .i64 (0 : Int)), (.int .u32 (0 : Int)), (.int .u32 (0 : Int)), (.int .u32 (0 : Int)), (.int .u32 (0 : Int)), (.int .u32 (0 : Int)), (.int .u32 (0 : Int)), (.int .u8 (0 : Int)), (.int .u8 (0 : Int)), (.int .u8 (0 : Int)), (.int .u8 (0 : Int)), (.int .u8 (0 : Int)), (.int .u8 (0 : Int)), (.int .u8 (0 : Int)), (.int .u8 (0 : Int)), (.int .u8 (0 : Int)), (.int .u8 (0 : Int)), (.int .u8 (0 : Int)), (.int .u8 (0 : Int)), (.int .u8 (0 : Int)), (.int .u8 (0 : Int)), (.int .u8 (0 : Int)), (.int .u8 (0 : Int)), (.slice none 0 0)] 26)) fun w0 =>
 Go.CW.Spec Try.prog 33 #[p0, (.int .i64 (4 : Int)), (.int .i64 (4 : Int))] w0 fun v1 w2 =>
 ∃ (n3 : Int) (b4 : Bool), ((v1 : Value) = (.tuple #[(.int .u64 n3), (.bool b4)])) ∧
 ∃ (m5 : Nat), ((Go.CW.sliceLen p0) = (some m5)) ∧
 cond (decide (((m5 : Nat) : Int) < (52 : Int)))
 ((StRow w2 ⟨w.heap.size, 0, none⟩ #[(.int .i64 (0 : Int)), (.bool false), (.int .i64 (0 : Int)), (.int .i64 (0 : Int)), (.int .u32 (0 : Int)), (.int .u32 (0 : Int)), (.int .u32 (0 : Int)), (.int .u32 (0 : Int)), (.int .u32 (0 : Int)), (.int .u32 (0 : Int)), (.int .u8 (0 : Int)), (.int .u8 (0 : Int)), (.int .u8 (0 : Int)), (.int .u8 (0 : Int)), (.int .u8 (0 : Int)), (.int .u8 (0 : Int)), (.int .u8 (0 : Int)), (.int .u8 (0 : Int)), (.int .u8 (0 : Int)), (.int .u8 (0 : Int)), (.int .u8 (0 : Int)), (.int .u8 (0 : Int)), (.int .u8 (0 : Int)), (.int .u8 (0 : Int)), (.int .u8 (0 : Int)), (.int .u8 (0 : Int)), (.slice none 0 0)]) ∧
 bindW (stRow w2 ⟨w.heap.size, 0, none⟩ #[(.int .i64 (0 : Int)), (.bool false), (.int .i64 (0 : Int)), (.int .i64 (0 : Int)), (.int .u32 (0 : Int)), (.int .u32 (0 : Int)), (.int .u32 (0 : Int)), (.int .u32 (0 : Int)), (.int .u32 (0 : Int)), (.int .u32 (0 : Int)), (.int .u8 (0 : Int)), (.int .u8 (0 : Int)), (.int .u8 (0 : Int)), (.int .u8 (0 : Int)), (.int .u8 (0 : Int)), (.int .u8 (0 : Int)), (.int .u8 (0 : Int)), (.int .u8 (0 : Int)), (.int .u8 (0 : Int)), (.int .u8 (0 : Int)), (.int .u8 (0 : Int)), (.int .u8 (0 : Int)), (.int .u8 (0 : Int)), (.int .u8 (0 : Int)), (.int .u8 (0 : Int)), (.int .u8 (0 : Int)), (.slice none 0 0)]) fun w6 =>
 ∃ (n7 : Int) (b8 : Bool) (n9 : Int) (n10 : Int) (n11 : Int) (n12 : Int) (n13 : Int) (n14 : Int) (n15 : Int) (n16 : Int) (n17 : Int) (n18 : Int) (n19 : Int) (n20 : Int) (n21 : Int) (n22 : Int) (n23 : Int) (n24 : Int) (n25 : Int) (n26 : Int) (n27 : Int) (n28 : Int) (n29 : Int) (n30 : Int) (n31 : Int) (n32 : Int) (v33 : Value), (ldCells w6 ⟨w.heap.size, 0, none⟩ 27 #[(.int .i64 n7), (.bool b8), (.int .i64 n9), (.int .i64 n10), (.int .u32 n11), (.int .u32 n12), (.int .u32 n13), (.int .u32 n14), (.int .u32 n15), (.int .u32 n16), (.int .u8 n17), (.int .u8 n18), (.int .u8 n19), (.int .u8 n20), (.int .u8 n21), (.int .u8 n22), (.int .u8 n23), (.int .u8 n24), (.int .u8 n25), (.int .u8 n26), (.int .u8 n27), (.int .u8 n28), (.int .u8 n29), (.int .u8 n30), (.int .u8 n31), (.int .u8 n32), v33]) ∧
 R (.tuple #[(.agg #[(.int .i64 n7), (.bool b8), (.int .i64 n9), (.int .i64 n10), (.int .u32 n11), (.int .u32 n12), (.int .u32 n13), (.int .u32 n14), (.int .u32 n15), (.int .u32 n16), (.int .u8 n17), (.int .u8 n18), (.int .u8 n19), (.int .u8 n20), (.int .u8 n21), (.int .u8 n22), (.int .u8 n23), (.int .u8 n24), (.int .u8 n25), (.int .u8 n26), (.int .u8 n27), (.int .u8 n28), (.int .u8 n29), (.int .u8 n30), (.int .u8 n31), (.int .u8 n32), v33]), (.int .i64 (0 : Int)), (.int .i64 (3 : Int))]) w6)
 (bindW (World.drew w2) fun w34 =>
 ∃ (v35 : Value), ((Go.CW.subSlice p0 1 none (some (.int .i64 (48 : Int))) none) = (some v35)) ∧
 ∃ (v36 : Value), ((Go.CW.subSlice p0 1 (some (.int .i64 (48 : Int))) (some (.int .i64 (52 : Int))) none) = (some v36)) ∧
 bindW (World.drew w2) fun w37 =>
 Go.CW.Spec Try.prog 19 #[v35] w37 fun v38 w39 =>
 Go.CW.Spec Try.prog 24 #[v38, v36] w39 fun v40 w41 =>
 ∃ (b42 : Bool), ((v40 : Value) = (.bool b42)) ∧
 cond (!b42)
 ((StRow w41 ⟨w.heap.size, 0, none⟩ #[(.int .i64 (0 : Int)), (.bool false), (.int .i64 (0 : Int)), (.int .i64 (0 : Int)), (.int .u32 (0 : Int)), (.int .u32 (0 : Int)), (.int .u32 (0 : Int)), (.int .u32 (0 : Int)), (.int .u32 (0 : Int)), (.int .u32 (0 : Int)), (.int .u8 (0 : Int)), (.int .u8 (0 : Int)), (.int .u8 (0 : Int)), (.int .u8 (0 : Int)), (.int .u8 (0 : Int)), (.int .u8 (0 : Int)), (.int .u8 (0 : Int)), (.int .u8 (0 : Int)), (.int .u8 (0 : Int)), (.int .u8 (0 : Int)), (.int .u8 (0 : Int)), (.int .u8 (0 : Int)), (.int .u8 (0 : Int)), (.int .u8 (0 : Int)), (.int .u8 (0 : Int)), (.int .u8 (0 : Int)), (.slice none 0 0)]) ∧
 bindW (stRow w41 ⟨w.heap.size, 0, none⟩ #[(.int .i64 (0 : Int)), (.bool false), (.int .i64 (0 : Int)), (.int .i64 (0 : Int)), (.int .u32 (0 : Int)), (.int .u32 (0 : Int)), (.int .u32 (0 : Int)), (.int .u32 (0 : Int)), (.int .u32 (0 : Int)), (.int .u32 (0 : Int)), (.int .u8 (0 : Int)), (.int .u8 (0 : Int)), (.int .u8 (0 : Int)), (.int .u8 (0 : Int)), (.int .u8 (0 : Int)), (.int .u8 (0 : Int)), (.int .u8 (0 : Int)), (.int .u8 (0 : Int)), (.int .u8 (0 : Int)), (.int .u8 (0 : Int)), (.int .u8 (0 : Int)), (.int .u8 (0 : Int)), (.int .u8 (0 : Int)), (.int .u8 (0 : Int)), (.int .u8 (0 : Int)), (.int .u8 (0 : Int)), (.slice none 0 0)]) fun w43 =>
 ∃ (n44 : Int) (b45 : Bool) (n46 : Int) (n47 : Int) (n48 : Int) (n49 : Int) (n50 : Int) (n51 : Int) (n52 : Int) (n53 : Int) (n54 : Int) (n55 : Int) (n56 : Int) (n57 : Int) (n58 : Int) (n59 : Int) (n60 : Int) (n61 : Int) (n62 : Int) (n63 : Int) (n64 : Int) (n65 : Int) (n66 : Int) (n67 : Int) (n68 : Int) (n69 : Int) (v70 : Value), (ldCells w43 ⟨w.heap.size, 0, none⟩ 27 #[(.int .i64 n44), (.bool b45), (.int .i64 n46), (.int .i64 n47), (.int .u32 n48), (.int .u32 n49), (.int .u32 n50), (.int .u32 n51), (.int .u32 n52), (.int .u32 n53), (.int .u8 n54), (.int .u8 n55), (.int .u8 n56), (.int .u8 n57), (.int .u8 n58), (.int .u8 n59), (.int .u8 n60), (.int .u8 n61), (.int .u8 n62), (.int .u8 n63), (.int .u8 n64), (.int .u8 n65), (.int .u8 n66), (.int .u8 n67), (.int .u8 n68), (.int .u8 n69), v70]) ∧
 R (.tuple #[(.agg #[(.int .i64 n44), (.bool b45), (.int .i64 n46), (.int .i64 n47), (.int .u32 n48), (.int .u32 n49), (.int .u32 n50), (.int .u32 n51), (.int .u32 n52), (.int .u32 n53), (.int .u8 n54), (.int .u8 n55), (.int .u8 n56), (.int .u8 n57), (.int .u8 n58), (.int .u8 n59), (.int .u8 n60), (.int .u8 n61), (.int .u8 n62), (.int .u8 n63), (.int .u8 n64), (.int .u8 n65), (.int .u8 n66), (.int .u8 n67), (.int .u8 n68), (.int .u8 n69), v70]), (.int .i64 (0 : Int)), (.int .i64 (4 : Int))]) w43)
 (JoinP [.bool]
 (fun (b71 : Bool) => fun (w72 : World) =>
 cond b71
 ((StRow w72 ⟨w.heap.size, 0, none⟩ #[(.int .i64 (0 : Int)), (.bool false), (.int .i64 (0 : Int)), (.int .i64 (0 : Int)), (.int .u32 (0 : Int)), (.int .u32 (0 : Int)), (.int .u32 (0 : Int)), (.int .u32 (0 : Int)), (.int .u32 (0 : Int)), (.int .u32 (0 : Int)), (.int .u8 (0 : Int)), (.int .u8 (0 : Int)), (.int .u8 (0 : Int)), (.int .u8 (0 : Int)), (.int .u8 (0 : Int)), (.int .u8 (0 : Int)), (.int .u8 (0 : Int)), (.int .u8 (0 : Int)), (.int .u8 (0 : Int)), (.int .u8 (0 : Int)), (.int .u8 (0 : Int)), (.int .u8 (0 : Int)), (.int .u8 (0 : Int)), (.int .u8 (0 : Int)), (.int .u8 (0 : Int)), (.int .u8 (0 : Int)), (.slice none 0 0)]) ∧
 bindW (stRow w72 ⟨w.heap.size, 0, none⟩ #[(.int .i64 (0 : Int)), (.bool false), (.int .i64 (0 : Int)), (.int .i64 (0 : Int)), (.int .u32 (0 : Int)), (.int .u32 (0 : Int)), (.int .u32 (0 : Int)), (.int .u32 (0 : Int)), (.int .u32 (0 : Int)), (.int .u32 (0 : Int)), (.int .u8 (0 : Int)), (.int .u8 (0 : Int)), (.int .u8 (0 : Int)), (.int .u8 (0 : Int)), (.int .u8 (0 : Int)), (.int .u8 (0 : Int)), (.int .u8 (0 : Int)), (.int .u8 (0 : Int)), (.int .u8 (0 : Int)), (.int .u8 (0 : Int)), (.int .u8 (0 : Int)), (.int .u8 (0 : Int)), (.int .u8 (0 : Int)), (.int .u8 (0 : Int)), (.int .u8 (0 : Int)), (.int .u8 (0 : Int)), (.slice none 0 0)]) fun w73 =>
 ∃ (n74 : Int) (b75 : Bool) (n76 : Int) (n77 : Int) (n78 : Int) (n79 : Int) (n80 : Int) (n81 : Int) (n82 : Int) (n83 : Int) (n84 : Int) (n85 : Int) (n86 : Int) (n87 : Int) (n88 : Int) (n89 : Int) (n90 : Int) (n91 : Int) (n92 : Int) (n93 : Int) (n94 : Int) (n95 : Int) (n96 : Int) (n97 : Int) (n98 : Int) (n99 : Int) (v100 : Value), (ldCells w73 ⟨w.heap.size, 0, none⟩ 27 #[(.int .i64 n74), (.bool b75), (.int .i64 n76), (.int .i64 n77), (.int .u32 n78), (.int .u32 n79), (.int .u32 n80), (.int .u32 n81), (.int .u32 n82), (.int .u32 n83), (.int .u8 n84), (.int .u8 n85), (.int .u8 n86), (.int .u8 n87), (.int .u8 n88), (.int .u8 n89), (.int .u8 n90), (.int .u8 n91), (.int .u8 n92), (.int .u8 n93), (.int .u8 n94), (.int .u8 n95), (.int .u8 n96), (.int .u8 n97), (.int .u8 n98), (.int .u8 n99), v100]) ∧
 R (.tuple #[(.agg #[(.int .i64 n74), (.bool b75), (.int .i64 n76), (.int .i64 n77), (.int .u32 n78), (.int .u32 n79), (.int .u32 n80), (.int .u32 n81), (.int .u32 n82), (.int .u32 n83), (.int .u8 n84), (.int .u8 n85), (.int .u8 n86), (.int .u8 n87), (.int .u8 n88), (.int .u8 n89), (.int .u8 n90), (.int .u8 n91), (.int .u8 n92), (.int .u8 n93), (.int .u8 n94), (.int .u8 n95), (.int .u8 n96), (.int .u8 n97), (.int .u8 n98), (.int .u8 n99), v100]), (.int .i64 (0 : Int)), (.int .i64 (2 : Int))]) w73)
 (cond (decide (n3 > (4096 : Int)))
 ((StRow w72 ⟨w.heap.size, 0, none⟩ #[(.int .i64 (0 : Int)), (.bool false), (.int .i64 (0 : Int)), (.int .i64 (0 : Int)), (.int .u32 (0 : Int)), (.int .u32 (0 : Int)), (.int .u32 (0 : Int)), (.int .u32 (0 : Int)), (.int .u32 (0 : Int)), (.int .u32 (0 : Int)), (.int .u8 (0 : Int)), (.int .u8 (0 : Int)), (.int .u8 (0 : Int)), (.int .u8 (0 : Int)), (.int .u8 (0 : Int)), (.int .u8 (0 : Int)), (.int .u8 (0 : Int)), (.int .u8 (0 : Int)), (.int .u8 (0 : Int)), (.int .u8 (0 : Int)), (.int .u8 (0 : Int)), (.int .u8 (0 : Int)), (.int .u8 (0 : Int)), (.int .u8 (0 : Int)), (.int .u8 (0 : Int)), (.int .u8 (0 : Int)), (.slice none 0 0)]) ∧
 bindW (stRow w72 ⟨w.heap.size, 0, none⟩ #[(.int .i64 (0 : Int)), (.bool false), (.int .i64 (0 : Int)), (.int .i64 (0 : Int)), (.int .u32 (0 : Int)), (.int .u32 (0 : Int)), (.int .u32 (0 : Int)), (.int .u32 (0 : Int)), (.int .u32 (0 : Int)), (.int .u32 (0 : Int)), (.int .u8 (0 : Int)), (.int .u8 (0 : Int)), (.int .u8 (0 : Int)), (.int .u8 (0 : Int)), (.int .u8 (0 : Int)), (.int .u8 (0 : Int)), (.int .u8 (0 : Int)), (.int .u8 (0 : Int)), (.int .u8 (0 : Int)), (.int .u8 (0 : Int)), (.int .u8 (0 : Int)), (.int .u8 (0 : Int)), (.int .u8 (0 : Int)), (.int .u8 (0 : Int)), (.int .u8 (0 : Int)), (.int .u8 (0 : Int)), (.slice none 0 0)]) fun w101 =>
 ∃ (n102 : Int) (b103 : Bool) (n104 : Int) (n105 : Int) (n106 : Int) (n107 : Int) (n108 : Int) (n109 : Int) (n110 : Int) (n111 : Int) (n112 : Int) (n113 : Int) (n114 : Int) (n115 : Int) (n116 : Int) (n117 : Int) (n118 : Int) (n119 : Int) (n120 : Int) (n121 : Int) (n122 : Int) (n123 : Int) (n124 : Int) (n125 : Int) (n126 : Int) (n127 : Int) (v128 : Value), (ldCells w101 ⟨w.heap.size, 0, none⟩ 27 #[(.int .i64 n102), (.bool b103), (.int .i64 n104), (.int .i64 n105), (.int .u32 n106), (.int .u32 n107), (.int .u32 n108), (.int .u32 n109), (.int .u32 n110), (.int .u32 n111), (.int .u8 n112), (.int .u8 n113), (.int .u8 n114), (.int .u8 n115), (.int .u8 n116), (.int .u8 n117), (.int .u8 n118), (.int .u8 n119), (.int .u8 n120), (.int .u8 n121), (.int .u8 n122), (.int .u8 n123), (.int .u8 n124), (.int .u8 n125), (.int .u8 n126), (.int .u8 n127), v128]) ∧
 R (.tuple #[(.agg #[(.int .i64 n102), (.bool b103), (.int .i64 n104), (.int .i64 n105), (.int .u32 n106), (.int .u32 n107), (.int .u32 n108), (.int .u32 n109), (.int .u32 n110), (.int .u32 n111), (.int .u8 n112), (.int .u8 n113), (.int .u8 n114), (.int .u8 n115), (.int .u8 n116), (.int .u8 n117), (.int .u8 n118), (.int .u8 n119), (.int .u8 n120), (.int .u8 n121), (.int .u8 n122), (.int .u8 n123), (.int .u8 n124), (.int .u8 n125), (.int .u8 n126), (.int .u8 n127), v128]), (.int .i64 (0 : Int)), (.int .i64 (5 : Int))]) w101)
 (bindW (World.drew w72) fun w129 =>
 ∃ (a130 : Addr), ((Go.CW.sliceAt p0 (0 : Int) 1) = (some a130)) ∧
 ∃ (n131 : Int), ((Go.World.cell? w129 a130) = (some (.int .u8 n131))) ∧
 ∃ (a132 : Addr), ((Go.CW.sliceAt p0 (1 : Int) 1) = (some a132)) ∧
 ∃ (n133 : Int), ((Go.World.cell? w129 a132) = (some (.int .u8 n133))) ∧
 ∃ (a134 : Addr), ((Go.CW.sliceAt p0 (1 : Int) 1) = (some a134)) ∧
 ∃ (n135 : Int), ((Go.World.cell? w129 a134) = (some (.int .u8 n135))) ∧
 ∃ (a136 : Addr), ((Go.CW.sliceAt p0 (2 : Int) 1) = (some a136)) ∧
 ∃ (n137 : Int), ((Go.World.cell? w129 a136) = (some (.int .u8 n137))) ∧
 ∃ (v138 : Value), ((Go.CW.subSlice p0 1 (some (.int .i64 (32 : Int))) none none) = (some v138)) ∧
 ∃ (v139 : Value), ((Sem.run @Go.Proofs.Try.prog (Go.Instr.arrayAt 23 v138) w129) = (.ok v139 w129)) ∧
 withAddr v139 fun a140 =>
 ∃ (n141 : Int) (n142 : Int) (n143 : Int) (n144 : Int) (n145 : Int) (n146 : Int) (n147 : Int) (n148 : Int) (n149 : Int) (n150 : Int) (n151 : Int) (n152 : Int) (n153 : Int) (n154 : Int) (n155 : Int) (n156 : Int), (ldCells w129 a140 16 #[(.int .u8 n141), (.int .u8 n142), (.int .u8 n143), (.int .u8 n144), (.int .u8 n145), (.int .u8 n146), (.int .u8 n147), (.int .u8 n148), (.int .u8 n149), (.int .u8 n150), (.int .u8 n151), (.int .u8 n152), (.int .u8 n153), (.int .u8 n154), (.int .u8 n155), (.int .u8 n156)]) ∧
 bindW (World.drew w72) fun w157 =>
 (∃ (n158 : Int), ((Go.World.cell? (World.alloc w157 (.cells #[(.int .i64 (0 : Int)), (.bool false), (.int .i64 (0 : Int)), (.int .i64 (0 : Int)), (.int .u32 (0 : Int)), (.int .u32 (0 : Int)), (.int .u32 (0 : Int)), (.int .u32 (0 : Int)), (.int .u32 (0 : Int)), (.int .u32 (0 : Int)), (.int .u8 (0 : Int)), (.int .u8 (0 : Int)), (.int .u8 (0 : Int)), (.int .u8 (0 : Int)), (.int .u8 (0 : Int)), (.int .u8 (0 : Int)), (.int .u8 (0 : Int)), (.int .u8 (0 : Int)), (.int .u8 (0 : Int)), (.int .u8 (0 : Int)), (.int .u8 (0 : Int)), (.int .u8 (0 : Int)), (.int .u8 (0 : Int)), (.int .u8 (0 : Int)), (.int .u8 (0 : Int)), (.int .u8 (0 : Int)), (.slice none 0 0)] 26)) a130) = (some (.int .u8 n158))) ∧
 ((.int .u8 n158) : Value) = (.int .u8 n131)) ∧
 (∃ (n159 : Int), ((Go.World.cell? (World.alloc w157 (.cells #[(.int .i64 (0 : Int)), (.bool false), (.int .i64 (0 : Int)), (.int .i64 (0 : Int)), (.int .u32 (0 : Int)), (.int .u32 (0 : Int)), (.int .u32 (0 : Int)), (.int .u32 (0 : Int)), (.int .u32 (0 : Int)), (.int .u32 (0 : Int)), (.int .u8 (0 : Int)), (.int .u8 (0 : Int)), (.int .u8 (0 : Int)), (.int .u8 (0 : Int)), (.int .u8 (0 : Int)), (.int .u8 (0 : Int)), (.int .u8 (0 : Int)), (.int .u8 (0 : Int)), (.int .u8 (0 : Int)), (.int .u8 (0 : Int)), (.int .u8 (0 : Int)), (.int .u8 (0 : Int)), (.int .u8 (0 : Int)), (.int .u8 (0 : Int)), (.int .u8 (0 : Int)), (.int .u8 (0 : Int)), (.slice none 0 0)] 26)) a132) = (some (.int .u8 n159))) ∧
 ((.int .u8 n159) : Value) = (.int .u8 n133)) ∧
 (∃ (n160 : Int), ((Go.World.cell? (World.alloc w157 (.cells #[(.int .i64 (0 : Int)), (.bool false), (.int .i64 (0 : Int)), (.int .i64 (0 : Int)), (.int .u32 (0 : Int)), (.int .u32 (0 : Int)), (.int .u32 (0 : Int)), (.int .u32 (0 : Int)), (.int .u32 (0 : Int)), (.int .u32 (0 : Int)), (.int .u8 (0 : Int)), (.int .u8 (0 : Int)), (.int .u8 (0 : Int)), (.int .u8 (0 : Int)), (.int .u8 (0 : Int)), (.int .u8 (0 : Int)), (.int .u8 (0 : Int)), (.int .u8 (0 : Int)), (.int .u8 (0 : Int)), (.int .u8 (0 : Int)), (.int .u8 (0 : Int)), (.int .u8 (0 : Int)), (.int .u8 (0 : Int)), (.int .u8 (0 : Int)), (.int .u8 (0 : Int)), (.int .u8 (0 : Int)), (.slice none 0 0)] 26)) a134) = (some (.int .u8 n160))) ∧
 ((.int .u8 n160) : Value) = (.int .u8 n135)) ∧
 (∃ (n161 : Int), ((Go.World.cell? (World.alloc w157 (.cells #[(.int .i64 (0 : Int)), (.bool false), (.int .i64 (0 : Int)), (.int .i64 (0 : Int)), (.int .u32 (0 : Int)), (.int .u32 (0 : Int)), (.int .u32 (0 : Int)), (.int .u32 (0 : Int)), (.int .u32 (0 : Int)), (.int .u32 (0 : Int)), (.int .u8 (0 : Int)), (.int .u8 (0 : Int)), (.int .u8 (0 : Int)), (.int .u8 (0 : Int)), (.int .u8 (0 : Int)), (.int .u8 (0 : Int)), (.int .u8 (0 : Int)), (.int .u8 (0 : Int)), (.int .u8 (0 : Int)), (.int .u8 (0 : Int)), (.int .u8 (0 : Int)), (.int .u8 (0 : Int)), (.int .u8 (0 : Int)), (.int .u8 (0 : Int)), (.int .u8 (0 : Int)), (.int .u8 (0 : Int)), (.slice none 0 0)] 26)) a136) = (some (.int .u8 n161))) ∧
 ((.int .u8 n161) : Value) = (.int .u8 n137)) ∧
 (∃ (v162 : Value), ((Sem.run @Go.Proofs.Try.prog (Go.Instr.arrayAt 23 v138) (World.alloc w157 (.cells #[(.int .i64 (0 : Int)), (.bool false), (.int .i64 (0 : Int)), (.int .i64 (0 : Int)), (.int .u32 (0 : Int)), (.int .u32 (0 : Int)), (.int .u32 (0 : Int)), (.int .u32 (0 : Int)), (.int .u32 (0 : Int)), (.int .u32 (0 : Int)), (.int .u8 (0 : Int)), (.int .u8 (0 : Int)), (.int .u8 (0 : Int)), (.int .u8 (0 : Int)), (.int .u8 (0 : Int)), (.int .u8 (0 : Int)), (.int .u8 (0 : Int)), (.int .u8 (0 : Int)), (.int .u8 (0 : Int)), (.int .u8 (0 : Int)), (.int .u8 (0 : Int)), (.int .u8 (0 : Int)), (.int .u8 (0 : Int)), (.int .u8 (0 : Int)), (.int .u8 (0 : Int)), (.int .u8 (0 : Int)), (.slice none 0 0)] 26))) = (.ok v162 (World.alloc w157 (.cells #[(.int .i64 (0 : Int)), (.bool false), (.int .i64 (0 : Int)), (.int .i64 (0 : Int)), (.int .u32 (0 : Int)), (.int .u32 (0 : Int)), (.int .u32 (0 : Int)), (.int .u32 (0 : Int)), (.int .u32 (0 : Int)), (.int .u32 (0 : Int)), (.int .u8 (0 : Int)), (.int .u8 (0 : Int)), (.int .u8 (0 : Int)), (.int .u8 (0 : Int)), (.int .u8 (0 : Int)), (.int .u8 (0 : Int)), (.int .u8 (0 : Int)), (.int .u8 (0 : Int)), (.int .u8 (0 : Int)), (.int .u8 (0 : Int)), (.int .u8 (0 : Int)), (.int .u8 (0 : Int)), (.int .u8 (0 : Int)), (.int .u8 (0 : Int)), (.int .u8 (0 : Int)), (.int .u8 (0 : Int)), (.slice none 0 0)] 26)))) ∧
 (v162 : Value) = v139) ∧
 (withAddr v139 fun a163 =>
 ∃ (n164 : Int) (n165 : Int) (n166 : Int) (n167 : Int) (n168 : Int) (n169 : Int) (n170 : Int) (n171 : Int) (n172 : Int) (n173 : Int) (n174 : Int) (n175 : Int) (n176 : Int) (n177 : Int) (n178 : Int) (n179 : Int), (ldCells (World.alloc w157 (.cells #[(.int .i64 (0 : Int)), (.bool false), (.int .i64 (0 : Int)), (.int .i64 (0 : Int)), (.int .u32 (0 : Int)), (.int .u32 (0 : Int)), (.int .u32 (0 : Int)), (.int .u32 (0 : Int)), (.int .u32 (0 : Int)), (.int .u32 (0 : Int)), (.int .u8 (0 : Int)), (.int .u8 (0 : Int)), (.int .u8 (0 : Int)), (.int .u8 (0 : Int)), (.int .u8 (0 : Int)), (.int .u8 (0 : Int)), (.int .u8 (0 : Int)), (.int .u8 (0 : Int)), (.int .u8 (0 : Int)), (.int .u8 (0 : Int)), (.int .u8 (0 : Int)), (.int .u8 (0 : Int)), (.int .u8 (0 : Int)), (.int .u8 (0 : Int)), (.int .u8 (0 : Int)), (.int .u8 (0 : Int)), (.slice none 0 0)] 26)) a163 16 #[(.int .u8 n164), (.int .u8 n165), (.int .u8 n166), (.int .u8 n167), (.int .u8 n168), (.int .u8 n169), (.int .u8 n170), (.int .u8 n171), (.int .u8 n172), (.int .u8 n173), (.int .u8 n174), (.int .u8 n175), (.int .u8 n176), (.int .u8 n177), (.int .u8 n178), (.int .u8 n179)]) ∧
 ((.agg #[(.int .u8 n164), (.int .u8 n165), (.int .u8 n166), (.int .u8 n167), (.int .u8 n168), (.int .u8 n169), (.int .u8 n170), (.int .u8 n171), (.int .u8 n172), (.int .u8 n173), (.int .u8 n174), (.int .u8 n175), (.int .u8 n176), (.int .u8 n177), (.int .u8 n178), (.int .u8 n179)]) : Value) = (.agg #[(.int .u8 n141), (.int .u8 n142), (.int .u8 n143), (.int .u8 n144), (.int .u8 n145), (.int .u8 n146), (.int .u8 n147), (.int .u8 n148), (.int .u8 n149), (.int .u8 n150), (.int .u8 n151), (.int .u8 n152), (.int .u8 n153), (.int .u8 n154), (.int .u8 n155), (.int .u8 n156)])) ∧
 bindW (World.alloc w157 (.cells #[(.int .i64 (0 : Int)), (.bool false), (.int .i64 (0 : Int)), (.int .i64 (0 : Int)), (.int .u32 (0 : Int)), (.int .u32 (0 : Int)), (.int .u32 (0 : Int)), (.int .u32 (0 : Int)), (.int .u32 (0 : Int)), (.int .u32 (0 : Int)), (.int .u8 (0 : Int)), (.int .u8 (0 : Int)), (.int .u8 (0 : Int)), (.int .u8 (0 : Int)), (.int .u8 (0 : Int)), (.int .u8 (0 : Int)), (.int .u8 (0 : Int)), (.int .u8 (0 : Int)), (.int .u8 (0 : Int)), (.int .u8 (0 : Int)), (.int .u8 (0 : Int)), (.int .u8 (0 : Int)), (.int .u8 (0 : Int)), (.int .u8 (0 : Int)), (.int .u8 (0 : Int)), (.int .u8 (0 : Int)), (.slice none 0 0)] 26)) fun w180 =>
 bindW (World.alloc w157 (.cells #[(.int .i64 (0 : Int)), (.bool false), (.int .i64 (0 : Int)), (.int .i64 (0 : Int)), (.int .u32 (0 : Int)), (.int .u32 (0 : Int)), (.int .u32 (0 : Int)), (.int .u32 (0 : Int)), (.int .u32 (0 : Int)), (.int .u32 (0 : Int)), (.int .u8 (0 : Int)), (.int .u8 (0 : Int)), (.int .u8 (0 : Int)), (.int .u8 (0 : Int)), (.int .u8 (0 : Int)), (.int .u8 (0 : Int)), (.int .u8 (0 : Int)), (.int .u8 (0 : Int)), (.int .u8 (0 : Int)), (.int .u8 (0 : Int)), (.int .u8 (0 : Int)), (.int .u8 (0 : Int)), (.int .u8 (0 : Int)), (.int .u8 (0 : Int)), (.int .u8 (0 : Int)), (.int .u8 (0 : Int)), (.slice none 0 0)] 26)) fun w181 =>
 (StRow w181 ⟨w157.heap.size, 0, none⟩ #[(.int .i64 (IntKind.wrap .i64 n131)), (.bool ((bitsI .and .u8 n133 (128 : Int)) != (0 : Int))), (.int .i64 (IntKind.wrap .i64 (bitsI .andNot .u8 n135 (128 : Int)))), (.int .i64 (IntKind.wrap .i64 n137)), (.int .u32 (0 : Int)), (.int .u32 (0 : Int)), (.int .u32 (0 : Int)), (.int .u32 (0 : Int)), (.int .u32 (0 : Int)), (.int .u32 (0 : Int)), (.int .u8 n141), (.int .u8 n142), (.int .u8 n143), (.int .u8 n144), (.int .u8 n145), (.int .u8 n146), (.int .u8 n147), (.int .u8 n148), (.int .u8 n149), (.int .u8 n150), (.int .u8 n151), (.int .u8 n152), (.int .u8 n153), (.int .u8 n154), (.int .u8 n155), (.int .u8 n156), (.slice none 0 0)]) ∧
 bindW (stRow w181 ⟨w157.heap.size, 0, none⟩ #[(.int .i64 (IntKind.wrap .i64 n131)), (.bool ((bitsI .and .u8 n133 (128 : Int)) != (0 : Int))), (.int .i64 (IntKind.wrap .i64 (bitsI .andNot .u8 n135 (128 : Int)))), (.int .i64 (IntKind.wrap .i64 n137)), (.int .u32 (0 : Int)), (.int .u32 (0 : Int)), (.int .u32 (0 : Int)), (.int .u32 (0 : Int)), (.int .u32 (0 : Int)), (.int .u32 (0 : Int)), (.int .u8 n141), (.int .u8 n142), (.int .u8 n143), (.int .u8 n144), (.int .u8 n145), (.int .u8 n146), (.int .u8 n147), (.int .u8 n148), (.int .u8 n149), (.int .u8 n150), (.int .u8 n151), (.int .u8 n152), (.int .u8 n153), (.int .u8 n154), (.int .u8 n155), (.int .u8 n156), (.slice none 0 0)]) fun w182 =>
 bindW (stRow w181 ⟨w157.heap.size, 0, none⟩ #[(.int .i64 (IntKind.wrap .i64 n131)), (.bool ((bitsI .and .u8 n133 (128 : Int)) != (0 : Int))), (.int .i64 (IntKind.wrap .i64 (bitsI .andNot .u8 n135 (128 : Int)))), (.int .i64 (IntKind.wrap .i64 n137)), (.int .u32 (0 : Int)), (.int .u32 (0 : Int)), (.int .u32 (0 : Int)), (.int .u32 (0 : Int)), (.int .u32 (0 : Int)), (.int .u32 (0 : Int)), (.int .u8 n141), (.int .u8 n142), (.int .u8 n143), (.int .u8 n144), (.int .u8 n145), (.int .u8 n146), (.int .u8 n147), (.int .u8 n148), (.int .u8 n149), (.int .u8 n150), (.int .u8 n151), (.int .u8 n152), (.int .u8 n153), (.int .u8 n154), (.int .u8 n155), (.int .u8 n156), (.slice none 0 0)]) fun w183 =>
 bindW (World.alloc w183 (.cells #[(.pointer (some (Addr.add ⟨w157.heap.size, 0, none⟩ 4))), (.pointer (some (Addr.add ⟨w157.heap.size, 0, none⟩ 5))), (.pointer (some (Addr.add ⟨w157.heap.size, 0, none⟩ 6))), (.pointer (some (Addr.add ⟨w157.heap.size, 0, none⟩ 7))), (.pointer (some (Addr.add ⟨w157.heap.size, 0, none⟩ 8))), (.pointer (some (Addr.add ⟨w157.heap.size, 0, none⟩ 9)))] 63)) fun w184 =>
 ∃ (m185 : Nat), ((Go.CW.sliceLen (.slice (some ⟨w183.heap.size, 0, none⟩) 6 6)) = (some m185)) ∧
 LoopP [.int .i64]
 (fun j186 => fun (n187 : Int) => fun (w188 : World) =>
 cond (decide (n187 < ((m185 : Nat) : Int)))
 (∃ (a189 : Addr), ((Go.CW.sliceAt (.slice (some ⟨w183.heap.size, 0, none⟩) 6 6) n187 1) = (some a189)) ∧
 ∃ (o190 : Option Addr), ((Go.World.cell? w188 a189) = (some (.pointer o190))) ∧
 Go.CW.Spec Try.prog 33 #[p0, (.int .i64 (IntKind.wrap .i64 ((8 : Int) + (IntKind.wrap .i64 ((4 : Int) * n187))))), (.int .i64 (4 : Int))] w188 fun v191 w192 =>
 ∃ (n193 : Int) (b194 : Bool), ((v191 : Value) = (.tuple #[(.int .u64 n193), (.bool b194)])) ∧
 withAddr (.pointer o190) fun a195 =>
 (St1 w192 a195) ∧
 bindW (World.setCell w192 a195 (.int .u32 (IntKind.wrap .u32 n193))) fun w196 =>
 j186 (IntKind.wrap .i64 (n187 + (1 : Int))) w196)
 (∃ (n197 : Int) (b198 : Bool) (n199 : Int) (n200 : Int) (n201 : Int) (n202 : Int) (n203 : Int) (n204 : Int) (n205 : Int) (n206 : Int) (n207 : Int) (n208 : Int) (n209 : Int) (n210 : Int) (n211 : Int) (n212 : Int) (n213 : Int) (n214 : Int) (n215 : Int) (n216 : Int) (n217 : Int) (n218 : Int) (n219 : Int) (n220 : Int) (n221 : Int) (n222 : Int) (v223 : Value), (ldCells w188 ⟨w157.heap.size, 0, none⟩ 27 #[(.int .i64 n197), (.bool b198), (.int .i64 n199), (.int .i64 n200), (.int .u32 n201), (.int .u32 n202), (.int .u32 n203), (.int .u32 n204), (.int .u32 n205), (.int .u32 n206), (.int .u8 n207), (.int .u8 n208), (.int .u8 n209), (.int .u8 n210), (.int .u8 n211), (.int .u8 n212), (.int .u8 n213), (.int .u8 n214), (.int .u8 n215), (.int .u8 n216), (.int .u8 n217), (.int .u8 n218), (.int .u8 n219), (.int .u8 n220), (.int .u8 n221), (.int .u8 n222), v223]) ∧
 (StRow w188 ⟨w.heap.size, 0, none⟩ #[(.int .i64 n197), (.bool b198), (.int .i64 n199), (.int .i64 n200), (.int .u32 n201), (.int .u32 n202), (.int .u32 n203), (.int .u32 n204), (.int .u32 n205), (.int .u32 n206), (.int .u8 n207), (.int .u8 n208), (.int .u8 n209), (.int .u8 n210), (.int .u8 n211), (.int .u8 n212), (.int .u8 n213), (.int .u8 n214), (.int .u8 n215), (.int .u8 n216), (.int .u8 n217), (.int .u8 n218), (.int .u8 n219), (.int .u8 n220), (.int .u8 n221), (.int .u8 n222), v223]) ∧
 bindW (stRow w188 ⟨w.heap.size, 0, none⟩ #[(.int .i64 n197), (.bool b198), (.int .i64 n199), (.int .i64 n200), (.int .u32 n201), (.int .u32 n202), (.int .u32 n203), (.int .u32 n204), (.int .u32 n205), (.int .u32 n206), (.int .u8 n207), (.int .u8 n208), (.int .u8 n209), (.int .u8 n210), (.int .u8 n211), (.int .u8 n212), (.int .u8 n213), (.int .u8 n214), (.int .u8 n215), (.int .u8 n216), (.int .u8 n217), (.int .u8 n218), (.int .u8 n219), (.int .u8 n220), (.int .u8 n221), (.int .u8 n222), v223]) fun w224 =>
 ∃ (n225 : Int) (b226 : Bool) (n227 : Int) (n228 : Int) (n229 : Int) (n230 : Int) (n231 : Int) (n232 : Int) (n233 : Int) (n234 : Int) (n235 : Int) (n236 : Int) (n237 : Int) (n238 : Int) (n239 : Int) (n240 : Int) (n241 : Int) (n242 : Int) (n243 : Int) (n244 : Int) (n245 : Int) (n246 : Int) (n247 : Int) (n248 : Int) (n249 : Int) (n250 : Int) (v251 : Value), (ldCells w224 ⟨w.heap.size, 0, none⟩ 27 #[(.int .i64 n225), (.bool b226), (.int .i64 n227), (.int .i64 n228), (.int .u32 n229), (.int .u32 n230), (.int .u32 n231), (.int .u32 n232), (.int .u32 n233), (.int .u32 n234), (.int .u8 n235), (.int .u8 n236), (.int .u8 n237), (.int .u8 n238), (.int .u8 n239), (.int .u8 n240), (.int .u8 n241), (.int .u8 n242), (.int .u8 n243), (.int .u8 n244), (.int .u8 n245), (.int .u8 n246), (.int .u8 n247), (.int .u8 n248), (.int .u8 n249), (.int .u8 n250), v251]) ∧
 R (.tuple #[(.agg #[(.int .i64 n225), (.bool b226), (.int .i64 n227), (.int .i64 n228), (.int .u32 n229), (.int .u32 n230), (.int .u32 n231), (.int .u32 n232), (.int .u32 n233), (.int .u32 n234), (.int .u8 n235), (.int .u8 n236), (.int .u8 n237), (.int .u8 n238), (.int .u8 n239), (.int .u8 n240), (.int .u8 n241), (.int .u8 n242), (.int .u8 n243), (.int .u8 n244), (.int .u8 n245), (.int .u8 n246), (.int .u8 n247), (.int .u8 n248), (.int .u8 n249), (.int .u8 n250), v251]), (.int .i64 (IntKind.wrap .i64 n3)), (.int .i64 (0 : Int))]) w224))
 (fun s252 => s252 (0 : Int) w184))))
 (fun j253 =>
 ∃ (a254 : Addr), ((Go.CW.sliceAt p0 (0 : Int) 1) = (some a254)) ∧
 ∃ (n255 : Int), ((Go.World.cell? w41 a254) = (some (.int .u8 n255))) ∧
 Go.CW.Spec Try.prog 17 #[(.int .i64 (IntKind.wrap .i64 n255))] w41 fun v256 w257 =>
 ∃ (b258 : Bool), ((v256 : Value) = (.bool b258)) ∧
 cond (!b258)
 (j253 true w257)
 (∃ (a259 : Addr), ((Go.CW.sliceAt p0 (3 : Int) 1) = (some a259)) ∧
 ∃ (n260 : Int), ((Go.World.cell? w257 a259) = (some (.int .u8 n260))) ∧
 j253 (n260 != (0 : Int)) w257))))

theorem pdu_front_wp (p0 : Value) (w : World) (R : KV) (h : pdu_front_F p0 w R) : Go.CW.Spec Try.prog 23 #[p0] w R :=
  spec_of Try.func23 (by kernel_rfl) (show pdu_front_F p0 w R = _ by kernel_rfl) h

end Go.Proofs.Ytooeeodkaeimeaa
