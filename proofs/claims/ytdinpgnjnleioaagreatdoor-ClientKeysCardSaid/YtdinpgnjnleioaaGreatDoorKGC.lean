/- Texts of this seat, one behind the other: GSes, GCli, GRf, GL21. -/
import Derived.Test.YtdinpgnjnleioaaGreatDoorKNam
set_option linter.unusedVariables false
set_option maxRecDepth 100000
namespace Go.Proofs.YtdinpgnjnleioaaGreatDoor
section
open Go Go.CW
def q118F (p0 : Value) (p1 : Value) (w : World) (R : KV) : Prop :=
 CW.Spec Tryz.prog 28 #[p0] w fun v0 w1 =>
 CW.Spec Tryz.prog 29 #[] w1 fun v2 w3 =>
 ∃ o4, v2 = .pointer o4 ∧
 oneK v0 (oneK p1 (bindW (World.alloc w3 (.cells #[v0, p1, .pointer o4, (.string (ByteArray.mk #[])), .int .i64 0, .int .i64 0, .bool false, .bool false, .bool false, .bool false, .int .u32 0, .int .u32 1, nvc, nvc] 101)) fun w5 =>
 R (.pointer (some ⟨w3.heap.size, 0, none⟩)) w5))
theorem q118W (p0 p1 w R) (h : q118F p0 p1 w R) : CW.Spec Tryz.prog 8 #[p0, p1] w R :=
 sp Tryz.func8 h
def q100F (p0 : Value) (w : World) (R : KV) : Prop :=
 ∃ b0, ((Go.CW.isNilS p0) = (some b0)) ∧
 cond b0
 (R nvc w)
 (bindW (World.alloc w (.cells #[] 9)) fun w1 =>
 ∃ v2 w3, Sem.run Tryz.prog (Builtin.append_ #[27, 27] 27 #[(.slice (some ⟨w.heap.size, 0, none⟩) 0 0), p0]) w1 = .ok v2 w3 ∧
 R v2 w3)
theorem q100W (p0 w R) (h : q100F p0 w R) : CW.Spec Tryz.prog 28 #[p0] w R :=
 sp Tryz.func28 h
def q119F (p0 : Option Addr) (p1 : Value) (w : World) (R : KV) : Prop :=
 withAddr (.pointer p0) fun a0 =>
 St1 w (Addr.add a0 13) ∧
 bindW (World.setCell w (Addr.add a0 13) nvc) fun w1 =>
 withAddr (.pointer p0) fun a2 =>
 ∃ b3, World.cell? w1 (Addr.add a2 9) = some (.bool b3) ∧
 cond b3
 (R nvc w1)
 (withAddr (.pointer p0) fun a4 =>
 ∃ o5, World.cell? w1 (Addr.add a4 2) = some (.pointer o5) ∧
 CW.Spec Tryz.prog 66 #[.pointer o5, p1] w1 fun v6 w7 =>
 v6 = .tuple #[] ∧
 JoinP []
 (fun w8 =>
 withAddr (.pointer p0) fun a9 =>
 ∃ v10, World.cell? w8 (Addr.add a9 13) = some v10 ∧
 CW.Spec Tryz.prog 72 #[v10] w8 fun v11 w12 =>
 withAddr (.pointer p0) fun a13 =>
 St1 w12 (Addr.add a13 13) ∧
 bindW (World.setCell w12 (Addr.add a13 13) nvc) fun w14 =>
 R v11 w14)
 (fun j15 =>
 LoopP []
 (fun j16 w17 =>
 withAddr (.pointer p0) fun a18 =>
 ∃ o19, World.cell? w17 (Addr.add a18 2) = some (.pointer o19) ∧
 CW.Spec Tryz.prog 67 #[.pointer o19] w17 fun v20 w21 =>
 ∃ n22 b23 n24 n25 n26 n27 n28 n29 n30 n31 n32 n33 n34 n35 n36 n37 n38 n39 n40 n41 n42 n43 n44 n45 n46 n47 v48 b49, v20 = .tuple #[(.agg (pdc n22 b23 n24 n25 n26 n27 n28 n29 n30 n31 n32 n33 n34 n35 n36 n37 n38 n39 n40 n41 n42 n43 n44 n45 n46 n47 v48)), .bool b49] ∧
 bindW (World.alloc w21 (.cells (pdc 0 false 0 0 0 0 0 0 0 0 0 0 0 0 0 0 0 0 0 0 0 0 0 0 0 0 nvc) 152)) fun w50 =>
 StRow w50 ⟨w21.heap.size, 0, none⟩ (pdc n22 b23 n24 n25 n26 n27 n28 n29 n30 n31 n32 n33 n34 n35 n36 n37 n38 n39 n40 n41 n42 n43 n44 n45 n46 n47 v48) ∧
 bindW (stRow w50 ⟨w21.heap.size, 0, none⟩ (pdc n22 b23 n24 n25 n26 n27 n28 n29 n30 n31 n32 n33 n34 n35 n36 n37 n38 n39 n40 n41 n42 n43 n44 n45 n46 n47 v48)) fun w51 =>
 JoinP []
 (fun w52 =>
 withAddr (.pointer p0) fun a53 =>
 ∃ b54, World.cell? w52 (Addr.add a53 9) = some (.bool b54) ∧
 cond b54
 (j15 w52)
 (j16 w52))
 (fun j55 =>
 cond (!b49)
 (JoinP []
 (fun w56 =>
 j15 w56)
 (fun j57 =>
 withAddr (.pointer p0) fun a58 =>
 ∃ o59, World.cell? w51 (Addr.add a58 2) = some (.pointer o59) ∧
 CW.Spec Tryz.prog 68 #[.pointer o59] w51 fun v60 w61 =>
 ∃ n62, v60 = .int .i64 n62 ∧
 cond (n62 != 0)
 (CW.Spec Tryz.prog 69 #[.pointer p0] w61 fun v63 w64 =>
 v63 = .tuple #[] ∧
 j57 w64)
 (j57 w61)))
 (withAddr (.pointer p0) fun a65 =>
 ∃ b66, World.cell? w51 (Addr.add a65 8) = some (.bool b66) ∧
 cond b66
 (∃ n67 b68 n69 n70 n71 n72 n73 n74 n75 n76 n77 n78 n79 n80 n81 n82 n83 n84 n85 n86 n87 n88 n89 n90 n91 n92 v93, (ldCells w51 ⟨w21.heap.size, 0, none⟩ 27 (pdc n67 b68 n69 n70 n71 n72 n73 n74 n75 n76 n77 n78 n79 n80 n81 n82 n83 n84 n85 n86 n87 n88 n89 n90 n91 n92 v93)) ∧
 CW.Spec Tryz.prog 70 #[.pointer p0, (.agg (pdc n67 b68 n69 n70 n71 n72 n73 n74 n75 n76 n77 n78 n79 n80 n81 n82 n83 n84 n85 n86 n87 n88 n89 n90 n91 n92 v93))] w51 fun v94 w95 =>
 v94 = .tuple #[] ∧
 j55 w95)
 (∃ n96 b97 n98 n99 n100 n101 n102 n103 n104 n105 n106 n107 n108 n109 n110 n111 n112 n113 n114 n115 n116 n117 n118 n119 n120 n121 v122, (ldCells w51 ⟨w21.heap.size, 0, none⟩ 27 (pdc n96 b97 n98 n99 n100 n101 n102 n103 n104 n105 n106 n107 n108 n109 n110 n111 n112 n113 n114 n115 n116 n117 n118 n119 n120 n121 v122)) ∧
 CW.Spec Tryz.prog 71 #[.pointer p0, (.agg (pdc n96 b97 n98 n99 n100 n101 n102 n103 n104 n105 n106 n107 n108 n109 n110 n111 n112 n113 n114 n115 n116 n117 n118 n119 n120 n121 v122))] w51 fun v123 w124 =>
 v123 = .tuple #[] ∧
 j55 w124))))
 (fun s125 => s125 w7)))
theorem q119W (p0 p1 w R) (h : q119F p0 p1 w R) : CW.Spec Tryz.prog 23 #[.pointer p0, p1] w R :=
 sp Tryz.func23 h
def q122F (p0 : Option Addr) (w : World) (R : KV) : Prop :=
 withAddr (.pointer p0) fun a0 =>
 St1 w (Addr.add a0 9) ∧
 bindW (World.setCell w (Addr.add a0 9) (.bool true)) fun w1 =>
 withAddr (.pointer p0) fun a2 =>
 St1 w1 (Addr.add a2 8) ∧
 bindW (World.setCell w1 (Addr.add a2 8) (.bool false)) fun w3 =>
 CW.Spec Tryz.prog 29 #[] w3 fun v4 w5 =>
 ∃ o6, v4 = .pointer o6 ∧
 withAddr (.pointer p0) fun a7 =>
 St1 w5 (Addr.add a7 12) ∧
 bindW (World.setCell w5 (Addr.add a7 12) nvc) fun w8 =>
 withAddr (.pointer p0) fun a9 =>
 St1 w8 (Addr.add a9 2) ∧
 bindW (World.setCell w8 (Addr.add a9 2) (.pointer o6)) fun w10 =>
 R (.tuple #[]) w10
theorem q122W (p0 w R) (h : q122F p0 w R) : CW.Spec Tryz.prog 69 #[.pointer p0] w R :=
 sp Tryz.func69 h
def q134F (p0 : Option Addr) (p1_0 : Int) (p1_1 : Bool) (p1_2 : Int) (p1_3 : Int) (p1_4 : Int) (p1_5 : Int) (p1_6 : Int) (p1_7 : Int) (p1_8 : Int) (p1_9 : Int) (p1_10 : Int) (p1_11 : Int) (p1_12 : Int) (p1_13 : Int) (p1_14 : Int) (p1_15 : Int) (p1_16 : Int) (p1_17 : Int) (p1_18 : Int) (p1_19 : Int) (p1_20 : Int) (p1_21 : Int) (p1_22 : Int) (p1_23 : Int) (p1_24 : Int) (p1_25 : Int) (p1_26 : Value) (w : World) (R : KV) : Prop :=
 bindW (World.alloc w (.cells (pdc p1_0 p1_1 p1_2 p1_3 p1_4 p1_5 p1_6 p1_7 p1_8 p1_9 p1_10 p1_11 p1_12 p1_13 p1_14 p1_15 p1_16 p1_17 p1_18 p1_19 p1_20 p1_21 p1_22 p1_23 p1_24 p1_25 p1_26) 152)) fun w0 =>
 ∃ n1, World.cell? w0 (Addr.add ⟨w.heap.size, 0, none⟩ 0) = some (.int .i64 n1) ∧
 JoinP []
 (fun w2 =>
 R (.tuple #[]) w2)
 (fun j3 =>
 cond (n1 == 1)
 (bindW (World.drew w0) fun w4 =>
 ∃ n5, World.cell? w4 (Addr.add ⟨w.heap.size, 0, none⟩ 5) = some (.int .u32 n5) ∧
 withAddr (.pointer p0) fun a6 =>
 ∃ n7, World.cell? w4 (Addr.add a6 10) = some (.int .u32 n7) ∧
 bindW (World.drew w0) fun w8 =>
 cond (n5 == n7)
 (withAddr (.pointer p0) fun a9 =>
 ∃ n10, World.cell? w8 (Addr.add a9 10) = some (.int .u32 n10) ∧
 withAddr (.pointer p0) fun a11 =>
 St1 w8 (Addr.add a11 10) ∧
 bindW (World.setCell w8 (Addr.add a11 10) (.int .u32 (IntKind.wrap .u32 (n10 + 1)))) fun w12 =>
 ∃ n13 b14 n15 n16 n17 n18 n19 n20 n21 n22 n23 n24 n25 n26 n27 n28 n29 n30 n31 n32 n33 n34 n35 n36 n37 n38 v39, (ldCells w12 ⟨w.heap.size, 0, none⟩ 27 (pdc n13 b14 n15 n16 n17 n18 n19 n20 n21 n22 n23 n24 n25 n26 n27 n28 n29 n30 n31 n32 n33 n34 n35 n36 n37 n38 v39)) ∧
 CW.Spec Tryz.prog 109 #[.pointer p0, (.agg (pdc n13 b14 n15 n16 n17 n18 n19 n20 n21 n22 n23 n24 n25 n26 n27 n28 n29 n30 n31 n32 n33 n34 n35 n36 n37 n38 v39))] w12 fun v40 w41 =>
 v40 = .tuple #[] ∧
 j3 w41)
 (j3 w8))
 (cond (n1 == 5)
 (∃ n42 b43 n44 n45 n46 n47 n48 n49 n50 n51 n52 n53 n54 n55 n56 n57 n58 n59 n60 n61 n62 n63 n64 n65 n66 n67 v68, (ldCells w0 ⟨w.heap.size, 0, none⟩ 27 (pdc n42 b43 n44 n45 n46 n47 n48 n49 n50 n51 n52 n53 n54 n55 n56 n57 n58 n59 n60 n61 n62 n63 n64 n65 n66 n67 v68)) ∧
 CW.Spec Tryz.prog 110 #[.pointer p0, (.agg (pdc n42 b43 n44 n45 n46 n47 n48 n49 n50 n51 n52 n53 n54 n55 n56 n57 n58 n59 n60 n61 n62 n63 n64 n65 n66 n67 v68))] w0 fun v69 w70 =>
 v69 = .tuple #[] ∧
 j3 w70)
 (cond (n1 == 0)
 (bindW (World.drew w0) fun w71 =>
 ∃ n72, World.cell? w71 (Addr.add ⟨w.heap.size, 0, none⟩ 4) = some (.int .u32 n72) ∧
 ∃ v73, World.cell? w71 (Addr.add ⟨w.heap.size, 0, none⟩ 26) = some v73 ∧
 oneK v73 (bindW (World.drew w0) fun w74 =>
 CW.Spec Tryz.prog 111 #[.pointer p0, .int .i64 32] w74 fun v75 w76 =>
 (∃ n77, World.cell? w76 (Addr.add ⟨w.heap.size, 0, none⟩ 4) = some (.int .u32 n77) ∧
 ((.int .u32 n77) : Value) = (.int .u32 n72)) ∧
 (∃ v78, World.cell? w76 (Addr.add ⟨w.heap.size, 0, none⟩ 26) = some v78 ∧
 (v78 : Value) = v73) ∧
 CW.callU Tryz.prog v75 #[(.agg (pdc 0 false 0 0 n72 0 0 0 0 0 0 0 0 0 0 0 0 0 0 0 0 0 0 0 0 0 v73))] w76 fun v79 w80 =>
 v79 = .tuple #[] ∧
 j3 w80))
 (cond (n1 == 2)
 (∃ n81 b82 n83 n84 n85 n86 n87 n88 n89 n90 n91 n92 n93 n94 n95 n96 n97 n98 n99 n100 n101 n102 n103 n104 n105 n106 v107, (ldCells w0 ⟨w.heap.size, 0, none⟩ 27 (pdc n81 b82 n83 n84 n85 n86 n87 n88 n89 n90 n91 n92 n93 n94 n95 n96 n97 n98 n99 n100 n101 n102 n103 n104 n105 n106 v107)) ∧
 CW.Spec Tryz.prog 112 #[.pointer p0, (.agg (pdc n81 b82 n83 n84 n85 n86 n87 n88 n89 n90 n91 n92 n93 n94 n95 n96 n97 n98 n99 n100 n101 n102 n103 n104 n105 n106 v107))] w0 fun v108 w109 =>
 v108 = .tuple #[] ∧
 j3 w109)
 (cond (n1 == 6)
 (bindW (World.drew w0) fun w110 =>
 ∃ n111, World.cell? w110 (Addr.add ⟨w.heap.size, 0, none⟩ 4) = some (.int .u32 n111) ∧
 bindW (World.drew w0) fun w112 =>
 CW.Spec Tryz.prog 111 #[.pointer p0, .int .i64 38] w112 fun v113 w114 =>
 (∃ n115, World.cell? w114 (Addr.add ⟨w.heap.size, 0, none⟩ 4) = some (.int .u32 n115) ∧
 ((.int .u32 n115) : Value) = (.int .u32 n111)) ∧
 CW.callU Tryz.prog v113 #[(.agg (pdc 0 false 0 0 n111 0 0 0 0 0 0 0 0 0 0 0 0 0 0 0 0 0 0 0 0 0 nvc))] w114 fun v116 w117 =>
 v116 = .tuple #[] ∧
 CW.Spec Tryz.prog 69 #[.pointer p0] w117 fun v118 w119 =>
 v118 = .tuple #[] ∧
 j3 w119)
 (∃ n120 b121 n122 n123 n124 n125 n126 n127 n128 n129 n130 n131 n132 n133 n134 n135 n136 n137 n138 n139 n140 n141 n142 n143 n144 n145 v146, (ldCells w0 ⟨w.heap.size, 0, none⟩ 27 (pdc n120 b121 n122 n123 n124 n125 n126 n127 n128 n129 n130 n131 n132 n133 n134 n135 n136 n137 n138 n139 n140 n141 n142 n143 n144 n145 v146)) ∧
 CW.Spec Tryz.prog 113 #[.pointer p0, (.agg (pdc n120 b121 n122 n123 n124 n125 n126 n127 n128 n129 n130 n131 n132 n133 n134 n135 n136 n137 n138 n139 n140 n141 n142 n143 n144 n145 v146))] w0 fun v147 w148 =>
 v147 = .tuple #[] ∧
 j3 w148))))))
theorem q134W (p0 p1_0 p1_1 p1_2 p1_3 p1_4 p1_5 p1_6 p1_7 p1_8 p1_9 p1_10 p1_11 p1_12 p1_13 p1_14 p1_15 p1_16 p1_17 p1_18 p1_19 p1_20 p1_21 p1_22 p1_23 p1_24 p1_25 p1_26 w R) (h : q134F p0 p1_0 p1_1 p1_2 p1_3 p1_4 p1_5 p1_6 p1_7 p1_8 p1_9 p1_10 p1_11 p1_12 p1_13 p1_14 p1_15 p1_16 p1_17 p1_18 p1_19 p1_20 p1_21 p1_22 p1_23 p1_24 p1_25 p1_26 w R) : CW.Spec Tryz.prog 70 #[.pointer p0, (.agg (pdc p1_0 p1_1 p1_2 p1_3 p1_4 p1_5 p1_6 p1_7 p1_8 p1_9 p1_10 p1_11 p1_12 p1_13 p1_14 p1_15 p1_16 p1_17 p1_18 p1_19 p1_20 p1_21 p1_22 p1_23 p1_24 p1_25 p1_26))] w R :=
 sp Tryz.func70 h
def q126F (p0 : Option Addr) (p1_0 : Int) (p1_1 : Bool) (p1_2 : Int) (p1_3 : Int) (p1_4 : Int) (p1_5 : Int) (p1_6 : Int) (p1_7 : Int) (p1_8 : Int) (p1_9 : Int) (p1_10 : Int) (p1_11 : Int) (p1_12 : Int) (p1_13 : Int) (p1_14 : Int) (p1_15 : Int) (p1_16 : Int) (p1_17 : Int) (p1_18 : Int) (p1_19 : Int) (p1_20 : Int) (p1_21 : Int) (p1_22 : Int) (p1_23 : Int) (p1_24 : Int) (p1_25 : Int) (p1_26 : Value) (w : World) (R : KV) : Prop :=
 bindW (World.alloc w (.cells (pdc p1_0 p1_1 p1_2 p1_3 p1_4 p1_5 p1_6 p1_7 p1_8 p1_9 p1_10 p1_11 p1_12 p1_13 p1_14 p1_15 p1_16 p1_17 p1_18 p1_19 p1_20 p1_21 p1_22 p1_23 p1_24 p1_25 p1_26) 152)) fun w0 =>
 ∃ n1, World.cell? w0 (Addr.add ⟨w.heap.size, 0, none⟩ 0) = some (.int .i64 n1) ∧
 cond (n1 != 3)
 (CW.Spec Tryz.prog 69 #[.pointer p0] w0 fun v2 w3 =>
 v2 = .tuple #[] ∧
 R (.tuple #[]) w3)
 (JoinP [.int .i64, .val]
 (fun (n4 : Int) => fun v5 w6 =>
 JoinP [.int .i64, .val]
 (fun (n7 : Int) => fun v8 w9 =>
 ∃ n10, World.cell? w9 (Addr.add ⟨w.heap.size, 0, none⟩ 5) = some (.int .u32 n10) ∧
 withAddr (.pointer p0) fun a11 =>
 St1 w9 (Addr.add a11 10) ∧
 bindW (World.setCell w9 (Addr.add a11 10) (.int .u32 (IntKind.wrap .u32 (n10 + 1)))) fun w12 =>
 bindW (World.drew w12) fun w13 =>
 ∃ n14, World.cell? w13 (Addr.add ⟨w.heap.size, 0, none⟩ 4) = some (.int .u32 n14) ∧
 oneK v8 (bindW (World.drew w12) fun w15 =>
 CW.Spec Tryz.prog 111 #[.pointer p0, .int .i64 35] w15 fun v16 w17 =>
 (∃ n18, World.cell? w17 (Addr.add ⟨w.heap.size, 0, none⟩ 4) = some (.int .u32 n18) ∧
 ((.int .u32 n18) : Value) = (.int .u32 n14)) ∧
 CW.callU Tryz.prog v16 #[(.agg (pdc 0 true 0 n7 n14 0 0 0 0 0 0 0 0 0 0 0 0 0 0 0 0 0 0 0 0 0 v8))] w17 fun v19 w20 =>
 v19 = .tuple #[] ∧
 withAddr (.pointer p0) fun a21 =>
 St1 w20 (Addr.add a21 8) ∧
 bindW (World.setCell w20 (Addr.add a21 8) (.bool (n7 == 0))) fun w22 =>
 withAddr (.pointer p0) fun a23 =>
 ∃ b24, World.cell? w22 (Addr.add a23 8) = some (.bool b24) ∧
 cond (!b24)
 (withAddr (.pointer p0) fun a25 =>
 StRow w22 (Addr.add a25 3) #[(.string (ByteArray.mk #[])), .int .i64 0, .int .i64 0, .bool false, .bool false] ∧
 bindW (stRow w22 (Addr.add a25 3) #[(.string (ByteArray.mk #[])), .int .i64 0, .int .i64 0, .bool false, .bool false]) fun w26 =>
 CW.Spec Tryz.prog 69 #[.pointer p0] w26 fun v27 w28 =>
 v27 = .tuple #[] ∧
 R (.tuple #[]) w28)
 (R (.tuple #[]) w22)))
 (fun j29 =>
 cond (n4 == 0)
 (CW.Spec Tryz.prog 88 #[v5] w6 fun v30 w31 =>
 ∃ v32 n33, v30 = .tuple #[v32, .int .i64 n33] ∧
 cond (n33 != 0)
 (j29 (1 : Int) v32 w31)
 (j29 n4 v32 w31))
 (j29 n4 nvc w6)))
 (fun j34 =>
 ∃ v35, World.cell? w0 (Addr.add ⟨w.heap.size, 0, none⟩ 26) = some v35 ∧
 CW.Spec Tryz.prog 114 #[v35] w0 fun v36 w37 =>
 ∃ v38 n39, v36 = .tuple #[v38, .int .i64 n39] ∧
 cond (n39 == 0)
 (bindW (World.drew w37) fun w40 =>
 withAddr (.pointer p0) fun a41 =>
 ∃ v42, World.cell? w40 (Addr.add a41 0) = some v42 ∧
 bindW (World.drew w37) fun w43 =>
 CW.Spec Tryz.prog 116 #[] w43 fun v44 w45 =>
 ∃ s46 n47 n48 b49 b50, v44 = .agg #[(.string s46), .int .i64 n47, .int .i64 n48, .bool b49, .bool b50] ∧
 (∃ v51, World.cell? w45 (Addr.add a41 0) = some v51 ∧
 (v51 : Value) = v42) ∧
 CW.Spec Tryz.prog 115 #[(.agg #[(.string s46), .int .i64 n47, .int .i64 n48, .bool b49, .bool b50]), v42, v38] w45 fun v52 w53 =>
 ∃ v54 s55 n56 n57 b58 b59 n60, v52 = .tuple #[v54, (.agg #[(.string s55), .int .i64 n56, .int .i64 n57, .bool b58, .bool b59]), .int .i64 n60] ∧
 withAddr (.pointer p0) fun a61 =>
 StRow w53 (Addr.add a61 3) #[(.string s55), .int .i64 n56, .int .i64 n57, .bool b58, .bool b59] ∧
 bindW (stRow w53 (Addr.add a61 3) #[(.string s55), .int .i64 n56, .int .i64 n57, .bool b58, .bool b59]) fun w62 =>
 bindW (stRow w53 (Addr.add a61 3) #[(.string s55), .int .i64 n56, .int .i64 n57, .bool b58, .bool b59]) fun w63 =>
 j34 n60 v54 w63)
 (j34 (1 : Int) nvc w37)))
theorem q126W (p0 p1_0 p1_1 p1_2 p1_3 p1_4 p1_5 p1_6 p1_7 p1_8 p1_9 p1_10 p1_11 p1_12 p1_13 p1_14 p1_15 p1_16 p1_17 p1_18 p1_19 p1_20 p1_21 p1_22 p1_23 p1_24 p1_25 p1_26 w R) (h : q126F p0 p1_0 p1_1 p1_2 p1_3 p1_4 p1_5 p1_6 p1_7 p1_8 p1_9 p1_10 p1_11 p1_12 p1_13 p1_14 p1_15 p1_16 p1_17 p1_18 p1_19 p1_20 p1_21 p1_22 p1_23 p1_24 p1_25 p1_26 w R) : CW.Spec Tryz.prog 71 #[.pointer p0, (.agg (pdc p1_0 p1_1 p1_2 p1_3 p1_4 p1_5 p1_6 p1_7 p1_8 p1_9 p1_10 p1_11 p1_12 p1_13 p1_14 p1_15 p1_16 p1_17 p1_18 p1_19 p1_20 p1_21 p1_22 p1_23 p1_24 p1_25 p1_26))] w R :=
 sp Tryz.func71 h
def q123F (p0 : Option Addr) (p1_0 : Int) (p1_1 : Bool) (p1_2 : Int) (p1_3 : Int) (p1_4 : Int) (p1_5 : Int) (p1_6 : Int) (p1_7 : Int) (p1_8 : Int) (p1_9 : Int) (p1_10 : Int) (p1_11 : Int) (p1_12 : Int) (p1_13 : Int) (p1_14 : Int) (p1_15 : Int) (p1_16 : Int) (p1_17 : Int) (p1_18 : Int) (p1_19 : Int) (p1_20 : Int) (p1_21 : Int) (p1_22 : Int) (p1_23 : Int) (p1_24 : Int) (p1_25 : Int) (p1_26 : Value) (w : World) (R : KV) : Prop :=
 bindW (World.alloc w (.cells (pdc p1_0 p1_1 p1_2 p1_3 p1_4 p1_5 p1_6 p1_7 p1_8 p1_9 p1_10 p1_11 p1_12 p1_13 p1_14 p1_15 p1_16 p1_17 p1_18 p1_19 p1_20 p1_21 p1_22 p1_23 p1_24 p1_25 p1_26) 152)) fun w0 =>
 CW.Spec Tryz.prog 146 #[(.slice (some (Addr.add ⟨w.heap.size, 0, none⟩ 10)) 16 16)] w0 fun v1 w2 =>
 ∃ n3 n4 n5 v6 n7 n8 n9 b10 n11 n12 n13 v14 n15 b16, v1 = .tuple #[(.agg (r8c n3 n4 n5 v6 n7 n8 n9 b10)), (.agg (r5c n11 n12 n13 v14 n15)), .bool b16] ∧
 bindW (World.alloc w2 (.cells (r8c 0 0 0 nvc 0 0 0 false) 64)) fun w17 =>
 bindW (World.alloc w17 (.cells (r5c 0 0 0 nvc 0) 69)) fun w18 =>
 StRow w18 ⟨w2.heap.size, 0, none⟩ (r8c n3 n4 n5 v6 n7 n8 n9 b10) ∧
 bindW (stRow w18 ⟨w2.heap.size, 0, none⟩ (r8c n3 n4 n5 v6 n7 n8 n9 b10)) fun w19 =>
 StRow w19 ⟨w17.heap.size, 0, none⟩ (r5c n11 n12 n13 v14 n15) ∧
 bindW (stRow w19 ⟨w17.heap.size, 0, none⟩ (r5c n11 n12 n13 v14 n15)) fun w20 =>
 ∃ n21 n22 n23 v24 n25 n26 n27 b28, (ldCells w20 ⟨w2.heap.size, 0, none⟩ 8 (r8c n21 n22 n23 v24 n25 n26 n27 b28)) ∧
 CW.Spec Tryz.prog 87 #[(.agg (r8c n21 n22 n23 v24 n25 n26 n27 b28))] w20 fun v29 w30 =>
 ∃ n31, v29 = .int .i64 n31 ∧
 CW.Spec Tryz.prog 147 #[.int .i64 5, .int .i64 9216] w30 fun v32 w33 =>
 ∃ n34 n35 n36 v37 n38, v32 = .agg (r5c n34 n35 n36 v37 n38) ∧
 bindW (World.alloc w33 (.cells (r5c 0 0 0 nvc 0) 69)) fun w39 =>
 StRow w39 ⟨w33.heap.size, 0, none⟩ (r5c n34 n35 n36 v37 n38) ∧
 bindW (stRow w39 ⟨w33.heap.size, 0, none⟩ (r5c n34 n35 n36 v37 n38)) fun w40 =>
 JoinP []
 (fun w41 =>
 R (.tuple #[]) w41)
 (fun j42 =>
 cond (!b16)
 (∃ n43, World.cell? w40 (Addr.add ⟨w.heap.size, 0, none⟩ 4) = some (.int .u32 n43) ∧
 ∃ n44 n45 n46 v47 n48, (ldCells w40 ⟨w17.heap.size, 0, none⟩ 5 (r5c n44 n45 n46 v47 n48)) ∧
 CW.Spec Tryz.prog 148 #[.pointer p0, .int .u32 n43, (.agg (r5c n44 n45 n46 v47 n48)), .int .i64 0] w40 fun v49 w50 =>
 v49 = .tuple #[] ∧
 j42 w50)
 (cond (n31 == 0)
 (∃ n51, World.cell? w40 (Addr.add ⟨w.heap.size, 0, none⟩ 4) = some (.int .u32 n51) ∧
 ∃ n52 n53 n54 v55 n56 n57 n58 b59, (ldCells w40 ⟨w2.heap.size, 0, none⟩ 8 (r8c n52 n53 n54 v55 n56 n57 n58 b59)) ∧
 CW.Spec Tryz.prog 149 #[.pointer p0, .int .u32 n51, (.agg (r8c n52 n53 n54 v55 n56 n57 n58 b59)), nvc] w40 fun v60 w61 =>
 v60 = .tuple #[] ∧
 j42 w61)
 (JoinP [.bool]
 (fun (b62 : Bool) => fun w63 =>
 cond b62
 (∃ n64, World.cell? w63 (Addr.add ⟨w.heap.size, 0, none⟩ 4) = some (.int .u32 n64) ∧
 ∃ n65 n66 n67 v68 n69, (ldCells w63 ⟨w33.heap.size, 0, none⟩ 5 (r5c n65 n66 n67 v68 n69)) ∧
 CW.Spec Tryz.prog 148 #[.pointer p0, .int .u32 n64, (.agg (r5c n65 n66 n67 v68 n69)), .int .i64 0] w63 fun v70 w71 =>
 v70 = .tuple #[] ∧
 j42 w71)
 (∃ v72, World.cell? w63 (Addr.add ⟨w.heap.size, 0, none⟩ 26) = some v72 ∧
 ∃ m73, sliceLen v72 = some m73 ∧
 cond (((m73 : Nat) : Int) == n31)
 (∃ n74, World.cell? w63 (Addr.add ⟨w.heap.size, 0, none⟩ 4) = some (.int .u32 n74) ∧
 ∃ n75 n76 n77 v78 n79 n80 n81 b82, (ldCells w63 ⟨w2.heap.size, 0, none⟩ 8 (r8c n75 n76 n77 v78 n79 n80 n81 b82)) ∧
 ∃ v83, World.cell? w63 (Addr.add ⟨w.heap.size, 0, none⟩ 26) = some v83 ∧
 CW.Spec Tryz.prog 149 #[.pointer p0, .int .u32 n74, (.agg (r8c n75 n76 n77 v78 n79 n80 n81 b82)), v83] w63 fun v84 w85 =>
 v84 = .tuple #[] ∧
 j42 w85)
 (∃ n86, World.cell? w63 (Addr.add ⟨w.heap.size, 0, none⟩ 4) = some (.int .u32 n86) ∧
 CW.Spec Tryz.prog 150 #[.pointer p0, .int .u32 n86] w63 fun v87 w88 =>
 ∃ n89, v87 = .int .i64 n89 ∧
 cond (decide (n89 ≥ 0))
 (∃ n90, World.cell? w88 (Addr.add ⟨w.heap.size, 0, none⟩ 4) = some (.int .u32 n90) ∧
 ∃ n91 n92 n93 v94 n95, (ldCells w88 ⟨w33.heap.size, 0, none⟩ 5 (r5c n91 n92 n93 v94 n95)) ∧
 CW.Spec Tryz.prog 148 #[.pointer p0, .int .u32 n90, (.agg (r5c n91 n92 n93 v94 n95)), .int .i64 0] w88 fun v96 w97 =>
 v96 = .tuple #[] ∧
 j42 w97)
 (withAddr (.pointer p0) fun a98 =>
 ∃ v99, World.cell? w88 (Addr.add a98 12) = some v99 ∧
 ∃ m100, sliceLen v99 = some m100 ∧
 cond (decide (((m100 : Nat) : Int) ≥ 16))
 (∃ n101, World.cell? w88 (Addr.add ⟨w.heap.size, 0, none⟩ 4) = some (.int .u32 n101) ∧
 CW.Spec Tryz.prog 148 #[.pointer p0, .int .u32 n101, (.agg (r5c 8 0 0 nvc 0)), .int .i64 0] w88 fun v102 w103 =>
 v102 = .tuple #[] ∧
 j42 w103)
 (bindW (World.drew w88) fun w104 =>
 withAddr (.pointer p0) fun a105 =>
 ∃ v106, World.cell? w104 (Addr.add a105 12) = some v106 ∧
 ∃ n107, World.cell? w104 (Addr.add ⟨w.heap.size, 0, none⟩ 4) = some (.int .u32 n107) ∧
 ∃ n108 n109 n110 v111 n112 n113 n114 b115, (ldCells w104 ⟨w2.heap.size, 0, none⟩ 8 (r8c n108 n109 n110 v111 n112 n113 n114 b115)) ∧
 ∃ v116, World.cell? w104 (Addr.add ⟨w.heap.size, 0, none⟩ 26) = some v116 ∧
 oneK v116 (bindW (World.drew w88) fun w117 =>
 (∃ v118, World.cell? (World.alloc w117 (.cells #[.int .u32 n107, .int .i64 n108, .int .i64 n109, .int .i64 n110, v111, .int .u64 n112, .int .u64 n113, .int .i64 n114, .bool b115, v116, .int .i64 n31, .int .i64 0] 205)) (Addr.add a105 12) = some v118 ∧
 (v118 : Value) = v106) ∧
 bindW (World.alloc w117 (.cells #[.int .u32 n107, .int .i64 n108, .int .i64 n109, .int .i64 n110, v111, .int .u64 n112, .int .u64 n113, .int .i64 n114, .bool b115, v116, .int .i64 n31, .int .i64 0] 205)) fun w119 =>
 bindW (World.alloc w117 (.cells #[.int .u32 n107, .int .i64 n108, .int .i64 n109, .int .i64 n110, v111, .int .u64 n112, .int .u64 n113, .int .i64 n114, .bool b115, v116, .int .i64 n31, .int .i64 0] 205)) fun w120 =>
 ∃ v121 w122, Sem.run Tryz.prog (Builtin.append_ #[99, 99] 99 #[v106, (.slice (some ⟨w117.heap.size, 0, none⟩) 1 1)]) w120 = .ok v121 w122 ∧
 withAddr (.pointer p0) fun a123 =>
 oneK v121 ((St1 w122 (Addr.add a123 12)) ∧
 bindW (World.setCell w122 (Addr.add a123 12) v121) fun w124 =>
 bindW (World.setCell w122 (Addr.add a123 12) v121) fun w125 =>
 bindW (World.drew w125) fun w126 =>
 withAddr (.pointer p0) fun a127 =>
 ∃ v128, World.cell? w126 (Addr.add a127 12) = some v128 ∧
 withAddr (.pointer p0) fun a129 =>
 ∃ v130, World.cell? w126 (Addr.add a129 12) = some v130 ∧
 ∃ m131, sliceLen v130 = some m131 ∧
 ∃ a132, sliceAt v128 (IntKind.wrap .i64 (((m131 : Nat) : Int) - 1)) 12 = some a132 ∧
 bindW (World.drew w125) fun w133 =>
 CW.Spec Tryz.prog 151 #[.pointer p0, (.pointer (some a132))] w133 fun v134 w135 =>
 v134 = .tuple #[] ∧
 j42 w135)))))))
 (fun j136 =>
 ∃ v137, World.cell? w40 (Addr.add ⟨w.heap.size, 0, none⟩ 26) = some v137 ∧
 ∃ m138, sliceLen v137 = some m138 ∧
 cond (decide (((m138 : Nat) : Int) > 0))
 (withAddr (.pointer p0) fun a139 =>
 ∃ b140, World.cell? w40 (Addr.add (Addr.add a139 3) 3) = some (.bool b140) ∧
 cond (!b140)
 (j136 true w40)
 (∃ v141, World.cell? w40 (Addr.add ⟨w.heap.size, 0, none⟩ 26) = some v141 ∧
 ∃ m142, sliceLen v141 = some m142 ∧
 j136 (decide (((m142 : Nat) : Int) > n31)) w40))
 (∃ v143, World.cell? w40 (Addr.add ⟨w.heap.size, 0, none⟩ 26) = some v143 ∧
 ∃ m144, sliceLen v143 = some m144 ∧
 j136 (decide (((m144 : Nat) : Int) > n31)) w40)))))
theorem q123W (p0 p1_0 p1_1 p1_2 p1_3 p1_4 p1_5 p1_6 p1_7 p1_8 p1_9 p1_10 p1_11 p1_12 p1_13 p1_14 p1_15 p1_16 p1_17 p1_18 p1_19 p1_20 p1_21 p1_22 p1_23 p1_24 p1_25 p1_26 w R) (h : q123F p0 p1_0 p1_1 p1_2 p1_3 p1_4 p1_5 p1_6 p1_7 p1_8 p1_9 p1_10 p1_11 p1_12 p1_13 p1_14 p1_15 p1_16 p1_17 p1_18 p1_19 p1_20 p1_21 p1_22 p1_23 p1_24 p1_25 p1_26 w R) : CW.Spec Tryz.prog 109 #[.pointer p0, (.agg (pdc p1_0 p1_1 p1_2 p1_3 p1_4 p1_5 p1_6 p1_7 p1_8 p1_9 p1_10 p1_11 p1_12 p1_13 p1_14 p1_15 p1_16 p1_17 p1_18 p1_19 p1_20 p1_21 p1_22 p1_23 p1_24 p1_25 p1_26))] w R :=
 sp Tryz.func109 h
def q124F (p0 : Option Addr) (p1_0 : Int) (p1_1 : Bool) (p1_2 : Int) (p1_3 : Int) (p1_4 : Int) (p1_5 : Int) (p1_6 : Int) (p1_7 : Int) (p1_8 : Int) (p1_9 : Int) (p1_10 : Int) (p1_11 : Int) (p1_12 : Int) (p1_13 : Int) (p1_14 : Int) (p1_15 : Int) (p1_16 : Int) (p1_17 : Int) (p1_18 : Int) (p1_19 : Int) (p1_20 : Int) (p1_21 : Int) (p1_22 : Int) (p1_23 : Int) (p1_24 : Int) (p1_25 : Int) (p1_26 : Value) (w : World) (R : KV) : Prop :=
 bindW (World.alloc w (.cells (pdc p1_0 p1_1 p1_2 p1_3 p1_4 p1_5 p1_6 p1_7 p1_8 p1_9 p1_10 p1_11 p1_12 p1_13 p1_14 p1_15 p1_16 p1_17 p1_18 p1_19 p1_20 p1_21 p1_22 p1_23 p1_24 p1_25 p1_26) 152)) fun w0 =>
 ∃ n1, World.cell? w0 (Addr.add ⟨w.heap.size, 0, none⟩ 4) = some (.int .u32 n1) ∧
 CW.Spec Tryz.prog 150 #[.pointer p0, .int .u32 n1] w0 fun v2 w3 =>
 ∃ n4, v2 = .int .i64 n4 ∧
 JoinP [.bool]
 (fun (b5 : Bool) => fun w6 =>
 cond b5
 (∃ n7 b8 n9 n10 n11 n12 n13 n14 n15 n16 n17 n18 n19 n20 n21 n22 n23 n24 n25 n26 n27 n28 n29 n30 n31 n32 v33, (ldCells w6 ⟨w.heap.size, 0, none⟩ 27 (pdc n7 b8 n9 n10 n11 n12 n13 n14 n15 n16 n17 n18 n19 n20 n21 n22 n23 n24 n25 n26 n27 n28 n29 n30 n31 n32 v33)) ∧
 CW.Spec Tryz.prog 113 #[.pointer p0, (.agg (pdc n7 b8 n9 n10 n11 n12 n13 n14 n15 n16 n17 n18 n19 n20 n21 n22 n23 n24 n25 n26 n27 n28 n29 n30 n31 n32 v33))] w6 fun v34 w35 =>
 v34 = .tuple #[] ∧
 R (.tuple #[]) w35)
 (withAddr (.pointer p0) fun a36 =>
 ∃ v37, World.cell? w6 (Addr.add a36 12) = some v37 ∧
 ∃ a38, sliceAt v37 n4 12 = some a38 ∧
 bindW (World.drew w6) fun w39 =>
 ∃ v40, World.cell? w39 (Addr.add a38 9) = some v40 ∧
 ∃ v41, World.cell? w39 (Addr.add ⟨w.heap.size, 0, none⟩ 26) = some v41 ∧
 bindW (World.drew w6) fun w42 =>
 CW.Spec Tryz.prog 72 #[v40] w42 fun v43 w44 =>
 (∃ v45, World.cell? w44 (Addr.add ⟨w.heap.size, 0, none⟩ 26) = some v45 ∧
 (v45 : Value) = v41) ∧
 ∃ v46 w47, Sem.run Tryz.prog (Builtin.append_ #[33, 33] 33 #[v43, v41]) w44 = .ok v46 w47 ∧
 oneK v46 ((St1 w47 (Addr.add a38 9)) ∧
 bindW (World.setCell w47 (Addr.add a38 9) v46) fun w48 =>
 bindW (World.setCell w47 (Addr.add a38 9) v46) fun w49 =>
 bindW (World.drew w49) fun w50 =>
 ∃ n51, World.cell? w50 (Addr.add a38 11) = some (.int .i64 n51) ∧
 ∃ v52, World.cell? w50 (Addr.add ⟨w.heap.size, 0, none⟩ 26) = some v52 ∧
 ∃ m53, sliceLen v52 = some m53 ∧
 bindW (World.drew w49) fun w54 =>
 St1 w54 (Addr.add a38 11) ∧
 bindW (World.setCell w54 (Addr.add a38 11) (.int .i64 (IntKind.wrap .i64 (n51 - ((m53 : Nat) : Int))))) fun w55 =>
 bindW (World.setCell w54 (Addr.add a38 11) (.int .i64 (IntKind.wrap .i64 (n51 - ((m53 : Nat) : Int))))) fun w56 =>
 JoinP []
 (fun w57 =>
 R (.tuple #[]) w57)
 (fun j58 =>
 JoinP [.bool]
 (fun (b59 : Bool) => fun w60 =>
 cond b59
 (j58 w60)
 (bindW (World.drew w60) fun w61 =>
 ∃ v62, World.cell? w61 (Addr.add a38 9) = some v62 ∧
 ∃ m63, sliceLen v62 = some m63 ∧
 ∃ n64, World.cell? w61 (Addr.add a38 10) = some (.int .i64 n64) ∧
 bindW (World.drew w60) fun w65 =>
 cond (decide (((m63 : Nat) : Int) < n64))
 (CW.Spec Tryz.prog 151 #[.pointer p0, (.pointer (some a38))] w65 fun v66 w67 =>
 v66 = .tuple #[] ∧
 j58 w67)
 (∃ n68 n69 n70 n71 v72 n73 n74 n75 b76 v77 n78 n79, (ldCells w65 a38 12 #[.int .u32 n68, .int .i64 n69, .int .i64 n70, .int .i64 n71, v72, .int .u64 n73, .int .u64 n74, .int .i64 n75, .bool b76, v77, .int .i64 n78, .int .i64 n79]) ∧
 bindW (World.alloc w65 (.cells #[.int .u32 0, .int .i64 0, .int .i64 0, .int .i64 0, nvc, .int .u64 0, .int .u64 0, .int .i64 0, .bool false, nvc, .int .i64 0, .int .i64 0] 205)) fun w80 =>
 StRow w80 ⟨w65.heap.size, 0, none⟩ #[.int .u32 n68, .int .i64 n69, .int .i64 n70, .int .i64 n71, v72, .int .u64 n73, .int .u64 n74, .int .i64 n75, .bool b76, v77, .int .i64 n78, .int .i64 n79] ∧
 bindW (stRow w80 ⟨w65.heap.size, 0, none⟩ #[.int .u32 n68, .int .i64 n69, .int .i64 n70, .int .i64 n71, v72, .int .u64 n73, .int .u64 n74, .int .i64 n75, .bool b76, v77, .int .i64 n78, .int .i64 n79]) fun w81 =>
 withAddr (.pointer p0) fun a82 =>
 ∃ v83, World.cell? w81 (Addr.add a82 12) = some v83 ∧
 CW.Spec Tryz.prog 152 #[v83, .int .i64 n4, (.int .i64 (IntKind.wrap .i64 (n4 + 1)))] w81 fun v84 w85 =>
 withAddr (.pointer p0) fun a86 =>
 oneK v84 ((St1 w85 (Addr.add a86 12)) ∧
 bindW (World.setCell w85 (Addr.add a86 12) v84) fun w87 =>
 ∃ n88, World.cell? w87 (Addr.add ⟨w65.heap.size, 0, none⟩ 0) = some (.int .u32 n88) ∧
 ∃ n89 n90 n91 v92 n93 n94 n95 b96, (ldCells w87 (Addr.add ⟨w65.heap.size, 0, none⟩ 1) 8 (r8c n89 n90 n91 v92 n93 n94 n95 b96)) ∧
 ∃ v97, World.cell? w87 (Addr.add ⟨w65.heap.size, 0, none⟩ 9) = some v97 ∧
 CW.Spec Tryz.prog 149 #[.pointer p0, .int .u32 n88, (.agg (r8c n89 n90 n91 v92 n93 n94 n95 b96)), v97] w87 fun v98 w99 =>
 v98 = .tuple #[] ∧
 j58 w99))))
 (fun j100 =>
 ∃ b101, World.cell? w56 (Addr.add ⟨w.heap.size, 0, none⟩ 1) = some (.bool b101) ∧
 cond (!b101)
 (∃ n102, World.cell? w56 (Addr.add a38 11) = some (.int .i64 n102) ∧
 j100 (decide (n102 > 0)) w56)
 (j100 false w56))))))
 (fun j103 =>
 bindW (World.drew w3) fun w104 =>
 cond (decide (n4 < 0))
 (bindW (World.drew w3) fun w105 =>
 j103 true w105)
 (∃ n106, World.cell? w104 (Addr.add ⟨w.heap.size, 0, none⟩ 8) = some (.int .u32 n106) ∧
 withAddr (.pointer p0) fun a107 =>
 ∃ v108, World.cell? w104 (Addr.add a107 12) = some v108 ∧
 ∃ a109, sliceAt v108 n4 12 = some a109 ∧
 ∃ v110, World.cell? w104 (Addr.add a109 9) = some v110 ∧
 ∃ m111, sliceLen v110 = some m111 ∧
 cond ((IntKind.wrap .u64 n106) != (IntKind.wrap .u64 ((m111 : Nat) : Int)))
 (bindW (World.drew w3) fun w112 =>
 j103 true w112)
 (∃ v113, World.cell? w104 (Addr.add ⟨w.heap.size, 0, none⟩ 26) = some v113 ∧
 ∃ m114, sliceLen v113 = some m114 ∧
 withAddr (.pointer p0) fun a115 =>
 ∃ v116, World.cell? w104 (Addr.add a115 12) = some v116 ∧
 ∃ a117, sliceAt v116 n4 12 = some a117 ∧
 ∃ n118, World.cell? w104 (Addr.add a117 11) = some (.int .i64 n118) ∧
 bindW (World.drew w3) fun w119 =>
 j103 (decide (((m114 : Nat) : Int) > n118)) w119)))
theorem q124W (p0 p1_0 p1_1 p1_2 p1_3 p1_4 p1_5 p1_6 p1_7 p1_8 p1_9 p1_10 p1_11 p1_12 p1_13 p1_14 p1_15 p1_16 p1_17 p1_18 p1_19 p1_20 p1_21 p1_22 p1_23 p1_24 p1_25 p1_26 w R) (h : q124F p0 p1_0 p1_1 p1_2 p1_3 p1_4 p1_5 p1_6 p1_7 p1_8 p1_9 p1_10 p1_11 p1_12 p1_13 p1_14 p1_15 p1_16 p1_17 p1_18 p1_19 p1_20 p1_21 p1_22 p1_23 p1_24 p1_25 p1_26 w R) : CW.Spec Tryz.prog 110 #[.pointer p0, (.agg (pdc p1_0 p1_1 p1_2 p1_3 p1_4 p1_5 p1_6 p1_7 p1_8 p1_9 p1_10 p1_11 p1_12 p1_13 p1_14 p1_15 p1_16 p1_17 p1_18 p1_19 p1_20 p1_21 p1_22 p1_23 p1_24 p1_25 p1_26))] w R :=
 sp Tryz.func110 h
def q133F (p0 : Option Addr) (p1 : Int) (w : World) (R : KV) : Prop :=
 bindW (World.alloc w (.cells #[.pointer p0] 25)) fun w0 =>
 bindW (World.alloc w0 (.cells #[.int .i64 p1] 3)) fun w1 =>
 R (.func (.func 153) #[] #[(.pointer (some ⟨w0.heap.size, 0, none⟩)), (.pointer (some ⟨w.heap.size, 0, none⟩))]) w1
theorem q133W (p0 p1 w R) (h : q133F p0 p1 w R) : CW.Spec Tryz.prog 111 #[.pointer p0, .int .i64 p1] w R :=
 sp Tryz.func111 h
def q127F (p0 : Option Addr) (p1_0 : Int) (p1_1 : Bool) (p1_2 : Int) (p1_3 : Int) (p1_4 : Int) (p1_5 : Int) (p1_6 : Int) (p1_7 : Int) (p1_8 : Int) (p1_9 : Int) (p1_10 : Int) (p1_11 : Int) (p1_12 : Int) (p1_13 : Int) (p1_14 : Int) (p1_15 : Int) (p1_16 : Int) (p1_17 : Int) (p1_18 : Int) (p1_19 : Int) (p1_20 : Int) (p1_21 : Int) (p1_22 : Int) (p1_23 : Int) (p1_24 : Int) (p1_25 : Int) (p1_26 : Value) (w : World) (R : KV) : Prop :=
 bindW (World.alloc w (.cells (pdc p1_0 p1_1 p1_2 p1_3 p1_4 p1_5 p1_6 p1_7 p1_8 p1_9 p1_10 p1_11 p1_12 p1_13 p1_14 p1_15 p1_16 p1_17 p1_18 p1_19 p1_20 p1_21 p1_22 p1_23 p1_24 p1_25 p1_26) 152)) fun w0 =>
 ∃ n1, World.cell? w0 (Addr.add ⟨w.heap.size, 0, none⟩ 2) = some (.int .i64 n1) ∧
 JoinP [.int .i64]
 (fun (n2 : Int) => fun w3 =>
 bindW (World.drew w3) fun w4 =>
 ∃ n5, World.cell? w4 (Addr.add ⟨w.heap.size, 0, none⟩ 4) = some (.int .u32 n5) ∧
 bindW (World.drew w3) fun w6 =>
 CW.Spec Tryz.prog 111 #[.pointer p0, .int .i64 34] w6 fun v7 w8 =>
 (∃ n9, World.cell? w8 (Addr.add ⟨w.heap.size, 0, none⟩ 4) = some (.int .u32 n9) ∧
 ((.int .u32 n9) : Value) = (.int .u32 n5)) ∧
 CW.callU Tryz.prog v7 #[(.agg (pdc 0 false 0 n2 n5 0 0 0 0 0 0 0 0 0 0 0 0 0 0 0 0 0 0 0 0 0 nvc))] w8 fun v10 w11 =>
 v10 = .tuple #[] ∧
 R (.tuple #[]) w11)
 (fun j12 =>
 cond (n1 == 1)
 (∃ n13, World.cell? w0 (Addr.add ⟨w.heap.size, 0, none⟩ 8) = some (.int .u32 n13) ∧
 CW.Spec Tryz.prog 150 #[.pointer p0, .int .u32 n13] w0 fun v14 w15 =>
 ∃ n16, v14 = .int .i64 n16 ∧
 cond (decide (n16 < 0))
 (j12 (1 : Int) w15)
 (withAddr (.pointer p0) fun a17 =>
 ∃ v18, World.cell? w15 (Addr.add a17 12) = some v18 ∧
 CW.Spec Tryz.prog 152 #[v18, .int .i64 n16, (.int .i64 (IntKind.wrap .i64 (n16 + 1)))] w15 fun v19 w20 =>
 withAddr (.pointer p0) fun a21 =>
 oneK v19 ((St1 w20 (Addr.add a21 12)) ∧
 bindW (World.setCell w20 (Addr.add a21 12) v19) fun w22 =>
 j12 (0 : Int) w22)))
 (cond (n1 == 2)
 (withAddr (.pointer p0) fun a23 =>
 St1 w0 (Addr.add a23 12) ∧
 bindW (World.setCell w0 (Addr.add a23 12) nvc) fun w24 =>
 j12 (0 : Int) w24)
 (cond (n1 == 5)
 (withAddr (.pointer p0) fun a25 =>
 St1 w0 (Addr.add a25 12) ∧
 bindW (World.setCell w0 (Addr.add a25 12) nvc) fun w26 =>
 bindW (World.drew w26) fun w27 =>
 withAddr (.pointer p0) fun a28 =>
 ∃ v29, World.cell? w27 (Addr.add a28 1) = some v29 ∧
 withAddr (.pointer p0) fun a30 =>
 ∃ s31, World.cell? w27 (Addr.add (Addr.add a30 3) 0) = some (.string s31) ∧
 bindW (World.drew w26) fun w32 =>
 CW.callU Tryz.prog v29 #[(.string s31), (.agg (r8c 18 0 0 nvc 0 0 0 false))] w32 fun v33 w34 =>
 ∃ n35 n36 n37 v38 n39, v33 = .agg (r5c n35 n36 n37 v38 n39) ∧
 j12 (0 : Int) w34)
 (j12 (255 : Int) w0))))
theorem q127W (p0 p1_0 p1_1 p1_2 p1_3 p1_4 p1_5 p1_6 p1_7 p1_8 p1_9 p1_10 p1_11 p1_12 p1_13 p1_14 p1_15 p1_16 p1_17 p1_18 p1_19 p1_20 p1_21 p1_22 p1_23 p1_24 p1_25 p1_26 w R) (h : q127F p0 p1_0 p1_1 p1_2 p1_3 p1_4 p1_5 p1_6 p1_7 p1_8 p1_9 p1_10 p1_11 p1_12 p1_13 p1_14 p1_15 p1_16 p1_17 p1_18 p1_19 p1_20 p1_21 p1_22 p1_23 p1_24 p1_25 p1_26 w R) : CW.Spec Tryz.prog 112 #[.pointer p0, (.agg (pdc p1_0 p1_1 p1_2 p1_3 p1_4 p1_5 p1_6 p1_7 p1_8 p1_9 p1_10 p1_11 p1_12 p1_13 p1_14 p1_15 p1_16 p1_17 p1_18 p1_19 p1_20 p1_21 p1_22 p1_23 p1_24 p1_25 p1_26))] w R :=
 sp Tryz.func112 h
def q129F (p0 : Option Addr) (p1_0 : Int) (p1_1 : Bool) (p1_2 : Int) (p1_3 : Int) (p1_4 : Int) (p1_5 : Int) (p1_6 : Int) (p1_7 : Int) (p1_8 : Int) (p1_9 : Int) (p1_10 : Int) (p1_11 : Int) (p1_12 : Int) (p1_13 : Int) (p1_14 : Int) (p1_15 : Int) (p1_16 : Int) (p1_17 : Int) (p1_18 : Int) (p1_19 : Int) (p1_20 : Int) (p1_21 : Int) (p1_22 : Int) (p1_23 : Int) (p1_24 : Int) (p1_25 : Int) (p1_26 : Value) (w : World) (R : KV) : Prop :=
 bindW (World.alloc w (.cells (pdc p1_0 p1_1 p1_2 p1_3 p1_4 p1_5 p1_6 p1_7 p1_8 p1_9 p1_10 p1_11 p1_12 p1_13 p1_14 p1_15 p1_16 p1_17 p1_18 p1_19 p1_20 p1_21 p1_22 p1_23 p1_24 p1_25 p1_26) 152)) fun w0 =>
 ∃ n1 b2 n3 n4 n5 n6 n7 n8 n9 n10 n11 n12 n13 n14 n15 n16 n17 n18 n19 n20 n21 n22 n23 n24 n25 n26 v27, (ldCells w0 ⟨w.heap.size, 0, none⟩ 27 (pdc n1 b2 n3 n4 n5 n6 n7 n8 n9 n10 n11 n12 n13 n14 n15 n16 n17 n18 n19 n20 n21 n22 n23 n24 n25 n26 v27)) ∧
 CW.Spec Tryz.prog 134 #[(.agg (pdc n1 b2 n3 n4 n5 n6 n7 n8 n9 n10 n11 n12 n13 n14 n15 n16 n17 n18 n19 n20 n21 n22 n23 n24 n25 n26 v27))] w0 fun v28 w29 =>
 ∃ v30 n31, v28 = .tuple #[v30, .int .i64 n31] ∧
 bindW (World.drew w29) fun w32 =>
 ∃ n33, World.cell? w32 (Addr.add ⟨w.heap.size, 0, none⟩ 4) = some (.int .u32 n33) ∧
 ∃ v34, ((subSlice v30 1 none (some (.int .i64 48)) none) = (some v34)) ∧
 oneK v34 (bindW (World.drew w29) fun w35 =>
 CW.Spec Tryz.prog 154 #[.pointer p0, (.agg (pdc 63 false 0 0 n33 0 0 0 0 0 0 0 0 0 0 0 0 0 0 0 0 0 0 0 0 0 v34))] w35 fun v36 w37 =>
 v36 = .tuple #[] ∧
 R (.tuple #[]) w37)
theorem q129W (p0 p1_0 p1_1 p1_2 p1_3 p1_4 p1_5 p1_6 p1_7 p1_8 p1_9 p1_10 p1_11 p1_12 p1_13 p1_14 p1_15 p1_16 p1_17 p1_18 p1_19 p1_20 p1_21 p1_22 p1_23 p1_24 p1_25 p1_26 w R) (h : q129F p0 p1_0 p1_1 p1_2 p1_3 p1_4 p1_5 p1_6 p1_7 p1_8 p1_9 p1_10 p1_11 p1_12 p1_13 p1_14 p1_15 p1_16 p1_17 p1_18 p1_19 p1_20 p1_21 p1_22 p1_23 p1_24 p1_25 p1_26 w R) : CW.Spec Tryz.prog 113 #[.pointer p0, (.agg (pdc p1_0 p1_1 p1_2 p1_3 p1_4 p1_5 p1_6 p1_7 p1_8 p1_9 p1_10 p1_11 p1_12 p1_13 p1_14 p1_15 p1_16 p1_17 p1_18 p1_19 p1_20 p1_21 p1_22 p1_23 p1_24 p1_25 p1_26))] w R :=
 sp Tryz.func113 h
def q130F (p0 : Option Addr) (p1 : Int) (p2_0 : Int) (p2_1 : Int) (p2_2 : Int) (p2_3 : Value) (p2_4 : Int) (p3 : Int) (w : World) (R : KV) : Prop :=
 bindW (World.alloc w (.cells (r5c p2_0 p2_1 p2_2 p2_3 p2_4) 69)) fun w0 =>
 ∃ n1, World.cell? w0 (Addr.add ⟨w.heap.size, 0, none⟩ 0) = some (.int .i64 n1) ∧
 bindW (World.alloc w0 (.cells (pdc 0 false 0 0 0 0 0 0 0 0 0 0 0 0 0 0 0 0 0 0 0 0 0 0 0 0 nvc) 152)) fun w2 =>
 StRow w2 ⟨w0.heap.size, 0, none⟩ (pdc 0 true 0 n1 p1 0 0 0 0 (IntKind.wrap .u32 p3) 0 0 0 0 0 0 0 0 0 0 0 0 0 0 0 0 nvc) ∧
 bindW (stRow w2 ⟨w0.heap.size, 0, none⟩ (pdc 0 true 0 n1 p1 0 0 0 0 (IntKind.wrap .u32 p3) 0 0 0 0 0 0 0 0 0 0 0 0 0 0 0 0 nvc)) fun w3 =>
 JoinP []
 (fun w4 =>
 bindW (World.drew w4) fun w5 =>
 ∃ n6 b7 n8 n9 n10 n11 n12 n13 n14 n15 n16 n17 n18 n19 n20 n21 n22 n23 n24 n25 n26 n27 n28 n29 n30 n31 v32, (ldCells w5 ⟨w0.heap.size, 0, none⟩ 27 (pdc n6 b7 n8 n9 n10 n11 n12 n13 n14 n15 n16 n17 n18 n19 n20 n21 n22 n23 n24 n25 n26 n27 n28 n29 n30 n31 v32)) ∧
 bindW (World.drew w4) fun w33 =>
 CW.Spec Tryz.prog 111 #[.pointer p0, .int .i64 33] w33 fun v34 w35 =>
 (∃ n36 b37 n38 n39 n40 n41 n42 n43 n44 n45 n46 n47 n48 n49 n50 n51 n52 n53 n54 n55 n56 n57 n58 n59 n60 n61 v62, (ldCells w35 ⟨w0.heap.size, 0, none⟩ 27 (pdc n36 b37 n38 n39 n40 n41 n42 n43 n44 n45 n46 n47 n48 n49 n50 n51 n52 n53 n54 n55 n56 n57 n58 n59 n60 n61 v62)) ∧
 ((.agg (pdc n36 b37 n38 n39 n40 n41 n42 n43 n44 n45 n46 n47 n48 n49 n50 n51 n52 n53 n54 n55 n56 n57 n58 n59 n60 n61 v62)) : Value) = (.agg (pdc n6 b7 n8 n9 n10 n11 n12 n13 n14 n15 n16 n17 n18 n19 n20 n21 n22 n23 n24 n25 n26 n27 n28 n29 n30 n31 v32))) ∧
 CW.callU Tryz.prog v34 #[(.agg (pdc n6 b7 n8 n9 n10 n11 n12 n13 n14 n15 n16 n17 n18 n19 n20 n21 n22 n23 n24 n25 n26 n27 n28 n29 n30 n31 v32))] w35 fun v63 w64 =>
 v63 = .tuple #[] ∧
 R (.tuple #[]) w64)
 (fun j65 =>
 ∃ n66, World.cell? w3 (Addr.add ⟨w.heap.size, 0, none⟩ 0) = some (.int .i64 n66) ∧
 cond (n66 == 2)
 (∃ n67 n68 n69 v70 n71, (ldCells w3 ⟨w.heap.size, 0, none⟩ 5 (r5c n67 n68 n69 v70 n71)) ∧
 CW.Spec Tryz.prog 190 #[(.agg (r5c n67 n68 n69 v70 n71))] w3 fun v72 w73 =>
 oneK v72 ((St1 w73 (Addr.add ⟨w0.heap.size, 0, none⟩ 26)) ∧
 bindW (World.setCell w73 (Addr.add ⟨w0.heap.size, 0, none⟩ 26) v72) fun w74 =>
 j65 w74))
 (j65 w3))
theorem q130W (p0 p1 p2_0 p2_1 p2_2 p2_3 p2_4 p3 w R) (h : q130F p0 p1 p2_0 p2_1 p2_2 p2_3 p2_4 p3 w R) : CW.Spec Tryz.prog 148 #[.pointer p0, .int .u32 p1, (.agg (r5c p2_0 p2_1 p2_2 p2_3 p2_4)), .int .i64 p3] w R :=
 sp Tryz.func148 h
def q125F (p0 : Option Addr) (p1 : Int) (p2_0 : Int) (p2_1 : Int) (p2_2 : Int) (p2_3 : Value) (p2_4 : Int) (p2_5 : Int) (p2_6 : Int) (p2_7 : Bool) (p3 : Value) (w : World) (R : KV) : Prop :=
 bindW (World.alloc w (.cells (r8c p2_0 p2_1 p2_2 p2_3 p2_4 p2_5 p2_6 p2_7) 64)) fun w0 =>
 ∃ n1, World.cell? w0 (Addr.add ⟨w.heap.size, 0, none⟩ 0) = some (.int .i64 n1) ∧
 JoinP []
 (fun w2 =>
 JoinP [.val]
 (fun v3 w4 =>
 JoinP [.int .i64]
 (fun (n5 : Int) => fun w6 =>
 LoopP [.int .i64]
 (fun j7 => fun (n8 : Int) => fun w9 =>
 cond (decide (n8 < n5))
 (withAddr (.pointer p0) fun a10 =>
 ∃ n11, World.cell? w9 (Addr.add (Addr.add a10 3) 1) = some (.int .i64 n11) ∧
 withAddr v3 fun a12 =>
 ∃ v13, World.cell? w9 (Addr.add a12 3) = some v13 ∧
 ∃ v14, ((subSlice v13 1 (some (.int .i64 n8)) (some (.int .i64 (if n5 < (IntKind.wrap .i64 (n8 + n11)) then n5 else (IntKind.wrap .i64 (n8 + n11))))) none) = (some v14)) ∧
 oneK v14 (CW.Spec Tryz.prog 154 #[.pointer p0, (.agg (pdc 37 ((if n5 < (IntKind.wrap .i64 (n8 + n11)) then n5 else (IntKind.wrap .i64 (n8 + n11))) == n5) 0 0 p1 0 0 0 (IntKind.wrap .u32 n8) 0 0 0 0 0 0 0 0 0 0 0 0 0 0 0 0 0 v14))] w9 fun v15 w16 =>
 v15 = .tuple #[] ∧
 withAddr (.pointer p0) fun a17 =>
 ∃ n18, World.cell? w16 (Addr.add (Addr.add a17 3) 1) = some (.int .i64 n18) ∧
 j7 (IntKind.wrap .i64 (n8 + n18)) w16))
 (withAddr v3 fun a19 =>
 ∃ n20 n21 n22 v23 n24, (ldCells w9 a19 5 (r5c n20 n21 n22 v23 n24)) ∧
 CW.Spec Tryz.prog 148 #[.pointer p0, .int .u32 p1, (.agg (r5c n20 n21 n22 v23 n24)), .int .i64 n5] w9 fun v25 w26 =>
 v25 = .tuple #[] ∧
 R (.tuple #[]) w26))
 (fun s27 => s27 (0 : Int) w6))
 (fun j28 =>
 withAddr v3 fun a29 =>
 ∃ n30, World.cell? w4 (Addr.add a29 0) = some (.int .i64 n30) ∧
 cond (n30 == 0)
 (withAddr v3 fun a31 =>
 ∃ v32, World.cell? w4 (Addr.add a31 3) = some v32 ∧
 ∃ m33, sliceLen v32 = some m33 ∧
 j28 ((m33 : Nat) : Int) w4)
 (j28 (0 : Int) w4)))
 (fun j34 =>
 bindW (World.drew w2) fun w35 =>
 withAddr (.pointer p0) fun a36 =>
 ∃ v37, World.cell? w35 (Addr.add a36 1) = some v37 ∧
 withAddr (.pointer p0) fun a38 =>
 ∃ s39, World.cell? w35 (Addr.add (Addr.add a38 3) 0) = some (.string s39) ∧
 ∃ n40 n41 n42 v43 n44 n45 n46 b47, (ldCells w35 ⟨w.heap.size, 0, none⟩ 8 (r8c n40 n41 n42 v43 n44 n45 n46 b47)) ∧
 bindW (World.drew w2) fun w48 =>
 (CW.callU Tryz.prog v37 #[(.string s39), (.agg (r8c n40 n41 n42 v43 n44 n45 n46 b47))] w48 fun v49 w50 =>
 ∃ n51 n52 n53 v54 n55, v49 = .agg (r5c n51 n52 n53 v54 n55) ∧
 (∃ v56, World.cell? (World.alloc w50 (.cells (r5c 0 0 0 nvc 0) 69)) (Addr.add a36 1) = some v56 ∧
 (v56 : Value) = v37) ∧
 (∃ s57, World.cell? (World.alloc w50 (.cells (r5c 0 0 0 nvc 0) 69)) (Addr.add (Addr.add a38 3) 0) = some (.string s57) ∧
 ((.string s57) : Value) = (.string s39)) ∧
 (∃ n58 n59 n60 v61 n62 n63 n64 b65, (ldCells (World.alloc w50 (.cells (r5c 0 0 0 nvc 0) 69)) ⟨w.heap.size, 0, none⟩ 8 (r8c n58 n59 n60 v61 n62 n63 n64 b65)) ∧
 ((.agg (r8c n58 n59 n60 v61 n62 n63 n64 b65)) : Value) = (.agg (r8c n40 n41 n42 v43 n44 n45 n46 b47))) ∧
 bindW (World.alloc w50 (.cells (r5c 0 0 0 nvc 0) 69)) fun w66 =>
 bindW (World.alloc w50 (.cells (r5c 0 0 0 nvc 0) 69)) fun w67 =>
 StRow w67 ⟨w50.heap.size, 0, none⟩ (r5c n51 n52 n53 v54 n55) ∧
 bindW (stRow w67 ⟨w50.heap.size, 0, none⟩ (r5c n51 n52 n53 v54 n55)) fun w68 =>
 bindW (stRow w67 ⟨w50.heap.size, 0, none⟩ (r5c n51 n52 n53 v54 n55)) fun w69 =>
 j34 (.pointer (some ⟨w50.heap.size, 0, none⟩)) w69) ∧
 (∃ v70, World.cell? (World.alloc w48 (.cells (r5c 0 0 0 nvc 0) 69)) (Addr.add a36 1) = some v70 ∧
 (v70 : Value) = v37) ∧
 (∃ s71, World.cell? (World.alloc w48 (.cells (r5c 0 0 0 nvc 0) 69)) (Addr.add (Addr.add a38 3) 0) = some (.string s71) ∧
 ((.string s71) : Value) = (.string s39)) ∧
 (∃ n72 n73 n74 v75 n76 n77 n78 b79, (ldCells (World.alloc w48 (.cells (r5c 0 0 0 nvc 0) 69)) ⟨w.heap.size, 0, none⟩ 8 (r8c n72 n73 n74 v75 n76 n77 n78 b79)) ∧
 ((.agg (r8c n72 n73 n74 v75 n76 n77 n78 b79)) : Value) = (.agg (r8c n40 n41 n42 v43 n44 n45 n46 b47))) ∧
 bindW (World.alloc w48 (.cells (r5c 0 0 0 nvc 0) 69)) fun w80 =>
 bindW (World.alloc w48 (.cells (r5c 0 0 0 nvc 0) 69)) fun w81 =>
 CW.callU Tryz.prog v37 #[(.string s39), (.agg (r8c n40 n41 n42 v43 n44 n45 n46 b47))] w81 fun v82 w83 =>
 ∃ n84 n85 n86 v87 n88, v82 = .agg (r5c n84 n85 n86 v87 n88) ∧
 StRow w83 ⟨w48.heap.size, 0, none⟩ (r5c n84 n85 n86 v87 n88) ∧
 bindW (stRow w83 ⟨w48.heap.size, 0, none⟩ (r5c n84 n85 n86 v87 n88)) fun w89 =>
 bindW (stRow w83 ⟨w48.heap.size, 0, none⟩ (r5c n84 n85 n86 v87 n88)) fun w90 =>
 j34 (.pointer (some ⟨w48.heap.size, 0, none⟩)) w90))
 (fun j91 =>
 JoinP [.bool]
 (fun (b92 : Bool) => fun w93 =>
 cond b92
 (CW.Spec Tryz.prog 191 #[p3] w93 fun v94 w95 =>
 ∃ n96 n97 n98 n99 n100 v101 n102 b103, v94 = .tuple #[.int .u64 n96, .int .u64 n97, (.agg (r5c n98 n99 n100 v101 n102)), .bool b103] ∧
 bindW (World.alloc w95 (.cells (r5c 0 0 0 nvc 0) 69)) fun w104 =>
 StRow w104 ⟨w95.heap.size, 0, none⟩ (r5c n98 n99 n100 v101 n102) ∧
 bindW (stRow w104 ⟨w95.heap.size, 0, none⟩ (r5c n98 n99 n100 v101 n102)) fun w105 =>
 cond (!b103)
 (∃ n106 n107 n108 v109 n110, (ldCells w105 ⟨w95.heap.size, 0, none⟩ 5 (r5c n106 n107 n108 v109 n110)) ∧
 CW.Spec Tryz.prog 148 #[.pointer p0, .int .u32 p1, (.agg (r5c n106 n107 n108 v109 n110)), .int .i64 0] w105 fun v111 w112 =>
 v111 = .tuple #[] ∧
 R (.tuple #[]) w112)
 ((St1 w105 (Addr.add ⟨w.heap.size, 0, none⟩ 4)) ∧
 bindW (World.setCell w105 (Addr.add ⟨w.heap.size, 0, none⟩ 4) (.int .u64 n96)) fun w113 =>
 St1 w113 (Addr.add ⟨w.heap.size, 0, none⟩ 5) ∧
 bindW (World.setCell w113 (Addr.add ⟨w.heap.size, 0, none⟩ 5) (.int .u64 n97)) fun w114 =>
 j91 w114))
 (CW.Spec Tryz.prog 86 #[p3] w93 fun v115 w116 =>
 oneK v115 ((St1 w116 (Addr.add ⟨w.heap.size, 0, none⟩ 3)) ∧
 bindW (World.setCell w116 (Addr.add ⟨w.heap.size, 0, none⟩ 3) v115) fun w117 =>
 j91 w117)))
 (fun j118 =>
 cond (n1 == 10)
 (j118 (n1 == 10) w0)
 (cond (n1 == 11)
 (j118 (n1 == 11) w0)
 (cond (n1 == 12)
 (j118 (n1 == 12) w0)
 (cond (n1 == 13)
 (j118 (n1 == 13) w0)
 (cond (n1 == 14)
 (j118 (n1 == 14) w0)
 (j118 (n1 == 15) w0)))))))
theorem q125W (p0 p1 p2_0 p2_1 p2_2 p2_3 p2_4 p2_5 p2_6 p2_7 p3 w R) (h : q125F p0 p1 p2_0 p2_1 p2_2 p2_3 p2_4 p2_5 p2_6 p2_7 p3 w R) : CW.Spec Tryz.prog 149 #[.pointer p0, .int .u32 p1, (.agg (r8c p2_0 p2_1 p2_2 p2_3 p2_4 p2_5 p2_6 p2_7)), p3] w R :=
 sp Tryz.func149 h
def q121F (p0 : Option Addr) (p1 : Int) (w : World) (R : KV) : Prop :=
 bindW (World.alloc w (.cells #[.int .u32 p1] 38)) fun w0 =>
 withAddr (.pointer p0) fun a1 =>
 ∃ v2, World.cell? w0 (Addr.add a1 12) = some v2 ∧
 CW.Spec Tryz.prog 192 #[v2, (.func (.func 193) #[] #[(.pointer (some ⟨w.heap.size, 0, none⟩))])] w0 fun v3 w4 =>
 ∃ n5, v3 = .int .i64 n5 ∧
 R (.int .i64 n5) w4
theorem q121W (p0 p1 w R) (h : q121F p0 p1 w R) : CW.Spec Tryz.prog 150 #[.pointer p0, .int .u32 p1] w R :=
 sp Tryz.func150 h
def q128F (p0 : Option Addr) (p1 : Option Addr) (w : World) (R : KV) : Prop :=
 bindW (World.drew w) fun w0 =>
 withAddr (.pointer p1) fun a1 =>
 ∃ n2, World.cell? w0 (Addr.add a1 10) = some (.int .i64 n2) ∧
 withAddr (.pointer p1) fun a3 =>
 ∃ v4, World.cell? w0 (Addr.add a3 9) = some v4 ∧
 ∃ m5, sliceLen v4 = some m5 ∧
 withAddr (.pointer p0) fun a6 =>
 ∃ n7, World.cell? w0 (Addr.add (Addr.add a6 3) 2) = some (.int .i64 n7) ∧
 withAddr (.pointer p1) fun a8 =>
 bindW (World.drew w) fun w9 =>
 St1 w9 (Addr.add a8 11) ∧
 bindW (World.setCell w9 (Addr.add a8 11) (.int .i64 (if n7 < (IntKind.wrap .i64 (n2 - ((m5 : Nat) : Int))) then n7 else (IntKind.wrap .i64 (n2 - ((m5 : Nat) : Int)))))) fun w10 =>
 bindW (World.setCell w9 (Addr.add a8 11) (.int .i64 (if n7 < (IntKind.wrap .i64 (n2 - ((m5 : Nat) : Int))) then n7 else (IntKind.wrap .i64 (n2 - ((m5 : Nat) : Int)))))) fun w11 =>
 bindW (World.drew w11) fun w12 =>
 withAddr (.pointer p1) fun a13 =>
 ∃ n14, World.cell? w12 (Addr.add a13 0) = some (.int .u32 n14) ∧
 withAddr (.pointer p1) fun a15 =>
 ∃ v16, World.cell? w12 (Addr.add a15 9) = some v16 ∧
 ∃ m17, sliceLen v16 = some m17 ∧
 withAddr (.pointer p1) fun a18 =>
 ∃ n19, World.cell? w12 (Addr.add a18 11) = some (.int .i64 n19) ∧
 bindW (World.drew w11) fun w20 =>
 CW.Spec Tryz.prog 154 #[.pointer p0, (.agg (pdc 49 false 0 0 n14 0 0 0 (IntKind.wrap .u32 ((m17 : Nat) : Int)) (IntKind.wrap .u32 n19) 0 0 0 0 0 0 0 0 0 0 0 0 0 0 0 0 nvc))] w20 fun v21 w22 =>
 v21 = .tuple #[] ∧
 R (.tuple #[]) w22
theorem q128W (p0 p1 w R) (h : q128F p0 p1 w R) : CW.Spec Tryz.prog 151 #[.pointer p0, .pointer p1] w R :=
 sp Tryz.func151 h
def q105F (p0 : Value) (p1 : Int) (p2 : Int) (w : World) (R : KV) : Prop :=
 ∃ m0, sliceLen p0 = some m0 ∧
 ∃ v1, ((subSlice p0 12 (some (.int .i64 p1)) (some (.int .i64 p2)) (some (.int .i64 (m0 : Nat)))) = (some v1)) ∧
 cond (p1 == p2)
 (R p0 w)
 (∃ m2, sliceLen p0 = some m2 ∧
 bindW (World.drew w) fun w3 =>
 ∃ v4, ((subSlice p0 12 none (some (.int .i64 p1)) none) = (some v4)) ∧
 ∃ v5, ((subSlice p0 12 (some (.int .i64 p2)) none none) = (some v5)) ∧
 bindW (World.drew w) fun w6 =>
 ∃ v7 w8, Sem.run Tryz.prog (Builtin.append_ #[99, 99] 99 #[v4, v5]) w6 = .ok v7 w8 ∧
 ∃ m9, sliceLen v7 = some m9 ∧
 ∃ v10, ((subSlice v7 12 (some (.int .i64 (m9 : Nat))) (some (.int .i64 (m2 : Nat))) none) = (some v10)) ∧
 ∃ v11 w12, Sem.run Tryz.prog (Builtin.clear_ #[99] 0 #[v10]) w8 = .ok v11 w12 ∧
 R v7 w12)
theorem q105W (p0 p1 p2 w R) (h : q105F p0 p1 p2 w R) : CW.Spec Tryz.prog 152 #[p0, .int .i64 p1, .int .i64 p2] w R :=
 sp Tryz.func152 h
def q132F (p0_0 : Int) (p0_1 : Bool) (p0_2 : Int) (p0_3 : Int) (p0_4 : Int) (p0_5 : Int) (p0_6 : Int) (p0_7 : Int) (p0_8 : Int) (p0_9 : Int) (p0_10 : Int) (p0_11 : Int) (p0_12 : Int) (p0_13 : Int) (p0_14 : Int) (p0_15 : Int) (p0_16 : Int) (p0_17 : Int) (p0_18 : Int) (p0_19 : Int) (p0_20 : Int) (p0_21 : Int) (p0_22 : Int) (p0_23 : Int) (p0_24 : Int) (p0_25 : Int) (p0_26 : Value) (p1 : Value) (p2 : Value) (w : World) (R : KV) : Prop :=
 bindW (World.alloc w (.cells (pdc p0_0 p0_1 p0_2 p0_3 p0_4 p0_5 p0_6 p0_7 p0_8 p0_9 p0_10 p0_11 p0_12 p0_13 p0_14 p0_15 p0_16 p0_17 p0_18 p0_19 p0_20 p0_21 p0_22 p0_23 p0_24 p0_25 p0_26) 152)) fun w0 =>
 bindW (World.drew w0) fun w1 =>
 withAddr p1 fun a2 =>
 ∃ n3, World.cell? w1 a2 = some (.int .i64 n3) ∧
 withAddr p2 fun a4 =>
 ∃ o5, World.cell? w1 a4 = some (.pointer o5) ∧
 withAddr (.pointer o5) fun a6 =>
 ∃ n7, World.cell? w1 (Addr.add a6 11) = some (.int .u32 n7) ∧
 bindW (World.drew w0) fun w8 =>
 St1 w8 (Addr.add ⟨w.heap.size, 0, none⟩ 0) ∧
 (withAddr p2 fun a9 =>
 ∃ o10, World.cell? (World.setCell w8 (Addr.add ⟨w.heap.size, 0, none⟩ 0) (.int .i64 n3)) a9 = some (.pointer o10) ∧
 ((.pointer o10) : Value) = (.pointer o5)) ∧
 (∃ n11, World.cell? (World.setCell w8 (Addr.add ⟨w.heap.size, 0, none⟩ 0) (.int .i64 n3)) (Addr.add a6 11) = some (.int .u32 n11) ∧
 ((.int .u32 n11) : Value) = (.int .u32 n7)) ∧
 bindW (World.setCell w8 (Addr.add ⟨w.heap.size, 0, none⟩ 0) (.int .i64 n3)) fun w12 =>
 bindW (World.setCell w8 (Addr.add ⟨w.heap.size, 0, none⟩ 0) (.int .i64 n3)) fun w13 =>
 St1 w13 (Addr.add ⟨w.heap.size, 0, none⟩ 5) ∧
 bindW (World.setCell w13 (Addr.add ⟨w.heap.size, 0, none⟩ 5) (.int .u32 n7)) fun w14 =>
 bindW (World.setCell w13 (Addr.add ⟨w.heap.size, 0, none⟩ 5) (.int .u32 n7)) fun w15 =>
 withAddr p2 fun a16 =>
 ∃ o17, World.cell? w15 a16 = some (.pointer o17) ∧
 withAddr (.pointer o17) fun a18 =>
 ∃ n19, World.cell? w15 (Addr.add a18 11) = some (.int .u32 n19) ∧
 withAddr (.pointer o17) fun a20 =>
 St1 w15 (Addr.add a20 11) ∧
 bindW (World.setCell w15 (Addr.add a20 11) (.int .u32 (IntKind.wrap .u32 (n19 + 1)))) fun w21 =>
 withAddr p2 fun a22 =>
 ∃ o23, World.cell? w21 a22 = some (.pointer o23) ∧
 ∃ n24 b25 n26 n27 n28 n29 n30 n31 n32 n33 n34 n35 n36 n37 n38 n39 n40 n41 n42 n43 n44 n45 n46 n47 n48 n49 v50, (ldCells w21 ⟨w.heap.size, 0, none⟩ 27 (pdc n24 b25 n26 n27 n28 n29 n30 n31 n32 n33 n34 n35 n36 n37 n38 n39 n40 n41 n42 n43 n44 n45 n46 n47 n48 n49 v50)) ∧
 CW.Spec Tryz.prog 154 #[.pointer o23, (.agg (pdc n24 b25 n26 n27 n28 n29 n30 n31 n32 n33 n34 n35 n36 n37 n38 n39 n40 n41 n42 n43 n44 n45 n46 n47 n48 n49 v50))] w21 fun v51 w52 =>
 v51 = .tuple #[] ∧
 R (.tuple #[]) w52
theorem q132W (p0_0 p0_1 p0_2 p0_3 p0_4 p0_5 p0_6 p0_7 p0_8 p0_9 p0_10 p0_11 p0_12 p0_13 p0_14 p0_15 p0_16 p0_17 p0_18 p0_19 p0_20 p0_21 p0_22 p0_23 p0_24 p0_25 p0_26 p1 p2 w R) (h : q132F p0_0 p0_1 p0_2 p0_3 p0_4 p0_5 p0_6 p0_7 p0_8 p0_9 p0_10 p0_11 p0_12 p0_13 p0_14 p0_15 p0_16 p0_17 p0_18 p0_19 p0_20 p0_21 p0_22 p0_23 p0_24 p0_25 p0_26 p1 p2 w R) : CW.Spec Tryz.prog 153 #[(.agg (pdc p0_0 p0_1 p0_2 p0_3 p0_4 p0_5 p0_6 p0_7 p0_8 p0_9 p0_10 p0_11 p0_12 p0_13 p0_14 p0_15 p0_16 p0_17 p0_18 p0_19 p0_20 p0_21 p0_22 p0_23 p0_24 p0_25 p0_26)), p1, p2] w R :=
 sp Tryz.func153 h
def q131F (p0 : Option Addr) (p1_0 : Int) (p1_1 : Bool) (p1_2 : Int) (p1_3 : Int) (p1_4 : Int) (p1_5 : Int) (p1_6 : Int) (p1_7 : Int) (p1_8 : Int) (p1_9 : Int) (p1_10 : Int) (p1_11 : Int) (p1_12 : Int) (p1_13 : Int) (p1_14 : Int) (p1_15 : Int) (p1_16 : Int) (p1_17 : Int) (p1_18 : Int) (p1_19 : Int) (p1_20 : Int) (p1_21 : Int) (p1_22 : Int) (p1_23 : Int) (p1_24 : Int) (p1_25 : Int) (p1_26 : Value) (w : World) (R : KV) : Prop :=
 bindW (World.alloc w (.cells (pdc p1_0 p1_1 p1_2 p1_3 p1_4 p1_5 p1_6 p1_7 p1_8 p1_9 p1_10 p1_11 p1_12 p1_13 p1_14 p1_15 p1_16 p1_17 p1_18 p1_19 p1_20 p1_21 p1_22 p1_23 p1_24 p1_25 p1_26) 152)) fun w0 =>
 bindW (World.drew w0) fun w1 =>
 withAddr (.pointer p0) fun a2 =>
 ∃ n3, World.cell? w1 (Addr.add a2 10) = some (.int .u32 n3) ∧
 withAddr (.pointer p0) fun a4 =>
 ∃ n5, World.cell? w1 (Addr.add a4 10) = some (.int .u32 n5) ∧
 bindW (World.drew w0) fun w6 =>
 St1 w6 (Addr.add ⟨w.heap.size, 0, none⟩ 6) ∧
 (∃ n7, World.cell? (World.setCell w6 (Addr.add ⟨w.heap.size, 0, none⟩ 6) (.int .u32 n3)) (Addr.add a4 10) = some (.int .u32 n7) ∧
 ((.int .u32 n7) : Value) = (.int .u32 n5)) ∧
 bindW (World.setCell w6 (Addr.add ⟨w.heap.size, 0, none⟩ 6) (.int .u32 n3)) fun w8 =>
 bindW (World.setCell w6 (Addr.add ⟨w.heap.size, 0, none⟩ 6) (.int .u32 n3)) fun w9 =>
 St1 w9 (Addr.add ⟨w.heap.size, 0, none⟩ 7) ∧
 bindW (World.setCell w9 (Addr.add ⟨w.heap.size, 0, none⟩ 7) (.int .u32 (IntKind.wrap .u32 (n5 + 15)))) fun w10 =>
 bindW (World.setCell w9 (Addr.add ⟨w.heap.size, 0, none⟩ 7) (.int .u32 (IntKind.wrap .u32 (n5 + 15)))) fun w11 =>
 ∃ n12 b13 n14 n15 n16 n17 n18 n19 n20 n21 n22 n23 n24 n25 n26 n27 n28 n29 n30 n31 n32 n33 n34 n35 n36 n37 v38, (ldCells w11 ⟨w.heap.size, 0, none⟩ 27 (pdc n12 b13 n14 n15 n16 n17 n18 n19 n20 n21 n22 n23 n24 n25 n26 n27 n28 n29 n30 n31 n32 n33 n34 n35 n36 n37 v38)) ∧
 CW.Spec Tryz.prog 134 #[(.agg (pdc n12 b13 n14 n15 n16 n17 n18 n19 n20 n21 n22 n23 n24 n25 n26 n27 n28 n29 n30 n31 n32 n33 n34 n35 n36 n37 v38))] w11 fun v39 w40 =>
 ∃ v41 n42, v39 = .tuple #[v41, .int .i64 n42] ∧
 withAddr (.pointer p0) fun a43 =>
 ∃ v44, World.cell? w40 (Addr.add a43 13) = some v44 ∧
 ∃ v45 w46, Sem.run Tryz.prog (Builtin.append_ #[33, 33] 33 #[v44, v41]) w40 = .ok v45 w46 ∧
 withAddr (.pointer p0) fun a47 =>
 oneK v45 ((St1 w46 (Addr.add a47 13)) ∧
 bindW (World.setCell w46 (Addr.add a47 13) v45) fun w48 =>
 R (.tuple #[]) w48)
theorem q131W (p0 p1_0 p1_1 p1_2 p1_3 p1_4 p1_5 p1_6 p1_7 p1_8 p1_9 p1_10 p1_11 p1_12 p1_13 p1_14 p1_15 p1_16 p1_17 p1_18 p1_19 p1_20 p1_21 p1_22 p1_23 p1_24 p1_25 p1_26 w R) (h : q131F p0 p1_0 p1_1 p1_2 p1_3 p1_4 p1_5 p1_6 p1_7 p1_8 p1_9 p1_10 p1_11 p1_12 p1_13 p1_14 p1_15 p1_16 p1_17 p1_18 p1_19 p1_20 p1_21 p1_22 p1_23 p1_24 p1_25 p1_26 w R) : CW.Spec Tryz.prog 154 #[.pointer p0, (.agg (pdc p1_0 p1_1 p1_2 p1_3 p1_4 p1_5 p1_6 p1_7 p1_8 p1_9 p1_10 p1_11 p1_12 p1_13 p1_14 p1_15 p1_16 p1_17 p1_18 p1_19 p1_20 p1_21 p1_22 p1_23 p1_24 p1_25 p1_26))] w R :=
 sp Tryz.func154 h
def q109F (p0 : Value) (p1 : Value) (w : World) (R : KV) : Prop :=
 ∃ m0, sliceLen p0 = some m0 ∧
 LoopP [.int .i64]
 (fun j1 => fun (n2 : Int) => fun w3 =>
 cond (decide (n2 < ((m0 : Nat) : Int)))
 (∃ a4, sliceAt p0 n2 12 = some a4 ∧
 ∃ n5 n6 n7 n8 v9 n10 n11 n12 b13 v14 n15 n16, (ldCells w3 a4 12 #[.int .u32 n5, .int .i64 n6, .int .i64 n7, .int .i64 n8, v9, .int .u64 n10, .int .u64 n11, .int .i64 n12, .bool b13, v14, .int .i64 n15, .int .i64 n16]) ∧
 CW.callU Tryz.prog p1 #[(.agg #[.int .u32 n5, .int .i64 n6, .int .i64 n7, .int .i64 n8, v9, .int .u64 n10, .int .u64 n11, .int .i64 n12, .bool b13, v14, .int .i64 n15, .int .i64 n16])] w3 fun v17 w18 =>
 ∃ b19, v17 = .bool b19 ∧
 cond b19
 (R (.int .i64 n2) w18)
 (j1 (IntKind.wrap .i64 (n2 + 1)) w18))
 (R (.int .i64 (-1 : Int)) w3))
 (fun s20 => s20 (0 : Int) w)
theorem q109W (p0 p1 w R) (h : q109F p0 p1 w R) : CW.Spec Tryz.prog 192 #[p0, p1] w R :=
 sp Tryz.func192 h
def q120F (p0_0 : Int) (p0_1 : Int) (p0_2 : Int) (p0_3 : Int) (p0_4 : Value) (p0_5 : Int) (p0_6 : Int) (p0_7 : Int) (p0_8 : Bool) (p0_9 : Value) (p0_10 : Int) (p0_11 : Int) (p1 : Value) (w : World) (R : KV) : Prop :=
 bindW (World.alloc w (.cells #[.int .u32 p0_0, .int .i64 p0_1, .int .i64 p0_2, .int .i64 p0_3, p0_4, .int .u64 p0_5, .int .u64 p0_6, .int .i64 p0_7, .bool p0_8, p0_9, .int .i64 p0_10, .int .i64 p0_11] 205)) fun w0 =>
 ∃ n1, World.cell? w0 (Addr.add ⟨w.heap.size, 0, none⟩ 0) = some (.int .u32 n1) ∧
 withAddr p1 fun a2 =>
 ∃ n3, World.cell? w0 a2 = some (.int .u32 n3) ∧
 R (.bool (n1 == n3)) w0
theorem q120W (p0_0 p0_1 p0_2 p0_3 p0_4 p0_5 p0_6 p0_7 p0_8 p0_9 p0_10 p0_11 p1 w R) (h : q120F p0_0 p0_1 p0_2 p0_3 p0_4 p0_5 p0_6 p0_7 p0_8 p0_9 p0_10 p0_11 p1 w R) : CW.Spec Tryz.prog 193 #[(.agg #[.int .u32 p0_0, .int .i64 p0_1, .int .i64 p0_2, .int .i64 p0_3, p0_4, .int .u64 p0_5, .int .u64 p0_6, .int .i64 p0_7, .bool p0_8, p0_9, .int .i64 p0_10, .int .i64 p0_11]), p1] w R :=
 sp Tryz.func193 h
end
section
open Go Go.CW
def q29F (p0_0 : ByteArray) (p0_1 : Int) (p0_2 : Int) (p0_3 : Bool) (p0_4 : Bool) (w : World) (R : KV) : Prop :=
 bindW (World.alloc w (.cells #[(.string p0_0), .int .i64 p0_1, .int .i64 p0_2, .bool p0_3, .bool p0_4] 54)) fun w0 =>
 bindW (World.drew w0) fun w1 =>
 ∃ s2 n3 n4 b5 b6, (ldCells w1 ⟨w.heap.size, 0, none⟩ 5 #[(.string s2), .int .i64 n3, .int .i64 n4, .bool b5, .bool b6]) ∧
 bindW (World.drew w0) fun w7 =>
 CW.Spec Tryz.prog 29 #[] w7 fun v8 w9 =>
 ∃ o10, v8 = .pointer o10 ∧
 (∃ s11 n12 n13 b14 b15, (ldCells w9 ⟨w.heap.size, 0, none⟩ 5 #[(.string s11), .int .i64 n12, .int .i64 n13, .bool b14, .bool b15]) ∧
 ((.agg #[(.string s11), .int .i64 n12, .int .i64 n13, .bool b14, .bool b15]) : Value) = (.agg #[(.string s2), .int .i64 n3, .int .i64 n4, .bool b5, .bool b6])) ∧
 bindW (World.alloc w9 (.cells #[(.string s2), .int .i64 n3, .int .i64 n4, .bool b5, .bool b6, .pointer o10, .bool false, .bool false, .bool false, .bool false, .bool false, .int .u32 0, .int .u32 0, .int .u32 0, nvc, nvc, nvc] 121)) fun w16 =>
 bindW (World.alloc w9 (.cells #[(.string s2), .int .i64 n3, .int .i64 n4, .bool b5, .bool b6, .pointer o10, .bool false, .bool false, .bool false, .bool false, .bool false, .int .u32 0, .int .u32 0, .int .u32 0, nvc, nvc, nvc] 121)) fun w17 =>
 R (.pointer (some ⟨w9.heap.size, 0, none⟩)) w17
theorem q29W (p0_0 p0_1 p0_2 p0_3 p0_4 w R) (h : q29F p0_0 p0_1 p0_2 p0_3 p0_4 w R) : CW.Spec Tryz.prog 40 #[(.agg #[(.string p0_0), .int .i64 p0_1, .int .i64 p0_2, .bool p0_3, .bool p0_4])] w R :=
 sp Tryz.func40 h
def q14F (p0 : Option Addr) (p1_0 : Int) (p1_1 : Int) (p1_2 : Int) (p1_3 : Value) (p1_4 : Int) (p1_5 : Int) (p1_6 : Int) (p1_7 : Bool) (w : World) (R : KV) : Prop :=
 bindW (World.alloc w (.cells (r8c p1_0 p1_1 p1_2 p1_3 p1_4 p1_5 p1_6 p1_7) 64)) fun w0 =>
 ∃ n1 n2 n3 v4 n5 n6 n7 b8, (ldCells w0 ⟨w.heap.size, 0, none⟩ 8 (r8c n1 n2 n3 v4 n5 n6 n7 b8)) ∧
 CW.Spec Tryz.prog 41 #[(.agg (r8c n1 n2 n3 v4 n5 n6 n7 b8))] w0 fun v9 w10 =>
 ∃ v11 n12, v9 = .tuple #[v11, .int .i64 n12] ∧
 ∃ n13 n14 n15 v16 n17 n18 n19 b20, (ldCells w10 ⟨w.heap.size, 0, none⟩ 8 (r8c n13 n14 n15 v16 n17 n18 n19 b20)) ∧
 CW.Spec Tryz.prog 42 #[(.agg (r8c n13 n14 n15 v16 n17 n18 n19 b20))] w10 fun v21 w22 =>
 ∃ v23 b24, v21 = .tuple #[v23, .bool b24] ∧
 JoinP [.bool]
 (fun (b25 : Bool) => fun w26 =>
 cond b25
 (R (.tuple #[.int .u32 0, .int .i64 1]) w26)
 (CW.Spec Tryz.prog 39 #[.pointer p0] w26 fun v27 w28 =>
 ∃ n29, v27 = .int .i64 n29 ∧
 cond (decide (n29 ≥ 16))
 (R (.tuple #[.int .u32 0, .int .i64 7]) w28)
 (withAddr (.pointer p0) fun a30 =>
 ∃ b31, World.cell? w28 (Addr.add a30 7) = some (.bool b31) ∧
 cond b31
 (R (.tuple #[.int .u32 0, .int .i64 8]) w28)
 (withAddr (.pointer p0) fun a32 =>
 ∃ n33, World.cell? w28 (Addr.add a32 13) = some (.int .u32 n33) ∧
 withAddr (.pointer p0) fun a34 =>
 St1 w28 (Addr.add a34 13) ∧
 bindW (World.setCell w28 (Addr.add a34 13) (.int .u32 (IntKind.wrap .u32 (n33 + 1)))) fun w35 =>
 bindW (World.drew w35) fun w36 =>
 withAddr (.pointer p0) fun a37 =>
 ∃ v38, World.cell? w36 (Addr.add a37 14) = some v38 ∧
 withAddr (.pointer p0) fun a39 =>
 ∃ n40, World.cell? w36 (Addr.add a39 13) = some (.int .u32 n40) ∧
 oneK v11 (oneK v23 (bindW (World.drew w35) fun w41 =>
 (∃ v42, World.cell? (World.alloc w41 (.cells #[.int .u32 n40, v11, v23, nvc, .bool false, .bool false] 123)) (Addr.add a37 14) = some v42 ∧
 (v42 : Value) = v38) ∧
 bindW (World.alloc w41 (.cells #[.int .u32 n40, v11, v23, nvc, .bool false, .bool false] 123)) fun w43 =>
 bindW (World.alloc w41 (.cells #[.int .u32 n40, v11, v23, nvc, .bool false, .bool false] 123)) fun w44 =>
 ∃ v45 w46, Sem.run Tryz.prog (Builtin.append_ #[119, 119] 119 #[v38, (.slice (some ⟨w41.heap.size, 0, none⟩) 1 1)]) w44 = .ok v45 w46 ∧
 withAddr (.pointer p0) fun a47 =>
 oneK v45 ((St1 w46 (Addr.add a47 14)) ∧
 bindW (World.setCell w46 (Addr.add a47 14) v45) fun w48 =>
 bindW (World.setCell w46 (Addr.add a47 14) v45) fun w49 =>
 withAddr (.pointer p0) fun a50 =>
 ∃ n51, World.cell? w49 (Addr.add a50 13) = some (.int .u32 n51) ∧
 R (.tuple #[.int .u32 n51, .int .i64 0]) w49)))))))
 (fun j52 =>
 cond (n12 != 0)
 (j52 true w22)
 (j52 (!b24) w22))
theorem q14W (p0 p1_0 p1_1 p1_2 p1_3 p1_4 p1_5 p1_6 p1_7 w R) (h : q14F p0 p1_0 p1_1 p1_2 p1_3 p1_4 p1_5 p1_6 p1_7 w R) : CW.Spec Tryz.prog 18 #[.pointer p0, (.agg (r8c p1_0 p1_1 p1_2 p1_3 p1_4 p1_5 p1_6 p1_7))] w R :=
 sp Tryz.func18 h
def q30F (p0_0 : Int) (p0_1 : Int) (p0_2 : Int) (p0_3 : Value) (p0_4 : Int) (p0_5 : Int) (p0_6 : Int) (p0_7 : Bool) (w : World) (R : KV) : Prop :=
 bindW (World.alloc w (.cells (r8c p0_0 p0_1 p0_2 p0_3 p0_4 p0_5 p0_6 p0_7) 64)) fun w0 =>
 ∃ n1, World.cell? w0 (Addr.add ⟨w.heap.size, 0, none⟩ 0) = some (.int .i64 n1) ∧
 JoinP [.bool]
 (fun (b2 : Bool) => fun w3 =>
 cond b2
 (∃ n4, World.cell? w3 (Addr.add ⟨w.heap.size, 0, none⟩ 4) = some (.int .u64 n4) ∧
 ∃ n5, World.cell? w3 (Addr.add ⟨w.heap.size, 0, none⟩ 5) = some (.int .u64 n5) ∧
 CW.Spec Tryz.prog 85 #[.int .u64 n4, .int .u64 n5] w3 fun v6 w7 =>
 R (.tuple #[v6, .bool true]) w7)
 (bindW (World.drew w3) fun w8 =>
 ∃ v9, World.cell? w8 (Addr.add ⟨w.heap.size, 0, none⟩ 3) = some v9 ∧
 ∃ v10, World.cell? w8 (Addr.add ⟨w.heap.size, 0, none⟩ 3) = some v10 ∧
 ∃ m11, sliceLen v10 = some m11 ∧
 ∃ n12 n13 n14 v15 n16 n17 n18 b19, (ldCells w8 ⟨w.heap.size, 0, none⟩ 8 (r8c n12 n13 n14 v15 n16 n17 n18 b19)) ∧
 bindW (World.drew w3) fun w20 =>
 CW.Spec Tryz.prog 86 #[v9] w20 fun v21 w22 =>
 (∃ v23, World.cell? w22 (Addr.add ⟨w.heap.size, 0, none⟩ 3) = some v23 ∧
 (v23 : Value) = v10) ∧
 (∃ n24 n25 n26 v27 n28 n29 n30 b31, (ldCells w22 ⟨w.heap.size, 0, none⟩ 8 (r8c n24 n25 n26 v27 n28 n29 n30 b31)) ∧
 ((.agg (r8c n24 n25 n26 v27 n28 n29 n30 b31)) : Value) = (.agg (r8c n12 n13 n14 v15 n16 n17 n18 b19))) ∧
 CW.Spec Tryz.prog 87 #[(.agg (r8c n12 n13 n14 v15 n16 n17 n18 b19))] w22 fun v32 w33 =>
 ∃ n34, v32 = .int .i64 n34 ∧
 (∃ v35, World.cell? w33 (Addr.add ⟨w.heap.size, 0, none⟩ 3) = some v35 ∧
 (v35 : Value) = v10) ∧
 R (.tuple #[v21, (.bool (((m11 : Nat) : Int) == n34))]) w33))
 (fun j36 =>
 cond (n1 == 10)
 (j36 (n1 == 10) w0)
 (cond (n1 == 11)
 (j36 (n1 == 11) w0)
 (cond (n1 == 12)
 (j36 (n1 == 12) w0)
 (cond (n1 == 13)
 (j36 (n1 == 13) w0)
 (cond (n1 == 14)
 (j36 (n1 == 14) w0)
 (j36 (n1 == 15) w0))))))
theorem q30W (p0_0 p0_1 p0_2 p0_3 p0_4 p0_5 p0_6 p0_7 w R) (h : q30F p0_0 p0_1 p0_2 p0_3 p0_4 p0_5 p0_6 p0_7 w R) : CW.Spec Tryz.prog 42 #[(.agg (r8c p0_0 p0_1 p0_2 p0_3 p0_4 p0_5 p0_6 p0_7))] w R :=
 sp Tryz.func42 h
def q19F (p0 : Option Addr) (w : World) (R : KV) : Prop :=
 withAddr (.pointer p0) fun a0 =>
 ∃ v1, World.cell? w (Addr.add a0 14) = some v1 ∧
 ∃ m2, sliceLen v1 = some m2 ∧
 LoopP [.int .i64, .int .i64]
 (fun j3 => fun (n4 : Int) => fun (n5 : Int) => fun w6 =>
 cond (decide (n5 < ((m2 : Nat) : Int)))
 (JoinP [.int .i64]
 (fun (n7 : Int) => fun w8 =>
 j3 n7 (IntKind.wrap .i64 (n5 + 1)) w8)
 (fun j9 =>
 ∃ a10, sliceAt v1 n5 6 = some a10 ∧
 ∃ n11 v12 v13 v14 b15 b16, (ldCells w6 a10 6 #[.int .u32 n11, v12, v13, v14, .bool b15, .bool b16]) ∧
 bindW (World.alloc w6 (.cells #[.int .u32 0, nvc, nvc, nvc, .bool false, .bool false] 123)) fun w17 =>
 StRow w17 ⟨w6.heap.size, 0, none⟩ #[.int .u32 n11, v12, v13, v14, .bool b15, .bool b16] ∧
 bindW (stRow w17 ⟨w6.heap.size, 0, none⟩ #[.int .u32 n11, v12, v13, v14, .bool b15, .bool b16]) fun w18 =>
 ∃ b19, World.cell? w18 (Addr.add ⟨w6.heap.size, 0, none⟩ 5) = some (.bool b19) ∧
 cond (!b19)
 (j9 (IntKind.wrap .i64 (n4 + 1)) w18)
 (j9 n4 w18)))
 (R (.int .i64 n4) w6))
 (fun s20 => s20 (0 : Int) (0 : Int) w)
theorem q19W (p0 w R) (h : q19F p0 w R) : CW.Spec Tryz.prog 39 #[.pointer p0] w R :=
 sp Tryz.func39 h
def q17F (p0 : Option Addr) (w : World) (R : KV) : Prop :=
 JoinP [.bool]
 (fun (b0 : Bool) => fun w1 =>
 R (.bool b0) w1)
 (fun j2 =>
 withAddr (.pointer p0) fun a3 =>
 ∃ b4, World.cell? w (Addr.add a3 6) = some (.bool b4) ∧
 cond b4
 (withAddr (.pointer p0) fun a5 =>
 ∃ b6, World.cell? w (Addr.add a5 7) = some (.bool b6) ∧
 j2 (!b6) w)
 (j2 false w))
theorem q17W (p0 w R) (h : q17F p0 w R) : CW.Spec Tryz.prog 38 #[.pointer p0] w R :=
 sp Tryz.func38 h
def q22F (p0 : Option Addr) (p1 : Int) (w : World) (R : KV) : Prop :=
 bindW (World.alloc w (.cells #[.int .u32 p1] 38)) fun w0 =>
 withAddr (.pointer p0) fun a1 =>
 ∃ v2, World.cell? w0 (Addr.add a1 14) = some v2 ∧
 CW.Spec Tryz.prog 181 #[v2, (.func (.func 182) #[] #[(.pointer (some ⟨w.heap.size, 0, none⟩))])] w0 fun v3 w4 =>
 ∃ n5, v3 = .int .i64 n5 ∧
 R (.int .i64 n5) w4
theorem q22W (p0 p1 w R) (h : q22F p0 p1 w R) : CW.Spec Tryz.prog 138 #[.pointer p0, .int .u32 p1] w R :=
 sp Tryz.func138 h
def q21F (p0_0 : Int) (p0_1 : Value) (p0_2 : Value) (p0_3 : Value) (p0_4 : Bool) (p0_5 : Bool) (p1 : Value) (w : World) (R : KV) : Prop :=
 bindW (World.alloc w (.cells #[.int .u32 p0_0, p0_1, p0_2, p0_3, .bool p0_4, .bool p0_5] 123)) fun w0 =>
 ∃ n1, World.cell? w0 (Addr.add ⟨w.heap.size, 0, none⟩ 0) = some (.int .u32 n1) ∧
 withAddr p1 fun a2 =>
 ∃ n3, World.cell? w0 a2 = some (.int .u32 n3) ∧
 R (.bool (n1 == n3)) w0
theorem q21W (p0_0 p0_1 p0_2 p0_3 p0_4 p0_5 p1 w R) (h : q21F p0_0 p0_1 p0_2 p0_3 p0_4 p0_5 p1 w R) : CW.Spec Tryz.prog 182 #[(.agg #[.int .u32 p0_0, p0_1, p0_2, p0_3, .bool p0_4, .bool p0_5]), p1] w R :=
 sp Tryz.func182 h
def q108F (p0 : Value) (p1 : Value) (w : World) (R : KV) : Prop :=
 ∃ m0, sliceLen p0 = some m0 ∧
 LoopP [.int .i64]
 (fun j1 => fun (n2 : Int) => fun w3 =>
 cond (decide (n2 < ((m0 : Nat) : Int)))
 (∃ a4, sliceAt p0 n2 6 = some a4 ∧
 ∃ n5 v6 v7 v8 b9 b10, (ldCells w3 a4 6 #[.int .u32 n5, v6, v7, v8, .bool b9, .bool b10]) ∧
 CW.callU Tryz.prog p1 #[(.agg #[.int .u32 n5, v6, v7, v8, .bool b9, .bool b10])] w3 fun v11 w12 =>
 ∃ b13, v11 = .bool b13 ∧
 cond b13
 (R (.int .i64 n2) w12)
 (j1 (IntKind.wrap .i64 (n2 + 1)) w12))
 (R (.int .i64 (-1 : Int)) w3))
 (fun s14 => s14 (0 : Int) w)
theorem q108W (p0 p1 w R) (h : q108F p0 p1 w R) : CW.Spec Tryz.prog 181 #[p0, p1] w R :=
 sp Tryz.func181 h
def q26F (p0 : Option Addr) (w : World) (R : KV) : Prop :=
 withAddr (.pointer p0) fun a0 =>
 ∃ v1, World.cell? w (Addr.add a0 14) = some v1 ∧
 ∃ m2, sliceLen v1 = some m2 ∧
 JoinP []
 (fun w3 =>
 R (.tuple #[]) w3)
 (fun j4 =>
 LoopP [.int .i64]
 (fun j5 => fun (n6 : Int) => fun w7 =>
 cond (decide (n6 < ((m2 : Nat) : Int)))
 (JoinP []
 (fun w8 =>
 j5 (IntKind.wrap .i64 (n6 + 1)) w8)
 (fun j9 =>
 withAddr (.pointer p0) fun a10 =>
 ∃ v11, World.cell? w7 (Addr.add a10 14) = some v11 ∧
 ∃ a12, sliceAt v11 n6 6 = some a12 ∧
 ∃ b13, World.cell? w7 (Addr.add a12 4) = some (.bool b13) ∧
 cond b13
 (j9 w7)
 (bindW (World.drew w7) fun w14 =>
 withAddr (.pointer p0) fun a15 =>
 ∃ n16, World.cell? w14 (Addr.add a15 11) = some (.int .u32 n16) ∧
 withAddr (.pointer p0) fun a17 =>
 ∃ n18, World.cell? w14 (Addr.add a17 12) = some (.int .u32 n18) ∧
 bindW (World.drew w7) fun w19 =>
 CW.Spec Tryz.prog 135 #[.int .u32 n16, .int .u32 n18] w19 fun v20 w21 =>
 ∃ n22, v20 = .int .i64 n22 ∧
 cond (decide (n22 < 0))
 (j4 w21)
 (bindW (World.drew w21) fun w23 =>
 ∃ n24, World.cell? w23 (Addr.add a12 0) = some (.int .u32 n24) ∧
 withAddr (.pointer p0) fun a25 =>
 ∃ n26, World.cell? w23 (Addr.add a25 11) = some (.int .u32 n26) ∧
 ∃ v27, World.cell? w23 (Addr.add a12 1) = some v27 ∧
 ∃ v28, Sem.run Tryz.prog (Instr.arrayAt 44 v27) w23 = .ok v28 w23 ∧
 withAddr v28 fun a29 =>
 ∃ n30 n31 n32 n33 n34 n35 n36 n37 n38 n39 n40 n41 n42 n43 n44 n45, (ldCells w23 a29 16 #[.int .u8 n30, .int .u8 n31, .int .u8 n32, .int .u8 n33, .int .u8 n34, .int .u8 n35, .int .u8 n36, .int .u8 n37, .int .u8 n38, .int .u8 n39, .int .u8 n40, .int .u8 n41, .int .u8 n42, .int .u8 n43, .int .u8 n44, .int .u8 n45]) ∧
 bindW (World.drew w21) fun w46 =>
 (∃ n47, World.cell? (World.alloc w46 (.cells (pdc 0 false 0 0 0 0 0 0 0 0 0 0 0 0 0 0 0 0 0 0 0 0 0 0 0 0 nvc) 152)) (Addr.add a12 0) = some (.int .u32 n47) ∧
 ((.int .u32 n47) : Value) = (.int .u32 n24)) ∧
 (∃ n48, World.cell? (World.alloc w46 (.cells (pdc 0 false 0 0 0 0 0 0 0 0 0 0 0 0 0 0 0 0 0 0 0 0 0 0 0 0 nvc) 152)) (Addr.add a25 11) = some (.int .u32 n48) ∧
 ((.int .u32 n48) : Value) = (.int .u32 n26)) ∧
 (∃ v49, World.cell? (World.alloc w46 (.cells (pdc 0 false 0 0 0 0 0 0 0 0 0 0 0 0 0 0 0 0 0 0 0 0 0 0 0 0 nvc) 152)) (Addr.add a12 1) = some v49 ∧
 (v49 : Value) = v27) ∧
 (∃ v50, ((Sem.run Tryz.prog (Instr.arrayAt 44 v27) (World.alloc w46 (.cells (pdc 0 false 0 0 0 0 0 0 0 0 0 0 0 0 0 0 0 0 0 0 0 0 0 0 0 0 nvc) 152))) = (.ok v50 (World.alloc w46 (.cells (pdc 0 false 0 0 0 0 0 0 0 0 0 0 0 0 0 0 0 0 0 0 0 0 0 0 0 0 nvc) 152)))) ∧
 (v50 : Value) = v28) ∧
 (withAddr v28 fun a51 =>
 ∃ n52 n53 n54 n55 n56 n57 n58 n59 n60 n61 n62 n63 n64 n65 n66 n67, (ldCells (World.alloc w46 (.cells (pdc 0 false 0 0 0 0 0 0 0 0 0 0 0 0 0 0 0 0 0 0 0 0 0 0 0 0 nvc) 152)) a51 16 #[.int .u8 n52, .int .u8 n53, .int .u8 n54, .int .u8 n55, .int .u8 n56, .int .u8 n57, .int .u8 n58, .int .u8 n59, .int .u8 n60, .int .u8 n61, .int .u8 n62, .int .u8 n63, .int .u8 n64, .int .u8 n65, .int .u8 n66, .int .u8 n67]) ∧
 ((.agg #[.int .u8 n52, .int .u8 n53, .int .u8 n54, .int .u8 n55, .int .u8 n56, .int .u8 n57, .int .u8 n58, .int .u8 n59, .int .u8 n60, .int .u8 n61, .int .u8 n62, .int .u8 n63, .int .u8 n64, .int .u8 n65, .int .u8 n66, .int .u8 n67]) : Value) = (.agg #[.int .u8 n30, .int .u8 n31, .int .u8 n32, .int .u8 n33, .int .u8 n34, .int .u8 n35, .int .u8 n36, .int .u8 n37, .int .u8 n38, .int .u8 n39, .int .u8 n40, .int .u8 n41, .int .u8 n42, .int .u8 n43, .int .u8 n44, .int .u8 n45])) ∧
 bindW (World.alloc w46 (.cells (pdc 0 false 0 0 0 0 0 0 0 0 0 0 0 0 0 0 0 0 0 0 0 0 0 0 0 0 nvc) 152)) fun w68 =>
 bindW (World.alloc w46 (.cells (pdc 0 false 0 0 0 0 0 0 0 0 0 0 0 0 0 0 0 0 0 0 0 0 0 0 0 0 nvc) 152)) fun w69 =>
 StRow w69 ⟨w46.heap.size, 0, none⟩ (pdc 1 true 0 0 n24 n26 0 0 0 0 n30 n31 n32 n33 n34 n35 n36 n37 n38 n39 n40 n41 n42 n43 n44 n45 nvc) ∧
 bindW (stRow w69 ⟨w46.heap.size, 0, none⟩ (pdc 1 true 0 0 n24 n26 0 0 0 0 n30 n31 n32 n33 n34 n35 n36 n37 n38 n39 n40 n41 n42 n43 n44 n45 nvc)) fun w70 =>
 bindW (stRow w69 ⟨w46.heap.size, 0, none⟩ (pdc 1 true 0 0 n24 n26 0 0 0 0 n30 n31 n32 n33 n34 n35 n36 n37 n38 n39 n40 n41 n42 n43 n44 n45 nvc)) fun w71 =>
 JoinP []
 (fun w72 =>
 ∃ n73 b74 n75 n76 n77 n78 n79 n80 n81 n82 n83 n84 n85 n86 n87 n88 n89 n90 n91 n92 n93 n94 n95 n96 n97 n98 v99, (ldCells w72 ⟨w46.heap.size, 0, none⟩ 27 (pdc n73 b74 n75 n76 n77 n78 n79 n80 n81 n82 n83 n84 n85 n86 n87 n88 n89 n90 n91 n92 n93 n94 n95 n96 n97 n98 v99)) ∧
 CW.Spec Tryz.prog 91 #[.pointer p0, (.agg (pdc n73 b74 n75 n76 n77 n78 n79 n80 n81 n82 n83 n84 n85 n86 n87 n88 n89 n90 n91 n92 n93 n94 n95 n96 n97 n98 v99))] w72 fun v100 w101 =>
 v100 = .tuple #[] ∧
 withAddr (.pointer p0) fun a102 =>
 ∃ n103, World.cell? w101 (Addr.add a102 11) = some (.int .u32 n103) ∧
 withAddr (.pointer p0) fun a104 =>
 St1 w101 (Addr.add a104 11) ∧
 bindW (World.setCell w101 (Addr.add a104 11) (.int .u32 (IntKind.wrap .u32 (n103 + 1)))) fun w105 =>
 St1 w105 (Addr.add a12 4) ∧
 bindW (World.setCell w105 (Addr.add a12 4) (.bool true)) fun w106 =>
 j9 w106)
 (fun j107 =>
 withAddr (.pointer p0) fun a108 =>
 ∃ b109, World.cell? w71 (Addr.add (Addr.add a108 0) 3) = some (.bool b109) ∧
 cond b109
 (∃ v110, World.cell? w71 (Addr.add a12 2) = some v110 ∧
 oneK v110 ((St1 w71 (Addr.add ⟨w46.heap.size, 0, none⟩ 26)) ∧
 bindW (World.setCell w71 (Addr.add ⟨w46.heap.size, 0, none⟩ 26) v110) fun w111 =>
 j107 w111))
 (j107 w71))))))
 (j4 w7))
 (fun s112 => s112 (0 : Int) w))
theorem q26W (p0 w R) (h : q26F p0 w R) : CW.Spec Tryz.prog 92 #[.pointer p0] w R :=
 sp Tryz.func92 h
def q18F (p0 : Option Addr) (w : World) (R : KV) : Prop :=
 withAddr (.pointer p0) fun a0 =>
 ∃ b1, World.cell? w (Addr.add a0 7) = some (.bool b1) ∧
 cond b1
 (R nvc w)
 (JoinP []
 (fun w2 =>
 withAddr (.pointer p0) fun a3 =>
 ∃ v4, World.cell? w2 (Addr.add a3 15) = some v4 ∧
 CW.Spec Tryz.prog 72 #[v4] w2 fun v5 w6 =>
 withAddr (.pointer p0) fun a7 =>
 St1 w6 (Addr.add a7 15) ∧
 bindW (World.setCell w6 (Addr.add a7 15) nvc) fun w8 =>
 R v5 w8)
 (fun j9 =>
 withAddr (.pointer p0) fun a10 =>
 ∃ b11, World.cell? w (Addr.add a10 8) = some (.bool b11) ∧
 cond (!b11)
 (withAddr (.pointer p0) fun a12 =>
 St1 w (Addr.add a12 8) ∧
 bindW (World.setCell w (Addr.add a12 8) (.bool true)) fun w13 =>
 withAddr (.pointer p0) fun a14 =>
 ∃ s15 n16 n17 b18 b19, (ldCells w13 (Addr.add a14 0) 5 #[(.string s15), .int .i64 n16, .int .i64 n17, .bool b18, .bool b19]) ∧
 CW.Spec Tryz.prog 89 #[(.agg #[(.string s15), .int .i64 n16, .int .i64 n17, .bool b18, .bool b19])] w13 fun v20 w21 =>
 CW.Spec Tryz.prog 88 #[v20] w21 fun v22 w23 =>
 ∃ v24 n25, v22 = .tuple #[v24, .int .i64 n25] ∧
 cond (n25 != 0)
 (CW.Spec Tryz.prog 90 #[.pointer p0] w23 fun v26 w27 =>
 v26 = .tuple #[] ∧
 R nvc w27)
 (oneK v24 (CW.Spec Tryz.prog 91 #[.pointer p0, (.agg (pdc 3 true 0 0 0 1 0 0 0 0 0 0 0 0 0 0 0 0 0 0 0 0 0 0 0 0 v24))] w23 fun v28 w29 =>
 v28 = .tuple #[] ∧
 j9 w29)))
 (withAddr (.pointer p0) fun a30 =>
 ∃ b31, World.cell? w (Addr.add a30 6) = some (.bool b31) ∧
 cond b31
 (CW.Spec Tryz.prog 92 #[.pointer p0] w fun v32 w33 =>
 v32 = .tuple #[] ∧
 JoinP [.bool]
 (fun (b34 : Bool) => fun w35 =>
 cond b34
 (withAddr (.pointer p0) fun a36 =>
 St1 w35 (Addr.add a36 10) ∧
 bindW (World.setCell w35 (Addr.add a36 10) (.bool true)) fun w37 =>
 CW.Spec Tryz.prog 91 #[.pointer p0, (.agg (pdc 6 true 0 0 0 0 0 0 0 0 0 0 0 0 0 0 0 0 0 0 0 0 0 0 0 0 nvc))] w37 fun v38 w39 =>
 v38 = .tuple #[] ∧
 j9 w39)
 (j9 w35))
 (fun j40 =>
 withAddr (.pointer p0) fun a41 =>
 ∃ b42, World.cell? w33 (Addr.add a41 9) = some (.bool b42) ∧
 cond b42
 (withAddr (.pointer p0) fun a43 =>
 ∃ b44, World.cell? w33 (Addr.add a43 10) = some (.bool b44) ∧
 cond (!b44)
 (withAddr (.pointer p0) fun a45 =>
 ∃ v46, World.cell? w33 (Addr.add a45 14) = some v46 ∧
 ∃ m47, sliceLen v46 = some m47 ∧
 j40 (((m47 : Nat) : Int) == 0) w33)
 (j40 false w33))
 (j40 false w33)))
 (j9 w))))
theorem q18W (p0 w R) (h : q18F p0 w R) : CW.Spec Tryz.prog 43 #[.pointer p0] w R :=
 sp Tryz.func43 h
def q16F (p0 : Option Addr) (p1 : Value) (w : World) (R : KV) : Prop :=
 withAddr (.pointer p0) fun a0 =>
 ∃ b1, World.cell? w (Addr.add a0 7) = some (.bool b1) ∧
 cond b1
 (R (.tuple #[]) w)
 (withAddr (.pointer p0) fun a2 =>
 ∃ o3, World.cell? w (Addr.add a2 5) = some (.pointer o3) ∧
 CW.Spec Tryz.prog 66 #[.pointer o3, p1] w fun v4 w5 =>
 v4 = .tuple #[] ∧
 JoinP []
 (fun w6 =>
 R (.tuple #[]) w6)
 (fun j7 =>
 LoopP []
 (fun j8 w9 =>
 withAddr (.pointer p0) fun a10 =>
 ∃ b11, World.cell? w9 (Addr.add a10 7) = some (.bool b11) ∧
 cond (!b11)
 (withAddr (.pointer p0) fun a12 =>
 ∃ o13, World.cell? w9 (Addr.add a12 5) = some (.pointer o13) ∧
 CW.Spec Tryz.prog 67 #[.pointer o13] w9 fun v14 w15 =>
 ∃ n16 b17 n18 n19 n20 n21 n22 n23 n24 n25 n26 n27 n28 n29 n30 n31 n32 n33 n34 n35 n36 n37 n38 n39 n40 n41 v42 b43, v14 = .tuple #[(.agg (pdc n16 b17 n18 n19 n20 n21 n22 n23 n24 n25 n26 n27 n28 n29 n30 n31 n32 n33 n34 n35 n36 n37 n38 n39 n40 n41 v42)), .bool b43] ∧
 bindW (World.alloc w15 (.cells (pdc 0 false 0 0 0 0 0 0 0 0 0 0 0 0 0 0 0 0 0 0 0 0 0 0 0 0 nvc) 152)) fun w44 =>
 StRow w44 ⟨w15.heap.size, 0, none⟩ (pdc n16 b17 n18 n19 n20 n21 n22 n23 n24 n25 n26 n27 n28 n29 n30 n31 n32 n33 n34 n35 n36 n37 n38 n39 n40 n41 v42) ∧
 bindW (stRow w44 ⟨w15.heap.size, 0, none⟩ (pdc n16 b17 n18 n19 n20 n21 n22 n23 n24 n25 n26 n27 n28 n29 n30 n31 n32 n33 n34 n35 n36 n37 n38 n39 n40 n41 v42)) fun w45 =>
 JoinP []
 (fun w46 =>
 j7 w46)
 (fun j47 =>
 cond b43
 (∃ n48 b49 n50 n51 n52 n53 n54 n55 n56 n57 n58 n59 n60 n61 n62 n63 n64 n65 n66 n67 n68 n69 n70 n71 n72 n73 v74, (ldCells w45 ⟨w15.heap.size, 0, none⟩ 27 (pdc n48 b49 n50 n51 n52 n53 n54 n55 n56 n57 n58 n59 n60 n61 n62 n63 n64 n65 n66 n67 n68 n69 n70 n71 n72 n73 v74)) ∧
 CW.Spec Tryz.prog 93 #[.pointer p0, (.agg (pdc n48 b49 n50 n51 n52 n53 n54 n55 n56 n57 n58 n59 n60 n61 n62 n63 n64 n65 n66 n67 n68 n69 n70 n71 n72 n73 v74))] w45 fun v75 w76 =>
 v75 = .tuple #[] ∧
 j8 w76)
 (withAddr (.pointer p0) fun a77 =>
 ∃ o78, World.cell? w45 (Addr.add a77 5) = some (.pointer o78) ∧
 CW.Spec Tryz.prog 68 #[.pointer o78] w45 fun v79 w80 =>
 ∃ n81, v79 = .int .i64 n81 ∧
 cond (n81 != 0)
 (CW.Spec Tryz.prog 90 #[.pointer p0] w80 fun v82 w83 =>
 v82 = .tuple #[] ∧
 j47 w83)
 (j47 w80))))
 (j7 w9))
 (fun s84 => s84 w5)))
theorem q16W (p0 p1 w R) (h : q16F p0 p1 w R) : CW.Spec Tryz.prog 44 #[.pointer p0, p1] w R :=
 sp Tryz.func44 h
def q23F (p0 : Option Addr) (p1_0 : Int) (p1_1 : Bool) (p1_2 : Int) (p1_3 : Int) (p1_4 : Int) (p1_5 : Int) (p1_6 : Int) (p1_7 : Int) (p1_8 : Int) (p1_9 : Int) (p1_10 : Int) (p1_11 : Int) (p1_12 : Int) (p1_13 : Int) (p1_14 : Int) (p1_15 : Int) (p1_16 : Int) (p1_17 : Int) (p1_18 : Int) (p1_19 : Int) (p1_20 : Int) (p1_21 : Int) (p1_22 : Int) (p1_23 : Int) (p1_24 : Int) (p1_25 : Int) (p1_26 : Value) (w : World) (R : KV) : Prop :=
 bindW (World.alloc w (.cells (pdc p1_0 p1_1 p1_2 p1_3 p1_4 p1_5 p1_6 p1_7 p1_8 p1_9 p1_10 p1_11 p1_12 p1_13 p1_14 p1_15 p1_16 p1_17 p1_18 p1_19 p1_20 p1_21 p1_22 p1_23 p1_24 p1_25 p1_26) 152)) fun w0 =>
 ∃ v1, World.cell? w0 (Addr.add ⟨w.heap.size, 0, none⟩ 26) = some v1 ∧
 CW.Spec Tryz.prog 114 #[v1] w0 fun v2 w3 =>
 ∃ v4 n5, v2 = .tuple #[v4, .int .i64 n5] ∧
 JoinP [.bool]
 (fun (b6 : Bool) => fun w7 =>
 cond b6
 (CW.Spec Tryz.prog 90 #[.pointer p0] w7 fun v8 w9 =>
 v8 = .tuple #[] ∧
 R (.tuple #[]) w9)
 (withAddr (.pointer p0) fun a10 =>
 ∃ s11 n12 n13 b14 b15, (ldCells w7 (Addr.add a10 0) 5 #[(.string s11), .int .i64 n12, .int .i64 n13, .bool b14, .bool b15]) ∧
 CW.Spec Tryz.prog 180 #[(.agg #[(.string s11), .int .i64 n12, .int .i64 n13, .bool b14, .bool b15]), v4] w7 fun v16 w17 =>
 ∃ s18 n19 n20 b21 b22 n23, v16 = .tuple #[(.agg #[(.string s18), .int .i64 n19, .int .i64 n20, .bool b21, .bool b22]), .int .i64 n23] ∧
 withAddr (.pointer p0) fun a24 =>
 StRow w17 (Addr.add a24 0) #[(.string s18), .int .i64 n19, .int .i64 n20, .bool b21, .bool b22] ∧
 bindW (stRow w17 (Addr.add a24 0) #[(.string s18), .int .i64 n19, .int .i64 n20, .bool b21, .bool b22]) fun w25 =>
 cond (n23 != 0)
 (CW.Spec Tryz.prog 90 #[.pointer p0] w25 fun v26 w27 =>
 v26 = .tuple #[] ∧
 R (.tuple #[]) w27)
 (bindW (World.drew w25) fun w28 =>
 ∃ n29, World.cell? w28 (Addr.add ⟨w.heap.size, 0, none⟩ 6) = some (.int .u32 n29) ∧
 ∃ n30, World.cell? w28 (Addr.add ⟨w.heap.size, 0, none⟩ 7) = some (.int .u32 n30) ∧
 withAddr (.pointer p0) fun a31 =>
 bindW (World.drew w25) fun w32 =>
 St1 w32 (Addr.add a31 6) ∧
 (∃ n33, World.cell? (World.setCell w32 (Addr.add a31 6) (.bool true)) (Addr.add ⟨w.heap.size, 0, none⟩ 6) = some (.int .u32 n33) ∧
 ((.int .u32 n33) : Value) = (.int .u32 n29)) ∧
 (∃ n34, World.cell? (World.setCell w32 (Addr.add a31 6) (.bool true)) (Addr.add ⟨w.heap.size, 0, none⟩ 7) = some (.int .u32 n34) ∧
 ((.int .u32 n34) : Value) = (.int .u32 n30)) ∧
 bindW (World.setCell w32 (Addr.add a31 6) (.bool true)) fun w35 =>
 withAddr (.pointer p0) fun a36 =>
 bindW (World.setCell w32 (Addr.add a31 6) (.bool true)) fun w37 =>
 St1 w37 (Addr.add a36 11) ∧
 (∃ n38, World.cell? (World.setCell w37 (Addr.add a36 11) (.int .u32 n29)) (Addr.add ⟨w.heap.size, 0, none⟩ 7) = some (.int .u32 n38) ∧
 ((.int .u32 n38) : Value) = (.int .u32 n30)) ∧
 bindW (World.setCell w37 (Addr.add a36 11) (.int .u32 n29)) fun w39 =>
 withAddr (.pointer p0) fun a40 =>
 bindW (World.setCell w37 (Addr.add a36 11) (.int .u32 n29)) fun w41 =>
 St1 w41 (Addr.add a40 12) ∧
 bindW (World.setCell w41 (Addr.add a40 12) (.int .u32 n30)) fun w42 =>
 bindW (World.setCell w41 (Addr.add a40 12) (.int .u32 n30)) fun w43 =>
 R (.tuple #[]) w43)))
 (fun j44 =>
 ∃ n45, World.cell? w3 (Addr.add ⟨w.heap.size, 0, none⟩ 0) = some (.int .i64 n45) ∧
 cond (n45 != 35)
 (j44 true w3)
 (∃ n46, World.cell? w3 (Addr.add ⟨w.heap.size, 0, none⟩ 3) = some (.int .i64 n46) ∧
 cond (n46 != 0)
 (j44 true w3)
 (j44 (n5 != 0) w3)))
theorem q23W (p0 p1_0 p1_1 p1_2 p1_3 p1_4 p1_5 p1_6 p1_7 p1_8 p1_9 p1_10 p1_11 p1_12 p1_13 p1_14 p1_15 p1_16 p1_17 p1_18 p1_19 p1_20 p1_21 p1_22 p1_23 p1_24 p1_25 p1_26 w R) (h : q23F p0 p1_0 p1_1 p1_2 p1_3 p1_4 p1_5 p1_6 p1_7 p1_8 p1_9 p1_10 p1_11 p1_12 p1_13 p1_14 p1_15 p1_16 p1_17 p1_18 p1_19 p1_20 p1_21 p1_22 p1_23 p1_24 p1_25 p1_26 w R) : CW.Spec Tryz.prog 136 #[.pointer p0, (.agg (pdc p1_0 p1_1 p1_2 p1_3 p1_4 p1_5 p1_6 p1_7 p1_8 p1_9 p1_10 p1_11 p1_12 p1_13 p1_14 p1_15 p1_16 p1_17 p1_18 p1_19 p1_20 p1_21 p1_22 p1_23 p1_24 p1_25 p1_26))] w R :=
 sp Tryz.func136 h
def q27F (p0 : Option Addr) (p1_0 : Int) (p1_1 : Bool) (p1_2 : Int) (p1_3 : Int) (p1_4 : Int) (p1_5 : Int) (p1_6 : Int) (p1_7 : Int) (p1_8 : Int) (p1_9 : Int) (p1_10 : Int) (p1_11 : Int) (p1_12 : Int) (p1_13 : Int) (p1_14 : Int) (p1_15 : Int) (p1_16 : Int) (p1_17 : Int) (p1_18 : Int) (p1_19 : Int) (p1_20 : Int) (p1_21 : Int) (p1_22 : Int) (p1_23 : Int) (p1_24 : Int) (p1_25 : Int) (p1_26 : Value) (w : World) (R : KV) : Prop :=
 bindW (World.alloc w (.cells (pdc p1_0 p1_1 p1_2 p1_3 p1_4 p1_5 p1_6 p1_7 p1_8 p1_9 p1_10 p1_11 p1_12 p1_13 p1_14 p1_15 p1_16 p1_17 p1_18 p1_19 p1_20 p1_21 p1_22 p1_23 p1_24 p1_25 p1_26) 152)) fun w0 =>
 withAddr (.pointer p0) fun a1 =>
 ∃ b2, World.cell? w0 (Addr.add a1 6) = some (.bool b2) ∧
 cond (!b2)
 (∃ n3 b4 n5 n6 n7 n8 n9 n10 n11 n12 n13 n14 n15 n16 n17 n18 n19 n20 n21 n22 n23 n24 n25 n26 n27 n28 v29, (ldCells w0 ⟨w.heap.size, 0, none⟩ 27 (pdc n3 b4 n5 n6 n7 n8 n9 n10 n11 n12 n13 n14 n15 n16 n17 n18 n19 n20 n21 n22 n23 n24 n25 n26 n27 n28 v29)) ∧
 CW.Spec Tryz.prog 136 #[.pointer p0, (.agg (pdc n3 b4 n5 n6 n7 n8 n9 n10 n11 n12 n13 n14 n15 n16 n17 n18 n19 n20 n21 n22 n23 n24 n25 n26 n27 n28 v29))] w0 fun v30 w31 =>
 v30 = .tuple #[] ∧
 R (.tuple #[]) w31)
 (JoinP []
 (fun w32 =>
 ∃ n33, World.cell? w32 (Addr.add ⟨w.heap.size, 0, none⟩ 4) = some (.int .u32 n33) ∧
 CW.Spec Tryz.prog 138 #[.pointer p0, .int .u32 n33] w32 fun v34 w35 =>
 ∃ n36, v34 = .int .i64 n36 ∧
 ∃ n37, World.cell? w35 (Addr.add ⟨w.heap.size, 0, none⟩ 0) = some (.int .i64 n37) ∧
 JoinP []
 (fun w38 =>
 R (.tuple #[]) w38)
 (fun j39 =>
 cond (n37 == 38)
 (CW.Spec Tryz.prog 90 #[.pointer p0] w35 fun v40 w41 =>
 v40 = .tuple #[] ∧
 j39 w41)
 (cond (n37 == 49)
 (cond (decide (n36 ≥ 0))
 (bindW (World.drew w35) fun w42 =>
 withAddr (.pointer p0) fun a43 =>
 ∃ v44, World.cell? w42 (Addr.add a43 14) = some v44 ∧
 ∃ a45, sliceAt v44 n36 6 = some a45 ∧
 ∃ n46 v47 v48 v49 b50 b51, (ldCells w42 a45 6 #[.int .u32 n46, v47, v48, v49, .bool b50, .bool b51]) ∧
 ∃ n52 b53 n54 n55 n56 n57 n58 n59 n60 n61 n62 n63 n64 n65 n66 n67 n68 n69 n70 n71 n72 n73 n74 n75 n76 n77 v78, (ldCells w42 ⟨w.heap.size, 0, none⟩ 27 (pdc n52 b53 n54 n55 n56 n57 n58 n59 n60 n61 n62 n63 n64 n65 n66 n67 n68 n69 n70 n71 n72 n73 n74 n75 n76 n77 v78)) ∧
 bindW (World.drew w35) fun w79 =>
 CW.Spec Tryz.prog 139 #[.pointer p0, (.agg #[.int .u32 n46, v47, v48, v49, .bool b50, .bool b51]), (.agg (pdc n52 b53 n54 n55 n56 n57 n58 n59 n60 n61 n62 n63 n64 n65 n66 n67 n68 n69 n70 n71 n72 n73 n74 n75 n76 n77 v78))] w79 fun v80 w81 =>
 v80 = .tuple #[] ∧
 j39 w81)
 (j39 w35))
 (cond (n37 == 37)
 (JoinP [.bool]
 (fun (b82 : Bool) => fun w83 =>
 cond b82
 (bindW (World.drew w83) fun w84 =>
 withAddr (.pointer p0) fun a85 =>
 ∃ v86, World.cell? w84 (Addr.add a85 14) = some v86 ∧
 withAddr (.pointer p0) fun a87 =>
 ∃ v88, World.cell? w84 (Addr.add a87 14) = some v88 ∧
 ∃ a89, sliceAt v88 n36 6 = some a89 ∧
 ∃ v90, World.cell? w84 (Addr.add a89 3) = some v90 ∧
 ∃ v91, World.cell? w84 (Addr.add ⟨w.heap.size, 0, none⟩ 26) = some v91 ∧
 bindW (World.drew w83) fun w92 =>
 ∃ v93 w94, Sem.run Tryz.prog (Builtin.append_ #[33, 33] 33 #[v90, v91]) w92 = .ok v93 w94 ∧
 (∃ v95, World.cell? w94 (Addr.add a85 14) = some v95 ∧
 (v95 : Value) = v86) ∧
 ∃ a96, sliceAt v86 n36 6 = some a96 ∧
 oneK v93 ((St1 w94 (Addr.add a96 3)) ∧
 bindW (World.setCell w94 (Addr.add a96 3) v93) fun w97 =>
 bindW (World.setCell w94 (Addr.add a96 3) v93) fun w98 =>
 j39 w98))
 (j39 w83))
 (fun j99 =>
 bindW (World.drew w35) fun w100 =>
 cond (decide (n36 ≥ 0))
 (∃ n101, World.cell? w100 (Addr.add ⟨w.heap.size, 0, none⟩ 8) = some (.int .u32 n101) ∧
 withAddr (.pointer p0) fun a102 =>
 ∃ v103, World.cell? w100 (Addr.add a102 14) = some v103 ∧
 ∃ a104, sliceAt v103 n36 6 = some a104 ∧
 ∃ v105, World.cell? w100 (Addr.add a104 3) = some v105 ∧
 ∃ m106, sliceLen v105 = some m106 ∧
 cond ((IntKind.wrap .u64 n101) == (IntKind.wrap .u64 ((m106 : Nat) : Int)))
 (withAddr (.pointer p0) fun a107 =>
 ∃ v108, World.cell? w100 (Addr.add a107 14) = some v108 ∧
 ∃ a109, sliceAt v108 n36 6 = some a109 ∧
 ∃ v110, World.cell? w100 (Addr.add a109 3) = some v110 ∧
 ∃ m111, sliceLen v110 = some m111 ∧
 bindW (World.drew w35) fun w112 =>
 j99 (decide (((m111 : Nat) : Int) < 4096)) w112)
 (bindW (World.drew w35) fun w113 =>
 j99 false w113))
 (bindW (World.drew w35) fun w114 =>
 j99 false w114)))
 (cond (n37 == 33)
 (cond (decide (n36 ≥ 0))
 (∃ n115 b116 n117 n118 n119 n120 n121 n122 n123 n124 n125 n126 n127 n128 n129 n130 n131 n132 n133 n134 n135 n136 n137 n138 n139 n140 v141, (ldCells w35 ⟨w.heap.size, 0, none⟩ 27 (pdc n115 b116 n117 n118 n119 n120 n121 n122 n123 n124 n125 n126 n127 n128 n129 n130 n131 n132 n133 n134 n135 n136 n137 n138 n139 n140 v141)) ∧
 CW.Spec Tryz.prog 140 #[.pointer p0, .int .i64 n36, (.agg (pdc n115 b116 n117 n118 n119 n120 n121 n122 n123 n124 n125 n126 n127 n128 n129 n130 n131 n132 n133 n134 n135 n136 n137 n138 n139 n140 v141))] w35 fun v142 w143 =>
 v142 = .tuple #[] ∧
 j39 w143)
 (j39 w35))
 (cond (n37 == 34)
 (JoinP [.bool]
 (fun (b144 : Bool) => fun w145 =>
 cond b144
 (withAddr (.pointer p0) fun a146 =>
 ∃ v147, World.cell? w145 (Addr.add a146 14) = some v147 ∧
 CW.Spec Tryz.prog 141 #[v147, .int .i64 n36, (.int .i64 (IntKind.wrap .i64 (n36 + 1)))] w145 fun v148 w149 =>
 withAddr (.pointer p0) fun a150 =>
 oneK v148 ((St1 w149 (Addr.add a150 14)) ∧
 bindW (World.setCell w149 (Addr.add a150 14) v148) fun w151 =>
 j39 w151))
 (j39 w145))
 (fun j152 =>
 ∃ n153, World.cell? w35 (Addr.add ⟨w.heap.size, 0, none⟩ 3) = some (.int .i64 n153) ∧
 cond (n153 == 0)
 (cond (decide (n36 ≥ 0))
 (withAddr (.pointer p0) fun a154 =>
 ∃ v155, World.cell? w35 (Addr.add a154 14) = some v155 ∧
 ∃ a156, sliceAt v155 n36 6 = some a156 ∧
 ∃ b157, World.cell? w35 (Addr.add a156 5) = some (.bool b157) ∧
 j152 b157 w35)
 (j152 false w35))
 (j152 false w35)))
 (j39 w35)))))))
 (fun j158 =>
 bindW (World.drew w0) fun w159 =>
 withAddr (.pointer p0) fun a160 =>
 ∃ n161, World.cell? w159 (Addr.add a160 12) = some (.int .u32 n161) ∧
 ∃ n162, World.cell? w159 (Addr.add ⟨w.heap.size, 0, none⟩ 7) = some (.int .u32 n162) ∧
 bindW (World.drew w0) fun w163 =>
 CW.Spec Tryz.prog 137 #[.int .u32 n161, .int .u32 n162] w163 fun v164 w165 =>
 ∃ b166, v164 = .bool b166 ∧
 cond b166
 (∃ n167, World.cell? w165 (Addr.add ⟨w.heap.size, 0, none⟩ 7) = some (.int .u32 n167) ∧
 withAddr (.pointer p0) fun a168 =>
 St1 w165 (Addr.add a168 12) ∧
 bindW (World.setCell w165 (Addr.add a168 12) (.int .u32 n167)) fun w169 =>
 j158 w169)
 (j158 w165)))
theorem q27W (p0 p1_0 p1_1 p1_2 p1_3 p1_4 p1_5 p1_6 p1_7 p1_8 p1_9 p1_10 p1_11 p1_12 p1_13 p1_14 p1_15 p1_16 p1_17 p1_18 p1_19 p1_20 p1_21 p1_22 p1_23 p1_24 p1_25 p1_26 w R) (h : q27F p0 p1_0 p1_1 p1_2 p1_3 p1_4 p1_5 p1_6 p1_7 p1_8 p1_9 p1_10 p1_11 p1_12 p1_13 p1_14 p1_15 p1_16 p1_17 p1_18 p1_19 p1_20 p1_21 p1_22 p1_23 p1_24 p1_25 p1_26 w R) : CW.Spec Tryz.prog 93 #[.pointer p0, (.agg (pdc p1_0 p1_1 p1_2 p1_3 p1_4 p1_5 p1_6 p1_7 p1_8 p1_9 p1_10 p1_11 p1_12 p1_13 p1_14 p1_15 p1_16 p1_17 p1_18 p1_19 p1_20 p1_21 p1_22 p1_23 p1_24 p1_25 p1_26))] w R :=
 sp Tryz.func93 h
def q24F (p0 : Option Addr) (p1_0 : Int) (p1_1 : Value) (p1_2 : Value) (p1_3 : Value) (p1_4 : Bool) (p1_5 : Bool) (p2_0 : Int) (p2_1 : Bool) (p2_2 : Int) (p2_3 : Int) (p2_4 : Int) (p2_5 : Int) (p2_6 : Int) (p2_7 : Int) (p2_8 : Int) (p2_9 : Int) (p2_10 : Int) (p2_11 : Int) (p2_12 : Int) (p2_13 : Int) (p2_14 : Int) (p2_15 : Int) (p2_16 : Int) (p2_17 : Int) (p2_18 : Int) (p2_19 : Int) (p2_20 : Int) (p2_21 : Int) (p2_22 : Int) (p2_23 : Int) (p2_24 : Int) (p2_25 : Int) (p2_26 : Value) (w : World) (R : KV) : Prop :=
 bindW (World.alloc w (.cells #[.int .u32 p1_0, p1_1, p1_2, p1_3, .bool p1_4, .bool p1_5] 123)) fun w0 =>
 bindW (World.alloc w0 (.cells (pdc p2_0 p2_1 p2_2 p2_3 p2_4 p2_5 p2_6 p2_7 p2_8 p2_9 p2_10 p2_11 p2_12 p2_13 p2_14 p2_15 p2_16 p2_17 p2_18 p2_19 p2_20 p2_21 p2_22 p2_23 p2_24 p2_25 p2_26) 152)) fun w1 =>
 ∃ n2, World.cell? w1 (Addr.add ⟨w0.heap.size, 0, none⟩ 8) = some (.int .u32 n2) ∧
 ∃ v3, World.cell? w1 (Addr.add ⟨w.heap.size, 0, none⟩ 2) = some v3 ∧
 ∃ m4, sliceLen v3 = some m4 ∧
 ∃ n5, World.cell? w1 (Addr.add ⟨w0.heap.size, 0, none⟩ 9) = some (.int .u32 n5) ∧
 ∃ v6, World.cell? w1 (Addr.add ⟨w.heap.size, 0, none⟩ 2) = some v6 ∧
 ∃ m7, sliceLen v6 = some m7 ∧
 JoinP [.bool]
 (fun (b8 : Bool) => fun w9 =>
 cond b8
 (R (.tuple #[]) w9)
 (LoopP [.int .i64]
 (fun j10 => fun (n11 : Int) => fun w12 =>
 withAddr (.pointer p0) fun a13 =>
 ∃ n14, World.cell? w12 (Addr.add (Addr.add a13 0) 1) = some (.int .i64 n14) ∧
 bindW (World.drew w12) fun w15 =>
 ∃ n16, World.cell? w15 (Addr.add ⟨w.heap.size, 0, none⟩ 0) = some (.int .u32 n16) ∧
 ∃ v17, World.cell? w15 (Addr.add ⟨w.heap.size, 0, none⟩ 2) = some v17 ∧
 ∃ v18, ((subSlice v17 1 (some (.int .i64 n11)) (some (.int .i64 (IntKind.wrap .i64 (n11 + (if (if (4096 : Int) < n14 then (4096 : Int) else n14) < (IntKind.wrap .i64 ((if ((m7 : Nat) : Int) < (IntKind.wrap .i64 ((if ((m4 : Nat) : Int) < (IntKind.wrap .i64 n2) then ((m4 : Nat) : Int) else (IntKind.wrap .i64 n2)) + (IntKind.wrap .i64 n5))) then ((m7 : Nat) : Int) else (IntKind.wrap .i64 ((if ((m4 : Nat) : Int) < (IntKind.wrap .i64 n2) then ((m4 : Nat) : Int) else (IntKind.wrap .i64 n2)) + (IntKind.wrap .i64 n5)))) - n11)) then (if (4096 : Int) < n14 then (4096 : Int) else n14) else (IntKind.wrap .i64 ((if ((m7 : Nat) : Int) < (IntKind.wrap .i64 ((if ((m4 : Nat) : Int) < (IntKind.wrap .i64 n2) then ((m4 : Nat) : Int) else (IntKind.wrap .i64 n2)) + (IntKind.wrap .i64 n5))) then ((m7 : Nat) : Int) else (IntKind.wrap .i64 ((if ((m4 : Nat) : Int) < (IntKind.wrap .i64 n2) then ((m4 : Nat) : Int) else (IntKind.wrap .i64 n2)) + (IntKind.wrap .i64 n5)))) - n11))))))) none) = (some v18)) ∧
 oneK v18 (bindW (World.drew w12) fun w19 =>
 CW.Spec Tryz.prog 91 #[.pointer p0, (.agg (pdc 5 ((IntKind.wrap .i64 (n11 + (if (if (4096 : Int) < n14 then (4096 : Int) else n14) < (IntKind.wrap .i64 ((if ((m7 : Nat) : Int) < (IntKind.wrap .i64 ((if ((m4 : Nat) : Int) < (IntKind.wrap .i64 n2) then ((m4 : Nat) : Int) else (IntKind.wrap .i64 n2)) + (IntKind.wrap .i64 n5))) then ((m7 : Nat) : Int) else (IntKind.wrap .i64 ((if ((m4 : Nat) : Int) < (IntKind.wrap .i64 n2) then ((m4 : Nat) : Int) else (IntKind.wrap .i64 n2)) + (IntKind.wrap .i64 n5)))) - n11)) then (if (4096 : Int) < n14 then (4096 : Int) else n14) else (IntKind.wrap .i64 ((if ((m7 : Nat) : Int) < (IntKind.wrap .i64 ((if ((m4 : Nat) : Int) < (IntKind.wrap .i64 n2) then ((m4 : Nat) : Int) else (IntKind.wrap .i64 n2)) + (IntKind.wrap .i64 n5))) then ((m7 : Nat) : Int) else (IntKind.wrap .i64 ((if ((m4 : Nat) : Int) < (IntKind.wrap .i64 n2) then ((m4 : Nat) : Int) else (IntKind.wrap .i64 n2)) + (IntKind.wrap .i64 n5)))) - n11))))) == (if ((m7 : Nat) : Int) < (IntKind.wrap .i64 ((if ((m4 : Nat) : Int) < (IntKind.wrap .i64 n2) then ((m4 : Nat) : Int) else (IntKind.wrap .i64 n2)) + (IntKind.wrap .i64 n5))) then ((m7 : Nat) : Int) else (IntKind.wrap .i64 ((if ((m4 : Nat) : Int) < (IntKind.wrap .i64 n2) then ((m4 : Nat) : Int) else (IntKind.wrap .i64 n2)) + (IntKind.wrap .i64 n5))))) 0 0 n16 0 0 0 (IntKind.wrap .u32 n11) 0 0 0 0 0 0 0 0 0 0 0 0 0 0 0 0 0 v18))] w19 fun v20 w21 =>
 v20 = .tuple #[] ∧
 JoinP [.bool]
 (fun (b22 : Bool) => fun w23 =>
 cond b22
 (R (.tuple #[]) w23)
 (j10 (IntKind.wrap .i64 (n11 + (if (if (4096 : Int) < n14 then (4096 : Int) else n14) < (IntKind.wrap .i64 ((if ((m7 : Nat) : Int) < (IntKind.wrap .i64 ((if ((m4 : Nat) : Int) < (IntKind.wrap .i64 n2) then ((m4 : Nat) : Int) else (IntKind.wrap .i64 n2)) + (IntKind.wrap .i64 n5))) then ((m7 : Nat) : Int) else (IntKind.wrap .i64 ((if ((m4 : Nat) : Int) < (IntKind.wrap .i64 n2) then ((m4 : Nat) : Int) else (IntKind.wrap .i64 n2)) + (IntKind.wrap .i64 n5)))) - n11)) then (if (4096 : Int) < n14 then (4096 : Int) else n14) else (IntKind.wrap .i64 ((if ((m7 : Nat) : Int) < (IntKind.wrap .i64 ((if ((m4 : Nat) : Int) < (IntKind.wrap .i64 n2) then ((m4 : Nat) : Int) else (IntKind.wrap .i64 n2)) + (IntKind.wrap .i64 n5))) then ((m7 : Nat) : Int) else (IntKind.wrap .i64 ((if ((m4 : Nat) : Int) < (IntKind.wrap .i64 n2) then ((m4 : Nat) : Int) else (IntKind.wrap .i64 n2)) + (IntKind.wrap .i64 n5)))) - n11))))) w23))
 (fun j24 =>
 cond ((IntKind.wrap .i64 (n11 + (if (if (4096 : Int) < n14 then (4096 : Int) else n14) < (IntKind.wrap .i64 ((if ((m7 : Nat) : Int) < (IntKind.wrap .i64 ((if ((m4 : Nat) : Int) < (IntKind.wrap .i64 n2) then ((m4 : Nat) : Int) else (IntKind.wrap .i64 n2)) + (IntKind.wrap .i64 n5))) then ((m7 : Nat) : Int) else (IntKind.wrap .i64 ((if ((m4 : Nat) : Int) < (IntKind.wrap .i64 n2) then ((m4 : Nat) : Int) else (IntKind.wrap .i64 n2)) + (IntKind.wrap .i64 n5)))) - n11)) then (if (4096 : Int) < n14 then (4096 : Int) else n14) else (IntKind.wrap .i64 ((if ((m7 : Nat) : Int) < (IntKind.wrap .i64 ((if ((m4 : Nat) : Int) < (IntKind.wrap .i64 n2) then ((m4 : Nat) : Int) else (IntKind.wrap .i64 n2)) + (IntKind.wrap .i64 n5))) then ((m7 : Nat) : Int) else (IntKind.wrap .i64 ((if ((m4 : Nat) : Int) < (IntKind.wrap .i64 n2) then ((m4 : Nat) : Int) else (IntKind.wrap .i64 n2)) + (IntKind.wrap .i64 n5)))) - n11))))) == (if ((m7 : Nat) : Int) < (IntKind.wrap .i64 ((if ((m4 : Nat) : Int) < (IntKind.wrap .i64 n2) then ((m4 : Nat) : Int) else (IntKind.wrap .i64 n2)) + (IntKind.wrap .i64 n5))) then ((m7 : Nat) : Int) else (IntKind.wrap .i64 ((if ((m4 : Nat) : Int) < (IntKind.wrap .i64 n2) then ((m4 : Nat) : Int) else (IntKind.wrap .i64 n2)) + (IntKind.wrap .i64 n5)))))
 (j24 true w21)
 (j24 ((if (if (4096 : Int) < n14 then (4096 : Int) else n14) < (IntKind.wrap .i64 ((if ((m7 : Nat) : Int) < (IntKind.wrap .i64 ((if ((m4 : Nat) : Int) < (IntKind.wrap .i64 n2) then ((m4 : Nat) : Int) else (IntKind.wrap .i64 n2)) + (IntKind.wrap .i64 n5))) then ((m7 : Nat) : Int) else (IntKind.wrap .i64 ((if ((m4 : Nat) : Int) < (IntKind.wrap .i64 n2) then ((m4 : Nat) : Int) else (IntKind.wrap .i64 n2)) + (IntKind.wrap .i64 n5)))) - n11)) then (if (4096 : Int) < n14 then (4096 : Int) else n14) else (IntKind.wrap .i64 ((if ((m7 : Nat) : Int) < (IntKind.wrap .i64 ((if ((m4 : Nat) : Int) < (IntKind.wrap .i64 n2) then ((m4 : Nat) : Int) else (IntKind.wrap .i64 n2)) + (IntKind.wrap .i64 n5))) then ((m7 : Nat) : Int) else (IntKind.wrap .i64 ((if ((m4 : Nat) : Int) < (IntKind.wrap .i64 n2) then ((m4 : Nat) : Int) else (IntKind.wrap .i64 n2)) + (IntKind.wrap .i64 n5)))) - n11))) == 0) w21))))
 (fun s25 => s25 (if ((m4 : Nat) : Int) < (IntKind.wrap .i64 n2) then ((m4 : Nat) : Int) else (IntKind.wrap .i64 n2)) w9)))
 (fun j26 =>
 ∃ b27, World.cell? w1 (Addr.add ⟨w.heap.size, 0, none⟩ 5) = some (.bool b27) ∧
 cond b27
 (j26 true w1)
 (j26 ((if ((m4 : Nat) : Int) < (IntKind.wrap .i64 n2) then ((m4 : Nat) : Int) else (IntKind.wrap .i64 n2)) == (if ((m7 : Nat) : Int) < (IntKind.wrap .i64 ((if ((m4 : Nat) : Int) < (IntKind.wrap .i64 n2) then ((m4 : Nat) : Int) else (IntKind.wrap .i64 n2)) + (IntKind.wrap .i64 n5))) then ((m7 : Nat) : Int) else (IntKind.wrap .i64 ((if ((m4 : Nat) : Int) < (IntKind.wrap .i64 n2) then ((m4 : Nat) : Int) else (IntKind.wrap .i64 n2)) + (IntKind.wrap .i64 n5))))) w1))
theorem q24W (p0 p1_0 p1_1 p1_2 p1_3 p1_4 p1_5 p2_0 p2_1 p2_2 p2_3 p2_4 p2_5 p2_6 p2_7 p2_8 p2_9 p2_10 p2_11 p2_12 p2_13 p2_14 p2_15 p2_16 p2_17 p2_18 p2_19 p2_20 p2_21 p2_22 p2_23 p2_24 p2_25 p2_26 w R) (h : q24F p0 p1_0 p1_1 p1_2 p1_3 p1_4 p1_5 p2_0 p2_1 p2_2 p2_3 p2_4 p2_5 p2_6 p2_7 p2_8 p2_9 p2_10 p2_11 p2_12 p2_13 p2_14 p2_15 p2_16 p2_17 p2_18 p2_19 p2_20 p2_21 p2_22 p2_23 p2_24 p2_25 p2_26 w R) : CW.Spec Tryz.prog 139 #[.pointer p0, (.agg #[.int .u32 p1_0, p1_1, p1_2, p1_3, .bool p1_4, .bool p1_5]), (.agg (pdc p2_0 p2_1 p2_2 p2_3 p2_4 p2_5 p2_6 p2_7 p2_8 p2_9 p2_10 p2_11 p2_12 p2_13 p2_14 p2_15 p2_16 p2_17 p2_18 p2_19 p2_20 p2_21 p2_22 p2_23 p2_24 p2_25 p2_26))] w R :=
 sp Tryz.func139 h
def q25F (p0 : Option Addr) (p1 : Int) (p2_0 : Int) (p2_1 : Bool) (p2_2 : Int) (p2_3 : Int) (p2_4 : Int) (p2_5 : Int) (p2_6 : Int) (p2_7 : Int) (p2_8 : Int) (p2_9 : Int) (p2_10 : Int) (p2_11 : Int) (p2_12 : Int) (p2_13 : Int) (p2_14 : Int) (p2_15 : Int) (p2_16 : Int) (p2_17 : Int) (p2_18 : Int) (p2_19 : Int) (p2_20 : Int) (p2_21 : Int) (p2_22 : Int) (p2_23 : Int) (p2_24 : Int) (p2_25 : Int) (p2_26 : Value) (w : World) (R : KV) : Prop :=
 bindW (World.alloc w (.cells (pdc p2_0 p2_1 p2_2 p2_3 p2_4 p2_5 p2_6 p2_7 p2_8 p2_9 p2_10 p2_11 p2_12 p2_13 p2_14 p2_15 p2_16 p2_17 p2_18 p2_19 p2_20 p2_21 p2_22 p2_23 p2_24 p2_25 p2_26) 152)) fun w0 =>
 withAddr (.pointer p0) fun a1 =>
 ∃ v2, World.cell? w0 (Addr.add a1 14) = some v2 ∧
 ∃ a3, sliceAt v2 p1 6 = some a3 ∧
 ∃ n4 v5 v6 v7 b8 b9, (ldCells w0 a3 6 #[.int .u32 n4, v5, v6, v7, .bool b8, .bool b9]) ∧
 bindW (World.alloc w0 (.cells #[.int .u32 0, nvc, nvc, nvc, .bool false, .bool false] 123)) fun w10 =>
 StRow w10 ⟨w0.heap.size, 0, none⟩ #[.int .u32 n4, v5, v6, v7, .bool b8, .bool b9] ∧
 bindW (stRow w10 ⟨w0.heap.size, 0, none⟩ #[.int .u32 n4, v5, v6, v7, .bool b8, .bool b9]) fun w11 =>
 withAddr (.pointer p0) fun a12 =>
 ∃ v13, World.cell? w11 (Addr.add a12 14) = some v13 ∧
 CW.Spec Tryz.prog 141 #[v13, .int .i64 p1, (.int .i64 (IntKind.wrap .i64 (p1 + 1)))] w11 fun v14 w15 =>
 withAddr (.pointer p0) fun a16 =>
 oneK v14 ((St1 w15 (Addr.add a16 14)) ∧
 bindW (World.setCell w15 (Addr.add a16 14) v14) fun w17 =>
 ∃ b18, World.cell? w17 (Addr.add ⟨w0.heap.size, 0, none⟩ 5) = some (.bool b18) ∧
 cond b18
 (R (.tuple #[]) w17)
 (JoinP [.val]
 (fun v19 w20 =>
 JoinP []
 (fun w21 =>
 bindW (World.drew w21) fun w22 =>
 withAddr (.pointer p0) fun a23 =>
 ∃ v24, World.cell? w22 (Addr.add a23 16) = some v24 ∧
 ∃ n25, World.cell? w22 (Addr.add ⟨w0.heap.size, 0, none⟩ 0) = some (.int .u32 n25) ∧
 withAddr v19 fun a26 =>
 ∃ n27 n28 n29 v30 n31, (ldCells w22 a26 5 (r5c n27 n28 n29 v30 n31)) ∧
 bindW (World.drew w21) fun w32 =>
 (∃ v33, World.cell? (World.alloc w32 (.cells #[.int .u32 n25, .int .i64 n27, .int .i64 n28, .int .i64 n29, v30, .int .i64 n31] 71)) (Addr.add a23 16) = some v33 ∧
 (v33 : Value) = v24) ∧
 bindW (World.alloc w32 (.cells #[.int .u32 n25, .int .i64 n27, .int .i64 n28, .int .i64 n29, v30, .int .i64 n31] 71)) fun w34 =>
 bindW (World.alloc w32 (.cells #[.int .u32 n25, .int .i64 n27, .int .i64 n28, .int .i64 n29, v30, .int .i64 n31] 71)) fun w35 =>
 ∃ v36 w37, Sem.run Tryz.prog (Builtin.append_ #[66, 66] 66 #[v24, (.slice (some ⟨w32.heap.size, 0, none⟩) 1 1)]) w35 = .ok v36 w37 ∧
 withAddr (.pointer p0) fun a38 =>
 oneK v36 ((St1 w37 (Addr.add a38 16)) ∧
 bindW (World.setCell w37 (Addr.add a38 16) v36) fun w39 =>
 bindW (World.setCell w37 (Addr.add a38 16) v36) fun w40 =>
 R (.tuple #[]) w40))
 (fun j41 =>
 ∃ n42, World.cell? w20 (Addr.add ⟨w.heap.size, 0, none⟩ 3) = some (.int .i64 n42) ∧
 cond (n42 == 2)
 (∃ v43, World.cell? w20 (Addr.add ⟨w.heap.size, 0, none⟩ 26) = some v43 ∧
 CW.Spec Tryz.prog 183 #[v43] w20 fun v44 w45 =>
 ∃ n46 n47 n48 n49, v44 = .tuple #[.int .i64 n46, .int .i64 n47, .int .i64 n48, .int .i64 n49] ∧
 withAddr v19 fun a50 =>
 St1 w45 (Addr.add a50 1) ∧
 bindW (World.setCell w45 (Addr.add a50 1) (.int .i64 n46)) fun w51 =>
 withAddr v19 fun a52 =>
 St1 w51 (Addr.add a52 2) ∧
 bindW (World.setCell w51 (Addr.add a52 2) (.int .i64 n47)) fun w53 =>
 cond (n46 == 14)
 (withAddr v19 fun a54 =>
 St1 w53 (Addr.add a54 4) ∧
 bindW (World.setCell w53 (Addr.add a54 4) (.int .i64 n48)) fun w55 =>
 j41 w55)
 (j41 w53))
 (j41 w20)))
 (fun j56 =>
 bindW (World.drew w17) fun w57 =>
 ∃ n58, World.cell? w57 (Addr.add ⟨w.heap.size, 0, none⟩ 3) = some (.int .i64 n58) ∧
 ∃ v59, World.cell? w57 (Addr.add ⟨w0.heap.size, 0, none⟩ 3) = some v59 ∧
 bindW (World.drew w17) fun w60 =>
 (CW.Spec Tryz.prog 72 #[v59] w60 fun v61 w62 =>
 (∃ n63, World.cell? w62 (Addr.add ⟨w.heap.size, 0, none⟩ 3) = some (.int .i64 n63) ∧
 ((.int .i64 n63) : Value) = (.int .i64 n58)) ∧
 oneK v61 ((∃ n64, World.cell? (World.alloc w62 (.cells (r5c 0 0 0 nvc 0) 69)) (Addr.add ⟨w.heap.size, 0, none⟩ 3) = some (.int .i64 n64) ∧
 ((.int .i64 n64) : Value) = (.int .i64 n58)) ∧
 (∃ v65, World.cell? (World.alloc w62 (.cells (r5c 0 0 0 nvc 0) 69)) (Addr.add ⟨w0.heap.size, 0, none⟩ 3) = some v65 ∧
 (v65 : Value) = v59) ∧
 bindW (World.alloc w62 (.cells (r5c 0 0 0 nvc 0) 69)) fun w66 =>
 bindW (World.alloc w62 (.cells (r5c 0 0 0 nvc 0) 69)) fun w67 =>
 StRow w67 ⟨w62.heap.size, 0, none⟩ (r5c n58 0 0 v61 0) ∧
 bindW (stRow w67 ⟨w62.heap.size, 0, none⟩ (r5c n58 0 0 v61 0)) fun w68 =>
 bindW (stRow w67 ⟨w62.heap.size, 0, none⟩ (r5c n58 0 0 v61 0)) fun w69 =>
 j56 (.pointer (some ⟨w62.heap.size, 0, none⟩)) w69)) ∧
 (∃ n70, World.cell? (World.alloc w60 (.cells (r5c 0 0 0 nvc 0) 69)) (Addr.add ⟨w.heap.size, 0, none⟩ 3) = some (.int .i64 n70) ∧
 ((.int .i64 n70) : Value) = (.int .i64 n58)) ∧
 (∃ v71, World.cell? (World.alloc w60 (.cells (r5c 0 0 0 nvc 0) 69)) (Addr.add ⟨w0.heap.size, 0, none⟩ 3) = some v71 ∧
 (v71 : Value) = v59) ∧
 bindW (World.alloc w60 (.cells (r5c 0 0 0 nvc 0) 69)) fun w72 =>
 bindW (World.alloc w60 (.cells (r5c 0 0 0 nvc 0) 69)) fun w73 =>
 CW.Spec Tryz.prog 72 #[v59] w73 fun v74 w75 =>
 (∃ n76, World.cell? w75 (Addr.add ⟨w.heap.size, 0, none⟩ 3) = some (.int .i64 n76) ∧
 ((.int .i64 n76) : Value) = (.int .i64 n58)) ∧
 oneK v74 ((StRow w75 ⟨w60.heap.size, 0, none⟩ (r5c n58 0 0 v74 0)) ∧
 bindW (stRow w75 ⟨w60.heap.size, 0, none⟩ (r5c n58 0 0 v74 0)) fun w77 =>
 bindW (stRow w75 ⟨w60.heap.size, 0, none⟩ (r5c n58 0 0 v74 0)) fun w78 =>
 j56 (.pointer (some ⟨w60.heap.size, 0, none⟩)) w78))))
theorem q25W (p0 p1 p2_0 p2_1 p2_2 p2_3 p2_4 p2_5 p2_6 p2_7 p2_8 p2_9 p2_10 p2_11 p2_12 p2_13 p2_14 p2_15 p2_16 p2_17 p2_18 p2_19 p2_20 p2_21 p2_22 p2_23 p2_24 p2_25 p2_26 w R) (h : q25F p0 p1 p2_0 p2_1 p2_2 p2_3 p2_4 p2_5 p2_6 p2_7 p2_8 p2_9 p2_10 p2_11 p2_12 p2_13 p2_14 p2_15 p2_16 p2_17 p2_18 p2_19 p2_20 p2_21 p2_22 p2_23 p2_24 p2_25 p2_26 w R) : CW.Spec Tryz.prog 140 #[.pointer p0, .int .i64 p1, (.agg (pdc p2_0 p2_1 p2_2 p2_3 p2_4 p2_5 p2_6 p2_7 p2_8 p2_9 p2_10 p2_11 p2_12 p2_13 p2_14 p2_15 p2_16 p2_17 p2_18 p2_19 p2_20 p2_21 p2_22 p2_23 p2_24 p2_25 p2_26))] w R :=
 sp Tryz.func140 h
def q104F (p0 : Value) (p1 : Int) (p2 : Int) (w : World) (R : KV) : Prop :=
 ∃ m0, sliceLen p0 = some m0 ∧
 ∃ v1, ((subSlice p0 6 (some (.int .i64 p1)) (some (.int .i64 p2)) (some (.int .i64 (m0 : Nat)))) = (some v1)) ∧
 cond (p1 == p2)
 (R p0 w)
 (∃ m2, sliceLen p0 = some m2 ∧
 bindW (World.drew w) fun w3 =>
 ∃ v4, ((subSlice p0 6 none (some (.int .i64 p1)) none) = (some v4)) ∧
 ∃ v5, ((subSlice p0 6 (some (.int .i64 p2)) none none) = (some v5)) ∧
 bindW (World.drew w) fun w6 =>
 ∃ v7 w8, Sem.run Tryz.prog (Builtin.append_ #[119, 119] 119 #[v4, v5]) w6 = .ok v7 w8 ∧
 ∃ m9, sliceLen v7 = some m9 ∧
 ∃ v10, ((subSlice v7 6 (some (.int .i64 (m9 : Nat))) (some (.int .i64 (m2 : Nat))) none) = (some v10)) ∧
 ∃ v11 w12, Sem.run Tryz.prog (Builtin.clear_ #[119] 0 #[v10]) w8 = .ok v11 w12 ∧
 R v7 w12)
theorem q104W (p0 p1 p2 w R) (h : q104F p0 p1 p2 w R) : CW.Spec Tryz.prog 141 #[p0, .int .i64 p1, .int .i64 p2] w R :=
 sp Tryz.func141 h
def q28F (p0 : Option Addr) (p1_0 : Int) (p1_1 : Bool) (p1_2 : Int) (p1_3 : Int) (p1_4 : Int) (p1_5 : Int) (p1_6 : Int) (p1_7 : Int) (p1_8 : Int) (p1_9 : Int) (p1_10 : Int) (p1_11 : Int) (p1_12 : Int) (p1_13 : Int) (p1_14 : Int) (p1_15 : Int) (p1_16 : Int) (p1_17 : Int) (p1_18 : Int) (p1_19 : Int) (p1_20 : Int) (p1_21 : Int) (p1_22 : Int) (p1_23 : Int) (p1_24 : Int) (p1_25 : Int) (p1_26 : Value) (w : World) (R : KV) : Prop :=
 bindW (World.alloc w (.cells (pdc p1_0 p1_1 p1_2 p1_3 p1_4 p1_5 p1_6 p1_7 p1_8 p1_9 p1_10 p1_11 p1_12 p1_13 p1_14 p1_15 p1_16 p1_17 p1_18 p1_19 p1_20 p1_21 p1_22 p1_23 p1_24 p1_25 p1_26) 152)) fun w0 =>
 ∃ n1 b2 n3 n4 n5 n6 n7 n8 n9 n10 n11 n12 n13 n14 n15 n16 n17 n18 n19 n20 n21 n22 n23 n24 n25 n26 v27, (ldCells w0 ⟨w.heap.size, 0, none⟩ 27 (pdc n1 b2 n3 n4 n5 n6 n7 n8 n9 n10 n11 n12 n13 n14 n15 n16 n17 n18 n19 n20 n21 n22 n23 n24 n25 n26 v27)) ∧
 CW.Spec Tryz.prog 134 #[(.agg (pdc n1 b2 n3 n4 n5 n6 n7 n8 n9 n10 n11 n12 n13 n14 n15 n16 n17 n18 n19 n20 n21 n22 n23 n24 n25 n26 v27))] w0 fun v28 w29 =>
 ∃ v30 n31, v28 = .tuple #[v30, .int .i64 n31] ∧
 withAddr (.pointer p0) fun a32 =>
 ∃ v33, World.cell? w29 (Addr.add a32 15) = some v33 ∧
 ∃ v34 w35, Sem.run Tryz.prog (Builtin.append_ #[33, 33] 33 #[v33, v30]) w29 = .ok v34 w35 ∧
 withAddr (.pointer p0) fun a36 =>
 oneK v34 ((St1 w35 (Addr.add a36 15)) ∧
 bindW (World.setCell w35 (Addr.add a36 15) v34) fun w37 =>
 R (.tuple #[]) w37)
theorem q28W (p0 p1_0 p1_1 p1_2 p1_3 p1_4 p1_5 p1_6 p1_7 p1_8 p1_9 p1_10 p1_11 p1_12 p1_13 p1_14 p1_15 p1_16 p1_17 p1_18 p1_19 p1_20 p1_21 p1_22 p1_23 p1_24 p1_25 p1_26 w R) (h : q28F p0 p1_0 p1_1 p1_2 p1_3 p1_4 p1_5 p1_6 p1_7 p1_8 p1_9 p1_10 p1_11 p1_12 p1_13 p1_14 p1_15 p1_16 p1_17 p1_18 p1_19 p1_20 p1_21 p1_22 p1_23 p1_24 p1_25 p1_26 w R) : CW.Spec Tryz.prog 91 #[.pointer p0, (.agg (pdc p1_0 p1_1 p1_2 p1_3 p1_4 p1_5 p1_6 p1_7 p1_8 p1_9 p1_10 p1_11 p1_12 p1_13 p1_14 p1_15 p1_16 p1_17 p1_18 p1_19 p1_20 p1_21 p1_22 p1_23 p1_24 p1_25 p1_26))] w R :=
 sp Tryz.func91 h
def q15F (p0 : Option Addr) (w : World) (R : KV) : Prop :=
 withAddr (.pointer p0) fun a0 =>
 ∃ v1, World.cell? w (Addr.add a0 16) = some v1 ∧
 CW.Spec Tryz.prog 45 #[v1] w fun v2 w3 =>
 withAddr (.pointer p0) fun a4 =>
 St1 w3 (Addr.add a4 16) ∧
 bindW (World.setCell w3 (Addr.add a4 16) nvc) fun w5 =>
 R v2 w5
theorem q15W (p0 w R) (h : q15F p0 w R) : CW.Spec Tryz.prog 20 #[.pointer p0] w R :=
 sp Tryz.func20 h
def q98F (p0 : Value) (w : World) (R : KV) : Prop :=
 ∃ m0, sliceLen p0 = some m0 ∧
 ∃ m1, sliceLen p0 = some m1 ∧
 ∃ v2, ((subSlice p0 6 none (some (.int .i64 (m0 : Nat))) (some (.int .i64 (m1 : Nat)))) = (some v2)) ∧
 R v2 w
theorem q98W (p0 w R) (h : q98F p0 w R) : CW.Spec Tryz.prog 45 #[p0] w R :=
 sp Tryz.func45 h
def q20F (p0 : Option Addr) (w : World) (R : KV) : Prop :=
 withAddr (.pointer p0) fun a0 =>
 St1 w (Addr.add a0 7) ∧
 bindW (World.setCell w (Addr.add a0 7) (.bool true)) fun w1 =>
 CW.Spec Tryz.prog 29 #[] w1 fun v2 w3 =>
 ∃ o4, v2 = .pointer o4 ∧
 withAddr (.pointer p0) fun a5 =>
 St1 w3 (Addr.add a5 14) ∧
 bindW (World.setCell w3 (Addr.add a5 14) nvc) fun w6 =>
 withAddr (.pointer p0) fun a7 =>
 St1 w6 (Addr.add a7 15) ∧
 bindW (World.setCell w6 (Addr.add a7 15) nvc) fun w8 =>
 withAddr (.pointer p0) fun a9 =>
 St1 w8 (Addr.add a9 5) ∧
 bindW (World.setCell w8 (Addr.add a9 5) (.pointer o4)) fun w10 =>
 R (.tuple #[]) w10
theorem q20W (p0 w R) (h : q20F p0 w R) : CW.Spec Tryz.prog 90 #[.pointer p0] w R :=
 sp Tryz.func90 h
end
section
open Go Go.CW
def q65F (p0 : Option Addr) (p1 : ByteArray) (p2_0 : Int) (p2_1 : Int) (p2_2 : Int) (p2_3 : Value) (p2_4 : Int) (p2_5 : Int) (p2_6 : Int) (p2_7 : Bool) (w : World) (R : KV) : Prop :=
 bindW (World.alloc w (.cells (r8c p2_0 p2_1 p2_2 p2_3 p2_4 p2_5 p2_6 p2_7) 64)) fun w0 =>
 bindW (World.alloc w0 (.cells (r5c 0 0 0 nvc 0) 69)) fun w1 =>
 bindW (World.drew w1) fun w2 =>
 withAddr (.pointer p0) fun a3 =>
 ∃ o4, World.cell? w2 (Addr.add a3 0) = some (.pointer o4) ∧
 ∃ n5 n6 n7 v8 n9 n10 n11 b12, (ldCells w2 ⟨w.heap.size, 0, none⟩ 8 (r8c n5 n6 n7 v8 n9 n10 n11 b12)) ∧
 bindW (World.drew w1) fun w13 =>
 CW.Spec Tryz.prog 22 #[.pointer o4, (.int .i64 (bitsI .and .i64 (((ByteArray.size p1) : Nat) : Int) (7 : Int))), (.agg (r8c n5 n6 n7 v8 n9 n10 n11 b12))] w13 fun v14 w15 =>
 ∃ n16 n17 n18 v19 n20, v14 = .agg (r5c n16 n17 n18 v19 n20) ∧
 StRow w15 ⟨w0.heap.size, 0, none⟩ (r5c n16 n17 n18 v19 n20) ∧
 bindW (stRow w15 ⟨w0.heap.size, 0, none⟩ (r5c n16 n17 n18 v19 n20)) fun w21 =>
 bindW (stRow w15 ⟨w0.heap.size, 0, none⟩ (r5c n16 n17 n18 v19 n20)) fun w22 =>
 ∃ n23 n24 n25 v26 n27, (ldCells w22 ⟨w0.heap.size, 0, none⟩ 5 (r5c n23 n24 n25 v26 n27)) ∧
 R (.agg (r5c n23 n24 n25 v26 n27)) w22
theorem q65W (p0 p1 p2_0 p2_1 p2_2 p2_3 p2_4 p2_5 p2_6 p2_7 w R) (h : q65F p0 p1 p2_0 p2_1 p2_2 p2_3 p2_4 p2_5 p2_6 p2_7 w R) : CW.Spec Tryz.prog 11 #[.pointer p0, (.string p1), (.agg (r8c p2_0 p2_1 p2_2 p2_3 p2_4 p2_5 p2_6 p2_7))] w R :=
 sp Tryz.func11 h
def q59F (p0 : Int) (w : World) (R : KV) : Prop :=
 CW.Spec Tryz.prog 46 #[.int .i64 p0] w fun v0 w1 =>
 ∃ o2 n3, v0 = .tuple #[.pointer o2, .int .i64 n3] ∧
 cond (n3 != 0)
 (R (.tuple #[.pointer none, .int .i64 1]) w1)
 (CW.Spec Tryz.prog 47 #[] w1 fun v4 w5 =>
 ∃ o6, v4 = .pointer o6 ∧
 bindW (World.alloc w5 (.cells #[.pointer o2, .pointer o6, nvc, nvc, nvc, nvc, nvc, nvc, nvc, nvc, .int .u64 0, .int .u64 0, .int .u64 0, .int .u64 0, .int .u64 0, .int .u64 0, .int .u64 0, .int .u64 0, nvc, nvc, nvc, nvc, nvc, nvc, nvc, nvc] 83)) fun w7 =>
 R (.tuple #[(.pointer (some ⟨w5.heap.size, 0, none⟩)), .int .i64 0]) w7)
theorem q59W (p0 w R) (h : q59F p0 w R) : CW.Spec Tryz.prog 21 #[.int .i64 p0] w R :=
 sp Tryz.func21 h
def q60F (p0 : Option Addr) (p1 : Int) (p2_0 : Int) (p2_1 : Int) (p2_2 : Int) (p2_3 : Value) (p2_4 : Int) (p2_5 : Int) (p2_6 : Int) (p2_7 : Bool) (w : World) (R : KV) : Prop :=
 bindW (World.alloc w (.cells (r8c p2_0 p2_1 p2_2 p2_3 p2_4 p2_5 p2_6 p2_7) 64)) fun w0 =>
 bindW (World.alloc w0 (.cells (r5c 0 0 0 nvc 0) 69)) fun w1 =>
 JoinP [.bool]
 (fun (b2 : Bool) => fun w3 =>
 cond b2
 (CW.Spec Tryz.prog 48 #[.int .i64 5, .int .i64 8192] w3 fun v4 w5 =>
 ∃ n6 n7 n8 v9 n10, v4 = .agg (r5c n6 n7 n8 v9 n10) ∧
 StRow w5 ⟨w0.heap.size, 0, none⟩ (r5c n6 n7 n8 v9 n10) ∧
 bindW (stRow w5 ⟨w0.heap.size, 0, none⟩ (r5c n6 n7 n8 v9 n10)) fun w11 =>
 ∃ n12 n13 n14 v15 n16, (ldCells w11 ⟨w0.heap.size, 0, none⟩ 5 (r5c n12 n13 n14 v15 n16)) ∧
 R (.agg (r5c n12 n13 n14 v15 n16)) w11)
 (∃ n17, World.cell? w3 (Addr.add ⟨w.heap.size, 0, none⟩ 0) = some (.int .i64 n17) ∧
 cond (n17 == 9)
 (CW.Spec Tryz.prog 49 #[.pointer p0, .int .i64 p1] w3 fun v18 w19 =>
 ∃ n20 n21 n22 v23 n24 b25, v18 = .tuple #[(.agg (r5c n20 n21 n22 v23 n24)), .bool b25] ∧
 bindW (World.alloc w19 (.cells (r5c 0 0 0 nvc 0) 69)) fun w26 =>
 StRow w26 ⟨w19.heap.size, 0, none⟩ (r5c n20 n21 n22 v23 n24) ∧
 bindW (stRow w26 ⟨w19.heap.size, 0, none⟩ (r5c n20 n21 n22 v23 n24)) fun w27 =>
 ∃ n28 n29 n30 v31 n32, (ldCells w27 ⟨w19.heap.size, 0, none⟩ 5 (r5c n28 n29 n30 v31 n32)) ∧
 CW.Spec Tryz.prog 50 #[(.agg (r5c n28 n29 n30 v31 n32))] w27 fun v33 w34 =>
 oneK v33 ((StRow w34 ⟨w0.heap.size, 0, none⟩ (r5c 0 0 0 v33 0)) ∧
 bindW (stRow w34 ⟨w0.heap.size, 0, none⟩ (r5c 0 0 0 v33 0)) fun w35 =>
 ∃ n36 n37 n38 v39 n40, (ldCells w35 ⟨w0.heap.size, 0, none⟩ 5 (r5c n36 n37 n38 v39 n40)) ∧
 R (.agg (r5c n36 n37 n38 v39 n40)) w35))
 (JoinP []
 (fun w41 =>
 bindW (World.drew w41) fun w42 =>
 withAddr (.pointer p0) fun a43 =>
 ∃ o44, World.cell? w42 (Addr.add a43 1) = some (.pointer o44) ∧
 ∃ n45, World.cell? w42 (Addr.add ⟨w.heap.size, 0, none⟩ 0) = some (.int .i64 n45) ∧
 bindW (World.drew w41) fun w46 =>
 CW.Spec Tryz.prog 51 #[.pointer o44, .int .i64 p1, .int .i64 n45] w46 fun v47 w48 =>
 ∃ b49, v47 = .bool b49 ∧
 cond (!b49)
 ((StRow w48 ⟨w0.heap.size, 0, none⟩ (r5c 24 0 0 nvc 0)) ∧
 bindW (stRow w48 ⟨w0.heap.size, 0, none⟩ (r5c 24 0 0 nvc 0)) fun w50 =>
 ∃ n51 n52 n53 v54 n55, (ldCells w50 ⟨w0.heap.size, 0, none⟩ 5 (r5c n51 n52 n53 v54 n55)) ∧
 R (.agg (r5c n51 n52 n53 v54 n55)) w50)
 (∃ n56, World.cell? w48 (Addr.add ⟨w.heap.size, 0, none⟩ 0) = some (.int .i64 n56) ∧
 JoinP []
 (fun w57 =>
 StRow w57 ⟨w0.heap.size, 0, none⟩ (r5c 0 0 0 nvc 0) ∧
 bindW (stRow w57 ⟨w0.heap.size, 0, none⟩ (r5c 0 0 0 nvc 0)) fun w58 =>
 ∃ n59 n60 n61 v62 n63, (ldCells w58 ⟨w0.heap.size, 0, none⟩ 5 (r5c n59 n60 n61 v62 n63)) ∧
 R (.agg (r5c n59 n60 n61 v62 n63)) w58)
 (fun j64 =>
 cond (n56 == 8)
 (CW.Spec Tryz.prog 52 #[] w48 fun v65 w66 =>
 oneK v65 ((StRow w66 ⟨w0.heap.size, 0, none⟩ (r5c 0 0 0 v65 0)) ∧
 bindW (stRow w66 ⟨w0.heap.size, 0, none⟩ (r5c 0 0 0 v65 0)) fun w67 =>
 ∃ n68 n69 n70 v71 n72, (ldCells w67 ⟨w0.heap.size, 0, none⟩ 5 (r5c n68 n69 n70 v71 n72)) ∧
 R (.agg (r5c n68 n69 n70 v71 n72)) w67))
 (cond (n56 == 7)
 (withAddr (.pointer p0) fun a73 =>
 ∃ o74, World.cell? w48 (Addr.add a73 0) = some (.pointer o74) ∧
 withAddr (.pointer o74) fun a75 =>
 ∃ n76, World.cell? w48 (Addr.add a75 0) = some (.int .i64 n76) ∧
 CW.Spec Tryz.prog 53 #[.int .i64 n76] w48 fun v77 w78 =>
 oneK v77 ((StRow w78 ⟨w0.heap.size, 0, none⟩ (r5c 0 0 0 v77 0)) ∧
 bindW (stRow w78 ⟨w0.heap.size, 0, none⟩ (r5c 0 0 0 v77 0)) fun w79 =>
 ∃ n80 n81 n82 v83 n84, (ldCells w79 ⟨w0.heap.size, 0, none⟩ 5 (r5c n80 n81 n82 v83 n84)) ∧
 R (.agg (r5c n80 n81 n82 v83 n84)) w79))
 (JoinP [.bool]
 (fun (b85 : Bool) => fun w86 =>
 cond b85
 (∃ n87 n88 n89 v90 n91 n92 n93 b94, (ldCells w86 ⟨w.heap.size, 0, none⟩ 8 (r8c n87 n88 n89 v90 n91 n92 n93 b94)) ∧
 CW.Spec Tryz.prog 54 #[.pointer p0, (.agg (r8c n87 n88 n89 v90 n91 n92 n93 b94))] w86 fun v95 w96 =>
 ∃ n97 n98 n99 v100 n101, v95 = .agg (r5c n97 n98 n99 v100 n101) ∧
 StRow w96 ⟨w0.heap.size, 0, none⟩ (r5c n97 n98 n99 v100 n101) ∧
 bindW (stRow w96 ⟨w0.heap.size, 0, none⟩ (r5c n97 n98 n99 v100 n101)) fun w102 =>
 ∃ n103 n104 n105 v106 n107, (ldCells w102 ⟨w0.heap.size, 0, none⟩ 5 (r5c n103 n104 n105 v106 n107)) ∧
 R (.agg (r5c n103 n104 n105 v106 n107)) w102)
 (JoinP [.bool]
 (fun (b108 : Bool) => fun w109 =>
 cond b108
 (JoinP [.val, .val]
 (fun v110 v111 => fun w112 =>
 CW.Spec Tryz.prog 56 #[.pointer p0, v111] w112 fun v113 w114 =>
 v113 = .tuple #[] ∧
 withAddr v110 fun a115 =>
 ∃ n116 n117 n118 v119 n120, (ldCells w114 a115 5 (r5c n116 n117 n118 v119 n120)) ∧
 StRow w114 ⟨w0.heap.size, 0, none⟩ (r5c n116 n117 n118 v119 n120) ∧
 bindW (stRow w114 ⟨w0.heap.size, 0, none⟩ (r5c n116 n117 n118 v119 n120)) fun w121 =>
 ∃ n122 n123 n124 v125 n126, (ldCells w121 ⟨w0.heap.size, 0, none⟩ 5 (r5c n122 n123 n124 v125 n126)) ∧
 R (.agg (r5c n122 n123 n124 v125 n126)) w121)
 (fun j127 =>
 bindW (World.drew w109) fun w128 =>
 withAddr (.pointer p0) fun a129 =>
 ∃ o130, World.cell? w128 (Addr.add a129 1) = some (.pointer o130) ∧
 ∃ n131, World.cell? w128 (Addr.add ⟨w.heap.size, 0, none⟩ 4) = some (.int .u64 n131) ∧
 ∃ n132, World.cell? w128 (Addr.add ⟨w.heap.size, 0, none⟩ 5) = some (.int .u64 n132) ∧
 ∃ n133, World.cell? w128 (Addr.add ⟨w.heap.size, 0, none⟩ 0) = some (.int .i64 n133) ∧
 bindW (World.drew w109) fun w134 =>
 (CW.Spec Tryz.prog 55 #[.pointer o130, .int .i64 p1, .int .u64 n131, .int .u64 n132, (.bool (n133 == 11))] w134 fun v135 w136 =>
 ∃ n137 n138 n139 v140 n141 v142, v135 = .tuple #[(.agg (r5c n137 n138 n139 v140 n141)), v142] ∧
 (∃ o143, World.cell? (World.alloc w136 (.cells (r5c 0 0 0 nvc 0) 69)) (Addr.add a129 1) = some (.pointer o143) ∧
 ((.pointer o143) : Value) = (.pointer o130)) ∧
 (∃ n144, World.cell? (World.alloc w136 (.cells (r5c 0 0 0 nvc 0) 69)) (Addr.add ⟨w.heap.size, 0, none⟩ 4) = some (.int .u64 n144) ∧
 ((.int .u64 n144) : Value) = (.int .u64 n131)) ∧
 (∃ n145, World.cell? (World.alloc w136 (.cells (r5c 0 0 0 nvc 0) 69)) (Addr.add ⟨w.heap.size, 0, none⟩ 5) = some (.int .u64 n145) ∧
 ((.int .u64 n145) : Value) = (.int .u64 n132)) ∧
 (∃ n146, World.cell? (World.alloc w136 (.cells (r5c 0 0 0 nvc 0) 69)) (Addr.add ⟨w.heap.size, 0, none⟩ 0) = some (.int .i64 n146) ∧
 ((.int .i64 n146) : Value) = (.int .i64 n133)) ∧
 bindW (World.alloc w136 (.cells (r5c 0 0 0 nvc 0) 69)) fun w147 =>
 bindW (World.alloc w136 (.cells (r5c 0 0 0 nvc 0) 69)) fun w148 =>
 StRow w148 ⟨w136.heap.size, 0, none⟩ (r5c n137 n138 n139 v140 n141) ∧
 bindW (stRow w148 ⟨w136.heap.size, 0, none⟩ (r5c n137 n138 n139 v140 n141)) fun w149 =>
 bindW (stRow w148 ⟨w136.heap.size, 0, none⟩ (r5c n137 n138 n139 v140 n141)) fun w150 =>
 j127 (.pointer (some ⟨w136.heap.size, 0, none⟩)) v142 w150) ∧
 (∃ o151, World.cell? (World.alloc w134 (.cells (r5c 0 0 0 nvc 0) 69)) (Addr.add a129 1) = some (.pointer o151) ∧
 ((.pointer o151) : Value) = (.pointer o130)) ∧
 (∃ n152, World.cell? (World.alloc w134 (.cells (r5c 0 0 0 nvc 0) 69)) (Addr.add ⟨w.heap.size, 0, none⟩ 4) = some (.int .u64 n152) ∧
 ((.int .u64 n152) : Value) = (.int .u64 n131)) ∧
 (∃ n153, World.cell? (World.alloc w134 (.cells (r5c 0 0 0 nvc 0) 69)) (Addr.add ⟨w.heap.size, 0, none⟩ 5) = some (.int .u64 n153) ∧
 ((.int .u64 n153) : Value) = (.int .u64 n132)) ∧
 (∃ n154, World.cell? (World.alloc w134 (.cells (r5c 0 0 0 nvc 0) 69)) (Addr.add ⟨w.heap.size, 0, none⟩ 0) = some (.int .i64 n154) ∧
 ((.int .i64 n154) : Value) = (.int .i64 n133)) ∧
 bindW (World.alloc w134 (.cells (r5c 0 0 0 nvc 0) 69)) fun w155 =>
 bindW (World.alloc w134 (.cells (r5c 0 0 0 nvc 0) 69)) fun w156 =>
 CW.Spec Tryz.prog 55 #[.pointer o130, .int .i64 p1, .int .u64 n131, .int .u64 n132, (.bool (n133 == 11))] w156 fun v157 w158 =>
 ∃ n159 n160 n161 v162 n163 v164, v157 = .tuple #[(.agg (r5c n159 n160 n161 v162 n163)), v164] ∧
 StRow w158 ⟨w134.heap.size, 0, none⟩ (r5c n159 n160 n161 v162 n163) ∧
 bindW (stRow w158 ⟨w134.heap.size, 0, none⟩ (r5c n159 n160 n161 v162 n163)) fun w165 =>
 bindW (stRow w158 ⟨w134.heap.size, 0, none⟩ (r5c n159 n160 n161 v162 n163)) fun w166 =>
 j127 (.pointer (some ⟨w134.heap.size, 0, none⟩)) v164 w166))
 (cond (n56 == 12)
 (bindW (World.drew w109) fun w167 =>
 withAddr (.pointer p0) fun a168 =>
 ∃ o169, World.cell? w167 (Addr.add a168 1) = some (.pointer o169) ∧
 ∃ n170, World.cell? w167 (Addr.add ⟨w.heap.size, 0, none⟩ 4) = some (.int .u64 n170) ∧
 ∃ n171, World.cell? w167 (Addr.add ⟨w.heap.size, 0, none⟩ 6) = some (.int .i64 n171) ∧
 bindW (World.drew w109) fun w172 =>
 CW.Spec Tryz.prog 57 #[.pointer o169, .int .i64 p1, .int .u64 n170, .int .i64 n171] w172 fun v173 w174 =>
 ∃ n175 n176 n177 v178 n179, v173 = .agg (r5c n175 n176 n177 v178 n179) ∧
 StRow w174 ⟨w0.heap.size, 0, none⟩ (r5c n175 n176 n177 v178 n179) ∧
 bindW (stRow w174 ⟨w0.heap.size, 0, none⟩ (r5c n175 n176 n177 v178 n179)) fun w180 =>
 bindW (stRow w174 ⟨w0.heap.size, 0, none⟩ (r5c n175 n176 n177 v178 n179)) fun w181 =>
 ∃ n182 n183 n184 v185 n186, (ldCells w181 ⟨w0.heap.size, 0, none⟩ 5 (r5c n182 n183 n184 v185 n186)) ∧
 R (.agg (r5c n182 n183 n184 v185 n186)) w181)
 (cond (n56 == 13)
 (JoinP [.val, .val]
 (fun v187 v188 => fun w189 =>
 CW.Spec Tryz.prog 56 #[.pointer p0, v188] w189 fun v190 w191 =>
 v190 = .tuple #[] ∧
 withAddr v187 fun a192 =>
 ∃ n193 n194 n195 v196 n197, (ldCells w191 a192 5 (r5c n193 n194 n195 v196 n197)) ∧
 StRow w191 ⟨w0.heap.size, 0, none⟩ (r5c n193 n194 n195 v196 n197) ∧
 bindW (stRow w191 ⟨w0.heap.size, 0, none⟩ (r5c n193 n194 n195 v196 n197)) fun w198 =>
 ∃ n199 n200 n201 v202 n203, (ldCells w198 ⟨w0.heap.size, 0, none⟩ 5 (r5c n199 n200 n201 v202 n203)) ∧
 R (.agg (r5c n199 n200 n201 v202 n203)) w198)
 (fun j204 =>
 bindW (World.drew w109) fun w205 =>
 withAddr (.pointer p0) fun a206 =>
 ∃ o207, World.cell? w205 (Addr.add a206 1) = some (.pointer o207) ∧
 ∃ n208, World.cell? w205 (Addr.add ⟨w.heap.size, 0, none⟩ 4) = some (.int .u64 n208) ∧
 ∃ n209, World.cell? w205 (Addr.add ⟨w.heap.size, 0, none⟩ 6) = some (.int .i64 n209) ∧
 bindW (World.drew w109) fun w210 =>
 (CW.Spec Tryz.prog 58 #[.pointer o207, .int .i64 p1, .int .u64 n208, .int .i64 n209] w210 fun v211 w212 =>
 ∃ n213 n214 n215 v216 n217 v218, v211 = .tuple #[(.agg (r5c n213 n214 n215 v216 n217)), v218] ∧
 (∃ o219, World.cell? (World.alloc w212 (.cells (r5c 0 0 0 nvc 0) 69)) (Addr.add a206 1) = some (.pointer o219) ∧
 ((.pointer o219) : Value) = (.pointer o207)) ∧
 (∃ n220, World.cell? (World.alloc w212 (.cells (r5c 0 0 0 nvc 0) 69)) (Addr.add ⟨w.heap.size, 0, none⟩ 4) = some (.int .u64 n220) ∧
 ((.int .u64 n220) : Value) = (.int .u64 n208)) ∧
 (∃ n221, World.cell? (World.alloc w212 (.cells (r5c 0 0 0 nvc 0) 69)) (Addr.add ⟨w.heap.size, 0, none⟩ 6) = some (.int .i64 n221) ∧
 ((.int .i64 n221) : Value) = (.int .i64 n209)) ∧
 bindW (World.alloc w212 (.cells (r5c 0 0 0 nvc 0) 69)) fun w222 =>
 bindW (World.alloc w212 (.cells (r5c 0 0 0 nvc 0) 69)) fun w223 =>
 StRow w223 ⟨w212.heap.size, 0, none⟩ (r5c n213 n214 n215 v216 n217) ∧
 bindW (stRow w223 ⟨w212.heap.size, 0, none⟩ (r5c n213 n214 n215 v216 n217)) fun w224 =>
 bindW (stRow w223 ⟨w212.heap.size, 0, none⟩ (r5c n213 n214 n215 v216 n217)) fun w225 =>
 j204 (.pointer (some ⟨w212.heap.size, 0, none⟩)) v218 w225) ∧
 (∃ o226, World.cell? (World.alloc w210 (.cells (r5c 0 0 0 nvc 0) 69)) (Addr.add a206 1) = some (.pointer o226) ∧
 ((.pointer o226) : Value) = (.pointer o207)) ∧
 (∃ n227, World.cell? (World.alloc w210 (.cells (r5c 0 0 0 nvc 0) 69)) (Addr.add ⟨w.heap.size, 0, none⟩ 4) = some (.int .u64 n227) ∧
 ((.int .u64 n227) : Value) = (.int .u64 n208)) ∧
 (∃ n228, World.cell? (World.alloc w210 (.cells (r5c 0 0 0 nvc 0) 69)) (Addr.add ⟨w.heap.size, 0, none⟩ 6) = some (.int .i64 n228) ∧
 ((.int .i64 n228) : Value) = (.int .i64 n209)) ∧
 bindW (World.alloc w210 (.cells (r5c 0 0 0 nvc 0) 69)) fun w229 =>
 bindW (World.alloc w210 (.cells (r5c 0 0 0 nvc 0) 69)) fun w230 =>
 CW.Spec Tryz.prog 58 #[.pointer o207, .int .i64 p1, .int .u64 n208, .int .i64 n209] w230 fun v231 w232 =>
 ∃ n233 n234 n235 v236 n237 v238, v231 = .tuple #[(.agg (r5c n233 n234 n235 v236 n237)), v238] ∧
 StRow w232 ⟨w210.heap.size, 0, none⟩ (r5c n233 n234 n235 v236 n237) ∧
 bindW (stRow w232 ⟨w210.heap.size, 0, none⟩ (r5c n233 n234 n235 v236 n237)) fun w239 =>
 bindW (stRow w232 ⟨w210.heap.size, 0, none⟩ (r5c n233 n234 n235 v236 n237)) fun w240 =>
 j204 (.pointer (some ⟨w210.heap.size, 0, none⟩)) v238 w240))
 (cond (n56 == 14)
 (JoinP [.val, .val]
 (fun v241 v242 => fun w243 =>
 CW.Spec Tryz.prog 56 #[.pointer p0, v242] w243 fun v244 w245 =>
 v244 = .tuple #[] ∧
 withAddr v241 fun a246 =>
 ∃ n247 n248 n249 v250 n251, (ldCells w245 a246 5 (r5c n247 n248 n249 v250 n251)) ∧
 StRow w245 ⟨w0.heap.size, 0, none⟩ (r5c n247 n248 n249 v250 n251) ∧
 bindW (stRow w245 ⟨w0.heap.size, 0, none⟩ (r5c n247 n248 n249 v250 n251)) fun w252 =>
 ∃ n253 n254 n255 v256 n257, (ldCells w252 ⟨w0.heap.size, 0, none⟩ 5 (r5c n253 n254 n255 v256 n257)) ∧
 R (.agg (r5c n253 n254 n255 v256 n257)) w252)
 (fun j258 =>
 bindW (World.drew w109) fun w259 =>
 withAddr (.pointer p0) fun a260 =>
 ∃ o261, World.cell? w259 (Addr.add a260 1) = some (.pointer o261) ∧
 ∃ n262, World.cell? w259 (Addr.add ⟨w.heap.size, 0, none⟩ 4) = some (.int .u64 n262) ∧
 bindW (World.drew w109) fun w263 =>
 (CW.Spec Tryz.prog 59 #[.pointer o261, .int .i64 p1, .int .u64 n262] w263 fun v264 w265 =>
 ∃ n266 n267 n268 v269 n270 v271, v264 = .tuple #[(.agg (r5c n266 n267 n268 v269 n270)), v271] ∧
 (∃ o272, World.cell? (World.alloc w265 (.cells (r5c 0 0 0 nvc 0) 69)) (Addr.add a260 1) = some (.pointer o272) ∧
 ((.pointer o272) : Value) = (.pointer o261)) ∧
 (∃ n273, World.cell? (World.alloc w265 (.cells (r5c 0 0 0 nvc 0) 69)) (Addr.add ⟨w.heap.size, 0, none⟩ 4) = some (.int .u64 n273) ∧
 ((.int .u64 n273) : Value) = (.int .u64 n262)) ∧
 bindW (World.alloc w265 (.cells (r5c 0 0 0 nvc 0) 69)) fun w274 =>
 bindW (World.alloc w265 (.cells (r5c 0 0 0 nvc 0) 69)) fun w275 =>
 StRow w275 ⟨w265.heap.size, 0, none⟩ (r5c n266 n267 n268 v269 n270) ∧
 bindW (stRow w275 ⟨w265.heap.size, 0, none⟩ (r5c n266 n267 n268 v269 n270)) fun w276 =>
 bindW (stRow w275 ⟨w265.heap.size, 0, none⟩ (r5c n266 n267 n268 v269 n270)) fun w277 =>
 j258 (.pointer (some ⟨w265.heap.size, 0, none⟩)) v271 w277) ∧
 (∃ o278, World.cell? (World.alloc w263 (.cells (r5c 0 0 0 nvc 0) 69)) (Addr.add a260 1) = some (.pointer o278) ∧
 ((.pointer o278) : Value) = (.pointer o261)) ∧
 (∃ n279, World.cell? (World.alloc w263 (.cells (r5c 0 0 0 nvc 0) 69)) (Addr.add ⟨w.heap.size, 0, none⟩ 4) = some (.int .u64 n279) ∧
 ((.int .u64 n279) : Value) = (.int .u64 n262)) ∧
 bindW (World.alloc w263 (.cells (r5c 0 0 0 nvc 0) 69)) fun w280 =>
 bindW (World.alloc w263 (.cells (r5c 0 0 0 nvc 0) 69)) fun w281 =>
 CW.Spec Tryz.prog 59 #[.pointer o261, .int .i64 p1, .int .u64 n262] w281 fun v282 w283 =>
 ∃ n284 n285 n286 v287 n288 v289, v282 = .tuple #[(.agg (r5c n284 n285 n286 v287 n288)), v289] ∧
 StRow w283 ⟨w263.heap.size, 0, none⟩ (r5c n284 n285 n286 v287 n288) ∧
 bindW (stRow w283 ⟨w263.heap.size, 0, none⟩ (r5c n284 n285 n286 v287 n288)) fun w290 =>
 bindW (stRow w283 ⟨w263.heap.size, 0, none⟩ (r5c n284 n285 n286 v287 n288)) fun w291 =>
 j258 (.pointer (some ⟨w263.heap.size, 0, none⟩)) v289 w291))
 (cond (n56 == 15)
 (JoinP [.val, .val]
 (fun v292 v293 => fun w294 =>
 CW.Spec Tryz.prog 56 #[.pointer p0, v293] w294 fun v295 w296 =>
 v295 = .tuple #[] ∧
 withAddr v292 fun a297 =>
 ∃ n298 n299 n300 v301 n302, (ldCells w296 a297 5 (r5c n298 n299 n300 v301 n302)) ∧
 StRow w296 ⟨w0.heap.size, 0, none⟩ (r5c n298 n299 n300 v301 n302) ∧
 bindW (stRow w296 ⟨w0.heap.size, 0, none⟩ (r5c n298 n299 n300 v301 n302)) fun w303 =>
 ∃ n304 n305 n306 v307 n308, (ldCells w303 ⟨w0.heap.size, 0, none⟩ 5 (r5c n304 n305 n306 v307 n308)) ∧
 R (.agg (r5c n304 n305 n306 v307 n308)) w303)
 (fun j309 =>
 bindW (World.drew w109) fun w310 =>
 withAddr (.pointer p0) fun a311 =>
 ∃ o312, World.cell? w310 (Addr.add a311 1) = some (.pointer o312) ∧
 ∃ n313, World.cell? w310 (Addr.add ⟨w.heap.size, 0, none⟩ 4) = some (.int .u64 n313) ∧
 ∃ n314, World.cell? w310 (Addr.add ⟨w.heap.size, 0, none⟩ 5) = some (.int .u64 n314) ∧
 ∃ n315, World.cell? w310 (Addr.add ⟨w.heap.size, 0, none⟩ 6) = some (.int .i64 n315) ∧
 bindW (World.drew w109) fun w316 =>
 (CW.Spec Tryz.prog 60 #[.pointer o312, .int .i64 p1, .int .u64 n313, .int .u64 n314, .int .i64 n315] w316 fun v317 w318 =>
 ∃ n319 n320 n321 v322 n323 v324, v317 = .tuple #[(.agg (r5c n319 n320 n321 v322 n323)), v324] ∧
 (∃ o325, World.cell? (World.alloc w318 (.cells (r5c 0 0 0 nvc 0) 69)) (Addr.add a311 1) = some (.pointer o325) ∧
 ((.pointer o325) : Value) = (.pointer o312)) ∧
 (∃ n326, World.cell? (World.alloc w318 (.cells (r5c 0 0 0 nvc 0) 69)) (Addr.add ⟨w.heap.size, 0, none⟩ 4) = some (.int .u64 n326) ∧
 ((.int .u64 n326) : Value) = (.int .u64 n313)) ∧
 (∃ n327, World.cell? (World.alloc w318 (.cells (r5c 0 0 0 nvc 0) 69)) (Addr.add ⟨w.heap.size, 0, none⟩ 5) = some (.int .u64 n327) ∧
 ((.int .u64 n327) : Value) = (.int .u64 n314)) ∧
 (∃ n328, World.cell? (World.alloc w318 (.cells (r5c 0 0 0 nvc 0) 69)) (Addr.add ⟨w.heap.size, 0, none⟩ 6) = some (.int .i64 n328) ∧
 ((.int .i64 n328) : Value) = (.int .i64 n315)) ∧
 bindW (World.alloc w318 (.cells (r5c 0 0 0 nvc 0) 69)) fun w329 =>
 bindW (World.alloc w318 (.cells (r5c 0 0 0 nvc 0) 69)) fun w330 =>
 StRow w330 ⟨w318.heap.size, 0, none⟩ (r5c n319 n320 n321 v322 n323) ∧
 bindW (stRow w330 ⟨w318.heap.size, 0, none⟩ (r5c n319 n320 n321 v322 n323)) fun w331 =>
 bindW (stRow w330 ⟨w318.heap.size, 0, none⟩ (r5c n319 n320 n321 v322 n323)) fun w332 =>
 j309 (.pointer (some ⟨w318.heap.size, 0, none⟩)) v324 w332) ∧
 (∃ o333, World.cell? (World.alloc w316 (.cells (r5c 0 0 0 nvc 0) 69)) (Addr.add a311 1) = some (.pointer o333) ∧
 ((.pointer o333) : Value) = (.pointer o312)) ∧
 (∃ n334, World.cell? (World.alloc w316 (.cells (r5c 0 0 0 nvc 0) 69)) (Addr.add ⟨w.heap.size, 0, none⟩ 4) = some (.int .u64 n334) ∧
 ((.int .u64 n334) : Value) = (.int .u64 n313)) ∧
 (∃ n335, World.cell? (World.alloc w316 (.cells (r5c 0 0 0 nvc 0) 69)) (Addr.add ⟨w.heap.size, 0, none⟩ 5) = some (.int .u64 n335) ∧
 ((.int .u64 n335) : Value) = (.int .u64 n314)) ∧
 (∃ n336, World.cell? (World.alloc w316 (.cells (r5c 0 0 0 nvc 0) 69)) (Addr.add ⟨w.heap.size, 0, none⟩ 6) = some (.int .i64 n336) ∧
 ((.int .i64 n336) : Value) = (.int .i64 n315)) ∧
 bindW (World.alloc w316 (.cells (r5c 0 0 0 nvc 0) 69)) fun w337 =>
 bindW (World.alloc w316 (.cells (r5c 0 0 0 nvc 0) 69)) fun w338 =>
 CW.Spec Tryz.prog 60 #[.pointer o312, .int .i64 p1, .int .u64 n313, .int .u64 n314, .int .i64 n315] w338 fun v339 w340 =>
 ∃ n341 n342 n343 v344 n345 v346, v339 = .tuple #[(.agg (r5c n341 n342 n343 v344 n345)), v346] ∧
 StRow w340 ⟨w316.heap.size, 0, none⟩ (r5c n341 n342 n343 v344 n345) ∧
 bindW (stRow w340 ⟨w316.heap.size, 0, none⟩ (r5c n341 n342 n343 v344 n345)) fun w347 =>
 bindW (stRow w340 ⟨w316.heap.size, 0, none⟩ (r5c n341 n342 n343 v344 n345)) fun w348 =>
 j309 (.pointer (some ⟨w316.heap.size, 0, none⟩)) v346 w348))
 (cond (n56 == 16)
 (bindW (World.drew w109) fun w349 =>
 withAddr (.pointer p0) fun a350 =>
 ∃ o351, World.cell? w349 (Addr.add a350 1) = some (.pointer o351) ∧
 withAddr (.pointer o351) fun a352 =>
 ∃ n353, World.cell? w349 (Addr.add a352 10) = some (.int .u32 n353) ∧
 withAddr (.pointer p0) fun a354 =>
 ∃ o355, World.cell? w349 (Addr.add a354 1) = some (.pointer o355) ∧
 bindW (World.drew w109) fun w356 =>
 CW.Spec Tryz.prog 62 #[.pointer o355] w356 fun v357 w358 =>
 (∃ o359, World.cell? w358 (Addr.add a350 1) = some (.pointer o359) ∧
 ((.pointer o359) : Value) = (.pointer o351)) ∧
 (∃ n360, World.cell? w358 (Addr.add a352 10) = some (.int .u32 n360) ∧
 ((.int .u32 n360) : Value) = (.int .u32 n353)) ∧
 CW.Spec Tryz.prog 61 #[.int .u32 n353, v357] w358 fun v361 w362 =>
 oneK v361 ((StRow w362 ⟨w0.heap.size, 0, none⟩ (r5c 0 0 0 v361 0)) ∧
 bindW (stRow w362 ⟨w0.heap.size, 0, none⟩ (r5c 0 0 0 v361 0)) fun w363 =>
 bindW (stRow w362 ⟨w0.heap.size, 0, none⟩ (r5c 0 0 0 v361 0)) fun w364 =>
 ∃ n365 n366 n367 v368 n369, (ldCells w364 ⟨w0.heap.size, 0, none⟩ 5 (r5c n365 n366 n367 v368 n369)) ∧
 R (.agg (r5c n365 n366 n367 v368 n369)) w364))
 (cond (n56 == 17)
 (bindW (World.drew w109) fun w370 =>
 withAddr (.pointer p0) fun a371 =>
 ∃ o372, World.cell? w370 (Addr.add a371 1) = some (.pointer o372) ∧
 withAddr (.pointer o372) fun a373 =>
 ∃ n374, World.cell? w370 (Addr.add a373 10) = some (.int .u32 n374) ∧
 withAddr (.pointer p0) fun a375 =>
 ∃ o376, World.cell? w370 (Addr.add a375 1) = some (.pointer o376) ∧
 withAddr (.pointer p0) fun a377 =>
 ∃ o378, World.cell? w370 (Addr.add a377 1) = some (.pointer o378) ∧
 withAddr (.pointer o378) fun a379 =>
 ∃ n380, World.cell? w370 (Addr.add a379 8) = some (.int .i64 n380) ∧
 withAddr (.pointer p0) fun a381 =>
 ∃ o382, World.cell? w370 (Addr.add a381 1) = some (.pointer o382) ∧
 withAddr (.pointer o382) fun a383 =>
 ∃ n384, World.cell? w370 (Addr.add a383 9) = some (.int .i64 n384) ∧
 bindW (World.drew w109) fun w385 =>
 CW.Spec Tryz.prog 64 #[.pointer o376, .int .i64 n380] w385 fun v386 w387 =>
 ∃ n388, v386 = .int .u64 n388 ∧
 (∃ o389, World.cell? w387 (Addr.add a371 1) = some (.pointer o389) ∧
 ((.pointer o389) : Value) = (.pointer o372)) ∧
 (∃ n390, World.cell? w387 (Addr.add a373 10) = some (.int .u32 n390) ∧
 ((.int .u32 n390) : Value) = (.int .u32 n374)) ∧
 (∃ o391, World.cell? w387 (Addr.add a381 1) = some (.pointer o391) ∧
 ((.pointer o391) : Value) = (.pointer o382)) ∧
 (∃ n392, World.cell? w387 (Addr.add a383 9) = some (.int .i64 n392) ∧
 ((.int .i64 n392) : Value) = (.int .i64 n384)) ∧
 CW.Spec Tryz.prog 63 #[.int .u32 n374, .int .u64 n388, .int .i64 n384] w387 fun v393 w394 =>
 oneK v393 ((StRow w394 ⟨w0.heap.size, 0, none⟩ (r5c 0 0 0 v393 0)) ∧
 bindW (stRow w394 ⟨w0.heap.size, 0, none⟩ (r5c 0 0 0 v393 0)) fun w395 =>
 bindW (stRow w394 ⟨w0.heap.size, 0, none⟩ (r5c 0 0 0 v393 0)) fun w396 =>
 ∃ n397 n398 n399 v400 n401, (ldCells w396 ⟨w0.heap.size, 0, none⟩ 5 (r5c n397 n398 n399 v400 n401)) ∧
 R (.agg (r5c n397 n398 n399 v400 n401)) w396))
 (cond (n56 == 18)
 (LoopP [.int .i64]
 (fun j402 => fun (n403 : Int) => fun w404 =>
 cond (decide (n403 < 8))
 (CW.Spec Tryz.prog 65 #[.pointer p0, .int .i64 n403, .int .i64 10499] w404 fun v405 w406 =>
 v405 = .tuple #[] ∧
 j402 (IntKind.wrap .i64 (n403 + 1)) w406)
 (j64 w404))
 (fun s407 => s407 (0 : Int) w109))
 (j64 w109)))))))))
 (fun j408 =>
 cond (n56 == 10)
 (j408 (n56 == 10) w86)
 (j408 (n56 == 11) w86))))
 (fun j409 =>
 cond (n56 == 2)
 (j409 (n56 == 2) w48)
 (cond (n56 == 3)
 (j409 (n56 == 3) w48)
 (cond (n56 == 4)
 (j409 (n56 == 4) w48)
 (cond (n56 == 5)
 (j409 (n56 == 5) w48)
 (j409 (n56 == 6) w48))))))))))
 (fun j410 =>
 ∃ n411, World.cell? w3 (Addr.add ⟨w.heap.size, 0, none⟩ 0) = some (.int .i64 n411) ∧
 cond (n411 != 8)
 (CW.Spec Tryz.prog 49 #[.pointer p0, .int .i64 p1] w3 fun v412 w413 =>
 ∃ n414 n415 n416 v417 n418 b419, v412 = .tuple #[(.agg (r5c n414 n415 n416 v417 n418)), .bool b419] ∧
 bindW (World.alloc w413 (.cells (r5c 0 0 0 nvc 0) 69)) fun w420 =>
 StRow w420 ⟨w413.heap.size, 0, none⟩ (r5c n414 n415 n416 v417 n418) ∧
 bindW (stRow w420 ⟨w413.heap.size, 0, none⟩ (r5c n414 n415 n416 v417 n418)) fun w421 =>
 cond b419
 (∃ n422 n423 n424 v425 n426, (ldCells w421 ⟨w413.heap.size, 0, none⟩ 5 (r5c n422 n423 n424 v425 n426)) ∧
 StRow w421 ⟨w0.heap.size, 0, none⟩ (r5c n422 n423 n424 v425 n426) ∧
 bindW (stRow w421 ⟨w0.heap.size, 0, none⟩ (r5c n422 n423 n424 v425 n426)) fun w427 =>
 ∃ n428 n429 n430 v431 n432, (ldCells w427 ⟨w0.heap.size, 0, none⟩ 5 (r5c n428 n429 n430 v431 n432)) ∧
 R (.agg (r5c n428 n429 n430 v431 n432)) w427)
 (j410 w421))
 (j410 w3)))))
 (fun j433 =>
 cond (decide (p1 < 0))
 (j433 true w1)
 (cond (decide (p1 ≥ 8))
 (j433 true w1)
 (∃ n434, World.cell? w1 (Addr.add ⟨w.heap.size, 0, none⟩ 0) = some (.int .i64 n434) ∧
 cond (decide (n434 < 1))
 (j433 true w1)
 (∃ n435, World.cell? w1 (Addr.add ⟨w.heap.size, 0, none⟩ 0) = some (.int .i64 n435) ∧
 j433 (decide (n435 > 18)) w1))))
theorem q60W (p0 p1 p2_0 p2_1 p2_2 p2_3 p2_4 p2_5 p2_6 p2_7 w R) (h : q60F p0 p1 p2_0 p2_1 p2_2 p2_3 p2_4 p2_5 p2_6 p2_7 w R) : CW.Spec Tryz.prog 22 #[.pointer p0, .int .i64 p1, (.agg (r8c p2_0 p2_1 p2_2 p2_3 p2_4 p2_5 p2_6 p2_7))] w R :=
 sp Tryz.func22 h
def q44F (p0 : Int) (w : World) (R : KV) : Prop :=
 JoinP [.bool]
 (fun (b0 : Bool) => fun w1 =>
 cond b0
 (R (.tuple #[.pointer none, .int .i64 1]) w1)
 (JoinP [.ptr, .int .i64]
 (fun o2 => fun (n3 : Int) => fun w4 =>
 R (.tuple #[.pointer o2, .int .i64 n3]) w4)
 (fun j5 =>
 bindW (World.drew w1) fun w6 =>
 bindW (World.drew w1) fun w7 =>
 (∃ v8 w9, Sem.run Tryz.prog (Instr.makeSlice 33 (.int .i64 (IntKind.wrap .i64 (p0 * 8))) (.int .i64 (IntKind.wrap .i64 (p0 * 8)))) w7 = .ok v8 w9 ∧
 CW.Spec Tryz.prog 94 #[.int .i64 p0] w9 fun v10 w11 =>
 oneK v8 (oneK v10 (bindW (World.alloc w11 (.cells #[.int .i64 p0, v8, v10] 137)) fun w12 =>
 bindW (World.alloc w11 (.cells #[.int .i64 p0, v8, v10] 137)) fun w13 =>
 j5 (some ⟨w11.heap.size, 0, none⟩) (0 : Int) w13))) ∧
 CW.Spec Tryz.prog 94 #[.int .i64 p0] w7 fun v14 w15 =>
 ∃ v16 w17, Sem.run Tryz.prog (Instr.makeSlice 33 (.int .i64 (IntKind.wrap .i64 (p0 * 8))) (.int .i64 (IntKind.wrap .i64 (p0 * 8)))) w15 = .ok v16 w17 ∧
 oneK v16 (oneK v14 (bindW (World.alloc w17 (.cells #[.int .i64 p0, v16, v14] 137)) fun w18 =>
 bindW (World.alloc w17 (.cells #[.int .i64 p0, v16, v14] 137)) fun w19 =>
 j5 (some ⟨w17.heap.size, 0, none⟩) (0 : Int) w19)))))
 (fun j20 =>
 cond (decide (p0 < 1))
 (j20 true w)
 (j20 (decide (p0 > 1024)) w))
theorem q44W (p0 w R) (h : q44F p0 w R) : CW.Spec Tryz.prog 46 #[.int .i64 p0] w R :=
 sp Tryz.func46 h
def q48F  (w : World) (R : KV) : Prop :=
 bindW (World.alloc w (.cells #[.int .u64 0, .int .u64 0, .int .u64 0, .int .u64 0, .int .u64 0, .int .u64 0, .int .u64 0, .int .u64 0, (.int .i64 (-1 : Int)), .int .i64 0, .int .u32 0] 76)) fun w0 =>
 R (.pointer (some ⟨w.heap.size, 0, none⟩)) w0
theorem q48W  (w : World) (R : KV) (h : q48F  w R) : CW.Spec Tryz.prog 47 #[] w R :=
 sp Tryz.func47 h
def q63F (p0 : Option Addr) (p1 : Int) (w : World) (R : KV) : Prop :=
 bindW (World.alloc w (.cells (r5c 0 0 0 nvc 0) 69)) fun w0 =>
 withAddr (.pointer p0) fun a1 =>
 (inR p1 8) ∧
 ∃ v2, World.cell? w0 (Addr.add (Addr.add a1 2) ((Int.toNat p1) * 1)) = some v2 ∧
 ∃ m3, sliceLen v2 = some m3 ∧
 cond (((m3 : Nat) : Int) == 0)
 ((StRow w0 ⟨w.heap.size, 0, none⟩ (r5c 0 0 0 nvc 0)) ∧
 bindW (stRow w0 ⟨w.heap.size, 0, none⟩ (r5c 0 0 0 nvc 0)) fun w4 =>
 ∃ n5 n6 n7 v8 n9, (ldCells w4 ⟨w.heap.size, 0, none⟩ 5 (r5c n5 n6 n7 v8 n9)) ∧
 R (.tuple #[(.agg (r5c n5 n6 n7 v8 n9)), .bool false]) w4)
 (withAddr (.pointer p0) fun a10 =>
 (inR p1 8) ∧
 ∃ v11, World.cell? w0 (Addr.add (Addr.add a10 2) ((Int.toNat p1) * 1)) = some v11 ∧
 ∃ a12, sliceAt v11 (0 : Int) 1 = some a12 ∧
 ∃ n13, World.cell? w0 a12 = some (.int .i64 n13) ∧
 bindW (World.drew w0) fun w14 =>
 withAddr (.pointer p0) fun a15 =>
 (inR p1 8) ∧
 ∃ v16, World.cell? w14 (Addr.add (Addr.add a15 2) ((Int.toNat p1) * 1)) = some v16 ∧
 ∃ v17, ((subSlice v16 1 (some (.int .i64 1)) none none) = (some v17)) ∧
 withAddr (.pointer p0) fun a18 =>
 bindW (World.drew w0) fun w19 =>
 (∃ v20, World.cell? (World.alloc w19 (.cells #[] 3)) (Addr.add (Addr.add a15 2) ((Int.toNat p1) * 1)) = some v20 ∧
 (v20 : Value) = v16) ∧
 bindW (World.alloc w19 (.cells #[] 3)) fun w21 =>
 bindW (World.alloc w19 (.cells #[] 3)) fun w22 =>
 ∃ v23 w24, Sem.run Tryz.prog (Builtin.append_ #[73, 73] 73 #[(.slice (some ⟨w19.heap.size, 0, none⟩) 0 0), v17]) w22 = .ok v23 w24 ∧
 (inR p1 8) ∧
 oneK v23 ((St1 w24 (Addr.add (Addr.add a18 2) ((Int.toNat p1) * 1))) ∧
 bindW (World.setCell w24 (Addr.add (Addr.add a18 2) ((Int.toNat p1) * 1)) v23) fun w25 =>
 bindW (World.setCell w24 (Addr.add (Addr.add a18 2) ((Int.toNat p1) * 1)) v23) fun w26 =>
 CW.Spec Tryz.prog 48 #[.int .i64 6, .int .i64 n13] w26 fun v27 w28 =>
 ∃ n29 n30 n31 v32 n33, v27 = .agg (r5c n29 n30 n31 v32 n33) ∧
 StRow w28 ⟨w.heap.size, 0, none⟩ (r5c n29 n30 n31 v32 n33) ∧
 bindW (stRow w28 ⟨w.heap.size, 0, none⟩ (r5c n29 n30 n31 v32 n33)) fun w34 =>
 ∃ n35 n36 n37 v38 n39, (ldCells w34 ⟨w.heap.size, 0, none⟩ 5 (r5c n35 n36 n37 v38 n39)) ∧
 R (.tuple #[(.agg (r5c n35 n36 n37 v38 n39)), .bool true]) w34))
theorem q63W (p0 p1 w R) (h : q63F p0 p1 w R) : CW.Spec Tryz.prog 49 #[.pointer p0, .int .i64 p1] w R :=
 sp Tryz.func49 h
def q49F (p0 : Option Addr) (p1 : Int) (p2 : Int) (w : World) (R : KV) : Prop :=
 JoinP [.bool]
 (fun (b0 : Bool) => fun w1 =>
 cond b0
 (R (.bool true) w1)
 (JoinP [.bool]
 (fun (b2 : Bool) => fun w3 =>
 cond b2
 (R (.bool true) w3)
 (JoinP [.bool]
 (fun (b4 : Bool) => fun w5 =>
 cond b4
 (JoinP [.bool]
 (fun (b6 : Bool) => fun w7 =>
 R (.bool b6) w7)
 (fun j8 =>
 withAddr (.pointer p0) fun a9 =>
 ∃ n10, World.cell? w5 (Addr.add a9 9) = some (.int .i64 n10) ∧
 cond (n10 == 1)
 (j8 true w5)
 (withAddr (.pointer p0) fun a11 =>
 ∃ n12, World.cell? w5 (Addr.add a11 9) = some (.int .i64 n12) ∧
 j8 (n12 == 5) w5)))
 (JoinP [.bool]
 (fun (b13 : Bool) => fun w14 =>
 cond b13
 (R (.bool false) w14)
 (R (.bool true) w14))
 (fun j15 =>
 cond (p2 == 3)
 (j15 (p2 == 3) w5)
 (cond (p2 == 4)
 (j15 (p2 == 4) w5)
 (cond (p2 == 5)
 (j15 (p2 == 5) w5)
 (j15 (p2 == 6) w5))))))
 (fun j16 =>
 cond (p2 == 1)
 (j16 (p2 == 1) w3)
 (j16 (p2 == 2) w3))))
 (fun j17 =>
 withAddr (.pointer p0) fun a18 =>
 ∃ n19, World.cell? w1 (Addr.add a18 9) = some (.int .i64 n19) ∧
 cond (decide (n19 ≥ 5))
 (CW.Spec Tryz.prog 95 #[.int .i64 p1] w1 fun v20 w21 =>
 ∃ b22, v20 = .bool b22 ∧
 cond (!b22)
 (withAddr (.pointer p0) fun a23 =>
 (inR p1 8) ∧
 ∃ n24, World.cell? w21 (Addr.add (Addr.add a23 0) ((Int.toNat p1) * 1)) = some (.int .u64 n24) ∧
 j17 (n24 != 0) w21)
 (j17 false w21))
 (j17 false w1))))
 (fun j25 =>
 withAddr (.pointer p0) fun a26 =>
 ∃ n27, World.cell? w (Addr.add a26 8) = some (.int .i64 n27) ∧
 cond (decide (n27 < 0))
 (j25 true w)
 (withAddr (.pointer p0) fun a28 =>
 ∃ n29, World.cell? w (Addr.add a28 8) = some (.int .i64 n29) ∧
 j25 (n29 == p1) w))
theorem q49W (p0 p1 p2 w R) (h : q49F p0 p1 p2 w R) : CW.Spec Tryz.prog 51 #[.pointer p0, .int .i64 p1, .int .i64 p2] w R :=
 sp Tryz.func51 h
def q61F (p0 : Option Addr) (p1_0 : Int) (p1_1 : Int) (p1_2 : Int) (p1_3 : Value) (p1_4 : Int) (p1_5 : Int) (p1_6 : Int) (p1_7 : Bool) (w : World) (R : KV) : Prop :=
 bindW (World.alloc w (.cells (r8c p1_0 p1_1 p1_2 p1_3 p1_4 p1_5 p1_6 p1_7) 64)) fun w0 =>
 bindW (World.alloc w0 (.cells (r5c 0 0 0 nvc 0) 69)) fun w1 =>
 bindW (World.drew w1) fun w2 =>
 withAddr (.pointer p0) fun a3 =>
 ∃ o4, World.cell? w2 (Addr.add a3 0) = some (.pointer o4) ∧
 ∃ n5, World.cell? w2 (Addr.add ⟨w.heap.size, 0, none⟩ 1) = some (.int .i64 n5) ∧
 ∃ n6, World.cell? w2 (Addr.add ⟨w.heap.size, 0, none⟩ 2) = some (.int .i64 n6) ∧
 bindW (World.drew w1) fun w7 =>
 CW.Spec Tryz.prog 96 #[.pointer o4, .int .i64 n5, .int .i64 n6] w7 fun v8 w9 =>
 ∃ b10, v8 = .bool b10 ∧
 cond (!b10)
 (CW.Spec Tryz.prog 48 #[.int .i64 5, .int .i64 8448] w9 fun v11 w12 =>
 ∃ n13 n14 n15 v16 n17, v11 = .agg (r5c n13 n14 n15 v16 n17) ∧
 StRow w12 ⟨w0.heap.size, 0, none⟩ (r5c n13 n14 n15 v16 n17) ∧
 bindW (stRow w12 ⟨w0.heap.size, 0, none⟩ (r5c n13 n14 n15 v16 n17)) fun w18 =>
 ∃ n19 n20 n21 v22 n23, (ldCells w18 ⟨w0.heap.size, 0, none⟩ 5 (r5c n19 n20 n21 v22 n23)) ∧
 R (.agg (r5c n19 n20 n21 v22 n23)) w18)
 (∃ n24, World.cell? w9 (Addr.add ⟨w.heap.size, 0, none⟩ 0) = some (.int .i64 n24) ∧
 JoinP []
 (fun w25 =>
 StRow w25 ⟨w0.heap.size, 0, none⟩ (r5c 0 0 0 nvc 0) ∧
 bindW (stRow w25 ⟨w0.heap.size, 0, none⟩ (r5c 0 0 0 nvc 0)) fun w26 =>
 ∃ n27 n28 n29 v30 n31, (ldCells w26 ⟨w0.heap.size, 0, none⟩ 5 (r5c n27 n28 n29 v30 n31)) ∧
 R (.agg (r5c n27 n28 n29 v30 n31)) w26)
 (fun j32 =>
 cond (n24 == 2)
 (bindW (World.drew w9) fun w33 =>
 withAddr (.pointer p0) fun a34 =>
 ∃ o35, World.cell? w33 (Addr.add a34 0) = some (.pointer o35) ∧
 ∃ n36, World.cell? w33 (Addr.add ⟨w.heap.size, 0, none⟩ 1) = some (.int .i64 n36) ∧
 ∃ n37, World.cell? w33 (Addr.add ⟨w.heap.size, 0, none⟩ 2) = some (.int .i64 n37) ∧
 bindW (World.drew w9) fun w38 =>
 CW.Spec Tryz.prog 97 #[.pointer o35, .int .i64 n36, .int .i64 n37] w38 fun v39 w40 =>
 ∃ v41 n42, v39 = .tuple #[v41, .int .i64 n42] ∧
 oneK v41 ((StRow w40 ⟨w0.heap.size, 0, none⟩ (r5c 0 0 0 v41 0)) ∧
 bindW (stRow w40 ⟨w0.heap.size, 0, none⟩ (r5c 0 0 0 v41 0)) fun w43 =>
 ∃ n44 n45 n46 v47 n48, (ldCells w43 ⟨w0.heap.size, 0, none⟩ 5 (r5c n44 n45 n46 v47 n48)) ∧
 R (.agg (r5c n44 n45 n46 v47 n48)) w43))
 (cond (n24 == 3)
 (∃ v49, World.cell? w9 (Addr.add ⟨w.heap.size, 0, none⟩ 3) = some v49 ∧
 ∃ m50, sliceLen v49 = some m50 ∧
 ∃ n51, World.cell? w9 (Addr.add ⟨w.heap.size, 0, none⟩ 2) = some (.int .i64 n51) ∧
 cond (((m50 : Nat) : Int) != (IntKind.wrap .i64 (n51 * 8)))
 (CW.Spec Tryz.prog 48 #[.int .i64 5, .int .i64 9216] w9 fun v52 w53 =>
 ∃ n54 n55 n56 v57 n58, v52 = .agg (r5c n54 n55 n56 v57 n58) ∧
 StRow w53 ⟨w0.heap.size, 0, none⟩ (r5c n54 n55 n56 v57 n58) ∧
 bindW (stRow w53 ⟨w0.heap.size, 0, none⟩ (r5c n54 n55 n56 v57 n58)) fun w59 =>
 ∃ n60 n61 n62 v63 n64, (ldCells w59 ⟨w0.heap.size, 0, none⟩ 5 (r5c n60 n61 n62 v63 n64)) ∧
 R (.agg (r5c n60 n61 n62 v63 n64)) w59)
 (bindW (World.drew w9) fun w65 =>
 withAddr (.pointer p0) fun a66 =>
 ∃ o67, World.cell? w65 (Addr.add a66 0) = some (.pointer o67) ∧
 ∃ n68, World.cell? w65 (Addr.add ⟨w.heap.size, 0, none⟩ 1) = some (.int .i64 n68) ∧
 ∃ v69, World.cell? w65 (Addr.add ⟨w.heap.size, 0, none⟩ 3) = some v69 ∧
 bindW (World.drew w9) fun w70 =>
 CW.Spec Tryz.prog 98 #[.pointer o67, .int .i64 n68, v69] w70 fun v71 w72 =>
 ∃ n73, v71 = .int .i64 n73 ∧
 j32 w72))
 (cond (n24 == 5)
 (bindW (World.drew w9) fun w74 =>
 withAddr (.pointer p0) fun a75 =>
 ∃ o76, World.cell? w74 (Addr.add a75 0) = some (.pointer o76) ∧
 ∃ n77, World.cell? w74 (Addr.add ⟨w.heap.size, 0, none⟩ 1) = some (.int .i64 n77) ∧
 ∃ n78, World.cell? w74 (Addr.add ⟨w.heap.size, 0, none⟩ 2) = some (.int .i64 n78) ∧
 bindW (World.drew w9) fun w79 =>
 CW.Spec Tryz.prog 99 #[.pointer o76, .int .i64 n77, .int .i64 n78] w79 fun v80 w81 =>
 ∃ n82, v80 = .int .i64 n82 ∧
 j32 w81)
 (cond (n24 == 6)
 (∃ v83, World.cell? w9 (Addr.add ⟨w.heap.size, 0, none⟩ 3) = some v83 ∧
 ∃ m84, sliceLen v83 = some m84 ∧
 ∃ n85, World.cell? w9 (Addr.add ⟨w.heap.size, 0, none⟩ 2) = some (.int .i64 n85) ∧
 cond (((m84 : Nat) : Int) != (IntKind.wrap .i64 ((IntKind.wrap .i64 ((2 : Int) * n85)) * 8)))
 (CW.Spec Tryz.prog 48 #[.int .i64 5, .int .i64 9216] w9 fun v86 w87 =>
 ∃ n88 n89 n90 v91 n92, v86 = .agg (r5c n88 n89 n90 v91 n92) ∧
 StRow w87 ⟨w0.heap.size, 0, none⟩ (r5c n88 n89 n90 v91 n92) ∧
 bindW (stRow w87 ⟨w0.heap.size, 0, none⟩ (r5c n88 n89 n90 v91 n92)) fun w93 =>
 ∃ n94 n95 n96 v97 n98, (ldCells w93 ⟨w0.heap.size, 0, none⟩ 5 (r5c n94 n95 n96 v97 n98)) ∧
 R (.agg (r5c n94 n95 n96 v97 n98)) w93)
 (bindW (World.drew w9) fun w99 =>
 withAddr (.pointer p0) fun a100 =>
 ∃ o101, World.cell? w99 (Addr.add a100 0) = some (.pointer o101) ∧
 ∃ n102, World.cell? w99 (Addr.add ⟨w.heap.size, 0, none⟩ 1) = some (.int .i64 n102) ∧
 ∃ v103, World.cell? w99 (Addr.add ⟨w.heap.size, 0, none⟩ 3) = some v103 ∧
 bindW (World.drew w9) fun w104 =>
 CW.Spec Tryz.prog 100 #[.pointer o101, .int .i64 n102, v103] w104 fun v105 w106 =>
 ∃ n107 n108, v105 = .tuple #[.int .i64 n107, .int .i64 n108] ∧
 cond (decide (n107 ≥ 0))
 ((StRow w106 ⟨w0.heap.size, 0, none⟩ (r5c 2 14 7424 nvc n107)) ∧
 bindW (stRow w106 ⟨w0.heap.size, 0, none⟩ (r5c 2 14 7424 nvc n107)) fun w109 =>
 ∃ n110 n111 n112 v113 n114, (ldCells w109 ⟨w0.heap.size, 0, none⟩ 5 (r5c n110 n111 n112 v113 n114)) ∧
 R (.agg (r5c n110 n111 n112 v113 n114)) w109)
 (j32 w106)))
 (j32 w9))))))
theorem q61W (p0 p1_0 p1_1 p1_2 p1_3 p1_4 p1_5 p1_6 p1_7 w R) (h : q61F p0 p1_0 p1_1 p1_2 p1_3 p1_4 p1_5 p1_6 p1_7 w R) : CW.Spec Tryz.prog 54 #[.pointer p0, (.agg (r8c p1_0 p1_1 p1_2 p1_3 p1_4 p1_5 p1_6 p1_7))] w R :=
 sp Tryz.func54 h
def q51F (p0 : Option Addr) (p1 : Int) (p2 : Int) (p3 : Int) (p4 : Bool) (w : World) (R : KV) : Prop :=
 bindW (World.alloc w (.cells (r5c 0 0 0 nvc 0) 69)) fun w0 =>
 CW.Spec Tryz.prog 95 #[.int .i64 p1] w0 fun v1 w2 =>
 ∃ b3, v1 = .bool b3 ∧
 cond b3
 (CW.Spec Tryz.prog 101 #[.int .i64 9216] w2 fun v4 w5 =>
 ∃ n6 n7 n8 v9 n10, v4 = .agg (r5c n6 n7 n8 v9 n10) ∧
 StRow w5 ⟨w.heap.size, 0, none⟩ (r5c n6 n7 n8 v9 n10) ∧
 bindW (stRow w5 ⟨w.heap.size, 0, none⟩ (r5c n6 n7 n8 v9 n10)) fun w11 =>
 ∃ n12 n13 n14 v15 n16, (ldCells w11 ⟨w.heap.size, 0, none⟩ 5 (r5c n12 n13 n14 v15 n16)) ∧
 R (.tuple #[(.agg (r5c n12 n13 n14 v15 n16)), nvc]) w11)
 (JoinP [.bool]
 (fun (b17 : Bool) => fun w18 =>
 cond b17
 (CW.Spec Tryz.prog 102 #[] w18 fun v19 w20 =>
 ∃ n21 n22 n23 v24 n25, v19 = .agg (r5c n21 n22 n23 v24 n25) ∧
 StRow w20 ⟨w.heap.size, 0, none⟩ (r5c n21 n22 n23 v24 n25) ∧
 bindW (stRow w20 ⟨w.heap.size, 0, none⟩ (r5c n21 n22 n23 v24 n25)) fun w26 =>
 ∃ n27 n28 n29 v30 n31, (ldCells w26 ⟨w.heap.size, 0, none⟩ 5 (r5c n27 n28 n29 v30 n31)) ∧
 R (.tuple #[(.agg (r5c n27 n28 n29 v30 n31)), nvc]) w26)
 (withAddr (.pointer p0) fun a32 =>
 (inR p1 8) ∧
 St1 w18 (Addr.add (Addr.add a32 0) ((Int.toNat p1) * 1)) ∧
 bindW (World.setCell w18 (Addr.add (Addr.add a32 0) ((Int.toNat p1) * 1)) (.int .u64 p3)) fun w33 =>
 withAddr (.pointer p0) fun a34 =>
 ∃ n35, World.cell? w33 (Addr.add a34 10) = some (.int .u32 n35) ∧
 withAddr (.pointer p0) fun a36 =>
 St1 w33 (Addr.add a36 10) ∧
 bindW (World.setCell w33 (Addr.add a36 10) (.int .u32 (IntKind.wrap .u32 (n35 + 1)))) fun w37 =>
 JoinP [.bool]
 (fun (b38 : Bool) => fun w39 =>
 cond b38
 (CW.Spec Tryz.prog 103 #[] w39 fun v40 w41 =>
 ∃ n42 n43 n44 v45 n46, v40 = .agg (r5c n42 n43 n44 v45 n46) ∧
 CW.Spec Tryz.prog 104 #[.pointer p0, .int .i64 p1] w41 fun v47 w48 =>
 StRow w48 ⟨w.heap.size, 0, none⟩ (r5c n42 n43 n44 v45 n46) ∧
 bindW (stRow w48 ⟨w.heap.size, 0, none⟩ (r5c n42 n43 n44 v45 n46)) fun w49 =>
 ∃ n50 n51 n52 v53 n54, (ldCells w49 ⟨w.heap.size, 0, none⟩ 5 (r5c n50 n51 n52 v53 n54)) ∧
 R (.tuple #[(.agg (r5c n50 n51 n52 v53 n54)), v47]) w49)
 (CW.Spec Tryz.prog 103 #[] w39 fun v55 w56 =>
 ∃ n57 n58 n59 v60 n61, v55 = .agg (r5c n57 n58 n59 v60 n61) ∧
 StRow w56 ⟨w.heap.size, 0, none⟩ (r5c n57 n58 n59 v60 n61) ∧
 bindW (stRow w56 ⟨w.heap.size, 0, none⟩ (r5c n57 n58 n59 v60 n61)) fun w62 =>
 ∃ n63 n64 n65 v66 n67, (ldCells w62 ⟨w.heap.size, 0, none⟩ 5 (r5c n63 n64 n65 v66 n67)) ∧
 R (.tuple #[(.agg (r5c n63 n64 n65 v66 n67)), nvc]) w62))
 (fun j68 =>
 cond (p3 == 0)
 (withAddr (.pointer p0) fun a69 =>
 ∃ n70, World.cell? w37 (Addr.add a69 8) = some (.int .i64 n70) ∧
 j68 (n70 == p1) w37)
 (j68 false w37))))
 (fun j71 =>
 cond (!p4)
 (withAddr (.pointer p0) fun a72 =>
 (inR p1 8) ∧
 ∃ n73, World.cell? w2 (Addr.add (Addr.add a72 0) ((Int.toNat p1) * 1)) = some (.int .u64 n73) ∧
 j71 (n73 != p2) w2)
 (j71 false w2)))
theorem q51W (p0 p1 p2 p3 p4 w R) (h : q51F p0 p1 p2 p3 p4 w R) : CW.Spec Tryz.prog 55 #[.pointer p0, .int .i64 p1, .int .u64 p2, .int .u64 p3, .bool p4] w R :=
 sp Tryz.func55 h
def q62F (p0 : Option Addr) (p1 : Value) (w : World) (R : KV) : Prop :=
 LoopP [.int .i64]
 (fun j0 => fun (n1 : Int) => fun w2 =>
 ∃ m3, sliceLen p1 = some m3 ∧
 cond (decide (n1 < ((m3 : Nat) : Int)))
 (bindW (World.drew w2) fun w4 =>
 ∃ a5, sliceAt p1 n1 2 = some a5 ∧
 ∃ n6, World.cell? w4 (Addr.add a5 0) = some (.int .i64 n6) ∧
 ∃ a7, sliceAt p1 n1 2 = some a7 ∧
 ∃ n8, World.cell? w4 (Addr.add a7 1) = some (.int .i64 n8) ∧
 bindW (World.drew w2) fun w9 =>
 CW.Spec Tryz.prog 65 #[.pointer p0, .int .i64 n6, .int .i64 n8] w9 fun v10 w11 =>
 v10 = .tuple #[] ∧
 j0 (IntKind.wrap .i64 (n1 + 1)) w11)
 (R (.tuple #[]) w2))
 (fun s12 => s12 (0 : Int) w)
theorem q62W (p0 p1 w R) (h : q62F p0 p1 w R) : CW.Spec Tryz.prog 56 #[.pointer p0, p1] w R :=
 sp Tryz.func56 h
def q52F (p0 : Option Addr) (p1 : Int) (p2 : Int) (p3 : Int) (w : World) (R : KV) : Prop :=
 bindW (World.alloc w (.cells (r5c 0 0 0 nvc 0) 69)) fun w0 =>
 CW.Spec Tryz.prog 95 #[.int .i64 p1] w0 fun v1 w2 =>
 ∃ b3, v1 = .bool b3 ∧
 cond b3
 (CW.Spec Tryz.prog 101 #[.int .i64 9216] w2 fun v4 w5 =>
 ∃ n6 n7 n8 v9 n10, v4 = .agg (r5c n6 n7 n8 v9 n10) ∧
 StRow w5 ⟨w.heap.size, 0, none⟩ (r5c n6 n7 n8 v9 n10) ∧
 bindW (stRow w5 ⟨w.heap.size, 0, none⟩ (r5c n6 n7 n8 v9 n10)) fun w11 =>
 ∃ n12 n13 n14 v15 n16, (ldCells w11 ⟨w.heap.size, 0, none⟩ 5 (r5c n12 n13 n14 v15 n16)) ∧
 R (.agg (r5c n12 n13 n14 v15 n16)) w11)
 (CW.Spec Tryz.prog 105 #[.pointer p0, .int .i64 p1, .int .u64 p2] w2 fun v17 w18 =>
 ∃ b19, v17 = .bool b19 ∧
 cond b19
 (CW.Spec Tryz.prog 102 #[] w18 fun v20 w21 =>
 ∃ n22 n23 n24 v25 n26, v20 = .agg (r5c n22 n23 n24 v25 n26) ∧
 StRow w21 ⟨w.heap.size, 0, none⟩ (r5c n22 n23 n24 v25 n26) ∧
 bindW (stRow w21 ⟨w.heap.size, 0, none⟩ (r5c n22 n23 n24 v25 n26)) fun w27 =>
 ∃ n28 n29 n30 v31 n32, (ldCells w27 ⟨w.heap.size, 0, none⟩ 5 (r5c n28 n29 n30 v31 n32)) ∧
 R (.agg (r5c n28 n29 n30 v31 n32)) w27)
 (CW.Spec Tryz.prog 106 #[.int .i64 p3] w18 fun v33 w34 =>
 ∃ b35, v33 = .bool b35 ∧
 cond (!b35)
 (CW.Spec Tryz.prog 101 #[.int .i64 9216] w34 fun v36 w37 =>
 ∃ n38 n39 n40 v41 n42, v36 = .agg (r5c n38 n39 n40 v41 n42) ∧
 StRow w37 ⟨w.heap.size, 0, none⟩ (r5c n38 n39 n40 v41 n42) ∧
 bindW (stRow w37 ⟨w.heap.size, 0, none⟩ (r5c n38 n39 n40 v41 n42)) fun w43 =>
 ∃ n44 n45 n46 v47 n48, (ldCells w43 ⟨w.heap.size, 0, none⟩ 5 (r5c n44 n45 n46 v47 n48)) ∧
 R (.agg (r5c n44 n45 n46 v47 n48)) w43)
 (withAddr (.pointer p0) fun a49 =>
 ∃ n50, World.cell? w34 (Addr.add a49 8) = some (.int .i64 n50) ∧
 cond (decide (n50 < 0))
 (withAddr (.pointer p0) fun a51 =>
 St1 w34 (Addr.add a51 8) ∧
 bindW (World.setCell w34 (Addr.add a51 8) (.int .i64 p1)) fun w52 =>
 withAddr (.pointer p0) fun a53 =>
 St1 w52 (Addr.add a53 9) ∧
 bindW (World.setCell w52 (Addr.add a53 9) (.int .i64 p3)) fun w54 =>
 CW.Spec Tryz.prog 103 #[] w54 fun v55 w56 =>
 ∃ n57 n58 n59 v60 n61, v55 = .agg (r5c n57 n58 n59 v60 n61) ∧
 StRow w56 ⟨w.heap.size, 0, none⟩ (r5c n57 n58 n59 v60 n61) ∧
 bindW (stRow w56 ⟨w.heap.size, 0, none⟩ (r5c n57 n58 n59 v60 n61)) fun w62 =>
 ∃ n63 n64 n65 v66 n67, (ldCells w62 ⟨w.heap.size, 0, none⟩ 5 (r5c n63 n64 n65 v66 n67)) ∧
 R (.agg (r5c n63 n64 n65 v66 n67)) w62)
 (JoinP [.bool]
 (fun (b68 : Bool) => fun w69 =>
 cond b68
 (CW.Spec Tryz.prog 102 #[] w69 fun v70 w71 =>
 ∃ n72 n73 n74 v75 n76, v70 = .agg (r5c n72 n73 n74 v75 n76) ∧
 StRow w71 ⟨w.heap.size, 0, none⟩ (r5c n72 n73 n74 v75 n76) ∧
 bindW (stRow w71 ⟨w.heap.size, 0, none⟩ (r5c n72 n73 n74 v75 n76)) fun w77 =>
 ∃ n78 n79 n80 v81 n82, (ldCells w77 ⟨w.heap.size, 0, none⟩ 5 (r5c n78 n79 n80 v81 n82)) ∧
 R (.agg (r5c n78 n79 n80 v81 n82)) w77)
 (CW.Spec Tryz.prog 103 #[] w69 fun v83 w84 =>
 ∃ n85 n86 n87 v88 n89, v83 = .agg (r5c n85 n86 n87 v88 n89) ∧
 StRow w84 ⟨w.heap.size, 0, none⟩ (r5c n85 n86 n87 v88 n89) ∧
 bindW (stRow w84 ⟨w.heap.size, 0, none⟩ (r5c n85 n86 n87 v88 n89)) fun w90 =>
 ∃ n91 n92 n93 v94 n95, (ldCells w90 ⟨w.heap.size, 0, none⟩ 5 (r5c n91 n92 n93 v94 n95)) ∧
 R (.agg (r5c n91 n92 n93 v94 n95)) w90))
 (fun j96 =>
 withAddr (.pointer p0) fun a97 =>
 ∃ n98, World.cell? w34 (Addr.add a97 8) = some (.int .i64 n98) ∧
 cond (n98 != p1)
 (j96 true w34)
 (withAddr (.pointer p0) fun a99 =>
 ∃ n100, World.cell? w34 (Addr.add a99 9) = some (.int .i64 n100) ∧
 j96 (n100 != p3) w34))))))
theorem q52W (p0 p1 p2 p3 w R) (h : q52F p0 p1 p2 p3 w R) : CW.Spec Tryz.prog 57 #[.pointer p0, .int .i64 p1, .int .u64 p2, .int .i64 p3] w R :=
 sp Tryz.func57 h
def q66F (p0 : Int) (p1 : Value) (w : World) (R : KV) : Prop :=
 JoinP [.val]
 (fun v0 w1 =>
 CW.Spec Tryz.prog 34 #[nvc, (.int .u64 (IntKind.wrap .u64 p0)), .int .i64 4] w1 fun v2 w3 =>
 ∃ m4, sliceLen v0 = some m4 ∧
 CW.Spec Tryz.prog 34 #[v2, (.int .u64 (IntKind.wrap .u64 (IntKind.wrap .i64 ((8 : Int) * ((m4 : Nat) : Int))))), .int .i64 4] w3 fun v5 w6 =>
 LoopP [.val, .int .i64]
 (fun j7 v8 => fun (n9 : Int) => fun w10 =>
 ∃ m11, sliceLen v0 = some m11 ∧
 cond (decide (n9 < ((m11 : Nat) : Int)))
 (∃ a12, sliceAt v0 n9 1 = some a12 ∧
 ∃ n13, World.cell? w10 a12 = some (.int .u64 n13) ∧
 CW.Spec Tryz.prog 34 #[v8, .int .u64 n13, .int .i64 8] w10 fun v14 w15 =>
 j7 v14 (IntKind.wrap .i64 (n9 + 1)) w15)
 (R v8 w10))
 (fun s16 => s16 v5 (0 : Int) w6))
 (fun j17 =>
 ∃ m18, sliceLen p1 = some m18 ∧
 cond (decide (((m18 : Nat) : Int) > 16))
 (∃ v19, ((subSlice p1 1 none (some (.int .i64 16)) none) = (some v19)) ∧
 j17 v19 w)
 (j17 p1 w))
theorem q66W (p0 p1 w R) (h : q66F p0 p1 w R) : CW.Spec Tryz.prog 61 #[.int .u32 p0, p1] w R :=
 sp Tryz.func61 h
def q50F (p0 : Option Addr) (w : World) (R : KV) : Prop :=
 LoopP [.val, .int .i64]
 (fun j0 v1 => fun (n2 : Int) => fun w3 =>
 cond (decide (n2 < 8))
 (JoinP [.val]
 (fun v4 w5 =>
 j0 v4 (IntKind.wrap .i64 (n2 + 1)) w5)
 (fun j6 =>
 withAddr (.pointer p0) fun a7 =>
 (inR n2 8) ∧
 ∃ n8, World.cell? w3 (Addr.add (Addr.add a7 0) ((Int.toNat n2) * 1)) = some (.int .u64 n8) ∧
 cond (n8 != 0)
 (withAddr (.pointer p0) fun a9 =>
 (inR n2 8) ∧
 ∃ n10, World.cell? w3 (Addr.add (Addr.add a9 0) ((Int.toNat n2) * 1)) = some (.int .u64 n10) ∧
 bindW (World.alloc w3 (.cells #[.int .u64 n10] 62)) fun w11 =>
 ∃ v12 w13, Sem.run Tryz.prog (Builtin.append_ #[148, 148] 148 #[v1, (.slice (some ⟨w3.heap.size, 0, none⟩) 1 1)]) w11 = .ok v12 w13 ∧
 j6 v12 w13)
 (j6 v1 w3)))
 (R v1 w3))
 (fun s14 => s14 nvc (0 : Int) w)
theorem q50W (p0 w R) (h : q50F p0 w R) : CW.Spec Tryz.prog 62 #[.pointer p0] w R :=
 sp Tryz.func62 h
def q42F (p0 : Int) (w : World) (R : KV) : Prop :=
 JoinP [.bool]
 (fun (b0 : Bool) => fun w1 =>
 cond b0
 (R nvc w1)
 (∃ v2 w3, Sem.run Tryz.prog (Instr.makeSlice 33 (.int .i64 (IntKind.wrap .i64 (Int.tdiv (IntKind.wrap .i64 (p0 + 7)) (8 : Int)))) (.int .i64 (IntKind.wrap .i64 (Int.tdiv (IntKind.wrap .i64 (p0 + 7)) (8 : Int))))) w1 = .ok v2 w3 ∧
 R v2 w3))
 (fun j4 =>
 cond (decide (p0 < 1))
 (j4 true w)
 (j4 (decide (p0 > 1048576)) w))
theorem q42W (p0 w R) (h : q42F p0 w R) : CW.Spec Tryz.prog 94 #[.int .i64 p0] w R :=
 sp Tryz.func94 h
def q57F (p0 : Int) (w : World) (R : KV) : Prop :=
 JoinP [.bool]
 (fun (b0 : Bool) => fun w1 =>
 R (.bool b0) w1)
 (fun j2 =>
 cond (decide (p0 < 0))
 (j2 true w)
 (j2 (decide (p0 ≥ 8)) w))
theorem q57W (p0 w R) (h : q57F p0 w R) : CW.Spec Tryz.prog 95 #[.int .i64 p0] w R :=
 sp Tryz.func95 h
def q45F (p0 : Option Addr) (p1 : Int) (p2 : Int) (w : World) (R : KV) : Prop :=
 JoinP [.bool]
 (fun (b0 : Bool) => fun w1 =>
 R (.bool b0) w1)
 (fun j2 =>
 cond (decide (p2 ≥ 0))
 (cond (decide (p2 ≤ 32))
 (cond (decide (p1 ≥ 0))
 (withAddr (.pointer p0) fun a3 =>
 ∃ n4, World.cell? w (Addr.add a3 0) = some (.int .i64 n4) ∧
 cond (decide (p1 ≤ n4))
 (withAddr (.pointer p0) fun a5 =>
 ∃ n6, World.cell? w (Addr.add a5 0) = some (.int .i64 n6) ∧
 j2 (decide (p2 ≤ (IntKind.wrap .i64 (n6 - p1)))) w)
 (j2 false w))
 (j2 false w))
 (j2 false w))
 (j2 false w))
theorem q45W (p0 p1 p2 w R) (h : q45F p0 p1 p2 w R) : CW.Spec Tryz.prog 96 #[.pointer p0, .int .i64 p1, .int .i64 p2] w R :=
 sp Tryz.func96 h
def q46F (p0 : Option Addr) (p1 : Int) (p2 : Int) (w : World) (R : KV) : Prop :=
 CW.Spec Tryz.prog 96 #[.pointer p0, .int .i64 p1, .int .i64 p2] w fun v0 w1 =>
 ∃ b2, v0 = .bool b2 ∧
 cond (!b2)
 (R (.tuple #[nvc, .int .i64 1]) w1)
 (bindW (World.alloc w1 (.cells #[] 5)) fun w3 =>
 withAddr (.pointer p0) fun a4 =>
 ∃ v5, World.cell? w3 (Addr.add a4 1) = some v5 ∧
 ∃ v6, ((subSlice v5 1 (some (.int .i64 (IntKind.wrap .i64 (p1 * 8)))) (some (.int .i64 (IntKind.wrap .i64 ((IntKind.wrap .i64 (p1 + p2)) * 8)))) none) = (some v6)) ∧
 ∃ v7 w8, Sem.run Tryz.prog (Builtin.append_ #[33, 33] 33 #[(.slice (some ⟨w1.heap.size, 0, none⟩) 0 0), v6]) w3 = .ok v7 w8 ∧
 R (.tuple #[v7, .int .i64 0]) w8)
theorem q46W (p0 p1 p2 w R) (h : q46F p0 p1 p2 w R) : CW.Spec Tryz.prog 97 #[.pointer p0, .int .i64 p1, .int .i64 p2] w R :=
 sp Tryz.func97 h
def q47F (p0 : Option Addr) (p1 : Int) (p2 : Value) (w : World) (R : KV) : Prop :=
 ∃ m0, sliceLen p2 = some m0 ∧
 JoinP [.bool]
 (fun (b1 : Bool) => fun w2 =>
 cond b1
 (R (.int .i64 1) w2)
 (bindW (World.alloc w2 (.cells #[] 5)) fun w3 =>
 withAddr (.pointer p0) fun a4 =>
 ∃ v5, World.cell? w3 (Addr.add a4 1) = some v5 ∧
 ∃ v6 w7, Sem.run Tryz.prog (Builtin.append_ #[33, 33] 33 #[(.slice (some ⟨w2.heap.size, 0, none⟩) 0 0), v5]) w3 = .ok v6 w7 ∧
 LoopP [.int .i64]
 (fun j8 => fun (n9 : Int) => fun w10 =>
 ∃ m11, sliceLen p2 = some m11 ∧
 cond (decide (n9 < ((m11 : Nat) : Int)))
 (∃ a12, sliceAt p2 n9 1 = some a12 ∧
 ∃ n13, World.cell? w10 a12 = some (.int .u8 n13) ∧
 ∃ a14, sliceAt v6 (IntKind.wrap .i64 ((IntKind.wrap .i64 (p1 * 8)) + n9)) 1 = some a14 ∧
 St1 w10 a14 ∧
 bindW (World.setCell w10 a14 (.int .u8 n13)) fun w15 =>
 j8 (IntKind.wrap .i64 (n9 + 1)) w15)
 (withAddr (.pointer p0) fun a16 =>
 oneK v6 ((St1 w10 (Addr.add a16 1)) ∧
 bindW (World.setCell w10 (Addr.add a16 1) v6) fun w17 =>
 withAddr (.pointer p0) fun a18 =>
 ∃ v19, World.cell? w17 (Addr.add a18 2) = some v19 ∧
 CW.Spec Tryz.prog 142 #[v19, .int .i64 p1, (.int .i64 (IntKind.wrap .i64 (Int.tdiv ((m0 : Nat) : Int) (8 : Int)))), .bool true] w17 fun v20 w21 =>
 ∃ v22 n23, v20 = .tuple #[v22, .int .i64 n23] ∧
 withAddr (.pointer p0) fun a24 =>
 oneK v22 ((St1 w21 (Addr.add a24 2)) ∧
 bindW (World.setCell w21 (Addr.add a24 2) v22) fun w25 =>
 R (.int .i64 0) w25))))
 (fun s26 => s26 (0 : Int) w7)))
 (fun j27 =>
 ∃ m28, sliceLen p2 = some m28 ∧
 cond ((Int.tmod ((m28 : Nat) : Int) (8 : Int)) != 0)
 (j27 true w)
 (CW.Spec Tryz.prog 96 #[.pointer p0, .int .i64 p1, (.int .i64 (IntKind.wrap .i64 (Int.tdiv ((m0 : Nat) : Int) (8 : Int))))] w fun v29 w30 =>
 ∃ b31, v29 = .bool b31 ∧
 j27 (!b31) w30))
theorem q47W (p0 p1 p2 w R) (h : q47F p0 p1 p2 w R) : CW.Spec Tryz.prog 98 #[.pointer p0, .int .i64 p1, p2] w R :=
 sp Tryz.func98 h
def q58F (p0 : Int) (w : World) (R : KV) : Prop :=
 bindW (World.alloc w (.cells (r5c 0 0 0 nvc 0) 69)) fun w0 =>
 StRow w0 ⟨w.heap.size, 0, none⟩ (r5c 2 5 p0 nvc 0) ∧
 bindW (stRow w0 ⟨w.heap.size, 0, none⟩ (r5c 2 5 p0 nvc 0)) fun w1 =>
 ∃ n2 n3 n4 v5 n6, (ldCells w1 ⟨w.heap.size, 0, none⟩ 5 (r5c n2 n3 n4 v5 n6)) ∧
 R (.agg (r5c n2 n3 n4 v5 n6)) w1
theorem q58W (p0 w R) (h : q58F p0 w R) : CW.Spec Tryz.prog 101 #[.int .i64 p0] w R :=
 sp Tryz.func101 h
def q54F  (w : World) (R : KV) : Prop :=
 bindW (World.alloc w (.cells (r5c 0 0 0 nvc 0) 69)) fun w0 =>
 StRow w0 ⟨w.heap.size, 0, none⟩ (r5c 24 0 0 nvc 0) ∧
 bindW (stRow w0 ⟨w.heap.size, 0, none⟩ (r5c 24 0 0 nvc 0)) fun w1 =>
 ∃ n2 n3 n4 v5 n6, (ldCells w1 ⟨w.heap.size, 0, none⟩ 5 (r5c n2 n3 n4 v5 n6)) ∧
 R (.agg (r5c n2 n3 n4 v5 n6)) w1
theorem q54W  (w : World) (R : KV) (h : q54F  w R) : CW.Spec Tryz.prog 102 #[] w R :=
 sp Tryz.func102 h
def q55F  (w : World) (R : KV) : Prop :=
 bindW (World.alloc w (.cells (r5c 0 0 0 nvc 0) 69)) fun w0 =>
 StRow w0 ⟨w.heap.size, 0, none⟩ (r5c 0 0 0 nvc 0) ∧
 bindW (stRow w0 ⟨w.heap.size, 0, none⟩ (r5c 0 0 0 nvc 0)) fun w1 =>
 ∃ n2 n3 n4 v5 n6, (ldCells w1 ⟨w.heap.size, 0, none⟩ 5 (r5c n2 n3 n4 v5 n6)) ∧
 R (.agg (r5c n2 n3 n4 v5 n6)) w1
theorem q55W  (w : World) (R : KV) (h : q55F  w R) : CW.Spec Tryz.prog 103 #[] w R :=
 sp Tryz.func103 h
def q53F (p0 : Option Addr) (p1 : Int) (p2 : Int) (w : World) (R : KV) : Prop :=
 JoinP [.bool]
 (fun (b0 : Bool) => fun w1 =>
 R (.bool b0) w1)
 (fun j2 =>
 withAddr (.pointer p0) fun a3 =>
 (inR p1 8) ∧
 ∃ n4, World.cell? w (Addr.add (Addr.add a3 0) ((Int.toNat p1) * 1)) = some (.int .u64 n4) ∧
 cond (n4 == 0)
 (j2 true w)
 (withAddr (.pointer p0) fun a5 =>
 (inR p1 8) ∧
 ∃ n6, World.cell? w (Addr.add (Addr.add a5 0) ((Int.toNat p1) * 1)) = some (.int .u64 n6) ∧
 j2 (n6 != p2) w))
theorem q53W (p0 p1 p2 w R) (h : q53F p0 p1 p2 w R) : CW.Spec Tryz.prog 105 #[.pointer p0, .int .i64 p1, .int .u64 p2] w R :=
 sp Tryz.func105 h
def q56F (p0 : Int) (w : World) (R : KV) : Prop :=
 JoinP [.bool]
 (fun (b0 : Bool) => fun w1 =>
 R (.bool b0) w1)
 (fun j2 =>
 cond (p0 == 1)
 (j2 true w)
 (cond (p0 == 3)
 (j2 true w)
 (cond (p0 == 5)
 (j2 true w)
 (j2 (p0 == 6) w))))
theorem q56W (p0 w R) (h : q56F p0 w R) : CW.Spec Tryz.prog 106 #[.int .i64 p0] w R :=
 sp Tryz.func106 h
def q43F (p0 : Value) (p1 : Int) (p2 : Int) (p3 : Bool) (w : World) (R : KV) : Prop :=
 bindW (World.alloc w (.cells #[] 5)) fun w0 =>
 ∃ v1 w2, Sem.run Tryz.prog (Builtin.append_ #[33, 33] 33 #[(.slice (some ⟨w.heap.size, 0, none⟩) 0 0), p0]) w0 = .ok v1 w2 ∧
 JoinP [.bool]
 (fun (b3 : Bool) => fun w4 =>
 cond b3
 (R (.tuple #[v1, .int .i64 0]) w4)
 (LoopP [.int .i64, .int .i64]
 (fun j5 => fun (n6 : Int) => fun (n7 : Int) => fun w8 =>
 JoinP [.bool]
 (fun (b9 : Bool) => fun w10 =>
 cond b9
 (JoinP [.int .i64]
 (fun (n11 : Int) => fun w12 =>
 j5 n11 (IntKind.wrap .i64 (n7 + 1)) w12)
 (fun j13 =>
 CW.Spec Tryz.prog 184 #[v1, .int .i64 n7] w10 fun v14 w15 =>
 ∃ b16, v14 = .bool b16 ∧
 cond (!(b16 == p3))
 (∃ a17, sliceAt v1 (IntKind.wrap .i64 (Int.tdiv n7 (8 : Int))) 1 = some a17 ∧
 ∃ n18, World.cell? w15 a17 = some (.int .u8 n18) ∧
 leK (IntKind.wrap .u64 (Int.tmod n7 (8 : Int))) (∃ a19, sliceAt v1 (IntKind.wrap .i64 (Int.tdiv n7 (8 : Int))) 1 = some a19 ∧
 St1 w15 a19 ∧
 bindW (World.setCell w15 a19 (.int .u8 (bitsI .xor .u8 n18 (IntKind.wrap .u8 ((1 : Int) * ((2 : Int) ^ (min (Int.toNat (IntKind.wrap .u64 (Int.tmod n7 (8 : Int)))) 8))))))) fun w20 =>
 j13 (IntKind.wrap .i64 (n6 + 1)) w20))
 (j13 n6 w15)))
 (R (.tuple #[v1, .int .i64 n6]) w10))
 (fun j21 =>
 ∃ m22, sliceLen v1 = some m22 ∧
 cond (decide (n7 < (IntKind.wrap .i64 ((8 : Int) * ((m22 : Nat) : Int)))))
 (j21 (decide ((IntKind.wrap .i64 (n7 - p1)) < p2)) w8)
 (j21 false w8)))
 (fun s23 => s23 (0 : Int) p1 w4)))
 (fun j24 =>
 cond (decide (p1 < 0))
 (j24 true w2)
 (j24 (decide (p2 < 1)) w2))
theorem q43W (p0 p1 p2 p3 w R) (h : q43F p0 p1 p2 p3 w R) : CW.Spec Tryz.prog 142 #[p0, .int .i64 p1, .int .i64 p2, .bool p3] w R :=
 sp Tryz.func142 h
def q41F (p0 : Value) (p1 : Int) (w : World) (R : KV) : Prop :=
 JoinP [.bool]
 (fun (b0 : Bool) => fun w1 =>
 R (.bool b0) w1)
 (fun j2 =>
 cond (decide (p1 ≥ 0))
 (∃ m3, sliceLen p0 = some m3 ∧
 cond (decide ((IntKind.wrap .i64 (Int.tdiv p1 (8 : Int))) < ((m3 : Nat) : Int)))
 (∃ a4, sliceAt p0 (IntKind.wrap .i64 (Int.tdiv p1 (8 : Int))) 1 = some a4 ∧
 ∃ n5, World.cell? w a4 = some (.int .u8 n5) ∧
 leK (IntKind.wrap .u64 (Int.tmod p1 (8 : Int))) (j2 ((bitsI .and .u8 (Int.fdiv n5 ((2 : Int) ^ (min (Int.toNat (IntKind.wrap .u64 (Int.tmod p1 (8 : Int)))) 8))) (1 : Int)) == 1) w))
 (j2 false w))
 (j2 false w))
theorem q41W (p0 p1 w R) (h : q41F p0 p1 w R) : CW.Spec Tryz.prog 184 #[p0, .int .i64 p1] w R :=
 sp Tryz.func184 h
end
section
open Go Go.CW
def q36F (p0 : Int) (p1 : Int) (p2 : Value) (w : World) (R : KV) : Prop :=
 CW.Spec Tryz.prog 15 #[] w fun v0 w1 =>
 ∃ b2, v0 = .bool b2 ∧
 cond (!b2)
 (R (.bool false) w1)
 (JoinP [.bool]
 (fun (b3 : Bool) => fun w4 =>
 cond b3
 (R (.bool true) w4)
 (bindW (World.alloc w4 (.cells #[.int .i64 1, .int .i64 3, .int .i64 5, .int .i64 6] 3)) fun w5 =>
 ∃ a6, sliceAt (.slice (some ⟨w4.heap.size, 0, none⟩) 4 4) (bitsI .and .u8 p1 (3 : Int)) 1 = some a6 ∧
 ∃ n7, World.cell? w5 a6 = some (.int .i64 n7) ∧
 CW.Spec Tryz.prog 17 #[(.string (ByteArray.mk #[105, 113, 110, 46, 97])), .int .i64 1000, .bool true] w5 fun v8 w9 =>
 ∃ s10 n11 n12 b13 b14, v8 = .agg #[(.string s10), .int .i64 n11, .int .i64 n12, .bool b13, .bool b14] ∧
 CW.Spec Tryz.prog 16 #[(.agg #[(.string s10), .int .i64 n11, .int .i64 n12, .bool b13, .bool b14])] w9 fun v15 w16 =>
 ∃ o17, v15 = .pointer o17 ∧
 withAddr (.pointer o17) fun a18 =>
 ∃ o19, World.cell? w16 (Addr.add a18 0) = some (.pointer o19) ∧
 CW.Spec Tryz.prog 18 #[.pointer o19, (.agg (r8c 10 0 0 nvc 0 p0 0 false))] w16 fun v20 w21 =>
 ∃ n22 n23, v20 = .tuple #[.int .u32 n22, .int .i64 n23] ∧
 CW.Spec Tryz.prog 19 #[.pointer o17, .int .i64 10, .int .i64 1000] w21 fun v24 w25 =>
 v24 = .tuple #[] ∧
 withAddr (.pointer o17) fun a26 =>
 ∃ o27, World.cell? w25 (Addr.add a26 0) = some (.pointer o27) ∧
 CW.Spec Tryz.prog 18 #[.pointer o27, (.agg (r8c 12 0 0 nvc p0 0 n7 false))] w25 fun v28 w29 =>
 ∃ n30 n31, v28 = .tuple #[.int .u32 n30, .int .i64 n31] ∧
 CW.Spec Tryz.prog 19 #[.pointer o17, .int .i64 10, .int .i64 1000] w29 fun v32 w33 =>
 v32 = .tuple #[] ∧
 withAddr (.pointer o17) fun a34 =>
 ∃ o35, World.cell? w33 (Addr.add a34 0) = some (.pointer o35) ∧
 CW.Spec Tryz.prog 18 #[.pointer o35, (.agg (r8c 16 0 0 nvc 0 0 0 false))] w33 fun v36 w37 =>
 ∃ n38 n39, v36 = .tuple #[.int .u32 n38, .int .i64 n39] ∧
 CW.Spec Tryz.prog 19 #[.pointer o17, .int .i64 10, .int .i64 1000] w37 fun v40 w41 =>
 v40 = .tuple #[] ∧
 withAddr (.pointer o17) fun a42 =>
 ∃ o43, World.cell? w41 (Addr.add a42 0) = some (.pointer o43) ∧
 CW.Spec Tryz.prog 20 #[.pointer o43] w41 fun v44 w45 =>
 withAddr (.pointer o17) fun a46 =>
 ∃ o47, World.cell? w45 (Addr.add a46 2) = some (.pointer o47) ∧
 oneK p2 (CW.Spec Tryz.prog 11 #[.pointer o47, (.string (ByteArray.mk #[105, 113, 110, 46, 98, 99])), (.agg (r8c 3 0 1 p2 0 0 0 false))] w45 fun v48 w49 =>
 ∃ n50 n51 n52 v53 n54, v48 = .agg (r5c n50 n51 n52 v53 n54) ∧
 bindW (World.alloc w49 (.cells (r5c 0 0 0 nvc 0) 69)) fun w55 =>
 StRow w55 ⟨w49.heap.size, 0, none⟩ (r5c n50 n51 n52 v53 n54) ∧
 bindW (stRow w55 ⟨w49.heap.size, 0, none⟩ (r5c n50 n51 n52 v53 n54)) fun w56 =>
 JoinP [.bool]
 (fun (b57 : Bool) => fun w58 =>
 cond b57
 (R (.bool false) w58)
 (CW.Spec Tryz.prog 21 #[.int .i64 1] w58 fun v59 w60 =>
 ∃ o61 n62, v59 = .tuple #[.pointer o61, .int .i64 n62] ∧
 CW.Spec Tryz.prog 22 #[.pointer o61, .int .i64 0, (.agg (r8c 10 0 0 nvc 0 p0 0 false))] w60 fun v63 w64 =>
 ∃ n65 n66 n67 v68 n69, v63 = .agg (r5c n65 n66 n67 v68 n69) ∧
 bindW (World.drew w64) fun w70 =>
 ∃ a71, sliceAt v44 (2 : Int) 6 = some a71 ∧
 ∃ v72, World.cell? w70 (Addr.add (Addr.add a71 1) 3) = some v72 ∧
 ∃ s73, ((Sem.run Tryz.prog (Go.convert 33 9 v72) w70) = (.ok (.string s73) w70)) ∧
 bindW (World.drew w64) fun w74 =>
 CW.Spec Tryz.prog 22 #[.pointer o61, .int .i64 0, (.agg (r8c 16 0 0 nvc 0 0 0 false))] w74 fun v75 w76 =>
 ∃ n77 n78 n79 v80 n81, v75 = .agg (r5c n77 n78 n79 v80 n81) ∧
 (∃ v82, World.cell? w76 (Addr.add (Addr.add a71 1) 3) = some v82 ∧
 (v82 : Value) = v72) ∧
 (∃ s83, ((Sem.run Tryz.prog (Go.convert 33 9 v72) w76) = (.ok (.string s83) w76)) ∧
 ((.string s83) : Value) = (.string s73)) ∧
 ∃ s84, ((Sem.run Tryz.prog (Go.convert 33 9 v80) w76) = (.ok (.string s84) w76)) ∧
 R (.bool (ByteArray.toList s73 == ByteArray.toList s84)) w76))
 (fun j85 =>
 bindW (World.drew w56) fun w86 =>
 ∃ m87, sliceLen v44 = some m87 ∧
 cond (((m87 : Nat) : Int) != 3)
 (bindW (World.drew w56) fun w88 =>
 j85 true w88)
 (∃ a89, sliceAt v44 (0 : Int) 6 = some a89 ∧
 ∃ n90, World.cell? w86 (Addr.add (Addr.add a89 1) 0) = some (.int .i64 n90) ∧
 ∃ a91, sliceAt v44 (1 : Int) 6 = some a91 ∧
 ∃ n92, World.cell? w86 (Addr.add (Addr.add a91 1) 0) = some (.int .i64 n92) ∧
 ∃ a93, sliceAt v44 (2 : Int) 6 = some a93 ∧
 ∃ n94, World.cell? w86 (Addr.add (Addr.add a93 1) 0) = some (.int .i64 n94) ∧
 cond ((IntKind.wrap .i64 ((IntKind.wrap .i64 (n90 + n92)) + n94)) != 0)
 (bindW (World.drew w56) fun w95 =>
 j85 true w95)
 (∃ n96, World.cell? w86 (Addr.add ⟨w49.heap.size, 0, none⟩ 0) = some (.int .i64 n96) ∧
 cond (n96 != 24)
 (bindW (World.drew w56) fun w97 =>
 j85 true w97)
 (withAddr (.pointer o17) fun a98 =>
 ∃ o99, World.cell? w86 (Addr.add a98 2) = some (.pointer o99) ∧
 withAddr (.pointer o99) fun a100 =>
 ∃ o101, World.cell? w86 (Addr.add a100 0) = some (.pointer o101) ∧
 withAddr (.pointer o101) fun a102 =>
 ∃ o103, World.cell? w86 (Addr.add a102 1) = some (.pointer o103) ∧
 withAddr (.pointer o103) fun a104 =>
 ∃ n105, World.cell? w86 (Addr.add a104 9) = some (.int .i64 n105) ∧
 bindW (World.drew w56) fun w106 =>
 j85 (n105 != n7) w106)))))))
 (fun j107 =>
 cond (p0 == 0)
 (j107 true w1)
 (∃ m108, sliceLen p2 = some m108 ∧
 j107 (((m108 : Nat) : Int) != 8) w1)))
theorem q36W (p0 p1 p2 w R) (h : q36F p0 p1 p2 w R) : CW.Spec Tryz.prog 5 #[.int .u64 p0, .int .u8 p1, p2] w R :=
 sp Tryz.func5 h
def q37F  (w : World) (R : KV) : Prop :=
 CW.Spec Tryz.prog 17 #[(.string (ByteArray.mk #[105, 113, 110, 46, 97])), .int .i64 1024, .bool true] w fun v0 w1 =>
 ∃ s2 n3 n4 b5 b6, v0 = .agg #[(.string s2), .int .i64 n3, .int .i64 n4, .bool b5, .bool b6] ∧
 CW.Spec Tryz.prog 16 #[(.agg #[(.string s2), .int .i64 n3, .int .i64 n4, .bool b5, .bool b6])] w1 fun v7 w8 =>
 ∃ o9, v7 = .pointer o9 ∧
 JoinP [.bool]
 (fun (b10 : Bool) => fun w11 =>
 cond b10
 (R (.bool false) w11)
 (withAddr (.pointer o9) fun a12 =>
 ∃ o13, World.cell? w11 (Addr.add a12 0) = some (.pointer o13) ∧
 CW.Spec Tryz.prog 18 #[.pointer o13, (.agg (r8c 2 0 1 nvc 0 0 0 false))] w11 fun v14 w15 =>
 ∃ n16 n17, v14 = .tuple #[.int .u32 n16, .int .i64 n17] ∧
 CW.Spec Tryz.prog 19 #[.pointer o9, .int .i64 30, .int .i64 1000] w15 fun v18 w19 =>
 v18 = .tuple #[] ∧
 withAddr (.pointer o9) fun a20 =>
 ∃ o21, World.cell? w19 (Addr.add a20 0) = some (.pointer o21) ∧
 CW.Spec Tryz.prog 20 #[.pointer o21] w19 fun v22 w23 =>
 JoinP [.bool]
 (fun (b24 : Bool) => fun w25 =>
 R (.bool b24) w25)
 (fun j26 =>
 cond (n17 == 0)
 (∃ m27, sliceLen v22 = some m27 ∧
 cond (((m27 : Nat) : Int) == 1)
 (∃ a28, sliceAt v22 (0 : Int) 6 = some a28 ∧
 ∃ n29, World.cell? w23 (Addr.add a28 0) = some (.int .u32 n29) ∧
 cond (n29 == n16)
 (∃ a30, sliceAt v22 (0 : Int) 6 = some a30 ∧
 ∃ v31, World.cell? w23 (Addr.add (Addr.add a30 1) 3) = some v31 ∧
 ∃ m32, sliceLen v31 = some m32 ∧
 cond (((m32 : Nat) : Int) == 8)
 (withAddr (.pointer o9) fun a33 =>
 ∃ o34, World.cell? w23 (Addr.add a33 0) = some (.pointer o34) ∧
 CW.Spec Tryz.prog 38 #[.pointer o34] w23 fun v35 w36 =>
 ∃ b37, v35 = .bool b37 ∧
 cond b37
 (withAddr (.pointer o9) fun a38 =>
 ∃ o39, World.cell? w36 (Addr.add a38 0) = some (.pointer o39) ∧
 CW.Spec Tryz.prog 39 #[.pointer o39] w36 fun v40 w41 =>
 ∃ n42, v40 = .int .i64 n42 ∧
 j26 (n42 == 0) w41)
 (j26 false w36))
 (j26 false w23))
 (j26 false w23))
 (j26 false w23))
 (j26 false w23))))
 (fun j43 =>
 withAddr (.pointer o9) fun a44 =>
 ∃ o45, World.cell? w8 (Addr.add a44 0) = some (.pointer o45) ∧
 ∃ b46, ((Go.CW.isNilP (.pointer o45)) = (some b46)) ∧
 cond b46
 (j43 true w8)
 (withAddr (.pointer o9) fun a47 =>
 ∃ o48, World.cell? w8 (Addr.add a47 1) = some (.pointer o48) ∧
 ∃ b49, ((Go.CW.isNilP (.pointer o48)) = (some b49)) ∧
 j43 b49 w8))
theorem q37W  (w : World) (R : KV) (h : q37F  w R) : CW.Spec Tryz.prog 15 #[] w R :=
 sp Tryz.func15 h
def q38F (p0_0 : ByteArray) (p0_1 : Int) (p0_2 : Int) (p0_3 : Bool) (p0_4 : Bool) (w : World) (R : KV) : Prop :=
 bindW (World.alloc w (.cells #[(.string p0_0), .int .i64 p0_1, .int .i64 p0_2, .bool p0_3, .bool p0_4] 54)) fun w0 =>
 CW.Spec Tryz.prog 21 #[.int .i64 64] w0 fun v1 w2 =>
 ∃ o3 n4, v1 = .tuple #[.pointer o3, .int .i64 n4] ∧
 bindW (World.alloc w2 (.cells #[.pointer o3] 86)) fun w5 =>
 ∃ s6 n7 n8 b9 b10, (ldCells w5 ⟨w.heap.size, 0, none⟩ 5 #[(.string s6), .int .i64 n7, .int .i64 n8, .bool b9, .bool b10]) ∧
 CW.Spec Tryz.prog 40 #[(.agg #[(.string s6), .int .i64 n7, .int .i64 n8, .bool b9, .bool b10])] w5 fun v11 w12 =>
 ∃ o13, v11 = .pointer o13 ∧
 CW.Spec Tryz.prog 9 #[] w12 fun v14 w15 =>
 CW.Spec Tryz.prog 8 #[v14, (.func (.func 11) #[(.pointer (some ⟨w2.heap.size, 0, none⟩))] #[])] w15 fun v16 w17 =>
 ∃ o18, v16 = .pointer o18 ∧
 bindW (World.alloc w17 (.cells #[.pointer o13, .pointer o18, (.pointer (some ⟨w2.heap.size, 0, none⟩))] 60)) fun w19 =>
 R (.pointer (some ⟨w17.heap.size, 0, none⟩)) w19
theorem q38W (p0_0 p0_1 p0_2 p0_3 p0_4 w R) (h : q38F p0_0 p0_1 p0_2 p0_3 p0_4 w R) : CW.Spec Tryz.prog 16 #[(.agg #[(.string p0_0), .int .i64 p0_1, .int .i64 p0_2, .bool p0_3, .bool p0_4])] w R :=
 sp Tryz.func16 h
def q39F (p0 : ByteArray) (p1 : Int) (p2 : Bool) (w : World) (R : KV) : Prop :=
 bindW (World.alloc w (.cells #[(.string (ByteArray.mk #[])), .int .i64 0, .int .i64 0, .bool false, .bool false] 54)) fun w0 =>
 StRow w0 ⟨w.heap.size, 0, none⟩ #[(.string p0), .int .i64 512, .int .i64 p1, .bool p2, .bool true] ∧
 bindW (stRow w0 ⟨w.heap.size, 0, none⟩ #[(.string p0), .int .i64 512, .int .i64 p1, .bool p2, .bool true]) fun w1 =>
 ∃ s2 n3 n4 b5 b6, (ldCells w1 ⟨w.heap.size, 0, none⟩ 5 #[(.string s2), .int .i64 n3, .int .i64 n4, .bool b5, .bool b6]) ∧
 R (.agg #[(.string s2), .int .i64 n3, .int .i64 n4, .bool b5, .bool b6]) w1
theorem q39W (p0 p1 p2 w R) (h : q39F p0 p1 p2 w R) : CW.Spec Tryz.prog 17 #[(.string p0), .int .i64 p1, .bool p2] w R :=
 sp Tryz.func17 h
def q40F (p0 : Option Addr) (p1 : Int) (p2 : Int) (w : World) (R : KV) : Prop :=
 LoopP [.int .i64]
 (fun j0 => fun (n1 : Int) => fun w2 =>
 cond (decide (n1 < p1))
 (withAddr (.pointer p0) fun a3 =>
 ∃ o4, World.cell? w2 (Addr.add a3 0) = some (.pointer o4) ∧
 CW.Spec Tryz.prog 43 #[.pointer o4] w2 fun v5 w6 =>
 LoopP [.val]
 (fun j7 v8 => fun w9 =>
 ∃ m10, sliceLen v8 = some m10 ∧
 cond (decide (((m10 : Nat) : Int) > 0))
 (∃ m11, sliceLen v8 = some m11 ∧
 JoinP [.int .i64]
 (fun (n12 : Int) => fun w13 =>
 bindW (World.drew w13) fun w14 =>
 withAddr (.pointer p0) fun a15 =>
 ∃ o16, World.cell? w14 (Addr.add a15 0) = some (.pointer o16) ∧
 withAddr (.pointer p0) fun a17 =>
 ∃ o18, World.cell? w14 (Addr.add a17 1) = some (.pointer o18) ∧
 ∃ v19, ((subSlice v8 1 none (some (.int .i64 n12)) none) = (some v19)) ∧
 bindW (World.drew w13) fun w20 =>
 CW.Spec Tryz.prog 23 #[.pointer o18, v19] w20 fun v21 w22 =>
 (∃ o23, World.cell? w22 (Addr.add a15 0) = some (.pointer o23) ∧
 ((.pointer o23) : Value) = (.pointer o16)) ∧
 CW.Spec Tryz.prog 44 #[.pointer o16, v21] w22 fun v24 w25 =>
 v24 = .tuple #[] ∧
 ∃ v26, ((subSlice v8 1 (some (.int .i64 n12)) none none) = (some v26)) ∧
 j7 v26 w25)
 (fun j27 =>
 cond (decide (p2 < ((m11 : Nat) : Int)))
 (j27 p2 w9)
 (j27 ((m11 : Nat) : Int) w9)))
 (j0 (IntKind.wrap .i64 (n1 + 1)) w9))
 (fun s28 => s28 v5 w6))
 (R (.tuple #[]) w2))
 (fun s29 => s29 (0 : Int) w)
theorem q40W (p0 p1 p2 w R) (h : q40F p0 p1 p2 w R) : CW.Spec Tryz.prog 19 #[.pointer p0, .int .i64 p1, .int .i64 p2] w R :=
 sp Tryz.func19 h
def q35F  (w : World) (R : KV) : Prop :=
 bindW (World.alloc w (.cells #[(.string (ByteArray.mk #[105, 113, 110, 46, 97])), (.string (ByteArray.mk #[105, 113, 110, 46, 98, 99]))] 9)) fun w0 =>
 R (.slice (some ⟨w.heap.size, 0, none⟩) 2 2) w0
theorem q35W  (w : World) (R : KV) (h : q35F  w R) : CW.Spec Tryz.prog 9 #[] w R :=
 sp Tryz.func9 h
end
end Go.Proofs.YtdinpgnjnleioaaGreatDoor
