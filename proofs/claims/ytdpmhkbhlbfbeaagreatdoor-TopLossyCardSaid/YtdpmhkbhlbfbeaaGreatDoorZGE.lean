/- A part of the proof. -/
import Derived.Test.YtdpmhkbhlbfbeaaGreatDoorZGA
import Derived.Test.YtdpmhkbhlbfbeaaGreatDoorZGF
set_option linter.unusedVariables false
set_option maxRecDepth 100000
namespace Go.Proofs.YtdpmhkbhlbfbeaaGreatDoor
section
open CW
def q104F (a:Option Addr) (b c d:Int) (e:Bool) (w:World) (R:KV):Prop:=
 bindW (World.alloc w (.cells (r5c 0 0 0 nvc 0) 49)) λw0=>Zs 100 #[V6 b] w0 λv1 w2=>∃b3,v1= .bool b3/\cond (!b3) (Zs 152 #[] w2 λv4 w5=>∃n6 n7 n8 v9 n10,v4= .agg (r5c n6 n7 n8 v9 n10)/\sR w5 (nw w) (r5c n6 n7 n8 v9 n10) λw11=>∃n12 n13 n14 v15 n16,(ldCells w11 (nw w) 5 (r5c n12 n13 n14 v15 n16))/\R (.tuple #[(.agg (r5c n12 n13 n14 v15 n16)),nvc]) w11) (JoinP [.bool] (λ(b17:Bool)=>λw18=>cond b17 (Zs 153 #[] w18 λv19 w20=>∃n21 n22 n23 v24 n25,v19= .agg (r5c n21 n22 n23 v24 n25)/\sR w20 (nw w) (r5c n21 n22 n23 v24 n25) λw26=>
 ∃n27 n28 n29 v30 n31,(ldCells w26 (nw w) 5 (r5c n27 n28 n29 v30 n31))/\R (.tuple #[(.agg (r5c n27 n28 n29 v30 n31)),nvc]) w26) (wA a λa32=>∃n33,cI .u32 w18 (Addr.add a32 10) n33/\wA a λa34=>sC w18 (Addr.add a34 10) (V3 (IntKind.wrap .u32 (n33+1))) λw35=>JoinP [.val] (λv36 w37=>wA a λa38=>(inR b 8)/\sC w37 (Addr.add (Addr.add a38 0) ((Int.toNat b)*1)) (V7 d) λw39=>Zs 155 #[] w39 λv40 w41=>∃n42 n43 n44 v45 n46,v40= .agg (r5c n42 n43 n44 v45 n46)/\sR w41 (nw w) (r5c n42 n43 n44 v45 n46) λw47=>
 ∃n48 n49 n50 v51 n52,(ldCells w47 (nw w) 5 (r5c n48 n49 n50 v51 n52))/\R (.tuple #[(.agg (r5c n48 n49 n50 v51 n52)),v36]) w47) (λj53=>JoinP [.bool] (λ(b54:Bool)=>λw55=>cond b54 (Zs 154 #[.pointer a,V6 b] w55 λv56 w57=>j53 v56 w57) (j53 nvc w55)) (λj58=>cond (d==0) (wA a λa59=>∃n60,cI .i64 w35 (Addr.add a59 8) n60/\j58 (n60==b) w35) (j58 false w35))))) (λj61=>cond (!e) (wA a λa62=>(inR b 8)/\∃n63,cI .u64 w2 (Addr.add (Addr.add a62 0) ((Int.toNat b)*1)) n63/\j61 (c !=n63) w2) (j61 false w2)))
theorem q104W (a b c d e w R) (h:q104F a b c d e w R):Zs 106 #[.pointer a,V6 b,V7 c,V7 d,.bool e] w R:=
 sp Tryz.func106 h
def q105F (a:Option Addr) (b c d:Int) (w:World) (R:KV):Prop:=
 bindW (World.alloc w (.cells (r5c 0 0 0 nvc 0) 49)) λw0=>Zs 156 #[.pointer a,V6 b,V7 c] w0 λv1 w2=>∃n3 n4 n5 v6 n7 b8,v1= .tuple #[(.agg (r5c n3 n4 n5 v6 n7)),.bool b8]/\al w2 (r5c 0 0 0 nvc 0) 49 λw9=>sR w9 (nw w2) (r5c n3 n4 n5 v6 n7) λw10=>cond (!b8) (∃n11 n12 n13 v14 n15,(ldCells w10 (nw w2) 5 (r5c n11 n12 n13 v14 n15))/\sR w10 (nw w) (r5c n11 n12 n13 v14 n15) λw16=>∃n17 n18 n19 v20 n21,(ldCells w16 (nw w) 5 (r5c n17 n18 n19 v20 n21))/\R (.agg (r5c n17 n18 n19 v20 n21)) w16) (Zs 157 #[V6 d] w10 λv22 w23=>∃b24,v22= .bool b24/\cond (!b24)
 (Zs 152 #[] w23 λv25 w26=>∃n27 n28 n29 v30 n31,v25= .agg (r5c n27 n28 n29 v30 n31)/\sR w26 (nw w) (r5c n27 n28 n29 v30 n31) λw32=>∃n33 n34 n35 v36 n37,(ldCells w32 (nw w) 5 (r5c n33 n34 n35 v36 n37))/\R (.agg (r5c n33 n34 n35 v36 n37)) w32) (wA a λa38=>∃n39,cI .i64 w23 (Addr.add a38 8) n39/\cond (n39==(-1:Int)) (wA a λa40=>sC w23 (Addr.add a40 8) (V6 b) λw41=>wA a λa42=>sC w41 (Addr.add a42 9) (V6 d) λw43=>Zs 155 #[] w43 λv44 w45=>∃n46 n47 n48 v49 n50,v44= .agg (r5c n46 n47 n48 v49 n50)/\sR w45 (nw w) (r5c n46 n47 n48 v49 n50) λw51=>
 ∃n52 n53 n54 v55 n56,(ldCells w51 (nw w) 5 (r5c n52 n53 n54 v55 n56))/\R (.agg (r5c n52 n53 n54 v55 n56)) w51) (JoinP [.bool] (λ(b57:Bool)=>λw58=>cond b57 (Zs 155 #[] w58 λv59 w60=>∃n61 n62 n63 v64 n65,v59= .agg (r5c n61 n62 n63 v64 n65)/\sR w60 (nw w) (r5c n61 n62 n63 v64 n65) λw66=>∃n67 n68 n69 v70 n71,(ldCells w66 (nw w) 5 (r5c n67 n68 n69 v70 n71))/\R (.agg (r5c n67 n68 n69 v70 n71)) w66) (Zs 153 #[] w58 λv72 w73=>∃n74 n75 n76 v77 n78,v72= .agg (r5c n74 n75 n76 v77 n78)/\sR w73 (nw w) (r5c n74 n75 n76 v77 n78) λw79=>
 ∃n80 n81 n82 v83 n84,(ldCells w79 (nw w) 5 (r5c n80 n81 n82 v83 n84))/\R (.agg (r5c n80 n81 n82 v83 n84)) w79)) (λj85=>wA a λa86=>∃n87,cI .i64 w23 (Addr.add a86 8) n87/\cond (n87==b) (wA a λa88=>∃n89,cI .i64 w23 (Addr.add a88 9) n89/\j85 (n89==d) w23) (j85 false w23)))))
theorem q105W (a b c d w R) (h:q105F a b c d w R):Zs 107 #[.pointer a,V6 b,V7 c,V6 d] w R:=
 sp Tryz.func107 h
def q100F (a:Option Addr) (w:World) (R:KV):Prop:=
 withAddr (.pointer a) λa0=>∃n1,cI .u32 w (Addr.add a0 10) n1/\R (V3 n1) w
theorem q100W (a w R) (h:q100F a w R):Zs 112 #[.pointer a] w R:=
 sp Tryz.func112 h
def q102F (a:Option Addr) (b:Int) (w:World) (R:KV):Prop:=
 Zs 100 #[V6 b] w λv0 w1=>∃b2,v0= .bool b2/\cond (!b2) (R (V7 0) w1) (wA a λa3=>(inR b 8)/\∃n4,cI .u64 w1 (Addr.add (Addr.add a3 0) ((Int.toNat b)*1)) n4/\R (V7 n4) w1)
theorem q102W (a b w R) (h:q102F a b w R):Zs 116 #[.pointer a,V6 b] w R:=
 sp Tryz.func116 h
def q110F  (w:World) (R:KV):Prop:=
 bindW (World.alloc w (.cells (r5c 0 0 0 nvc 0) 49)) λw0=>Zs 65 #[V6 5,V6 9216] w0 λv1 w2=>∃n3 n4 n5 v6 n7,v1= .agg (r5c n3 n4 n5 v6 n7)/\sR w2 (nw w) (r5c n3 n4 n5 v6 n7) λw8=>∃n9 n10 n11 v12 n13,(ldCells w8 (nw w) 5 (r5c n9 n10 n11 v12 n13))/\R (.agg (r5c n9 n10 n11 v12 n13)) w8
theorem q110W  (w:World) (R:KV) (h:q110F  w R):Zs 152 #[] w R:=
 sp Tryz.func152 h
def q109F  (w:World) (R:KV):Prop:=
 bindW (World.alloc w (.cells (r5c 0 0 0 nvc 0) 49)) λw0=>sR w0 (nw w) (r5c 24 0 0 nvc 0) λw1=>∃n2 n3 n4 v5 n6,(ldCells w1 (nw w) 5 (r5c n2 n3 n4 v5 n6))/\R (.agg (r5c n2 n3 n4 v5 n6)) w1
theorem q109W  (w:World) (R:KV) (h:q109F  w R):Zs 153 #[] w R:=
 sp Tryz.func153 h
def q106F (a:Option Addr) (b:Int) (w:World) (R:KV):Prop:=
 JoinP [.val] (λv0 w1=>wA a λa2=>sC w1 (Addr.add a2 8) (V6 (-1:Int)) λw3=>wA a λa4=>sC w3 (Addr.add a4 9) (V6 0) λw5=>R v0 w5) (λj6=>Zs 99 #[.pointer a] w λv7 w8=>∃b9,v7= .bool b9/\cond b9 (Zs 158 #[.pointer a,V6 b,V6 10756,(.func (.func 159) #[] #[])] w8 λv10 w11=>j6 v10 w11) (j6 nvc w8))
theorem q106W (a b w R) (h:q106F a b w R):Zs 154 #[.pointer a,V6 b] w R:=
 sp Tryz.func154 h
def q111F  (w:World) (R:KV):Prop:=
 bindW (World.alloc w (.cells (r5c 0 0 0 nvc 0) 49)) λw0=>sR w0 (nw w) (r5c 0 0 0 nvc 0) λw1=>∃n2 n3 n4 v5 n6,(ldCells w1 (nw w) 5 (r5c n2 n3 n4 v5 n6))/\R (.agg (r5c n2 n3 n4 v5 n6)) w1
theorem q111W  (w:World) (R:KV) (h:q111F  w R):Zs 155 #[] w R:=
 sp Tryz.func155 h
def q107F (a:Option Addr) (b c:Int) (w:World) (R:KV):Prop:=
 bindW (World.alloc w (.cells (r5c 0 0 0 nvc 0) 49)) λw0=>Zs 100 #[V6 b] w0 λv1 w2=>∃b3,v1= .bool b3/\cond (!b3) (Zs 152 #[] w2 λv4 w5=>∃n6 n7 n8 v9 n10,v4= .agg (r5c n6 n7 n8 v9 n10)/\sR w5 (nw w) (r5c n6 n7 n8 v9 n10) λw11=>∃n12 n13 n14 v15 n16,(ldCells w11 (nw w) 5 (r5c n12 n13 n14 v15 n16))/\R (.tuple #[(.agg (r5c n12 n13 n14 v15 n16)),.bool false]) w11) (JoinP [.bool] (λ(b17:Bool)=>λw18=>cond b17 (Zs 153 #[] w18 λv19 w20=>∃n21 n22 n23 v24 n25,v19= .agg (r5c n21 n22 n23 v24 n25)/\sR w20 (nw w) (r5c n21 n22 n23 v24 n25) λw26=>
 ∃n27 n28 n29 v30 n31,(ldCells w26 (nw w) 5 (r5c n27 n28 n29 v30 n31))/\R (.tuple #[(.agg (r5c n27 n28 n29 v30 n31)),.bool false]) w26) (Zs 155 #[] w18 λv32 w33=>∃n34 n35 n36 v37 n38,v32= .agg (r5c n34 n35 n36 v37 n38)/\sR w33 (nw w) (r5c n34 n35 n36 v37 n38) λw39=>∃n40 n41 n42 v43 n44,(ldCells w39 (nw w) 5 (r5c n40 n41 n42 v43 n44))/\R (.tuple #[(.agg (r5c n40 n41 n42 v43 n44)),.bool true]) w39)) (λj45=>wA a λa46=>(inR b 8)/\∃n47,cI .u64 w2 (Addr.add (Addr.add a46 0) ((Int.toNat b)*1)) n47/\cond (n47==0) (j45 true w2) (wA a λa48=>(inR b 8)/\
 ∃n49,cI .u64 w2 (Addr.add (Addr.add a48 0) ((Int.toNat b)*1)) n49/\j45 (n49 !=c) w2)))
theorem q107W (a b c w R) (h:q107F a b c w R):Zs 156 #[.pointer a,V6 b,V7 c] w R:=
 sp Tryz.func156 h
def q113F (a:Int) (w:World) (R:KV):Prop:=
 JoinP [.bool] (λ(b0:Bool)=>λw1=>R (.bool b0) w1) (λj2=>cond (a==1) (j2 true w) (cond (a==3) (j2 true w) (cond (a==5) (j2 true w) (j2 (a==6) w))))
theorem q113W (a w R) (h:q113F a w R):Zs 157 #[V6 a] w R:=
 sp Tryz.func157 h
def q103F (a:Option Addr) (w:World) (R:KV):Prop:=
 withAddr (.pointer a) λa0=>∃n1 n2 n3 n4 n5 n6 n7 n8,(ldCells w (Addr.add a0 0) 8 #[V7 n1,V7 n2,V7 n3,V7 n4,V7 n5,V7 n6,V7 n7,V7 n8])/\LoopP [.val,.int .i64] (λj9 v10=>λ(n11:Int)=>λw12=>cond (decide (n11 < 8)) (JoinP [.val] (λv13 w14=>j9 v13 (IntKind.wrap .i64 (n11+1)) w14) (λj15=>∃n16,((Sem.run Tryz.prog (Instr.index 135 (.agg #[V7 n1,V7 n2,V7 n3,V7 n4,V7 n5,V7 n6,V7 n7,V7 n8]) (V6 n11)) w12)=(.ok (V7 n16) w12))/\cond (n16 !=0) (al w12 #[V7 n16] 38 λw17=>∃v18 w19,aP 192 192 192 v10 (.slice (some (nw w12)) 1 1) w17 v18 w19/\j15 v18 w19)
 (j15 v10 w12))) (Zs 161 #[v10] w12 λv20 w21=>R v20 w21)) (λs22=>s22 nvc (0:Int) w)
theorem q103W (a w R) (h:q103F a w R):Zs 113 #[.pointer a] w R:=
 sp Tryz.func113 h
def q101F (a:Option Addr) (w:World) (R:KV):Prop:=
 bindW (World.drew w) λw0=>wA a λa1=>∃n2,cI .i64 w0 (Addr.add a1 8) n2/\wA a λa3=>∃n4,cI .i64 w0 (Addr.add a3 9) n4/\dW w λw5=>R (.tuple #[V6 n2,V6 n4]) w5
theorem q101W (a w R) (h:q101F a w R):Zs 114 #[.pointer a] w R:=
 sp Tryz.func114 h
def q121F (a:Value) (w:World) (R:KV):Prop:=
 ∃m0,sliceLen a=some m0/\∃m1,xL a m1/\∃v2,((subSlice a 1 none (some (V6 (m0:Nat))) (some (V6 (m1:Nat))))=(some v2))/\R v2 w
theorem q121W (a w R) (h:q121F a w R):Zs 161 #[a] w R:=
 sp Tryz.func161 h
end
section
open CW
def q78F (a:Int) (w:World) (R:KV):Prop:=
 Zs 34 #[V6 a] w λv0 w1=>∃o2 n3,v0= .tuple #[.pointer o2,V6 n3]/\cond (n3 !=0) (R (.tuple #[.pointer none,V6 n3]) w1) (Zs 35 #[] w1 λv4 w5=>∃o6,v4= .pointer o6/\al w5 #[.pointer o2,.pointer o6,nvc,V7 0,.map none,nvc,V7 0,.map none,nvc,V7 0,.map none,nvc,V7 0,.map none,nvc,V7 0,.map none,nvc,V7 0,.map none,nvc,V7 0,.map none,nvc,V7 0,.map none] 97 λw7=>LoopP [.int .i64] (λj8=>λ(n9:Int)=>λw10=>cond (decide (n9 < 8)) (∃v11 w12,Sem.run Tryz.prog (Instr.makeMap 92 none) w10= .ok v11 w12/\(inR n9 8)/\
 oneK v11 ((St1 w12 (Addr.add (Addr.add (ad w5 2) ((Int.toNat n9)*3)) 2))/\bindW (World.setCell w12 (Addr.add (Addr.add (ad w5 2) ((Int.toNat n9)*3)) 2) v11) λw13=>j8 (IntKind.wrap .i64 (n9+1)) w13)) (R (.tuple #[(.pointer (some (nw w5))),V6 0]) w10)) (λs14=>s14 (0:Int) w7))
theorem q78W (a w R) (h:q78F a w R):Zs 15 #[V6 a] w R:=
 sp Tryz.func15 h
def q79F (a:Option Addr) (b c d e:Int) (f:Value) (g i j:Int) (k:Bool) (w:World) (R:KV):Prop:=
 bindW (World.alloc w (.cells (r8c c d e f g i j k) 40)) λw0=>bindW (World.alloc w0 (.cells (r5c 0 0 0 nvc 0) 49)) λw1=>JoinP [.bool] (λ(b2:Bool)=>λw3=>cond b2 (Zs 65 #[.int .i64 5,.int .i64 8192] w3 λv4 w5=>∃n6 n7 n8 v9 n10,v4= .agg (r5c n6 n7 n8 v9 n10)/\StRow w5 ⟨w0.heap.size,0,none⟩ (r5c n6 n7 n8 v9 n10)/\bindW (stRow w5 ⟨w0.heap.size,0,none⟩ (r5c n6 n7 n8 v9 n10)) λw11=>∃n12 n13 n14 v15 n16,(ldCells w11 ⟨w0.heap.size,0,none⟩ 5 (r5c n12 n13 n14 v15 n16))/\R (.agg (r5c n12 n13 n14 v15 n16)) w11)
 (∃n17,World.cell? w3 (Addr.add ⟨w.heap.size,0,none⟩ 0)=some (.int .i64 n17)/\JoinP [] (λw18=>dW w18 λw19=>withAddr (.pointer a) λa20=>∃o21,World.cell? w19 (Addr.add a20 1)=some (.pointer o21)/\∃n22,World.cell? w19 (Addr.add ⟨w.heap.size,0,none⟩ 0)=some (.int .i64 n22)/\dW w18 λw23=>Zs 69 #[.pointer o21,.int .i64 b,.int .i64 n22] w23 λv24 w25=>∃b26,v24= .bool b26/\cond (!b26) ((StRow w25 ⟨w0.heap.size,0,none⟩ (r5c 24 0 0 nvc 0))/\bindW (stRow w25 ⟨w0.heap.size,0,none⟩ (r5c 24 0 0 nvc 0)) λw27=>
 ∃n28 n29 n30 v31 n32,(ldCells w27 ⟨w0.heap.size,0,none⟩ 5 (r5c n28 n29 n30 v31 n32))/\R (.agg (r5c n28 n29 n30 v31 n32)) w27) (∃n33 n34 n35 v36 n37 n38 n39 b40,(ldCells w25 ⟨w.heap.size,0,none⟩ 8 (r8c n33 n34 n35 v36 n37 n38 n39 b40))/\Zs 70 #[.pointer a,.int .i64 b,(.agg (r8c n33 n34 n35 v36 n37 n38 n39 b40))] w25 λv41 w42=>∃n43 n44 n45 v46 n47,v41= .agg (r5c n43 n44 n45 v46 n47)/\StRow w42 ⟨w0.heap.size,0,none⟩ (r5c n43 n44 n45 v46 n47)/\bindW (stRow w42 ⟨w0.heap.size,0,none⟩ (r5c n43 n44 n45 v46 n47)) λw48=>
 ∃n49 n50 n51 v52 n53,(ldCells w48 ⟨w0.heap.size,0,none⟩ 5 (r5c n49 n50 n51 v52 n53))/\R (.agg (r5c n49 n50 n51 v52 n53)) w48)) (λj54=>cond (n17==9) (Zs 66 #[.pointer a,.int .i64 b] w3 λv55 w56=>∃n57 n58 n59 v60 n61 b62,v55= .tuple #[(.agg (r5c n57 n58 n59 v60 n61)),.bool b62]/\bindW (World.alloc w56 (.cells (r5c 0 0 0 nvc 0) 49)) λw63=>StRow w63 ⟨w56.heap.size,0,none⟩ (r5c n57 n58 n59 v60 n61)/\bindW (stRow w63 ⟨w56.heap.size,0,none⟩ (r5c n57 n58 n59 v60 n61)) λw64=>
 ∃n65 n66 n67 v68 n69,(ldCells w64 ⟨w56.heap.size,0,none⟩ 5 (r5c n65 n66 n67 v68 n69))/\Zs 68 #[(.agg (r5c n65 n66 n67 v68 n69))] w64 λv70 w71=>Zs 67 #[v70] w71 λv72 w73=>∃n74 n75 n76 v77 n78,v72= .agg (r5c n74 n75 n76 v77 n78)/\StRow w73 ⟨w0.heap.size,0,none⟩ (r5c n74 n75 n76 v77 n78)/\bindW (stRow w73 ⟨w0.heap.size,0,none⟩ (r5c n74 n75 n76 v77 n78)) λw79=>∃n80 n81 n82 v83 n84,(ldCells w79 ⟨w0.heap.size,0,none⟩ 5 (r5c n80 n81 n82 v83 n84))/\R (.agg (r5c n80 n81 n82 v83 n84)) w79) (cond (n17==8) (j54 w3)
 (Zs 66 #[.pointer a,.int .i64 b] w3 λv85 w86=>∃n87 n88 n89 v90 n91 b92,v85= .tuple #[(.agg (r5c n87 n88 n89 v90 n91)),.bool b92]/\bindW (World.alloc w86 (.cells (r5c 0 0 0 nvc 0) 49)) λw93=>StRow w93 ⟨w86.heap.size,0,none⟩ (r5c n87 n88 n89 v90 n91)/\bindW (stRow w93 ⟨w86.heap.size,0,none⟩ (r5c n87 n88 n89 v90 n91)) λw94=>cond b92 (∃n95 n96 n97 v98 n99,(ldCells w94 ⟨w86.heap.size,0,none⟩ 5 (r5c n95 n96 n97 v98 n99))/\StRow w94 ⟨w0.heap.size,0,none⟩ (r5c n95 n96 n97 v98 n99)/\
 bindW (stRow w94 ⟨w0.heap.size,0,none⟩ (r5c n95 n96 n97 v98 n99)) λw100=>∃n101 n102 n103 v104 n105,(ldCells w100 ⟨w0.heap.size,0,none⟩ 5 (r5c n101 n102 n103 v104 n105))/\R (.agg (r5c n101 n102 n103 v104 n105)) w100) (j54 w94)))))) (λj106=>Zs 64 #[.int .i64 b] w1 λv107 w108=>∃b109,v107= .bool b109/\cond (!b109) (j106 true w108) (∃n110,World.cell? w108 (Addr.add ⟨w.heap.size,0,none⟩ 0)=some (.int .i64 n110)/\cond (decide (n110 < 1)) (j106 true w108) (∃n111,World.cell? w108 (Addr.add ⟨w.heap.size,0,none⟩ 0)=some (.int .i64 n111)/\
 j106 (decide (n111 > 18)) w108)))
theorem q79W (a b c d e f g i j k w R) (h:q79F a b c d e f g i j k w R):Zs 38 #[.pointer a,V6 b,(.agg (r8c c d e f g i j k))] w R:=
 sp Tryz.func38 h
def q84F (a:Int) (w:World) (R:KV):Prop:=
 JoinP [.bool] (λ(b0:Bool)=>λw1=>R (.bool b0) w1) (λj2=>cond (decide (a≥0)) (j2 (decide (a < 8)) w) (j2 false w))
theorem q84W (a w R) (h:q84F a w R):Zs 64 #[V6 a] w R:=
 sp Tryz.func64 h
def q83F (a:Option Addr) (b:Int) (w:World) (R:KV):Prop:=
 bindW (World.alloc w (.cells (r5c 0 0 0 nvc 0) 49)) λw0=>wA a λa1=>(inR b 8)/\∃v2,cV w0 (Addr.add (Addr.add (Addr.add a1 2) ((Int.toNat b)*3)) 0) v2/\∃m3,xL v2 m3/\cond ((m3:Int)==0) ((StRow w0 (nw w) (r5c 0 0 0 nvc 0))/\bindW (stRow w0 (nw w) (r5c 0 0 0 nvc 0)) λw4=>∃n5 n6 n7 v8 n9,(ldCells w4 (nw w) 5 (r5c n5 n6 n7 v8 n9))/\R (.tuple #[(.agg (r5c n5 n6 n7 v8 n9)),.bool false]) w4) (∃v10,cV w0 (Addr.add (Addr.add (Addr.add a1 2) ((Int.toNat b)*3)) 0) v10/\∃a11,sliceAt v10 (0:Int) 1=some a11/\∃n12,cI .i64 w0 a11 n12/\Zs 65 #[V6 6,V6 n12] w0 λv13 w14=>
 ∃n15 n16 n17 v18 n19,v13= .agg (r5c n15 n16 n17 v18 n19)/\al w14 (r5c 0 0 0 nvc 0) 49 λw20=>sR w20 (nw w14) (r5c n15 n16 n17 v18 n19) λw21=>∃v22,cV w21 (Addr.add (Addr.add (Addr.add a1 2) ((Int.toNat b)*3)) 0) v22/\∃v23,((subSlice v22 1 (some (V6 1)) none none)=(some v23))/\Zs 97 #[v23] w21 λv24 w25=>oneK v24 ((St1 w25 (Addr.add (Addr.add (Addr.add a1 2) ((Int.toNat b)*3)) 0))/\bindW (World.setCell w25 (Addr.add (Addr.add (Addr.add a1 2) ((Int.toNat b)*3)) 0) v24) λw26=>∃n27 n28 n29 v30 n31,(ldCells w26 (nw w14) 5 (r5c n27 n28 n29 v30 n31))/\
 sR w26 (nw w) (r5c n27 n28 n29 v30 n31) λw32=>∃n33 n34 n35 v36 n37,(ldCells w32 (nw w) 5 (r5c n33 n34 n35 v36 n37))/\R (.tuple #[(.agg (r5c n33 n34 n35 v36 n37)),.bool true]) w32))
theorem q83W (a b w R) (h:q83F a b w R):Zs 66 #[.pointer a,V6 b] w R:=
 sp Tryz.func66 h
def q80F (a:Option Addr) (b c d e:Int) (f:Value) (g i j:Int) (k:Bool) (w:World) (R:KV):Prop:=
 bindW (World.alloc w (.cells (r8c c d e f g i j k) 40)) λw0=>bindW (World.alloc w0 (.cells (r5c 0 0 0 nvc 0) 49)) λw1=>∃n2,World.cell? w1 (Addr.add ⟨w.heap.size,0,none⟩ 0)=some (.int .i64 n2)/\JoinP [] (λw3=>LoopP [.int .i64] (λj4=>λ(n5:Int)=>λw6=>cond (decide (n5 < 8)) (Zs 117 #[.pointer a,.int .i64 n5,.int .i64 10499] w6 λv7 w8=>v7= .tuple #[]/\j4 (IntKind.wrap .i64 (n5+1)) w8) ((StRow w6 ⟨w0.heap.size,0,none⟩ (r5c 0 0 0 nvc 0))/\bindW (stRow w6 ⟨w0.heap.size,0,none⟩ (r5c 0 0 0 nvc 0)) λw9=>
 ∃n10 n11 n12 v13 n14,(ldCells w9 ⟨w0.heap.size,0,none⟩ 5 (r5c n10 n11 n12 v13 n14))/\R (.agg (r5c n10 n11 n12 v13 n14)) w9)) (λs15=>s15 (0:Int) w3)) (λj16=>JoinP [] (λw17=>dW w17 λw18=>withAddr (.pointer a) λa19=>∃o20,World.cell? w18 (Addr.add a19 1)=some (.pointer o20)/\∃n21,World.cell? w18 (Addr.add ⟨w.heap.size,0,none⟩ 4)=some (.int .u64 n21)/\∃n22,World.cell? w18 (Addr.add ⟨w.heap.size,0,none⟩ 5)=some (.int .u64 n22)/\∃n23,World.cell? w18 (Addr.add ⟨w.heap.size,0,none⟩ 0)=some (.int .i64 n23)/\dW w17 λw24=>
 Zs 106 #[.pointer o20,.int .i64 b,.int .u64 n21,.int .u64 n22,(.bool (n23==11))] w24 λv25 w26=>∃n27 n28 n29 v30 n31 v32,v25= .tuple #[(.agg (r5c n27 n28 n29 v30 n31)),v32]/\Zs 105 #[.pointer a,(.agg (r5c n27 n28 n29 v30 n31)),v32] w26 λv33 w34=>∃n35 n36 n37 v38 n39,v33= .agg (r5c n35 n36 n37 v38 n39)/\StRow w34 ⟨w0.heap.size,0,none⟩ (r5c n35 n36 n37 v38 n39)/\bindW (stRow w34 ⟨w0.heap.size,0,none⟩ (r5c n35 n36 n37 v38 n39)) λw40=>bindW (stRow w34 ⟨w0.heap.size,0,none⟩ (r5c n35 n36 n37 v38 n39)) λw41=>
 ∃n42 n43 n44 v45 n46,(ldCells w41 ⟨w0.heap.size,0,none⟩ 5 (r5c n42 n43 n44 v45 n46))/\R (.agg (r5c n42 n43 n44 v45 n46)) w41) (λj47=>cond (n2==1) ((StRow w1 ⟨w0.heap.size,0,none⟩ (r5c 0 0 0 nvc 0))/\bindW (stRow w1 ⟨w0.heap.size,0,none⟩ (r5c 0 0 0 nvc 0)) λw48=>∃n49 n50 n51 v52 n53,(ldCells w48 ⟨w0.heap.size,0,none⟩ 5 (r5c n49 n50 n51 v52 n53))/\R (.agg (r5c n49 n50 n51 v52 n53)) w48) (cond (n2==8) (Zs 101 #[] w1 λv54 w55=>Zs 67 #[v54] w55 λv56 w57=>∃n58 n59 n60 v61 n62,v56= .agg (r5c n58 n59 n60 v61 n62)/\
 StRow w57 ⟨w0.heap.size,0,none⟩ (r5c n58 n59 n60 v61 n62)/\bindW (stRow w57 ⟨w0.heap.size,0,none⟩ (r5c n58 n59 n60 v61 n62)) λw63=>∃n64 n65 n66 v67 n68,(ldCells w63 ⟨w0.heap.size,0,none⟩ 5 (r5c n64 n65 n66 v67 n68))/\R (.agg (r5c n64 n65 n66 v67 n68)) w63) (cond (n2==7) (Zs 103 #[.pointer a] w1 λv69 w70=>∃n71,v69= .int .i64 n71/\Zs 102 #[.int .i64 n71] w70 λv72 w73=>Zs 67 #[v72] w73 λv74 w75=>∃n76 n77 n78 v79 n80,v74= .agg (r5c n76 n77 n78 v79 n80)/\StRow w75 ⟨w0.heap.size,0,none⟩ (r5c n76 n77 n78 v79 n80)/\
 bindW (stRow w75 ⟨w0.heap.size,0,none⟩ (r5c n76 n77 n78 v79 n80)) λw81=>∃n82 n83 n84 v85 n86,(ldCells w81 ⟨w0.heap.size,0,none⟩ 5 (r5c n82 n83 n84 v85 n86))/\R (.agg (r5c n82 n83 n84 v85 n86)) w81) (JoinP [.bool] (λ(b87:Bool)=>λw88=>cond b87 (∃n89 n90 n91 v92 n93 n94 n95 b96,(ldCells w88 ⟨w.heap.size,0,none⟩ 8 (r8c n89 n90 n91 v92 n93 n94 n95 b96))/\Zs 104 #[.pointer a,(.agg (r8c n89 n90 n91 v92 n93 n94 n95 b96))] w88 λv97 w98=>∃n99 n100 n101 v102 n103,v97= .agg (r5c n99 n100 n101 v102 n103)/\
 StRow w98 ⟨w0.heap.size,0,none⟩ (r5c n99 n100 n101 v102 n103)/\bindW (stRow w98 ⟨w0.heap.size,0,none⟩ (r5c n99 n100 n101 v102 n103)) λw104=>∃n105 n106 n107 v108 n109,(ldCells w104 ⟨w0.heap.size,0,none⟩ 5 (r5c n105 n106 n107 v108 n109))/\R (.agg (r5c n105 n106 n107 v108 n109)) w104) (cond (n2==10) (j47 w88) (cond (n2==11) (j47 w88) (cond (n2==12) (dW w88 λw110=>withAddr (.pointer a) λa111=>∃o112,World.cell? w110 (Addr.add a111 1)=some (.pointer o112)/\∃n113,World.cell? w110 (Addr.add ⟨w.heap.size,0,none⟩ 4)=some (.int .u64 n113)/\
 ∃n114,World.cell? w110 (Addr.add ⟨w.heap.size,0,none⟩ 6)=some (.int .i64 n114)/\dW w88 λw115=>Zs 107 #[.pointer o112,.int .i64 b,.int .u64 n113,.int .i64 n114] w115 λv116 w117=>∃n118 n119 n120 v121 n122,v116= .agg (r5c n118 n119 n120 v121 n122)/\StRow w117 ⟨w0.heap.size,0,none⟩ (r5c n118 n119 n120 v121 n122)/\bindW (stRow w117 ⟨w0.heap.size,0,none⟩ (r5c n118 n119 n120 v121 n122)) λw123=>bindW (stRow w117 ⟨w0.heap.size,0,none⟩ (r5c n118 n119 n120 v121 n122)) λw124=>
 ∃n125 n126 n127 v128 n129,(ldCells w124 ⟨w0.heap.size,0,none⟩ 5 (r5c n125 n126 n127 v128 n129))/\R (.agg (r5c n125 n126 n127 v128 n129)) w124) (cond (n2==13) (dW w88 λw130=>withAddr (.pointer a) λa131=>∃o132,World.cell? w130 (Addr.add a131 1)=some (.pointer o132)/\∃n133,World.cell? w130 (Addr.add ⟨w.heap.size,0,none⟩ 4)=some (.int .u64 n133)/\∃n134,World.cell? w130 (Addr.add ⟨w.heap.size,0,none⟩ 6)=some (.int .i64 n134)/\dW w88 λw135=>Zs 108 #[.pointer o132,.int .i64 b,.int .u64 n133,.int .i64 n134] w135 λv136 w137=>
 ∃n138 n139 n140 v141 n142 v143,v136= .tuple #[(.agg (r5c n138 n139 n140 v141 n142)),v143]/\Zs 105 #[.pointer a,(.agg (r5c n138 n139 n140 v141 n142)),v143] w137 λv144 w145=>∃n146 n147 n148 v149 n150,v144= .agg (r5c n146 n147 n148 v149 n150)/\StRow w145 ⟨w0.heap.size,0,none⟩ (r5c n146 n147 n148 v149 n150)/\bindW (stRow w145 ⟨w0.heap.size,0,none⟩ (r5c n146 n147 n148 v149 n150)) λw151=>bindW (stRow w145 ⟨w0.heap.size,0,none⟩ (r5c n146 n147 n148 v149 n150)) λw152=>
 ∃n153 n154 n155 v156 n157,(ldCells w152 ⟨w0.heap.size,0,none⟩ 5 (r5c n153 n154 n155 v156 n157))/\R (.agg (r5c n153 n154 n155 v156 n157)) w152) (cond (n2==14) (dW w88 λw158=>withAddr (.pointer a) λa159=>∃o160,World.cell? w158 (Addr.add a159 1)=some (.pointer o160)/\∃n161,World.cell? w158 (Addr.add ⟨w.heap.size,0,none⟩ 4)=some (.int .u64 n161)/\dW w88 λw162=>Zs 109 #[.pointer o160,.int .i64 b,.int .u64 n161] w162 λv163 w164=>∃n165 n166 n167 v168 n169 v170,v163= .tuple #[(.agg (r5c n165 n166 n167 v168 n169)),v170]/\
 Zs 105 #[.pointer a,(.agg (r5c n165 n166 n167 v168 n169)),v170] w164 λv171 w172=>∃n173 n174 n175 v176 n177,v171= .agg (r5c n173 n174 n175 v176 n177)/\StRow w172 ⟨w0.heap.size,0,none⟩ (r5c n173 n174 n175 v176 n177)/\bindW (stRow w172 ⟨w0.heap.size,0,none⟩ (r5c n173 n174 n175 v176 n177)) λw178=>bindW (stRow w172 ⟨w0.heap.size,0,none⟩ (r5c n173 n174 n175 v176 n177)) λw179=>∃n180 n181 n182 v183 n184,(ldCells w179 ⟨w0.heap.size,0,none⟩ 5 (r5c n180 n181 n182 v183 n184))/\R (.agg (r5c n180 n181 n182 v183 n184)) w179) (cond (n2==15) (dW w88 λw185=>
 withAddr (.pointer a) λa186=>∃o187,World.cell? w185 (Addr.add a186 1)=some (.pointer o187)/\∃n188,World.cell? w185 (Addr.add ⟨w.heap.size,0,none⟩ 4)=some (.int .u64 n188)/\∃n189,World.cell? w185 (Addr.add ⟨w.heap.size,0,none⟩ 5)=some (.int .u64 n189)/\∃n190,World.cell? w185 (Addr.add ⟨w.heap.size,0,none⟩ 6)=some (.int .i64 n190)/\dW w88 λw191=>Zs 110 #[.pointer o187,.int .i64 b,.int .u64 n188,.int .u64 n189,.int .i64 n190] w191 λv192 w193=>∃n194 n195 n196 v197 n198 v199,v192= .tuple #[(.agg (r5c n194 n195 n196 v197 n198)),v199]/\
 Zs 105 #[.pointer a,(.agg (r5c n194 n195 n196 v197 n198)),v199] w193 λv200 w201=>∃n202 n203 n204 v205 n206,v200= .agg (r5c n202 n203 n204 v205 n206)/\StRow w201 ⟨w0.heap.size,0,none⟩ (r5c n202 n203 n204 v205 n206)/\bindW (stRow w201 ⟨w0.heap.size,0,none⟩ (r5c n202 n203 n204 v205 n206)) λw207=>bindW (stRow w201 ⟨w0.heap.size,0,none⟩ (r5c n202 n203 n204 v205 n206)) λw208=>∃n209 n210 n211 v212 n213,(ldCells w208 ⟨w0.heap.size,0,none⟩ 5 (r5c n209 n210 n211 v212 n213))/\R (.agg (r5c n209 n210 n211 v212 n213)) w208) (cond (n2==16) (dW w88 λw214=>
 withAddr (.pointer a) λa215=>∃o216,World.cell? w214 (Addr.add a215 1)=some (.pointer o216)/\withAddr (.pointer a) λa217=>∃o218,World.cell? w214 (Addr.add a217 1)=some (.pointer o218)/\dW w88 λw219=>Zs 112 #[.pointer o216] w219 λv220 w221=>∃n222,v220= .int .u32 n222/\(∃o223,World.cell? w221 (Addr.add a217 1)=some (.pointer o223)/\((.pointer o223):Value)=(.pointer o218))/\Zs 113 #[.pointer o218] w221 λv224 w225=>Zs 111 #[.int .u32 n222,v224] w225 λv226 w227=>
 Zs 67 #[v226] w227 λv228 w229=>∃n230 n231 n232 v233 n234,v228= .agg (r5c n230 n231 n232 v233 n234)/\StRow w229 ⟨w0.heap.size,0,none⟩ (r5c n230 n231 n232 v233 n234)/\bindW (stRow w229 ⟨w0.heap.size,0,none⟩ (r5c n230 n231 n232 v233 n234)) λw235=>bindW (stRow w229 ⟨w0.heap.size,0,none⟩ (r5c n230 n231 n232 v233 n234)) λw236=>∃n237 n238 n239 v240 n241,(ldCells w236 ⟨w0.heap.size,0,none⟩ 5 (r5c n237 n238 n239 v240 n241))/\R (.agg (r5c n237 n238 n239 v240 n241)) w236) (cond (n2==17) (withAddr (.pointer a) λa242=>
 ∃o243,World.cell? w88 (Addr.add a242 1)=some (.pointer o243)/\Zs 114 #[.pointer o243] w88 λv244 w245=>∃n246 n247,v244= .tuple #[.int .i64 n246,.int .i64 n247]/\dW w245 λw248=>withAddr (.pointer a) λa249=>∃o250,World.cell? w248 (Addr.add a249 1)=some (.pointer o250)/\withAddr (.pointer a) λa251=>∃o252,World.cell? w248 (Addr.add a251 1)=some (.pointer o252)/\dW w245 λw253=>Zs 112 #[.pointer o250] w253 λv254 w255=>∃n256,v254= .int .u32 n256/\(∃o257,World.cell? w255 (Addr.add a251 1)=some (.pointer o257)/\
 ((.pointer o257):Value)=(.pointer o252))/\Zs 116 #[.pointer o252,.int .i64 n246] w255 λv258 w259=>∃n260,v258= .int .u64 n260/\Zs 115 #[.int .u32 n256,.int .u64 n260,.int .i64 n247] w259 λv261 w262=>Zs 67 #[v261] w262 λv263 w264=>∃n265 n266 n267 v268 n269,v263= .agg (r5c n265 n266 n267 v268 n269)/\StRow w264 ⟨w0.heap.size,0,none⟩ (r5c n265 n266 n267 v268 n269)/\bindW (stRow w264 ⟨w0.heap.size,0,none⟩ (r5c n265 n266 n267 v268 n269)) λw270=>
 bindW (stRow w264 ⟨w0.heap.size,0,none⟩ (r5c n265 n266 n267 v268 n269)) λw271=>∃n272 n273 n274 v275 n276,(ldCells w271 ⟨w0.heap.size,0,none⟩ 5 (r5c n272 n273 n274 v275 n276))/\R (.agg (r5c n272 n273 n274 v275 n276)) w271) (j16 w88)))))))))) (λj277=>cond (n2==2) (j277 (n2==2) w1) (cond (n2==3) (j277 (n2==3) w1) (cond (n2==4) (j277 (n2==4) w1) (cond (n2==5) (j277 (n2==5) w1) (j277 (n2==6) w1))))))))))
theorem q80W (a b c d e f g i j k w R) (h:q80F a b c d e f g i j k w R):Zs 70 #[.pointer a,V6 b,(.agg (r8c c d e f g i j k))] w R:=
 sp Tryz.func70 h
def q82F (a:Option Addr) (b c d:Int) (e:Value) (f g i:Int) (j:Bool) (w:World) (R:KV):Prop:=
 bindW (World.alloc w (.cells (r8c b c d e f g i j) 40)) λw0=>bindW (World.alloc w0 (.cells (r5c 0 0 0 nvc 0) 49)) λw1=>dW w1 λw2=>withAddr (.pointer a) λa3=>∃o4,World.cell? w2 (Addr.add a3 0)=some (.pointer o4)/\∃n5,World.cell? w2 (Addr.add ⟨w.heap.size,0,none⟩ 1)=some (.int .i64 n5)/\∃n6,World.cell? w2 (Addr.add ⟨w.heap.size,0,none⟩ 2)=some (.int .i64 n6)/\dW w1 λw7=>Zs 147 #[.pointer o4,.int .i64 n5,.int .i64 n6] w7 λv8 w9=>∃b10,v8= .bool b10/\cond (!b10) (Zs 65 #[.int .i64 5,.int .i64 8448] w9 λv11 w12=>
 ∃n13 n14 n15 v16 n17,v11= .agg (r5c n13 n14 n15 v16 n17)/\StRow w12 ⟨w0.heap.size,0,none⟩ (r5c n13 n14 n15 v16 n17)/\bindW (stRow w12 ⟨w0.heap.size,0,none⟩ (r5c n13 n14 n15 v16 n17)) λw18=>∃n19 n20 n21 v22 n23,(ldCells w18 ⟨w0.heap.size,0,none⟩ 5 (r5c n19 n20 n21 v22 n23))/\R (.agg (r5c n19 n20 n21 v22 n23)) w18) (∃n24,World.cell? w9 (Addr.add ⟨w.heap.size,0,none⟩ 2)=some (.int .i64 n24)/\∃n25,World.cell? w9 (Addr.add ⟨w.heap.size,0,none⟩ 0)=some (.int .i64 n25)/\JoinP [] (λw26=>StRow w26 ⟨w0.heap.size,0,none⟩ (r5c 0 0 0 nvc 0)/\
 bindW (stRow w26 ⟨w0.heap.size,0,none⟩ (r5c 0 0 0 nvc 0)) λw27=>∃n28 n29 n30 v31 n32,(ldCells w27 ⟨w0.heap.size,0,none⟩ 5 (r5c n28 n29 n30 v31 n32))/\R (.agg (r5c n28 n29 n30 v31 n32)) w27) (λj33=>cond (n25==2) (dW w9 λw34=>withAddr (.pointer a) λa35=>∃o36,World.cell? w34 (Addr.add a35 0)=some (.pointer o36)/\∃n37,World.cell? w34 (Addr.add ⟨w.heap.size,0,none⟩ 1)=some (.int .i64 n37)/\∃n38,World.cell? w34 (Addr.add ⟨w.heap.size,0,none⟩ 2)=some (.int .i64 n38)/\dW w9 λw39=>
 Zs 148 #[.pointer o36,.int .i64 n37,.int .i64 n38] w39 λv40 w41=>∃v42 n43,v40= .tuple #[v42,.int .i64 n43]/\Zs 67 #[v42] w41 λv44 w45=>∃n46 n47 n48 v49 n50,v44= .agg (r5c n46 n47 n48 v49 n50)/\StRow w45 ⟨w0.heap.size,0,none⟩ (r5c n46 n47 n48 v49 n50)/\bindW (stRow w45 ⟨w0.heap.size,0,none⟩ (r5c n46 n47 n48 v49 n50)) λw51=>∃n52 n53 n54 v55 n56,(ldCells w51 ⟨w0.heap.size,0,none⟩ 5 (r5c n52 n53 n54 v55 n56))/\R (.agg (r5c n52 n53 n54 v55 n56)) w51) (cond (n25==3) (∃v57,World.cell? w9 (Addr.add ⟨w.heap.size,0,none⟩ 3)=some v57/\
 ∃m58,sliceLen v57=some m58/\cond ((m58:Int) !=(IntKind.wrap .i64 (n24*8))) (Zs 65 #[.int .i64 5,.int .i64 9216] w9 λv59 w60=>∃n61 n62 n63 v64 n65,v59= .agg (r5c n61 n62 n63 v64 n65)/\StRow w60 ⟨w0.heap.size,0,none⟩ (r5c n61 n62 n63 v64 n65)/\bindW (stRow w60 ⟨w0.heap.size,0,none⟩ (r5c n61 n62 n63 v64 n65)) λw66=>∃n67 n68 n69 v70 n71,(ldCells w66 ⟨w0.heap.size,0,none⟩ 5 (r5c n67 n68 n69 v70 n71))/\R (.agg (r5c n67 n68 n69 v70 n71)) w66) (dW w9 λw72=>withAddr (.pointer a) λa73=>∃o74,World.cell? w72 (Addr.add a73 0)=some (.pointer o74)/\
 ∃n75,World.cell? w72 (Addr.add ⟨w.heap.size,0,none⟩ 1)=some (.int .i64 n75)/\∃v76,World.cell? w72 (Addr.add ⟨w.heap.size,0,none⟩ 3)=some v76/\dW w9 λw77=>Zs 149 #[.pointer o74,.int .i64 n75,v76] w77 λv78 w79=>∃n80,v78= .int .i64 n80/\j33 w79)) (cond (n25==5) (dW w9 λw81=>withAddr (.pointer a) λa82=>∃o83,World.cell? w81 (Addr.add a82 0)=some (.pointer o83)/\∃n84,World.cell? w81 (Addr.add ⟨w.heap.size,0,none⟩ 1)=some (.int .i64 n84)/\∃n85,World.cell? w81 (Addr.add ⟨w.heap.size,0,none⟩ 2)=some (.int .i64 n85)/\dW w9 λw86=>
 Zs 150 #[.pointer o83,.int .i64 n84,.int .i64 n85] w86 λv87 w88=>∃n89,v87= .int .i64 n89/\j33 w88) (cond (n25==6) (∃v90,World.cell? w9 (Addr.add ⟨w.heap.size,0,none⟩ 3)=some v90/\∃m91,sliceLen v90=some m91/\cond ((m91:Int) !=(IntKind.wrap .i64 ((2:Int)*(IntKind.wrap .i64 (n24*8))))) (Zs 65 #[.int .i64 5,.int .i64 9216] w9 λv92 w93=>∃n94 n95 n96 v97 n98,v92= .agg (r5c n94 n95 n96 v97 n98)/\StRow w93 ⟨w0.heap.size,0,none⟩ (r5c n94 n95 n96 v97 n98)/\bindW (stRow w93 ⟨w0.heap.size,0,none⟩ (r5c n94 n95 n96 v97 n98)) λw99=>
 ∃n100 n101 n102 v103 n104,(ldCells w99 ⟨w0.heap.size,0,none⟩ 5 (r5c n100 n101 n102 v103 n104))/\R (.agg (r5c n100 n101 n102 v103 n104)) w99) (dW w9 λw105=>withAddr (.pointer a) λa106=>∃o107,World.cell? w105 (Addr.add a106 0)=some (.pointer o107)/\∃n108,World.cell? w105 (Addr.add ⟨w.heap.size,0,none⟩ 1)=some (.int .i64 n108)/\∃v109,World.cell? w105 (Addr.add ⟨w.heap.size,0,none⟩ 3)=some v109/\dW w9 λw110=>Zs 151 #[.pointer o107,.int .i64 n108,v109] w110 λv111 w112=>∃n113 n114,v111= .tuple #[.int .i64 n113,.int .i64 n114]/\
 cond (decide (n113≥0)) (Zs 65 #[.int .i64 14,.int .i64 7424] w112 λv115 w116=>∃n117 n118 n119 v120 n121,v115= .agg (r5c n117 n118 n119 v120 n121)/\bindW (World.alloc w116 (.cells (r5c 0 0 0 nvc 0) 49)) λw122=>StRow w122 ⟨w116.heap.size,0,none⟩ (r5c n117 n118 n119 v120 n121)/\bindW (stRow w122 ⟨w116.heap.size,0,none⟩ (r5c n117 n118 n119 v120 n121)) λw123=>St1 w123 (Addr.add ⟨w116.heap.size,0,none⟩ 4)/\bindW (World.setCell w123 (Addr.add ⟨w116.heap.size,0,none⟩ 4) (.int .i64 n113)) λw124=>
 ∃n125 n126 n127 v128 n129,(ldCells w124 ⟨w116.heap.size,0,none⟩ 5 (r5c n125 n126 n127 v128 n129))/\StRow w124 ⟨w0.heap.size,0,none⟩ (r5c n125 n126 n127 v128 n129)/\bindW (stRow w124 ⟨w0.heap.size,0,none⟩ (r5c n125 n126 n127 v128 n129)) λw130=>∃n131 n132 n133 v134 n135,(ldCells w130 ⟨w0.heap.size,0,none⟩ 5 (r5c n131 n132 n133 v134 n135))/\R (.agg (r5c n131 n132 n133 v134 n135)) w130) (j33 w112))) (j33 w9))))))
theorem q82W (a b c d e f g i j w R) (h:q82F a b c d e f g i j w R):Zs 104 #[.pointer a,(.agg (r8c b c d e f g i j))] w R:=
 sp Tryz.func104 h
def q81F (a:Option Addr) (b c d:Int) (e:Value) (f:Int) (g:Value) (w:World) (R:KV):Prop:=
 bindW (World.alloc w (.cells (r5c b c d e f) 49)) λw0=>al w0 (r5c 0 0 0 nvc 0) 49 λw1=>∃m2,xL g m2/\LoopP [.int .i64] (λj3=>λ(n4:Int)=>λw5=>cond (decide (n4 < (m2:Int))) (∃a6,sliceAt g n4 2=some a6/\∃n7 n8,(ldCells w5 a6 2 #[V6 n7,V6 n8])/\al w5 #[V6 0,V6 0] 238 λw9=>sR w9 (nw w5) #[V6 n7,V6 n8] λw10=>∃n11,cI .i64 w10 (ad w5 0) n11/\∃n12,cI .i64 w10 (ad w5 1) n12/\Zs 117 #[.pointer a,V6 n11,V6 n12] w10 λv13 w14=>v13= .tuple #[]/\j3 (IntKind.wrap .i64 (n4+1)) w14) (∃n15 n16 n17 v18 n19,(ldCells w5 (nw w) 5 (r5c n15 n16 n17 v18 n19))/\
 sR w5 (nw w0) (r5c n15 n16 n17 v18 n19) λw20=>∃n21 n22 n23 v24 n25,(ldCells w20 (nw w0) 5 (r5c n21 n22 n23 v24 n25))/\R (.agg (r5c n21 n22 n23 v24 n25)) w20)) (λs26=>s26 (0:Int) w1)
theorem q81W (a b c d e f g w R) (h:q81F a b c d e f g w R):Zs 105 #[.pointer a,(.agg (r5c b c d e f)),g] w R:=
 sp Tryz.func105 h
def q98F  (w:World) (R:KV):Prop:=
 bindW (World.alloc w (.cells #[V7 0,V7 0,V7 0,V7 0,V7 0,V7 0,V7 0,V7 0,(V6 (-1:Int)),V6 0,V3 0] 137)) λw0=>R (.pointer (some (nw w))) w0
theorem q98W  (w:World) (R:KV) (h:q98F  w R):Zs 35 #[] w R:=
 sp Tryz.func35 h
def q99F (a:Option Addr) (b c:Int) (w:World) (R:KV):Prop:=
 JoinP [.bool] (λ(b0:Bool)=>λw1=>cond b0 (R (.bool true) w1) (JoinP [.bool] (λ(b2:Bool)=>λw3=>cond b2 (JoinP [.bool] (λ(b4:Bool)=>λw5=>R (.bool b4) w5) (λj6=>wA a λa7=>∃n8,cI .i64 w3 (Addr.add a7 9) n8/\cond (n8==1) (j6 true w3) (wA a λa9=>∃n10,cI .i64 w3 (Addr.add a9 9) n10/\j6 (n10==5) w3))) (JoinP [.bool] (λ(b11:Bool)=>λw12=>cond b11 (R (.bool false) w12) (R (.bool true) w12)) (λj13=>cond (c==3) (j13 (c==3) w3) (cond (c==4) (j13 (c==4) w3) (cond (c==5) (j13 (c==5) w3) (j13 (c==6) w3)))))) (λj14=>cond (c==1)
 (j14 (c==1) w1) (j14 (c==2) w1)))) (λj15=>wA a λa16=>∃n17,cI .i64 w (Addr.add a16 8) n17/\cond (n17==(-1:Int)) (j15 true w) (wA a λa18=>∃n19,cI .i64 w (Addr.add a18 8) n19/\cond (n19==b) (j15 true w) (Zs 99 #[.pointer a] w λv20 w21=>∃b22,v20= .bool b22/\cond b22 (Zs 100 #[V6 b] w21 λv23 w24=>∃b25,v23= .bool b25/\cond b25 (wA a λa26=>(inR b 8)/\∃n27,cI .u64 w24 (Addr.add (Addr.add a26 0) ((Int.toNat b)*1)) n27/\j15 (n27 !=0) w24) (j15 false w24)) (j15 false w21))))
theorem q99W (a b c w R) (h:q99F a b c w R):Zs 69 #[.pointer a,V6 b,V6 c] w R:=
 sp Tryz.func69 h
def q112F (a:Int) (w:World) (R:KV):Prop:=
 JoinP [.bool] (λ(b0:Bool)=>λw1=>R (.bool b0) w1) (λj2=>cond (decide (a≥0)) (j2 (decide (a < 8)) w) (j2 false w))
theorem q112W (a w R) (h:q112F a w R):Zs 100 #[V6 a] w R:=
 sp Tryz.func100 h
def q108F (a:Option Addr) (w:World) (R:KV):Prop:=
 JoinP [.bool] (λ(b0:Bool)=>λw1=>R (.bool b0) w1) (λj2=>wA a λa3=>∃n4,cI .i64 w (Addr.add a3 9) n4/\cond (n4==5) (j2 true w) (wA a λa5=>∃n6,cI .i64 w (Addr.add a5 9) n6/\j2 (n6==6) w))
theorem q108W (a w R) (h:q108F a w R):Zs 99 #[.pointer a] w R:=
 sp Tryz.func99 h
end
section
open CW
def q137F (a:Int) (w:World) (R:KV):Prop:=
 JoinP [.bool] (λ(b0:Bool)=>λw1=>cond b0 (R (.tuple #[.pointer none,V6 1]) w1) (JoinP [.ptr,.int .i64] (λo2=>λ(n3:Int)=>λw4=>R (.tuple #[.pointer o2,V6 n3]) w4) (λj5=>dW w1 λw6=>dW w1 λw7=>(∃v8 w9,Sem.run Tryz.prog (Instr.makeSlice 34 (V6 (IntKind.wrap .i64 (a*8))) (V6 (IntKind.wrap .i64 (a*8)))) w7= .ok v8 w9/\Zs 63 #[V6 a] w9 λv10 w11=>oneK v8 (oneK v10 (al w11 #[V6 a,v8,v10] 134 λw12=>al w11 #[V6 a,v8,v10] 134 λw13=>j5 (some (nw w11)) (0:Int) w13)))/\Zs 63 #[V6 a] w7 λv14 w15=>
 ∃v16 w17,Sem.run Tryz.prog (Instr.makeSlice 34 (V6 (IntKind.wrap .i64 (a*8))) (V6 (IntKind.wrap .i64 (a*8)))) w15= .ok v16 w17/\oneK v16 (oneK v14 (al w17 #[V6 a,v16,v14] 134 λw18=>al w17 #[V6 a,v16,v14] 134 λw19=>j5 (some (nw w17)) (0:Int) w19))))) (λj20=>cond (decide (a < 1)) (j20 true w) (j20 (decide (a > 1024)) w))
theorem q137W (a w R) (h:q137F a w R):Zs 34 #[V6 a] w R:=
 sp Tryz.func34 h
def q10F (a:Int) (w:World) (R:KV):Prop:=
 JoinP [.bool] (λ(b0:Bool)=>λw1=>cond b0 (R nvc w1) (∃v2 w3,Sem.run Tryz.prog (Instr.makeSlice 131 (V6 (IntKind.wrap .i64 (Int.tdiv (IntKind.wrap .i64 (a+7)) (8:Int)))) (V6 (IntKind.wrap .i64 (Int.tdiv (IntKind.wrap .i64 (a+7)) (8:Int))))) w1= .ok v2 w3/\R v2 w3)) (λj4=>cond (decide (a < 1)) (j4 true w) (j4 (decide (a > 1048576)) w))
theorem q10W (a w R) (h:q10F a w R):Zs 63 #[V6 a] w R:=
 sp Tryz.func63 h
def q142F (a:Option Addr) (b:Int) (c:Value) (w:World) (R:KV):Prop:=
 ∃m0,sliceLen c=some m0/\JoinP [.bool] (λ(b1:Bool)=>λw2=>cond b1 (R (.int .i64 1) w2) (Zs 188 #[.pointer a,.int .i64 b,(.int .i64 (IntKind.wrap .i64 (Int.tdiv (m0:Int) (8:Int))))] w2 λv3 w4=>∃n5 w6,((Sem.run Tryz.prog (Builtin.copy_ #[34,34] 3 #[v3,c]) w4)=(.ok (.int .i64 n5) w6))/\withAddr (.pointer a) λa7=>∃v8,World.cell? w6 (Addr.add a7 2)=some v8/\Zs 189 #[v8,.int .i64 b,(.int .i64 (IntKind.wrap .i64 (Int.tdiv (m0:Int) (8:Int))))] w6 λv9 w10=>∃n11,v9= .int .i64 n11/\R (.int .i64 0) w10)) (λj12=>
 ∃m13,sliceLen c=some m13/\cond ((Int.tmod (m13:Int) (8:Int)) !=0) (j12 true w) (Zs 147 #[.pointer a,.int .i64 b,(.int .i64 (IntKind.wrap .i64 (Int.tdiv (m0:Int) (8:Int))))] w λv14 w15=>∃b16,v14= .bool b16/\j12 (!b16) w15))
theorem q142W (a b c w R) (h:q142F a b c w R):Zs 149 #[.pointer a,V6 b,c] w R:=
 sp Tryz.func149 h
def q6F (a:Value) (b c:Int) (w:World) (R:KV):Prop:=
 Zs 204 #[a,V6 b,V6 c,.bool true] w λv0 w1=>∃n2,v0=V6 n2/\R (V6 n2) w1
theorem q6W (a b c w R) (h:q6F a b c w R):Zs 189 #[a,V6 b,V6 c] w R:=
 sp Tryz.func189 h
def q141F (a:Option Addr) (b c:Int) (w:World) (R:KV):Prop:=
 Zs 147 #[.pointer a,.int .i64 b,.int .i64 c] w λv0 w1=>∃b2,v0= .bool b2/\cond (!b2) (R (.int .i64 1) w1) (Zs 188 #[.pointer a,.int .i64 b,.int .i64 c] w1 λv3 w4=>∃v5 w6,Sem.run Tryz.prog (Builtin.clear_ #[34] 0 #[v3]) w4= .ok v5 w6/\withAddr (.pointer a) λa7=>∃v8,World.cell? w6 (Addr.add a7 2)=some v8/\Zs 190 #[v8,.int .i64 b,.int .i64 c] w6 λv9 w10=>∃n11,v9= .int .i64 n11/\R (.int .i64 0) w10)
theorem q141W (a b c w R) (h:q141F a b c w R):Zs 150 #[.pointer a,V6 b,V6 c] w R:=
 sp Tryz.func150 h
def q7F (a:Value) (b c:Int) (w:World) (R:KV):Prop:=
 Zs 204 #[a,V6 b,V6 c,.bool false] w λv0 w1=>∃n2,v0=V6 n2/\R (V6 n2) w1
theorem q7W (a b c w R) (h:q7F a b c w R):Zs 190 #[a,V6 b,V6 c] w R:=
 sp Tryz.func190 h
def q139F (a:Option Addr) (b c:Int) (w:World) (R:KV):Prop:=
 JoinP [.bool] (λ(b0:Bool)=>λw1=>R (.bool b0) w1) (λj2=>cond (decide (c≥0)) (cond (decide (c<=32)) (cond (decide (b≥0)) (withAddr (.pointer a) λa3=>∃n4,World.cell? w (Addr.add a3 0)=some (.int .i64 n4)/\cond (decide (b<=n4)) (withAddr (.pointer a) λa5=>∃n6,World.cell? w (Addr.add a5 0)=some (.int .i64 n6)/\j2 (decide (c<=(IntKind.wrap .i64 (n6 - b)))) w) (j2 false w)) (j2 false w)) (j2 false w)) (j2 false w))
theorem q139W (a b c w R) (h:q139F a b c w R):Zs 147 #[.pointer a,V6 b,V6 c] w R:=
 sp Tryz.func147 h
def q143F (a:Option Addr) (b c:Int) (w:World) (R:KV):Prop:=
 withAddr (.pointer a) λa0=>∃v1,World.cell? w (Addr.add a0 1)=some v1/\∃v2,((subSlice v1 1 (some (.int .i64 (IntKind.wrap .i64 (b*8)))) (some (.int .i64 (IntKind.wrap .i64 ((IntKind.wrap .i64 (b+c))*8)))) none)=(some v2))/\R v2 w
theorem q143W (a b c w R) (h:q143F a b c w R):Zs 188 #[.pointer a,V6 b,V6 c] w R:=
 sp Tryz.func188 h
def q9F (a:Value) (b c:Int) (d:Bool) (w:World) (R:KV):Prop:=
 JoinP [.bool] (λ(b0:Bool)=>λw1=>cond b0 (R (V6 0) w1) (LoopP [.int .i64,.int .i64] (λj2=>λ(n3:Int)=>λ(n4:Int)=>λw5=>∃m6,xL a m6/\cond (decide (n4 < (IntKind.wrap .i64 (b+(if(IntKind.wrap .i64 ((IntKind.wrap .i64 ((8:Int)*(m6:Int))) - b)) < c then(IntKind.wrap .i64 ((IntKind.wrap .i64 ((8:Int)*(m6:Int))) - b))else c))))) (JoinP [.int .i64] (λ(n7:Int)=>λw8=>j2 n7 (IntKind.wrap .i64 (n4+1)) w8) (λj9=>Zs 217 #[a,V6 n4] w5 λv10 w11=>∃b12,v10= .bool b12/\cond (!(b12==d)) (dW w11 λw13=>
 ∃a14,sliceAt a (IntKind.wrap .i64 (Int.tdiv n4 (8:Int))) 1=some a14/\∃n15,cI .u8 w13 a14 n15/\leK (Int.tmod n4 (8:Int)) (∃a16,sliceAt a (IntKind.wrap .i64 (Int.tdiv n4 (8:Int))) 1=some a16/\dW w11 λw17=>sC w17 a16 (V8 (bitsI .xor .u8 n15 (IntKind.wrap .u8 ((1:Int)*((2:Int) ^ (min (Int.toNat (Int.tmod n4 (8:Int))) 8)))))) λw18=>bindW (World.setCell w17 a16 (V8 (bitsI .xor .u8 n15 (IntKind.wrap .u8 ((1:Int)*((2:Int) ^ (min (Int.toNat (Int.tmod n4 (8:Int))) 8))))))) λw19=>j9 (IntKind.wrap .i64 (n3+1)) w19)) (j9 n3 w11))) (R (V6 n3) w5))
 (λs20=>s20 (0:Int) b w1))) (λj21=>cond (decide (b < 0)) (j21 true w) (cond (decide (c < 0)) (j21 true w) (∃m22,xL a m22/\j21 (decide (b≥(IntKind.wrap .i64 ((8:Int)*(m22:Int))))) w)))
theorem q9W (a b c d w R) (h:q9F a b c d w R):Zs 204 #[a,V6 b,V6 c,.bool d] w R:=
 sp Tryz.func204 h
def q8F (a:Value) (b:Int) (w:World) (R:KV):Prop:=
 JoinP [.bool] (λ(b0:Bool)=>λw1=>R (.bool b0) w1) (λj2=>cond (decide (b≥0)) (∃m3,xL a m3/\j2 (decide (b < (IntKind.wrap .i64 ((8:Int)*(m3:Int))))) w) (j2 false w))
theorem q8W (a b w R) (h:q8F a b w R):Zs 230 #[a,V6 b] w R:=
 sp Tryz.func230 h
def q5F (a:Value) (b:Int) (w:World) (R:KV):Prop:=
 JoinP [.bool] (λ(b0:Bool)=>λw1=>R (.bool b0) w1) (λj2=>Zs 230 #[a,V6 b] w λv3 w4=>∃b5,v3= .bool b5/\cond b5 (∃a6,sliceAt a (IntKind.wrap .i64 (Int.tdiv b (8:Int))) 1=some a6/\∃n7,cI .u8 w4 a6 n7/\leK (Int.tmod b (8:Int)) (j2 ((bitsI .and .u8 (Int.fdiv n7 ((2:Int) ^ (min (Int.toNat (Int.tmod b (8:Int))) 8))) (1:Int))==1) w4)) (j2 false w4))
theorem q5W (a b w R) (h:q5F a b w R):Zs 217 #[a,V6 b] w R:=
 sp Tryz.func217 h
def q140F (a:Option Addr) (b c:Int) (w:World) (R:KV):Prop:=
 Zs 147 #[.pointer a,V6 b,V6 c] w λv0 w1=>∃b2,v0= .bool b2/\cond (!b2) (R (.tuple #[nvc,V6 1]) w1) (Zs 188 #[.pointer a,V6 b,V6 c] w1 λv3 w4=>Zs 43 #[v3] w4 λv5 w6=>Zs 50 #[v5] w6 λv7 w8=>R (.tuple #[v7,V6 0]) w8)
theorem q140W (a b c w R) (h:q140F a b c w R):Zs 148 #[.pointer a,V6 b,V6 c] w R:=
 sp Tryz.func148 h
def q138F (a:Option Addr) (b:Int) (c:Value) (w:World) (R:KV):Prop:=
 ∃m0,sliceLen c=some m0/\JoinP [.bool] (λ(b1:Bool)=>λw2=>cond b1 (R (.tuple #[V6 0,V6 1]) w2) (Zs 188 #[.pointer a,V6 b,(V6 (IntKind.wrap .i64 (Int.tdiv (IntKind.wrap .i64 (Int.tdiv (m0:Int) (8:Int))) (2:Int))))] w2 λv3 w4=>∃m5,xL v3 m5/\LoopP [.int .i64] (λj6=>λ(n7:Int)=>λw8=>cond (decide (n7 < (m5:Int))) (∃a9,sliceAt v3 n7 1=some a9/\∃n10,cI .u8 w8 a9 n10/\∃a11,sliceAt c n7 1=some a11/\∃n12,cI .u8 w8 a11 n12/\cond (n10 !=n12) (R (.tuple #[V6 n7,V6 0]) w8) (j6 (IntKind.wrap .i64 (n7+1)) w8))
 (∃v13,((subSlice c 1 (some (V6 (IntKind.wrap .i64 ((IntKind.wrap .i64 (Int.tdiv (IntKind.wrap .i64 (Int.tdiv (m0:Int) (8:Int))) (2:Int)))*8)))) none none)=(some v13))/\Zs 149 #[.pointer a,V6 b,v13] w8 λv14 w15=>∃n16,v14=V6 n16/\R (.tuple #[(V6 (-1:Int)),V6 0]) w15)) (λs17=>s17 (0:Int) w4))) (λj18=>∃m19,xL c m19/\cond ((Int.tmod (m19:Int) (16:Int)) !=0) (j18 true w) (Zs 147 #[.pointer a,V6 b,(V6 (IntKind.wrap .i64 (Int.tdiv (IntKind.wrap .i64 (Int.tdiv (m0:Int) (8:Int))) (2:Int))))] w λv20 w21=>∃b22,v20= .bool b22/\j18 (!b22) w21))
theorem q138W (a b c w R) (h:q138F a b c w R):Zs 151 #[.pointer a,V6 b,c] w R:=
 sp Tryz.func151 h
end
end Go.Proofs.YtdpmhkbhlbfbeaaGreatDoor
