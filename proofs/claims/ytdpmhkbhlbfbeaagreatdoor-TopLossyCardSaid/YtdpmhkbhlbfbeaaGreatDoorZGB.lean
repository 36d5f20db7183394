/- A part of the proof. -/
import Derived.Test.YtdpmhkbhlbfbeaaGreatDoorZNam
set_option linter.unusedVariables false
set_option maxRecDepth 100000
namespace Go.Proofs.YtdpmhkbhlbfbeaaGreatDoor
section
open CW
def q174F (a:ByteArray) (w:World) (R:KV):Prop:=
 bindW (World.alloc w (.cells #[V6 0] 3)) λw0=>sC w0 (nw w) (V6 10) λw1=>JoinP [.str,.int .i64] (λ(s2:ByteArray)=>λ(n3:Int)=>λw4=>JoinP [.bool] (λ(b5:Bool)=>λw6=>cond b5 (R (.tuple #[V6 0,.bool false]) w6) (∃n7,cI .i64 w6 (nw w) n7/\Zs 203 #[(.string s2),V6 n7,V6 64] w6 λv8 w9=>∃n10 v11,v8= .tuple #[V6 n10,v11]/\R (.tuple #[V6 n10,.bool true]) w9)) (λj12=>cond (ByteArray.toList s2==ByteArray.toList (ByteArray.mk #[])) (j12 true w4) (cond (decide ((((ByteArray.size s2):Nat):Int) > n3)) (j12 true w4)
 (Zs 121 #[(.string s2),(.func (.func 202) #[] #[(.pointer (some (nw w)))])] w4 λv13 w14=>∃b15,v13= .bool b15/\j12 (!b15) w14)))) (λj16=>Zs 199 #[(.string a),(.string (ByteArray.mk #[48,120]))] w1 λv17 w18=>∃s19 b20,v17= .tuple #[(.string s19),.bool b20]/\cond b20 ((St1 w18 (nw w))/\bindW (World.setCell w18 (nw w) (V6 16)) λw21=>j16 s19 (7:Int) w21) (JoinP [.bool] (λ(b22:Bool)=>λw23=>cond b22 (R (.tuple #[V6 0,.bool false]) w23) (j16 a (9:Int) w23)) (λj24=>cond (decide ((((ByteArray.size a):Nat):Int) > 1)) ((inR (0:Int) (ByteArray.size a))/\
 j24 ((((UInt8.toNat (@ByteArray.get! a (@Int.toNat (@OfNat.ofNat @Int 0 (@instOfNat 0))))):Nat):Int)==48) w18) (j24 false w18))))
theorem q174W (a w R) (h:q174F a w R):Zs 186 #[(.string a)] w R:=
 sp Tryz.func186 h
def q169F (a b:ByteArray) (w:World) (R:KV):Prop:=
 Zs 201 #[(.string b),(.string (ByteArray.mk #[44]))] w λv0 w1=>Zs 201 #[(.string a),(.string (ByteArray.mk #[44]))] w1 λv2 w3=>∃m4,xL v2 m4/\LoopP [.int .i64] (λj5=>λ(n6:Int)=>λw7=>cond (decide (n6 < (m4:Int))) (∃a8,sliceAt v2 n6 1=some a8/\∃s9,cT w7 a8 s9/\Zs 140 #[v0,(.string s9)] w7 λv10 w11=>∃b12,v10= .bool b12/\cond b12 (R (.tuple #[(.string s9),.bool true]) w11) (j5 (IntKind.wrap .i64 (n6+1)) w11)) (R (.tuple #[(.string (ByteArray.mk #[])),.bool false]) w7)) (λs13=>s13 (0:Int) w3)
theorem q169W (a b w R) (h:q169F a b w R):Zs 183 #[(.string a),(.string b)] w R:=
 sp Tryz.func183 h
def q172F (a:ByteArray) (w:World) (R:KV):Prop:=
 Zs 199 #[(.string a),(.string (ByteArray.mk #[105,113,110,46]))] w λv0 w1=>∃s2 b3,v0= .tuple #[(.string s2),.bool b3]/\JoinP [.bool] (λ(b4:Bool)=>λw5=>R (.bool b4) w5) (λj6=>cond b3 (cond (!(ByteArray.toList s2==ByteArray.toList (ByteArray.mk #[]))) (cond (decide ((((ByteArray.size s2):Nat):Int)<=219)) (Zs 121 #[(.string s2),(.func (.func 200) #[] #[])] w1 λv7 w8=>∃b9,v7= .bool b9/\j6 b9 w8) (j6 false w1)) (j6 false w1)) (j6 false w1))
theorem q172W (a w R) (h:q172F a w R):Zs 176 #[(.string a)] w R:=
 sp Tryz.func176 h
def q147F (a b:ByteArray) (w:World) (R:KV):Prop:=
 Zs 213 #[(.string a),(.string b)] w λv0 w1=>∃s2 b3,v0= .tuple #[(.string s2),.bool b3]/\R (.tuple #[(.string s2),.bool b3]) w1
theorem q147W (a b w R) (h:q147F a b w R):Zs 199 #[(.string a),(.string b)] w R:=
 sp Tryz.func199 h
def q175F (a:Int) (b:Value) (w:World) (R:KV):Prop:=
 JoinP [.bool] (λ(b0:Bool)=>λw1=>R (.bool b0) w1) (λj2=>Zs 119 #[V8 a,V8 48,V8 57] w λv3 w4=>∃b5,v3= .bool b5/\cond b5 (j2 true w4) (withAddr b λa6=>∃n7,cI .i64 w4 a6 n7/\cond (n7==16) (Zs 119 #[V8 a,V8 97,V8 102] w4 λv8 w9=>∃b10,v8= .bool b10/\cond b10 (j2 true w9) (Zs 119 #[V8 a,V8 65,V8 70] w9 λv11 w12=>∃b13,v11= .bool b13/\j2 b13 w12)) (j2 false w4)))
theorem q175W (a b w R) (h:q175F a b w R):Zs 202 #[V8 a,b] w R:=
 sp Tryz.func202 h
def q176F (a b c:Int) (w:World) (R:KV):Prop:=
 JoinP [.bool] (λ(b0:Bool)=>λw1=>R (.bool b0) w1) (λj2=>cond (decide (a≥b)) (j2 (decide (a<=c)) w) (j2 false w))
theorem q176W (a b c w R) (h:q176F a b c w R):Zs 119 #[V8 a,V8 b,V8 c] w R:=
 sp Tryz.func119 h
def q177F (a:ByteArray) (b:Value) (w:World) (R:KV):Prop:=
 LoopP [.int .i64] (λj0=>λ(n1:Int)=>λw2=>cond (decide (n1 < (((ByteArray.size a):Nat):Int))) ((inR n1 (ByteArray.size a))/\CW.callU Tryz.prog b #[(V8 (((UInt8.toNat (@ByteArray.get! a (@Int.toNat n1))):Nat):Int))] w2 λv3 w4=>∃b5,v3= .bool b5/\cond (!b5) (R (.bool false) w4) (j0 (IntKind.wrap .i64 (n1+1)) w4)) (R (.bool true) w2)) (λs6=>s6 (0:Int) w)
theorem q177W (a b w R) (h:q177F a b w R):Zs 121 #[(.string a),b] w R:=
 sp Tryz.func121 h
def q128F (a:Value) (b:ByteArray) (w:World) (R:KV):Prop:=
 Zs 185 #[a,(.string b)] w λv0 w1=>∃n2,v0=V6 n2/\R (.bool (decide (n2≥0))) w1
theorem q128W (a b w R) (h:q128F a b w R):Zs 140 #[a,(.string b)] w R:=
 sp Tryz.func140 h
def q173F (a:Int) (w:World) (R:KV):Prop:=
 JoinP [.bool] (λ(b0:Bool)=>λw1=>R (.bool b0) w1) (λj2=>Zs 119 #[V8 a,V8 97,V8 122] w λv3 w4=>∃b5,v3= .bool b5/\cond b5 (j2 true w4) (Zs 119 #[V8 a,V8 48,V8 57] w4 λv6 w7=>∃b8,v6= .bool b8/\cond b8 (j2 true w7) (cond (a==46) (j2 true w7) (cond (a==45) (j2 true w7) (j2 (a==58) w7)))))
theorem q173W (a w R) (h:q173F a w R):Zs 200 #[V8 a] w R:=
 sp Tryz.func200 h
def q148F (a b:ByteArray) (w:World) (R:KV):Prop:=
 Zs 221 #[(.string a),(.string b)] w λv0 w1=>∃b2,v0= .bool b2/\cond (!b2) (R (.tuple #[(.string a),.bool false]) w1) (∃m3 m4 m5,((Go.CW.boundsOf (ByteArray.size a) (ByteArray.size a) (some (V6 (((ByteArray.size b):Nat):Int))) none none)=(some (m3,(m4,m5))))/\R (.tuple #[(.string (ByteArray.extract a m3 m4)),.bool true]) w1)
theorem q148W (a b w R) (h:q148F a b w R):Zs 213 #[(.string a),(.string b)] w R:=
 sp Tryz.func213 h
def q135F (a:Value) (b:ByteArray) (w:World) (R:KV):Prop:=
 ∃m0,sliceLen a=some m0/\LoopP [.int .i64] (λj1=>λ(n2:Int)=>λw3=>cond (decide (n2 < (m0:Int))) (∃a4,sliceAt a n2 1=some a4/\∃s5,cT w3 a4 s5/\cond (ByteArray.toList b==ByteArray.toList s5) (R (V6 n2) w3) (j1 (IntKind.wrap .i64 (n2+1)) w3)) (R (V6 (-1:Int)) w3)) (λs6=>s6 (0:Int) w)
theorem q135W (a b w R) (h:q135F a b w R):Zs 185 #[a,(.string b)] w R:=
 sp Tryz.func185 h
def q149F (a b:ByteArray) (w:World) (R:KV):Prop:=
 JoinP [.bool] (λ(b0:Bool)=>λw1=>R (.bool b0) w1) (λj2=>cond (decide ((((ByteArray.size a):Nat):Int)≥(((ByteArray.size b):Nat):Int))) (∃m3 m4 m5,((Go.CW.boundsOf (ByteArray.size a) (ByteArray.size a) none (some (V6 (((ByteArray.size b):Nat):Int))) none)=(some (m3,(m4,m5))))/\j2 (ByteArray.toList (ByteArray.extract a m3 m4)==ByteArray.toList b) w) (j2 false w))
theorem q149W (a b w R) (h:q149F a b w R):Zs 221 #[(.string a),(.string b)] w R:=
 sp Tryz.func221 h
def q167F (a b:ByteArray) (w:World) (R:KV):Prop:=
 Zs 187 #[(.string a)] w λv0 w1=>∃b2 b3,v0= .tuple #[.bool b2,.bool b3]/\Zs 187 #[(.string b)] w1 λv4 w5=>∃b6 b7,v4= .tuple #[.bool b6,.bool b7]/\JoinP [.bool] (λ(b8:Bool)=>λw9=>cond b8 (R (.tuple #[(.string (ByteArray.mk #[])),.bool false]) w9) (JoinP [.bool] (λ(b10:Bool)=>λw11=>cond b10 (R (.tuple #[(.string (ByteArray.mk #[89,101,115])),.bool true]) w11) (R (.tuple #[(.string (ByteArray.mk #[78,111])),.bool true]) w11)) (λj12=>cond b2 (j12 b6 w9) (j12 false w9)))) (λj13=>cond (!b3) (j13 true w5) (j13 (!b7) w5))
theorem q167W (a b w R) (h:q167F a b w R):Zs 181 #[(.string a),(.string b)] w R:=
 sp Tryz.func181 h
def q168F (a:ByteArray) (w:World) (R:KV):Prop:=
 JoinP [.bool,.bool] (λ(b0:Bool)=>λ(b1:Bool)=>λw2=>R (.tuple #[.bool b0,.bool b1]) w2) (λj3=>cond (ByteArray.toList a==ByteArray.toList (ByteArray.mk #[89,101,115])) (j3 (ByteArray.toList a==ByteArray.toList (ByteArray.mk #[89,101,115])) true w) (j3 (ByteArray.toList a==ByteArray.toList (ByteArray.mk #[89,101,115])) (ByteArray.toList a==ByteArray.toList (ByteArray.mk #[78,111])) w))
theorem q168W (a w R) (h:q168F a w R):Zs 187 #[(.string a)] w R:=
 sp Tryz.func187 h
end
section
open CW
def q171F (a:Value) (w:World) (R:KV):Prop:=
 ∃v0 w1,Sem.run Tryz.prog (Instr.makeMap 149 none) w= .ok v0 w1/\∃m2,xL a m2/\LoopP [.val,.bool,.int .i64] (λj3 v4=>λ(b5:Bool)=>λ(n6:Int)=>λw7=>cond (decide (n6 < (m2:Int))) (JoinP [.val,.bool] (λv8=>λ(b9:Bool)=>λw10=>j3 v8 b9 (IntKind.wrap .i64 (n6+1)) w10) (λj11=>∃a12,sliceAt a n6 2=some a12/\∃s13 s14,(ldCells w7 a12 2 #[(.string s13),(.string s14)])/\al w7 #[(.string (ByteArray.mk #[])),(.string (ByteArray.mk #[]))] 151 λw15=>sR w15 (nw w7) #[(.string s13),(.string s14)] λw16=>JoinP [.bool] (λ(b17:Bool)=>λw18=>
 ∃s19,cT w18 (ad w7 0) s19/\∃w20,((Sem.run Tryz.prog (Instr.mapUpdate 149 v0 (.string s19) (.bool true)) w18)=(.ok PUnit.unit w20))/\∃m21,xL v4 m21/\cond (decide ((m21:Int)<=4096)) (∃s22,cT w20 (ad w7 0) s22/\(((ByteArray.size s22)+1)<=9223372036854775807)/\∃s23,cT w20 (ad w7 1) s23/\(((ByteArray.size (s22++(ByteArray.mk #[61])))+(ByteArray.size s23))<=9223372036854775807)/\(((ByteArray.size ((s22++(ByteArray.mk #[61]))++s23))+1)<=9223372036854775807)/\∃v24 w25,aP 34 9 34 v4 (.string (((s22++(ByteArray.mk #[61]))++s23)++(ByteArray.mk #[0]))) w20 v24 w25/\
 j11 v24 b17 w25) (j11 v4 b17 w20)) (λj26=>cond b5 (j26 true w16) (∃s27 s28,(ldCells w16 (nw w7) 2 #[(.string s27),(.string s28)])/\Zs 73 #[(.agg #[(.string s27),(.string s28)])] w16 λv29 w30=>∃b31,v29= .bool b31/\cond (!b31) (j26 true w30) (∃s32,cT w30 (ad w7 0) s32/\∃b33,((Sem.run Tryz.prog (Instr.lookup 149 v0 (.string s32) false) w30)=(.ok (.bool b33) w30))/\j26 b33 w30))))) (cond b5 (R (.tuple #[nvc,V6 1]) w7) (∃m34,xL v4 m34/\cond (decide ((m34:Int) > 4096)) (R (.tuple #[nvc,V6 5]) w7) (Zs 50 #[v4] w7 λv35 w36=>R (.tuple #[v35,V6 0]) w36))))
 (λs37=>s37 nvc false (0:Int) w1)
theorem q171W (a w R) (h:q171F a w R):Zs 45 #[a] w R:=
 sp Tryz.func45 h
def q170F (a:Value) (w:World) (R:KV):Prop:=
 ∃m0,sliceLen a=some m0/\cond (decide ((m0:Int) > 4096)) (R (.tuple #[nvc,V6 5]) w) (∃v1 w2,Sem.run Tryz.prog (Instr.makeMap 149 none) w= .ok v1 w2/\∃s3,((Sem.run Tryz.prog (Go.convert 34 9 a) w2)=(.ok (.string s3) w2))/\LoopP [.val,.str] (λj4 v5=>λ(s6:ByteArray)=>λw7=>cond (!(ByteArray.toList s6==ByteArray.toList (ByteArray.mk #[]))) (Zs 137 #[(.string s6),(.string (ByteArray.mk #[0]))] w7 λv8 w9=>∃s10 s11 b12,v8= .tuple #[(.string s10),(.string s11),.bool b12]/\Zs 137 #[(.string s10),(.string (ByteArray.mk #[61]))] w9 λv13 w14=>
 ∃s15 s16 b17,v13= .tuple #[(.string s15),(.string s16),.bool b17]/\al w14 #[(.string (ByteArray.mk #[])),(.string (ByteArray.mk #[]))] 151 λw18=>sR w18 (nw w14) #[(.string s15),(.string s16)] λw19=>JoinP [.bool] (λ(b20:Bool)=>λw21=>cond b20 (R (.tuple #[nvc,V6 2]) w21) (∃w22,((Sem.run Tryz.prog (Instr.mapUpdate 149 v1 (.string s15) (.bool true)) w21)=(.ok PUnit.unit w22))/\∃s23 s24,(ldCells w22 (nw w14) 2 #[(.string s23),(.string s24)])/\al w22 #[(.string s23),(.string s24)] 151 λw25=>∃v26 w27,aP 115 115 115 v5 (.slice (some (nw w22)) 1 1) w25 v26 w27/\
 j4 v26 s11 w27)) (λj28=>cond (!b12) (j28 true w19) (cond (!b17) (j28 true w19) (∃s29 s30,(ldCells w19 (nw w14) 2 #[(.string s29),(.string s30)])/\Zs 73 #[(.agg #[(.string s29),(.string s30)])] w19 λv31 w32=>∃b33,v31= .bool b33/\cond (!b33) (j28 true w32) (∃b34,((Sem.run Tryz.prog (Instr.lookup 149 v1 (.string s15) false) w32)=(.ok (.bool b34) w32))/\j28 b34 w32))))) (Zs 138 #[v5] w7 λv35 w36=>R (.tuple #[v35,V6 0]) w36)) (λs37=>s37 nvc s3 w2))
theorem q170W (a w R) (h:q170F a w R):Zs 88 #[a] w R:=
 sp Tryz.func88 h
def q178F (a b:ByteArray) (w:World) (R:KV):Prop:=
 bindW (World.alloc w (.cells #[(.string a),(.string b)] 151)) λw0=>JoinP [.bool] (λ(b1:Bool)=>λw2=>R (.bool b1) w2) (λj3=>∃s4,cT w0 (ad w 0) s4/\cond (!(ByteArray.toList s4==ByteArray.toList (ByteArray.mk #[]))) (∃s5,cT w0 (ad w 0) s5/\cond (decide ((((ByteArray.size s5):Nat):Int)<=63)) (∃s6,cT w0 (ad w 0) s6/\Zs 121 #[(.string s6),(.func (.func 118) #[] #[])] w0 λv7 w8=>∃b9,v7= .bool b9/\cond b9 (∃s10,cT w8 (ad w 1) s10/\cond (decide ((((ByteArray.size s10):Nat):Int)<=255)) (∃s11,cT w8 (ad w 1) s11/\
 Zs 120 #[(.string s11),V8 0] w8 λv12 w13=>∃n14,v12=V6 n14/\j3 (decide (n14 < 0)) w13) (j3 false w8)) (j3 false w8)) (j3 false w0)) (j3 false w0))
theorem q178W (a b w R) (h:q178F a b w R):Zs 73 #[(.agg #[(.string a),(.string b)])] w R:=
 sp Tryz.func73 h
def q179F (a:Int) (w:World) (R:KV):Prop:=
 JoinP [.bool] (λ(b0:Bool)=>λw1=>R (.bool b0) w1) (λj2=>Zs 119 #[V8 a,V8 65,V8 90] w λv3 w4=>∃b5,v3= .bool b5/\cond b5 (j2 true w4) (Zs 119 #[V8 a,V8 97,V8 122] w4 λv6 w7=>∃b8,v6= .bool b8/\cond b8 (j2 true w7) (Zs 119 #[V8 a,V8 48,V8 57] w7 λv9 w10=>∃b11,v9= .bool b11/\cond b11 (j2 true w10) (Zs 120 #[(.string (ByteArray.mk #[46,45,43,64,95])),V8 a] w10 λv12 w13=>∃n14,v12=V6 n14/\j2 (decide (n14≥0)) w13))))
theorem q179W (a w R) (h:q179F a w R):Zs 118 #[V8 a] w R:=
 sp Tryz.func118 h
def q120F (a:Value) (w:World) (R:KV):Prop:=
 ∃m0,sliceLen a=some m0/\∃m1,xL a m1/\∃v2,((subSlice a 2 none (some (V6 (m0:Nat))) (some (V6 (m1:Nat))))=(some v2))/\R v2 w
theorem q120W (a w R) (h:q120F a w R):Zs 138 #[a] w R:=
 sp Tryz.func138 h
def q146F (a:Int) (w:World) (R:KV):Prop:=
 R (V8 (bitsI .or .u8 a (32:Int))) w
theorem q146W (a w R) (h:q146F a w R):Zs 234 #[V8 a] w R:=
 sp Tryz.func234 h
end
section
open CW
def q145F (a:ByteArray) (b c:Int) (w:World) (R:KV):Prop:=
 cond (ByteArray.toList a==ByteArray.toList (ByteArray.mk #[])) (∃v0,Sem.run Tryz.prog (Instr.makeInterface 292 (V6 2)) w= .ok v0 w/\R (.tuple #[V7 0,v0]) w) (JoinP [.str,.int .i64] (λ(s1:ByteArray)=>λ(n2:Int)=>λw3=>JoinP [.int .i64] (λ(n4:Int)=>λw5=>JoinP [.int .u64] (λ(n6:Int)=>λw7=>leK (IntKind.wrap .u64 n4) (∃v8 w9,Sem.run Tryz.prog (Go.convert 9 34 (.string s1)) w7= .ok v8 w9/\∃m10,xL v8 m10/\LoopP [.bool,.int .u64,.int .i64] (λj11=>λ(b12:Bool)=>λ(n13:Int)=>λ(n14:Int)=>λw15=>cond (decide (n14 < (m10:Int)))
 (JoinP [.bool,.int .u64] (λ(b16:Bool)=>λ(n17:Int)=>λw18=>j11 b16 n17 (IntKind.wrap .i64 (n14+1)) w18) (λj19=>∃a20,sliceAt v8 n14 1=some a20/\∃n21,cI .u8 w15 a20 n21/\JoinP [.bool,.int .u8] (λ(b22:Bool)=>λ(n23:Int)=>λw24=>cond (decide (n23≥(IntKind.wrap .u8 n2))) (∃v25,Sem.run Tryz.prog (Instr.makeInterface 292 (V6 2)) w24= .ok v25 w24/\R (.tuple #[V7 0,v25]) w24) (cond (decide (n13≥n6)) (∃v26,Sem.run Tryz.prog (Instr.makeInterface 292 (V6 1)) w24= .ok v26 w24/\
 R (.tuple #[(V7 (IntKind.wrap .u64 ((IntKind.wrap .u64 ((1:Int)*((2:Int) ^ (min (Int.toNat (IntKind.wrap .u64 n4)) 64)))) - 1))),v26]) w24) (JoinP [.bool] (λ(b27:Bool)=>λw28=>cond b27 (∃v29,Sem.run Tryz.prog (Instr.makeInterface 292 (V6 1)) w28= .ok v29 w28/\R (.tuple #[(V7 (IntKind.wrap .u64 ((IntKind.wrap .u64 ((1:Int)*((2:Int) ^ (min (Int.toNat (IntKind.wrap .u64 n4)) 64)))) - 1))),v29]) w28) (j19 b22 (IntKind.wrap .u64 ((IntKind.wrap .u64 (n13*(IntKind.wrap .u64 n2)))+(IntKind.wrap .u64 n23))) w28)) (λj30=>
 cond (decide ((IntKind.wrap .u64 ((IntKind.wrap .u64 (n13*(IntKind.wrap .u64 n2)))+(IntKind.wrap .u64 n23))) < (IntKind.wrap .u64 (n13*(IntKind.wrap .u64 n2))))) (j30 true w24) (j30 (decide ((IntKind.wrap .u64 ((IntKind.wrap .u64 (n13*(IntKind.wrap .u64 n2)))+(IntKind.wrap .u64 n23))) > (IntKind.wrap .u64 ((IntKind.wrap .u64 ((1:Int)*((2:Int) ^ (min (Int.toNat (IntKind.wrap .u64 n4)) 64)))) - 1)))) w24))))) (λj31=>JoinP [.bool] (λ(b32:Bool)=>λw33=>cond b32 (j19 true n13 w33) (JoinP [.bool] (λ(b34:Bool)=>λw35=>cond b34
 (j31 b12 (IntKind.wrap .u8 (n21 - 48)) w35) (JoinP [.bool] (λ(b36:Bool)=>λw37=>cond b36 (Zs 234 #[V8 n21] w37 λv38 w39=>∃n40,v38=V8 n40/\j31 b12 (IntKind.wrap .u8 ((IntKind.wrap .u8 (n40 - 97))+10)) w39) (∃v41,Sem.run Tryz.prog (Instr.makeInterface 292 (V6 2)) w37= .ok v41 w37/\R (.tuple #[V7 0,v41]) w37)) (λj42=>Zs 234 #[V8 n21] w35 λv43 w44=>∃n45,v43=V8 n45/\cond (decide ((97:Int)<=n45)) (Zs 234 #[V8 n21] w44 λv46 w47=>∃n48,v46=V8 n48/\j42 (decide (n48<=122)) w47) (j42 false w44)))) (λj49=>cond (decide ((48:Int)<=n21))
 (j49 (decide (n21<=57)) w33) (j49 false w33)))) (λj50=>cond (n21==95) (j50 (b==0) w15) (j50 false w15))))) (JoinP [.bool] (λ(b51:Bool)=>λw52=>cond b51 (∃v53,Sem.run Tryz.prog (Instr.makeInterface 292 (V6 2)) w52= .ok v53 w52/\R (.tuple #[V7 0,v53]) w52) (R (.tuple #[V7 n13,.nilIface]) w52)) (λj54=>cond b12 (Zs 235 #[(.string a)] w15 λv55 w56=>∃b57,v55= .bool b57/\j54 (!b57) w56) (j54 false w15)))) (λs58=>s58 false (0:Int) (0:Int) w9))) (λj59=>cond (n2==10) (j59 (1844674407370955162:Int) w5) (cond (n2==16)
 (j59 (1152921504606846976:Int) w5) (nzK (IntKind.wrap .u64 n2) (j59 (IntKind.wrap .u64 ((IntKind.wrap .u64 (Int.tdiv (18446744073709551615:Int) (IntKind.wrap .u64 n2)))+1)) w5))))) (λj60=>cond (c==0) (j60 (64:Int) w3) (JoinP [.bool] (λ(b61:Bool)=>λw62=>cond b61 (∃v63,Sem.run Tryz.prog (Instr.makeInterface 292 (V6 4)) w62= .ok v63 w62/\R (.tuple #[V7 0,v63]) w62) (j60 c w62)) (λj64=>cond (decide (c < 0)) (j64 true w3) (j64 (decide (c > 64)) w3))))) (λj65=>JoinP [.bool] (λ(b66:Bool)=>λw67=>cond b66 (j65 a b w67) (cond (b==0)
 ((inR (0:Int) (ByteArray.size a))/\cond ((((UInt8.toNat (@ByteArray.get! a (@Int.toNat (@OfNat.ofNat @Int 0 (@instOfNat 0))))):Nat):Int)==48) (JoinP [.str,.int .i64] (λ(s68:ByteArray)=>λ(n69:Int)=>λw70=>j65 s68 n69 w70) (λj71=>JoinP [.bool] (λ(b72:Bool)=>λw73=>cond b72 (∃m74 m75 m76,((Go.CW.boundsOf (ByteArray.size a) (ByteArray.size a) (some (V6 2)) none none)=(some (m74,(m75,m76))))/\j71 (ByteArray.extract a m74 m75) (2:Int) w73) (JoinP [.bool] (λ(b77:Bool)=>λw78=>cond b77
 (∃m79 m80 m81,((Go.CW.boundsOf (ByteArray.size a) (ByteArray.size a) (some (V6 2)) none none)=(some (m79,(m80,m81))))/\j71 (ByteArray.extract a m79 m80) (8:Int) w78) (JoinP [.bool] (λ(b82:Bool)=>λw83=>cond b82 (∃m84 m85 m86,((Go.CW.boundsOf (ByteArray.size a) (ByteArray.size a) (some (V6 2)) none none)=(some (m84,(m85,m86))))/\j71 (ByteArray.extract a m84 m85) (16:Int) w83) (∃m87 m88 m89,((Go.CW.boundsOf (ByteArray.size a) (ByteArray.size a) (some (V6 1)) none none)=(some (m87,(m88,m89))))/\j71 (ByteArray.extract a m87 m88) (8:Int) w83)) (λj90=>
 cond (decide ((((ByteArray.size a):Nat):Int)≥3)) ((inR (1:Int) (ByteArray.size a))/\Zs 234 #[(V8 (((UInt8.toNat (@ByteArray.get! a (@Int.toNat (@OfNat.ofNat @Int 1 (@instOfNat 1))))):Nat):Int))] w78 λv91 w92=>∃n93,v91=V8 n93/\j90 (n93==120) w92) (j90 false w78)))) (λj94=>cond (decide ((((ByteArray.size a):Nat):Int)≥3)) ((inR (1:Int) (ByteArray.size a))/\Zs 234 #[(V8 (((UInt8.toNat (@ByteArray.get! a (@Int.toNat (@OfNat.ofNat @Int 1 (@instOfNat 1))))):Nat):Int))] w73 λv95 w96=>∃n97,v95=V8 n97/\j94 (n97==111) w96) (j94 false w73)))) (λj98=>
 cond (decide ((((ByteArray.size a):Nat):Int)≥3)) ((inR (1:Int) (ByteArray.size a))/\Zs 234 #[(V8 (((UInt8.toNat (@ByteArray.get! a (@Int.toNat (@OfNat.ofNat @Int 1 (@instOfNat 1))))):Nat):Int))] w67 λv99 w100=>∃n101,v99=V8 n101/\j98 (n101==98) w100) (j98 false w67)))) (j65 a (10:Int) w67)) (∃v102,Sem.run Tryz.prog (Instr.makeInterface 292 (V6 3)) w67= .ok v102 w67/\R (.tuple #[V7 0,v102]) w67))) (λj103=>cond (decide ((2:Int)<=b)) (j103 (decide (b<=36)) w) (j103 false w))))
theorem q145W (a b c w R) (h:q145F a b c w R):Zs 225 #[(.string a),V6 b,V6 c] w R:=
 sp Tryz.func225 h
end
section
open CW
def q144F (a:ByteArray) (b c:Int) (w:World) (R:KV):Prop:=
 Zs 215 #[(.string a),V6 b,V6 c] w λv0 w1=>∃n2 v3,v0= .tuple #[V6 n2,v3]/\∃b4,((Sem.run Tryz.prog (Go.binOp Go.BinOp.neq 278 v3 .nilIface) w1)=(.ok (.bool b4) w1))/\(∀(a5:@Go.Operand),∀(v6:@Go.Value),(Sem.run Tryz.prog (Go.eqGuard Go.BinOp.neq 278 a5 (@Go.Operand.const v6) v3 .nilIface) w1)=(.ok PUnit.unit w1))/\cond b4 (Zs 216 #[(.string (ByteArray.mk #[80,97,114,115,101,73,110,116])),(.string a),V6 b,V6 c,v3] w1 λv7 w8=>R (.tuple #[V6 n2,v7]) w8) (R (.tuple #[V6 n2,.nilIface]) w1)
theorem q144W (a b c w R) (h:q144F a b c w R):Zs 203 #[(.string a),V6 b,V6 c] w R:=
 sp Tryz.func203 h
end
section
open CW
def q64F (a:ByteArray) (b c:Int) (w:World) (R:KV):Prop:=
 cond (ByteArray.toList a==ByteArray.toList (ByteArray.mk #[])) (∃v0,Sem.run Tryz.prog (Instr.makeInterface 292 (V6 2)) w= .ok v0 w/\R (.tuple #[V6 0,v0]) w) ((inR (0:Int) (ByteArray.size a))/\JoinP [.str,.bool] (λ(s1:ByteArray)=>λ(b2:Bool)=>λw3=>Zs 225 #[(.string s1),V6 b,V6 c] w3 λv4 w5=>∃n6 v7,v4= .tuple #[V7 n6,v7]/\JoinP [.bool] (λ(b8:Bool)=>λw9=>cond b8 (R (.tuple #[V6 0,v7]) w9) (JoinP [.int .i64] (λ(n10:Int)=>λw11=>leK (IntKind.wrap .u64 (IntKind.wrap .i64 (n10 - 1))) (JoinP [.bool] (λ(b12:Bool)=>λw13=>cond b12
 (∃v14,Sem.run Tryz.prog (Instr.makeInterface 292 (V6 1)) w13= .ok v14 w13/\R (.tuple #[(V6 (IntKind.wrap .i64 (IntKind.wrap .u64 ((IntKind.wrap .u64 ((1:Int)*((2:Int) ^ (min (Int.toNat (IntKind.wrap .u64 (IntKind.wrap .i64 (n10 - 1)))) 64)))) - 1)))),v14]) w13) (JoinP [.bool] (λ(b15:Bool)=>λw16=>cond b15 (∃v17,Sem.run Tryz.prog (Instr.makeInterface 292 (V6 1)) w16= .ok v17 w16/\
 R (.tuple #[(V6 (IntKind.wrap .i64 ((0:Int) - (IntKind.wrap .i64 (IntKind.wrap .u64 ((1:Int)*((2:Int) ^ (min (Int.toNat (IntKind.wrap .u64 (IntKind.wrap .i64 (n10 - 1)))) 64)))))))),v17]) w16) (JoinP [.int .i64] (λ(n18:Int)=>λw19=>R (.tuple #[V6 n18,.nilIface]) w19) (λj20=>cond b2 (j20 (IntKind.wrap .i64 ((0:Int) - (IntKind.wrap .i64 n6))) w16) (j20 (IntKind.wrap .i64 n6) w16)))) (λj21=>cond b2 (j21 (decide (n6 > (IntKind.wrap .u64 ((1:Int)*((2:Int) ^ (min (Int.toNat (IntKind.wrap .u64 (IntKind.wrap .i64 (n10 - 1)))) 64)))))) w13) (j21 false w13))))
 (λj22=>cond (!b2) (j22 (decide (n6≥(IntKind.wrap .u64 ((1:Int)*((2:Int) ^ (min (Int.toNat (IntKind.wrap .u64 (IntKind.wrap .i64 (n10 - 1)))) 64)))))) w11) (j22 false w11)))) (λj23=>cond (c==0) (j23 (64:Int) w9) (j23 c w9)))) (λj24=>∃b25,((Sem.run Tryz.prog (Go.binOp Go.BinOp.neq 278 v7 .nilIface) w5)=(.ok (.bool b25) w5))/\(∀(a26:@Go.Operand),∀(v27:@Go.Value),(Sem.run Tryz.prog (Go.eqGuard Go.BinOp.neq 278 a26 (@Go.Operand.const v27) v7 .nilIface) w5)=(.ok PUnit.unit w5))/\cond b25
 (∃v28,Sem.run Tryz.prog (Instr.makeInterface 292 (V6 1)) w5= .ok v28 w5/\∃b29,((Sem.run Tryz.prog (Go.binOp Go.BinOp.neq 278 v7 v28) w5)=(.ok (.bool b29) w5))/\(∀(a30:@Go.Operand),∀(b31:@Go.Operand),(Sem.run Tryz.prog (Go.eqGuard Go.BinOp.neq 278 a30 b31 v7 v28) w5)=(.ok PUnit.unit w5))/\j24 b29 w5) (j24 false w5))) (λj32=>cond ((((UInt8.toNat (@ByteArray.get! a (@Int.toNat (@OfNat.ofNat @Int 0 (@instOfNat 0))))):Nat):Int)==43) (∃m33 m34 m35,((Go.CW.boundsOf (ByteArray.size a) (ByteArray.size a) (some (V6 1)) none none)=(some (m33,(m34,m35))))/\
 j32 (ByteArray.extract a m33 m34) false w) (cond ((((UInt8.toNat (@ByteArray.get! a (@Int.toNat (@OfNat.ofNat @Int 0 (@instOfNat 0))))):Nat):Int)==45) (∃m36 m37 m38,((Go.CW.boundsOf (ByteArray.size a) (ByteArray.size a) (some (V6 1)) none none)=(some (m36,(m37,m38))))/\j32 (ByteArray.extract a m36 m37) true w) (j32 a false w))))
theorem q64W (a b c w R) (h:q64F a b c w R):Zs 215 #[(.string a),V6 b,V6 c] w R:=
 sp Tryz.func215 h
end
section
open CW
def q65F (a:ByteArray) (b c:Int) (d e:Bool) (w:World) (R:KV):Prop:=
 bindW (World.alloc w (.cells #[(.string a),V6 b,V6 c,.bool d,.bool e] 60)) λw0=>JoinP [.str] (λ(s1:ByteArray)=>λw2=>dW w2 λw3=>∃s4,cT w3 (ad w 0) s4/\∃n5,cI .i64 w3 (ad w 1) n5/\∃n6,cI .i64 w3 (ad w 2) n6/\∃b7,cB w3 (ad w 3) b7/\dW w2 λw8=>Zs 74 #[V6 n5] w8 λv9 w10=>∃s11,(v9=(.string s11))/\(∃s12,cT w10 (ad w 0) s12/\((.string s12):Value)=(.string s4))/\(∃n13,cI .i64 w10 (ad w 2) n13/\((V6 n13):Value)=(V6 n6))/\(∃b14,cB w10 (ad w 3) b14/\((.bool b14):Value)=(.bool b7))/\Zs 74 #[V6 n6] w10 λv15 w16=>∃s17,(v15=(.string s17))/\
 (∃s18,cT w16 (ad w 0) s18/\((.string s18):Value)=(.string s4))/\(∃b19,cB w16 (ad w 3) b19/\((.bool b19):Value)=(.bool b7))/\Zs 75 #[.bool b7] w16 λv20 w21=>∃s22,(v20=(.string s22))/\(∃s23,cT w21 (ad w 0) s23/\((.string s23):Value)=(.string s4))/\
 al w21 #[(.string (ByteArray.mk #[73,110,105,116,105,97,116,111,114,78,97,109,101])),(.string s4),(.string (ByteArray.mk #[77,97,120,82,101,99,118,68,97,116,97,83,101,103,109,101,110,116,76,101,110,103,116,104])),(.string s11),(.string (ByteArray.mk #[77,97,120,66,117,114,115,116,76,101,110,103,116,104])),(.string s17),(.string (ByteArray.mk #[73,109,109,101,100,105,97,116,101,68,97,116,97])),(.string s22),(.string (ByteArray.mk #[72,101,97,100,101,114,68,105,103,101,115,116])),(.string s1)] 151 λw24=>
 al w21 #[(.string (ByteArray.mk #[73,110,105,116,105,97,116,111,114,78,97,109,101])),(.string s4),(.string (ByteArray.mk #[77,97,120,82,101,99,118,68,97,116,97,83,101,103,109,101,110,116,76,101,110,103,116,104])),(.string s11),(.string (ByteArray.mk #[77,97,120,66,117,114,115,116,76,101,110,103,116,104])),(.string s17),(.string (ByteArray.mk #[73,109,109,101,100,105,97,116,101,68,97,116,97])),(.string s22),(.string (ByteArray.mk #[72,101,97,100,101,114,68,105,103,101,115,116])),(.string s1)] 151 λw25=>
 R (.slice (some (nw w21)) 5 5) w25) (λj26=>∃b27,cB w0 (ad w 4) b27/\cond b27 (j26 (ByteArray.mk #[67,82,67,51,50,67,44,78,111,110,101]) w0) (j26 (ByteArray.mk #[78,111,110,101]) w0))
theorem q65W (a b c d e w R) (h:q65F a b c d e w R):Zs 46 #[(.agg #[(.string a),V6 b,V6 c,.bool d,.bool e])] w R:=
 sp Tryz.func46 h
def q77F (a:Bool) (w:World) (R:KV):Prop:=
 cond a (R (.string (ByteArray.mk #[89,101,115])) w) (R (.string (ByteArray.mk #[78,111])) w)
theorem q77W (a w R) (h:q77F a w R):Zs 75 #[.bool a] w R:=
 sp Tryz.func75 h
def q66F (a:ByteArray) (b c:Int) (d e:Bool) (f g:Value) (w:World) (R:KV):Prop:=
 bindW (World.alloc w (.cells #[(.string a),V6 b,V6 c,.bool d,.bool e] 60)) λw0=>al w0 #[(.string (ByteArray.mk #[])),V6 0,V6 0,.bool false,.bool false] 60 λw1=>∃s2 n3 n4 b5 b6,(ldCells w1 ⟨w.heap.size,0,none⟩ 5 #[(.string s2),V6 n3,V6 n4,.bool b5,.bool b6])/\al w1 #[(.string (ByteArray.mk #[])),V6 0,V6 0,.bool false,.bool false] 60 λw7=>sR w7 ⟨w1.heap.size,0,none⟩ #[(.string s2),V6 n3,V6 n4,.bool b5,.bool b6] λw8=>sC w8 (Addr.add ⟨w1.heap.size,0,none⟩ 0) (.string (ByteArray.mk #[])) λw9=>
 sC w9 (Addr.add ⟨w1.heap.size,0,none⟩ 4) (.bool false) λw10=>Zs 139 #[] w10 λv11 w12=>∃m13,xL g m13/\JoinP [.val,.int .i64] (λv14=>λ(n15:Int)=>λw16=>JoinP [.int .i64] (λ(n17:Int)=>λw18=>cond (n17 !=0) ((StRow w18 ⟨w0.heap.size,0,none⟩ #[(.string (ByteArray.mk #[])),V6 0,V6 0,.bool false,.bool false])/\bindW (stRow w18 ⟨w0.heap.size,0,none⟩ #[(.string (ByteArray.mk #[])),V6 0,V6 0,.bool false,.bool false]) λw19=>∃s20 n21 n22 b23 b24,(ldCells w19 ⟨w0.heap.size,0,none⟩ 5 #[(.string s20),V6 n21,V6 n22,.bool b23,.bool b24])/\
 R (.tuple #[nvc,(.agg #[(.string s20),V6 n21,V6 n22,.bool b23,.bool b24]),V6 n17]) w19) (dW w18 λw25=>∃s26 n27 n28 b29 b30,(ldCells w25 ⟨w1.heap.size,0,none⟩ 5 #[(.string s26),V6 n27,V6 n28,.bool b29,.bool b30])/\dW w18 λw31=>Zs 138 #[v14] w31 λv32 w33=>(∃s34 n35 n36 b37 b38,(ldCells w33 ⟨w1.heap.size,0,none⟩ 5 #[(.string s34),V6 n35,V6 n36,.bool b37,.bool b38])/\((.agg #[(.string s34),V6 n35,V6 n36,.bool b37,.bool b38]):Value)=(.agg #[(.string s26),V6 n27,V6 n28,.bool b29,.bool b30]))/\
 sR w33 ⟨w0.heap.size,0,none⟩ #[(.string s26),V6 n27,V6 n28,.bool b29,.bool b30] λw39=>bindW (stRow w33 ⟨w0.heap.size,0,none⟩ #[(.string s26),V6 n27,V6 n28,.bool b29,.bool b30]) λw40=>∃s41 n42 n43 b44 b45,(ldCells w40 ⟨w0.heap.size,0,none⟩ 5 #[(.string s41),V6 n42,V6 n43,.bool b44,.bool b45])/\R (.tuple #[v32,(.agg #[(.string s41),V6 n42,V6 n43,.bool b44,.bool b45]),V6 0]) w40)) (λj46=>cond (n15 !=0) (j46 n15 w16) (∃s47,cT w16 (Addr.add ⟨w1.heap.size,0,none⟩ 0) s47/\cond (ByteArray.toList s47==ByteArray.toList (ByteArray.mk #[])) (j46 (3:Int) w16)
 (∃s48,cT w16 (Addr.add ⟨w1.heap.size,0,none⟩ 0) s48/\Zs 140 #[f,(.string s48)] w16 λv49 w50=>∃b51,v49= .bool b51/\cond (!b51) (j46 (2:Int) w50) (j46 n15 w50))))) (λj52=>LoopP [.val,.int .i64,.int .i64] (λj53 v54=>λ(n55:Int)=>λ(n56:Int)=>λw57=>cond (decide (n56 < (m13:Int))) (JoinP [.val,.int .i64] (λv58=>λ(n59:Int)=>λw60=>j53 v58 n59 (IntKind.wrap .i64 (n56+1)) w60) (λj61=>∃a62,sliceAt g n56 2=some a62/\∃s63 s64,(ldCells w57 a62 2 #[(.string s63),(.string s64)])/\
 al w57 #[(.string (ByteArray.mk #[])),(.string (ByteArray.mk #[]))] 151 λw65=>sR w65 ⟨w57.heap.size,0,none⟩ #[(.string s63),(.string s64)] λw66=>∃s67,cT w66 (Addr.add ⟨w57.heap.size,0,none⟩ 0) s67/\∃v68 b69,((Sem.run Tryz.prog (Instr.lookup 218 v11 (.string s67) true) w66)=(.ok (.tuple #[v68,.bool b69]) w66))/\cond (!b69) (∃s70,cT w66 (Addr.add ⟨w57.heap.size,0,none⟩ 0) s70/\al w66 #[(.string s70),(.string (ByteArray.mk #[78,111,116,85,110,100,101,114,115,116,111,111,100]))] 151 λw71=>
 ∃v72 w73,aP 115 115 115 v54 (.slice (some ⟨w66.heap.size,0,none⟩) 1 1) w71 v72 w73/\j61 v72 n55 w73) (∃s74,cT w66 (Addr.add ⟨w57.heap.size,0,none⟩ 1) s74/\CW.callU Tryz.prog v68 #[(.pointer (some ⟨w1.heap.size,0,none⟩)),(.string s74)] w66 λv75 w76=>∃s77 b78 b79,v75= .tuple #[(.string s77),.bool b78,.bool b79]/\cond (!b79) (j52 v54 (1:Int) w76) (cond b78 (∃s80,cT w76 (Addr.add ⟨w57.heap.size,0,none⟩ 0) s80/\al w76 #[(.string s80),(.string s77)] 151 λw81=>∃v82 w83,aP 115 115 115 v54 (.slice (some ⟨w76.heap.size,0,none⟩) 1 1) w81 v82 w83/\j61 v82 n55 w83)
 (j61 v54 n55 w76))))) (j52 v54 n55 w57)) (λs84=>s84 nvc (0:Int) (0:Int) w12))
theorem q66W (a b c d e f g w R) (h:q66F a b c d e f g w R):Zs 89 #[(.agg #[(.string a),V6 b,V6 c,.bool d,.bool e]),f,g] w R:=
 sp Tryz.func89 h
def q67F  (w:World) (R:KV):Prop:=
 bindW (World.alloc w (.cells #[(.string (ByteArray.mk #[])),V6 0,V6 0,.bool false,.bool false] 60)) λw0=>sR w0 (nw w) #[(.string (ByteArray.mk #[])),V6 4096,V6 8192,.bool true,.bool true] λw1=>∃s2 n3 n4 b5 b6,(ldCells w1 (nw w) 5 #[(.string s2),V6 n3,V6 n4,.bool b5,.bool b6])/\R (.agg #[(.string s2),V6 n3,V6 n4,.bool b5,.bool b6]) w1
theorem q67W  (w:World) (R:KV) (h:q67F  w R):Zs 90 #[] w R:=
 sp Tryz.func90 h
def q69F  (w:World) (R:KV):Prop:=
 ∃v0 w1,Sem.run Tryz.prog (Instr.makeMap 218 none) w= .ok v0 w1/\∃w2,((Sem.run Tryz.prog (Instr.mapUpdate 218 v0 (.string (ByteArray.mk #[73,110,105,116,105,97,116,111,114,78,97,109,101])) (.func (.func 175) #[] #[])) w1)=(.ok PUnit.unit w2))/\∃w3,((Sem.run Tryz.prog (Instr.mapUpdate 218 v0 (.string (ByteArray.mk #[77,97,120,82,101,99,118,68,97,116,97,83,101,103,109,101,110,116,76,101,110,103,116,104])) (.func (.func 177) #[] #[])) w2)=(.ok PUnit.unit w3))/\
 ∃w4,((Sem.run Tryz.prog (Instr.mapUpdate 218 v0 (.string (ByteArray.mk #[77,97,120,66,117,114,115,116,76,101,110,103,116,104])) (.func (.func 179) #[] #[])) w3)=(.ok PUnit.unit w4))/\∃w5,((Sem.run Tryz.prog (Instr.mapUpdate 218 v0 (.string (ByteArray.mk #[73,109,109,101,100,105,97,116,101,68,97,116,97])) (.func (.func 180) #[] #[])) w4)=(.ok PUnit.unit w5))/\∃w6,((Sem.run Tryz.prog (Instr.mapUpdate 218 v0 (.string (ByteArray.mk #[72,101,97,100,101,114,68,105,103,101,115,116])) (.func (.func 182) #[] #[])) w5)=(.ok PUnit.unit w6))/\
 ∃w7,((Sem.run Tryz.prog (Instr.mapUpdate 218 v0 (.string (ByteArray.mk #[84,97,114,103,101,116,78,97,109,101])) (.func (.func 184) #[] #[])) w6)=(.ok PUnit.unit w7))/\R v0 w7
theorem q69W  (w:World) (R:KV) (h:q69F  w R):Zs 139 #[] w R:=
 sp Tryz.func139 h
def q70F (a:Option Addr) (b:ByteArray) (w:World) (R:KV):Prop:=
 withAddr (.pointer a) λa0=>sC w (Addr.add a0 0) (.string b) λw1=>Zs 176 #[(.string b)] w1 λv2 w3=>∃b4,v2= .bool b4/\R (.tuple #[(.string (ByteArray.mk #[])),.bool false,.bool b4]) w3
theorem q70W (a b w R) (h:q70F a b w R):Zs 175 #[.pointer a,(.string b)] w R:=
 sp Tryz.func175 h
def q71F (a:Option Addr) (b:ByteArray) (w:World) (R:KV):Prop:=
 withAddr (.pointer a) λa0=>Zs 178 #[(.pointer (some (Addr.add a0 1))),(.string b)] w λv1 w2=>∃b3,v1= .bool b3/\R (.tuple #[(.string (ByteArray.mk #[])),.bool false,.bool b3]) w2
theorem q71W (a b w R) (h:q71F a b w R):Zs 177 #[.pointer a,(.string b)] w R:=
 sp Tryz.func177 h
def q76F (a:Option Addr) (b:ByteArray) (w:World) (R:KV):Prop:=
 Zs 186 #[(.string b)] w λv0 w1=>∃n2 b3,v0= .tuple #[V6 n2,.bool b3]/\JoinP [.bool] (λ(b4:Bool)=>λw5=>cond b4 (R (.bool false) w5) (wA a λa6=>∃n7,cI .i64 w5 a6 n7/\wA a λa8=>sC w5 a8 (V6 (if n2 < n7 then n2 else n7)) λw9=>R (.bool true) w9)) (λj10=>cond (!b3) (j10 true w1) (cond (decide (n2 < 512)) (j10 true w1) (j10 (decide (n2 > 16777215)) w1)))
theorem q76W (a b w R) (h:q76F a b w R):Zs 178 #[.pointer a,(.string b)] w R:=
 sp Tryz.func178 h
def q72F (a:Option Addr) (b:ByteArray) (w:World) (R:KV):Prop:=
 withAddr (.pointer a) λa0=>Zs 178 #[(.pointer (some (Addr.add a0 2))),(.string b)] w λv1 w2=>∃b3,v1= .bool b3/\wA a λa4=>∃n5,cI .i64 w2 (Addr.add a4 2) n5/\Zs 74 #[V6 n5] w2 λv6 w7=>∃s8,(v6=(.string s8))/\R (.tuple #[(.string s8),.bool true,.bool b3]) w7
theorem q72W (a b w R) (h:q72F a b w R):Zs 179 #[.pointer a,(.string b)] w R:=
 sp Tryz.func179 h
def q73F (a:Option Addr) (b:ByteArray) (w:World) (R:KV):Prop:=
 withAddr (.pointer a) λa0=>∃b1,cB w (Addr.add a0 3) b1/\Zs 75 #[.bool b1] w λv2 w3=>∃s4,(v2=(.string s4))/\Zs 181 #[(.string s4),(.string b)] w3 λv5 w6=>∃s7 b8,v5= .tuple #[(.string s7),.bool b8]/\wA a λa9=>sC w6 (Addr.add a9 3) (.bool (ByteArray.toList s7==ByteArray.toList (ByteArray.mk #[89,101,115]))) λw10=>R (.tuple #[(.string s7),.bool true,.bool b8]) w10
theorem q73W (a b w R) (h:q73F a b w R):Zs 180 #[.pointer a,(.string b)] w R:=
 sp Tryz.func180 h
def q74F (a:Option Addr) (b:ByteArray) (w:World) (R:KV):Prop:=
 Zs 183 #[(.string b),(.string (ByteArray.mk #[67,82,67,51,50,67,44,78,111,110,101]))] w λv0 w1=>∃s2 b3,v0= .tuple #[(.string s2),.bool b3]/\JoinP [.str] (λ(s4:ByteArray)=>λw5=>wA a λa6=>sC w5 (Addr.add a6 4) (.bool (ByteArray.toList s4==ByteArray.toList (ByteArray.mk #[67,82,67,51,50,67]))) λw7=>R (.tuple #[(.string s4),.bool true,.bool true]) w7) (λj8=>cond (!b3) (j8 (ByteArray.mk #[82,101,106,101,99,116]) w1) (j8 s2 w1))
theorem q74W (a b w R) (h:q74F a b w R):Zs 182 #[.pointer a,(.string b)] w R:=
 sp Tryz.func182 h
def q75F (a:Option Addr) (b:ByteArray) (w:World) (R:KV):Prop:=
 R (.tuple #[(.string (ByteArray.mk #[])),.bool false,.bool true]) w
theorem q75W (a b w R) (h:q75F a b w R):Zs 184 #[.pointer a,(.string b)] w R:=
 sp Tryz.func184 h
def q68F (a:ByteArray) (b c:Int) (d e:Bool) (f:Value) (w:World) (R:KV):Prop:=
 bindW (World.alloc w (.cells #[(.string a),V6 b,V6 c,.bool d,.bool e] 60)) λw0=>al w0 #[(.string (ByteArray.mk #[])),V6 0,V6 0,.bool false,.bool false] 60 λw1=>∃s2 n3 n4 b5 b6,(ldCells w1 ⟨w.heap.size,0,none⟩ 5 #[(.string s2),V6 n3,V6 n4,.bool b5,.bool b6])/\al w1 #[(.string (ByteArray.mk #[])),V6 0,V6 0,.bool false,.bool false] 60 λw7=>sR w7 ⟨w1.heap.size,0,none⟩ #[(.string s2),V6 n3,V6 n4,.bool b5,.bool b6] λw8=>sC w8 (Addr.add ⟨w1.heap.size,0,none⟩ 4) (.bool false) λw9=>∃m10,xL f m10/\LoopP [.int .i64] (λj11=>λ(n12:Int)=>λw13=>
 cond (decide (n12 < (m10:Int))) (∃a14,sliceAt f n12 2=some a14/\∃s15 s16,(ldCells w13 a14 2 #[(.string s15),(.string s16)])/\al w13 #[(.string (ByteArray.mk #[])),(.string (ByteArray.mk #[]))] 151 λw17=>sR w17 ⟨w13.heap.size,0,none⟩ #[(.string s15),(.string s16)] λw18=>∃s19,cT w18 (Addr.add ⟨w13.heap.size,0,none⟩ 0) s19/\JoinP [.bool] (λ(b20:Bool)=>λw21=>cond (!b20) ((StRow w21 ⟨w0.heap.size,0,none⟩ #[(.string (ByteArray.mk #[])),V6 0,V6 0,.bool false,.bool false])/\
 bindW (stRow w21 ⟨w0.heap.size,0,none⟩ #[(.string (ByteArray.mk #[])),V6 0,V6 0,.bool false,.bool false]) λw22=>∃s23 n24 n25 b26 b27,(ldCells w22 ⟨w0.heap.size,0,none⟩ 5 #[(.string s23),V6 n24,V6 n25,.bool b26,.bool b27])/\R (.tuple #[(.agg #[(.string s23),V6 n24,V6 n25,.bool b26,.bool b27]),V6 2]) w22) (j11 (IntKind.wrap .i64 (n12+1)) w21)) (λj28=>cond (ByteArray.toList s19==ByteArray.toList (ByteArray.mk #[77,97,120,66,117,114,115,116,76,101,110,103,116,104])) (∃s29,cT w18 (Addr.add ⟨w13.heap.size,0,none⟩ 1) s29/\
 Zs 186 #[(.string s29)] w18 λv30 w31=>∃n32 b33,v30= .tuple #[V6 n32,.bool b33]/\∃n34,cI .i64 w31 (Addr.add ⟨w1.heap.size,0,none⟩ 2) n34/\sC w31 (Addr.add ⟨w1.heap.size,0,none⟩ 2) (V6 (if n32 < n34 then n32 else n34)) λw35=>j28 b33 w35) (cond (ByteArray.toList s19==ByteArray.toList (ByteArray.mk #[73,109,109,101,100,105,97,116,101,68,97,116,97])) (∃s36,cT w18 (Addr.add ⟨w13.heap.size,0,none⟩ 1) s36/\Zs 187 #[(.string s36)] w18 λv37 w38=>∃b39 b40,v37= .tuple #[.bool b39,.bool b40]/\∃b41,cB w38 (Addr.add ⟨w1.heap.size,0,none⟩ 3) b41/\cond b41
 ((St1 w38 (Addr.add ⟨w1.heap.size,0,none⟩ 3))/\bindW (World.setCell w38 (Addr.add ⟨w1.heap.size,0,none⟩ 3) (.bool b39)) λw42=>j28 b40 w42) ((St1 w38 (Addr.add ⟨w1.heap.size,0,none⟩ 3))/\bindW (World.setCell w38 (Addr.add ⟨w1.heap.size,0,none⟩ 3) (.bool false)) λw43=>j28 b40 w43)) (cond (ByteArray.toList s19==ByteArray.toList (ByteArray.mk #[72,101,97,100,101,114,68,105,103,101,115,116])) (∃b44,cB w18 (Addr.add ⟨w.heap.size,0,none⟩ 4) b44/\cond b44 (∃s45,cT w18 (Addr.add ⟨w13.heap.size,0,none⟩ 1) s45/\
 sC w18 (Addr.add ⟨w1.heap.size,0,none⟩ 4) (.bool (ByteArray.toList s45==ByteArray.toList (ByteArray.mk #[67,82,67,51,50,67]))) λw46=>j28 true w46) ((St1 w18 (Addr.add ⟨w1.heap.size,0,none⟩ 4))/\bindW (World.setCell w18 (Addr.add ⟨w1.heap.size,0,none⟩ 4) (.bool false)) λw47=>j28 true w47)) (j28 true w18))))) (∃s48 n49 n50 b51 b52,(ldCells w13 ⟨w1.heap.size,0,none⟩ 5 #[(.string s48),V6 n49,V6 n50,.bool b51,.bool b52])/\sR w13 ⟨w0.heap.size,0,none⟩ #[(.string s48),V6 n49,V6 n50,.bool b51,.bool b52] λw53=>
 ∃s54 n55 n56 b57 b58,(ldCells w53 ⟨w0.heap.size,0,none⟩ 5 #[(.string s54),V6 n55,V6 n56,.bool b57,.bool b58])/\R (.tuple #[(.agg #[(.string s54),V6 n55,V6 n56,.bool b57,.bool b58]),V6 0]) w53)) (λs59=>s59 (0:Int) w9)
theorem q68W (a b c d e f w R) (h:q68F a b c d e f w R):Zs 141 #[(.agg #[(.string a),V6 b,V6 c,.bool d,.bool e]),f] w R:=
 sp Tryz.func141 h
end
end Go.Proofs.YtdpmhkbhlbfbeaaGreatDoor
