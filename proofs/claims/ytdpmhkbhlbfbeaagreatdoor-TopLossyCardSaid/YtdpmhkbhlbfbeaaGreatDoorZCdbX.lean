/- A part of the proof. -/
import Derived.Test.YtdpmhkbhlbfbeaaGreatDoorZBX3
set_option linter.unusedSimpArgs false
set_option linter.unusedVariables false
set_option maxRecDepth 100000
section
namespace Go.Proofs.YtdpmhkbhlbfbeaaGreatDoor.Cdb
open CW RowKit
structure Cod where
 k:Int
 op:UInt8
 sub:UInt8
 at_:Bool
 n:Bool
 sh:Bool
 fo:Bool
 ty:Bool
 pa:Bool
deriving DecidableEq
def EC:Enc Cod:=⟨9,λc=>[.int .i64 c.k,.int .u8 (c.op.toNat:Int),.int .u8 (c.sub.toNat:Int),.bool c.at_,.bool c.n,.bool c.sh,.bool c.fo,.bool c.ty,.bool c.pa],λ_=>rfl,by omega,λ_=>rfl⟩
def zC:Cod:=⟨0,0,0,false,false,false,false,false,false⟩
def codesL:List Cod:=[
 ⟨1,0,0,false,false,false,false,false,false⟩,
 ⟨9,3,0,false,false,false,false,false,false⟩,
 ⟨8,18,0,false,false,false,false,false,false⟩,
 ⟨7,37,0,false,false,false,false,false,false⟩,
 ⟨2,136,0,true,true,false,false,false,false⟩,
 ⟨3,138,0,true,true,false,true,false,false⟩,
 ⟨4,145,0,true,true,false,false,false,false⟩,
 ⟨5,66,0,true,true,false,false,false,false⟩,
 ⟨6,137,0,true,false,true,true,false,false⟩,
 ⟨10,95,0,false,false,false,false,false,true⟩,
 ⟨12,95,1,false,false,false,false,true,true⟩,
 ⟨13,95,2,false,false,false,false,true,true⟩,
 ⟨14,95,3,false,false,false,false,false,true⟩,
 ⟨15,95,4,false,false,false,false,true,true⟩,
 ⟨11,95,6,false,false,false,false,false,true⟩,
 ⟨16,94,0,false,false,false,false,false,true⟩,
 ⟨17,94,1,false,false,false,false,false,true⟩]
def isK (k:Int) (c:Cod):Bool:=c.k==k
def isD (o s:UInt8) (c:Cod):Bool:=decide (c.op=o)&&(!c.pa||decide (c.sub=s))
def e2 (x:Cod) (fo:Bool):List UInt8:=x.op::(if x.fo&&fo then 8 else x.sub)::List.replicate 14 0
def e3 (x:Cod) (fo:Bool) (t:Int):List UInt8:=if x.ty then(e2 x fo).set 2 (byt t)else e2 x fo
def e4 (x:Cod) (fo:Bool) (t a:Int):List UInt8:=if x.at_ then(e3 x fo t).take 2++putL a 8++(e3 x fo t).drop 10 else e3 x fo t
def encB (x:Cod) (fo:Bool) (t a n:Int):List UInt8:=if x.n then(e4 x fo t a).take 10++putL n 4++(e4 x fo t a).drop 14 else if x.sh then(e4 x fo t a).set 13 (byt n)else e4 x fo t a
theorem e3_length (x:Cod) (fo:Bool) (t:Int):(e3 x fo t).length=16:=by unfold e3;split<;>simp [e2]
theorem e4_length (x:Cod) (fo:Bool) (t a:Int):(e4 x fo t a).length=16:=by
 unfold e4;split
 ·simp [putL_length,e3_length]
 ·exact e3_length ..
theorem encB_length (x:Cod) (fo:Bool) (t a n:Int):(encB x fo t a n).length=16:=by
 unfold encB;split
 ·simp [putL_length,e4_length]
 ·split
  ·simp [e4_length]
  ·exact e4_length ..
def named (x:Cod) (i:Nat):Bool:=i==0||(i==1&&x.pa)||(i==2&&x.ty)||(decide (2<=i)&&decide (i < 10)&&x.at_)||(decide (10<=i)&&decide (i < 14)&&x.n)||(i==13&&x.sh)
def okD (bs:List UInt8) (x:Cod):Prop:=∀i,i < 16->named x i=true\/(i=1/\x.fo=true/\bs.getD 1 0=8)\/bs.getD i 0=0
theorem sub0:∀x∈codesL,x.pa=true\/x.sub=0:=by decide
theorem findD:∀x∈codesL,∀fo:Bool,codesL.find? (isD x.op (if x.fo&&fo then 8 else x.sub))=some x:=by decide
theorem notBoth:∀x∈codesL,x.at_=false\/x.ty=false:=by decide
theorem enc_ok {x:Cod} (hx:x∈codesL) (fo:Bool) (t a n:Int):okD (encB x fo t a n) x:=by
 intro i hi
 have hs:=sub0 x hx
 obtain⟨k,op,sub,at_,nn,sh,fo',ty,pa⟩:=x
 simp only at hs
 have hc:i=0\/i=1\/i=2\/i=3\/i=4\/i=5\/i=6\/i=7\/i=8\/i=9\/i=10\/i=11\/i=12\/i=13\/i=14\/i=15:=by omega
 rcases hc with rfl|rfl|rfl|rfl|rfl|rfl|rfl|rfl|rfl|rfl|rfl|rfl|rfl|rfl|rfl|rfl
 ·left;rfl
 ·rcases hs with rfl|rfl
  ·left;rfl
  ·right
   cases fo'<;>cases fo<;>cases at_<;>cases nn<;>cases sh<;>cases ty<;>first|(left;exact⟨rfl,rfl,rfl⟩)|(right;rfl)
 all_goals (cases at_<;>cases nn<;>cases sh<;>cases ty<;>first|(left;rfl)|(right;right;rfl))
theorem enc_0 (x:Cod) (fo:Bool) (t a n:Int):(encB x fo t a n).getD 0 0=x.op/\(encB x fo t a n).getD 1 0=(if x.fo&&fo then 8 else x.sub):=by
 obtain⟨k,op,sub,at_,nn,sh,fo',ty,pa⟩:=x
 cases at_<;>cases nn<;>cases sh<;>cases ty<;>exact⟨rfl,rfl⟩
theorem enc_find {x:Cod} (hx:x∈codesL) (fo:Bool) (t a n:Int):codesL.find? (isD ((encB x fo t a n).getD 0 0) ((encB x fo t a n).getD 1 0))=some x:=by
 obtain⟨h0,h1⟩:=enc_0 x fo t a n
 rw[h0,h1];exact findD x hx fo
theorem enc_at {x:Cod} (h:x.at_=true) (fo:Bool) (t a n:Int) (ha:0<=a/\a < 18446744073709551616):getV (encB x fo t a n) 2 8=a:=by
 have e:encB x fo t a n=[x.op,(if x.fo&&fo then 8 else x.sub)]++putL a 8++(encB x fo t a n).drop 10:=by
  obtain⟨k,op,sub,at_,nn,sh,fo',ty,pa⟩:=x
  simp only at h;subst h
  cases nn<;>cases sh<;>cases ty<;>rfl
 rw[e]
 have:=getV_at (pre:=[x.op,(if x.fo&&fo then 8 else x.sub)]) (post:=(encB x fo t a n).drop 10) (x:=a) (n:=8) ha.1 (by omega) (a:=2) rfl
 rw[show(8:Int)=((8:Nat):Int) from rfl,this]
 exact Int.emod_eq_of_lt ha.1 (by simpa using ha.2)
theorem enc_n {x:Cod} (h:x.n=true) (fo:Bool) (t a n:Int) (ha:0<=n/\n < 4294967296):getV (encB x fo t a n) 10 4=n:=by
 have e:encB x fo t a n=(e4 x fo t a).take 10++putL n 4++(e4 x fo t a).drop 14:=by unfold encB;rw[if_pos h]
 rw[e]
 have:=getV_at (pre:=(e4 x fo t a).take 10) (post:=(e4 x fo t a).drop 14) (x:=n) (n:=4) ha.1 (by omega) (a:=10) (by simp [e4_length])
 rw[show(4:Int)=((4:Nat):Int) from rfl,this]
 exact Int.emod_eq_of_lt ha.1 (by simpa using ha.2)
end Go.Proofs.YtdpmhkbhlbfbeaaGreatDoor.Cdb
end
section
namespace Go.Proofs.YtdpmhkbhlbfbeaaGreatDoor.Cdb
open CW RowKit
abbrev tC:TypeId:=107
abbrev tK:TypeId:=40
def q17F (w:World) (R:KV):Prop:=
 R (.slice (some ⟨(Array.size (World.heap w)),0,none⟩) 17 17) (World.alloc w (.cells (EC.flat codesL).toArray tC))
theorem q17W (w:World) (R:KV) (h:q17F w R):Zs 71 #[] w R:=
 spec_of Tryz.func71 (by kernel_rfl) (show q17F w R=_ by kernel_rfl) h
theorem codes_c {w:World} {R:KV} (c:∀v w',Grow w w'->RdR EC w' v codesL->R v w'):Zs 71 #[] w R:=
 q17W _ _ (c _ _ (Grow.al (Grow.refl w) _) (OwnR.lit (E:=EC) w (Nat.le_refl _) tC codesL 17 rfl (by simp [maxLen])).rd)
theorem callU_of {P:Program} {g:FuncId} {first captured args:Array Value} {w:World} {K:KV} (hb:(P.funcs[g]?).map (λfn=>fn.body.isSome)=some true) (h:CW.Spec P g (app3 first args captured) w K):
 callU P (.func (.func g) first captured) args w K:=by
 unfold callU
 simp only[hb]
 exact h
abbrev vC (c:Cod):Value:=.agg #[.int .i64 c.k,.int .u8 (c.op.toNat:Int),.int .u8 (c.sub.toNat:Int),.bool c.at_,.bool c.n,.bool c.sh,.bool c.fo,.bool c.ty,.bool c.pa]
abbrev rC (c:Cod):Array Value:= #[.int .i64 c.k,.int .u8 (c.op.toNat:Int),.int .u8 (c.sub.toNat:Int),.bool c.at_,.bool c.n,.bool c.sh,.bool c.fo,.bool c.ty,.bool c.pa]
theorem find_at {α:Type} {q:α->Bool} {L:List α} {i:Nat} (hi:i < L.length) (hn:∀c∈L.take i,q c=false) (hq:q L[i]=true):L.find? q=some L[i]:=by
 conv=>lhs;rw[←List.take_append_drop i L]
 rw[List.find?_append,List.find?_eq_none.2 (λc hc=>by rw[hn c hc];simp),List.drop_eq_getElem_cons hi,List.find?_cons_of_pos hq];rfl
theorem find_none {α:Type} {q:α->Bool} {L:List α} {i:Nat} (hi:L.length<=i) (hn:∀c∈L.take i,q c=false):L.find? q=none:=by
 rw[List.take_of_length_le hi]at hn
 exact List.find?_eq_none.2 (λc hc=>by rw[hn c hc];simp)
theorem find_c {w:World} {p:Value} (q:Cod->Bool) {R:KV}
 (hq:∀c w' K,Grow w w'->(∀w'',Grow w' w''->K (.bool (q c)) w'')->callU Tryz.prog p #[vC c] w' K)
 (c:∀w',Grow w w'->R (.tuple #[vC ((codesL.find? q).getD zC),.bool (codesL.find? q).isSome]) w'):Zs 39 #[p] w R:=by
 apply q18W
 have hz:(rC zC)= #[(.int .i64 (0:Int)),(.int .u8 (0:Int)),(.int .u8 (0:Int)),(.bool false),(.bool false),(.bool false),(.bool false),(.bool false),(.bool false)]:=rfl
 unfold q18F
 rw[←hz]
 have gA:=Grow.al (Grow.al (Grow.refl w) (.cells (rC zC) tC)) (.cells (rC zC) tC)
 have bA:=(BK.new w (rC zC) tC).al (.cells (rC zC) tC)
 have bB:=BK.new (World.alloc w (.cells (rC zC) tC)) (rC zC) tC
 have hne:(World.alloc w (.cells (rC zC) tC)).heap.size≠w.heap.size:=by rw[al_size];omega
 have hle:w.heap.size<=(World.alloc w (.cells (rC zC) tC)).heap.size:=by rw[al_size];omega
 generalize (World.alloc w (.cells (rC zC) tC)).heap.size=hB at *
 generalize World.alloc (World.alloc w (.cells (rC zC) tC)) (.cells (rC zC) tC)=W2 at *
 refine codes_c λv0 w1 g1 r1=>⟨_,r1.len,?_⟩
 refine JoinP.bool (λb w4=>∃c:Cod,Grow w w4/\BK w4 w.heap.size (rC zC) tC/\BK w4 hB (rC c) tC/\b=(codesL.find? q).isSome/\c=(codesL.find? q).getD zC) (λj hj=>?_) ?_
 ·refine⟨λ(b:Bool) (i:Int) (ww:World)=>b=false/\0<=i/\i<=17/\Grow w1 ww/\(∀c∈codesL.take i.toNat,q c=false),λ(_:Bool) (i:Int) (_:World)=>(17 - i).toNat,⟨rfl,by omega,by omega,Grow.refl w1,by simp⟩,?_⟩
  dsimp only[allR,mapR2,eqN,ltN]
  rintro m b i ww ⟨⟨rfl,h0,h1,g,hn⟩,hm⟩
  have hL:codesL.length=17:=rfl
  refine cond_intro (λh=>?_) (λh=>?_)
  ·simp only[decide_eq_true_eq]at h
   have hi:i.toNat < codesL.length:=by omega
   obtain⟨a,ha,hc,_⟩:=(r1.grow g).at h0 h
   generalize hx:codesL[i.toNat]'(by omega)=x at *
   have nb:=BK.new ww (rC zC) tC
   have gn:=Grow.al (Grow.refl ww) (.cells (rC zC) tC)
   have ns:=nb.strow (ds:=rC x) rfl
   have gs:Grow ww (stRow (World.alloc ww (.cells (rC zC) tC)) ⟨ww.heap.size,0,none⟩ (rC x)):=Below.strow gn (Nat.le_refl _) _
   refine⟨a,ha,_,_,_,_,_,_,_,_,_,ldCells_of (vs:=EC.enc x) rfl hc,nb.row rfl rfl,_,_,_,_,_,_,_,_,_,ns.ld rfl,?_⟩
   refine hq x _ _ (gA.then (g1.then (g.then gs))) λw48 g48=>⟨_,rfl,?_⟩
   have gww:Grow w w48:=gA.then (g1.then (g.then (gs.then g48)))
   have bA48:=bA.grow (g1.then (g.then (gs.then g48)))
   have bB48:=bB.grow (g1.then (g.then (gs.then g48)))
   refine cond_intro (λhqx=>?_) (λhqx=>?_)
   ·refine⟨_,_,_,_,_,_,_,_,_,(ns.grow g48).ld rfl,bB48.row rfl rfl,hj _ _ ⟨x,Below.strow gww hle _,bA48.strow_other hne.symm _ _ _,bB48.strow rfl,?_,?_⟩⟩
    ·rw[find_at hi hn (by rw[hx];exact hqx)];rfl
    ·rw[find_at hi hn (by rw[hx];exact hqx),hx];rfl
   ·rw[wi64_id (n:=i+1) (by omega) (by omega)]
    refine⟨⟨rfl,by omega,by omega,g.then (gs.then g48),?_⟩,by omega⟩
    have e:(i+1).toNat=i.toNat+1:=by omega
    intro c hc
    rw[e,List.take_add_one,List.getElem?_eq_getElem hi]at hc
    simp only[Option.toList_some,List.mem_append,List.mem_singleton]at hc
    rcases hc with hc|rfl
    ·exact hn c hc
    ·rw[hx];exact hqx
  ·simp only[decide_eq_false_iff_not]at h
   have hf:=find_none (q:=q) (L:=codesL) (i:=i.toNat) (by omega) hn
   exact hj _ _ ⟨zC,gA.then (g1.then g),bA.grow (g1.then g),bB.grow (g1.then g),by rw[hf];rfl,by rw[hf];rfl⟩
 ·rintro b w4 ⟨x,g4,b0,b1,rfl,hx⟩
  rw[←hx]at c
  have b2:=b0.strow (ds:=rC x) rfl
  have l1:=b1.ld (n:=9) rfl
  have l2:=b2.ld (n:=9) rfl
  have s1:=b0.row (ds:=rC x) rfl rfl
  have hc:=c _ (Below.strow g4 (p:=⟨w.heap.size,0,none⟩) (Nat.le_refl _) (rC x))
  exact⟨x.k,(x.op.toNat:Int),(x.sub.toNat:Int),x.at_,x.n,x.sh,x.fo,x.ty,x.pa,l1,s1,x.k,(x.op.toNat:Int),(x.sub.toNat:Int),x.at_,x.n,x.sh,x.fo,x.ty,x.pa,l2,hc⟩
abbrev vK (k a n:Int) (d:Value) (key new t:Int) (f:Bool):Value:=.agg #[.int .i64 k,.int .i64 a,.int .i64 n,d,.int .u64 key,.int .u64 new,.int .i64 t,.bool f]
abbrev rK (k a n:Int) (d:Value) (key new t:Int) (f:Bool):Array Value:= #[.int .i64 k,.int .i64 a,.int .i64 n,d,.int .u64 key,.int .u64 new,.int .i64 t,.bool f]
structure ES (w:World) (B hx hc:Nat) (x:Cod) (C:Array Value) (ww:World) (v:Value) (bs:List UInt8):Prop where
 bx:BK ww hx (rC x) tC
 bc:BK ww hc C tK
 own:OwnB ww B tb v bs
 gr:Grow w ww
theorem ES.grow {w:World} {B hx hc:Nat} {x:Cod} {C:Array Value} {ww w':World} {v:Value} {bs:List UInt8} (h:ES w B hx hc x C ww v bs) (g:Grow ww w'):ES w B hx hc x C w' v bs:=
 ⟨h.bx.grow g,h.bc.grow g,h.own.grow g,h.gr.then g⟩
theorem ES.dr {w:World} {B hx hc:Nat} {x:Cod} {C:Array Value} {ww:World} {v:Value} {bs:List UInt8} (h:ES w B hx hc x C ww v bs):ES w B hx hc x C ww.drew v bs:=h.grow (Grow.dr (Grow.refl ww))
theorem ES.put {w:World} {B hx hc:Nat} {x:Cod} {C:Array Value} {ww:World} {v:Value} {bs:List UInt8} (hxB:hx < B) (hcB:hc < B) (hwB:w.heap.size<=B) (h:ES w B hx hc x C ww v bs) {i:Int} (h0:0<=i) (h1:i < bs.length):
 ∃a,sliceAt v i 1=some a/\St1 ww a/\∀y:UInt8,ES w B hx hc x C (ww.setCell a (.int .u8 (y.toNat:Int))) v (bs.set i.toNat y):=by
 obtain⟨a,ha,hc',hs,hB,hob,hw⟩:=h.own.put h0 (by simpa using h1)
 refine⟨a,ha,hs,λy=>⟨?_,?_,?_,h.gr.setCell (Nat.le_trans hwB hB) _⟩⟩
 ·exact(Below.heap_setCell ww a _ hx (by omega)).trans h.bx
 ·exact(Below.heap_setCell ww a _ hc (by omega)).trans h.bc
 ·have:=hw (b8 y)
  show Own _ B tb v ((bs.set i.toNat y).map b8)
  rw[List.map_set];exact this
theorem ES.by_ {w:World} {B hx hc:Nat} {x:Cod} {C:Array Value} {ww w':World} {v:Value} {bs cs:List UInt8} (hxB:hx < B) (hcB:hc < B) (hwB:w.heap.size<=B) (h:ES w B hx hc x C ww v bs) (o:OwnB w' B tb v cs) (g:ww.grownBy w' v.ownBlock):ES w B hx hc x C w' v cs:=by
 have hb:=h.own.blk
 have hne:∀k,k < B->some k≠v.ownBlock:=λk hk e=>by have:=hb k e.symm;omega
 refine⟨(g.block hx h.bx.lt (hne _ hxB)).trans h.bx,(g.block hc h.bc.lt (hne _ hcB)).trans h.bc,o,h.gr.trans (grownBy.below g h.gr.size (λk hk=>Nat.le_trans hwB (hb k hk)))⟩
theorem Encode_c {w:World} {k a n key new t:Int} {d:Value} {f:Bool} {x:Cod} {R:KV} (hx:codesL.find? (isK k)=some x)
 (ha:0<=a/\a < 4611686018427387904) (hn:0<=n/\n<=255) (ht:0<=t/\t<=15)
 (c:∀v w',Grow w w'->RdB w' v (encB x f t a n)->NewV w v->R (.tuple #[v,.int .i64 0]) w'):
 Zs 22 #[vK k a n d key new t f] w R:=by
 apply q13W
 unfold q13F
 have hz:(rC zC)= #[(.int .i64 (0:Int)),(.int .u8 (0:Int)),(.int .u8 (0:Int)),(.bool false),(.bool false),(.bool false),(.bool false),(.bool false),(.bool false)]:=rfl
 rw[←hz]
 have bc:=BK.new w (rK k a n d key new t f) tK
 have g0:=Grow.al (Grow.refl w) (.cells (rK k a n d key new t f) tK)
 have hcl:=bc.lt
 have hcl':w.heap.size<=(World.alloc w (.cells (rK k a n d key new t f) tK)).heap.size:=g0.size
 generalize World.alloc w (.cells (rK k a n d key new t f) tK)=W0 at *
 refine find_c (isK k) (λy w' K g hK=>?_) λw1 g1=>?_
 ·refine callU_of (by kernel_rfl) (q14W _ _ _ _ _ _ _ _ _ _ _ _ ?_)
  refine⟨_,(BK.new w' (rC y) tC).cell 0,withAddr_some ⟨_,((bc.grow g).al (.cells (rC y) tC)).cell 0,?_⟩⟩
  exact hK _ (Grow.al (Grow.refl w') _)
 rw[hx]
 simp only[Option.getD_some,Option.isSome_some]
 have nb:=BK.new w1 (rC zC) tC
 have bx:=nb.strow (ds:=rC x) rfl
 have gs:Grow w1 (stRow (World.alloc w1 (.cells (rC zC) tC)) ⟨w1.heap.size,0,none⟩ (rC x)):=Below.strow (Grow.al (Grow.refl w1) (.cells (rC zC) tC)) (Nat.le_refl _) _
 have bcW:=bc.grow (g1.then gs)
 have gW:=g0.then (g1.then gs)
 have hW:Grow w (stRow (World.alloc w1 (.cells (rC zC) tC)) ⟨w1.heap.size,0,none⟩ (rC x)):=gW
 refine⟨_,_,_,_,_,_,_,_,_,_,rfl,nb.row rfl rfl,?_⟩
 generalize stRow (World.alloc w1 (.cells (rC zC) tC)) ⟨w1.heap.size,0,none⟩ (rC x)=W at *
 generalize w1.heap.size=hxb at *
 generalize w.heap.size=hcb at *
 refine JoinP.bool (λb w'=>b=false/\w'=W) (λj hj=>?_) ?_
 ·refine cond_f rfl (JoinP.bool (λb w'=>b=false/\w'=W) (λj1 hj1=>?_) ?_)
  ·refine⟨_,bx.cell 3,cond_intro (λ_=>⟨_,bcW.cell 1,cond_f (by simp;omega) ⟨_,bcW.cell 2,hj1 _ _ ⟨by simp;omega,rfl⟩⟩⟩) (λ_=>hj1 _ _ ⟨rfl,rfl⟩)⟩
  rintro b w' ⟨rfl,rfl⟩
  refine cond_f rfl (JoinP.bool (λb w''=>b=false/\w''=w') (λj1 hj1=>?_) ?_)
  ·refine⟨_,bx.cell 4,cond_intro (λ_=>⟨_,bcW.cell 2,hj1 _ _ ⟨by simp;omega,rfl⟩⟩) (λ_=>hj1 _ _ ⟨rfl,rfl⟩)⟩
  rintro b w' ⟨rfl,rfl⟩
  refine cond_f rfl (JoinP.bool (λb w''=>b=false/\w''=w') (λj1 hj1=>?_) ?_)
  ·refine⟨_,bx.cell 5,cond_intro (λ_=>⟨_,bcW.cell 2,hj1 _ _ ⟨by simp;omega,rfl⟩⟩) (λ_=>hj1 _ _ ⟨rfl,rfl⟩)⟩
  rintro b w' ⟨rfl,rfl⟩
  refine cond_f rfl ?_
  refine⟨_,bx.cell 7,cond_intro (λ_=>⟨_,bcW.cell 6,cond_f (by simp;omega) ⟨_,bcW.cell 6,hj _ _ ⟨by simp;omega,rfl⟩⟩⟩) (λ_=>hj _ _ ⟨rfl,rfl⟩)⟩
 rintro b w' ⟨rfl,rfl⟩
 refine cond_f rfl ?_
 obtain⟨v14,w15,hmk,o15,g15⟩:=make_bytes (w:=w') 16 (by omega)
 have hxB:hxb < w'.heap.size:=bx.lt
 have hcB:hcb < w'.heap.size:=bcW.lt
 have hwB:w.heap.size<=w'.heap.size:=hW.size
 generalize hBe:w'.heap.size=B at *
 have E0:ES w B hxb hcb x (rK k a n d key new t f) (World.drew w15) v14 (List.replicate 16 0):=
  ES.dr ⟨bx.grow g15,bcW.grow g15,o15,hW.then g15⟩
 obtain⟨a18,ha18,s18,E1⟩:=E0.put hxB hcB hwB (i:=0) (by omega) (by simp)
 have E1:=E1 x.op
 obtain⟨a20,ha20,s20,E2⟩:=E1.put hxB hcB hwB (i:=1) (by omega) (by simp)
 have E2:=E2 x.sub
 refine⟨v14,w15,hmk,_,E0.bx.cell 1,_,E0.bx.cell 2,a18,ha18,s18,⟨_,E1.bx.cell 2,rfl⟩,a20,ha20,s20,?_⟩
 have e0:((List.replicate 16 (0:UInt8)).set (0:Int).toNat x.op).set (1:Int).toNat x.sub=x.op::x.sub::List.replicate 14 0:=rfl
 rw[e0]at E2
 generalize World.setCell (World.setCell (World.drew w15) a18 (.int .u8 (x.op.toNat:Int))) a20 (.int .u8 (x.sub.toNat:Int))=W2 at *
 refine JoinP.unit (λw'=>ES w B hxb hcb x (rK k a n d key new t f) w' v14 (e2 x f)) (λj hj=>?_) ?_
 ·refine JoinP.bool (λb w'=>w'=W2/\b=(x.fo&&f)) (λj1 hj1=>?_) ?_
  ·refine⟨_,E2.bx.cell 6,cond_intro (λh=>⟨_,E2.bc.cell 7,hj1 _ _ ⟨rfl,by rw[h];rfl⟩⟩) (λh=>hj1 _ _ ⟨rfl,by rw[h];rfl⟩)⟩
  rintro b w' ⟨rfl,rfl⟩
  refine cond_intro (λh=>?_) (λh=>hj _ ?_)
  ·obtain⟨a,ha,s,E⟩:=E2.put hxB hcB hwB (i:=1) (by omega) (by simp)
   refine⟨a,ha,s,hj _ ?_⟩
   have:=E 8
   unfold e2;rw[if_pos h];exact this
  ·unfold e2;rw[if_neg (by rw[h];simp)];exact E2
 intro w2 E3
 refine JoinP.unit (λw'=>ES w B hxb hcb x (rK k a n d key new t f) w' v14 (e3 x f t)) (λj hj=>?_) ?_
 ·refine⟨_,E3.bx.cell 7,cond_intro (λh=>⟨_,E3.bc.cell 6,?_⟩) (λh=>hj _ ?_)⟩
  ·obtain⟨a,ha,s,E⟩:=E3.put hxB hcB hwB (i:=2) (by omega) (by simp [e2])
   refine⟨a,ha,s,hj _ ?_⟩
   have:=E (byt t)
   rw[w8,←byt_toNat]
   unfold e3;rw[if_pos h];exact this
  ·unfold e3;rw[if_neg (by rw[h];simp)];exact E3
 intro w3 E4
 have l3:=e3_length x f t
 refine JoinP.unit (λw'=>ES w B hxb hcb x (rK k a n d key new t f) w' v14 (e4 x f t a)) (λj hj=>?_) ?_
 ·refine⟨_,E4.bx.cell 3,cond_intro (λh=>?_) (λh=>hj _ ?_)⟩
  ·obtain⟨v',hv',hcp⟩:=own_tail (sT:=tB) (ty:=3) tyB E4.own (o:=2) (by simp [l3]) .i64
   refine⟨v',hv',_,E4.dr.bc.cell 1,?_⟩
   rw[w64_id (n:=a) (by omega) (by omega)]
   refine bin_Put_c (bs:=[]) (Rd.nil _) (by simp) λv40 w41 g41 r41 _=>?_
   obtain⟨w43,h43,o43,g43⟩:=hcp w41 _ v40 ((putL a 8).map b8) (E4.dr.grow g41).own rfl r41 one_b8 (by simp [putL_length,l3])
   rw[List.length_map,putL_length]at h43
   refine⟨_,w43,h43,hj _ (ES.by_ hxB hcB hwB (E4.dr.grow g41) ?_ g43)⟩
   unfold e4;rw[if_pos h]
   simp only[List.length_map,putL_length]at o43
   simpa[OwnB]using o43
  ·unfold e4;rw[if_neg (by rw[h];simp)];exact E4
 intro w4 E5
 have l4:=e4_length x f t a
 refine JoinP.unit (λw'=>ES w B hxb hcb x (rK k a n d key new t f) w' v14 (encB x f t a n)) (λj hj=>?_) ?_
 ·refine⟨_,E5.bx.cell 4,cond_intro (λh=>?_) (λh=>⟨_,E5.bx.cell 5,cond_intro (λh2=>⟨_,E5.bc.cell 2,?_⟩) (λh2=>hj _ ?_)⟩)⟩
  ·obtain⟨v',hv',hcp⟩:=own_tail (sT:=tB) (ty:=3) tyB E5.own (o:=10) (by simp [l4]) .i64
   refine⟨v',hv',_,E5.dr.bc.cell 2,?_⟩
   rw[w64_id (n:=n) (by omega) (by omega)]
   refine bin_Put_c (bs:=[]) (Rd.nil _) (by simp) λv40 w41 g41 r41 _=>?_
   obtain⟨w43,h43,o43,g43⟩:=hcp w41 _ v40 ((putL n 4).map b8) (E5.dr.grow g41).own rfl r41 one_b8 (by simp [putL_length,l4])
   rw[List.length_map,putL_length]at h43
   refine⟨_,w43,h43,hj _ (ES.by_ hxB hcB hwB (E5.dr.grow g41) ?_ g43)⟩
   unfold encB;rw[if_pos h]
   simp only[List.length_map,putL_length]at o43
   simpa[OwnB]using o43
  ·obtain⟨a,ha,s,E⟩:=E5.put hxB hcB hwB (i:=13) (by omega) (by simp [l4])
   refine⟨a,ha,s,hj _ ?_⟩
   have:=E (byt n)
   rw[w8,←byt_toNat]
   unfold encB;rw[if_neg (by rw[h];simp),if_pos h2];exact this
  ·unfold encB;rw[if_neg (by rw[h];simp),if_neg (by rw[h2];simp)];exact E5
 intro w5 E6
 exact c _ _ E6.gr E6.own.rd (λk hk=>Nat.le_trans hwB (E6.own.blk k hk))
end Go.Proofs.YtdpmhkbhlbfbeaaGreatDoor.Cdb
end
section
namespace Go.Proofs.YtdpmhkbhlbfbeaaGreatDoor.Cdb
open CW RowKit
abbrev tR:TypeId:=49
abbrev vR (s k c:Int) (d:Value) (i:Int):Value:=.agg #[.int .i64 s,.int .i64 k,.int .i64 c,d,.int .i64 i]
abbrev rR (s k c:Int) (d:Value) (i:Int):Array Value:= #[.int .i64 s,.int .i64 k,.int .i64 c,d,.int .i64 i]
abbrev vK0:Value:=vK 0 0 0 (.slice none 0 0) 0 0 0 false
abbrev rK0:Array Value:=rK 0 0 0 (.slice none 0 0) 0 0 0 false
abbrev rR0:Array Value:=rR 0 0 0 (.slice none 0 0) 0
theorem Wrong_c {w:World} {k c:Int} {R:KV} (h:∀w',Grow w w'->R (vR 2 k c (.slice none 0 0) 0) w'):Zs 65 #[.int .i64 k,.int .i64 c] w R:=by
 apply q117W
 have nb:=BK.new w rR0 tR
 have gs:=Below.strow (Grow.al (Grow.refl w) (.cells rR0 tR)) (p:=⟨w.heap.size,0,none⟩) (Nat.le_refl _) (rR 2 k c (.slice none 0 0) 0)
 have b1:=nb.strow (ds:=rR 2 k c (.slice none 0 0) 0) rfl
 exact⟨nb.row rfl rfl,2,k,c,.slice none 0 0,0,b1.ld rfl,h _ gs⟩
theorem named_c {w:World} {x:Cod} {i:Nat} {R:KV} (hi:i < 16) (h:∀w',Grow w w'->R (.bool (named x i)) w'):Zs 170 #[vC x,.int .i64 (i:Int)] w R:=by
 apply q16W
 have nb:=BK.new w (rC x) tC
 have gs:=Grow.al (Grow.refl w) (.cells (rC x) tC)
 have h:=h _ gs
 unfold q16F
 generalize World.alloc w (.cells (rC x) tC)=W at *
 refine JoinP.bool (λb w'=>w'=W/\b=named x i) (λj hj=>?_) ?_
 ·have hc:i=0\/i=1\/i=2\/i=3\/i=4\/i=5\/i=6\/i=7\/i=8\/i=9\/i=10\/i=11\/i=12\/i=13\/i=14\/i=15:=by omega
  have J1:∀(P:Bool->World->Prop) (body:(Bool->World->Prop)->Prop) (b:Bool),(∀j:Bool->World->Prop,j b W->body j)->P b W->JoinP [.bool] P body:=λP body b hb hp=>hb P hp
  rcases hc with rfl|rfl|rfl|rfl|rfl|rfl|rfl|rfl|rfl|rfl|rfl|rfl|rfl|rfl|rfl|rfl
  ·exact cond_t rfl (hj _ _ ⟨rfl,rfl⟩)
  ·refine cond_f rfl (J1 _ _ x.pa (λj k=>cond_t rfl ⟨_,nb.cell 8,k⟩) (cond_intro (λe=>hj _ _ ⟨rfl,by simp [named,e]⟩) λe=>?_))
   refine J1 _ _ false (λj k=>cond_f rfl k) (cond_f rfl ?_)
   refine J1 _ _ false (λj k=>cond_f rfl k) (cond_f rfl ?_)
   refine J1 _ _ false (λj k=>cond_f rfl k) (cond_f rfl ?_)
   exact cond_f rfl (hj _ _ ⟨rfl,by simp [named,e]⟩)
  ·refine cond_f rfl (J1 _ _ false (λj k=>cond_f rfl k) (cond_f rfl ?_))
   refine J1 _ _ x.ty (λj k=>cond_t rfl ⟨_,nb.cell 7,k⟩) (cond_intro (λe=>hj _ _ ⟨rfl,by simp [named,e]⟩) λe=>?_)
   refine J1 _ _ x.at_ (λj k=>cond_t rfl (cond_t rfl ⟨_,nb.cell 3,k⟩)) (cond_intro (λe=>hj _ _ ⟨rfl,by simp [named,e]⟩) λe2=>?_)
   refine J1 _ _ false (λj k=>cond_f rfl k) (cond_f rfl ?_)
   exact cond_f rfl (hj _ _ ⟨rfl,by simp [named,e,e2]⟩)
  iterate 7
   ·refine cond_f rfl (J1 _ _ false (λj k=>cond_f rfl k) (cond_f rfl ?_))
    refine J1 _ _ false (λj k=>cond_f rfl k) (cond_f rfl ?_)
    refine J1 _ _ x.at_ (λj k=>cond_t rfl (cond_t rfl ⟨_,nb.cell 3,k⟩)) (cond_intro (λe=>hj _ _ ⟨rfl,by simp [named,e]⟩) λe2=>?_)
    refine J1 _ _ false (λj k=>cond_f rfl k) (cond_f rfl ?_)
    exact cond_f rfl (hj _ _ ⟨rfl,by simp [named,e2]⟩)
  iterate 3
   ·refine cond_f rfl (J1 _ _ false (λj k=>cond_f rfl k) (cond_f rfl ?_))
    refine J1 _ _ false (λj k=>cond_f rfl k) (cond_f rfl ?_)
    refine J1 _ _ false (λj k=>cond_t rfl (cond_f rfl k)) (cond_f rfl ?_)
    refine J1 _ _ x.n (λj k=>cond_t rfl (cond_t rfl ⟨_,nb.cell 4,k⟩)) (cond_intro (λe=>hj _ _ ⟨rfl,by simp [named,e]⟩) λe2=>?_)
    exact cond_f rfl (hj _ _ ⟨rfl,by simp [named,e2]⟩)
  ·refine cond_f rfl (J1 _ _ false (λj k=>cond_f rfl k) (cond_f rfl ?_))
   refine J1 _ _ false (λj k=>cond_f rfl k) (cond_f rfl ?_)
   refine J1 _ _ false (λj k=>cond_t rfl (cond_f rfl k)) (cond_f rfl ?_)
   refine J1 _ _ x.n (λj k=>cond_t rfl (cond_t rfl ⟨_,nb.cell 4,k⟩)) (cond_intro (λe=>hj _ _ ⟨rfl,by simp [named,e]⟩) λe2=>?_)
   exact cond_t rfl ⟨_,nb.cell 5,hj _ _ ⟨rfl,by simp [named,e2]⟩⟩
  iterate 2
   ·refine cond_f rfl (J1 _ _ false (λj k=>cond_f rfl k) (cond_f rfl ?_))
    refine J1 _ _ false (λj k=>cond_f rfl k) (cond_f rfl ?_)
    refine J1 _ _ false (λj k=>cond_t rfl (cond_f rfl k)) (cond_f rfl ?_)
    refine J1 _ _ false (λj k=>cond_t rfl (cond_f rfl k)) (cond_f rfl ?_)
    exact cond_f rfl (hj _ _ ⟨rfl,by simp [named]⟩)
 rintro b w' ⟨rfl,rfl⟩
 exact cond_intro (λe=>by rw[e]at h;exact h) (λe=>by rw[e]at h;exact h)
theorem run_c {w:World} {n:Int} {R:KV} (h:R (.int .i64 (if n < 0\/32 < n then 0 else n*8)) w):Zs 72 #[.int .i64 n] w R:=by
 apply q19W
 refine JoinP.bool (λb w'=>w'=w/\b=decide (n < 0\/32 < n)) (λj hj=>cond_intro (λe=>hj _ _ ⟨rfl,?_⟩) (λe=>hj _ _ ⟨rfl,?_⟩)) ?_
 ·simp only[decide_eq_true_eq]at e;simp [e]
 ·simp only[decide_eq_false_iff_not]at e;simp [e]
 rintro b w' ⟨rfl,rfl⟩
 refine cond_intro (λe=>?_) (λe=>?_)
 ·simp only[decide_eq_true_eq]at e
  rw[if_pos e]at h;exact h
 ·simp only[decide_eq_false_iff_not]at e
  rw[if_neg e]at h
  rw[wi64_id (n:=n*8) (by omega) (by omega)];exact h
def runI (n:Int):Int:=if n < 0\/32 < n then 0 else n*8
def outI (k n:Int):Int:=if k=3 then runI n else if k=6 then 2*runI n else if k=10\/k=11\/k=12\/k=13\/k=14\/k=15 then 24 else 0
theorem runI_range (n:Int):0<=runI n/\runI n<=256:=by unfold runI;split<;>omega
theorem Out_c {w:World} {k a n key new t:Int} {d:Value} {f:Bool} {R:KV} (c:∀w',Grow w w'->R (.int .i64 (outI k n)) w'):
 Zs 44 #[vK k a n d key new t f] w R:=by
 apply q15W
 have nb:=BK.new w (rK k a n d key new t f) tK
 have c:=c _ (Grow.al (Grow.refl w) (.cells (rK k a n d key new t f) tK))
 unfold q15F
 generalize World.alloc w (.cells (rK k a n d key new t f) tK)=W at *
 refine⟨_,nb.cell 0,cond_intro (λe=>⟨_,nb.cell 2,run_c ⟨_,rfl,?_⟩⟩) (λe=>?_)⟩
 ·simp only[beq_iff_eq]at e
  rw[outI,if_pos e]at c;exact c
 simp only[beq_eq_false_iff_ne]at e
 rw[outI,if_neg e]at c
 refine cond_intro (λe=>⟨_,nb.cell 2,run_c ⟨_,rfl,?_⟩⟩) (λe=>?_)
 ·simp only[beq_iff_eq]at e;rw[if_pos e]at c
  have:=runI_range n
  unfold runI at this c
  rw[wi64_id (by omega) (by omega)];exact c
 simp only[beq_eq_false_iff_ne]at e
 rw[if_neg e]at c
 refine JoinP.bool (λb w'=>w'=W/\b=decide (k=10\/k=11\/k=12\/k=13\/k=14\/k=15)) (λj hj=>?_) ?_
 ·have hq:∀b,b=decide (k=10\/k=11\/k=12\/k=13\/k=14\/k=15)->j b W:=λb hb=>hj _ _ ⟨rfl,hb⟩
  refine cond_intro (λe=>hq _ ?_) (λe0=>cond_intro (λe=>hq _ ?_) (λe1=>cond_intro (λe=>hq _ ?_) (λe2=>cond_intro (λe=>hq _ ?_) (λe3=>cond_intro (λe=>hq _ ?_) (λe4=>hq _ ?_)))))
  all_goals first|(simp_all;done)|(by_cases h15:k=15<;>simp_all)
 rintro b w' ⟨rfl,rfl⟩
 refine cond_intro (λe=>?_) (λe=>?_)
 ·simp only[decide_eq_true_eq]at e
  rw[if_pos e]at c;exact c
 ·simp only[decide_eq_false_iff_not]at e
  rw[if_neg e]at c;exact c
end Go.Proofs.YtdpmhkbhlbfbeaaGreatDoor.Cdb
end
section
namespace Go.Proofs.YtdpmhkbhlbfbeaaGreatDoor.Cdb
open CW RowKit
theorem u8_beq (a b:UInt8):((a.toNat:Int)==(b.toNat:Int))=decide (a=b):=by
 rw[Bool.eq_iff_iff]
 simp only[beq_iff_eq,decide_eq_true_eq]
 constructor
 ·intro h;exact UInt8.toNat.inj (by omega)
 ·rintro rfl;rfl
theorem u8_ne0 (a:UInt8):((a.toNat:Int) !=(0:Int))=!decide (a=0):=by
 have:=u8_beq a 0
 simp only[bne]
 rw[show(0:Int)=((0:UInt8).toNat:Int) from rfl,this]
theorem u8_lt (a:UInt8):(0:Int)<=(a.toNat:Int)/\(a.toNat:Int) < 256:=by have:=a.toNat_lt;omega
structure DS (w:World) (hb h1 h2 hx hc:Nat) (x:Cod) (pv:Value) (C:Array Value) (ww:World):Prop where
 bb:BK ww hb #[pv] tB
 b1:BK ww h1 rK0 tK
 b2:BK ww h2 rR0 tR
 bx:BK ww hx (rC x) tC
 bc:BK ww hc C tK
 gr:Grow w ww
theorem DS.grow {w:World} {hb h1 h2 hx hc:Nat} {x:Cod} {pv:Value} {C:Array Value} {ww w':World} (h:DS w hb h1 h2 hx hc x pv C ww) (g:Grow ww w'):DS w hb h1 h2 hx hc x pv C w':=
 ⟨h.bb.grow g,h.b1.grow g,h.b2.grow g,h.bx.grow g,h.bc.grow g,h.gr.then g⟩
theorem DS.set {w:World} {hb h1 h2 hx hc:Nat} {x:Cod} {pv:Value} {C:Array Value} {ww:World} (h:DS w hb h1 h2 hx hc x pv C ww) (e1:hb < hc) (e2:h1 < hc) (e3:h2 < hc) (e4:hx < hc) (e5:w.heap.size<=hc) (j:Nat) (y:Value):
 DS w hb h1 h2 hx hc x pv (C.setIfInBounds j y) (ww.setCell (Addr.add ⟨hc,0,none⟩ j) y):=by
 rw[ad0]
 exact⟨h.bb.other (by omega) j y,h.b1.other (by omega) j y,h.b2.other (by omega) j y,h.bx.other (by omega) j y,h.bc.set j y,h.gr.setCell e5 _⟩
theorem st1_add {w:World} {b:Nat} {cs:Array Value} {e:TypeId} (h:BK w b cs e) {j:Nat} (hj:j < cs.size):St1 w (Addr.add ⟨b,0,none⟩ j):=by rw[ad0];exact h.st1 hj
def atD (x:Cod) (bs:List UInt8):Int:=if x.at_ then getV bs 2 8 else 0
def nD (x:Cod) (bs:List UInt8):Int:=if x.n then getV bs 10 4 else if x.sh then((bs.getD 13 0).toNat:Int)else 0
def tD (x:Cod) (bs:List UInt8):Int:=if x.n then 0 else if x.sh then 0 else if x.ty then((bs.getD 2 0).toNat:Int)else 0
theorem at_getD {w:World} {v:Value} {bs:List UInt8} (h:RdB w v bs) {i:Nat} (h1:i < bs.length):
 ∃a,sliceAt v (i:Int) 1=some a/\w.cell? a=some (.int .u8 ((bs.getD i 0).toNat:Int)):=by
 obtain⟨a,ha,hc⟩:=h.at (i:=(i:Int)) (by omega) (by omega)
 refine⟨a,ha,?_⟩
 rw[hc];simp [h1]
theorem Decode1_c {w':World} {hb:Nat} {v:Value} {bs:List UInt8} {y:Cod} {R:KV} (bb:BK w' hb #[v] tB) (hr:RdB w' v bs) (hl:16<=bs.length)
 (hK:∀w'',Grow w' w''->R (.bool (isD (bs.getD 0 0) (bs.getD 1 0) y)) w''):Zs 169 #[vC y,zA hb] w' R:=by
 refine q12W _ _ _ _ _ _ _ _ _ _ _ _ ?_
 unfold q12F
 have nb:=(BK.new w' (rC y) tC).dr
 have gn:=(Grow.al (Grow.refl w') (.cells (rC y) tC)).dr
 have bb:=bb.grow gn
 have hr:=hr.grow gn
 have hK:=hK _ gn
 generalize World.drew (World.alloc w' (.cells (rC y) tC))=W at *
 generalize w'.heap.size=hy at *
 refine JoinP.bool (λb w''=>w''=W/\b=isD (bs.getD 0 0) (bs.getD 1 0) y) (λj hj=>?_) (by rintro b w'' ⟨rfl,rfl⟩;exact hK)
 obtain⟨a0,ha0,hc0⟩:=at_getD (i:=0) hr (by omega)
 obtain⟨a1,ha1,hc1⟩:=at_getD (i:=1) hr (by omega)
 refine⟨_,nb.cell 1,withAddr_some ⟨_,bb.at 0,a0,ha0,_,hc0,?_⟩⟩
 rw[u8_beq]
 refine cond_intro (λe=>⟨_,nb.cell 8,cond_intro (λe2=>hj _ _ ⟨rfl,?_⟩) (λe2=>⟨_,nb.cell 2,withAddr_some ⟨_,bb.at 0,a1,ha1,_,hc1,hj _ _ ⟨rfl,?_⟩⟩⟩)⟩) (λe=>hj _ _ ⟨rfl,?_⟩)
 ·simp only[isD,e,e2];rfl
 ·rw[u8_beq];simp only[isD,e,e2];simp
 ·simp only[isD,e];rfl
end Go.Proofs.YtdpmhkbhlbfbeaaGreatDoor.Cdb
end
section
namespace Go.Proofs.YtdpmhkbhlbfbeaaGreatDoor.Cdb
open CW RowKit
def badI (x:Cod) (bs:List UInt8) (i:Nat):Bool:=!named x i&& !(decide (i=1)&&x.fo&&decide (bs.getD 1 0=8))&&!decide (bs.getD i 0=0)
def anyBad (x:Cod) (bs:List UInt8) (n:Nat):Bool:=(List.range n).any (badI x bs)
def foD (x:Cod) (bs:List UInt8) (n:Nat):Bool:=decide (1 < n)&&!named x 1&&x.fo&&decide (bs.getD 1 0=8)
def farD (x:Cod) (bs:List UInt8):Bool:=x.at_&&decide (4611686018427387904 < getV bs 2 8)
def codOf (bs:List UInt8):Option Cod:=codesL.find? (isD (bs.getD 0 0) (bs.getD 1 0))
def wrongD (x:Cod) (bs:List UInt8):Bool:=anyBad x bs 16||farD x bs
def codeD (bs:List UInt8):Int:=match codOf bs with|none=>8192|some x=>if wrongD x bs then 9216 else 0
theorem anyBad_succ (x:Cod) (bs:List UInt8) (n:Nat):anyBad x bs (n+1)=(anyBad x bs n||badI x bs n):=by
 unfold anyBad;rw[List.range_succ,List.any_append];simp
theorem decFail_c {w X:World} {h1 h2:Nat} {code:Int} {R:KV} (g:Grow w X) (b1:BK X h1 rK0 tK) (b2:BK X h2 rR0 tR) (l1:w.heap.size<=h1) (l2:w.heap.size<=h2) (hne:h1≠h2)
 (c:∀w',Grow w w'->R (.tuple #[vK0,vR 2 5 code (.slice none 0 0) 0,.bool false]) w'):
 Zs 65 #[.int .i64 5,.int .i64 code] X λv41 w42=>
  ∃(n43:Int) (n44:Int) (n45:Int) (v46:Value) (n47:Int),((v41:Value)=(.agg #[(.int .i64 n43),(.int .i64 n44),(.int .i64 n45),v46,(.int .i64 n47)]))/\
  (StRow w42 ⟨h1,0,none⟩ rK0)/\bindW (stRow w42 ⟨h1,0,none⟩ rK0) λw48=>
  (StRow w48 ⟨h2,0,none⟩ #[(.int .i64 n43),(.int .i64 n44),(.int .i64 n45),v46,(.int .i64 n47)])/\bindW (stRow w48 ⟨h2,0,none⟩ #[(.int .i64 n43),(.int .i64 n44),(.int .i64 n45),v46,(.int .i64 n47)]) λw49=>
  ∃(n50:Int) (n51:Int) (n52:Int) (v53:Value) (n54:Int) (n55:Int) (n56:Int) (b57:Bool),(ldCells w49 ⟨h1,0,none⟩ 8 #[(.int .i64 n50),(.int .i64 n51),(.int .i64 n52),v53,(.int .u64 n54),(.int .u64 n55),(.int .i64 n56),(.bool b57)])/\
  ∃(n58:Int) (n59:Int) (n60:Int) (v61:Value) (n62:Int),(ldCells w49 ⟨h2,0,none⟩ 5 #[(.int .i64 n58),(.int .i64 n59),(.int .i64 n60),v61,(.int .i64 n62)])/\
  R (.tuple #[(.agg #[(.int .i64 n50),(.int .i64 n51),(.int .i64 n52),v53,(.int .u64 n54),(.int .u64 n55),(.int .i64 n56),(.bool b57)]),(.agg #[(.int .i64 n58),(.int .i64 n59),(.int .i64 n60),v61,(.int .i64 n62)]),(.bool false)]) w49:=by
 refine Wrong_c λw6 g6=>⟨_,_,_,_,_,rfl,?_⟩
 have b1:=b1.grow g6
 have b2:=b2.grow g6
 have g:=g.then g6
 refine⟨b1.row rfl rfl,nm λw12 e12=>?_⟩
 obtain⟨q1,t1⟩:=rowE b1 e12 rfl
 have q2:=b2.turn t1 (λe=>hne e.symm)
 refine⟨q2.row rfl rfl,nm λw13 e13=>?_⟩
 obtain⟨p2,t2⟩:=rowE q2 e13 rfl
 have p1:=q1.turn t2 hne
 exact⟨_,_,_,_,_,_,_,_,p1.ld rfl,_,_,_,_,_,p2.ld rfl,c _ (Below.turn (Below.turn g t1 l1) t2 l2)⟩
theorem DecodeG_c {w:World} {v:Value} {bs:List UInt8} {R:KV} (hr:RdB w v bs) (hl:bs.length=16)
 (c0:codeD bs≠0->∀w',Grow w w'->R (.tuple #[vK0,vR 2 5 (codeD bs) (.slice none 0 0) 0,.bool false]) w')
 (c1:∀x,codOf bs=some x->codeD bs=0->∀w',Grow w w'->R (.tuple #[vK x.k (atD x bs) (nD x bs) (.slice none 0 0) 0 0 (tD x bs) (foD x bs 16),vR 0 0 0 (.slice none 0 0) 0,.bool true]) w'):
 Zs 129 #[v] w R:=by
 apply q11W
 obtain⟨av,cv,hv,hrest⟩:=hr
 have hr:RdB w v bs:=⟨av,cv,hv,hrest⟩
 have hcl:Value.cells v= #[v]:=by rw[hv];rfl
 unfold q11F
 rw[hcl]
 refine nm λW1 e1=>?_
 obtain⟨bb,g1,s1⟩:=alE e1
 refine nm λW2 e2=>?_
 obtain⟨b1,g2',s2⟩:=alE e2
 have bb:=bb.grow g2'
 have g2:=g1.then g2'
 refine nm λW3 e3=>?_
 obtain⟨b2,g3',s3⟩:=alE e3
 have bb:=bb.grow g3'
 have b1:=b1.grow g3'
 have g3:=g2.then g3'
 refine⟨_,bb.at 0,_,(RdB.len hr),cond_f (by simp;omega) ?_⟩
 refine find_c (isD (bs.getD 0 0) (bs.getD 1 0)) (λy w' K g hK=>callU_of (by kernel_rfl) (Decode1_c (bb.grow g) (hr.grow (g3.then g)) (by omega) hK)) λw28 g28=>?_
 have g28':=g3.then g28
 have hfd:codOf bs=codesL.find? (isD (bs.getD 0 0) (bs.getD 1 0)):=rfl
 rw[←hfd]
 have hsz:W3.heap.size<=w28.heap.size:=g28.size
 refine⟨_,_,_,_,_,_,_,_,_,_,rfl,nm λw39 e39=>?_⟩
 obtain⟨bx39,g39,s39⟩:=alE e39
 refine⟨bx39.row rfl rfl,nm λw40 e40=>?_⟩
 obtain⟨bx40',t40⟩:=rowE bx39 e40 rfl
 have bx40:BK w40 w28.heap.size (rC ((codOf bs).getD zC)) tC:=bx40'
 have g40:Grow W3 w40:=Below.turn (g28.then g39) t40 hsz
 have gA:=g3.then g40
 have b1:=b1.grow g40
 have b2:=b2.grow g40
 have bb:=bb.grow g40
 cases hf:codOf bs with
 |none=>
  rw[hf]at bx40
  have hc:codeD bs=8192:=by unfold codeD;rw[hf]
  have c0:=c0 (by rw[hc];decide)
  rw[hc]at c0
  exact cond_t rfl (decFail_c gA b1 b2 (by omega) (by omega) (by omega) c0)
 |some x=>
  rw[hf]at bx40
  have bx:BK w40 w28.heap.size (rC x) tC:=bx40
  refine cond_f rfl ⟨_,bx.cell 0,nm λw64 e64=>?_⟩
  obtain⟨bc64,g64,s64⟩:=alE e64
  refine⟨bc64.row rfl rfl,nm λw65 e65=>?_⟩
  obtain⟨bc65',t65⟩:=rowE bc64 e65 rfl
  have hlt40:w28.heap.size < w40.heap.size:=bx.lt
  have g65:Grow w40 w65:=Below.turn g64 t65 (Nat.le_refl _)
  obtain⟨hc,hhc⟩:∃hc,hc=w40.heap.size:=⟨_,rfl⟩
  rw[←hhc]at bc65'
  have D0:DS w w.heap.size W1.heap.size W2.heap.size w28.heap.size hc x v (rK x.k 0 0 (.slice none 0 0) 0 0 0 false) w65:=⟨bb.grow g65,b1.grow g65,b2.grow g65,bx.grow g65,bc65',gA.then g65⟩
  rw[←hhc]
  generalize hhb:w.heap.size=hb at *
  generalize hh1:W1.heap.size=h1 at *
  generalize hh2:W2.heap.size=h2 at *
  generalize hhx:w28.heap.size=hx at *
  obtain⟨v67,hv67,r67,_⟩:=hr.sub (lo:=none) (hi:=some (.int .i64 (16:Int))) (l:=0) (r:=16) (λcap hcap=>by rw[bounds_ni (by omega) (by simp at hcap;omega)];rfl) (by omega) (by simp;omega)
  have r67:RdB w v67 bs:=by
   have e:((bs.map b8).drop 0).take (16 - 0)=bs.map b8:=by rw[List.drop_zero,List.take_of_length_le (by simp;omega)]
   rw[e]at r67;exact r67
  have hw0:hb<=hc/\hb<=h1/\hb<=h2:=⟨by omega,by omega,by omega⟩
  refine⟨_,D0.bb.at 0,v67,hv67,_,RdB.len r67,?_⟩
  rw[hl]
  refine⟨λ(b:Bool) (i:Int) (ww:World)=>0<=i/\i<=16/\b=anyBad x bs i.toNat/\DS w hb h1 h2 hx hc x v (rK x.k 0 0 (.slice none 0 0) 0 0 0 (foD x bs i.toNat)) ww,λ(_:Bool) (i:Int) (_:World)=>(16 - i).toNat,⟨by omega,by omega,rfl,D0⟩,?_⟩
  dsimp only[allR,mapR2,eqN,ltN]
  rintro m b i ww ⟨⟨h0,h1',rfl,D⟩,hm⟩
  refine cond_intro (λh=>?_) (λh=>?_)
  ·have h:i < 16:=by simpa using h
   obtain⟨i,rfl⟩:=Int.eq_ofNat_of_zero_le h0
   have hi:i < 16:=by omega
   rw[Int.toNat_natCast]at D ⊢
   refine JoinP.bool (λb w'=>b=anyBad x bs (i+1)/\DS w hb h1 h2 hx hc x v (rK x.k 0 0 (.slice none 0 0) 0 0 0 (foD x bs (i+1))) w') (λj hj=>?_) ?_
   ·obtain⟨a,ha,hca⟩:=at_getD (bs:=bs) (i:=i) (Rd.grow r67 D.gr) (by omega)
    refine⟨a,ha,_,hca,_,_,_,_,_,_,_,_,_,D.bx.ld rfl,named_c hi λw88 g88=>⟨_,rfl,?_⟩⟩
    have D:=D.grow g88
    have hs:=anyBad_succ x bs i
    have hfo:i≠1->foD x bs (i+1)=foD x bs i:=λhne=>by
     unfold foD
     have:decide (1 < i+1)=decide (1 < i):=by rw[Bool.eq_iff_iff];simp;omega
     rw[this]
    have hfo1:foD x bs 1=false:=by unfold foD;simp
    refine cond_intro (λe=>hj _ _ ⟨?_,?_⟩) (λe=>?_)
    ·rw[hs];simp [badI,e]
    ·by_cases hne:i=1
     ·subst hne
      have:foD x bs 2=foD x bs 1:=by rw[hfo1];unfold foD;rw[e];simp
      rw[this];exact D
     ·rw[hfo hne];exact D
    refine JoinP.bool (λb w'=>w'=w88/\b=(decide (i=1)&&x.fo&&decide (bs.getD 1 0=8))) (λj1 hj1=>?_) ?_
    ·have hi1:((i:Int)==(1:Int))=decide (i=1):=by
      rw[Bool.eq_iff_iff];simp only[beq_iff_eq,decide_eq_true_eq];omega
     rw[hi1]
     refine cond_intro (λe1=>⟨_,D.bx.cell 6,cond_intro (λe2=>hj1 _ _ ⟨rfl,?_⟩) (λe2=>hj1 _ _ ⟨rfl,?_⟩)⟩) (λe1=>hj1 _ _ ⟨rfl,?_⟩)
     ·simp only[decide_eq_true_eq]at e1;subst e1
      rw[show(8:Int)=((8:UInt8).toNat:Int) from rfl,u8_beq];simp [e2]
     ·simp [e2]
     ·simp [e1]
    ·rintro b w' ⟨rfl,rfl⟩
     refine cond_intro (λe1=>⟨st1_add D.bc (by simp),nm λw92 e92=>hj _ _ ⟨?_,?_⟩⟩) (λe1=>cond_intro (λe3=>hj _ _ ⟨?_,?_⟩) (λe3=>hj _ _ ⟨?_,?_⟩))
     ·rw[hs];simp only[badI,e,e1];simp
     ·subst e92
      have hi1:i=1:=by simp at e1;exact e1.1.1
      subst hi1
      have:foD x bs 2=true:=by
       unfold foD;simp only[e];simp at e1 ⊢;exact e1
      rw[this]
      exact D.set (by omega) (by omega) (by omega) (by omega) (by omega) 7 (.bool true)
     ·rw[hs,e3];rfl
     ·by_cases hne:i=1
      ·subst hne
       have:foD x bs 2=foD x bs 1:=by
        rw[hfo1];unfold foD;simp only[decide_true,Bool.true_and]at e1
        rw[Bool.and_assoc,e1];simp
       rw[this];exact D
      ·rw[hfo hne];exact D
     ·rw[hs,e3,u8_ne0];simp only[badI,e,e1];simp
     ·by_cases hne:i=1
      ·subst hne
       have:foD x bs 2=foD x bs 1:=by
        rw[hfo1];unfold foD;simp only[decide_true,Bool.true_and]at e1
        rw[Bool.and_assoc,e1];simp
       rw[this];exact D
      ·rw[hfo hne];exact D
   ·rintro b w' ⟨rfl,D⟩
    rw[wi64_id (n:=(i:Int)+1) (by omega) (by omega)]
    have e:((i:Int)+1).toNat=i+1:=by omega
    refine⟨⟨by omega,by omega,?_,?_⟩,by omega⟩
    ·rw[e]
    ·rw[e];exact D
  ·have h:¬i < 16:=by simpa using h
   have ei:i.toNat=16:=by omega
   rw[ei]at D
   have hgr:=getV_range bs 2 8
   have hgn:=getV_range bs 10 4
   rw[ei]
   refine JoinP.bool (λb w'=>b=wrongD x bs/\∃av,(farD x bs=false->av=atD x bs)/\DS w hb h1 h2 hx hc x v (rK x.k av 0 (.slice none 0 0) 0 0 0 (foD x bs 16)) w') (λj hj=>?_) ?_
   ·refine⟨_,D.bx.cell 3,cond_intro (λe=>⟨_,D.bb.at 0,bin_Get_c (hr.grow D.gr) (by decide) (by decide) ⟨_,_,rfl,?_⟩⟩) (λe=>hj _ _ ⟨?_,0,?_,D⟩)⟩
    ·refine JoinP.bool (λb w'=>b=wrongD x bs/\w'=ww) (λj1 hj1=>cond_intro (λe3=>hj1 _ _ ⟨?_,rfl⟩) (λe3=>hj1 _ _ ⟨?_,rfl⟩)) ?_
     ·unfold wrongD;rw[e3];rfl
     ·unfold wrongD farD;rw[e3,e];simp
     rintro b w' ⟨rfl,rfl⟩
     refine⟨st1_add D.bc (by simp),nm λw170 e170=>hj _ _ ⟨rfl,IntKind.wrap .i64 (getV bs 2 8),λhf=>?_,?_⟩⟩
     ·unfold farD at hf
      rw[e]at hf
      simp at hf
      unfold atD;rw[if_pos e,wi64_id (by omega) (by omega)]
     ·subst e170
      exact D.set (by omega) (by omega) (by omega) (by omega) (by omega) 1 _
    ·have e:x.at_=false:=e
     unfold wrongD farD;rw[e];simp
    ·intro _
     have e:x.at_=false:=e
     unfold atD;rw[if_neg (by rw[e];simp)]
   rintro b w' ⟨rfl,av,hav,D⟩
   refine JoinP.unit (λw'=>DS w hb h1 h2 hx hc x v (rK x.k av (nD x bs) (.slice none 0 0) 0 0 (tD x bs) (foD x bs 16)) w') (λj hj=>?_) ?_
   ·refine⟨_,D.bx.cell 4,cond_intro (λe=>⟨_,D.bb.at 0,bin_Get_c (hr.grow D.gr) (by decide) (by decide) ⟨_,_,rfl,st1_add D.bc (by simp),nm λw150 e150=>hj _ ?_⟩⟩) (λe=>⟨_,D.bx.cell 5,cond_intro (λe2=>⟨_,D.bb.at 0,?_⟩) (λe2=>⟨_,D.bx.cell 7,cond_intro (λe3=>⟨_,D.bb.at 0,?_⟩) (λe3=>hj _ ?_)⟩)⟩)⟩
    ·subst e150
     have h4:(256:Int) ^ (4:Int).toNat=4294967296:=by decide
     rw[wi64_id (n:=getV bs 10 4) (by omega) (by omega)]
     have:=D.set (by omega) (by omega) (by omega) (by omega) (by omega) 2 (.int .i64 (getV bs 10 4))
     have ea:nD x bs=getV bs 10 4:=by unfold nD;rw[if_pos e]
     have et:tD x bs=0:=by unfold tD;rw[if_pos e]
     rw[ea,et];exact this
    ·have e:x.n=false:=e
     obtain⟨a,ha,hca⟩:=at_getD (i:=13) (hr.grow D.gr) (by omega)
     refine⟨a,ha,_,hca,st1_add D.bc (by simp),nm λw155 e155=>hj _ ?_⟩
     subst e155
     have hu:=u8_lt (bs.getD 13 0)
     rw[wi64_id (n:=((bs.getD 13 0).toNat:Int)) (by omega) (by omega)]
     have:=D.set (by omega) (by omega) (by omega) (by omega) (by omega) 2 (.int .i64 ((bs.getD 13 0).toNat:Int))
     have ea:nD x bs=((bs.getD 13 0).toNat:Int):=by unfold nD;rw[if_neg (by rw[e];simp),if_pos e2]
     have et:tD x bs=0:=by unfold tD;rw[if_neg (by rw[e];simp),if_pos e2]
     rw[ea,et];exact this
    ·have e:x.n=false:=e
     have e2:x.sh=false:=e2
     obtain⟨a,ha,hca⟩:=at_getD (i:=2) (hr.grow D.gr) (by omega)
     refine⟨a,ha,_,hca,st1_add D.bc (by simp),nm λw160 e160=>hj _ ?_⟩
     subst e160
     have hu:=u8_lt (bs.getD 2 0)
     rw[wi64_id (n:=((bs.getD 2 0).toNat:Int)) (by omega) (by omega)]
     have:=D.set (by omega) (by omega) (by omega) (by omega) (by omega) 6 (.int .i64 ((bs.getD 2 0).toNat:Int))
     have ea:nD x bs=0:=by unfold nD;rw[if_neg (by rw[e];simp),if_neg (by rw[e2];simp)]
     have et:tD x bs=((bs.getD 2 0).toNat:Int):=by unfold tD;rw[if_neg (by rw[e];simp),if_neg (by rw[e2];simp),if_pos e3]
     rw[ea,et];exact this
    ·have e:x.n=false:=e
     have e2:x.sh=false:=e2
     have e3:x.ty=false:=e3
     have ea:nD x bs=0:=by unfold nD;rw[if_neg (by rw[e];simp),if_neg (by rw[e2];simp)]
     have et:tD x bs=0:=by unfold tD;rw[if_neg (by rw[e];simp),if_neg (by rw[e2];simp),if_neg (by rw[e3];simp)]
     rw[ea,et];exact D
   intro w97 D
   refine cond_intro (λhw=>?_) (λhw=>?_)
   ·have hcode:codeD bs=9216:=by unfold codeD;rw[hf];simp only[hw,if_true]
    have c0:=c0 (by rw[hcode];decide)
    rw[hcode]at c0
    exact decFail_c D.gr D.b1 D.b2 (by omega) (by omega) (by omega) c0
   ·have hcode:codeD bs=0:=by unfold codeD;rw[hf];simp only[hw];rfl
    have hfar:farD x bs=false:=by
     unfold wrongD at hw
     simp at hw;exact hw.2
    rw[hav hfar]at D
    have c1:=c1 x hf hcode
    refine⟨_,_,_,_,_,_,_,_,D.bc.ld rfl,D.b1.row rfl rfl,nm λw128 e128=>?_⟩
    obtain⟨q1,t1⟩:=rowE D.b1 e128 rfl
    have q2:=D.b2.turn t1 (by omega)
    refine⟨q2.row rfl rfl,nm λw129 e129=>?_⟩
    obtain⟨p2,t2⟩:=rowE q2 e129 rfl
    have p1:=q1.turn t2 (by omega)
    exact⟨_,_,_,_,_,_,_,_,p1.ld rfl,_,_,_,_,_,p2.ld rfl,c1 _ (Below.turn (Below.turn D.gr t1 (by omega)) t2 (by omega))⟩
end Go.Proofs.YtdpmhkbhlbfbeaaGreatDoor.Cdb
end
