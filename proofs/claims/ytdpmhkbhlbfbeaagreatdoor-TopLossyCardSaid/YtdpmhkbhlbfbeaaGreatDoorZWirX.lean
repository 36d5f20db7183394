/- A part of the proof. -/
import Derived.Test.YtdpmhkbhlbfbeaaGreatDoorZItoX
import Derived.Test.YtdpmhkbhlbfbeaaGreatDoorZCdbX
import Derived.Test.YtdpmhkbhlbfbeaaGreatDoorZLstX
import Derived.Test.YtdpmhkbhlbfbeaaGreatDoorZCliX2
set_option linter.unusedSimpArgs false
set_option linter.unusedVariables false
set_option maxRecDepth 100000
section
namespace Go.Proofs.YtdpmhkbhlbfbeaaGreatDoor.Ses
open CW RowKit
def zCm:Cm:=⟨0,0,0,0,0,0,false,[]⟩
def cmD (bs:List UInt8):Cm:=match Cdb.codOf bs with
 |none=>zCm
 |some x=>if Cdb.codeD bs=0 then⟨x.k,(Cdb.atD x bs).toNat,(Cdb.nD x bs).toNat,0,0,Cdb.tD x bs,Cdb.foD x bs 16,[]⟩else zCm
def wireP:Wire:=⟨λk c i=>Sen.encS k c i,λbs=>if Lst.okD bs=true then some (Lst.dK bs,Lst.dO bs)else none,λbs=>(cmD bs,Cdb.codeD bs),λc=>(Cdb.outI c.kind (c.n:Int)).toNat⟩
theorem outI_le (k n:Int):0<=Cdb.outI k n/\Cdb.outI k n<=512:=by
 have:=Cdb.runI_range n
 unfold Cdb.outI
 split
 ·omega
 ·split
  ·omega
  ·split<;>omega
theorem atD_nn (x:Cdb.Cod) (bs:List UInt8):0<=Cdb.atD x bs:=by
 unfold Cdb.atD;split
 ·exact(getV_range bs 2 8).1
 ·omega
theorem nD_nn (x:Cdb.Cod) (bs:List UInt8):0<=Cdb.nD x bs:=by
 unfold Cdb.nD;split
 ·exact(getV_range bs 10 4).1
 ·split<;>omega
theorem wireP_ok:WireOk wireP where
 sen:=λ_ k=>Sen.Encode_c λv w' g o=>k v w' g (o.mono (Nat.zero_le _))
 senl:=λk c i=>by show(Sen.encS k c i).length<=4096;rw[Sen.encS_length];omega
 two:=λ{w v bs R} hr k=>by
  refine Lst.Decode_c hr λw' g=>?_
  cases ho:Lst.okD bs with
  |true=>
   have:=k w' (Lst.dK bs) (Lst.dO bs) ⟨0,0,0,[],0⟩ true g (λq hq=>by
    have:wireP.two bs=some (Lst.dK bs,Lst.dO bs):=by show(if Lst.okD bs=true then _ else _)=_;rw[if_pos ho]
    rw[this]at hq;cases hq;exact⟨rfl,rfl,rfl⟩) (λhn=>by
    have:wireP.two bs=some (Lst.dK bs,Lst.dO bs):=by show(if Lst.okD bs=true then _ else _)=_;rw[if_pos ho]
    rw[this]at hn;cases hn)
   have e:Lst.dR bs=rRp ⟨0,0,0,[],0⟩ nilV:=by unfold Lst.dR;rw[if_pos ho];rfl
   rw[e];exact this
  |false=>
   have:=k w' (Lst.dK bs) (Lst.dO bs) (wrong 9728) false g (λq hq=>by
    have:wireP.two bs=none:=by show(if Lst.okD bs=true then _ else _)=_;rw[if_neg (by rw[ho];simp)]
    rw[this]at hq;cases hq) (λ_=>⟨rfl,rfl⟩)
   have e:Lst.dR bs=rRp (wrong 9728) nilV:=by unfold Lst.dR;rw[if_neg (by rw[ho];simp)];rfl
   rw[e];exact this
 cmd:=λ{w v bs R} hr hl k=>by
  refine Cdb.DecodeG_c hr hl (λhc w' g=>?_) (λx hx hc w' g=>?_)
  ·have e:cmD bs=zCm:=by
    unfold cmD
    cases Cdb.codOf bs with
    |none=>rfl
    |some x=>show(if _ then _ else _)=_;rw[if_neg hc]
   have:=k w' (wrong (Cdb.codeD bs)) false g (λh=>absurd h hc) (λ_=>⟨rfl,rfl⟩)
   have e2:(wireP.cmd bs).1=zCm:=e
   rw[e2]at this
   exact this
  ·have e:cmD bs=⟨x.k,(Cdb.atD x bs).toNat,(Cdb.nD x bs).toNat,0,0,Cdb.tD x bs,Cdb.foD x bs 16,[]⟩:=by unfold cmD;rw[hx];simp only[if_pos hc]
   have:=k w' ⟨0,0,0,[],0⟩ true g (λ_=>rfl) (λh=>absurd hc h)
   have e2:(wireP.cmd bs).1=⟨x.k,(Cdb.atD x bs).toNat,(Cdb.nD x bs).toNat,0,0,Cdb.tD x bs,Cdb.foD x bs 16,[]⟩:=e
   rw[e2]at this
   have a1:(((Cdb.atD x bs).toNat:Nat):Int)=Cdb.atD x bs:=Int.toNat_of_nonneg (atD_nn x bs)
   have a2:(((Cdb.nD x bs).toNat:Nat):Int)=Cdb.nD x bs:=Int.toNat_of_nonneg (nD_nn x bs)
   dsimp only[rCm]at this
   rw[a1,a2]at this
   exact this
 cmd0:=λbs=>by
  show(cmD bs).d=[]/\(cmD bs).key=0/\(cmD bs).new=0
  unfold cmD
  cases Cdb.codOf bs with
  |none=>exact⟨rfl,rfl,rfl⟩
  |some x=>show(if _ then _ else _:Cm).d=[]/\_;split<;>exact⟨rfl,rfl,rfl⟩
 out:=λ{w c d R} hd k=>by
  refine Cdb.Out_c λw' g=>?_
  have:=k w' g
  have e:((wireP.out c:Nat):Int)=Cdb.outI c.kind (c.n:Int):=Int.toNat_of_nonneg (outI_le _ _).1
  rw[e]at this
  exact this
 outl:=λc=>by
  have:=outI_le c.kind (c.n:Int)
  show(Cdb.outI c.kind (c.n:Int)).toNat<=512
  omega
 wrg:=λ{w code R} k=>Cdb.Wrong_c λw' g=>k w' g
end Go.Proofs.YtdpmhkbhlbfbeaaGreatDoor.Ses
end
section
namespace Go.Proofs.YtdpmhkbhlbfbeaaGreatDoor.Ses
open CW RowKit Pdu
theorem decS_ok:Cli.SenOk Sen.decS:=λhr k=>Sen.Decode_c hr k
abbrev tStr:TypeId:=9
abbrev tStrs:TypeId:=63
theorem tyStr:SlTyN Tryz.prog tStrs tStr ET.s 16:=SlTyN.of (by kernel_rfl)
theorem cloneT_c {w:World} {v:Value} {A:List (List UInt8)} (h:RdR ET w v A) (hl:A.length<=1000) {R:KV} (k:∀v' w',Grow w w'->RdR ET w' v' A->NewV w v'->(∀q,v'.ownBlock=some q->q < w'.heap.size)->R v' w'):Zs 37 #[v] w R:=by
 apply q125W
 obtain⟨b,hb1,hb2⟩:=h.isNil
 refine⟨b,hb1,cond_intro (λe=>?_) (λe=>?_)⟩
 ·obtain⟨rfl,rfl⟩:=hb2 e
  exact k _ w (Grow.refl w) h (λq hq=>by cases hq) (λq hq=>by cases hq)
 ·refine nm λw1 e1=>?_
  have g1:Grow w w1:=by rw[e1];exact Grow.al (Grow.refl w) _
  have o1:OwnR ET w1 w.heap.size tStr (.slice (some ⟨w.heap.size,0,none⟩) 0 0) []:=by
   rw[e1];exact OwnR.lit w (Nat.le_refl _) tStr [] 0 rfl (by simp [maxLen])
  obtain⟨v',w',k1,o',n'⟩:=app_ownR tyStr o1 (h.grow g1) (by simp only[List.length_nil];omega) g1.size
  have g':Grow w w':=by
   refine⟨n'.by_.os.trans g1.os,n'.by_.tape.trans g1.tape,n'.by_.output.trans g1.output,Nat.le_trans g1.size n'.by_.size,λq hq=>(n'.by_.block q (Nat.lt_of_lt_of_le hq g1.size) (λe=>?_)).trans (g1.block q hq)⟩
   have:q=w.heap.size:=by simpa[Value.ownBlock]using e
   omega
  rw[List.nil_append]at o'
  exact⟨v',w',k1,k v' w' g' o'.rd (λq hq=>(o'.lt q hq).1) (λq hq=>(o'.lt q hq).2)⟩
def newS {U:Type} (u:U):St U:=⟨⟨⟨[],0,0,false,false⟩,false,false,0,1,[],[],0⟩,u,[]⟩
theorem New_c {K:Doer} {w:World} {FU:Fp} {u:K.U} {av:Value} {A:List (List UInt8)} (hu:K.At w FU u) (ha:RdR ET w av A) (hl:A.length<=1000) {R:KV}
 (k:∀g w' S',Step FU w w' S'->w.heap.size<=g->SAt K A w' g S' [] (newS u)->R (zA g) w'):Zs 18 #[av,K.f] w R:=by
 apply q150W
 refine cloneT_c ha hl λv1 w1 g1 r1 n1 l1=>NewReader_f λw3 g3 s3 b3=>⟨_,rfl,?_⟩
 have one1:isOne v1=true:=by obtain⟨a,cap,rfl,_⟩:=r1;rfl
 refine oneK_of one1 (oneK_of (v:=K.f) rfl (nm λw5 e5=>?_))
 obtain⟨b5,g5,s5⟩:=alE e5
 have gA:=g1.then (g3.then g5)
 have z1:=g1.size
 have z3:w3.heap.size=w1.heap.size+1:=s3
 have ltF:∀q,FU q->q < w.heap.size:=K.lt hu
 refine k w3.heap.size w5 (λq=>FU q\/q=w3.heap.size\/q=w1.heap.size\/v1.ownBlock=some q) ⟨gA.os,gA.tape,gA.output,gA.size,λq hq _=>gA.block q hq,λq hq=>?_⟩ (by omega)
  ⟨λq=>if q < w.heap.size then 6 else if q=w3.heap.size then 1 else if q=w1.heap.size then 3 else 7,w1.heap.size,v1,nilV,nilV,nilV,[],FU,⟨b5,?_⟩⟩
 ·rcases hq with hq|rfl|rfl|hq
  ·exact .inl hq
  ·exact .inr (by omega)
  ·exact .inr (by omega)
  ·exact .inr (n1 q hq)
 ·have hlt:∀q,(FU q\/q=w3.heap.size\/q=w1.heap.size\/v1.ownBlock=some q)->q < w5.heap.size:=λq hq=>by
   have z5:=g5.size
   rcases hq with hq|rfl|rfl|hq
   ·have:=ltF q hq;omega
   ·omega
   ·omega
   ·have:=l1 q hq;omega
  have hu5:K.At w5 FU u:=K.stable hu gA.size (λq hq=>gA.block q (ltF q hq))
  refine⟨hlt,⟨.inr (.inl rfl),?_⟩,b3.grow g5,⟨.inr (.inr (.inl rfl)),?_⟩,Own.nil _ _ _,λq hq=>(by cases hq),OwnR.nil _ _ _,λq hq=>(by cases hq),Own.nil _ _ _,λq hq=>(by cases hq),hu5,λq hq=>⟨.inl hq,?_⟩,rfl,λi hi=>absurd hi (Nat.not_lt_zero _),λi hi=>absurd hi (Nat.not_lt_zero _),λq hq=>(by cases hq),(r1.grow g3).grow g5,λq hq=>⟨.inr (.inr (.inr hq)),?_⟩⟩
  ·simp only
   rw[if_neg (by omega)];rfl
  ·simp only
   rw[if_neg (by omega),if_neg (by omega)];rfl
  ·simp only
   rw[if_pos (ltF q hq)]
  ·have a1:=n1 q hq
   have a2:=l1 q hq
   simp only
   rw[if_neg (by omega),if_neg (by omega),if_neg (by omega)]
end Go.Proofs.YtdpmhkbhlbfbeaaGreatDoor.Ses
end
