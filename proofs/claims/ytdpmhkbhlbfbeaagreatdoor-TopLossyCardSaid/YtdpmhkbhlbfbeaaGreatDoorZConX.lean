/- A part of the proof. -/
import Derived.Test.YtdpmhkbhlbfbeaaGreatDoorZCrcX
import Derived.Test.YtdpmhkbhlbfbeaaGreatDoorZBX4
import Derived.Test.YtdpmhkbhlbfbeaaGreatDoorZPutW
import Derived.Test.YtdpmhkbhlbfbeaaGreatDoorZGF
set_option linter.unusedSimpArgs false
set_option linter.unusedVariables false
set_option maxRecDepth 100000
section
namespace Go.Proofs.YtdpmhkbhlbfbeaaGreatDoor.Con
open CW RowKit Crc
structure Cs where
 own:Int
 first:Bool
 peer:Int
 known:Bool
 met:Bool
 reset:Bool
 out:List UInt8
 base:Int
 sent:Int
 inn:List UInt8
 got:Int
 say:Bool
structure Pk where
 k:UInt8
 life:Int
 mine:Int
 ack:Int
 pos:Int
 bs:List UInt8
def Pk.head (p:Pk):List UInt8:=[p.k]++putL p.life 4++putL p.mine 4++putL p.ack 4++putL p.pos 4
def Pk.enc (p:Pk):List UInt8:=sld (p.head++p.bs)
theorem Pk.head_length (p:Pk):p.head.length=17:=by simp [Pk.head,putL_length]
def u32 (n:Int):Prop:=0<=n/\n < 4294967296
structure PkFits (p:Pk):Prop where
 k:p.k<=2
 life:u32 p.life
 mine:u32 p.mine
 ack:u32 p.ack
 pos:u32 p.pos
 bs:p.bs.length<=4096
def gap (a b:Int):Int:=IntKind.wrap .i64 (IntKind.wrap .i32 (IntKind.wrap .u32 (b - a)))
def Cs.kind (c:Cs):UInt8:=if c.met then 2 else if c.known then 1 else 0
def Cs.pk (c:Cs) (f:Int) (bs:List UInt8):Pk:=⟨c.kind,c.own,c.peer,c.got,IntKind.wrap .u32 (c.base+IntKind.wrap .u32 f),bs⟩
def newC (own:Int) (first:Bool):Cs:=⟨own,first,0,false,false,false,[],0,0,[],0,first⟩
def tickC (c:Cs):Cs:={c with sent:=0,say:=c.say||(c.first&&!c.known)||(c.known&&!c.met)||decide (0 < c.out.length)}
def ackC (c:Cs) (n ack:Int):Cs:=if 0 < n/\n<=c.out.length then{c with out:=c.out.drop n.toNat,base:=ack,sent:=max (c.sent - n) 0} else c
def gotC (c:Cs) (old:Int) (bs:List UInt8):Cs:=if old < 0\/(bs.length:Int)<=old then c else
 {c with inn:=c.inn++(bs.drop old.toNat).take (min (bs.length - old.toNat) (4096 - c.inn.length)),got:=IntKind.wrap .u32 (c.got+IntKind.wrap .u32 (min (bs.length - old.toNat) (4096 - c.inn.length):Nat))}
def takeC (c:Cs) (ack pos:Int) (bs:List UInt8):Cs:=
 if bs=[] then ackC c (gap c.base ack) ack else gotC {ackC c (gap c.base ack) ack with say:=true} (gap pos c.got) bs
def inC (c:Cs) (p:Pk):Cs:=
 if c.reset then c else if c.known=true/\p.life≠c.peer then{c with reset:=true} else
 if p.k=0\/p.mine≠c.own then{c with peer:=p.life,known:=true,say:=true} else
 takeC {c with say:=c.say||!c.met||p.k==1,peer:=p.life,known:=true,met:=true} p.ack p.pos p.bs
def chunk (c:Cs):Int:=min ((c.out.length:Int) - c.sent) 1024
def outs:Nat->Cs->List Pk×Cs
 |0,c=>([],c)
 |f+1,c=>if chunk c=0 then([],c)else(c.pk c.sent ((c.out.drop c.sent.toNat).take (chunk c).toNat)::(outs f {c with sent:=c.sent+chunk c}).1,(outs f {c with sent:=c.sent+chunk c}).2)
def chunks (c:Cs):List Pk×Cs:=if c.known then outs 5 c else([],c)
def outC (c:Cs):List Pk×Cs:=
 if c.reset then([],c)else if(chunks c).2.say=true/\(chunks c).1=[] then([(chunks c).2.pk (chunks c).2.sent []],{(chunks c).2 with say:=false})else((chunks c).1,{(chunks c).2 with say:=false})
def sendN (c:Cs) (bs:List UInt8):Nat:=if c.reset then 0 else min bs.length (4096 - c.out.length)
def sendC (c:Cs) (bs:List UInt8):Cs:=if c.reset then c else{c with out:=c.out++bs.take (sendN c bs)}
end Go.Proofs.YtdpmhkbhlbfbeaaGreatDoor.Con
end
section
namespace Go.Proofs.YtdpmhkbhlbfbeaaGreatDoor.Con
open CW RowKit Crc
abbrev tC:TypeId:=105
abbrev rC (c:Cs) (vo vi:Value):Array Value:= #[.int .u32 c.own,.bool c.first,.int .u32 c.peer,.bool c.known,.bool c.met,.bool c.reset,vo,.int .u32 c.base,.int .i64 c.sent,vi,.int .u32 c.got,.bool c.say]
structure CsFits (c:Cs):Prop where
 own:u32 c.own
 peer:u32 c.peer
 base:u32 c.base
 got:u32 c.got
 s0:0<=c.sent
 s1:c.sent<=c.out.length
 out:c.out.length<=4096
 inn:c.inn.length<=4096
structure Cn (w:World) (g:Nat) (vo vi:Value) (c:Cs):Prop where
 b:BK w g (rC c vo vi) tC
 out:OwnB w 0 tb vo c.out
 inn:OwnB w 0 tb vi c.inn
 ne:∀k,vo.ownBlock=some k->vi.ownBlock≠some k
def fpC (g:Nat) (vo vi:Value):Fp:=λk=>k=g\/vo.ownBlock=some k\/vi.ownBlock=some k
theorem Cn.isIn {w:World} {g:Nat} {vo vi:Value} {c:Cs} (h:Cn w g vo vi c):InW w (fpC g vo vi):=by
 rintro k (rfl|hk|hk)
 ·exact h.b.lt
 ·exact h.out.ltS k hk
 ·exact h.inn.ltS k hk
theorem Cn.grow {w w':World} {g:Nat} {vo vi:Value} {c:Cs} (h:Cn w g vo vi c) (k:Grow w w'):Cn w' g vo vi c:=⟨h.b.grow k,h.out.grow k,h.inn.grow k,h.ne⟩
theorem Cn.stepS {S S':Fp} {w w':World} {g:Nat} {vo vi:Value} {c:Cs} (h:Cn w g vo vi c) (st:Step S w w' S') (a:Apart (fpC g vo vi) S):Cn w' g vo vi c:=
 ⟨h.b.stepS st (a g (.inl rfl)),h.out.stepS st (λq hq=>a q (.inr (.inl hq))),h.inn.stepS st (λq hq=>a q (.inr (.inr hq))),h.ne⟩
theorem Cn.set {w w':World} {g j:Nat} {vo vi u:Value} {c:Cs} (h:Cn w g vo vi c) (e:w'=World.setCell w (Addr.add ⟨g,0,none⟩ j) u) (c':Cs) (hc:(rC c vo vi).setIfInBounds j u=rC c' vo vi) (ho:c'.out=c.out) (hi:c'.inn=c.inn):
 Cn w' g vo vi c'/\Step (fpC g vo vi) w w' (fpC g vo vi):=by
 obtain⟨b,t⟩:=setE h.b e
 refine⟨⟨by rw[hc]at b;exact b,by rw[ho];exact h.out.turn t (own_ne h.out h.b (by decide)),by rw[hi];exact h.inn.turn t (own_ne h.inn h.b (by decide)),h.ne⟩,?_⟩
 subst e
 exact Step.setA w _ u (by rw[add_block];exact .inl rfl)
theorem Cn.setO {w w':World} {g:Nat} {vo vi vo':Value} {c:Cs} {bs:List UInt8} (h:Cn w g vo vi c) (ho:OwnB w 0 tb vo' bs) (hn:∀k,vo'.ownBlock=some k->vi.ownBlock≠some k) (e:w'=World.setCell w (Addr.add ⟨g,0,none⟩ 6) vo'):
 Cn w' g vo' vi {c with out:=bs}/\Turn g w w':=by
 obtain⟨b,t⟩:=setE h.b e
 exact⟨⟨b,ho.turn t (own_ne ho h.b (by decide)),h.inn.turn t (own_ne h.inn h.b (by decide)),hn⟩,t⟩
theorem Cn.setI {w w':World} {g:Nat} {vo vi vi':Value} {c:Cs} {bs:List UInt8} (h:Cn w g vo vi c) (ho:OwnB w 0 tb vi' bs) (hn:∀k,vo.ownBlock=some k->vi'.ownBlock≠some k) (e:w'=World.setCell w (Addr.add ⟨g,0,none⟩ 9) vi'):
 Cn w' g vo vi' {c with inn:=bs}/\Turn g w w':=by
 obtain⟨b,t⟩:=setE h.b e
 exact⟨⟨b,h.out.turn t (own_ne h.out h.b (by decide)),ho.turn t (own_ne ho h.b (by decide)),hn⟩,t⟩
theorem New_c {w:World} {own:Int} {first:Bool} {R:KV} (k:∀w',Grow w w'->Cn w' w.heap.size (.slice none 0 0) (.slice none 0 0) (newC own first)->R (zA w.heap.size) w'):Zs 21 #[.int .u32 own,.bool first] w R:=by
 apply q44W
 refine nm λw0 e0=>?_
 obtain⟨b0,g0,_⟩:=alE e0
 exact k _ g0 ⟨b0,Own.nil _ _ _,Own.nil _ _ _,λk hk=>by cases hk⟩
theorem Tick_c {w:World} {g:Nat} {vo vi:Value} {c:Cs} {R:KV} (h:Cn w g vo vi c) (k:∀w',Step (fpC g vo vi) w w' (fpC g vo vi)->Cn w' g vo vi (tickC c)->R (.tuple #[]) w'):Zs 26 #[zA g] w R:=by
 apply q41W
 refine withAddr_some ⟨st1_at h.b (by show 8 < 12;omega),nm λw1 e1=>withAddr_some ?_⟩
 obtain⟨h1,s1⟩:=h.set e1 {c with sent:=0} rfl rfl rfl
 have fin:∀x w',x=(tickC c).say->w'=World.setCell w1 (Addr.add ⟨g,0,none⟩ 11) (.bool x)->R (.tuple #[]) w':=by
  intro x w' hx e
  subst hx
  obtain⟨h2,s2⟩:=h1.set e (tickC c) rfl rfl rfl
  exact k _ (s1.then s2) h2
 have fin':∀x,x=(tickC c).say->St1 w1 (Addr.add ⟨g,0,none⟩ 11)/\bindW (World.setCell w1 (Addr.add ⟨g,0,none⟩ 11) (.bool x)) (λw'=>R (.tuple #[]) w'):=λx hx=>⟨st1_at h1.b (by show 11 < 12;omega),nm λw5 e5=>fin x _ hx e5⟩
 have hl:((c.out.length:Int) > 0)↔0 < c.out.length:=by omega
 refine⟨_,h1.b.cell 11,cond_intro (λd1=>withAddr_some (fin' _ ?_)) (λd1=>withAddr_some ⟨_,h1.b.cell 1,cond_intro (λd2=>withAddr_some ⟨_,h1.b.cell 3,cond_intro (λd3=>withAddr_some (fin' _ ?_)) (λd3=>withAddr_some ⟨_,h1.b.cell 3,cond_intro (λd4=>withAddr_some ⟨_,h1.b.cell 4,cond_intro (λd5=>withAddr_some (fin' _ ?_)) (λd5=>withAddr_some ⟨_,h1.b.cell 6,_,RdB.len h1.out.rd,withAddr_some (fin' _ ?_)⟩)⟩) (λd4=>withAddr_some ⟨_,h1.b.cell 6,_,RdB.len h1.out.rd,withAddr_some (fin' _ ?_)⟩)⟩)⟩) (λd2=>withAddr_some ⟨_,h1.b.cell 3,cond_intro (λd3=>withAddr_some ⟨_,h1.b.cell 4,cond_intro (λd4=>withAddr_some (fin' _ ?_)) (λd4=>withAddr_some ⟨_,h1.b.cell 6,_,RdB.len h1.out.rd,withAddr_some (fin' _ ?_)⟩)⟩) (λd3=>withAddr_some ⟨_,h1.b.cell 6,_,RdB.len h1.out.rd,withAddr_some (fin' _ ?_)⟩)⟩)⟩)⟩
 all_goals simp_all [tickC]
theorem Send_c {w:World} {g:Nat} {vo vi src:Value} {c:Cs} {bs:List UInt8} {R:KV} (h:Cn w g vo vi c) (hf:CsFits c) (hr:RdB w src bs)
 (k:∀vo' w',Step (fpC g vo vi) w w' (fpC g vo' vi)->Cn w' g vo' vi (sendC c bs)->R (.int .i64 (sendN c bs:Nat)) w'):Zs 25 #[zA g,src] w R:=by
 apply q40W
 have hle:=hr.le
 rw[List.length_map]at hle
 have hout:=hf.out
 refine withAddr_some ⟨_,h.b.cell 5,cond_intro (λd=>?_) (λd=>?_)⟩
 ·have:=k vo w (Step.refl _ _) (by simp only[sendC,d,if_true];exact h)
  simp only[sendN,d,if_true]at this
  exact this
 refine⟨_,RdB.len hr,withAddr_some ⟨_,h.b.cell 6,_,RdB.len h.out.rd,nm λw6 e6=>?_⟩⟩
 have g6:=drE e6
 have h6:=h.grow g6
 rw[wi64_id (n:=4096 - (c.out.length:Int)) (by omega) (by omega)]
 have hn:(if(4096 - (c.out.length:Int)) < (bs.length:Int)then(4096 - (c.out.length:Int))else(bs.length:Int))=((sendN c bs:Nat):Int):=by
  simp only[sendN,d,Bool.false_eq_true,if_false]
  split<;>omega
 rw[hn]
 have hsn:sendN c bs<=bs.length/\c.out.length+sendN c bs<=4096:=by
  simp only[sendN,d,Bool.false_eq_true,if_false];omega
 obtain⟨v9,hs9,hr9,_⟩:=Rd.sub hr (lo:=none) (hi:=some (.int .i64 ((sendN c bs:Nat):Int))) (l:=0) (r:=sendN c bs) (λcap hc=>by rw[bounds_ni (by omega) (by simp at hc;omega)];simp) (by omega) (by simp;omega)
 have r9:RdB w v9 (bs.take (sendN c bs)):=by simpa[RdB,List.map_take]using hr9
 refine withAddr_some ⟨_,h6.b.cell 6,v9,hs9,nm λw10 e10=>?_⟩
 obtain rfl:w10=w6:=e10.trans e6.symm
 have hlt:(bs.take (sendN c bs)).length=sendN c bs:=by rw[List.length_take];omega
 obtain⟨v11,w12,k11,o11,n11⟩:=app_bytes h6.out (r9.grow g6) (Nat.zero_le _) (by rw[hlt];omega)
 refine⟨v11,w12,k11,withAddr_some (oneK_of (Rd.isOne o11.rd) ?_)⟩
 have st:=Step.of_own (S :=fpC g vo vi) n11 (λq hq=>.inr (.inl hq))
 have b12:BK w12 g (rC c vo vi) tC:=(n11.by_.block g h6.b.lt (λe=>own_ne h6.out h6.b (by decide) e.symm)).trans h6.b
 have hn12:∀q,v11.ownBlock=some q->vi.ownBlock≠some q:=by
  intro q hq hvi
  rcases n11.at_ with a|a
  ·exact h6.ne q (a▸hq) hvi
  ·have:=a q hq;have:=h6.inn.ltS q hvi;omega
 have i12:OwnB w12 0 tb vi c.inn:=by
  refine h6.inn.stepS (S :=λk=>vo.ownBlock=some k) (S':=λk=>vo.ownBlock=some k\/v11.ownBlock=some k) (Step.of_own n11 (λq hq=>hq)) (λq hq e=>h6.ne q e hq)
 have h12:Cn w12 g vo vi c->True:=λ_=>trivial
 refine⟨st1_at b12 (by show 6 < 12;omega),nm λw14 e14=>nm λw15 e15=>?_⟩
 obtain rfl:w15=w14:=e15.trans e14.symm
 obtain⟨b15,t15⟩:=setE b12 e15
 have e:sendC c bs={c with out:=c.out++bs.take (sendN c bs)}:=by unfold sendC;rw[if_neg (by rw[d];simp)]
 refine k v11 w15 ?_ ?_
 ·have s2:Step (λq=>fpC g vo vi q\/v11.ownBlock=some q) w12 w15 (λq=>fpC g vo vi q\/v11.ownBlock=some q):=by
   subst e15;exact Step.setA w12 _ _ (by rw[add_block];exact .inl (.inl rfl))
  exact((Step.of_grow g6).then (st.then s2)).imp (λ_ h=>h) (λq hq=>by
   rcases hq with rfl|hq|hq
   ·exact .inl (.inl rfl)
   ·rcases n11.at_ with a|a
    ·exact .inl (.inr (.inl (a▸hq)))
    ·exact .inr (Nat.le_trans g6.size (a q hq))
   ·exact .inl (.inr (.inr hq)))
 ·rw[e]
  exact⟨b15,o11.turn t15 (own_ne o11 b12 (by decide)),i12.turn t15 (own_ne i12 b12 (by decide)),hn12⟩
theorem Recv_c {w:World} {g:Nat} {vo vi:Value} {c:Cs} {R:KV} (h:Cn w g vo vi c)
 (k:∀v' w',Step (fpC g vo vi) w w' (fpC g vo (.slice none 0 0))->Cn w' g vo (.slice none 0 0) {c with inn:=[]}->RdX (fpC g vo (.slice none 0 0)) w' v' (c.inn.map b8)->(∀q,v'.ownBlock=some q->vi.ownBlock=some q)->R v' w'):Zs 31 #[zA g] w R:=by
 apply q39W
 refine withAddr_some ⟨_,h.b.cell 9,slices_Clip_c h.inn.rd λv2 r2 e2=>withAddr_some ⟨st1_at h.b (by show 9 < 12;omega),nm λw5 e5=>?_⟩⟩
 obtain⟨h5,t5⟩:=h.setI (bs:=[]) (Own.nil w 0 tb) (λk _ hk=>by cases hk) e5
 have hb:∀q,v2.ownBlock=some q->vi.ownBlock=some q:=λq hq=>e2▸hq
 have s5:Step (fpC g vo vi) w w5 (fpC g vo (.slice none 0 0)):=by
  subst e5
  exact(Step.setA (S :=fpC g vo vi) w _ _ (by rw[add_block];exact .inl rfl)).imp (λ_ h=>h) (λq hq=>by
   rcases hq with rfl|hq|hq
   ·exact .inl (.inl rfl)
   ·exact .inl (.inr (.inl hq))
   ·cases hq)
 refine k v2 w5 s5 h5 ⟨r2.turn t5 (λe=>own_ne h.inn h.b (by decide) (hb _ e)),λ_ q hq hs=>?_⟩ hb
 rcases hs with rfl|hs|hs
 ·exact own_ne h.inn h.b (by decide) (hb _ hq)
 ·exact h.ne q hs (hb _ hq)
 ·cases hs
end Go.Proofs.YtdpmhkbhlbfbeaaGreatDoor.Con
end
section
namespace Go.Proofs.YtdpmhkbhlbfbeaaGreatDoor.Con
open CW RowKit Crc
theorem ackC_inn (c:Cs) (n a:Int):(ackC c n a).inn=c.inn/\(ackC c n a).got=c.got/\(ackC c n a).own=c.own/\(ackC c n a).peer=c.peer:=by unfold ackC;split<;>exact⟨rfl,rfl,rfl,rfl⟩
theorem ackC_fits {c:Cs} (hf:CsFits c) (n a:Int) (ha:u32 a):CsFits (ackC c n a):=by
 obtain⟨h1,h2,h3,h4,h5,h6,h7,h8⟩:=hf
 unfold ackC
 split
 ·refine⟨h1,h2,ha,h4,?_,?_,?_,h8⟩
  ·show 0<=max (c.sent - n) 0;omega
  ·show max (c.sent - n) 0<=((c.out.drop n.toNat).length:Int);rw[List.length_drop];omega
  ·show(c.out.drop n.toNat).length<=4096;rw[List.length_drop];omega
 ·exact⟨h1,h2,h3,h4,h5,h6,h7,h8⟩
theorem gotC_fits {c:Cs} (hf:CsFits c) (o:Int) (bs:List UInt8):CsFits (gotC c o bs):=by
 obtain⟨h1,h2,h3,h4,h5,h6,h7,h8⟩:=hf
 unfold gotC
 split
 ·exact⟨h1,h2,h3,h4,h5,h6,h7,h8⟩
 ·refine⟨h1,h2,h3,?_,h5,h6,h7,?_⟩
  ·show u32 (IntKind.wrap .u32 _)
   unfold u32;rw[w32];omega
  ·show(c.inn++_).length<=4096
   rw[List.length_append,List.length_take];omega
theorem takeC_fits {c:Cs} (hf:CsFits c) (a p:Int) (bs:List UInt8) (ha:u32 a):CsFits (takeC c a p bs):=by
 have h:=ackC_fits hf (gap c.base a) a ha
 unfold takeC
 split
 ·exact h
 ·exact gotC_fits (c:={ackC c (gap c.base a) a with say:=true}) ⟨h.own,h.peer,h.base,h.got,h.s0,h.s1,h.out,h.inn⟩ _ _
theorem gap_range (a b:Int): -2147483648<=gap a b/\gap a b < 2147483648:=by
 unfold gap
 generalize IntKind.wrap .u32 (b - a)=x
 rw[wi32,wi64_id (by omega) (by omega)];omega
theorem take_c {w:World} {g:Nat} {vo vi v:Value} {c:Cs} {ack pos:Int} {bs:List UInt8} {R:KV} (h:Cn w g vo vi c) (hf:CsFits c) (hv:RdX (fpC g vo vi) w v (bs.map b8)) (hb:bs.length<=4096) (ha:u32 ack)
 (k:∀vo' vi' w',Step (fpC g vo vi) w w' (fpC g vo' vi')->Cn w' g vo' vi' (takeC c ack pos bs)->R (.tuple #[]) w'):Zs 55 #[zA g,.int .u32 ack,.int .u32 pos,v] w R:=by
 apply q43W
 have hout:=hf.out
 have hinn:=hf.inn
 have hs0:=hf.s0
 have hs1:=hf.s1
 have gr:=gap_range c.base ack
 refine JoinP.unit (λw0=>∃vo',Step (fpC g vo vi) w w0 (fpC g vo' vi)/\Cn w0 g vo' vi (ackC c (gap c.base ack) ack)) (λj hj=>?_) ?_
 ·refine withAddr_some ⟨_,h.b.cell 7,q0W _ _ _ _ ⟨_,rfl,?_⟩⟩
  rw[show IntKind.wrap .i64 (IntKind.wrap .i32 (IntKind.wrap .u32 (ack - c.base)))=gap c.base ack from rfl]
  generalize hgap:gap c.base ack=n at *
  refine JoinP.bool (λb w'=>w'=w/\b=decide (0 < n/\n<=c.out.length)) (λj1 hj1=>?_) ?_
  ·refine cond_intro (λd=>withAddr_some ⟨_,h.b.cell 6,_,RdB.len h.out.rd,hj1 _ _ ⟨rfl,?_⟩⟩) (λd=>hj1 _ _ ⟨rfl,?_⟩)
   ·simp only[decide_eq_true_eq]at d;rw[Bool.eq_iff_iff];simp;omega
   ·simp only[decide_eq_false_iff_not]at d;rw[Bool.eq_iff_iff];simp;omega
  ·rintro b w37 ⟨rfl,rfl⟩
   refine cond_intro (λd=>?_) (λd=>?_)
   ·simp only[decide_eq_true_eq]at d
    have hr:=h.out.rd
    obtain⟨v40,hs40,hr40,_⟩:=Rd.sub hr (lo:=some (.int .i64 n)) (hi:=none) (l:=n.toNat) (r:=c.out.length) (λcap hc=>by rw[bounds_in (by omega) (by simp;omega)];simp) (by omega) (by simp)
    have r40:RdB w37 v40 (c.out.drop n.toNat):=by
     have e:((c.out.map b8).drop n.toNat).take (c.out.length - n.toNat)=(c.out.drop n.toNat).map b8:=by rw[List.map_drop,List.take_of_length_le (by simp)]
     rw[e]at hr40;exact hr40
    refine withAddr_some ⟨_,h.b.cell 6,v40,hs40,slices_Clone_c r40 (by simp;omega) λv41 w42 g42 o42=>withAddr_some ?_⟩
    have h42:=h.grow g42
    refine oneK_of (Rd.isOne o42.rd) ⟨st1_at h42.b (by show 6 < 12;omega),nm λw44 e44=>?_⟩
    obtain⟨h44,t44⟩:=h42.setO (o42.mono (Nat.zero_le _)) (λq hq hvi=>by have:=o42.blk q hq;have:=h.inn.ltS q hvi;omega) e44
    have s44:Step (fpC g vo vi) w37 w44 (fpC g v41 vi):=by
     have s2:Step (fpC g vo vi) w42 w44 (fpC g vo vi):=by subst e44;exact Step.setA w42 _ _ (by rw[add_block];exact .inl rfl)
     exact((Step.of_grow g42).then s2).imp (λ_ h=>h) (λq hq=>by
      rcases hq with rfl|hq|hq
      ·exact .inl (.inl rfl)
      ·exact .inr (o42.blk q hq)
      ·exact .inl (.inr (.inr hq)))
    refine withAddr_some ⟨st1_at h44.b (by show 7 < 12;omega),nm λw46 e46=>withAddr_some ?_⟩
    obtain⟨h46,s46⟩:=h44.set e46 {c with out:=c.out.drop n.toNat,base:=ack} rfl rfl rfl
    refine⟨_,h46.b.cell 8,withAddr_some ⟨st1_at h46.b (by show 8 < 12;omega),nm λw50 e50=>?_⟩⟩
    have hm:(if IntKind.wrap .i64 (c.sent - n) < 0 then(0:Int)else IntKind.wrap .i64 (c.sent - n))=max (c.sent - n) 0:=by
     rw[wi64_id (by omega) (by omega)];split<;>omega
    have e50':w50=World.setCell w46 (Addr.add ⟨g,0,none⟩ 8) (.int .i64 (max (c.sent - n) 0)):=by rw[←hm];exact e50
    obtain⟨h50,s50⟩:=h46.set e50' {c with out:=c.out.drop n.toNat,base:=ack,sent:=max (c.sent - n) 0} rfl rfl rfl
    have hc:ackC c n ack={c with out:=c.out.drop n.toNat,base:=ack,sent:=max (c.sent - n) 0}:=by unfold ackC;rw[if_pos d]
    exact hj _ ⟨v41,s44.then (s46.then s50),by rw[hc];exact h50⟩
   ·simp only[decide_eq_false_iff_not]at d
    have hc:ackC c n ack=c:=by unfold ackC;rw[if_neg d]
    exact hj _ ⟨vo,Step.refl _ _,by rw[hc];exact h⟩
 rintro w0 ⟨vo',s0,h0⟩
 have hv0:=hv.step s0
 obtain⟨a1,a2,a3,a4⟩:=ackC_inn c (gap c.base ack) ack
 refine⟨_,RdB.len hv0.1,cond_intro (λd=>?_) (λd=>?_)⟩
 ·have d:bs=[]:=List.eq_nil_of_length_eq_zero (by simpa using d)
  have:=k vo' vi w0 s0
  unfold takeC at this
  rw[if_pos d]at this
  exact this h0
 have d:bs≠[]:=λe=>by subst e;simp at d
 have hk:∀vi' w',Step (fpC g vo vi) w w' (fpC g vo' vi')->Cn w' g vo' vi' (gotC {ackC c (gap c.base ack) ack with say:=true} (gap pos c.got) bs)->R (.tuple #[]) w':=by
  intro vi' w' s hh
  have:=k vo' vi' w' s
  unfold takeC at this
  rw[if_neg d]at this
  exact this hh
 generalize ackC c (gap c.base ack) ack=cc at *
 refine withAddr_some ⟨st1_at h0.b (by show 11 < 12;omega),nm λw3 e3=>withAddr_some ?_⟩
 obtain⟨h3,s3⟩:=h0.set e3 {cc with say:=true} rfl rfl rfl
 have s03:=s0.then s3
 have hv3:=hv0.step s3
 refine⟨_,h3.b.cell 10,q0W _ _ _ _ ⟨_,rfl,?_⟩⟩
 rw[show IntKind.wrap .i64 (IntKind.wrap .i32 (IntKind.wrap .u32 (cc.got - pos)))=gap pos c.got from by rw[a2];rfl]
 have gr2:=gap_range pos c.got
 generalize hold:gap pos c.got=old at *
 refine JoinP.bool (λb w'=>w'=w3/\b=decide (old < 0\/(bs.length:Int)<=old)) (λj1 hj1=>?_) ?_
 ·refine cond_intro (λe=>hj1 _ _ ⟨rfl,?_⟩) (λe=>⟨_,RdB.len hv3.1,hj1 _ _ ⟨rfl,?_⟩⟩)
  ·simp only[decide_eq_true_eq]at e;rw[Bool.eq_iff_iff];simp;omega
  ·simp only[decide_eq_false_iff_not]at e;rw[Bool.eq_iff_iff];simp;omega
 rintro b w10 ⟨rfl,rfl⟩
 refine cond_intro (λe=>?_) (λe=>?_)
 ·simp only[decide_eq_true_eq]at e
  have hc:gotC {cc with say:=true} old bs={cc with say:=true}:=by unfold gotC;rw[if_pos e]
  exact hk vi w10 s03 (by rw[hc];exact h3)
 simp only[decide_eq_false_iff_not]at e
 have r3:RdB w10 v bs:=hv3.1
 obtain⟨v11,hs11,hr11,ob11⟩:=Rd.sub r3 (lo:=some (.int .i64 old)) (hi:=none) (l:=old.toNat) (r:=bs.length) (λcap hc=>by rw[bounds_in (by omega) (by simp;omega)];simp) (by omega) (by simp)
 have r11:RdB w10 v11 (bs.drop old.toNat):=by
  have e:((bs.map b8).drop old.toNat).take (bs.length - old.toNat)=(bs.drop old.toNat).map b8:=by rw[List.map_drop,List.take_of_length_le (by simp)]
  rw[e]at hr11;exact hr11
 have hl11:(bs.drop old.toNat).length=bs.length - old.toNat:=List.length_drop
 refine⟨v11,hs11,_,RdB.len r11,withAddr_some ⟨_,h3.b.cell 9,_,RdB.len h3.inn.rd,?_⟩⟩
 have hin:cc.inn.length<=4096:=by rw[a1];exact hinn
 rw[hl11,wi64_id (n:=4096 - (cc.inn.length:Int)) (by omega) (by omega)]
 have hm:(if(4096 - (cc.inn.length:Int)) < ((bs.length - old.toNat:Nat):Int)then(4096 - (cc.inn.length:Int))else((bs.length - old.toNat:Nat):Int))=((min (bs.length - old.toNat) (4096 - cc.inn.length):Nat):Int):=by split<;>omega
 rw[hm]
 generalize hmm:min (bs.length - old.toNat) (4096 - cc.inn.length)=m at *
 have hm1:m<=bs.length - old.toNat/\cc.inn.length+m<=4096:=by omega
 obtain⟨v16,hs16,hr16,ob16⟩:=Rd.sub r11 (lo:=none) (hi:=some (.int .i64 (m:Int))) (l:=0) (r:=m) (λcap hc=>by rw[bounds_ni (by omega) (by simp at hc;omega)];simp) (by omega) (by simp;omega)
 have r16:RdB w10 v16 ((bs.drop old.toNat).take m):=by simpa[RdB,List.map_take,List.map_drop]using hr16
 have hl16:((bs.drop old.toNat).take m).length=m:=by rw[List.length_take];omega
 obtain⟨v19,w20,k20,o20,n20⟩:=app_bytes h3.inn r16 (Nat.zero_le _) (by rw[hl16];show cc.inn.length+m<=_;omega)
 refine⟨v16,hs16,withAddr_some ⟨_,h3.b.cell 9,v19,w20,k20,withAddr_some (oneK_of (Rd.isOne o20.rd) ?_)⟩⟩
 have st:=Step.of_own (S :=fpC g vo' vi) n20 (λq hq=>.inr (.inr hq))
 have b20:BK w20 g (rC {cc with say:=true} vo' vi) tC:=(n20.by_.block g h3.b.lt (λe=>own_ne h3.inn h3.b (by decide) e.symm)).trans h3.b
 have hn20:∀q,vo'.ownBlock=some q->v19.ownBlock≠some q:=by
  intro q hq hvi
  rcases n20.at_ with a|a
  ·exact h3.ne q hq (a▸hvi)
  ·have:=a q hvi;have:=h3.out.ltS q hq;omega
 have oo20:OwnB w20 0 tb vo' cc.out:=h3.out.stepS (S :=λk=>vi.ownBlock=some k) (S':=λk=>vi.ownBlock=some k\/v19.ownBlock=some k) (Step.of_own n20 (λq hq=>hq)) (λq hq e=>h3.ne q hq e)
 refine⟨st1_at b20 (by show 9 < 12;omega),nm λw22 e22=>withAddr_some ?_⟩
 obtain⟨b22,t22⟩:=setE b20 e22
 have h22:Cn w22 g vo' v19 {cc with say:=true,inn:=cc.inn++(bs.drop old.toNat).take m}:=⟨b22,oo20.turn t22 (own_ne oo20 b20 (by decide)),o20.turn t22 (own_ne o20 b20 (by decide)),hn20⟩
 have s22:Step (fpC g vo vi) w w22 (fpC g vo' v19):=by
  have s2:Step (λq=>fpC g vo' vi q\/v19.ownBlock=some q) w20 w22 (λq=>fpC g vo' vi q\/v19.ownBlock=some q):=by
   subst e22;exact Step.setA w20 _ _ (by rw[add_block];exact .inl (.inl rfl))
  have s3':Step (fpC g vo' vi) w10 w22 (fpC g vo' v19):=(st.then s2).imp (λ_ h=>h) (λq hq=>by
   rcases hq with rfl|hq|hq
   ·exact .inl (.inl rfl)
   ·exact .inl (.inr (.inl hq))
   ·rcases n20.at_ with a|a
    ·exact .inl (.inr (.inr (a▸hq)))
    ·exact .inr (a q hq))
  exact s03.then s3'
 refine⟨_,h22.b.cell 10,_,RdB.len r16,withAddr_some ⟨st1_at h22.b (by show 10 < 12;omega),nm λw27 e27=>?_⟩⟩
 rw[hl16]at e27
 obtain⟨h27,s27⟩:=h22.set e27 {cc with say:=true,inn:=cc.inn++(bs.drop old.toNat).take m,got:=IntKind.wrap .u32 (cc.got+IntKind.wrap .u32 (m:Int))} rfl rfl rfl
 refine hk v19 w27 (s22.then s27) ?_
 have hc:gotC {cc with say:=true} old bs={cc with say:=true,inn:=cc.inn++(bs.drop old.toNat).take m,got:=IntKind.wrap .u32 (cc.got+IntKind.wrap .u32 (m:Int))}:=by
  unfold gotC
  rw[if_neg e]
  simp only[hmm]
 rw[hc];exact h27
end Go.Proofs.YtdpmhkbhlbfbeaaGreatDoor.Con
end
section
namespace Go.Proofs.YtdpmhkbhlbfbeaaGreatDoor.Con
open CW RowKit Crc
def puts (l:List Int):List UInt8:=l.flatMap λx=>putL x 4
theorem puts_take (l:List Int) (i:Nat) (hi:i < l.length):puts (l.take (i+1))=puts (l.take i)++putL l[i] 4:=by
 rw[List.take_add_one,List.getElem?_eq_getElem hi];unfold puts;rw[List.flatMap_append];simp
theorem puts_len (l:List Int):(puts l).length=4*l.length:=by
 induction l with
 |nil=>rfl
 |cons x l ih=>simp only[puts,List.flatMap_cons,List.length_append,List.length_cons,putL_length]at ih ⊢;omega
def Pk.nums (p:Pk):List Int:=[p.life,p.mine,p.ack,p.pos]
theorem Pk.head_eq (p:Pk):p.head=[p.k]++puts p.nums:=by simp [Pk.head,puts,Pk.nums,List.append_assoc]
theorem pk_u32 {c:Cs} (hf:CsFits c) (f:Int) (bs:List UInt8):∀x∈(c.pk f bs).nums,u32 x:=by
 have h4:u32 (IntKind.wrap .u32 (c.base+IntKind.wrap .u32 f)):=by unfold u32;rw[w32 (c.base+_)];omega
 intro x hx
 simp only[Pk.nums,Cs.pk,List.mem_cons,List.not_mem_nil,or_false]at hx
 rcases hx with rfl|rfl|rfl|rfl
 ·exact hf.own
 ·exact hf.peer
 ·exact hf.got
 ·exact h4
theorem pk_fits {c:Cs} (hf:CsFits c) (f:Int) (bs:List UInt8) (hb:bs.length<=4096):PkFits (c.pk f bs):=by
 have h:=pk_u32 hf f bs
 refine⟨?_,h _ (by simp [Pk.nums]),h _ (by simp [Pk.nums]),h _ (by simp [Pk.nums]),h _ (by simp [Pk.nums]),hb⟩
 show c.kind<=2
 unfold Cs.kind
 split
 ·decide
 ·split<;>decide
theorem packet_c {w:World} {g:Nat} {vo vi v:Value} {c:Cs} {f:Int} {bs:List UInt8} {R:KV} (h:Cn w g vo vi c) (hf:CsFits c) (hv:RdB w v bs) (hb:bs.length<=4096) (hn:v= .slice none 0 0\/bs≠[])
 (k:∀v' w',Grow w w'->RdB w' v' (c.pk f bs).enc->NewV w v'->R v' w'):Zs 51 #[zA g,.int .i64 f,v] w R:=by
 apply q42W
 refine nm λw0 e0=>?_
 obtain⟨b0,g0,_⟩:=alE e0
 clear e0
 have h0:=h.grow g0
 refine JoinP.unit (λw1=>Grow w w1/\BK w1 w.heap.size #[b8 c.kind] tb) (λj hj=>?_) ?_
 ·have sa:sliceAt (.slice (some ⟨w.heap.size,0,none⟩) 1 1) 0 1=some ⟨w.heap.size,0,none⟩:=rfl
  have wr:∀(x:Int) w',w'=World.setCell w0 ⟨w.heap.size,0,none⟩ (.int .u8 x)->Grow w w'/\BK w' w.heap.size #[.int .u8 x] tb:=by
   intro x w' e
   have e2:w'=World.setCell w0 (Addr.add ⟨w.heap.size,0,none⟩ 0) (.int .u8 x):=by rw[add_zero];exact e
   obtain⟨b1,t1⟩:=setE b0 e2
   exact⟨Below.turn g0 t1 (Nat.le_refl _),b1⟩
  have st:St1 w0 ⟨w.heap.size,0,none⟩:=b0.st1 (by show 0 < 1;omega)
  refine withAddr_some ⟨_,h0.b.cell 4,cond_intro (λd=>⟨_,sa,st,nm λw32 e32=>?_⟩) (λd=>withAddr_some ⟨_,h0.b.cell 3,cond_intro (λd2=>⟨_,sa,st,nm λw36 e36=>?_⟩) (λd2=>?_)⟩)⟩
  ·have hk:c.kind=2:=by unfold Cs.kind;rw[if_pos d]
   exact hj _ (by rw[hk];exact wr 2 _ e32)
  ·have hk:c.kind=1:=by unfold Cs.kind;rw[if_neg (by rw[d];simp),if_pos d2]
   exact hj _ (by rw[hk];exact wr 1 _ e36)
  ·have hk:c.kind=0:=by unfold Cs.kind;rw[if_neg (by rw[d];simp),if_neg (by rw[d2];simp)]
   exact hj _ (by rw[hk];exact⟨g0,b0⟩)
 rintro w1 ⟨g1,b1⟩
 refine nm λw2 e2=>?_
 have g2:=g1.then (drE e2)
 have h2:=h.grow g2
 have b2:=b1.grow (drE e2)
 refine withAddr_some ⟨_,h2.b.cell 0,withAddr_some ⟨_,h2.b.cell 2,withAddr_some ⟨_,h2.b.cell 10,withAddr_some ⟨_,h2.b.cell 7,nm λw11 e11=>?_⟩⟩⟩⟩
 obtain rfl:w11=w2:=e11.trans e2.symm
 refine nm λw12 e12=>⟨4,rfl,nm λw14 e14=>?_⟩
 clear e12
 obtain⟨b14,g14,_⟩:=alE e14
 clear e14
 have nl:(c.pk f bs).nums.length=4:=rfl
 have hu:=pk_u32 hf f bs
 refine⟨λ(vv:Value) (i:Int) (ww:World)=>0<=i/\i<=4/\Grow w14 ww/\RdB ww vv ([c.kind]++puts ((c.pk f bs).nums.take i.toNat))/\Ful vv,λ(_:Value) (i:Int) (_:World)=>(4 - i).toNat,⟨by omega,by omega,Grow.refl _,?_,Ful.mk _ _⟩,?_⟩
 ·have:=rd_mid (b2.grow g14) 0 1 (by simp) (by simp [maxLen])
  rw[add_zero]at this
  exact this
 dsimp only[allR,mapR2,eqN,ltN]
 rintro m vv i ww ⟨⟨i0,i1,gg,r,fl⟩,hm⟩
 have hpl:=puts_len ((c.pk f bs).nums.take i.toNat)
 rw[List.length_take,nl]at hpl
 have g14w:Grow w ww:=(g2.then g14).then gg
 refine cond_intro (λd=>?_) (λd=>?_)
 ·have d:i < 4:=by simpa using d
  have hcell:ww.cell? (⟨w11.heap.size,i.toNat,none⟩:Addr)=some (.int .u32 ((c.pk f bs).nums[i.toNat]'(by omega))):=by
   rw[(b14.grow gg).at i.toNat]
   have:i.toNat=0\/i.toNat=1\/i.toNat=2\/i.toNat=3:=by omega
   rcases this with e|e|e|e<;>simp only[e]<;>rfl
  refine⟨⟨w11.heap.size,i.toNat,none⟩,?_,_,hcell,?_⟩
  ·simp only[sliceAt]
   rw[if_pos (by omega),Nat.mul_one,ad0]
  have hx:=hu ((c.pk f bs).nums[i.toNat]'(by omega)) (List.getElem_mem _)
  rw[w64_id hx.1 (by have:=hx.2;omega)]
  refine bin_Put_w r (by simp only[List.length_append,List.length_cons,List.length_nil];omega) (by omega) λv21 w22 g22 o22 f22 n22=>?_
  rw[wi64_id (n:=i+1) (by omega) (by omega)]
  have e:(i+1).toNat=i.toNat+1:=by omega
  refine⟨⟨by omega,by omega,gg.then g22,?_,f22⟩,by omega⟩
  have hr:=o22.rd
  rw[e,puts_take _ _ (by omega)]
  rw[List.append_assoc]at hr
  exact hr
 ·have d:¬i < 4:=by simpa using d
  have et:(c.pk f bs).nums.take i.toNat=(c.pk f bs).nums:=List.take_of_length_le (by omega)
  rw[et,show[c.kind]++puts (c.pk f bs).nums=(c.pk f bs).head from (Pk.head_eq (c.pk f bs)).symm]at r
  have hhl:=Pk.head_length (c.pk f bs)
  have hvw:=hv.grow g14w
  have key:∃v23 w24,Sem.run Tryz.prog (Builtin.append_ #[tB,tB] tB #[vv,v]) ww= .ok v23 w24/\RdB w24 v23 ((c.pk f bs).head++bs)/\Grow ww w24:=by
   by_cases hbs:bs=[]
   ·rcases hn with rfl|hn
    ·subst hbs
     exact⟨vv,ww,app_none tyB r (Rd.nil _),by rw[List.append_nil];exact r,Grow.refl _⟩
    ·exact absurd hbs hn
   ·obtain⟨v23,w24,k1,k2,k3⟩:=app_ful tyB r fl hvw one_b8 (by simpa using hbs) (by simp only[List.length_map,hhl];omega)
    exact⟨v23,w24,k1,by have:=k2.rd;rwa [←List.map_append]at this,k3⟩
  obtain⟨v23,w24,k23,r23,g24⟩:=key
  refine⟨v23,w24,k23,crc_Seal_c r23 (by rw[List.length_append,hhl];omega) λv25 w26 g26 o26=>?_⟩
  have hne:((sld ((c.pk f bs).head++bs)).map b8)≠[]:=by
   intro e
   have:=congrArg List.length e
   rw[List.length_map,sld_length,List.length_append,hhl]at this
   simp at this
  refine k v25 w26 (g14w.then (g24.then g26)) o26.rd ?_
  obtain⟨q,cap,cur,e,rfl,hq,_⟩:=o26.2 hne
  intro q' hq'
  have:q=q':=by simpa[Value.ownBlock]using hq'
  have:=(g14w.then g24).size
  omega
abbrev tBB:TypeId:=79
theorem tyBB:SlTy Tryz.prog tBB tB 24:=SlTy.of (by kernel_rfl)
def RowsO (w:World) (B:Nat) (v:Value) (l:List (List UInt8)):Prop:=
 ∃vs:List Value,Own w B tB v vs/\vs.length=l.length/\∀(i:Nat) (h:i < vs.length) (h':i < l.length),RdB w vs[i] l[i]/\l[i]≠[]/\∀q,vs[i].ownBlock=some q->B<=q/\v.ownBlock≠some q
theorem RowsO.nil (w:World) (B:Nat):RowsO w B (.slice none 0 0) []:=⟨[],Own.nil _ _ _,rfl,λi h=>by simp at h⟩
theorem RowsO.len {w:World} {B:Nat} {v:Value} {l:List (List UInt8)} (h:RowsO w B v l):sliceLen v=some l.length:=by
 obtain⟨vs,h1,h2,_⟩:=h
 rw[←h2];exact h1.rd.len
theorem RowsO.lt {w:World} {B:Nat} {v:Value} {l:List (List UInt8)} (h:RowsO w B v l):∀q,v.ownBlock=some q->q < w.heap.size:=by
 obtain⟨vs,h1,_⟩:=h
 exact h1.ltS
theorem RowsO.grow {w w':World} {B:Nat} {v:Value} {l:List (List UInt8)} (h:RowsO w B v l) (g:Grow w w'):RowsO w' B v l:=by
 obtain⟨vs,h1,h2,h3⟩:=h
 exact⟨vs,h1.grow g,h2,λi hi hi'=>⟨(h3 i hi hi').1.grow g,(h3 i hi hi').2⟩⟩
theorem RowsO.stepS {S S':Fp} {w w':World} {B:Nat} {v:Value} {l:List (List UInt8)} (h:RowsO w B v l) (st:Step S w w' S') (hs:∀q, S q->q < B):RowsO w' B v l:=by
 obtain⟨vs,h1,h2,h3⟩:=h
 refine⟨vs,h1.stepS st (λq hq hS=>by have:=hs q hS;have:=(World.ownsRow.lt h1 q hq).1;omega),h2,λi hi hi'=>⟨(h3 i hi hi').1.stepS st (λ_ q hq hS=>by have:=hs q hS;have:=((h3 i hi hi').2.2 q hq).1;omega),(h3 i hi hi').2⟩⟩
theorem RowsO.rows {w:World} {B:Nat} {v v':Value} {l:List (List UInt8)} (h:RowsO w B v l) (hv:∀vs,Rd w v vs->Rd w v' vs/\v'.ownBlock=v.ownBlock) {S :Fp} (hs:∀q, S q->q < B):RowsX S w v' l:=by
 obtain⟨vs,h1,h2,h3⟩:=h
 obtain⟨k1,k2⟩:=hv vs h1.rd
 refine⟨vs,⟨k1,λ_ q hq hS=>?_⟩,h2,λi hi hi'=>⟨(h3 i hi hi').1,λ_ q hq hS=>?_⟩⟩
 ·rw[k2]at hq
  have:=hs q hS;have:=(World.ownsRow.lt h1 q hq).1;omega
 ·have:=hs q hS;have:=((h3 i hi hi').2.2 q hq).1;omega
theorem RowsO.push {w w0:World} {B:Nat} {v u:Value} {l:List (List UInt8)} {x:List UInt8} (h:RowsO w B v l) (hu:RdB w u x) (hx:x≠[]) (hn:∀q,u.ownBlock=some q->B<=q/\v.ownBlock≠some q) (hl:l.length<=1000) (hB:B<=w.heap.size) (e:w0=World.alloc w (.cells #[u] tB)):
 ∃v' w',Sem.run Tryz.prog (Builtin.append_ #[tBB,tBB] tBB #[v,.slice (some ⟨w.heap.size,0,none⟩) 1 1]) w0= .ok v' w'/\RowsO w' B v' (l++[x])/\Below B w w':=by
 obtain⟨vs,h1,h2,h3⟩:=h
 obtain⟨b0,g0,_⟩:=alE e
 have r0:Rd w0 (.slice (some ⟨w.heap.size,0,none⟩) 1 1) [u]:=by
  have:=rd_mid b0 0 1 (by simp) (by simp [maxLen])
  rw[add_zero]at this
  exact this
 have one:u.oneCell'=true:=by obtain⟨a,cap,rfl,_⟩:=hu;rfl
 obtain⟨v',w',k1,k2,k3⟩:=app_own tyBB (h1.grow g0) r0 (by intro y hy;simp at hy;subst hy;exact one) (by simp;omega) (Nat.le_trans hB g0.size)
 have bl:Below B w0 w':=k3.below (Nat.le_trans hB g0.size) (λq hq=>(World.ownsRow.lt h1 q hq).1)
 refine⟨v',w',k1,⟨vs++[u],k2,by simp [h2],λi hi hi'=>?_⟩,(g0.mono hB).trans bl⟩
 have keep:∀{y:Value} {bs:List UInt8},RdB w y bs->bs≠[]->(∀q,y.ownBlock=some q->B<=q/\v.ownBlock≠some q)->RdB w' y bs/\bs≠[]/\∀q,y.ownBlock=some q->B<=q/\v'.ownBlock≠some q:=by
  intro y bs hy hb hq
  refine⟨(hy.grow g0).kept λa c ha hv=>?_,hb,λq hyq=>⟨(hq q hyq).1,λe'=>?_⟩⟩
  ·exact(cell_of_heap (k3.by_.block a.block (World.block_lt_of_cell? _ _ ha) (λe=>(hq a.block hv).2 e.symm))).trans ha
  ·have hlt:=Rd.lt hy (by simpa using hb) q hyq
   rcases k3.at_ with a|a
   ·exact(hq q hyq).2 (a▸e')
   ·have:=a q e';have:=g0.size;omega
 by_cases hii:i < vs.length
 ·have e1:(vs++[u])[i]=vs[i]:=List.getElem_append_left hii
  have e2:(l++[x])[i]=l[i]'(by omega):=List.getElem_append_left (by omega)
  rw[e1,e2]
  have:=h3 i hii (by omega)
  exact keep this.1 this.2.1 this.2.2
 ·have hi2:i=vs.length:=by simp at hi;omega
  subst hi2
  have e1:(vs++[u])[vs.length]'(by simp)=u:=by simp
  have e2:(l++[x])[vs.length]'hi'=x:=by
   have:vs.length=l.length:=h2
   simp [this]
  rw[e1,e2]
  exact keep hu hx hn
theorem ClipB_c {w:World} {v:Value} {R:KV} {n:Nat} (hr:sliceLen v=some n) (hn:∃xs,Rd w v xs) (k:∀v',(∀vs,Rd w v vs->Rd w v' vs/\v'.ownBlock=v.ownBlock)->R v' w):Zs 52 #[v] w R:=by
 apply q123W
 obtain⟨xs,a,cap,rfl,h1,h2,h3,h4⟩:=hn
 cases hr
 refine⟨_,rfl,_,rfl,?_⟩
 have h0:(0:Int)<=(xs.length:Int):=by omega
 have e:(xs.length:Int)<=cap:=by omega
 refine⟨.slice a xs.length xs.length,?_,k _ λvs hv=>⟨?_,by cases a<;>rfl⟩⟩
 ·simp only[subSlice,boundsOf,boundOf,h0,e,and_self,if_true,Int.toNat_natCast,Int.le_refl,Nat.sub_zero]
  split
  ·rfl
  ·cases a<;>simp [add_zero]
 ·obtain⟨a',cap',hv',l1,l2,l3,l4⟩:=hv
  injection hv' with q1 q2 q3
  subst q1;subst q3
  exact⟨a,xs.length,by rw[q2],by omega,by omega,λhh=>by have:=h3 hh;omega,l4⟩
end Go.Proofs.YtdpmhkbhlbfbeaaGreatDoor.Con
end
section
namespace Go.Proofs.YtdpmhkbhlbfbeaaGreatDoor.Con
open CW RowKit Crc
theorem step_below {S :Fp} {w w1 w2:World} (st:Step S w w1 S) (b:Below w.heap.size w1 w2):Step S w w2 S :=
 ⟨b.os.trans st.os,b.tape.trans st.tape,b.output.trans st.output,Nat.le_trans st.size b.size,λk hk hs=>(b.block k hk).trans (st.block k hk hs),λ_ h=>.inl h⟩
theorem Below.toStep {B:Nat} {w w':World} (b:Below B w w'):Step (λq=>B<=q) w w' (λq=>B<=q):=
 ⟨b.os,b.tape,b.output,b.size,λk _ hs=>b.block k (by omega),λ_ h=>.inl h⟩
theorem enc_ne (p:Pk):p.enc≠[]:=by
 intro e
 have:=congrArg List.length e
 rw[Pk.enc,sld_length]at this
 simp at this
theorem outs_zero {f:Nat} {c:Cs} (h:chunk c=0):outs (f+1) c=([],c):=by unfold outs;rw[if_pos h]
theorem outs_more {f:Nat} {c:Cs} (h:chunk c≠0):outs (f+1) c=(c.pk c.sent ((c.out.drop c.sent.toNat).take (chunk c).toNat)::(outs f {c with sent:=c.sent+chunk c}).1,(outs f {c with sent:=c.sent+chunk c}).2):=by
 conv=>lhs;unfold outs
 rw[if_neg h]
theorem chunk_range {c:Cs} (hf:CsFits c):0<=chunk c/\chunk c<=1024/\c.sent+chunk c<=c.out.length:=by
 have:=hf.s0
 have:=hf.s1
 unfold chunk;omega
theorem outs_keep:∀(f:Nat) (c:Cs),CsFits c->CsFits (outs f c).2/\(outs f c).2.reset=c.reset/\(∀p∈(outs f c).1,PkFits p)
 |0,c,h=>⟨h,rfl,λp hp=>by simp [outs]at hp⟩
 |f+1,c,h=>by
  by_cases h0:chunk c=0
  ·rw[outs_zero h0];exact⟨h,rfl,λp hp=>by simp at hp⟩
  ·rw[outs_more h0]
   have r:=chunk_range h
   have h':CsFits {c with sent:=c.sent+chunk c}:=⟨h.own,h.peer,h.base,h.got,by show 0<=c.sent+chunk c;have:=h.s0;omega,r.2.2,h.out,h.inn⟩
   obtain⟨a1,a2,a3⟩:=outs_keep f _ h'
   refine⟨a1,a2,λp hp=>?_⟩
   simp only[List.mem_cons]at hp
   rcases hp with rfl|hp
   ·refine pk_fits h _ _ ?_
    have:=h.out
    rw[List.length_take,List.length_drop];omega
   ·exact a3 p hp
theorem chunks_keep {c:Cs} (h:CsFits c):CsFits (chunks c).2/\(chunks c).2.reset=c.reset/\(∀p∈(chunks c).1,PkFits p):=by
 unfold chunks
 split
 ·exact outs_keep 5 c h
 ·exact⟨h,rfl,λp hp=>by simp at hp⟩
theorem outC_keep {c:Cs} (h:CsFits c):CsFits (outC c).2/\(∀p∈(outC c).1,PkFits p):=by
 obtain⟨a1,a2,a3⟩:=chunks_keep h
 have hs:CsFits {(chunks c).2 with say:=false}:=⟨a1.own,a1.peer,a1.base,a1.got,a1.s0,a1.s1,a1.out,a1.inn⟩
 unfold outC
 split
 ·exact⟨h,λp hp=>by simp at hp⟩
 ·split
  ·refine⟨hs,λp hp=>?_⟩
   simp only[List.mem_cons,List.not_mem_nil,or_false]at hp
   subst hp
   exact pk_fits a1 _ _ (by simp)
  ·exact⟨hs,a3⟩
theorem Out_c {w:World} {g:Nat} {vo vi:Value} {c:Cs} {R:KV} (h:Cn w g vo vi c) (hf:CsFits c)
 (k:∀v' w',Step (fpC g vo vi) w w' (fpC g vo vi)->Cn w' g vo vi (outC c).2->RowsX (λq=>q < w.heap.size) w' v' ((outC c).1.map Pk.enc)->R v' w'):Zs 27 #[zA g] w R:=by
 have hin:=h.isIn
 have apart:Apart (fpC g vo vi) (λq=>w.heap.size<=q):=λq hq hB=>by have:=hin q hq;omega
 have hrow:∀q,fpC g vo vi q->q < w.heap.size:=hin
 apply q38W
 refine withAddr_some ⟨_,h.b.cell 5,cond_intro (λd=>?_) (λd=>?_)⟩
 ·have e:outC c=([],c):=by unfold outC;rw[if_pos d]
  rw[e]at k
  exact k _ w (Step.refl _ _) h ⟨[],RdX.nil _ _,rfl,λi hi=>by simp at hi⟩
 refine JoinP.val (λv2 w3=>Step (fpC g vo vi) w w3 (fpC g vo vi)/\Cn w3 g vo vi (chunks c).2/\RowsO w3 w.heap.size v2 ((chunks c).1.map Pk.enc)/\(chunks c).1.length<=5) (λj hj=>?_) ?_
 ·refine⟨λ(v:Value) (ww:World)=>∃(f:Nat) (L:List Pk) (cc:Cs),L.length+f=4/\Step (fpC g vo vi) w ww (fpC g vo vi)/\Cn ww g vo vi cc/\RowsO ww w.heap.size v (L.map Pk.enc)/\CsFits cc/\cc.known=c.known/\(c.known=true->outs 5 c=(L++(outs (f+1) cc).1,(outs (f+1) cc).2))/\(c.known=false->cc=c/\L=[])/\(cc.out.length:Int)<=cc.sent+1024*(f:Int),λ(v:Value) (ww:World)=>5 - (sliceLen v).getD 0,?_,?_⟩
  ·refine⟨4,[],c,rfl,Step.refl _ _,h,RowsO.nil _ _,hf,rfl,λ_=>by simp,λ_=>⟨rfl,rfl⟩,?_⟩
   have:=hf.out
   have:=hf.s0
   omega
  dsimp only[allR,mapR2,eqN,ltN]
  rintro m v ww ⟨⟨f,L,cc,hL,st,hc,ro,cf,hk,ho,hu,hlen⟩,hm⟩
  have hLl:(L.map Pk.enc).length=L.length:=List.length_map _
  refine withAddr_some ⟨_,hc.b.cell 3,cond_intro (λd1=>?_) (λd1=>?_)⟩
  ·have hkn:c.known=true:=by rw[←hk];exact d1
   have ho:=ho hkn
   have cr:=chunk_range cf
   have o1:=cf.out
   have o2:=cf.s0
   have o3:=cf.s1
   refine nm λw30 e30=>?_
   have g30:=drE e30
   have h30:=hc.grow g30
   refine withAddr_some ⟨_,h30.b.cell 6,_,RdB.len h30.out.rd,withAddr_some ⟨_,h30.b.cell 8,nm λw36 e36=>?_⟩⟩
   obtain rfl:w36=w30:=e36.trans e30.symm
   have hch:(if(1024:Int) < IntKind.wrap .i64 ((cc.out.length:Int) - cc.sent)then(1024:Int)else IntKind.wrap .i64 ((cc.out.length:Int) - cc.sent))=chunk cc:=by
    rw[wi64_id (by omega) (by omega)]
    unfold chunk
    split<;>omega
   rw[hch]
   have st36:Step (fpC g vo vi) w w36 (fpC g vo vi):=st.then (Step.of_grow g30)
   refine cond_intro (λd2=>?_) (λd2=>?_)
   ·have d2:chunk cc=0:=by simpa using d2
    rw[outs_zero d2,List.append_nil]at ho
    have hch:chunks c=(L,cc):=by unfold chunks;rw[if_pos hkn,ho]
    exact hj _ _ ⟨st36,by rw[hch];exact h30,by rw[hch];exact ro.grow g30,by rw[hch];show L.length<=5;omega⟩
   have d2:chunk cc≠0:=by simpa using d2
   refine nm λw37 e37=>?_
   have g37:=drE e37
   have h37:=h30.grow g37
   refine withAddr_some ⟨_,h37.b.cell 8,withAddr_some ⟨_,h37.b.cell 6,withAddr_some ⟨_,h37.b.cell 8,withAddr_some ⟨_,h37.b.cell 8,?_⟩⟩⟩⟩
   rw[wi64_id (n:=cc.sent+chunk cc) (by omega) (by omega)]
   have hr:=h37.out.rd
   obtain⟨v46,hs46,hr46,_⟩:=Rd.sub hr (lo:=some (.int .i64 cc.sent)) (hi:=some (.int .i64 (cc.sent+chunk cc))) (l:=cc.sent.toNat) (r:=(cc.sent+chunk cc).toNat) (λcap hc=>by rw[bounds_ii (by omega) (by omega) (by simp at hc;omega)]) (by omega) (by simp;omega)
   have e46:(cc.sent+chunk cc).toNat - cc.sent.toNat=(chunk cc).toNat:=by omega
   have r46:RdB w37 v46 ((cc.out.drop cc.sent.toNat).take (chunk cc).toNat):=by rw[e46]at hr46;simpa[RdB,List.map_take,List.map_drop]using hr46
   have l46:((cc.out.drop cc.sent.toNat).take (chunk cc).toNat).length=(chunk cc).toNat:=by rw[List.length_take,List.length_drop];omega
   refine⟨v46,hs46,nm λw47 e47=>?_⟩
   obtain rfl:w47=w37:=e47.trans e37.symm
   refine packet_c h37 cf r46 (by omega) (.inr (λe=>by rw[e]at l46;simp at l46;omega)) λv48 w49 g49 r48 n48=>oneK_of (Rd.isOne r48) (nm λw50 e50=>nm λw51 e51=>?_)
   clear e50
   have ro47:=ro.grow (g30.then g37)
   have st47:Step (fpC g vo vi) w w47 (fpC g vo vi):=st36.then (Step.of_grow g37)
   have hB47:w.heap.size<=w47.heap.size:=st47.size
   obtain⟨v52,w53,k52,ro53,bl53⟩:=(ro47.grow g49).push r48 (enc_ne _) (λq hq=>⟨Nat.le_trans hB47 (n48 q hq),λe=>by have:=ro47.lt q e;have:=n48 q hq;omega⟩) (by omega) (Nat.le_trans hB47 g49.size) e51
   refine⟨v52,w53,k52,?_⟩
   have h53:Cn w53 g vo vi cc:=(h37.grow g49).stepS (Below.toStep bl53) apart
   have st53:Step (fpC g vo vi) w w53 (fpC g vo vi):=step_below (st47.then (Step.of_grow g49)) bl53
   refine withAddr_some ⟨_,h53.b.cell 8,withAddr_some ⟨st1_at h53.b (by show 8 < 12;omega),nm λw57 e57=>?_⟩⟩
   rw[wi64_id (n:=cc.sent+chunk cc) (by omega) (by omega)]at e57
   obtain⟨h57,s57⟩:=h53.set e57 {cc with sent:=cc.sent+chunk cc} rfl rfl rfl
   have hf0:1<=f:=by
    rcases Nat.eq_zero_or_pos f with rfl|hf0
    ·exfalso;apply d2;unfold chunk;omega
    ·exact hf0
   obtain⟨f',rfl⟩:∃f',f=f'+1:=⟨f - 1,by omega⟩
   have ro57:=ro53.stepS s57 hrow
   have l57:=ro57.len
   rw[List.length_append,hLl]at l57
   refine⟨⟨f',L++[cc.pk cc.sent ((cc.out.drop cc.sent.toNat).take (chunk cc).toNat)],{cc with sent:=cc.sent+chunk cc},by simp;omega,st53.then s57,h57,by rw[List.map_append];exact ro57,⟨cf.own,cf.peer,cf.base,cf.got,by show 0<=cc.sent+chunk cc;omega,cr.2.2,cf.out,cf.inn⟩,hk,λ_=>?_,(λe=>by rw[hkn]at e;cases e),?_⟩,?_⟩
   ·rw[ho,outs_more d2];simp
   ·show(cc.out.length:Int)<=cc.sent+chunk cc+1024*(f':Int)
    by_cases hc:chunk cc=1024
    ·rw[hc];omega
    ·have:chunk cc=(cc.out.length:Int) - cc.sent:=by unfold chunk at hc ⊢;omega
     omega
   ·rw[l57]
    rw[ro.len,hLl]at hm
    simp at hm ⊢
    omega
  ·have hkn:c.known=false:=by rw[←hk];exact d1
   obtain⟨rfl,rfl⟩:=hu hkn
   have hch:chunks cc=([],cc):=by unfold chunks;rw[if_neg (by rw[hkn];simp)]
   exact hj _ _ ⟨st,by rw[hch];exact hc,by rw[hch];exact ro,by rw[hch];simp⟩
 rintro v2 w3 ⟨st3,h3,ro3,hl5⟩
 obtain⟨cf,hrs,hpf⟩:=chunks_keep hf
 have eO:∀b:Bool,b=decide ((chunks c).2.say=true/\(chunks c).1=[])->outC c=(if b then[(chunks c).2.pk (chunks c).2.sent []] else(chunks c).1,{(chunks c).2 with say:=false}):=by
  intro b hb
  unfold outC
  rw[if_neg (by rw[d];simp)]
  by_cases hh:(chunks c).2.say=true/\(chunks c).1=[]
  ·rw[if_pos hh,hb,decide_eq_true hh];rfl
  ·rw[if_neg hh,hb,decide_eq_false hh];rfl
 generalize chunks c=ch at *
 refine JoinP.val (λv4 w5=>Step (fpC g vo vi) w w5 (fpC g vo vi)/\Cn w5 g vo vi ch.2/\∃b,b=decide (ch.2.say=true/\ch.1=[])/\RowsO w5 w.heap.size v4 ((if b then[ch.2.pk ch.2.sent []] else ch.1).map Pk.enc)) (λj hj=>?_) ?_
 ·refine JoinP.bool (λb w'=>w'=w3/\b=decide (ch.2.say=true/\ch.1=[])) (λj1 hj1=>?_) ?_
  ·refine withAddr_some ⟨_,h3.b.cell 11,cond_intro (λe=>⟨_,ro3.len,hj1 _ _ ⟨rfl,?_⟩⟩) (λe=>hj1 _ _ ⟨rfl,?_⟩)⟩
   ·rw[Bool.eq_iff_iff];simp [e]
   ·rw[Bool.eq_iff_iff];simp [e]
  ·rintro b w12 ⟨rfl,hb⟩
   refine cond_intro (λe=>?_) (λe=>?_)
   ·subst e
    have hb':=of_decide_eq_true hb.symm
    refine withAddr_some ⟨_,h3.b.cell 8,packet_c (bs:=[]) h3 cf (Rd.nil _) (by simp) (.inl rfl) λv15 w16 g16 r15 n15=>oneK_of (Rd.isOne r15) (nm λw17 e17=>?_)⟩
    have ro':RowsO w12 w.heap.size v2 []:=by rw[hb'.2]at ro3;exact ro3
    obtain⟨v18,w19,k18,ro19,bl19⟩:=(ro'.grow g16).push r15 (enc_ne _) (λq hq=>⟨Nat.le_trans st3.size (n15 q hq),λe=>by have:=ro'.lt q e;have:=n15 q hq;omega⟩) (by simp) (Nat.le_trans st3.size g16.size) e17
    refine⟨v18,w19,k18,hj _ _ ⟨step_below (st3.then (Step.of_grow g16)) bl19,(h3.grow g16).stepS (Below.toStep bl19) apart,true,hb,ro19⟩⟩
   ·subst e
    exact hj _ _ ⟨st3,h3,false,hb,ro3⟩
 rintro v4 w5 ⟨st5,h5,b,hb,ro5⟩
 refine withAddr_some ⟨st1_at h5.b (by show 11 < 12;omega),nm λw7 e7=>?_⟩
 obtain⟨h7,s7⟩:=h5.set e7 {ch.2 with say:=false} rfl rfl rfl
 have ro7:=ro5.stepS s7 hrow
 rw[eO b hb]at k
 refine ClipB_c ro7.len ⟨_,ro7.choose_spec.1.rd⟩ λv8 h8=>k v8 w7 (st5.then s7) h7 (ro7.rows h8 (λq hq=>hq))
end Go.Proofs.YtdpmhkbhlbfbeaaGreatDoor.Con
end
section
namespace Go.Proofs.YtdpmhkbhlbfbeaaGreatDoor.Con
open CW RowKit Crc
theorem byte_at {w:World} {v:Value} {bs:List UInt8} (h:RdB w v bs) (i:Nat) (hi:i < bs.length):∃a,sliceAt v (i:Int) 1=some a/\w.cell? a=some (.int .u8 ((bs.getD i 0).toNat:Int)):=by
 obtain⟨a,h1,h2⟩:=RdB.at h (i:=(i:Int)) (by omega) (by omega)
 refine⟨a,h1,h2.trans ?_⟩
 have:bs.getD i 0=bs[((i:Int)).toNat]'(by omega):=by
  simp only[Int.toNat_natCast]
  rw[List.getD_eq_getElem?_getD,List.getElem?_eq_getElem hi];rfl
 rw[this]
theorem crc_Open_n {w:World} {v:Value} {bs:List UInt8} {R:KV} (hr:RdB w v bs) (hb:bs.length<=1000000000000)
 (k:∀v' w',Grow w w'->RdB w' v' (opB bs)->NewV w v'->R (.tuple #[v',.int .i64 (opE bs)]) w'):Zs 53 #[v] w R:=by
 have nn:NewV w (.slice none 0 0):=λq hq=>by cases hq
 apply q46W
 refine⟨_,RdB.len hr,cond_intro (λh=>?_) (λh=>⟨_,RdB.len hr,?_⟩)⟩
 ·have h4:bs.length < 4:=by simp at h;omega
  have:=k (.slice none 0 0) w (Grow.refl w) (by simp only[opB,h4,if_true];exact Rd.nil w) nn
  simp only[opE,h4,if_true]at this
  exact this
 ·have h4:¬bs.length < 4:=by simp at h;omega
  rw[wi64_id (n:=(bs.length:Int) - 4) (by omega) (by omega)]
  have e:((bs.length:Int) - 4).toNat=bs.length - 4:=by omega
  obtain⟨v2,h2,r2,_⟩:=hr.sub (lo:=none) (hi:=some (.int .i64 ((bs.length:Int) - 4))) (l:=0) (r:=bs.length - 4) (λcap hc=>by rw[bounds_ni (by omega) (by rw[List.length_map]at hc;omega),e]) (by omega) (by simp)
  have r2:RdB w v2 (bodyOf bs):=by simpa[RdB,bodyOf,List.map_take]using r2
  have hbl:(bodyOf bs).length=bs.length - 4:=by simp [bodyOf]
  refine⟨v2,h2,_,RdB.len r2,?_⟩
  rw[hbl]
  obtain⟨v4,h5,r4,_⟩:=hr.sub (lo:=some (.int .i64 ((bs.length - 4:Nat):Int))) (hi:=none) (l:=bs.length - 4) (r:=bs.length) (λcap hc=>by rw[List.length_map,bounds_in (by omega) (by omega)];simp) (by omega) (by simp)
  have r4:RdB w v4 (tailOf bs):=by
   have e:((bs.map b8).drop (bs.length - 4)).take (bs.length - (bs.length - 4))=(tailOf bs).map b8:=by
    rw[List.take_of_length_le (by simp),tailOf,List.map_drop]
   rw[e]at r4;exact r4
  refine⟨v4,h5,?_⟩
  have gd:=Grow.dr (Grow.refl w)
  refine crc_Sum_c (r2.grow gd) λw5 g5=>⟨_,rfl,?_⟩
  refine crc_low_c (B:=w5.heap.size) (bs:=[]) (Own.nil w5 _ tb) (Nat.le_refl _) (by simp) λv6 w6 n6 o6=>?_
  have g6:=gd.then (g5.then (n6.below (Nat.le_refl _) (λk hk=>by cases hk)))
  refine slices_Equal_c o6.rd (r4.grow g6) λw7 g7=>⟨_,rfl,cond_intro (λh8=>?_) (λh8=>?_)⟩
  ·have hne:¬tailOf bs=le4 (sum (bodyOf bs)):=by
    simp at h8;exact λe=>h8 e.symm
   have:=k (.slice none 0 0) w7 (g6.then g7) (by simp only[opB,h4,hne,if_false];exact Rd.nil w7) nn
   simp only[opE,h4,hne,if_false]at this
   exact this
  ·have heq:tailOf bs=le4 (sum (bodyOf bs)):=by
    simp at h8;exact h8.symm
   refine slices_Clone_c (r2.grow (g6.then g7)) (by omega) λv9 w9 g9 o9=>?_
   refine slices_Clip_c o9.rd λv10 r10 e10=>?_
   have:=k v10 w9 ((g6.then g7).then g9) (by simp only[opB,h4,heq,if_false,if_true];exact r10) (λq hq=>Nat.le_trans (g6.then g7).size (o9.blk q (e10▸hq)))
   simp only[opE,h4,heq,if_false,if_true]at this
   exact this
theorem num_at (p:Pk) (pf:PkFits p) (i:Nat) (hi:i < 4):getV (p.head++p.bs) (1+4*(i:Int)) 4=p.nums.getD i 0/\u32 (p.nums.getD i 0):=by
 have key:∀(pre post:List UInt8) (x:Int),u32 x->∀a:Int,a=(pre.length:Int)->getV (pre++putL x 4++post) a 4=x:=by
  intro pre post x hx a ha
  have:=getV_at (pre:=pre) (post:=post) (x:=x) (n:=4) hx.1 (by omega) ha
  rw[show(4:Int)=((4:Nat):Int) from rfl,this]
  exact Int.emod_eq_of_lt hx.1 (by simpa using hx.2)
 have a0:=key [p.k] (putL p.mine 4++putL p.ack 4++putL p.pos 4++p.bs) p.life pf.life 1 rfl
 have a1:=key ([p.k]++putL p.life 4) (putL p.ack 4++putL p.pos 4++p.bs) p.mine pf.mine 5 (by simp [putL_length])
 have a2:=key ([p.k]++putL p.life 4++putL p.mine 4) (putL p.pos 4++p.bs) p.ack pf.ack 9 (by simp [putL_length])
 have a3:=key ([p.k]++putL p.life 4++putL p.mine 4++putL p.ack 4) p.bs p.pos pf.pos 13 (by simp [putL_length])
 have:i=0\/i=1\/i=2\/i=3:=by omega
 have e:p.head++p.bs=[p.k]++(putL p.life 4++(putL p.mine 4++(putL p.ack 4++(putL p.pos 4++p.bs)))):=by simp only[Pk.head,List.append_assoc]
 simp only[List.append_assoc]at a0 a1 a2 a3
 rw[e]
 rcases this with rfl|rfl|rfl|rfl
 ·exact⟨a0,pf.life⟩
 ·exact⟨a1,pf.mine⟩
 ·exact⟨a2,pf.ack⟩
 ·exact⟨a3,pf.pos⟩
def rN (l:List Int) (i:Nat):Array Value:= #[.int .u32 (if 0 < i then l.getD 0 0 else 0),.int .u32 (if 1 < i then l.getD 1 0 else 0),.int .u32 (if 2 < i then l.getD 2 0 else 0),.int .u32 (if 3 < i then l.getD 3 0 else 0)]
theorem rN_next (l:List Int) (i:Nat) (hi:i < 4):(rN l i).setIfInBounds i (.int .u32 (l.getD i 0))=rN l (i+1):=by
 have:i=0\/i=1\/i=2\/i=3:=by omega
 rcases this with rfl|rfl|rfl|rfl<;>rfl
theorem In_c {w:World} {g:Nat} {vo vi v:Value} {c:Cs} {p:Pk} {R:KV} (h:Cn w g vo vi c) (hf:CsFits c) (pf:PkFits p) (hr:RdB w v p.enc)
 (k:∀vo' vi' w',Step (fpC g vo vi) w w' (fpC g vo' vi')->Cn w' g vo' vi' (inC c p)->R (.tuple #[]) w'):Zs 29 #[zA g,v] w R:=by
 apply q37W
 have hbl:=pf.bs
 have hhl:=Pk.head_length p
 obtain⟨q1,q2⟩:=opE_sld (p.head++p.bs)
 have hle:p.enc.length<=10000:=by rw[Pk.enc,sld_length,List.length_append];omega
 refine crc_Open_n hr (by omega) λv2 w1 g1 r1 n1=>⟨_,_,rfl,?_⟩
 rw[show opE p.enc=0 from q1]
 rw[show opB p.enc=p.head++p.bs from q2]at r1
 have hlen:(p.head++p.bs).length=17+p.bs.length:=by rw[List.length_append];omega
 have hin:=h.isIn
 have h1:=h.grow g1
 have x1:RdX (fpC g vo vi) w1 v2 ((p.head++p.bs).map b8):=RdX.new r1 n1 hin
 have hk0:(p.head++p.bs).getD 0 0=p.k:=rfl
 have hkk:(p.k.toNat:Int)<=2:=by have:=pf.k;have:p.k.toNat<=2:=this;omega
 refine JoinP.bool (λb w'=>w'=w1/\b=c.reset) (λj hj=>?_) ?_
 ·obtain⟨a,ha,hc⟩:=byte_at r1 0 (by omega)
  rw[hk0]at hc
  exact cond_f (by rfl) ⟨_,RdB.len r1,cond_f (by rw[hlen];simp;omega) ⟨a,ha,_,hc,cond_f (by simp;omega) (withAddr_some ⟨_,h1.b.cell 5,hj _ _ ⟨rfl,rfl⟩⟩)⟩⟩
 rintro b w5 ⟨rfl,rfl⟩
 refine cond_intro (λd=>?_) (λd=>?_)
 ·have:=k vo vi w5 (Step.of_grow g1)
  unfold inC at this
  rw[if_pos d]at this
  exact this h1
 refine nm λw6 e6=>?_
 obtain⟨b6,g6,_⟩:=alE e6
 clear e6
 have hP:w5.heap.size < w6.heap.size:=b6.lt
 refine⟨λ(i:Int) (ww:World)=>0<=i/\i<=4/\Below w5.heap.size w5 ww/\BK ww w5.heap.size (rN p.nums i.toNat) 124,λ(i:Int) (_:World)=>(4 - i).toNat,⟨by omega,by omega,g6,b6⟩,?_⟩
 dsimp only[allR,mapR2,eqN,ltN]
 rintro m i ww ⟨⟨i0,i1,gg,bn⟩,hm⟩
 have g5w:Grow w5 ww:=gg
 refine cond_intro (λe=>?_) (λe=>?_)
 ·have e:i < 4:=by simpa using e
  rw[wi64_id (n:=4*i) (by omega) (by omega),wi64_id (n:=1+4*i) (by omega) (by omega)]
  refine bin_Get_c (r1.grow g5w) ⟨by simp [IntKind.min,IntKind.bits,IntKind.signed];omega,by simp [IntKind.max,IntKind.bits,IntKind.signed];omega⟩ (by decide) ⟨_,_,rfl,⟨i0,e⟩,?_⟩
  obtain⟨hnum,hx⟩:=num_at p pf i.toNat (by omega)
  rw[show(1:Int)+4*(i.toNat:Int)=1+4*i by omega]at hnum
  rw[hnum,Nat.mul_one]
  refine⟨st1_at bn (by show i.toNat < 4;omega),nm λw14 e14=>?_⟩
  rw[w32_id hx.1 hx.2]at e14
  obtain⟨b14,t14⟩:=setE bn e14
  rw[rN_next _ _ (by omega)]at b14
  rw[wi64_id (n:=i+1) (by omega) (by omega)]
  have e1:(i+1).toNat=i.toNat+1:=by omega
  exact⟨⟨by omega,by omega,Below.turn gg t14 (Nat.le_refl _),by rw[e1];exact b14⟩,by omega⟩
 have e:¬i < 4:=by simpa using e
 obtain rfl:i=4:=by omega
 have bn:BK ww w5.heap.size #[.int .u32 p.life,.int .u32 p.mine,.int .u32 p.ack,.int .u32 p.pos] 124:=bn
 refine nm λw15 e15=>?_
 have g15:=drE e15
 have b15:=bn.grow g15
 have gA:=g5w.then g15
 have in4:∀x:Int,0<=x->x < 4->inR x 4:=λx h0 h1=>⟨h0,h1⟩
 refine⟨in4 0 (by omega) (by omega),_,b15.cell 0,in4 1 (by omega) (by omega),_,b15.cell 1,in4 2 (by omega) (by omega),_,b15.cell 2,in4 3 (by omega) (by omega),_,b15.cell 3,nm λw20 e20=>?_⟩
 obtain rfl:w20=w15:=e20.trans e15.symm
 have h20:=h1.grow gA
 have x20:=x1.grow gA
 have st0:Step (fpC g vo vi) w w20 (fpC g vo vi):=Step.of_grow (g1.then gA)
 have hinC:∀vo' vi' w' c',c'=inC c p->Step (fpC g vo vi) w w' (fpC g vo' vi')->Cn w' g vo' vi' c'->R (.tuple #[]) w':=by
  intro vo' vi' w' c' e s hc;subst e;exact k vo' vi' w' s hc
 refine JoinP.bool (λb w'=>w'=w20/\b=decide (c.known=true/\p.life≠c.peer)) (λj hj=>?_) ?_
 ·refine withAddr_some ⟨_,h20.b.cell 3,cond_intro (λe1=>withAddr_some ⟨_,h20.b.cell 2,hj _ _ ⟨rfl,?_⟩⟩) (λe1=>hj _ _ ⟨rfl,?_⟩)⟩
  ·rw[Bool.eq_iff_iff];simp [e1]
  ·rw[Bool.eq_iff_iff];simp [e1]
 rintro b w22 ⟨rfl,rfl⟩
 refine cond_intro (λe1=>?_) (λe1=>?_)
 ·have e1:=of_decide_eq_true e1
  refine withAddr_some ⟨st1_at h20.b (by show 5 < 12;omega),nm λw24 e24=>?_⟩
  obtain⟨h24,s24⟩:=h20.set e24 {c with reset:=true} rfl rfl rfl
  refine hinC vo vi w24 _ ?_ (st0.then s24) h24
  unfold inC
  rw[if_neg (by rw[d];simp),if_pos e1]
 have e1:=of_decide_eq_false e1
 have three:(p.k=0\/p.mine≠c.own)->(withAddr (zA g) λa27=>St1 w22 (Addr.add a27 2)/\bindW (World.setCell w22 (Addr.add a27 2) (.int .u32 p.life)) λw28=>withAddr (zA g) λa29=>St1 w28 (Addr.add a29 3)/\bindW (World.setCell w28 (Addr.add a29 3) (.bool true)) λw30=>withAddr (zA g) λa31=>St1 w30 (Addr.add a31 11)/\bindW (World.setCell w30 (Addr.add a31 11) (.bool true)) λw32=>R (.tuple #[]) w32):=by
  intro hq
  refine withAddr_some ⟨st1_at h20.b (by show 2 < 12;omega),nm λw28 e28=>withAddr_some ?_⟩
  obtain⟨h28,s28⟩:=h20.set e28 {c with peer:=p.life} rfl rfl rfl
  refine⟨st1_at h28.b (by show 3 < 12;omega),nm λw30 e30=>withAddr_some ?_⟩
  obtain⟨h30,s30⟩:=h28.set e30 {c with peer:=p.life,known:=true} rfl rfl rfl
  refine⟨st1_at h30.b (by show 11 < 12;omega),nm λw32 e32=>?_⟩
  obtain⟨h32,s32⟩:=h30.set e32 {c with peer:=p.life,known:=true,say:=true} rfl rfl rfl
  refine hinC vo vi w32 _ ?_ (st0.then (s28.then (s30.then s32))) h32
  unfold inC
  rw[if_neg (by rw[d];simp),if_neg e1,if_pos hq]
 obtain⟨a25,ha25,hc25⟩:=byte_at x20.1 0 (by omega)
 rw[hk0]at hc25
 refine⟨a25,ha25,_,hc25,cond_intro (λe2=>?_) (λe2=>?_)⟩
 ·have e2:p.k=0:=UInt8.toNat_inj.1 (by have:(p.k.toNat:Int)=0:=by simpa using e2
                                       show p.k.toNat=0;omega)
  exact three (.inl e2)
 have e2:p.k≠0:=λe=>by rw[e]at e2;simp at e2
 refine withAddr_some ⟨_,h20.b.cell 0,cond_intro (λe3=>three (.inr (by simpa using e3))) (λe3=>?_)⟩
 have e3:p.mine=c.own:=by simpa using e3
 have hq:¬(p.k=0\/p.mine≠c.own):=by simp [e2,e3]
 have hs:∀x:Bool,(x=(c.say||!c.met||p.k==1))->∀w',w'=World.setCell w22 (Addr.add ⟨g,0,none⟩ 11) (.bool x)->Cn w' g vo vi {c with say:=c.say||!c.met||p.k==1}/\Step (fpC g vo vi) w22 w' (fpC g vo vi):=by
  intro x hx w' e
  subst hx
  exact h20.set e {c with say:=c.say||!c.met||p.k==1} rfl rfl rfl
 have st11:St1 w22 (Addr.add ⟨g,0,none⟩ 11):=st1_at h20.b (by show 11 < 12;omega)
 refine JoinP.unit (λw'=>Cn w' g vo vi {c with say:=c.say||!c.met||p.k==1}/\Step (fpC g vo vi) w22 w' (fpC g vo vi)) (λj hj=>?_) ?_
 ·refine withAddr_some ⟨_,h20.b.cell 11,cond_intro (λd1=>withAddr_some ⟨st11,nm λw5' e5=>hj _ (hs _ (by simp [d1]) _ e5)⟩) (λd1=>withAddr_some ⟨_,h20.b.cell 4,cond_intro (λd2=>withAddr_some ⟨st11,nm λw5' e5=>hj _ (hs _ (by simp only[Bool.not_eq_true']at d2;simp [d2]) _ e5)⟩) (λd2=>⟨a25,ha25,_,hc25,withAddr_some ⟨st11,nm λw5' e5=>hj _ (hs _ ?_ _ e5)⟩⟩)⟩)⟩
  simp only[Bool.not_eq_false']at d2
  rw[Bool.eq_iff_iff]
  simp only[d1,d2,Bool.not_true,Bool.or_self,Bool.false_or,beq_iff_eq]
  constructor
  ·intro hh;exact UInt8.toNat_inj.1 (by show p.k.toNat=1;omega)
  ·intro hh;rw[hh];rfl
 rintro w41 ⟨h41,s41⟩
 refine withAddr_some ⟨st1_at h41.b (by show 2 < 12;omega),nm λw43 e43=>withAddr_some ?_⟩
 obtain⟨h43,s43⟩:=h41.set e43 {c with say:=c.say||!c.met||p.k==1,peer:=p.life} rfl rfl rfl
 refine⟨st1_at h43.b (by show 3 < 12;omega),nm λw45 e45=>withAddr_some ?_⟩
 obtain⟨h45,s45⟩:=h43.set e45 {c with say:=c.say||!c.met||p.k==1,peer:=p.life,known:=true} rfl rfl rfl
 refine⟨st1_at h45.b (by show 4 < 12;omega),nm λw47 e47=>?_⟩
 obtain⟨h47,s47⟩:=h45.set e47 {c with say:=c.say||!c.met||p.k==1,peer:=p.life,known:=true,met:=true} rfl rfl rfl
 have sA:Step (fpC g vo vi) w22 w47 (fpC g vo vi):=s41.then (s43.then (s45.then s47))
 have x47:=x20.step sA
 obtain⟨v48,hs48,hr48,ob48⟩:=Rd.sub x47.1 (lo:=some (.int .i64 17)) (hi:=none) (l:=17) (r:=(p.head++p.bs).length) (λcap hc=>by rw[bounds_in (by omega) (by simp;omega)];simp) (by omega) (by simp)
 have r48:RdB w47 v48 p.bs:=by
  have e:(((p.head++p.bs).map b8).drop 17).take ((p.head++p.bs).length - 17)=p.bs.map b8:=by
   rw[←List.map_drop,List.drop_append_of_le_length (by omega),List.drop_of_length_le (by omega),List.nil_append,List.take_of_length_le (by rw[List.length_map];omega)]
  rw[e]at hr48;exact hr48
 have x48:RdX (fpC g vo vi) w47 v48 (p.bs.map b8):=x47.part r48 ob48 (λ_ e=>by have:=congrArg List.length e;rw[List.length_map,hlen]at this;simp at this)
 refine⟨v48,hs48,take_c h47 ⟨hf.own,pf.life,hf.base,hf.got,hf.s0,hf.s1,hf.out,hf.inn⟩ x48 hbl pf.ack λvo' vi' w50 s50 h50=>⟨rfl,?_⟩⟩
 refine hinC vo' vi' w50 _ ?_ (st0.then (sA.then s50)) h50
 unfold inC
 rw[if_neg (by rw[d];simp),if_neg e1,if_neg hq]
end Go.Proofs.YtdpmhkbhlbfbeaaGreatDoor.Con
end
