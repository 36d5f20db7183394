/- A part of the proof. -/
import Derived.ArgAppend
import Derived.Deep.Upon
import Derived.Test.YtdpmhkbhlbfbeaaGreatDoorZConX
import Derived.Test.YtdpmhkbhlbfbeaaGreatDoorZLsX1
set_option linter.unusedSimpArgs false
set_option linter.unusedVariables false
set_option maxRecDepth 100000
section
namespace Go.Proofs.YtdpmhkbhlbfbeaaGreatDoor.Los
open CW RowKit
variable {w w':World} {B:Nat}
def Tl (w:World) (B:Nat) (v:Value):Prop:=v= .slice none 0 0\/∃g off cap cur,v= .slice (some ⟨g,off,none⟩) 0 cap/\B<=g/\BK w g cur tb/\off+cap<=cur.size/\cap<=maxLen
theorem Tl.grow {v:Value} (h:Tl w B v) (g:Grow w w'):Tl w' B v:=by
 rcases h with rfl|⟨b,off,cap,cur,rfl,hb,bk,hs,hm⟩
 ·exact .inl rfl
 ·exact .inr ⟨b,off,cap,cur,rfl,hb,bk.grow g,hs,hm⟩
theorem Tl.stepS {v:Value} {S S':Fp} (h:Tl w B v) (st:Step S w w' S') (hn:∀q,v.ownBlock=some q->¬ S q):Tl w' B v:=by
 rcases h with rfl|⟨b,off,cap,cur,rfl,hb,bk,hs,hm⟩
 ·exact .inl rfl
 ·exact .inr ⟨b,off,cap,cur,rfl,hb,bk.stepS st (hn b rfl),hs,hm⟩
theorem Tl.turn {v:Value} {b:Nat} (h:Tl w B v) (t:Turn b w w') (hn:v.ownBlock≠some b):Tl w' B v:=by
 rcases h with rfl|⟨c,off,cap,cur,rfl,hb,bk,hs,hm⟩
 ·exact .inl rfl
 ·exact .inr ⟨c,off,cap,cur,rfl,hb,bk.turn t (λe=>hn (by rw[←e];rfl)),hs,hm⟩
theorem Tl.lt {v:Value} (h:Tl w B v):∀q,v.ownBlock=some q->B<=q/\q < w.heap.size:=by
 rcases h with rfl|⟨c,off,cap,cur,rfl,hb,bk,hs,hm⟩
 ·intro q hq;cases hq
 ·intro q hq;cases hq;exact⟨hb,bk.lt⟩
theorem Tl.len {v:Value} (h:Tl w B v):sliceLen v=some 0/\isOne v=true/\RdB w v []:=by
 rcases h with rfl|⟨c,off,cap,cur,rfl,hb,bk,hs,hm⟩
 ·exact⟨rfl,rfl,Rd.nil _⟩
 ·exact⟨rfl,rfl,some ⟨c,off,none⟩,cap,rfl,by simp,hm,(λe=>by cases e),λj u hj=>by simp at hj⟩
theorem own_tail {v:Value} {bs:List UInt8} (h:OwnB w B tb v bs):∃v'',subSlice v 1 (some (.int .i64 (bs.length:Int))) none none=some v''/\Tl w B v''/\∀q,v''.ownBlock=some q->v.ownBlock=some q:=by
 have hlen:(bs.map b8).length=bs.length:=by simp
 rcases h.2 with ⟨rfl,hn⟩|⟨g,cap,cur,rfl,hb,hg,hn,hm,hs,ht⟩
 ·rw[hlen]at hn
  refine⟨.slice none 0 0,?_,.inl rfl,λq hq=>hq⟩
  simp only[subSlice,bounds_in (a:=(bs.length:Int)) (len:=0) (cap:=0) (by omega) (by omega)]
  simp [hn]
 ·rw[hlen]at hn ⊢
  refine⟨.slice (if cap=bs.length then some ⟨g,0,none⟩else some ⟨g,bs.length,none⟩) 0 (cap - bs.length),?_,.inr ?_,?_⟩
  ·simp only[subSlice,bounds_in (a:=(bs.length:Int)) (len:=bs.length) (cap:=cap) (by omega) (by omega)]
   simp [ad0]
  ·by_cases hc:cap=bs.length
   ·exact⟨g,0,cap - bs.length,cur,by rw[if_pos hc],hb,hg,by rw[hs];omega,by simp only[maxLen]at hm ⊢;omega⟩
   ·exact⟨g,bs.length,cap - bs.length,cur,by rw[if_neg hc],hb,hg,by rw[hs];omega,by simp only[maxLen]at hm ⊢;omega⟩
  ·intro q hq
   split at hq<;>exact hq
theorem app_tl {v src:Value} {bs:List UInt8} (ht:Tl w B v) (hr:RdB w src bs) (hB:B<=w.heap.size) (hb:bs.length<=1000000):
 ∃v' w',Sem.run Tryz.prog (Builtin.append_ #[tB,tB] tB #[v,src]) w= .ok v' w'/\RdB w' v' bs/\isOne v'=true/\Step (λq=>v.ownBlock=some q) w w' (λq=>v'.ownBlock=some q)/\(∀q,v'.ownBlock=some q->v.ownBlock=some q\/w.heap.size<=q)/\(∀q,v'.ownBlock=some q->q < w'.heap.size)/\
  ∃v'',subSlice v' 1 (some (.int .i64 (bs.length:Int))) none none=some v''/\Tl w' B v''/\∀q,v''.ownBlock=some q->v'.ownBlock=some q:=by
 rcases ht with rfl|⟨g,off,cap,cur,rfl,hbg,bk,hs,hm⟩
 ·obtain⟨v',w',k,o,n⟩:=app_bytes (bs:=[]) (Own.nil w B tb) hr hB (by rw[List.length_nil];omega)
  rw[List.nil_append]at o
  obtain⟨v'',s1,s2,s3⟩:=own_tail o
  have st:Step (λq=>(Value.slice none 0 0).ownBlock=some q) w w' (λq=>v'.ownBlock=some q):=by
   have:=Step.of_own (S :=λq=>(Value.slice none 0 0).ownBlock=some q) n (λ_ h=>h)
   exact⟨this.os,this.tape,this.output,this.size,this.block,λq hq=>this.fp q (.inr hq)⟩
  refine⟨v',w',k,o.rd,Rd.isOne o.rd,st,λq hq=>?_,o.ltS,v'',s1,s2,s3⟩
  rcases n.at_ with e|e
  ·exact .inl (e▸hq)
  ·exact .inr (e q hq)
 ·obtain⟨i,z,hi,hz,his,hby,hzs⟩:=tyB.info
  obtain⟨a,c,rfl,k1,k2,k3,k4⟩:=hr
  rw[List.length_map]at k1 ⊢
  cases a with
  |none=>
   have hc:=k3 rfl
   obtain rfl:bs=[]:=List.eq_nil_of_length_eq_zero (by omega)
   subst hc
   refine⟨.slice (some ⟨g,off,none⟩) 0 cap,w,run_append_nothing w tB tB tB tb i tyB.und hi _ 0 cap (Nat.zero_le _) _ (Src.ofNil w tyB.und 0),⟨some ⟨g,off,none⟩,cap,rfl,by simp,hm,λe=>(by cases e),λj u hj=>by simp at hj⟩,rfl,Step.refl _ _,λq hq=>.inl hq,(λq hq=>by cases hq;exact bk.lt),.slice (some ⟨g,off,none⟩) 0 cap,?_,.inr ⟨g,off,cap,cur,rfl,hbg,bk,hs,hm⟩,λq hq=>hq⟩
   simp only[subSlice,List.length_nil,bounds_in (a:=((0:Nat):Int)) (len:=0) (cap:=cap) (by omega) (by omega)]
   by_cases h0:cap=0
   ·subst h0;simp
   ·have:¬cap=((0:Nat):Int).toNat:=by simpa using h0
    rw[if_neg this]
    simp [add_zero]
  |some a=>
   have hsrc:∀j u,(bs.map b8)[j]? =some u->w.cell? (a.add j)=some u:=λj u hj=>by obtain⟨x,hx,hc⟩:=k4 j u hj;cases hx;exact hc
   by_cases hroom:bs.length<=cap
   ·
    have hrun:=run_append_room_cells (P:=Tryz.prog) (w:=w) tB tB tb i tyB.und hi g off 0 cap a bs.length c (bs.map b8) (by rw[his];simp) hsrc one_b8 (by omega)
     (λj hj=>by rw[his];simp at hj;rw[show off+0*1+j=off+j by omega,bk.at];simp;omega) (λj hj=>bk.thaw _)
    rw[his,show off+0*1=off by omega,Nat.zero_add]at hrun
    have hset:=setCells_set (bs.map b8) off w cur bk (by simp;omega)
    have hsize:(cur.toList.take off++bs.map b8++cur.toList.drop (off+(bs.map b8).length)).toArray.size=cur.size:=by simp;omega
    have st:Step (λq=>(Value.slice (some ⟨g,off,none⟩) 0 cap).ownBlock=some q) w (w.setCells g off (bs.map b8)) (λq=>(Value.slice (some ⟨g,off,none⟩) bs.length cap).ownBlock=some q):=by
     have hgs:(λq=>(Value.slice (some (⟨g,off,none⟩:Addr)) 0 cap).ownBlock=some q)=(λq=>q=g):=by funext q;simp [Value.ownBlock,eq_comm]
     have hgs2:(λq=>(Value.slice (some (⟨g,off,none⟩:Addr)) bs.length cap).ownBlock=some q)=(λq=>q=g):=by funext q;simp [Value.ownBlock,eq_comm]
     rw[hgs,hgs2]
     exact Step.row (S :=λq=>q=g) w ⟨g,off,none⟩ (bs.map b8).toArray rfl
    refine⟨_,_,hrun,⟨some ⟨g,off,none⟩,cap,by simp,by simpa using hroom,hm,λe=>(by cases e),λj u hj=>⟨_,rfl,?_⟩⟩,rfl,st,λq hq=>.inl hq,(λq hq=>by cases hq;exact hset.lt),.slice (if cap=bs.length then some ⟨g,off,none⟩else some (Addr.add ⟨g,off,none⟩ bs.length)) 0 (cap - bs.length),?_,.inr ?_,?_⟩
    ·have hj':j < bs.length:=by simpa using (List.getElem?_eq_some_iff.1 hj).1
     have ea:Addr.add ⟨g,off,none⟩ j=⟨g,off+j,none⟩:=by unfold Addr.add;split
                                                        ·next e=>subst e;rfl
                                                        ·rfl
     rw[ea,hset.at]
     simp only[List.getElem?_toArray]
     rw[List.append_assoc,List.getElem?_append_right (by simp;omega),List.getElem?_append_left (by simp;omega)]
     rw[←hj];congr 1;simp;omega
    ·simp only[subSlice,bounds_in (a:=(bs.length:Int)) (len:=bs.length) (cap:=cap) (by omega) (by omega)]
     simp
    ·have ea:Addr.add ⟨g,off,none⟩ bs.length=⟨g,off+bs.length,none⟩:=by unfold Addr.add;split
                                                                        ·next e=>rw[e];rfl
                                                                        ·rfl
     by_cases hc:cap=bs.length
     ·exact⟨g,off,cap - bs.length,_,by rw[if_pos hc],hbg,hset,by rw[hsize];omega,by simp only[maxLen]at hm ⊢;omega⟩
     ·exact⟨g,off+bs.length,cap - bs.length,_,by rw[if_neg hc,ea],hbg,hset,by rw[hsize];omega,by simp only[maxLen]at hm ⊢;omega⟩
    ·intro q hq
     split at hq
     ·exact hq
     ·have e:(Addr.add ⟨g,off,none⟩ bs.length).block=g:=add_block _ _
      have hq:some (Addr.add ⟨g,off,none⟩ bs.length).block=some q:=hq
      rw[e]at hq;exact hq
   ·
    obtain⟨v',w',hrun,own,gb⟩:=run_append_arg_grows (P:=Tryz.prog) (w:=w) tB tB tb i z 1 _ tyB.und hi hz his hby hzs (by omega) ⟨g,off,none⟩ 0 cap [] rfl (λj u hj=>by simp at hj) a bs.length c (bs.map b8) (by simp) hsrc (by omega) (by simp only[maxLen];omega) (by omega)
    have own':OwnB w' w.heap.size tb v' bs:=by
     have:w'.ownsRow w.heap.size tb 1 v' (bs.map b8).length (bs.map b8):=by simpa using own
     exact this
    obtain⟨v'',s1,s2,s3⟩:=own_tail own'
    have gw:Grow w w':=⟨gb.os,gb.tape,gb.output,gb.size,λk hk=>gb.block k hk (by simp)⟩
    refine⟨v',w',hrun,own'.rd,Rd.isOne own'.rd,⟨gw.os,gw.tape,gw.output,gw.size,λk hk _=>gw.block k hk,λq hq=>.inr (own'.blk q hq)⟩,λq hq=>.inr (own'.blk q hq),own'.ltS,v'',s1,?_,s3⟩
    rcases s2 with e|⟨g',off',cap',cur',e1,e2,e3,e4,e5⟩
    ·exact .inl e
    ·exact .inr ⟨g',off',cap',cur',e1,by omega,e3,e4,e5⟩
end Go.Proofs.YtdpmhkbhlbfbeaaGreatDoor.Los
end
section
namespace Go.Proofs.YtdpmhkbhlbfbeaaGreatDoor.Con
open CW RowKit Crc
def mk (own oth:Int) (fi:Bool) (S T:List UInt8) (b g r:Nat) (kn mt:Bool) (sent:Int) (say:Bool):Cs:=
 ⟨own,fi,if kn then oth else 0,kn,mt,false,S.drop b,b,sent,(T.take g).drop r,g,say⟩
theorem gapN {a b:Nat} (h:a<=4000/\b<=4000):gap (a:Int) (b:Int)=(b:Int) - a:=by
 unfold gap
 have e:IntKind.wrap .i32 (IntKind.wrap .u32 ((b:Int) - a))=(b:Int) - a:=by
  simp only[IntKind.wrap,IntKind.signed,IntKind.bits]
  simp
  omega
 rw[e,wi64_id (by omega) (by omega)]
structure Sm (own oth:Int) (S T:List UInt8) (b g r:Nat):Prop where
 ow:own=1\/own=2
 ot:oth=1\/oth=2
 hb:b<=S.length
 hg:g<=T.length
 hr:r<=g
 hS:S.length<=2000
 hT:T.length<=2000
 ho:S.length<=b+1024
variable {own oth:Int} {fi:Bool} {S T:List UInt8} {b g r:Nat} {kn mt say:Bool} {sent:Int}
theorem mk_fits (s:Sm own oth S T b g r) (h0:0<=sent) (h1:sent<=(S.length - b:Nat)):CsFits (mk own oth fi S T b g r kn mt sent say):=by
 have h1':=s.ow;have h2:=s.ot;have h3:=s.hb;have h4:=s.hg;have h5:=s.hS;have h6:=s.hT
 refine⟨⟨?_,?_⟩,⟨?_,?_⟩,⟨?_,?_⟩,⟨?_,?_⟩,h0,?_,?_,?_⟩
 ·show 0<=own;omega
 ·show own < _;omega
 ·show 0<=(if kn then oth else 0);cases kn<;>simp<;>omega
 ·show(if kn then oth else 0) < _;cases kn<;>simp<;>omega
 ·show(0:Int)<=(b:Int);omega
 ·show(b:Int) < _;omega
 ·show(0:Int)<=(g:Int);omega
 ·show(g:Int) < _;omega
 ·show sent<=((S.drop b).length:Nat);rw[List.length_drop];exact h1
 ·show(S.drop b).length<=_;rw[List.length_drop];omega
 ·show((T.take g).drop r).length<=_;rw[List.length_drop,List.length_take];omega
theorem mk_new:newC own fi=mk own oth fi [] T 0 0 0 false false 0 fi:=by simp [newC,mk]
theorem mk_send (hb:b<=S.length) {bs:List UInt8} (hl:S.length - b+bs.length<=4096):sendN (mk own oth fi S T b g r kn mt sent say) bs=bs.length/\sendC (mk own oth fi S T b g r kn mt sent say) bs=mk own oth fi (S ++bs) T b g r kn mt sent say:=by
 have e:sendN (mk own oth fi S T b g r kn mt sent say) bs=bs.length:=by
  unfold sendN
  show min bs.length (4096 - (S.drop b).length)=_
  rw[List.length_drop];omega
 refine⟨e,?_⟩
 unfold sendC
 rw[e]
 show({mk own oth fi S T b g r kn mt sent say with out:=S.drop b++bs.take bs.length}:Cs)=_
 rw[List.take_length,←List.drop_append_of_le_length hb]
 rfl
theorem mk_recv:({mk own oth fi S T b g r kn mt sent say with inn:=[]}:Cs)=mk own oth fi S T b g g kn mt sent say:=by
 simp [mk]
theorem mk_more (hg:g<=T.length) (T':List UInt8):mk own oth fi S T b g r kn mt sent say=mk own oth fi S (T++T') b g r kn mt sent say:=by
 unfold mk
 rw[List.take_append_of_le_length hg]
def pkA (own oth:Int) (kd:UInt8) (S :List UInt8) (b g:Nat):Pk:=⟨kd,own,oth,g,b,S.drop b⟩
theorem w32_small {n:Int} (h0:0<=n) (h1:n<=4000):IntKind.wrap .u32 n=n:=w32_id h0 (by omega)
theorem mk_out (s:Sm own oth S T b g r):outC (mk own oth fi S T b g r true mt 0 say)=
 (if S.drop b≠[]\/say=true then[pkA own oth (if mt then 2 else 1) S b g] else[],mk own oth fi S T b g r true mt ((S.drop b).length:Nat) false):=by
 have h3:=s.hb;have h5:=s.hS;have h6:=s.ho
 have hl:(S.drop b).length=S.length - b:=by rw[List.length_drop]
 have hpk:∀bs,(mk own oth fi S T b g r true mt 0 say).pk 0 bs=⟨if mt then 2 else 1,own,oth,g,b,bs⟩:=by
  intro bs
  unfold Cs.pk
  have e1:IntKind.wrap .u32 ((b:Int)+IntKind.wrap .u32 0)=b:=by rw[w32_small (n:=0) (by omega) (by omega),w32_small (by omega) (by omega)];omega
  show(⟨_,own,oth,g,IntKind.wrap .u32 ((b:Int)+IntKind.wrap .u32 0),bs⟩:Pk)=_
  rw[e1]
  cases mt<;>rfl
 by_cases hd:S.drop b=[]
 ·have hch:chunk (mk own oth fi S T b g r true mt 0 say)=0:=by
   show min (((S.drop b).length:Int) - 0) 1024=0
   rw[hd];rfl
  have ho:chunks (mk own oth fi S T b g r true mt 0 say)=([],mk own oth fi S T b g r true mt 0 say):=by
   unfold chunks
   show(if true=true then outs 5 _ else _)=_
   rw[if_pos rfl]
   unfold outs
   rw[if_pos hch]
  unfold outC
  rw[ho]
  show(if false=true then _ else _)=_
  rw[if_neg (by decide)]
  cases say with
  |true=>
   rw[if_pos ⟨rfl,rfl⟩,if_pos (.inr rfl)]
   dsimp only
   show([(mk own oth fi S T b g r true mt 0 true).pk 0 []],_)=_
   rw[hpk,hd]
   unfold pkA
   rw[hd]
   rfl
  |false=>
   rw[if_neg (by show ¬((false=true)/\_);simp),if_neg (by rw[hd];simp),hd]
   rfl
 ·have hp:0 < (S.drop b).length:=List.length_pos_iff.2 hd
  have hch:chunk (mk own oth fi S T b g r true mt 0 say)=((S.drop b).length:Int):=by
   show min (((S.drop b).length:Int) - 0) 1024=_
   omega
  have hch2:chunk ({mk own oth fi S T b g r true mt 0 say with sent:=0+((S.drop b).length:Int)}:Cs)=0:=by
   show min (((S.drop b).length:Int) - (0+((S.drop b).length:Int))) 1024=0
   omega
  have ho:chunks (mk own oth fi S T b g r true mt 0 say)=([pkA own oth (if mt then 2 else 1) S b g],{mk own oth fi S T b g r true mt 0 say with sent:=0+((S.drop b).length:Int)}):=by
   unfold chunks
   show(if true=true then outs 5 _ else _)=_
   rw[if_pos rfl,outs_more (by rw[hch];omega),hch]
   have e2:outs 4 ({mk own oth fi S T b g r true mt 0 say with sent:=(mk own oth fi S T b g r true mt 0 say).sent+((S.drop b).length:Int)}:Cs)=([],{mk own oth fi S T b g r true mt 0 say with sent:=0+((S.drop b).length:Int)}):=outs_zero hch2
   rw[e2]
   have e3:((mk own oth fi S T b g r true mt 0 say).out.drop (mk own oth fi S T b g r true mt 0 say).sent.toNat).take (((S.drop b).length:Int)).toNat=S.drop b:=by
    show((S.drop b).drop (0:Int).toNat).take ((S.drop b).length:Int).toNat=_
    rw[Int.toNat_natCast,Int.toNat_zero,List.drop_zero,List.take_length]
   rw[e3]
   show([(mk own oth fi S T b g r true mt 0 say).pk 0 (S.drop b)],_)=_
   rw[hpk];rfl
  unfold outC
  rw[ho]
  show(if false=true then _ else _)=_
  rw[if_neg (by decide),if_neg (by simp)]
  have e5:(if S.drop b≠[]\/say=true then[pkA own oth (if mt then 2 else 1) S b g] else[])=[pkA own oth (if mt then 2 else 1) S b g]:=if_pos (Or.inl hd)
  rw[e5]
  show(_,({mk own oth fi S T b g r true mt 0 say with sent:=0+((S.drop b).length:Int),say:=false}:Cs))=_
  rw[Int.zero_add];rfl
theorem mk_out0 (hb:b<=2000):outC (mk own oth fi S T b g r false false 0 say)=(if say=true then[(⟨0,own,0,g,b,[]⟩:Pk)] else[],mk own oth fi S T b g r false false 0 false):=by
 have ho:chunks (mk own oth fi S T b g r false false 0 say)=([],mk own oth fi S T b g r false false 0 say):=rfl
 unfold outC
 rw[ho]
 show(if false=true then _ else _)=_
 rw[if_neg (by decide)]
 have e1:IntKind.wrap .u32 ((b:Int)+IntKind.wrap .u32 0)=b:=by rw[w32_small (n:=0) (by omega) (by omega),w32_small (by omega) (by omega)];omega
 cases say with
 |true=>
  rw[if_pos ⟨rfl,rfl⟩,if_pos rfl]
  show([(⟨0,own,0,g,IntKind.wrap .u32 ((b:Int)+IntKind.wrap .u32 0),[]⟩:Pk)],_)=_
  rw[e1];rfl
 |false=>
  rw[if_neg (by show ¬((false=true)/\_);simp),if_neg (by decide)]
  rfl
theorem mk_in0 (ho:oth≠0\/True) {ack pos:Int}:inC (mk own oth fi S T b g r kn mt sent say) (⟨0,oth,0,ack,pos,[]⟩:Pk)=mk own oth fi S T b g r true mt sent true:=by
 unfold inC
 show(if false=true then _ else if kn=true/\oth≠(if kn then oth else 0)then _ else if(0:UInt8)=0\/_ then _ else _)=_
 rw[if_neg (by decide),if_neg (by cases kn<;>simp),if_pos (.inl rfl)]
 rfl
theorem mk_in (s:Sm own oth S T b g r) (h0:0<=sent) (h1:sent<=(S.length - b:Nat)) {kd:UInt8} (hk:kd≠0) {pos ack:Nat} (hp:pos<=g) (ha:b<=ack/\ack<=S.length):
 ∃sent' say',inC (mk own oth fi S T b g r kn mt sent say) (pkA oth own kd T pos ack)=mk own oth fi S T ack T.length r true true sent' say'/\0<=sent'/\sent'<=(S.length - ack:Nat):=by
 have h3:=s.hb;have h4:=s.hg;have h5:=s.hS;have h6:=s.hT;have h7:=s.hr
 have hS:(S.drop b).length=S.length - b:=by rw[List.length_drop]
 have hack:∀(km:Bool) (sy:Bool),∃sent',ackC (mk own oth fi S T b g r true km sent sy) (gap (b:Int) (ack:Int)) (ack:Int)=mk own oth fi S T ack g r true km sent' sy/\0<=sent'/\sent'<=(S.length - ack:Nat):=by
  intro km sy
  rw[gapN ⟨by omega,by omega⟩]
  unfold ackC
  by_cases hz:b=ack
  ·subst hz
   rw[if_neg (by omega)]
   exact⟨sent,rfl,h0,h1⟩
  ·have hc:0 < (ack:Int) - b/\(ack:Int) - b<=((S.drop b).length:Nat):=⟨by omega,by rw[hS];omega⟩
   refine⟨max (sent - ((ack:Int) - b)) 0,?_,by omega,by omega⟩
   show(if 0 < (ack:Int) - b/\(ack:Int) - b<=((S.drop b).length:Nat)then _ else _)=_
   rw[if_pos hc]
   show({mk own oth fi S T b g r true km sent sy with out:=(S.drop b).drop ((ack:Int) - b).toNat,base:=(ack:Int),sent:=max (sent - ((ack:Int) - b)) 0}:Cs)=_
   rw[List.drop_drop,show b+((ack:Int) - b).toNat=ack by omega]
   rfl
 have e0:inC (mk own oth fi S T b g r kn mt sent say) (pkA oth own kd T pos ack)=takeC (mk own oth fi S T b g r true true sent (say||!mt||kd==1)) (ack:Int) (pos:Int) (T.drop pos):=by
  unfold inC
  show(if false=true then _ else if kn=true/\oth≠(if kn then oth else 0)then _ else if kd=0\/own≠own then _ else _)=_
  rw[if_neg (by decide),if_neg (by cases kn<;>simp),if_neg (by simp [hk])]
  rfl
 rw[e0]
 unfold takeC
 obtain⟨sent',ea,e1,e2⟩:=hack true (say||!mt||kd==1)
 have eb:(mk own oth fi S T b g r true true sent (say||!mt||kd==1)).base=(b:Int):=rfl
 rw[eb,ea]
 by_cases hd:T.drop pos=[]
 ·rw[if_pos hd]
  have hl:T.length<=pos:=by
   have:=congrArg List.length hd
   rw[List.length_drop]at this
   simp at this;omega
  have:g=T.length:=by omega
  exact⟨sent',_,by rw[this],e1,e2⟩
 ·rw[if_neg hd]
  refine⟨sent',true,?_,e1,e2⟩
  have hl:(T.drop pos).length=T.length - pos:=by rw[List.length_drop]
  show gotC ({mk own oth fi S T ack g r true true sent' _ with say:=true}:Cs) (gap (pos:Int) (g:Int)) (T.drop pos)=_
  rw[gapN ⟨by omega,by omega⟩]
  unfold gotC
  by_cases hgt:g=T.length
  ·rw[if_pos (.inr (by omega))]
   rw[←hgt];rfl
  ·rw[if_neg (by omega)]
   have hin:((T.take g).drop r).length=g - r:=by rw[List.length_drop,List.length_take];omega
   have hm:min ((T.drop pos).length - ((g:Int) - pos).toNat) (4096 - ((T.take g).drop r).length)=T.length - g:=by rw[hl,hin];omega
   have hda:((T.drop pos).drop ((g:Int) - pos).toNat).take (T.length - g)=T.drop g:=by
    rw[List.drop_drop,show pos+((g:Int) - pos).toNat=g by omega,List.take_of_length_le (by rw[List.length_drop];omega)]
   have hcat:(T.take g).drop r++T.drop g=(T.take T.length).drop r:=by
    rw[List.take_length]
    have e:T=T.take g++T.drop g:=(List.take_append_drop g T).symm
    conv=>rhs;rw[e,List.drop_append_of_le_length (by rw[List.length_take];omega)]
   have hw:IntKind.wrap .u32 ((g:Int)+IntKind.wrap .u32 ((T.length - g:Nat):Int))=(T.length:Int):=by
    rw[w32_small (n:=((T.length - g:Nat):Int)) (by omega) (by omega),w32_small (by omega) (by omega)];omega
   show({mk own oth fi S T ack g r true true sent' true with
    inn:=(T.take g).drop r++((T.drop pos).drop ((g:Int) - pos).toNat).take (min ((T.drop pos).length - ((g:Int) - pos).toNat) (4096 - ((T.take g).drop r).length)),
    got:=IntKind.wrap .u32 ((g:Int)+IntKind.wrap .u32 ((min ((T.drop pos).length - ((g:Int) - pos).toNat) (4096 - ((T.take g).drop r).length):Nat):Int))}:Cs)=_
   rw[hm,hda,hcat,hw]
   rfl
end Go.Proofs.YtdpmhkbhlbfbeaaGreatDoor.Con
end
section
namespace Go.Proofs.YtdpmhkbhlbfbeaaGreatDoor.Los
open CW RowKit Con
structure By where
 L:List UInt8
 C:List UInt8
 R0:List UInt8
 Rs:List UInt8
 hL:0 < L.length/\L.length<=900
 hC:C.length<=1000
 h0:0 < R0.length/\R0.length<=900
 hs:Rs.length<=1000
 hcs:C≠[]->Rs≠[]
variable (Y:By)
def sa (c:Nat):List UInt8:=if c=0 then[] else if c<=2 then Y.L else Y.L++Y.C
def tz (t:Nat):List UInt8:=if t=0 then[] else if t=1 then Y.R0 else Y.R0++Y.Rs
def gaN (c:Nat):Nat:=if c<=1 then 0 else if c<=3 then Y.R0.length else Y.R0.length+Y.Rs.length
def gbN (t:Nat):Nat:=if t=0 then 0 else if t=1 then Y.L.length else Y.L.length+Y.C.length
def up (c:Nat):Nat:=if c=0 then 1 else if c=2 then 3 else c
structure Sg (c t s:Nat) (ka kb mb:Bool) (ba bb:Nat):Prop where
 c4:c<=4
 t2:t<=2
 st:s<=t
 tc:1<=t->1<=c
 cs:2<=c->1<=s
 tc3:t=2->3<=c
 c42:c=4->s=2
 kk:ka=true->kb=true
 mm:mb=true->ka=true
 ck:2<=c->ka=true
 tk:1<=t->ka=true
 hba:ba<=gbN Y t
 hbb:bb<=gaN Y c
 cb:2<=c->Y.L.length<=ba
 tb:t=2->Y.R0.length<=bb
 cq:c=4->Y.L.length+Y.C.length<=ba
variable {Y} {c t s:Nat} {ka kb mb:Bool} {ba bb:Nat}
theorem up_cases (h:c<=4):(c=0/\up c=1)\/(c=1/\up c=1)\/(c=2/\up c=3)\/(c=3/\up c=3)\/(c=4/\up c=4):=by
 have:c=0\/c=1\/c=2\/c=3\/c=4:=by omega
 rcases this with rfl|rfl|rfl|rfl|rfl<;>simp [up]
theorem sa_up (c:Nat):∃d,sa Y (up c)=sa Y c++d:=by
 unfold sa up
 by_cases h0:c=0
 ·subst h0;exact⟨Y.L,by simp⟩
 by_cases h2:c=2
 ·subst h2;exact⟨Y.C,by simp⟩
 ·exact⟨[],by simp [h0,h2]⟩
theorem sa_len:(sa Y 1).length=Y.L.length/\(sa Y 3).length=Y.L.length+Y.C.length/\(sa Y 4).length=Y.L.length+Y.C.length:=by simp [sa]
theorem to_len:(tz Y 0).length=0/\(tz Y 1).length=Y.R0.length/\(tz Y 2).length=Y.R0.length+Y.Rs.length:=by simp [tz]
theorem gb_vals:gbN Y 0=0/\gbN Y 1=Y.L.length/\gbN Y 2=Y.L.length+Y.C.length:=by simp [gbN]
theorem ga_vals:gaN Y 0=0/\gaN Y 1=0/\gaN Y 2=Y.R0.length/\gaN Y 3=Y.R0.length/\gaN Y 4=Y.R0.length+Y.Rs.length:=by simp [gaN]
theorem Sg.lens (h:Sg Y c t s ka kb mb ba bb):gbN Y t<=(sa Y (up c)).length/\gaN Y c<=(tz Y t).length/\(sa Y (up c)).length<=2000/\(tz Y t).length<=2000/\(sa Y (up c)).length<=ba+1024/\(tz Y t).length<=bb+1024:=by
 have a1:=Y.hL;have a2:=Y.hC;have a3:=Y.h0;have a4:=Y.hs
 have g1:=h.c4;have g2:=h.t2;have g3:=h.st;have g4:=h.tc;have g5:=h.cs;have g6:=h.tc3;have g7:=h.c42;have g8:=h.cb;have g9:=h.tb
 obtain⟨s1,s3,s4⟩:=sa_len (Y:=Y)
 obtain⟨t0,t1,t2⟩:=to_len (Y:=Y)
 obtain⟨b0,b1,b2⟩:=gb_vals (Y:=Y)
 obtain⟨c0,c1,c2,c3,c4⟩:=ga_vals (Y:=Y)
 have ht:t=0\/t=1\/t=2:=by omega
 rcases up_cases h.c4 with ⟨e,u⟩|⟨e,u⟩|⟨e,u⟩|⟨e,u⟩|⟨e,u⟩<;>rw[u]<;>subst e<;>rcases ht with rfl|rfl|rfl<;>omega
theorem Sg.smA (h:Sg Y c t s ka kb mb ba bb):Sm 1 2 (sa Y (up c)) (tz Y t) ba (gaN Y c) (gaN Y c):=by
 obtain⟨l1,l2,l3,l4,l5,l6⟩:=h.lens
 exact⟨.inl rfl,.inr rfl,Nat.le_trans h.hba l1,l2,Nat.le_refl _,l3,l4,l5⟩
theorem Sg.smB (h:Sg Y c t s ka kb mb ba bb):Sm 2 1 (tz Y t) (sa Y (up c)) bb (gbN Y t) (gbN Y t):=by
 obtain⟨l1,l2,l3,l4,l5,l6⟩:=h.lens
 exact⟨.inr rfl,.inl rfl,Nat.le_trans h.hbb l2,l1,Nat.le_refl _,l4,l3,l6⟩
def endA (Y:By) (c t:Nat) (ka:Bool) (ba:Nat) (say:Bool):Cs:=mk 1 2 true (sa Y (up c)) (tz Y t) ba (gaN Y c) (gaN Y c) ka ka 0 (say||(true&&!ka)||(ka&&!ka)||decide (0 < ((sa Y (up c)).drop ba).length))
def endB (Y:By) (c t:Nat) (kb mb:Bool) (bb:Nat) (say:Bool):Cs:=mk 2 1 false (tz Y t) (sa Y (up c)) bb (gbN Y t) (gbN Y t) kb mb 0 (say||(false&&!kb)||(kb&&!mb)||decide (0 < ((tz Y t).drop bb).length))
theorem drop_ne {S :List UInt8} {n:Nat} (h:n < S.length):S.drop n≠[]:=λe=>by
 have:=congrArg List.length e
 rw[List.length_drop]at this
 simp at this;omega
theorem outA (h:Sg Y c t s ka kb mb ba bb) (say:Bool):∃sent,outC (endA Y c t ka ba say)=(if ka then(if(sa Y (up c)).drop ba≠[]\/say=true then[pkA 1 2 2 (sa Y (up c)) ba (gaN Y c)] else[])else[(⟨0,1,0,gaN Y c,ba,[]⟩:Pk)],
 mk 1 2 true (sa Y (up c)) (tz Y t) ba (gaN Y c) (gaN Y c) ka ka sent false)/\0<=sent/\sent<=((sa Y (up c)).length - ba:Nat):=by
 have hb:=h.smA.hb
 have hS:=h.smA.hS
 unfold endA
 cases ka with
 |true=>
  refine⟨(((sa Y (up c)).drop ba).length:Nat),?_,by omega,by rw[List.length_drop];omega⟩
  rw[mk_out h.smA]
  simp only[if_true]
  congr 1
  by_cases hd:(sa Y (up c)).drop ba=[]
  ·simp [hd]
  ·rw[if_pos (Or.inl hd),if_pos (Or.inl hd)]
 |false=>
  refine⟨0,?_,by omega,by omega⟩
  rw[mk_out0 (by omega)]
  simp
theorem outB (h:Sg Y c t s ka kb mb ba bb) {say:Bool} (hsay:say=true->kb=true):∃sent,outC (endB Y c t kb mb bb say)=(if kb=true/\((tz Y t).drop bb≠[]\/say=true\/mb=false)then[pkA 2 1 (if mb then 2 else 1) (tz Y t) bb (gbN Y t)] else[],
 mk 2 1 false (tz Y t) (sa Y (up c)) bb (gbN Y t) (gbN Y t) kb mb sent false)/\0<=sent/\sent<=((tz Y t).length - bb:Nat):=by
 have hb:=h.smB.hb
 have hS:=h.smB.hS
 unfold endB
 cases hk:kb with
 |true=>
  refine⟨(((tz Y t).drop bb).length:Nat),?_,by omega,by rw[List.length_drop];omega⟩
  rw[mk_out h.smB]
  congr 1
  by_cases hd:(tz Y t).drop bb=[]
  ·cases mb<;>cases say<;>simp [hd]
  ·have e2:true=true/\((tz Y t).drop bb≠[]\/say=true\/mb=false):=⟨rfl,Or.inl hd⟩
   rw[if_pos (Or.inl hd),if_pos e2]
 |false=>
  have hka:ka=false:=by
   cases h1:ka with
   |false=>rfl
   |true=>have:=h.kk h1;rw[hk]at this;cases this
  have hmb:mb=false:=by
   cases h1:mb with
   |false=>rfl
   |true=>have:=h.mm h1;rw[hka]at this;cases this
  have ht:t=0:=by
   have:=h.tk
   rw[hka]at this
   apply Decidable.byContradiction
   intro hh
   have:=this (by omega)
   cases this
  have hs:say=false:=by
   cases h1:say with
   |false=>rfl
   |true=>have:=hsay h1;rw[hk]at this;cases this
  subst hmb;subst hs;subst ht
  refine⟨0,?_,by omega,by omega⟩
  rw[mk_out0 (by omega)]
  simp [tz]
def dnT (c t:Nat):Nat:=if up c=1 then(if t=0 then 1 else t)else 2
def dnC (c t:Nat):Nat:=if t=0 then up c else if t=1 then(if up c=1 then 2 else up c)else 4
theorem toB (h:Sg Y c t s ka kb mb ba bb) (say:Bool) {sent:Int} (h0:0<=sent) (h1:sent<=((tz Y t).length - bb:Nat)) (d:Bool):
 ∃t' kb' mb' bb' sent' say',(if d then(if ka then(if(sa Y (up c)).drop ba≠[]\/say=true then[pkA 1 2 2 (sa Y (up c)) ba (gaN Y c)] else[])else[(⟨0,1,0,gaN Y c,ba,[]⟩:Pk)]).foldl inC (mk 2 1 false (tz Y t) (sa Y (up c)) bb (gbN Y t) (gbN Y t) kb mb sent false)else mk 2 1 false (tz Y t) (sa Y (up c)) bb (gbN Y t) (gbN Y t) kb mb sent false)=
  mk 2 1 false (tz Y t) (sa Y (up c)) bb' (gbN Y t') (gbN Y t) kb' mb' sent' say'/\(say'=true->kb'=true)/\0<=sent'/\sent'<=((tz Y t).length - bb':Nat)/\
  ((t'=t/\bb'=bb/\mb'=mb)\/(t'=dnT c t/\ka=true/\bb'=gaN Y c/\mb'=true))/\(kb=true->kb'=true)/\(mb'=true->kb'=true)/\(d=true->kb'=true/\(ka=true->(sa Y (up c)).drop ba≠[]->t'=dnT c t)):=by
 have mkb:mb=true->kb=true:=λhm=>h.kk (h.mm hm)
 cases d with
 |false=>exact⟨t,kb,mb,bb,sent,false,rfl,λe=>(by cases e),h0,h1,.inl ⟨rfl,rfl,rfl⟩,λe=>e,mkb,λe=>(by cases e)⟩
 |true=>
  cases hk:ka with
  |false=>
   rw[if_pos (rfl:true=true),if_neg (show ¬false=true by decide)]
   rw[List.foldl_cons,List.foldl_nil]
   rw[mk_in0 (.inr trivial)]
   exact⟨t,true,mb,bb,sent,true,rfl,λ_=>rfl,h0,h1,.inl ⟨rfl,rfl,rfl⟩,λ_=>rfl,λ_=>rfl,λ_=>⟨rfl,λe=>(by cases e)⟩⟩
  |true=>
   have hkb:=h.kk hk
   rw[if_pos (rfl:true=true),if_pos (rfl:true=true)]
   by_cases hx:(sa Y (up c)).drop ba≠[]\/say=true
   ·rw[if_pos hx]
    rw[List.foldl_cons,List.foldl_nil]
    obtain⟨l1,l2,_⟩:=h.lens
    obtain⟨sent',say',e,q1,q2⟩:=mk_in (fi:=false) (kn:=kb) (mt:=mb) (say:=false) h.smB h0 h1 (kd:=2) (by decide) (pos:=ba) (ack:=gaN Y c) h.hba ⟨h.hbb,l2⟩
    have eg:(sa Y (up c)).length=gbN Y (dnT c t):=by
     obtain⟨s1,s3,s4⟩:=sa_len (Y:=Y)
     obtain⟨b0,b1,b2⟩:=gb_vals (Y:=Y)
     have g2:=h.t2;have g6:=h.tc3
     have ht:t=0\/t=1\/t=2:=by omega
     rcases up_cases h.c4 with ⟨e,u⟩|⟨e,u⟩|⟨e,u⟩|⟨e,u⟩|⟨e,u⟩<;>unfold dnT<;>rw[u]<;>rcases ht with rfl|rfl|rfl<;>simp<;>omega
    refine⟨dnT c t,true,true,gaN Y c,sent',say',by rw[e,eg],λ_=>rfl,q1,q2,.inr ⟨rfl,rfl,rfl,rfl⟩,λ_=>rfl,λ_=>rfl,λ_=>⟨rfl,λ_ _=>rfl⟩⟩
   ·rw[if_neg hx]
    exact⟨t,kb,mb,bb,sent,false,rfl,λe=>(by cases e),h0,h1,.inl ⟨rfl,rfl,rfl⟩,λe=>e,mkb,λ_=>⟨hkb,λ_ hh=>absurd (.inl hh) hx⟩⟩
theorem toA (h:Sg Y c t s ka kb mb ba bb) {say:Bool} {sent:Int} (h0:0<=sent) (h1:sent<=((sa Y (up c)).length - ba:Nat)) (d:Bool):
 ∃c' ka' ba' sent' say',(if d then(if kb=true/\((tz Y t).drop bb≠[]\/say=true\/mb=false)then[pkA 2 1 (if mb then 2 else 1) (tz Y t) bb (gbN Y t)] else[]).foldl inC (mk 1 2 true (sa Y (up c)) (tz Y t) ba (gaN Y c) (gaN Y c) ka ka sent false)else mk 1 2 true (sa Y (up c)) (tz Y t) ba (gaN Y c) (gaN Y c) ka ka sent false)=
  mk 1 2 true (sa Y (up c)) (tz Y t) ba' (gaN Y c') (gaN Y c) ka' ka' sent' say'/\0<=sent'/\sent'<=((sa Y (up c)).length - ba':Nat)/\
  ((c'=up c/\ba'=ba/\ka'=ka)\/(c'=dnC c t/\kb=true/\ka'=true/\ba'=gbN Y t))/\(d=true->(kb=true->mb=false->ka'=true)/\(kb=true->(tz Y t).drop bb≠[]->c'=dnC c t)):=by
 have e0:gaN Y (up c)=gaN Y c:=by
  obtain⟨c0,c1,c2,c3,c4⟩:=ga_vals (Y:=Y)
  rcases up_cases h.c4 with ⟨e,u⟩|⟨e,u⟩|⟨e,u⟩|⟨e,u⟩|⟨e,u⟩<;>rw[u,e]<;>omega
 cases d with
 |false=>exact⟨up c,ka,ba,sent,false,by rw[e0];rfl,h0,h1,.inl ⟨rfl,rfl,rfl⟩,λe=>(by cases e)⟩
 |true=>
  rw[if_pos (rfl:true=true)]
  by_cases hx:kb=true/\((tz Y t).drop bb≠[]\/say=true\/mb=false)
  ·rw[if_pos hx]
   rw[List.foldl_cons,List.foldl_nil]
   obtain⟨l1,l2,_⟩:=h.lens
   obtain⟨sent',say',e,q1,q2⟩:=mk_in (fi:=true) (kn:=ka) (mt:=ka) (say:=false) h.smA h0 h1 (kd:=if mb then 2 else 1) (by cases mb<;>decide) (pos:=bb) (ack:=gbN Y t) h.hbb ⟨h.hba,l1⟩
   have eg:(tz Y t).length=gaN Y (dnC c t):=by
    obtain⟨t0,t1,t2⟩:=to_len (Y:=Y)
    obtain⟨c0,c1,c2,c3,c4⟩:=ga_vals (Y:=Y)
    have g2:=h.t2;have g3:=h.st;have g5:=h.cs;have g6:=h.tc3;have g7:=h.c42
    have ht:t=0\/t=1\/t=2:=by omega
    rcases up_cases h.c4 with ⟨e,u⟩|⟨e,u⟩|⟨e,u⟩|⟨e,u⟩|⟨e,u⟩<;>unfold dnC<;>rw[u]<;>rcases ht with rfl|rfl|rfl<;>simp<;>omega
   exact⟨dnC c t,true,gbN Y t,sent',say',by rw[e,eg],q1,q2,.inr ⟨rfl,hx.1,rfl,rfl⟩,λ_=>⟨λ_ _=>rfl,λ_ _=>rfl⟩⟩
  ·rw[if_neg hx]
   exact⟨up c,ka,ba,sent,false,by rw[e0];rfl,h0,h1,.inl ⟨rfl,rfl,rfl⟩,λ_=>⟨λh1 h2=>absurd ⟨h1,.inr (.inr h2)⟩ hx,λh1 h2=>absurd ⟨h1,.inl h2⟩ hx⟩⟩
theorem Sg.next (h:Sg Y c t s ka kb mb ba bb) {t' c' ba' bb':Nat} {ka' kb' mb':Bool}
 (hB:(t'=t/\bb'=bb/\mb'=mb)\/(t'=dnT c t/\ka=true/\bb'=gaN Y c/\mb'=true)) (hkb:kb=true->kb'=true) (hmb:mb'=true->kb'=true)
 (hA:(c'=up c/\ba'=ba/\ka'=ka)\/(c'=dnC c t/\kb=true/\ka'=true/\ba'=gbN Y t)):Sg Y c' t' t ka' kb' mb' ba' bb':=by
 have a1:=Y.hL;have a2:=Y.hC;have a3:=Y.h0;have a4:=Y.hs
 have g1:=h.c4;have g2:=h.t2;have g3:=h.st;have g4:=h.tc;have g5:=h.cs;have g6:=h.tc3;have g7:=h.c42;have g8:=h.cb;have g9:=h.tb;have gA:=h.hba;have gB:=h.hbb;have gC:=h.cq
 obtain⟨b0,b1,b2⟩:=gb_vals (Y:=Y)
 obtain⟨c0,c1,c2,c3,c4⟩:=ga_vals (Y:=Y)
 have kaa:ka=true->ka'=true:=λe=>by
  rcases hA with ⟨_,_,q⟩|⟨_,_,q,_⟩
  ·rw[q];exact e
  ·exact q
 have ht:t=0\/t=1\/t=2:=by omega
 have hc:c=0\/c=1\/c=2\/c=3\/c=4:=by omega
 have hn:c'<=4/\t'<=2/\t<=t'/\(1<=t'->1<=c')/\(2<=c'->1<=t)/\(t'=2->3<=c')/\(c'=4->t=2)/\ba'<=gbN Y t'/\bb'<=gaN Y c'/\(2<=c'->Y.L.length<=ba')/\(t'=2->Y.R0.length<=bb')/\(c'=4->Y.L.length+Y.C.length<=ba'):=by
  rcases hA with ⟨rfl,rfl,_⟩|⟨rfl,_,_,rfl⟩<;>rcases hB with ⟨rfl,rfl,_⟩|⟨rfl,_,rfl,_⟩<;>rcases hc with rfl|rfl|rfl|rfl|rfl<;>rcases ht with e|e|e<;>simp only[e,up,dnT,dnC]at *<;>simp at *<;>omega
 obtain⟨n1,n2,n3,n4,n5,n6,n7,n8,n9,n10,n11,n12⟩:=hn
 refine⟨n1,n2,n3,n4,n5,n6,n7,λe=>?_,λe=>?_,λe=>?_,λe=>?_,n8,n9,n10,n11,n12⟩
 ·rcases hA with ⟨_,_,q⟩|⟨_,q,_,_⟩
  ·exact hkb (h.kk (q▸e))
  ·exact hkb q
 ·rcases hB with ⟨_,_,q⟩|⟨_,q,_,_⟩
  ·exact kaa (h.mm (q▸e))
  ·exact kaa q
 ·rcases hA with ⟨q,_,q2⟩|⟨_,_,q,_⟩
  ·rw[q2]
   refine h.ck ?_
   rw[q]at e
   rcases hc with rfl|rfl|rfl|rfl|rfl<;>simp [up]at e<;>omega
  ·exact q
 ·rcases hB with ⟨q,_,_⟩|⟨_,q,_,_⟩
  ·exact kaa (h.tk (q▸e))
  ·exact kaa q
structure Lv (Y:By) (j c t:Nat) (ka kb:Bool):Prop where
 l1:1<=j->kb=true
 l2:2<=j->ka=true
 l3:3<=j->1<=t
 l4:4<=j->2<=c
 l5:5<=j->3<=c/\(Y.C=[]\/t=2)
 l6:6<=j->3<=c/\(Y.C=[]\/c=4)
theorem Lv.next (h:Sg Y c t s ka kb mb ba bb) {t' c' ba' bb':Nat} {ka' kb' mb':Bool} {j:Nat} (v:Lv Y j c t ka kb)
 (hB:(t'=t/\bb'=bb/\mb'=mb)\/(t'=dnT c t/\ka=true/\bb'=gaN Y c/\mb'=true)) (hA:(c'=up c/\ba'=ba/\ka'=ka)\/(c'=dnC c t/\kb=true/\ka'=true/\ba'=gbN Y t))
 (hkb:kb'=true) (pB:ka=true->(sa Y (up c)).drop ba≠[]->t'=dnT c t) (pK:kb=true->mb=false->ka'=true) (pA:kb=true->(tz Y t).drop bb≠[]->c'=dnC c t):Lv Y (j+1) c' t' ka' kb':=by
 have a1:=Y.hL;have a2:=Y.hC;have a3:=Y.h0;have a4:=Y.hs
 have g1:=h.c4;have g2:=h.t2;have g3:=h.st;have g4:=h.tc;have g5:=h.cs;have g6:=h.tc3;have g7:=h.c42;have gA:=h.hba;have gB:=h.hbb
 obtain⟨b0,b1,b2⟩:=gb_vals (Y:=Y)
 obtain⟨c0,c1,c2,c3,c4⟩:=ga_vals (Y:=Y)
 obtain⟨s1,s3,s4⟩:=sa_len (Y:=Y)
 obtain⟨t0,t1,t2⟩:=to_len (Y:=Y)
 have ht:t=0\/t=1\/t=2:=by omega
 have hc:c=0\/c=1\/c=2\/c=3\/c=4:=by omega
 have kaa:ka=true->ka'=true:=λe=>by
  rcases hA with ⟨_,_,q⟩|⟨_,_,q,_⟩
  ·rw[q];exact e
  ·exact q
 have cup:up c<=c'/\c<=up c/\1<=up c/\up c≠2/\t<=t':=by
  rcases hA with ⟨rfl,_,_⟩|⟨rfl,_,_,_⟩<;>rcases hB with ⟨rfl,_,_⟩|⟨rfl,_,_,_⟩<;>rcases hc with rfl|rfl|rfl|rfl|rfl<;>rcases ht with e|e|e<;>simp only[e,up,dnT,dnC]at *<;>simp at *<;>omega
 have hCn:Y.C≠[]->0 < Y.C.length/\0 < Y.Rs.length:=λe=>⟨List.length_pos_iff.2 e,List.length_pos_iff.2 (Y.hcs e)⟩
 refine⟨λ_=>hkb,λhj=>?_,λhj=>?_,λhj=>?_,λhj=>?_,λhj=>?_⟩
 ·have k1:=v.l1 (by omega)
  cases hm:mb with
  |true=>exact kaa (h.mm hm)
  |false=>exact pK k1 hm
 ·have k2:=v.l2 (by omega)
  apply Decidable.byContradiction
  intro hh
  have e0:t=0:=by omega
  have hcc:c=0\/c=1:=by
   have:=g5;omega
  have hne:(sa Y (up c)).drop ba≠[]:=by
   refine drop_ne ?_
   rw[e0]at gA
   rcases hcc with rfl|rfl<;>simp only[up]at *<;>simp at *<;>omega
  have:=pB k2 hne
  rw[this]at hh
  rcases hcc with rfl|rfl<;>simp [dnT,up,e0]at hh
 ·have k3:=v.l3 (by omega)
  have k1:=v.l1 (by omega)
  apply Decidable.byContradiction
  intro hh
  have hcc:c=0\/c=1:=by omega
  have e1:t=1:=by
   have:=g6;omega
  have hne:(tz Y t).drop bb≠[]:=by
   refine drop_ne ?_
   rw[e1]
   rcases hcc with rfl|rfl<;>omega
  have:=pA k1 hne
  rw[this,e1]at hh
  rcases hcc with rfl|rfl<;>simp [dnC,up]at hh
 ·have k4:=v.l4 (by omega)
  have k2:=v.l2 (by omega)
  refine⟨by omega,?_⟩
  by_cases hC:Y.C=[]
  ·exact .inl hC
  right
  obtain⟨q1,q2⟩:=hCn hC
  apply Decidable.byContradiction
  intro hh
  have e1:t=1:=by
   have h2:t'<=2:=by
    rcases hB with ⟨rfl,_,_⟩|⟨rfl,_,_,_⟩
    ·exact g2
    ·unfold dnT;split
     ·split<;>omega
     ·omega
   omega
  have hcc:c=2\/c=3:=by
   have:=g7
   have:s<=1:=by omega
   omega
  have hne:(sa Y (up c)).drop ba≠[]:=by
   refine drop_ne ?_
   rw[e1]at gA
   rcases hcc with rfl|rfl<;>simp only[up]at *<;>simp at *<;>omega
  have:=pB k2 hne
  rw[this]at hh
  rcases hcc with rfl|rfl<;>simp [dnT,up]at hh
 ·obtain⟨k5,k6⟩:=v.l5 (by omega)
  have k1:=v.l1 (by omega)
  refine⟨by omega,?_⟩
  by_cases hC:Y.C=[]
  ·exact .inl hC
  right
  obtain⟨q1,q2⟩:=hCn hC
  have e2:t=2:=k6.resolve_left hC
  apply Decidable.byContradiction
  intro hh
  have hcc:c=3:=by
   have:c'<=4:=by
    rcases hA with ⟨rfl,_,_⟩|⟨rfl,_,_,_⟩<;>rcases hc with rfl|rfl|rfl|rfl|rfl<;>simp [up,dnC,e2]<;>omega
   omega
  have hne:(tz Y t).drop bb≠[]:=by
   refine drop_ne ?_
   rw[e2]
   rw[hcc]at gB
   omega
  have:=pA k1 hne
  rw[this,e2]at hh
  simp [dnC]at hh
end Go.Proofs.YtdpmhkbhlbfbeaaGreatDoor.Los
end
section
namespace Go.Proofs.YtdpmhkbhlbfbeaaGreatDoor.Los
open CW RowKit
open Con
open Ses (St)
open Cli (Cl)
structure Fr (B:Nat) (w:World) (F:Nat->Fp):Prop where
 ap:∀i j k,F i k->F j k->i=j
 lt:∀i k,F i k->k < w.heap.size
 lo:∀i k,F i k->B<=k
 hB:B<=w.heap.size
def All (F:Nat->Fp):Fp:=λk=>∃i,F i k
variable {B gd:Nat} {w w' w1:World}
section
variable {F F':Nat->Fp}
theorem Fr.apart (h:Fr B w F) {i j:Nat} (hij:i≠j):∀k,F i k->¬F j k:=λk a b=>hij (h.ap i j k a b)
theorem Fr.grow (h:Fr B w F) (g:Grow w w'):Fr B w' F:=⟨h.ap,λi k hk=>Nat.lt_of_lt_of_le (h.lt i k hk) g.size,h.lo,Nat.le_trans h.hB g.size⟩
theorem Fr.step {S':Fp} (i:Nat) (h:Fr B w F) (st:Step (F i) w w' S') (hi:∀k,F' i k->S' k/\k < w'.heap.size) (hj:∀j,j≠i->∀k,F' j k->F j k):Fr B w' F'/\Step (All F) w w' (All F'):=by
 have cs:∀k,F' i k->F i k\/w.heap.size<=k:=λk hk=>st.fp k (hi k hk).1
 refine⟨⟨λa b k ha hb=>?_,λa k hk=>?_,λa k hk=>?_,Nat.le_trans h.hB st.size⟩,⟨st.os,st.tape,st.output,st.size,λk hk hn=>st.block k hk (λhs=>hn ⟨i,hs⟩),λk hk=>?_⟩⟩
 ·by_cases ea:a=i
  ·by_cases eb:b=i
   ·rw[ea,eb]
   ·subst ea
    have hb':=hj b eb k hb
    rcases cs k ha with q|q
    ·exact h.ap _ _ k q hb'
    ·have:=h.lt b k hb';omega
  ·by_cases eb:b=i
   ·subst eb
    have ha':=hj a ea k ha
    rcases cs k hb with q|q
    ·exact h.ap _ _ k ha' q
    ·have:=h.lt a k ha';omega
   ·exact h.ap a b k (hj a ea k ha) (hj b eb k hb)
 ·by_cases ea:a=i
  ·subst ea;exact(hi k hk).2
  ·exact Nat.lt_of_lt_of_le (h.lt a k (hj a ea k hk)) st.size
 ·by_cases ea:a=i
  ·subst ea;exact(cs k hk).elim (h.lo _ k) (λq=>Nat.le_trans h.hB q)
  ·exact h.lo a k (hj a ea k hk)
 ·obtain⟨a,hk⟩:=hk
  by_cases ea:a=i
  ·subst ea;exact(cs k hk).imp (λq=>⟨_,q⟩) id
  ·exact .inl ⟨a,hj a ea k hk⟩
end
abbrev tLine:TypeId:=36
structure LF where
 gc:Nat
 gs:Nat
 ga:Nat
 gb:Nat
 Sc:Fp
 Ss:Fp
 voa:Value
 via:Value
 vob:Value
 vib:Value
def Fz (gl:Nat) (f:LF) (vw vv:Value):Nat->Fp
 |0=>f.Sc
 |1=>f.Ss
 |2=>λq=>q=gl
 |3=>fpC f.ga f.voa f.via
 |4=>fpC f.gb f.vob f.vib
 |5=>λq=>vw.ownBlock=some q
 |6=>λq=>vv.ownBlock=some q
 |_=>λ_=>False
abbrev rL (f:LF) (vw vv:Value) (k n:Int):Array Value:= #[.pointer (some ⟨f.gc,0,none⟩),.pointer (some ⟨f.gs,0,none⟩),.pointer (some ⟨f.ga,0,none⟩),.pointer (some ⟨f.gb,0,none⟩),.int .i64 k,.int .i64 n,vw,vv]
structure LAt (B gd:Nat) (A:List (List UInt8)) (w:World) (gl:Nat) (f:LF) (vw vv:Value) (k n:Int) (c:Cl) (x:St Un) (ca cb:Cs):Prop where
 b:BK w gl (rL f vw vv k n) tLine
 p:Pip.PAt B Txt.Env (deskK gd) A w f.gc f.gs f.Sc f.Ss c x
 ea:Cn w f.ga f.voa f.via ca
 eb:Cn w f.gb f.vob f.vib cb
 fa:CsFits ca
 fb:CsFits cb
 fr:Fr B w (Fz gl f vw vv)
variable {A:List (List UInt8)} {gl:Nat} {f:LF} {vw vv:Value} {k n:Int} {c c':Cl} {x x':St Un} {ca cb ca' cb':Cs}
theorem LAt.grow (h:LAt B gd A w gl f vw vv k n c x ca cb) (g:Grow w w'):LAt B gd A w' gl f vw vv k n c x ca cb:=
 ⟨h.b.grow g,h.p.grow g,h.ea.grow g,h.eb.grow g,h.fa,h.fb,h.fr.grow g⟩
theorem LAt.all (h:LAt B gd A w gl f vw vv k n c x ca cb) {F':Nat->Fp} (st:Step (All (Fz gl f vw vv)) w w' (All F')):Below B w w':=st.to_below h.fr.hB λq ⟨i,hq⟩=>h.fr.lo i q hq
theorem LAt.cl {Sc':Fp} (h:LAt B gd A w gl f vw vv k n c x ca cb) (st:Step f.Sc w w' Sc') (hp:Pip.PAt B Txt.Env (deskK gd) A w' f.gc f.gs Sc' f.Ss c' x):
 ∃f',LAt B gd A w' gl f' vw vv k n c' x ca cb/\Step (All (Fz gl f vw vv)) w w' (All (Fz gl f' vw vv)):=by
 obtain⟨fr,sa⟩:=h.fr.step (F':=Fz gl {f with Sc:=Sc'} vw vv) 0 st (λq hq=>⟨hq,hp.c.lt q hq⟩) (λj hj q hq=>by rcases j with _|_|_|_|_|_|_|j<;>first|exact absurd rfl hj|exact hq)
 exact⟨{f with Sc:=Sc'},⟨h.b.stepS st (h.fr.apart (i:=2) (j:=0) (by decide) _ rfl),hp,h.ea.stepS st (h.fr.apart (i:=3) (j:=0) (by decide)),h.eb.stepS st (h.fr.apart (i:=4) (j:=0) (by decide)),h.fa,h.fb,fr⟩,sa⟩
theorem LAt.se {Ss':Fp} (h:LAt B gd A w gl f vw vv k n c x ca cb) (st:Step f.Ss w w' Ss') (hp:Pip.PAt B Txt.Env (deskK gd) A w' f.gc f.gs f.Sc Ss' c x'):
 ∃f',LAt B gd A w' gl f' vw vv k n c x' ca cb/\Step (All (Fz gl f vw vv)) w w' (All (Fz gl f' vw vv)):=by
 obtain⟨fr,sa⟩:=h.fr.step (F':=Fz gl {f with Ss:=Ss'} vw vv) 1 st (λq hq=>⟨hq,hp.s.lt q hq⟩) (λj hj q hq=>by rcases j with _|_|_|_|_|_|_|j<;>first|exact absurd rfl hj|exact hq)
 exact⟨{f with Ss:=Ss'},⟨h.b.stepS st (h.fr.apart (i:=2) (j:=1) (by decide) _ rfl),hp,h.ea.stepS st (h.fr.apart (i:=3) (j:=1) (by decide)),h.eb.stepS st (h.fr.apart (i:=4) (j:=1) (by decide)),h.fa,h.fb,fr⟩,sa⟩
theorem LAt.sa {vo vi:Value} (h:LAt B gd A w gl f vw vv k n c x ca cb) (st:Step (fpC f.ga f.voa f.via) w w' (fpC f.ga vo vi)) (hc:Cn w' f.ga vo vi ca') (hf:CsFits ca'):
 ∃f',LAt B gd A w' gl f' vw vv k n c x ca' cb/\Step (All (Fz gl f vw vv)) w w' (All (Fz gl f' vw vv))/\f'.Sc=f.Sc/\f'.Ss=f.Ss/\f'.gc=f.gc/\f'.gs=f.gs:=by
 obtain⟨fr,sa⟩:=h.fr.step (F':=Fz gl {f with voa:=vo,via:=vi} vw vv) 3 st (λq hq=>⟨hq,hc.isIn q hq⟩) (λj hj q hq=>by rcases j with _|_|_|_|_|_|_|j<;>first|exact absurd rfl hj|exact hq)
 exact⟨{f with voa:=vo,via:=vi},⟨h.b.stepS st (h.fr.apart (i:=2) (j:=3) (by decide) _ rfl),h.p.apart st (h.fr.apart (i:=0) (j:=3) (by decide)) (h.fr.apart (i:=1) (j:=3) (by decide)) (h.fr.lo 3),hc,h.eb.stepS st (h.fr.apart (i:=4) (j:=3) (by decide)),hf,h.fb,fr⟩,sa,rfl,rfl,rfl,rfl⟩
theorem LAt.sb {vo vi:Value} (h:LAt B gd A w gl f vw vv k n c x ca cb) (st:Step (fpC f.gb f.vob f.vib) w w' (fpC f.gb vo vi)) (hc:Cn w' f.gb vo vi cb') (hf:CsFits cb'):
 ∃f',LAt B gd A w' gl f' vw vv k n c x ca cb'/\Step (All (Fz gl f vw vv)) w w' (All (Fz gl f' vw vv))/\f'.Sc=f.Sc/\f'.Ss=f.Ss/\f'.gc=f.gc/\f'.gs=f.gs:=by
 obtain⟨fr,sa⟩:=h.fr.step (F':=Fz gl {f with vob:=vo,vib:=vi} vw vv) 4 st (λq hq=>⟨hq,hc.isIn q hq⟩) (λj hj q hq=>by rcases j with _|_|_|_|_|_|_|j<;>first|exact absurd rfl hj|exact hq)
 exact⟨{f with vob:=vo,vib:=vi},⟨h.b.stepS st (h.fr.apart (i:=2) (j:=4) (by decide) _ rfl),h.p.apart st (h.fr.apart (i:=0) (j:=4) (by decide)) (h.fr.apart (i:=1) (j:=4) (by decide)) (h.fr.lo 4),h.ea.stepS st (h.fr.apart (i:=3) (j:=4) (by decide)),hc,h.fa,hf,fr⟩,sa,rfl,rfl,rfl,rfl⟩
theorem LAt.sa0 (h:LAt B gd A w gl f vw vv k n c x ca cb) (st:Step (fpC f.ga f.voa f.via) w w' (fpC f.ga f.voa f.via)) (hc:Cn w' f.ga f.voa f.via ca') (hf:CsFits ca'):
 LAt B gd A w' gl f vw vv k n c x ca' cb/\Step (All (Fz gl f vw vv)) w w' (All (Fz gl f vw vv)):=by
 obtain⟨fr,sa⟩:=h.fr.step (F':=Fz gl f vw vv) 3 st (λq hq=>⟨hq,hc.isIn q hq⟩) (λj hj q hq=>hq)
 exact⟨⟨h.b.stepS st (h.fr.apart (i:=2) (j:=3) (by decide) _ rfl),h.p.apart st (h.fr.apart (i:=0) (j:=3) (by decide)) (h.fr.apart (i:=1) (j:=3) (by decide)) (h.fr.lo 3),hc,h.eb.stepS st (h.fr.apart (i:=4) (j:=3) (by decide)),hf,h.fb,fr⟩,sa⟩
theorem LAt.sb0 (h:LAt B gd A w gl f vw vv k n c x ca cb) (st:Step (fpC f.gb f.vob f.vib) w w' (fpC f.gb f.vob f.vib)) (hc:Cn w' f.gb f.vob f.vib cb') (hf:CsFits cb'):
 LAt B gd A w' gl f vw vv k n c x ca cb'/\Step (All (Fz gl f vw vv)) w w' (All (Fz gl f vw vv)):=by
 obtain⟨fr,sa⟩:=h.fr.step (F':=Fz gl f vw vv) 4 st (λq hq=>⟨hq,hc.isIn q hq⟩) (λj hj q hq=>hq)
 exact⟨⟨h.b.stepS st (h.fr.apart (i:=2) (j:=4) (by decide) _ rfl),h.p.apart st (h.fr.apart (i:=0) (j:=4) (by decide)) (h.fr.apart (i:=1) (j:=4) (by decide)) (h.fr.lo 4),h.ea.stepS st (h.fr.apart (i:=3) (j:=4) (by decide)),hc,h.fa,hf,fr⟩,sa⟩
theorem LAt.cell {j:Nat} {u:Value} {k' n':Int} (h:LAt B gd A w gl f vw vv k n c x ca cb) (e:w'=World.setCell w (Addr.add ⟨gl,0,none⟩ j) u) (hr:(rL f vw vv k n).setIfInBounds j u=rL f vw vv k' n'):
 LAt B gd A w' gl f vw vv k' n' c x ca cb/\Step (All (Fz gl f vw vv)) w w' (All (Fz gl f vw vv))/\Step (Fz gl f vw vv 2) w w' (Fz gl f vw vv 2):=by
 obtain⟨b,t⟩:=setE h.b e
 have st:Step (Fz gl f vw vv 2) w w' (Fz gl f vw vv 2):=by
  subst e;exact Step.setA w _ u (by rw[add_block];exact rfl)
 obtain⟨fr,sa⟩:=h.fr.step (F':=Fz gl f vw vv) 2 st (λq hq=>⟨hq,Nat.lt_of_lt_of_le (h.fr.lt 2 q hq) st.size⟩) (λj hj q hq=>hq)
 exact⟨⟨by rw[hr]at b;exact b,h.p.apart st (h.fr.apart (i:=0) (j:=2) (by decide)) (h.fr.apart (i:=1) (j:=2) (by decide)) (h.fr.lo 2),h.ea.stepS st (h.fr.apart (i:=3) (j:=2) (by decide)),h.eb.stepS st (h.fr.apart (i:=4) (j:=2) (by decide)),h.fa,h.fb,fr⟩,sa,st⟩
theorem LAt.rw_ {v:Value} (h:LAt B gd A w gl f vw vv k n c x ca cb) (st:Step (λq=>vw.ownBlock=some q) w w1 (λq=>v.ownBlock=some q)) (hl:∀q,v.ownBlock=some q->q < w1.heap.size) (e:w'=World.setCell w1 (Addr.add ⟨gl,0,none⟩ 6) v):
 LAt B gd A w' gl f v vv k n c x ca cb/\Step (All (Fz gl f vw vv)) w w' (All (Fz gl f v vv))/\Turn gl w1 w'/\v.ownBlock≠some gl:=by
 have b1:=h.b.stepS st (h.fr.apart (i:=2) (j:=5) (by decide) _ rfl)
 obtain⟨b,t⟩:=setE b1 e
 obtain⟨fr,sa⟩:=h.fr.step (F':=Fz gl f v vv) 5 st (λq hq=>⟨hq,hl q hq⟩) (λj hj q hq=>by rcases j with _|_|_|_|_|_|_|j<;>first|exact absurd rfl hj|exact hq)
 have st2:Step (Fz gl f v vv 2) w1 w' (Fz gl f v vv 2):=by
  subst e;exact Step.setA w1 _ v (by rw[add_block];exact rfl)
 obtain⟨fr2,sa2⟩:=fr.step (F':=Fz gl f v vv) 2 st2 (λq hq=>⟨hq,Nat.lt_of_lt_of_le (fr.lt 2 q hq) st2.size⟩) (λj hj q hq=>hq)
 refine⟨⟨b,?_,?_,?_,h.fa,h.fb,fr2⟩,sa.then sa2,t,λhq=>absurd (fr.ap 5 2 gl hq rfl) (by decide)⟩
 ·exact(h.p.apart st (h.fr.apart (i:=0) (j:=5) (by decide)) (h.fr.apart (i:=1) (j:=5) (by decide)) (h.fr.lo 5)).apart st2 (fr.apart (i:=0) (j:=2) (by decide)) (fr.apart (i:=1) (j:=2) (by decide)) (fr.lo 2)
 ·exact(h.ea.stepS st (h.fr.apart (i:=3) (j:=5) (by decide))).stepS st2 (fr.apart (i:=3) (j:=2) (by decide))
 ·exact(h.eb.stepS st (h.fr.apart (i:=4) (j:=5) (by decide))).stepS st2 (fr.apart (i:=4) (j:=2) (by decide))
theorem LAt.rv {v:Value} (h:LAt B gd A w gl f vw vv k n c x ca cb) (st:Step (λq=>vv.ownBlock=some q) w w1 (λq=>v.ownBlock=some q)) (hl:∀q,v.ownBlock=some q->q < w1.heap.size) (e:w'=World.setCell w1 (Addr.add ⟨gl,0,none⟩ 7) v):
 LAt B gd A w' gl f vw v k n c x ca cb/\Step (All (Fz gl f vw vv)) w w' (All (Fz gl f vw v))/\Turn gl w1 w'/\v.ownBlock≠some gl:=by
 have b1:=h.b.stepS st (h.fr.apart (i:=2) (j:=6) (by decide) _ rfl)
 obtain⟨b,t⟩:=setE b1 e
 obtain⟨fr,sa⟩:=h.fr.step (F':=Fz gl f vw v) 6 st (λq hq=>⟨hq,hl q hq⟩) (λj hj q hq=>by rcases j with _|_|_|_|_|_|_|j<;>first|exact absurd rfl hj|exact hq)
 have st2:Step (Fz gl f vw v 2) w1 w' (Fz gl f vw v 2):=by
  subst e;exact Step.setA w1 _ v (by rw[add_block];exact rfl)
 obtain⟨fr2,sa2⟩:=fr.step (F':=Fz gl f vw v) 2 st2 (λq hq=>⟨hq,Nat.lt_of_lt_of_le (fr.lt 2 q hq) st2.size⟩) (λj hj q hq=>hq)
 refine⟨⟨b,?_,?_,?_,h.fa,h.fb,fr2⟩,sa.then sa2,t,λhq=>absurd (fr.ap 6 2 gl hq rfl) (by decide)⟩
 ·exact(h.p.apart st (h.fr.apart (i:=0) (j:=6) (by decide)) (h.fr.apart (i:=1) (j:=6) (by decide)) (h.fr.lo 6)).apart st2 (fr.apart (i:=0) (j:=2) (by decide)) (fr.apart (i:=1) (j:=2) (by decide)) (fr.lo 2)
 ·exact(h.ea.stepS st (h.fr.apart (i:=3) (j:=6) (by decide))).stepS st2 (fr.apart (i:=3) (j:=2) (by decide))
 ·exact(h.eb.stepS st (h.fr.apart (i:=4) (j:=6) (by decide))).stepS st2 (fr.apart (i:=4) (j:=2) (by decide))
def Tb (w:World) (B:Nat) (v:Value) (bs:List UInt8):Prop:=RdB w v bs/\(∀q,v.ownBlock=some q->q < w.heap.size)/\∃v'',subSlice v 1 (some (.int .i64 (bs.length:Int))) none none=some v''/\Tl w B v''/\∀q,v''.ownBlock=some q->v.ownBlock=some q
theorem Tb.nil:Tb w B (.slice none 0 0) []:=by
 have o:OwnB w B tb (.slice none 0 0) []:=Own.nil w B tb
 obtain⟨v'',s1,s2,s3⟩:=own_tail o
 exact⟨Rd.nil w,(λq hq=>by cases hq),v'',s1,s2,s3⟩
theorem Tb.stepS {v:Value} {bs:List UInt8} {S S':Fp} (h:Tb w B v bs) (st:Step S w w' S') (hn:∀q,v.ownBlock=some q->¬ S q):Tb w' B v bs:=by
 obtain⟨h1,h2,v'',s1,s2,s3⟩:=h
 exact⟨Rd.stepS h1 st λ_=>hn,λq hq=>Nat.lt_of_lt_of_le (h2 q hq) st.size,v'',s1,s2.stepS st λq hq=>hn q (s3 q hq),s3⟩
theorem Tb.grow {v:Value} {bs:List UInt8} (h:Tb w B v bs) (g:Grow w w'):Tb w' B v bs:=by
 obtain⟨h1,h2,v'',s1,s2,s3⟩:=h
 exact⟨Rd.grow h1 g,λq hq=>Nat.lt_of_lt_of_le (h2 q hq) g.size,v'',s1,s2.grow g,s3⟩
theorem Tb.turn {v:Value} {bs:List UInt8} {b:Nat} (h:Tb w B v bs) (t:Turn b w w') (hn:v.ownBlock≠some b):Tb w' B v bs:=by
 obtain⟨h1,h2,v'',s1,s2,s3⟩:=h
 exact⟨Rd.turn h1 t hn,λq hq=>Nat.lt_of_lt_of_le (h2 q hq) (by rw[t.size];exact Nat.le_refl _),v'',s1,s2.turn t (λe=>hn (s3 _ e)),s3⟩
end Go.Proofs.YtdpmhkbhlbfbeaaGreatDoor.Los
end
section
namespace Go.Proofs.YtdpmhkbhlbfbeaaGreatDoor.Los
open CW RowKit Con
open Ses (St)
open Cli (Cl)
theorem tickC_fits {c:Cs} (h:CsFits c):CsFits (tickC c):=⟨h.own,h.peer,h.base,h.got,by show(0:Int)<=0;omega,by show(0:Int)<=_;omega,h.out,h.inn⟩
theorem inC_fits {c:Cs} {p:Pk} (h:CsFits c) (hp:PkFits p):CsFits (inC c p):=by
 unfold inC
 split
 ·exact h
 ·split
  ·exact⟨h.own,h.peer,h.base,h.got,h.s0,h.s1,h.out,h.inn⟩
  ·split
   ·exact⟨h.own,hp.life,h.base,h.got,h.s0,h.s1,h.out,h.inn⟩
   ·exact takeC_fits (c:={c with say:=c.say||!c.met||p.k==1,peer:=p.life,known:=true,met:=true}) ⟨h.own,hp.life,h.base,h.got,h.s0,h.s1,h.out,h.inn⟩ _ _ _ hp.ack
variable {B gd:Nat} {w w':World} {A:List (List UInt8)} {gl:Nat} {f:LF} {vw vv:Value} {k n:Int} {c c':Cl} {x x':St Un} {ca cb:Cs}
theorem lost_c {R:KV} (h:LAt B gd A w gl f vw vv k n c x ca cb) (hk:0<=k)
 (K:∀b w' n',(k=0->b=false)->LAt B gd A w' gl f vw vv k n' c x ca cb->Step (All (Fz gl f vw vv)) w w' (All (Fz gl f vw vv))->(∀v,Tl w B v->v.ownBlock≠some gl->Tl w' B v)->R (.bool b) w'):Zs 28 #[zA gl] w R:=by
 apply q57W
 refine withAddr_some ⟨n,h.b.cell 5,withAddr_some ⟨st1_at h.b (by show 5 < 8;omega),nm λw3 e3=>?_⟩⟩
 obtain⟨h3,s3,t3⟩:=h.cell e3 rfl
 have tl3:∀v,Tl w B v->v.ownBlock≠some gl->Tl w3 B v:=λv hv hn=>hv.stepS t3 λq hq e=>hn (by rw[hq,show q=gl from e])
 refine JoinP.bool (λb w'=>∃n',(k=0->b=false)/\LAt B gd A w' gl f vw vv k n' c x ca cb/\Step (All (Fz gl f vw vv)) w w' (All (Fz gl f vw vv))/\(∀v,Tl w B v->v.ownBlock≠some gl->Tl w' B v)) (λj hj=>?_) (by rintro b w' ⟨n',a,b',c',d'⟩;exact K _ _ _ a b' c' d')
 refine nm λw7 e7=>?_
 have h7:=h3.grow (drE e7)
 refine withAddr_some ⟨k,h7.b.cell 4,cond_intro (λd=>?_) (λd=>?_)⟩
 ·simp only[decide_eq_true_eq,gt_iff_lt]at d
  exact withAddr_some ⟨_,h7.b.cell 5,withAddr_some ⟨_,h7.b.cell 4,nzK_intro (by omega) (nm λw14 e14=>hj _ _ ⟨_,λe=>by omega,h3.grow (drE e14),s3.then (Step.of_grow (drE e14)),λv hv hn=>(tl3 v hv hn).grow (drE e14)⟩)⟩⟩
 ·exact nm λw15 e15=>hj _ _ ⟨_,λ_=>rfl,h3.grow (drE e15),s3.then (Step.of_grow (drE e15)),λv hv hn=>(tl3 v hv hn).grow (drE e15)⟩
def dl (d:Bool) (ps:List Pk) (c:Cs):Cs:=if d then ps.foldl inC c else c
structure SIn (B gd:Nat) (A:List (List UInt8)) (bs:List UInt8) (x x':St Un) (o:List UInt8):Prop where
 go:∀{w:World} {gc gs:Nat} {Sc Ss:Fp} {c:Cl} {src:Value} {R:KV},Pip.PAt B Txt.Env (deskK gd) A w gc gs Sc Ss c x->RdB w src bs->(bs≠[]->∀q,src.ownBlock=some q->¬Ss q)->
  (∀v w' Ss',Step Ss w w' Ss'->Pip.PAt B Txt.Env (deskK gd) A w' gc gs Sc Ss' c x'->RdB w' v o->R v w')->Zs 30 #[zA gs,src] w R
structure CIn (B gd:Nat) (A:List (List UInt8)) (bs:List UInt8) (c c':Cl):Prop where
 go:∀{w:World} {gc gs:Nat} {Sc Ss:Fp} {x:St Un} {src:Value} {R:KV},Pip.PAt B Txt.Env (deskK gd) A w gc gs Sc Ss c x->RdB w src bs->
  (∀w' Sc',Step Sc w w' Sc'->Pip.PAt B Txt.Env (deskK gd) A w' gc gs Sc' Ss c' x->R (.tuple #[]) w')->Zs 32 #[zA gc,src] w R
structure CTell (B gd:Nat) (A:List (List UInt8)) (c c':Cl) (bs:List UInt8):Prop where
 go:∀{w:World} {gc gs:Nat} {Sc Ss:Fp} {x:St Un} {R:KV},Pip.PAt B Txt.Env (deskK gd) A w gc gs Sc Ss c x->
  (∀v w' Sc',Step Sc w w' Sc'->Pip.PAt B Txt.Env (deskK gd) A w' gc gs Sc' Ss c' x->RdB w' v bs->R v w')->Zs 24 #[zA gc] w R
theorem cut_step {v v'':Value} (hv:∀q,v''.ownBlock=some q->v.ownBlock=some q):Step (λq=>v.ownBlock=some q) w w (λq=>v''.ownBlock=some q):=⟨rfl,rfl,rfl,Nat.le_refl _,λ_ _ _=>rfl,λq hq=>.inl (hv q hq)⟩
theorem round_c {bv b1:List UInt8} {X:Bool->St Un} {O:Bool->List UInt8} {C:Bool->Cl} {c1:Cl} {R:KV}
 (h:LAt B gd A w gl f vw vv k n c x ca cb) (hk:0<=k) (tw:Tl w B vw) (tv:Tb w B vv bv)
 (ho:CTell B gd A c c1 b1) (hb1:b1.length<=1000000)
 (n1:sendN ca b1=b1.length) (f1:CsFits (sendC ca b1)) (n2:sendN cb bv=bv.length) (f2:CsFits (sendC cb bv))
 (hoa:(outC (tickC (sendC ca b1))).1.length<=1) (hob:(outC (tickC (sendC cb bv))).1.length<=1)
 (hS:∀d,SIn B gd A (dl d (outC (tickC (sendC ca b1))).1 (outC (tickC (sendC cb bv))).2).inn x (X d) (O d)/\(O d).length<=1000000)
 (hC:∀d,CIn B gd A (dl d (outC (tickC (sendC cb bv))).1 (outC (tickC (sendC ca b1))).2).inn c1 (C d))
 (K:∀w' f' vw' vv' n' d1 d2,(k=0->d1=true/\d2=true)->LAt B gd A w' gl f' vw' vv' k n' (C d2) (X d1) {dl d2 (outC (tickC (sendC cb bv))).1 (outC (tickC (sendC ca b1))).2 with inn:=[]} {dl d1 (outC (tickC (sendC ca b1))).1 (outC (tickC (sendC cb bv))).2 with inn:=[]}->
  Tl w' B vw'->Tb w' B vv' (O d1)->Step (All (Fz gl f vw vv)) w w' (All (Fz gl f' vw' vv'))->R (.tuple #[]) w'):Zs 9 #[zA gl] w R:=by
 apply q58W
 refine nm λw0 e0=>?_
 have h0:=h.grow (drE e0)
 refine withAddr_some ⟨_,h0.b.cell 6,withAddr_some ⟨_,h0.b.cell 0,nm λw5 e5=>?_⟩⟩
 have g5:=drE e5
 have h5:=h.grow g5
 refine ho.go h5.p λv6 w7 Sc' s7 p7 r7=>?_
 obtain⟨f7,h7,a7⟩:=h5.cl s7 p7
 have tw7:=(tw.grow g5).stepS s7 (h5.fr.apart (i:=5) (j:=0) (by decide))
 have tv7:=(tv.grow g5).stepS s7 (h5.fr.apart (i:=6) (j:=0) (by decide))
 obtain⟨v9,w10,run9,r9,o9,s9,n9,l9,v9'',e9'',t9'',i9''⟩:=app_tl tw7 r7 h7.fr.hB hb1
 refine⟨⟨_,h7.b.cell 6,rfl⟩,v9,w10,run9,withAddr_some (oneK_of o9 ⟨st1_at (h7.b.stepS s9 (h7.fr.apart (i:=2) (j:=5) (by decide) _ rfl)) (by show 6 < 8;omega),nm λw12 e12=>nm λw13 e13=>nm λw14 e14=>?_⟩)⟩
 obtain⟨h13,a13,t13,nb13⟩:=h7.rw_ s9 l9 e13
 have h14:=h13.grow (drE e14)
 refine withAddr_some ⟨_,h14.b.cell 6,withAddr_some ⟨_,h14.b.cell 2,withAddr_some ⟨_,h14.b.cell 6,nm λw21 e21=>?_⟩⟩⟩
 have g21:=drE e21
 have h21:=h13.grow g21
 have r21:=Rd.grow (Rd.turn r9 t13 nb13) g21
 have t21:=(t9''.turn t13 (λe=>nb13 (i9'' _ e))).grow g21
 have tv13:=(tv7.stepS s9 (h7.fr.apart (i:=6) (j:=5) (by decide))).turn t13 (λe=>absurd (h13.fr.ap 6 2 gl e rfl) (by decide))
 refine Send_c h21.ea h21.fa r21 λvo23 w23 s23 c23=>?_
 obtain⟨f23,h23,a23,_⟩:=h21.sa s23 c23 f1
 have t23:=t21.stepS s23 (λq hq=>h21.fr.apart (i:=5) (j:=3) (by decide) q (i9'' q hq))
 refine⟨_,rfl,⟨_,h23.b.cell 6,rfl⟩,v9'',by rw[n1];exact e9'',withAddr_some (oneK_of t23.len.2.1 ⟨st1_at h23.b (by show 6 < 8;omega),nm λw28 e28=>nm λw29 e29=>nm λw30 e30=>?_⟩)⟩
 obtain⟨h29,a29,t29,nb29⟩:=h23.rw_ (cut_step i9'') (λq hq=>(t23.lt q hq).2) e29
 have tw29:=t23.turn t29 nb29
 have tv29:=((tv13.grow g21).stepS s23 (h21.fr.apart (i:=6) (j:=3) (by decide))).turn t29 (λe=>absurd (h29.fr.ap 6 2 gl e rfl) (by decide))
 have h30:=h29.grow (drE e30)
 refine withAddr_some ⟨_,h30.b.cell 7,withAddr_some ⟨_,h30.b.cell 3,withAddr_some ⟨_,h30.b.cell 7,nm λw37 e37=>?_⟩⟩⟩
 have g37:=drE e37
 have h37:=h29.grow g37
 obtain⟨rv,lv,vv'',ev,tlv,iv⟩:=tv29.grow g37
 refine Send_c h37.eb h37.fb rv λvo39 w39 s39 c39=>?_
 obtain⟨f39,h39,a39,_⟩:=h37.sb s39 c39 f2
 have tlv39:=tlv.stepS s39 (λq hq=>h37.fr.apart (i:=6) (j:=4) (by decide) q (iv q hq))
 have tw39:=(tw29.grow g37).stepS s39 (h37.fr.apart (i:=5) (j:=4) (by decide))
 refine⟨_,rfl,⟨_,h39.b.cell 7,rfl⟩,vv'',by rw[n2];exact ev,withAddr_some (oneK_of tlv39.len.2.1 ⟨st1_at h39.b (by show 7 < 8;omega),nm λw44 e44=>nm λw45 e45=>?_⟩)⟩
 obtain⟨h45,a45,t45,nb45⟩:=h39.rv (cut_step iv) (λq hq=>(tlv39.lt q hq).2) e45
 have tv45:=tlv39.turn t45 nb45
 have tw45:=tw39.turn t45 (λe=>absurd (h45.fr.ap 5 2 gl e rfl) (by decide))
 refine withAddr_some ⟨_,h45.b.cell 2,Tick_c h45.ea λw49 s49 c49=>⟨rfl,?_⟩⟩
 obtain⟨h49,a49⟩:=h45.sa0 s49 c49 (tickC_fits h45.fa)
 refine withAddr_some ⟨_,h49.b.cell 3,Tick_c h49.eb λw53 s53 c53=>⟨rfl,?_⟩⟩
 obtain⟨h53,a53⟩:=h49.sb0 s53 c53 (tickC_fits h49.fb)
 obtain⟨fa,pa⟩:=outC_keep h53.fa
 obtain⟨fb,pb⟩:=outC_keep h53.fb
 refine withAddr_some ⟨_,h53.b.cell 2,Out_c h53.ea h53.fa λv56 w57 s57 c57 x57=>?_⟩
 obtain⟨h57,a57⟩:=h53.sa0 s57 c57 fa
 refine withAddr_some ⟨_,h57.b.cell 3,Out_c h57.eb h57.fb λv60 w61 s61 c61 x61=>?_⟩
 obtain⟨i61,a61⟩:=h57.sb0 s61 c61 fb
 have z56:=(x57.imp (T:=All _) (λq ⟨i,hq⟩=>h53.fr.lt i q hq)).step a61
 have z60:=x61.imp (T:=All _) (λq ⟨i,hq⟩=>h57.fr.lt i q hq)
 have j61:=(((tw45.stepS s49 (h45.fr.apart (i:=5) (j:=3) (by decide))).stepS s53 (h49.fr.apart (i:=5) (j:=4) (by decide))).stepS s57 (h53.fr.apart (i:=5) (j:=3) (by decide))).stepS s61 (h57.fr.apart (i:=5) (j:=4) (by decide))
 have k61:=(((tv45.stepS s49 (h45.fr.apart (i:=6) (j:=3) (by decide))).stepS s53 (h49.fr.apart (i:=6) (j:=4) (by decide))).stepS s57 (h53.fr.apart (i:=6) (j:=3) (by decide))).stepS s61 (h57.fr.apart (i:=6) (j:=4) (by decide))
 have sA:Step (All (Fz gl f vw vv)) w w5 (All (Fz gl f vw vv)):=Step.of_grow g5
 have bA:Step (All (Fz gl f vw vv)) w w61 (All (Fz gl f39 v9'' vv'')):=((((((((((((sA.then a7).then a13).then (Step.of_grow g21)).then a23).then a29).then (Step.of_grow g37)).then a39).then a45).then a49).then a53).then a57)).then a61
 clear x57 x61 h57 h53 h49 h45 h39 h37 h30 h29 h23 h21 h14 h13 h7 h5 h0 tv45 tw45 tlv39 tw39 tv29 tw29 t23 tv13 t21 r21 tv7 tw7 a7 a13 a23 a29 a39 a45 a49 a53 a57 a61 fa fb rv lv ev tlv iv sA t45 nb45 t29 nb29 t13 nb13 t9''
 generalize outC (tickC (sendC ca b1))=oa at *
 generalize outC (tickC (sendC cb bv))=ob at *
 have la:(oa.1.map Pk.enc).length=oa.1.length:=List.length_map _
 have lb:(ob.1.map Pk.enc).length=ob.1.length:=List.length_map _
 refine⟨λ(i:Int) (ww:World)=>0<=i/\i<=oa.1.length/\∃f' n' d,(k=0->d=true)/\LAt B gd A ww gl f' v9'' vv'' k n' c1 x oa.2 (if i=0 then ob.2 else dl d oa.1 ob.2)/\Step (All (Fz gl f vw vv)) w ww (All (Fz gl f' v9'' vv''))/\RowsX (All (Fz gl f' v9'' vv'')) ww v56 (oa.1.map Pk.enc)/\RowsX (All (Fz gl f' v9'' vv'')) ww v60 (ob.1.map Pk.enc)/\Tl ww B v9''/\Tl ww B vv'',
  λ(i:Int) (_:World)=>((oa.1.length:Int) - i).toNat,⟨by omega,by omega,_,_,true,λ_=>rfl,i61,bA,z56,z60,j61,k61⟩,?_⟩
 dsimp only[allR,mapR2,eqN,ltN]
 rintro m i ww ⟨⟨i0,i1,f',n',d,hd,hl,bW,xW,yW,tw',tv'⟩,hm⟩
 refine⟨_,xW.len,cond_intro (λdd=>?_) (λdd=>?_)⟩
 ·simp only[decide_eq_true_eq,la]at dd
  have hi:i=0:=by omega
  subst hi
  have hl:LAt B gd A ww gl f' v9'' vv'' k n' c1 x oa.2 ob.2:=hl
  obtain⟨pk,hpk⟩:∃pk,oa.1=[pk]:=by
   match h1:oa.1 with
   |[]=>rw[h1]at dd;simp at dd
   |[pk]=>exact⟨pk,rfl⟩
   |_::_::_=>rw[h1]at hoa;simp at hoa
  have wi:IntKind.wrap .i64 ((0:Int)+1)=1:=by decide
  have n5:v9''.ownBlock≠some gl:=λe=>absurd (hl.fr.ap 5 2 gl e rfl) (by decide)
  have n6':vv''.ownBlock≠some gl:=λe=>absurd (hl.fr.ap 6 2 gl e rfl) (by decide)
  refine JoinP.unit (λw2=>∃f' n' d,(k=0->d=true)/\LAt B gd A w2 gl f' v9'' vv'' k n' c1 x oa.2 (dl d oa.1 ob.2)/\Step (All (Fz gl f vw vv)) w w2 (All (Fz gl f' v9'' vv''))/\RowsX (All (Fz gl f' v9'' vv'')) w2 v56 (oa.1.map Pk.enc)/\RowsX (All (Fz gl f' v9'' vv'')) w2 v60 (ob.1.map Pk.enc)/\Tl w2 B v9''/\Tl w2 B vv'') (λj hj=>?_) ?_
  ·refine lost_c hl hk λb w69 n69 hb h69 s69 tl69=>⟨b,rfl,cond_intro (λnb=>?_) (λnb=>?_)⟩
   ·refine nm λw71 e71=>?_
    have g71:=drE e71
    have h71:=h69.grow g71
    obtain⟨a,u,ha,hc,hu⟩:=((xW.step s69).grow g71).at (i:=0) (by omega) (by rw[la];exact dd)
    have hp:pk∈oa.1:=by rw[hpk];simp
    refine withAddr_some ⟨_,h71.b.cell 3,a,ha,u,hc,nm λw76 e76=>?_⟩
    have g76:=drE e76
    have h76:=h69.grow g76
    obtain rfl:w76=w71:=e76.trans e71.symm
    have hu:RdB w76 u pk.enc:=by
     have e2:oa.1[(0:Int).toNat]'(by rw[hpk];simp)=pk:=by simp [hpk]
     have:=hu.1
     rw[List.getElem_map,e2]at this
     exact this
    refine Con.In_c h76.eb h76.fb (pa _ hp) hu λvo vi w78 s78 c78=>⟨rfl,hj _ ?_⟩
    obtain⟨f78,h78,a78,_⟩:=h76.sb s78 c78 (inC_fits h76.fb (pa _ hp))
    have ed:dl true oa.1 ob.2=inC ob.2 pk:=by rw[hpk];rfl
    refine⟨f78,n69,true,λ_=>rfl,by rw[ed];exact h78,bW.then ((s69.then (Step.of_grow g76)).then a78),((xW.step s69).grow g76).step a78,((yW.step s69).grow g76).step a78,((tl69 _ tw' n5).grow g76).stepS s78 (h76.fr.apart (i:=5) (j:=4) (by decide)),((tl69 _ tv' n6').grow g76).stepS s78 (h76.fr.apart (i:=6) (j:=4) (by decide))⟩
   ·have nb:(!b)=false:=nb
    exact hj _ ⟨f',n69,false,(λe=>by rw[hb e]at nb;cases nb),h69,bW.then s69,xW.step s69,yW.step s69,tl69 _ tw' n5,tl69 _ tv' n6'⟩
  ·rintro w2 ⟨f2,n2,d2,q1,q2,q4,q5,q6,q7,q8⟩
   rw[wi]
   exact⟨⟨by omega,by rw[hpk];simp,f2,n2,d2,q1,by rw[if_neg (by decide)];exact q2,q4,q5,q6,q7,q8⟩,by omega⟩
 simp only[decide_eq_false_iff_not,la]at dd
 obtain⟨d1,hd1,hl1⟩:∃d1,(k=0->d1=true)/\LAt B gd A ww gl f' v9'' vv'' k n' c1 x oa.2 (dl d1 oa.1 ob.2):=by
  by_cases hi:i=0
  ·rw[if_pos hi]at hl
   have e:oa.1=[]:=List.eq_nil_of_length_eq_zero (by omega)
   exact⟨true,λ_=>rfl,by rw[e];exact hl⟩
  ·rw[if_neg hi]at hl
   exact⟨d,hd,hl⟩
 clear hl hd i61 bA z56 z60 j61 k61 xW
 refine⟨λ(i:Int) (ww:World)=>0<=i/\i<=ob.1.length/\∃f' n' d,(k=0->d=true)/\LAt B gd A ww gl f' v9'' vv'' k n' c1 x (if i=0 then oa.2 else dl d ob.1 oa.2) (dl d1 oa.1 ob.2)/\Step (All (Fz gl f vw vv)) w ww (All (Fz gl f' v9'' vv''))/\RowsX (All (Fz gl f' v9'' vv'')) ww v60 (ob.1.map Pk.enc)/\Tl ww B v9''/\Tl ww B vv'',
  λ(i:Int) (_:World)=>((ob.1.length:Int) - i).toNat,⟨by omega,by omega,_,_,true,λ_=>rfl,hl1,bW,yW,tw',tv'⟩,?_⟩
 dsimp only[allR,mapR2,eqN,ltN]
 clear dd hm i0 i1
 rintro m2 i2 w2 ⟨⟨i0,i1,f2,n2,d,hd,hl,bX,yX,tx',ty'⟩,hm⟩
 refine⟨_,yX.len,cond_intro (λdd=>?_) (λdd=>?_)⟩
 ·simp only[decide_eq_true_eq,lb]at dd
  have hi:i2=0:=by omega
  subst hi
  have hl:LAt B gd A w2 gl f2 v9'' vv'' k n2 c1 x oa.2 (dl d1 oa.1 ob.2):=hl
  obtain⟨pk,hpk⟩:∃pk,ob.1=[pk]:=by
   match h1:ob.1 with
   |[]=>rw[h1]at dd;simp at dd
   |[pk]=>exact⟨pk,rfl⟩
   |_::_::_=>rw[h1]at hob;simp at hob
  have wi:IntKind.wrap .i64 ((0:Int)+1)=1:=by decide
  have n5:v9''.ownBlock≠some gl:=λe=>absurd (hl.fr.ap 5 2 gl e rfl) (by decide)
  have n6':vv''.ownBlock≠some gl:=λe=>absurd (hl.fr.ap 6 2 gl e rfl) (by decide)
  refine JoinP.unit (λw3=>∃f' n' d,(k=0->d=true)/\LAt B gd A w3 gl f' v9'' vv'' k n' c1 x (dl d ob.1 oa.2) (dl d1 oa.1 ob.2)/\Step (All (Fz gl f vw vv)) w w3 (All (Fz gl f' v9'' vv''))/\RowsX (All (Fz gl f' v9'' vv'')) w3 v60 (ob.1.map Pk.enc)/\Tl w3 B v9''/\Tl w3 B vv'') (λj hj=>?_) ?_
  ·refine lost_c hl hk λb w69 n69 hb h69 s69 tl69=>⟨b,rfl,cond_intro (λnb=>?_) (λnb=>?_)⟩
   ·refine nm λw71 e71=>?_
    have g71:=drE e71
    have h71:=h69.grow g71
    obtain⟨a,u,ha,hc,hu⟩:=((yX.step s69).grow g71).at (i:=0) (by omega) (by rw[lb];exact dd)
    have hp:pk∈ob.1:=by rw[hpk];simp
    refine withAddr_some ⟨_,h71.b.cell 2,a,ha,u,hc,nm λw76 e76=>?_⟩
    have g76:=drE e76
    have h76:=h69.grow g76
    obtain rfl:w76=w71:=e76.trans e71.symm
    have hu:RdB w76 u pk.enc:=by
     have e2:ob.1[(0:Int).toNat]'(by rw[hpk];simp)=pk:=by simp [hpk]
     have:=hu.1
     rw[List.getElem_map,e2]at this
     exact this
    refine Con.In_c h76.ea h76.fa (pb _ hp) hu λvo vi w78 s78 c78=>⟨rfl,hj _ ?_⟩
    obtain⟨f78,h78,a78,_⟩:=h76.sa s78 c78 (inC_fits h76.fa (pb _ hp))
    have ed:dl true ob.1 oa.2=inC oa.2 pk:=by rw[hpk];rfl
    refine⟨f78,n69,true,λ_=>rfl,by rw[ed];exact h78,bX.then ((s69.then (Step.of_grow g76)).then a78),((yX.step s69).grow g76).step a78,((tl69 _ tx' n5).grow g76).stepS s78 (h76.fr.apart (i:=5) (j:=3) (by decide)),((tl69 _ ty' n6').grow g76).stepS s78 (h76.fr.apart (i:=6) (j:=3) (by decide))⟩
   ·have nb:(!b)=false:=nb
    exact hj _ ⟨f2,n69,false,(λe=>by rw[hb e]at nb;cases nb),h69,bX.then s69,yX.step s69,tl69 _ tx' n5,tl69 _ ty' n6'⟩
  ·rintro w3 ⟨f3,n3,d3,q1,q2,q4,q5,q7,q8⟩
   rw[wi]
   exact⟨⟨by omega,by rw[hpk];simp,f3,n3,d3,q1,by rw[if_neg (by decide)];exact q2,q4,q5,q7,q8⟩,by omega⟩
 simp only[decide_eq_false_iff_not,lb]at dd
 obtain⟨d2,hd2,hl2⟩:∃d2,(k=0->d2=true)/\LAt B gd A w2 gl f2 v9'' vv'' k n2 c1 x (dl d2 ob.1 oa.2) (dl d1 oa.1 ob.2):=by
  by_cases hi:i2=0
  ·rw[if_pos hi]at hl
   have e:ob.1=[]:=List.eq_nil_of_length_eq_zero (by omega)
   exact⟨true,λ_=>rfl,by rw[e];exact hl⟩
  ·rw[if_neg hi]at hl
   exact⟨d,hd,hl⟩
 clear hl hl1 hd bW yW tw' tv' yX
 refine nm λw96 e96=>?_
 have h96:=hl2.grow (drE e96)
 refine withAddr_some ⟨_,h96.b.cell 7,withAddr_some ⟨_,h96.b.cell 1,withAddr_some ⟨_,h96.b.cell 3,nm λw103 e103=>?_⟩⟩⟩
 have g103:=drE e103
 have h103:=hl2.grow g103
 refine Recv_c h103.eb λv104 w105 s105 c105 r105 i105=>?_
 have fb:=h103.fb
 obtain⟨f105,h105,a105,_,es,_,eg⟩:=h103.sb s105 c105 ⟨fb.own,fb.peer,fb.base,fb.got,fb.s0,fb.s1,fb.out,by simp⟩
 have tx105:=(tx'.grow g103).stepS s105 (h103.fr.apart (i:=5) (j:=4) (by decide))
 have ty105:=(ty'.grow g103).stepS s105 (h103.fr.apart (i:=6) (j:=4) (by decide))
 have p105:=h105.p
 rw[eg]at p105
 refine⟨⟨_,h105.b.cell 7,rfl⟩,⟨_,h105.b.cell 1,by rw[eg]⟩,(hS d1).1.go p105 r105.1 (λ_ q hq hs=>absurd (h103.fr.ap 1 4 q (by show f2.Ss q;rw[←es];exact hs) (.inr (.inr (i105 q hq)))) (by decide)) λv108 w109 Ss' s109 p109 r109=>?_⟩
 rw[←eg]at p109
 obtain⟨f109,h109,a109⟩:=h105.se s109 p109
 have tx109:=tx105.stepS s109 (h105.fr.apart (i:=5) (j:=1) (by decide))
 have ty109:=ty105.stepS s109 (h105.fr.apart (i:=6) (j:=1) (by decide))
 obtain⟨v111,w112,run,r111,o111,s111,n111,l111,v'',e'',t'',i''⟩:=app_tl ty109 r109 h109.fr.hB (hS d1).2
 refine⟨⟨_,h109.b.cell 7,rfl⟩,v111,w112,run,withAddr_some (oneK_of o111 ⟨st1_at (h109.b.stepS s111 (h109.fr.apart (i:=2) (j:=6) (by decide) _ rfl)) (by show 7 < 8;omega),nm λw114 e114=>nm λw115 e115=>nm λw116 e116=>?_⟩)⟩
 obtain⟨h115,a115,t115,nb115⟩:=h109.rv s111 l111 e115
 have tb115:Tb w115 B v111 (O d1):=⟨Rd.turn r111 t115 nb115,λq hq=>by rw[t115.size];exact l111 q hq,v'',e'',t''.turn t115 (λe=>nb115 (i'' _ e)),i''⟩
 have tx115:=(tx109.stepS s111 (h109.fr.apart (i:=5) (j:=6) (by decide))).turn t115 (λe=>absurd (h115.fr.ap 5 2 gl e rfl) (by decide))
 have h116:=h115.grow (drE e116)
 refine withAddr_some ⟨_,h116.b.cell 0,withAddr_some ⟨_,h116.b.cell 2,nm λw121 e121=>?_⟩⟩
 have g121:=drE e121
 have h121:=h115.grow g121
 refine Recv_c h121.ea λv122 w123 s123 c123 r123 i123=>?_
 have fa:=h121.fa
 obtain⟨f123,h123,a123,_,_,eg1,_⟩:=h121.sa s123 c123 ⟨fa.own,fa.peer,fa.base,fa.got,fa.s0,fa.s1,fa.out,by simp⟩
 have tx123:=(tx115.grow g121).stepS s123 (h121.fr.apart (i:=5) (j:=3) (by decide))
 have tb123:=(tb115.grow g121).stepS s123 (h121.fr.apart (i:=6) (j:=3) (by decide))
 have p123:=h123.p
 rw[eg1]at p123
 refine⟨⟨_,h123.b.cell 0,by rw[eg1]⟩,(hC d2).go p123 r123.1 λw126 Sc2 s126 p126=>⟨rfl,?_⟩⟩
 rw[←eg1]at p126
 obtain⟨f126,h126,a126⟩:=h123.cl s126 p126
 have bZ:=(((((((Step.of_grow (S :=All (Fz gl f2 v9'' vv'')) g103).then a105).then a109).then a115).then (Step.of_grow g121)).then a123)).then a126
 exact K _ _ _ _ _ d1 d2 (λe=>⟨hd1 e,hd2 e⟩) h126 (tx123.stepS s126 (h123.fr.apart (i:=5) (j:=0) (by decide))) (tb123.stepS s126 (h123.fr.apart (i:=6) (j:=0) (by decide))) (bX.then bZ)
end Go.Proofs.YtdpmhkbhlbfbeaaGreatDoor.Los
end
section
namespace Go.Proofs.YtdpmhkbhlbfbeaaGreatDoor.Los
open CW RowKit Con Pdu
open Ses (St Prm wireP wireP_ok newS)
open Cli (Cl Ak Pq encs askB)
open Lgn (LgP askL)
open Pip (cA cL pCmd pLog qLog lgS lgC way_login)
def pL:Prm:=⟨[105,113,110,46,97],512,1000,true,true⟩
def AL:List (List UInt8):=[[105,113,110,46,97],[105,113,110,46,98,99],[105,113,110,46,100,101,102]]
theorem lgpL:LgP pL AL:=
 ⟨(by decide+kernel:Txt.nameT [105,113,110,46,97]=true),List.mem_cons_self ..,(by decide:([105,113,110,46,97]:List UInt8)≠[]),(by decide:([105,113,110,46,97]:List UInt8).length<=255),(by decide:(0:UInt8)∉([105,113,110,46,97]:List UInt8)),(by decide:512<=512/\512<=16777215),(by decide:512<=1000/\1000<=16777215),rfl⟩
theorem nmL:NmOk pL.nm:=⟨by decide,by decide⟩
theorem cmds_len:∀(l:List Ask) (e tag:Int),l.length<=(encs (cmdsP e tag l)).length/\(encs (cmdsP e tag l)).length<=90*l.length
 |[],e,tag=>⟨Nat.le_refl _,Nat.le_refl _⟩
 |x::l,e,tag=>by
  obtain⟨cmR,W⟩:=plain_wr x
  have h1:=W.hds
  obtain⟨i1,i2⟩:=cmds_len l (e+1) (tag+1)
  show(x::l).length<=(encs ((pCmd e tag (cbX x),dsX x)::cmdsP (e+1) (tag+1) l)).length/\(encs ((pCmd e tag (cbX x),dsX x)::cmdsP (e+1) (tag+1) l)).length<=_
  rw[encs_cons,List.length_append,encP_length]
  simp only[List.length_cons]
  split<;>omega
theorem outs_len:∀(l:List Ask) (e n tag:Int) (u:Un),tyOk u->0<=e/\e+l.length < 90000->0<=n/\n+l.length < 90000->0<=tag/\tag+l.length < 90000->
 l.length<=(encs (outsP pL.nm e n tag u l)).length/\(encs (outsP pL.nm e n tag u l)).length<=124*l.length
 |[],e,n,tag,u,_,_,_,_=>⟨Nat.le_refl _,Nat.le_refl _⟩
 |x::l,e,n,tag,u,hu,he,hn,ht=>by
  have hL:(((x::l).length:Nat):Int)=(l.length:Int)+1:=by simp
  rw[hL]at he hn ht
  obtain⟨i1,i2⟩:=outs_len l (e+1) (n+1) (tag+1) (un pL.nm u x) (un_ty nmL hu x) (by omega) (by omega) (by omega)
  obtain⟨r,hr,sh⟩:=rp_sh pL.nm hu x
  have h2:=(outsE_ok (e:=e+1) (n:=n) (tag:=tag) sh (by omega) (by omega) (by omega)).2
  have h3:1<=(encs (outsE (e+1) n tag (ofR r))).length:=by
   unfold outsE
   rw[encs_app,List.length_append]
   have:(encs [qRsp (e+1) n tag (ofR r)]).length=(encP (qRsp (e+1) n tag (ofR r)).1 (qRsp (e+1) n tag (ofR r)).2).length:=by simp [encs]
   rw[this,encP_length]
   split<;>omega
  show _<=(encs (outsE (e+1) n tag (rp pL.nm u x)++outsP pL.nm (e+1) (n+1) (tag+1) (un pL.nm u x) l)).length/\(encs (outsE (e+1) n tag (rp pL.nm u x)++outsP pL.nm (e+1) (n+1) (tag+1) (un pL.nm u x) l)).length<=_
  rw[hr,encs_app,List.length_append]
  simp only[List.length_cons]
  omega
theorem one_len (p:Pd) (ds:List UInt8) (h:ds.length<=800):0 < (encP p ds).length/\(encP p ds).length<=900:=by
 rw[encP_length];split<;>omega
theorem askLen:(askB pL).length<=300:=by decide+kernel
theorem ansLen:(Txt.encB (Lgn.ansL pL)).length<=300:=by decide+kernel
structure Bt where
 e:Int
 n:Int
 tag:Int
 m:Int
 u:Un
 l:List Ask
 lg:Bool
 L:List UInt8
 R0:List UInt8
 hl:l.length<=8
 he:2<=e/\e<=20
 hn:2<=n/\n<=20
 ht:1<=tag/\tag<=20
 hm:e+l.length<=m+1/\m<=e+15
 hu:tyOk u
 hL:0 < L.length/\L.length<=900
 h0:0 < R0.length/\R0.length<=900
 hlg:lg=true->L=encP pLog (askB pL)/\R0=encs [qLog pL]/\e=2/\n=2/\m=17
variable (b:Bt)
def YB:By where
 L:=b.L
 C:=encs (cmdsP b.e b.tag b.l)
 R0:=b.R0
 Rs:=encs (outsP pL.nm b.e b.n b.tag b.u b.l)
 hL:=b.hL
 hC:=by have:=(cmds_len b.l b.e b.tag).2;have:=b.hl;omega
 h0:=b.h0
 hs:=by
  have h1:=b.hl;have h2:=b.he;have h3:=b.hn;have h4:=b.ht
  have:=(outs_len b.l b.e b.n b.tag b.u b.hu (by omega) (by omega) (by omega)).2;omega
 hcs:=λhne=>by
  have h1:b.l≠[]:=λe=>hne (by rw[e];rfl)
  have h5:=b.hl;have h6:=b.he;have h7:=b.hn;have h8:=b.ht
  have h2:=(outs_len b.l b.e b.n b.tag b.u b.hu (by omega) (by omega) (by omega)).1
  have h3:=List.length_pos_iff.2 h1
  exact List.length_pos_iff.1 (by omega)
def Bt.tg:Int:=b.tag - 1+b.l.length
def sX (t:Nat):St Un:=if t=0 then newS b.u else if t=1 then sB pL b.e b.n b.u [] [] else sB pL (b.e+b.l.length) (b.n+b.l.length) (unitP pL.nm b.u b.l) [] []
def cX (q c:Nat) (cl:Cl):Prop:=
 (c=0/\b.lg=true/\cl={cL pL b.tg (asksL false b.tag b.l)with asked:=false})\/(c=1/\b.lg=true/\cl=cL pL b.tg (asksL false b.tag b.l))\/(c=2/\cl=cA pL b.e b.m b.tg (asksL false b.tag b.l) [] [])\/(c=3/\cl=cA pL (b.e+b.l.length) b.m b.tg (asksL true b.tag b.l) [] [])\/
 (c=4/\∃m' d,cl=cA pL (b.e+b.l.length) m' b.tg [] [] d/\((b.l=[]->m'=b.m)/\(b.l≠[]->m'=b.e+b.l.length+15))/\d.length+q=b.l.length/\(q=0->Okd pL.nm b.tag b.u b.l d))
variable {B gd:Nat} {b:Bt}
theorem s_none (t:Nat):SIn B gd AL [] (sX b t) (sX b t) []:=by
 constructor
 intro w gc gs Sc Ss c src R h hr hro k
 have hc:(sX b t).s.cl=false/\(sX b t).s.re=0/\(sX b t).s.rd=[]/\(sX b t).o=[]:=by
  unfold sX;split
  ·exact⟨rfl,rfl,rfl,rfl⟩
  ·split<;>exact⟨rfl,rfl,rfl,rfl⟩
 obtain⟨h1,h2,h3,h4⟩:=hc
 have e:({sX b t with s:={(sX b t).s with rd:=(sX b t).s.rd++[]},o:=[]}:St Un)=sX b t:=by
  rw[List.append_nil,←h4]
 refine Pip.sPart_c wireP_ok h hr hro (by rw[h3];simp) h1 h2 (by rw[h3];exact short_nil) λv w' Ss' st h' r'=>k v w' Ss' st ?_ r'
 have:=h'
 rw[e]at this;exact this
theorem s_login (hlg:b.lg=true):SIn B gd AL b.L (sX b 0) (sX b 1) b.R0:=by
 obtain⟨e1,e2,e3,e4,_⟩:=b.hlg hlg
 have ex:sX b 1=sB pL 2 2 b.u [] []:=by
  show sB pL b.e b.n b.u [] []=_
  rw[e3,e4]
 rw[e1,e2,ex]
 constructor
 intro w gc gs Sc Ss c src R h hr hro k
 have W:=way_login (K:=deskK gd) (A:=AL) (u:=b.u) lgpL (t:=0) (L:=[])
 have hlen:=(one_len pLog (askB pL) (Nat.le_trans askLen (by decide))).2
 refine Pip.sLast_c wireP_ok (lg:=lgS AL pL) (p:=pLog) (ds:=askB pL) h hr hro (by show 0+_<=_;omega) rfl rfl W.pf W.pk W.pn rfl W.tk W.lo (y:={Pip.sA pL 2 2 b.u with o:=encs [qLog pL]}) W.hy W.yrd W.yre (by show(encs [qLog pL]).length<=_;have:=W.out;omega) λv w' Ss' st h' r'=>k v w' Ss' st h' r'
theorem s_cmds:SIn B gd AL (encs (cmdsP b.e b.tag b.l)) (sX b 1) (sX b 2) (encs (outsP pL.nm b.e b.n b.tag b.u b.l)):=by
 constructor
 intro w gc gs Sc Ss c src R h hr hro k
 have h5:=b.hl;have h6:=b.he;have h7:=b.hn;have h8:=b.ht
 have hlen:=cmds_len b.l b.e b.tag
 obtain⟨b1,b2⟩:=batch_s (gd:=gd) (A:=AL) (p:=pL) lgpL rfl nmL (Q:=Txt.Env) b.l b.e b.n b.tag b.u [] (0+(encs (cmdsP b.e b.tag b.l)).length+1) (by omega) (by omega) (by omega) b.hu (by simp;omega)
 have e:Ses.inp wireP (deskK gd).step (lgS AL pL) (sX b 1) (encs (cmdsP b.e b.tag b.l))=sB pL (b.e+b.l.length) (b.n+b.l.length) (unitP pL.nm b.u b.l) [] (encs (outsP pL.nm b.e b.n b.tag b.u b.l)):=by
  refine Eq.trans ?_ (b2 (by omega))
  rfl
 refine Ses.In_c wireP_ok (Q:=Txt.Env) (lg:=lgS AL pL) h.s hr (λw' S' st=>h.envS st h.ls w' (Below.refl B w')) hro (by show 0+_<=_;omega) (λ_=>rfl) (λ_=>b1) λv w' S' st h' r' _=>k v w' S' st (h.se st ?_) ?_
 ·rw[e]at h';exact h'
 ·rw[e]at r';exact r'
end Go.Proofs.YtdpmhkbhlbfbeaaGreatDoor.Los
end
section
namespace Go.Proofs.YtdpmhkbhlbfbeaaGreatDoor.Los
open CW RowKit Con Pdu
open Ses (St Prm wireP wireP_ok newS decS_ok)
open Cli (Cl Ak Pq encs askB)
open Lgn (LgP askL)
open Pip (cA cL pCmd pLog qLog lgS lgC way_login)
variable {B gd:Nat} {b:Bt} {c q:Nat} {cl:Cl}
theorem cX.plain (h:cX b q c cl):cl.cl=false/\cl.re=0/\cl.rd=[]/\cl.say=[]:=by
 rcases h with ⟨_,_,rfl⟩|⟨_,_,rfl⟩|⟨_,rfl⟩|⟨_,rfl⟩|⟨_,m',d,rfl,_⟩<;>exact⟨rfl,rfl,rfl,rfl⟩
theorem c_none (h:cX b q c cl):CIn B gd AL [] cl cl:=by
 obtain⟨h1,h2,h3,h4⟩:=h.plain
 constructor
 intro w gc gs Sc Ss x src R hp hr k
 refine Pip.cAll_c decS_ok hp (qs:=[]) (lgc:=lgC pL) hr (Nat.zero_le _) h3 h1 ⟨h1,h2⟩ λw' Sc' st h'=>k w' Sc' st ?_
 have e:({Cli.runC Sen.decS (lgC pL) [] cl with rd:=[]}:Cl)=cl:=by
  show({cl with rd:=[]}:Cl)=cl
  rw[←h3]
 rw[e]at h';exact h'
theorem c_login (hlg:b.lg=true):CIn B gd AL b.R0 (cL pL b.tg (asksL false b.tag b.l)) (cA pL b.e b.m b.tg (asksL false b.tag b.l) [] []):=by
 obtain⟨e1,e2,e3,e4,e5⟩:=b.hlg hlg
 rw[e2,e3,e5]
 constructor
 intro w gc gs Sc Ss x src R hp hr k
 have W:=way_login (K:=deskK gd) (A:=AL) (u:=u0 32) lgpL (t:=b.tg) (L:=asksL false b.tag b.l)
 refine Pip.cAll_c decS_ok hp (lgc:=lgC pL) hr W.out rfl rfl W.run λw' Sc' st h'=>k w' Sc' st ?_
 rw[←W.hc']at h';exact h'
theorem c_cmds:∃m' d,((b.l=[]->m'=b.m)/\(b.l≠[]->m'=b.e+b.l.length+15))/\Okd pL.nm b.tag b.u b.l d/\CIn B gd AL (encs (outsP pL.nm b.e b.n b.tag b.u b.l)) (cA pL (b.e+b.l.length) b.m b.tg (asksL true b.tag b.l) [] []) (cA pL (b.e+b.l.length) m' b.tg [] [] d):=by
 have h5:=b.hl;have h6:=b.he;have h7:=b.hn;have h8:=b.ht;have h9:=b.hm
 obtain⟨D,m',h1,h2,h3,h4⟩:=hear_all (A:=AL) (p:=pL) lgpL (Q:=Txt.Env) (E:=b.e+b.l.length) (t:=b.tg) (by omega) nmL b.l b.e b.n b.tag b.m b.u [] (by omega) (by omega) (by omega) (by omega) (by omega) (by simp;omega) b.hu
 refine⟨m',D,h2,h1,?_⟩
 constructor
 intro w gc gs Sc Ss x src R hp hr k
 have hlen:=(outs_len b.l b.e b.n b.tag b.u b.hu (by omega) (by omega) (by omega)).2
 refine Pip.cAll_c decS_ok hp (lgc:=lgC pL) hr (by omega) rfl rfl h3 λw' Sc' st h'=>k w' Sc' st ?_
 rw[h4]at h'
 exact h'
theorem c_tell (h:cX b q c cl):∃c1,cX b q (up c) c1/\CTell B gd AL cl c1 ((sa (YB b) (up c)).drop (sa (YB b) c).length):=by
 have tell:∀{cl c1:Cl} {bs:List UInt8},Cli.outC askB cl=(c1,bs)->cl.say.length<=1000000->(cl.cl=false->cl.op=true->Cli.COk cl)->(cl.cl=false->cl.asked=false->Cli.AskOk Txt.Env askB cl.p/\(askB cl.p).length<=4096)->CTell B gd AL cl c1 bs:=by
  intro cl c1 bs e hsay hok hlt
  constructor
  intro w gc gs Sc Ss x R hp k
  refine Pip.cOut_c hp (lt:=askB) hok hsay hlt λv w' Sc' st h' r' _=>k v w' Sc' st ?_ ?_
  ·rw[e]at h';exact h'
  ·rw[e]at r';exact r'
 have okA:=λ{m t:Int} {L:List Ak} {D:List (Int×Ses.Rp)} (hm:0<=m/\m < 1000000) (hL:∀a∈L,Cli.AkOk a) (h1:L.length<=1000) (h2:D.length<=1000000) {E:Int} (hE:0<=E/\E < 1000000)=>cokA (A:=AL) (p:=pL) lgpL (E:=E) (m:=m) (t:=t) (L:=L) (D:=D) hE hm hL h1 h2
 have h5:=b.hl;have h6:=b.he;have h7:=b.hn;have h8:=b.ht;have h9:=b.hm
 rcases h with ⟨rfl,hlg,rfl⟩|⟨rfl,hlg,rfl⟩|⟨rfl,rfl⟩|⟨rfl,rfl⟩|⟨rfl,m',d,rfl,h2,h3,h4⟩
 ·refine⟨_,.inr (.inl ⟨rfl,hlg,rfl⟩),?_⟩
  have e:(sa (YB b) (up 0)).drop (sa (YB b) 0).length=encP pLog (askB pL):=by rw[←(b.hlg hlg).1];simp [sa,up];rfl
  rw[e]
  have e1:Cli.outC askB ({cL pL b.tg (asksL false b.tag b.l)with asked:=false}:Cl)=(cL pL b.tg (asksL false b.tag b.l),encP pLog (askB pL)):=by
   rw[Cli.out_login (c:={cL pL b.tg (asksL false b.tag b.l)with asked:=false}) rfl rfl rfl (Lgn.ask_right lgpL).2.1.tot];rfl
  refine @tell _ _ _ e1 (by show([]:List UInt8).length<=_;simp) (λ_ hop=>by cases hop) λ_ _=>⟨?_,?_⟩
  ·exact Cli.AskOk_c (by decide) (by decide) (Lgn.ask_right lgpL).2.1 (Lgn.ask_right lgpL).2.2.1
  ·exact(Lgn.ask_right lgpL).2.1.tot
 ·refine⟨_,.inr (.inl ⟨rfl,hlg,rfl⟩),?_⟩
  have e:(sa (YB b) (up 1)).drop (sa (YB b) 1).length=[]:=by simp [sa,up]
  rw[e]
  have e1:Cli.outC askB (cL pL b.tg (asksL false b.tag b.l))=(cL pL b.tg (asksL false b.tag b.l),[]):=rfl
  exact @tell _ _ _ e1 (by show([]:List UInt8).length<=_;simp) (λ_ hop=>by cases hop) λ_ ha=>by cases ha
 ·refine⟨_,.inr (.inr (.inr (.inl ⟨rfl,rfl⟩))),?_⟩
  have e:(sa (YB b) (up 2)).drop (sa (YB b) 2).length=encs (cmdsP b.e b.tag b.l):=by simp [sa,up];rfl
  rw[e]
  have e1:=out_all (A:=AL) (p:=pL) (l:=b.l) (E:=b.e) (tag0:=b.tag) (m:=b.m) (t:=b.tg) (D:=[]) (lt:=askB) lgpL rfl (by omega) (by omega) (by omega)
  exact @tell _ _ _ e1 (by show([]:List UInt8).length<=_;simp) (λ_ _=>okA (by omega) (asksL_ok false b.l b.tag (by omega)) (by rw[asksL_len];omega) (by simp) (by omega)) λ_ ha=>by cases ha
 ·refine⟨_,.inr (.inr (.inr (.inl ⟨rfl,rfl⟩))),?_⟩
  have e:(sa (YB b) (up 3)).drop (sa (YB b) 3).length=[]:=by simp [sa,up]
  rw[e]
  have e1:=out_none (lt:=askB) (p:=pL) (E:=b.e+b.l.length) (m:=b.m) (t:=b.tg) (D:=[]) (asksL_sent b.l b.tag)
  exact @tell _ _ _ e1 (by show([]:List UInt8).length<=_;simp) (λ_ _=>okA (by omega) (asksL_ok true b.l b.tag (by omega)) (by rw[asksL_len];omega) (by simp) (by omega)) λ_ ha=>by cases ha
 ·have hm2:0<=m'/\m' < 1000000:=by
   by_cases h0:b.l=[]
   ·rw[h2.1 h0];omega
   ·rw[h2.2 h0];omega
  refine⟨_,.inr (.inr (.inr (.inr ⟨rfl,m',d,rfl,h2,h3,h4⟩))),?_⟩
  have e:(sa (YB b) (up 4)).drop (sa (YB b) 4).length=[]:=by simp [sa,up]
  rw[e]
  have e1:=out_none (lt:=askB) (p:=pL) (E:=b.e+b.l.length) (m:=m') (t:=b.tg) (L:=[]) (D:=d) (λa ha=>by cases ha)
  exact @tell _ _ _ e1 (by show([]:List UInt8).length<=_;simp) (λ_ _=>okA hm2 (λa ha=>by cases ha) (by simp) (by omega) (by omega)) λ_ ha=>by cases ha
end Go.Proofs.YtdpmhkbhlbfbeaaGreatDoor.Los
end
section
namespace Go.Proofs.YtdpmhkbhlbfbeaaGreatDoor.Los
open CW RowKit Con Pdu
open Ses (St)
open Cli (Cl encs askB)
open Pip (pLog qLog)
section
variable {Y:By} {c t s:Nat} {ka kb mb:Bool} {ba bb:Nat}
theorem to_le (h:s<=t) (h2:t<=2):∃d,tz Y t=tz Y s++d:=by
 have:(s=0/\t=0)\/(s=0/\t=1)\/(s=0/\t=2)\/(s=1/\t=1)\/(s=1/\t=2)\/(s=2/\t=2):=by omega
 rcases this with ⟨rfl,rfl⟩|⟨rfl,rfl⟩|⟨rfl,rfl⟩|⟨rfl,rfl⟩|⟨rfl,rfl⟩|⟨rfl,rfl⟩
 ·exact⟨[],rfl⟩
 ·exact⟨Y.R0,rfl⟩
 ·exact⟨Y.R0++Y.Rs,rfl⟩
 ·exact⟨[],by simp [tz]⟩
 ·exact⟨Y.Rs,by simp [tz]⟩
 ·exact⟨[],by simp [tz]⟩
theorem Sg.le (h:Sg Y c t s ka kb mb ba bb):gbN Y t<=(sa Y c).length/\gaN Y c<=(tz Y s).length:=by
 have a1:=Y.hL;have a3:=Y.h0
 have g1:=h.c4;have g2:=h.t2;have g3:=h.st;have g4:=h.tc;have g5:=h.cs;have g6:=h.tc3;have g7:=h.c42
 obtain⟨s1,s3,s4⟩:=sa_len (Y:=Y)
 obtain⟨t0,t1,t2⟩:=to_len (Y:=Y)
 obtain⟨b0,b1,b2⟩:=gb_vals (Y:=Y)
 obtain⟨c0,c1,c2,c3,c4⟩:=ga_vals (Y:=Y)
 have s2:(sa Y 2).length=Y.L.length:=rfl
 have ht:t=0\/t=1\/t=2:=by omega
 have hs:s=0\/s=1\/s=2:=by omega
 have hc:c=0\/c=1\/c=2\/c=3\/c=4:=by omega
 constructor
 ·rcases ht with rfl|rfl|rfl
  ·omega
  ·rcases hc with rfl|rfl|rfl|rfl|rfl<;>omega
  ·rcases hc with rfl|rfl|rfl|rfl|rfl<;>omega
 ·rcases hc with rfl|rfl|rfl|rfl|rfl
  ·omega
  ·omega
  ·rcases hs with rfl|rfl|rfl<;>omega
  ·rcases hs with rfl|rfl|rfl<;>omega
  ·rcases hs with rfl|rfl|rfl<;>omega
theorem Sg.sa_eq (h:Sg Y c t s ka kb mb ba bb) {c':Nat} (hc:c'=up c\/c'=dnC c t):sa Y c'=sa Y (up c):=by
 rcases hc with rfl|rfl
 ·rfl
 ·have g2:=h.t2;have g6:=h.tc3
  have ht:t=0\/t=1\/t=2:=by omega
  rcases up_cases h.c4 with ⟨e,u⟩|⟨e,u⟩|⟨e,u⟩|⟨e,u⟩|⟨e,u⟩<;>unfold dnC<;>rw[u]<;>rcases ht with rfl|rfl|rfl<;>first|rfl|(exfalso;omega)|simp [sa]
end
variable {B gd:Nat} {b:Bt} {c t s q:Nat} {ka kb mb:Bool} {ba bb:Nat} {w w':World} {gl:Nat} {k:Int}
theorem s_piece (h:Sg (YB b) c t s ka kb mb ba bb) {c1:Cl} (h1:cX b q (up c) c1) {t':Nat} (ht:t'=t\/t'=dnT c t):
 SIn B gd AL (((sa (YB b) (up c)).take (gbN (YB b) t')).drop (gbN (YB b) t)) (sX b t) (sX b t') ((tz (YB b) t').drop (tz (YB b) t).length):=by
 have none:∀t,SIn B gd AL (((sa (YB b) (up c)).take (gbN (YB b) t)).drop (gbN (YB b) t)) (sX b t) (sX b t) ((tz (YB b) t).drop (tz (YB b) t).length):=by
  intro t
  have e1:((sa (YB b) (up c)).take (gbN (YB b) t)).drop (gbN (YB b) t)=[]:=List.drop_eq_nil_of_le (by simp;omega)
  have e2:(tz (YB b) t).drop (tz (YB b) t).length=[]:=List.drop_length
  rw[e1,e2];exact s_none t
 have g2:=h.t2;have g4:=h.tc;have g3:=h.st;have g5:=h.cs;have g6:=h.tc3;have g7:=h.c42
 rcases ht with rfl|rfl
 ·exact none _
 have hcase:t=0\/t=1\/t=2:=by omega
 rcases hcase with rfl|rfl|rfl
 ·have hc:up c=1:=by rcases up_cases h.c4 with ⟨e,u⟩|⟨e,u⟩|⟨e,u⟩|⟨e,u⟩|⟨e,u⟩<;>omega
  have e1:dnT c 0=1:=by unfold dnT;rw[hc];rfl
  rw[hc]at h1
  have hlg:b.lg=true:=by
   rcases h1 with ⟨e,_⟩|⟨_,e,_⟩|⟨e,_⟩|⟨e,_⟩|⟨e,_⟩<;>first|exact e|omega
  rw[e1,hc]
  have e2:((sa (YB b) 1).take (gbN (YB b) 1)).drop (gbN (YB b) 0)=b.L:=by
   show((b.L).take (b.L).length).drop 0=_
   rw[List.take_length,List.drop_zero]
  have e3:(tz (YB b) 1).drop (tz (YB b) 0).length=b.R0:=rfl
  rw[e2,e3];exact s_login hlg
 ·by_cases hc:up c=1
  ·have e1:dnT c 1=1:=by unfold dnT;rw[hc];rfl
   rw[e1];exact none 1
  ·have e1:dnT c 1=2:=by unfold dnT;rw[if_neg hc]
   have hs:sa (YB b) (up c)=b.L++encs (cmdsP b.e b.tag b.l):=by
    rcases up_cases h.c4 with ⟨e,u⟩|⟨e,u⟩|⟨e,u⟩|⟨e,u⟩|⟨e,u⟩<;>first|omega|(rw[u];rfl)
   rw[e1,hs]
   have e2:((b.L++encs (cmdsP b.e b.tag b.l)).take (gbN (YB b) 2)).drop (gbN (YB b) 1)=encs (cmdsP b.e b.tag b.l):=by
    show((b.L++encs (cmdsP b.e b.tag b.l)).take ((b.L).length+(encs (cmdsP b.e b.tag b.l)).length)).drop (b.L).length=_
    rw[List.take_of_length_le (by simp),List.drop_left]
   have e3:(tz (YB b) 2).drop (tz (YB b) 1).length=encs (outsP pL.nm b.e b.n b.tag b.u b.l):=by
    show(b.R0++encs (outsP pL.nm b.e b.n b.tag b.u b.l)).drop (b.R0).length=_
    rw[List.drop_left]
   rw[e2,e3];exact s_cmds
 ·have hc:up c≠1:=by rcases up_cases h.c4 with ⟨e,u⟩|⟨e,u⟩|⟨e,u⟩|⟨e,u⟩|⟨e,u⟩<;>omega
  have e1:dnT c 2=2:=by unfold dnT;rw[if_neg hc]
  rw[e1];exact none 2
theorem c_piece (h:Sg (YB b) c t s ka kb mb ba bb) {c1:Cl} (h1:cX b q (up c) c1) (hq:up c<=3->q=0) {c':Nat} (hc:c'=up c\/c'=dnC c t):
 ∃c2,cX b q c' c2/\CIn B gd AL (((tz (YB b) t).take (gaN (YB b) c')).drop (gaN (YB b) c)) c1 c2:=by
 obtain⟨v0,v1,v2,v3,v4⟩:=ga_vals (Y:=YB b)
 have e0:gaN (YB b) (up c)=gaN (YB b) c:=by
  rcases up_cases h.c4 with ⟨e,u⟩|⟨e,u⟩|⟨e,u⟩|⟨e,u⟩|⟨e,u⟩<;>rw[u,e]<;>omega
 have none:∃c2,cX b q (up c) c2/\CIn B gd AL (((tz (YB b) t).take (gaN (YB b) (up c))).drop (gaN (YB b) c)) c1 c2:=by
  have e1:((tz (YB b) t).take (gaN (YB b) (up c))).drop (gaN (YB b) c)=[]:=List.drop_eq_nil_of_le (by rw[e0];simp;omega)
  rw[e1];exact⟨c1,h1,c_none h1⟩
 have g2:=h.t2;have g4:=h.tc;have g3:=h.st;have g5:=h.cs;have g6:=h.tc3;have g7:=h.c42
 rcases hc with rfl|rfl
 ·exact none
 have hcase:t=0\/t=1\/t=2:=by omega
 rcases hcase with rfl|rfl|rfl
 ·exact none
 ·by_cases hu:up c=1
  ·have e1:dnC c 1=2:=by unfold dnC;rw[hu];rfl
   have hcc:gaN (YB b) c=0:=by rw[←e0,hu];exact v1
   rw[e1,hcc]
   have e2:((tz (YB b) 1).take (gaN (YB b) 2)).drop 0=b.R0:=by
    show((b.R0).take (b.R0).length).drop 0=_
    rw[List.take_length,List.drop_zero]
   rw[e2]
   rw[hu]at h1
   have hcl:b.lg=true/\c1=Pip.cL pL b.tg (asksL false b.tag b.l):=by
    rcases h1 with ⟨e,_⟩|⟨_,e⟩|⟨e,_⟩|⟨e,_⟩|⟨e,_⟩<;>first|exact e|omega
   rw[hcl.2]
   exact⟨_,.inr (.inr (.inl ⟨rfl,rfl⟩)),c_login hcl.1⟩
  ·have e1:dnC c 1=up c:=by unfold dnC;rw[if_neg (by decide),if_pos rfl,if_neg hu]
   rw[e1];exact none
 ·have e1:dnC c 2=4:=rfl
  have hcc:up c=3\/up c=4:=by rcases up_cases h.c4 with ⟨e,u⟩|⟨e,u⟩|⟨e,u⟩|⟨e,u⟩|⟨e,u⟩<;>omega
  rcases hcc with hu|hu
  ·rw[e1,←e0,hu,v3,v4]
   have e2:((tz (YB b) 2).take ((YB b).R0.length+(YB b).Rs.length)).drop (YB b).R0.length=encs (outsP pL.nm b.e b.n b.tag b.u b.l):=by
    show((b.R0++encs (outsP pL.nm b.e b.n b.tag b.u b.l)).take ((b.R0).length+(encs (outsP pL.nm b.e b.n b.tag b.u b.l)).length)).drop (b.R0).length=_
    rw[List.take_of_length_le (by simp),List.drop_left]
   rw[e2]
   rw[hu]at h1
   have hcl:c1=Pip.cA pL (b.e+b.l.length) b.m b.tg (asksL true b.tag b.l) [] []:=by
    rcases h1 with ⟨e,_⟩|⟨e,_⟩|⟨e,_⟩|⟨_,e⟩|⟨e,_⟩<;>first|exact e|omega
   rw[hcl]
   obtain⟨m',d,hm,hd,hin⟩:=c_cmds (B:=B) (gd:=gd) (b:=b)
   exact⟨_,.inr (.inr (.inr (.inr ⟨rfl,m',d,rfl,hm,by rw[hq (by omega),hd.len];rfl,λ_=>hd⟩))),hin⟩
  ·rw[e1,←hu];exact none
structure LS (B gd:Nat) (X:Nat->Prop) (b:Bt) (q:Nat) (w:World) (gl:Nat) (k:Int) (c t s:Nat) (ka kb mb:Bool) (ba bb:Nat):Prop where
 ex:∃f vw vv n cl sA yA sB yB,LAt B gd AL w gl f vw vv k n cl (sX b t) (mk 1 2 true (sa (YB b) c) (tz (YB b) s) ba (gaN (YB b) c) (gaN (YB b) c) ka ka sA yA) (mk 2 1 false (tz (YB b) s) (sa (YB b) c) bb (gbN (YB b) t) (gbN (YB b) t) kb mb sB yB)/\
  cX b q c cl/\Tl w B vw/\Tb w B vv ((tz (YB b) t).drop (tz (YB b) s).length)/\(yB=true->kb=true)/\(∀p,X p->¬All (Fz gl f vw vv) p/\p < w.heap.size)
 sg:Sg (YB b) c t s ka kb mb ba bb
 hq:c<=3->q=0
theorem keep_x {X:Nat->Prop} {F F':Nat->Fp} (h:∀p,X p->¬All F p/\p < w.heap.size) (st:Step (All F) w w' (All F')):(∀p,X p->¬All F' p/\p < w'.heap.size)/\∀p,X p->w'.heap[p]? =w.heap[p]? :=
 ⟨λp hp=>⟨λhh=>(st.fp p hh).elim (h p hp).1 (λq=>by have:=(h p hp).2;omega),Nat.lt_of_lt_of_le (h p hp).2 st.size⟩,λp hp=>st.block p (h p hp).2 (h p hp).1⟩
theorem stage_c {X:Nat->Prop} (H:LS B gd X b q w gl k c t s ka kb mb ba bb) (hk:0<=k) {R:KV}
 (K:∀w' c' t' ka' kb' mb' ba' bb',LS B gd X b q w' gl k c' t' t ka' kb' mb' ba' bb'->Below B w w'->(∀p,X p->w'.heap[p]? =w.heap[p]?)->(k=0->∀j,Lv (YB b) j c t ka kb->Lv (YB b) (j+1) c' t' ka' kb')->R (.tuple #[]) w'):
 Zs 9 #[zA gl] w R:=by
 obtain⟨f,vw,vv,n,cl,sA,yA,sB,yB,h,hc,tw,tv,hy,hx⟩:=H.ex
 have sg:=H.sg
 obtain⟨c1,hc1,htell⟩:=c_tell (B:=B) (gd:=gd) hc
 obtain⟨m1,m2⟩:=sg.le
 obtain⟨d1,ed1⟩:=sa_up (Y:=YB b) c
 obtain⟨d2,ed2⟩:=to_le (Y:=YB b) sg.st sg.t2
 have es1:(sa (YB b) (up c)).drop (sa (YB b) c).length=d1:=by rw[ed1,List.drop_left]
 have es2:(tz (YB b) t).drop (tz (YB b) s).length=d2:=by rw[ed2,List.drop_left]
 rw[es1]at htell
 rw[es2]at tv
 obtain⟨l1,l2,l3,l4,l5,l6⟩:=sg.lens
 have ld1:(sa (YB b) (up c)).length=(sa (YB b) c).length+d1.length:=by rw[ed1,List.length_append]
 have ld2:(tz (YB b) t).length=(tz (YB b) s).length+d2.length:=by rw[ed2,List.length_append]
 have ba_le:=sg.hba;have bb_le:=sg.hbb
 obtain⟨n1,q1⟩:=mk_send (own:=1) (oth:=2) (fi:=true) (S :=sa (YB b) c) (T:=tz (YB b) s) (b:=ba) (g:=gaN (YB b) c) (r:=gaN (YB b) c) (kn:=ka) (mt:=ka) (sent:=sA) (say:=yA) (by omega) (bs:=d1) (by omega)
 obtain⟨n2,q2⟩:=mk_send (own:=2) (oth:=1) (fi:=false) (S :=tz (YB b) s) (T:=sa (YB b) c) (b:=bb) (g:=gbN (YB b) t) (r:=gbN (YB b) t) (kn:=kb) (mt:=mb) (sent:=sB) (say:=yB) (by omega) (bs:=d2) (by omega)
 rw[←ed1]at q1
 replace q1:=q1.trans (mk_more m2 d2)
 rw[←ed2]at q1
 rw[←ed2]at q2
 replace q2:=q2.trans (mk_more m1 d1)
 rw[←ed1]at q2
 have hfa:=h.fa;have hfb:=h.fb
 have sA1:sA<=((sa (YB b) c).drop ba).length:=hfa.s1
 have sB1:sB<=((tz (YB b) s).drop bb).length:=hfb.s1
 rw[List.length_drop]at sA1 sB1
 have f1:=mk_fits (fi:=true) (kn:=ka) (mt:=ka) (say:=yA) sg.smA hfa.s0 (by have:=hfa.s0;omega:sA<=_)
 have f2:=mk_fits (fi:=false) (kn:=kb) (mt:=mb) (say:=yB) sg.smB hfb.s0 (by have:=hfb.s0;omega:sB<=_)
 obtain⟨sentA,oA,a0,a1⟩:=outA sg yA
 obtain⟨sentB,oB,b0,b1⟩:=outB sg hy
 have EA:outC (tickC (sendC (mk 1 2 true (sa (YB b) c) (tz (YB b) s) ba (gaN (YB b) c) (gaN (YB b) c) ka ka sA yA) d1))=outC (endA (YB b) c t ka ba yA):=by rw[q1];rfl
 rw[oA]at EA
 have EB:outC (tickC (sendC (mk 2 1 false (tz (YB b) s) (sa (YB b) c) bb (gbN (YB b) t) (gbN (YB b) t) kb mb sB yB) d2))=outC (endB (YB b) c t kb mb bb yB):=by rw[q2];rfl
 rw[oB]at EB
 obtain⟨T,hT⟩:=Classical.axiomOfChoice (λd=>toB sg yA b0 b1 d)
 obtain⟨C,hC⟩:=Classical.axiomOfChoice (λd=>toA sg (say:=yB) a0 a1 d)
 have cC:∀d,C d=up c\/C d=dnC c t:=λd=>by
  obtain⟨_,_,_,_,_,_,_,hh,_⟩:=hC d
  rcases hh with ⟨e,_⟩|⟨e,_⟩
  ·exact .inl e
  ·exact .inr e
 have cT:∀d,T d=t\/T d=dnT c t:=λd=>by
  obtain⟨_,_,_,_,_,_,_,_,_,hh,_⟩:=hT d
  rcases hh with ⟨e,_⟩|⟨e,_⟩
  ·exact .inl e
  ·exact .inr e
 have hq:up c<=3->q=0:=λhu=>H.hq (by rcases up_cases sg.c4 with ⟨e,u⟩|⟨e,u⟩|⟨e,u⟩|⟨e,u⟩|⟨e,u⟩<;>omega)
 obtain⟨Z,hZ⟩:=Classical.axiomOfChoice (λd=>c_piece (B:=B) (gd:=gd) sg hc1 hq (cC d))
 refine round_c (X:=λd=>sX b (T d)) (O:=λd=>(tz (YB b) (T d)).drop (tz (YB b) t).length) (C:=Z) h hk tw tv htell (by omega) n1 (by rw[q1];exact f1) n2 (by rw[q2];exact f2) ?_ ?_ (λd=>?_) (λd=>?_) λw' f' vw' vv' n' e1 e2 hd hL tw' tv' st=>?_
 ·rw[EA];dsimp only;split
  ·split<;>simp
  ·simp
 ·rw[EB];dsimp only;split<;>simp
 ·rw[EA,EB]
  obtain⟨kb',mb',bb',sent',say',e,_⟩:=hT d
  have e:dl d _ _=_:=e
  rw[e]
  refine⟨s_piece sg hc1 (cT d),?_⟩
  have ht2:=sg.t2
  have:(tz (YB b) (T d)).length<=2000:=by
   have hs:=(YB b).hs;have h0:=(YB b).h0
   unfold tz;split
   ·simp
   ·split
    ·omega
    ·simp;omega
  rw[List.length_drop];omega
 ·rw[EA,EB]
  obtain⟨ka',ba',sent',say',e,_⟩:=hC d
  have e:dl d _ _=_:=e
  rw[e]
  exact(hZ d).2
 ·rw[EA,EB]at hL
  obtain⟨ka',ba',sa',ya',ea,ha0,ha1,hA,pA⟩:=hC e2
  obtain⟨kb',mb',bb',sb',yb',eb,hyb,hb0,hb1,hB,hkb,hmb,pB⟩:=hT e1
  have ea:dl e2 _ _=_:=ea
  have eb:dl e1 _ _=_:=eb
  rw[ea,eb,mk_recv,mk_recv]at hL
  have es:=sg.sa_eq (cC e2)
  rw[←es]at hL
  have nx:=sg.next hB hkb hmb hA
  obtain⟨kx,ky⟩:=keep_x hx st
  refine K w' (C e2) (T e1) ka' kb' mb' ba' bb' ⟨⟨f',vw',vv',n',_,_,_,_,_,hL,(hZ e2).1,tw',tv',hyb,kx⟩,nx,λh3=>?_⟩ (h.all st) ky λhk0 j hj=>?_
  ·refine hq ?_
   rcases cC e2 with e|e
   ·omega
   ·have:=nx.c4
    unfold dnC at e
    split at e
    ·omega
    ·split at e
     ·split at e<;>omega
     ·omega
  ·obtain⟨de1,de2⟩:=hd hk0
   exact hj.next sg hB hA (pB de1).1 (pB de1).2 (pA de2).1 (pA de2).2
end Go.Proofs.YtdpmhkbhlbfbeaaGreatDoor.Los
end
section
namespace Go.Proofs.YtdpmhkbhlbfbeaaGreatDoor.Los
open CW RowKit Con Pdu
open Ses (St newS ET m32 m32_id)
open Cli (Cl encs askB DnAt)
open Pip (cA cL pLog qLog)
def Ea:Enc Ask:=⟨3,λx=>[.int .u8 (x.1.toNat:Int),.int .u8 (x.2.1.toNat:Int),.int .u8 (x.2.2.toNat:Int)],λ_=>rfl,by omega,λ_=>rfl⟩
theorem ea_at {w:World} {v:Value} {l:List Ask} (h:RdR Ea w v l) {i:Int} {n:Nat} (e:i=(n:Int)) (hi:n < l.length):
 ∃a,sliceAt v i 3=some a/\w.cell? (Addr.add a 0)=some (.int .u8 ((l[n]).1.toNat:Int))/\w.cell? (Addr.add a 1)=some (.int .u8 ((l[n]).2.1.toNat:Int))/\w.cell? (Addr.add a 2)=some (.int .u8 ((l[n]).2.2.toNat:Int)):=by
 subst e
 obtain⟨a,h1,h2,_⟩:=h.at (i:=(n:Int)) (by omega) (by omega)
 exact⟨a,h1,h2 0 (by show 0 < 3;omega),h2 1 (by show 1 < 3;omega),h2 2 (by show 2 < 3;omega)⟩
variable {B gd:Nat} {w w':World}
theorem params5_c {R:KV} (k:∀w',Grow w w'->R (.agg #[.string (textOf pL.nm),.int .i64 (pL.md:Int),.int .i64 (pL.bu:Int),.bool pL.im,.bool pL.dg]) w'):Zs 17 #[.string (ByteArray.mk #[105,113,110,46,97]),.int .i64 1000] w R:=by
 apply q62W
 refine nm λw0 e0=>?_
 obtain⟨b0,g0,s0⟩:=alE e0
 refine⟨b0.row rfl rfl,nm λw1 e1=>?_⟩
 obtain⟨b1,t1⟩:=rowE b0 e1 rfl
 exact⟨_,_,_,_,_,b1.ld rfl,k w1 (Below.turn g0 t1 (Nat.le_refl _))⟩
theorem acl5_c {R:KV} (k:∀v w',Grow w w'->RdR ET w' v AL->R v w'):Zs 19 #[] w R:=by
 apply q53W
 refine nm λw0 e0=>?_
 have g0:Grow w w0:=by rw[e0];exact Grow.al (Grow.refl w) _
 have ho:OwnR ET w0 w.heap.size 9 (.slice (some ⟨w.heap.size,0,none⟩) 3 3) AL:=by
  rw[e0]
  exact OwnR.lit w (Nat.le_refl _) 9 AL 3 rfl (by simp [maxLen])
 exact k _ w0 g0 ho.rd
theorem new_fits {o:Int} {b:Bool} (h:o=1\/o=2):CsFits (newC o b):=by
 refine⟨⟨?_,?_⟩,⟨Int.le_refl _,(by decide:(0:Int) < 4294967296)⟩,⟨Int.le_refl _,(by decide:(0:Int) < 4294967296)⟩,⟨Int.le_refl _,(by decide:(0:Int) < 4294967296)⟩,Int.le_refl _,Int.le_refl _,Nat.zero_le _,Nat.zero_le _⟩
 ·show 0<=o;omega
 ·show o < _;omega
theorem newLine_c {k:Int} {F:Fp} {u:Un} (hB:B<=w.heap.size) (env:∀w',Below B w w'->Txt.Env w') (hd:deskAt gd w F u) (hF:∀q,F q->B<=q) {R:KV}
 (K:∀gl f w',LAt B gd AL w' gl f (.slice none 0 0) (.slice none 0 0) k 0 (Cli.newC pL) (newS u) (newC 1 true) (newC 2 false)->Below B w w'->R (zA gl) w'):
 Zs 6 #[zA gd,.string (ByteArray.mk #[105,113,110,46,97]),.int .i64 1000,.int .i64 k] w R:=by
 apply q60W
 refine params5_c λw1 g1=>⟨_,_,_,_,_,rfl,?_⟩
 refine Cli.New_c (p:=pL) λgc w8 Sc st8 lc hc=>⟨_,rfl,?_⟩
 have g8:Grow w1 w8:=⟨st8.os,st8.tape,st8.output,st8.size,λq hq=>st8.block q hq (λh=>h)⟩
 refine acl5_c λv10 w11 g11 r11=>?_
 have ltF:=hd.lt
 have gA:Grow w w11:=(g1.then g8).then g11
 have hd11:deskAt gd w11 F u:=hd.stable λq hq=>gA.block q (ltF q hq)
 refine Ses.New_c (K:=deskK gd) hd11 r11 (by decide) λgs w13 Ss st13 lgs hs=>⟨_,rfl,?_⟩
 refine Con.New_c λw16 g16 ha=>⟨_,rfl,?_⟩
 refine Con.New_c λw19 g19 hb=>⟨_,rfl,nm λw21 e21=>?_⟩
 obtain⟨b21,g21,s21⟩:=alE e21
 have z1:=g1.size
 have z8:=g8.size
 have z11:=g11.size
 have z13:=st13.size
 have z16:=ha.b.lt
 have z19:=hb.b.lt
 have z21:=g21.size
 have cin:∀q,Sc q->w1.heap.size<=q/\q < w8.heap.size:=λq hq=>⟨(st8.fp q hq).elim (λh=>h.elim) id,hc.lt q hq⟩
 have sin:∀q,Ss q->(F q/\q < w.heap.size)\/(w11.heap.size<=q/\q < w13.heap.size):=λq hq=>(st13.fp q hq).imp (λh=>⟨h,ltF q h⟩) (λh=>⟨h,hs.lt q hq⟩)
 have gB:Below B w w13:=(gA.mono hB).trans (Pip.Step.low st13 (by have:=gA.size;omega) hF)
 have g1321:Grow w13 w21:=(g16.then g19).then g21
 have bel:Below B w w21:=gB.trans (g1321.mono (by omega))
 have hsz:=s21
 have F0:∀i q,Fz w19.heap.size ⟨gc,gs,w13.heap.size,w16.heap.size,Sc,Ss,.slice none 0 0,.slice none 0 0,.slice none 0 0,.slice none 0 0⟩ (.slice none 0 0) (.slice none 0 0) i q->
  (i=0/\w1.heap.size<=q/\q < w8.heap.size)\/(i=1/\((F q/\q < w.heap.size)\/(w11.heap.size<=q/\q < w13.heap.size)))\/(i=2/\q=w19.heap.size)\/(i=3/\q=w13.heap.size)\/(i=4/\q=w16.heap.size):=by
  intro i q hq
  rcases i with _|_|_|_|_|_|_|i
  ·exact .inl ⟨rfl,cin q hq⟩
  ·exact .inr (.inl ⟨rfl,sin q hq⟩)
  ·exact .inr (.inr (.inl ⟨rfl,hq⟩))
  ·rcases hq with hq|hq|hq
   ·exact .inr (.inr (.inr (.inl ⟨rfl,hq⟩)))
   ·cases hq
   ·cases hq
  ·rcases hq with hq|hq|hq
   ·exact .inr (.inr (.inr (.inr ⟨rfl,hq⟩)))
   ·cases hq
   ·cases hq
  ·cases hq
  ·cases hq
  ·exact hq.elim
 have hsn:∀q,Ss q->B<=q:=λq hq=>by
  rcases sin q hq with h|h
  ·exact hF q h.1
  ·omega
 refine K w19.heap.size ⟨gc,gs,w13.heap.size,w16.heap.size,Sc,Ss,.slice none 0 0,.slice none 0 0,.slice none 0 0,.slice none 0 0⟩ w21 ⟨b21,⟨?_,?_,?_,?_,hsn,by omega,λw' b'=>env w' (bel.trans b')⟩,(ha.grow g19).grow g21,hb.grow g21,new_fits (.inl rfl),new_fits (.inr rfl),?_⟩ bel
 ·refine Cli.CAt.grow (Cli.CAt.apart (hc.grow g11) st13 λq hq hh=>?_) g1321
  have:=cin q hq
  have:=ltF q hh
  omega
 ·exact hs.grow g1321
 ·intro q h1 h2
  have:=cin q h1
  rcases sin q h2 with h|h<;>omega
 ·intro q hq
  have:=cin q hq;omega
 ·refine⟨λi j q hi hj=>?_,λi q hi=>?_,λi q hi=>?_,by omega⟩
  ·rcases F0 i q hi with ⟨rfl,_⟩|⟨rfl,h|h⟩|⟨rfl,h⟩|⟨rfl,h⟩|⟨rfl,h⟩<;>rcases F0 j q hj with ⟨rfl,_⟩|⟨rfl,h'|h'⟩|⟨rfl,h'⟩|⟨rfl,h'⟩|⟨rfl,h'⟩<;>omega
  ·rcases F0 i q hi with ⟨rfl,_⟩|⟨rfl,h|h⟩|⟨rfl,h⟩|⟨rfl,h⟩|⟨rfl,h⟩<;>omega
  ·rcases F0 i q hi with ⟨rfl,_⟩|⟨rfl,h|h⟩|⟨rfl,h⟩|⟨rfl,h⟩|⟨rfl,h⟩
   ·omega
   ·exact hF q h.1
   ·omega
   ·omega
   ·omega
   ·omega
variable {X:Nat->Prop} {b:Bt} {c t s q:Nat} {ka kb mb:Bool} {ba bb:Nat} {gl:Nat} {k:Int}
theorem dn_len {S :Fp} {v:Value} {D:List (Int×Ses.Rp)} (h:DnAt w S v D):sliceLen v=some D.length:=by
 obtain⟨ds,hl,hr,_,hb⟩:=h
 have hz:(D.zip ds).length=D.length:=by rw[List.length_zip,hl,Nat.min_self]
 rw[hr.len,hz]
theorem LS.done (H:LS B gd X b q w gl k c t s ka kb mb ba bb) {R:KV} (K:∀v w' d,sliceLen v=some d->(c=4->q=0->∃ S D,DnAt w' S v D/\Okd pL.nm b.tag b.u b.l D/\∀p,X p->¬ S p)->LS B gd X b (q+d) w' gl k c t s ka kb mb ba bb->Below B w w'->(∀p,X p->w'.heap[p]? =w.heap[p]?)->(c=4->q+d=b.l.length)->(c<=3->d=0)->R v w'):
 withAddr (zA gl) λa=>∃(o:Option Addr),((Go.World.cell? w (Addr.add a 0))=(some (.pointer o)))/\Zs 10 #[.pointer o] w R:=by
 obtain⟨f,vw,vv,n,cl,sA,yA,sB,yB,h,hc,tw,tv,hy,hx⟩:=H.ex
 refine withAddr_some ⟨_,h.b.cell 0,Cli.Done_c h.p.c λv w' st h' dn=>?_⟩
 obtain⟨f',hL,a'⟩:=h.cl st (h.p.cl st h')
 have e3:c<=3->cl.done=[]:=λh3=>by
  rcases hc with ⟨_,_,rfl⟩|⟨_,_,rfl⟩|⟨_,rfl⟩|⟨_,rfl⟩|⟨e,_⟩
  ·rfl
  ·rfl
  ·rfl
  ·rfl
  ·omega
 have e4:c=4->q+cl.done.length=b.l.length:=λh4=>by
  rcases hc with ⟨e,_⟩|⟨e,_⟩|⟨e,_⟩|⟨e,_⟩|⟨_,m',d,rfl,_,h6,_⟩
  ·omega
  ·omega
  ·omega
  ·omega
  ·show q+d.length=_;omega
 have e5:c=4->q=0->Okd pL.nm b.tag b.u b.l cl.done:=λh4 h0=>by
  rcases hc with ⟨e,_⟩|⟨e,_⟩|⟨e,_⟩|⟨e,_⟩|⟨_,m',d,rfl,_,h6,h7⟩
  ·omega
  ·omega
  ·omega
  ·omega
  ·exact h7 h0
 obtain⟨kx,ky⟩:=keep_x hx a'
 refine K v w' cl.done.length (dn_len dn) (λh4 h0=>⟨_,_,dn,e5 h4 h0,λp hp hs=>(hx p hp).1 ⟨0,hs⟩⟩) ⟨⟨f',vw,vv,n,_,sA,yA,sB,yB,hL,?_,tw.stepS st (h.fr.apart (i:=5) (j:=0) (by decide)),tv.stepS st (h.fr.apart (i:=6) (j:=0) (by decide)),hy,kx⟩,H.sg,λh3=>by rw[e3 h3];exact H.hq h3⟩ (h.all a') ky e4 (λh3=>by rw[e3 h3];rfl)
 rcases hc with ⟨e,e',rfl⟩|⟨e,e',rfl⟩|⟨e,rfl⟩|⟨e,rfl⟩|⟨e,m',d,rfl,h5,h6,h7⟩
 ·exact .inl ⟨e,e',rfl⟩
 ·exact .inr (.inl ⟨e,e',rfl⟩)
 ·exact .inr (.inr (.inl ⟨e,rfl⟩))
 ·exact .inr (.inr (.inr (.inl ⟨e,rfl⟩)))
 ·exact .inr (.inr (.inr (.inr ⟨e,m',[],rfl,h5,by show 0+(q+d.length)=_;omega,λh0=>by
   have h0:q+d.length=0:=h0
   have e0:b.l=[]:=List.eq_nil_of_length_eq_zero (by omega)
   rw[e0];rfl⟩)))
theorem LS.grow (H:LS B gd X b q w gl k c t s ka kb mb ba bb) (g:Grow w w'):LS B gd X b q w' gl k c t s ka kb mb ba bb:=by
 obtain⟨f,vw,vv,n,cl,sA,yA,sB,yB,h,hc,tw,tv,hy,hx⟩:=H.ex
 exact⟨⟨f,vw,vv,n,cl,sA,yA,sB,yB,h.grow g,hc,tw.grow g,tv.grow g,hy,λp hp=>⟨(hx p hp).1,Nat.lt_of_lt_of_le (hx p hp).2 g.size⟩⟩,H.sg,H.hq⟩
theorem LS.wait (H:LS B gd X b q w gl k c t s ka kb mb ba bb) (h3:3<=c) (h0:b.l=[]\/c=4) {R:KV} (K:∀w',Grow w w'->R (.int .i64 0) w'):
 withAddr (zA gl) λa=>∃(o:Option Addr),((Go.World.cell? w (Addr.add a 0))=(some (.pointer o)))/\Zs 11 #[.pointer o] w R:=by
 obtain⟨f,vw,vv,n,cl,sA,yA,sB,yB,h,hc,tw,tv,hy,hx⟩:=H.ex
 have e:cl.L=[]:=by
  rcases hc with ⟨e,_⟩|⟨e,_⟩|⟨e,_⟩|⟨e,rfl⟩|⟨_,m',d,rfl,_⟩
  ·omega
  ·omega
  ·omega
  ·rcases h0 with h0|h4
   ·show asksL true b.tag b.l=[]
    rw[h0];rfl
   ·omega
  ·rfl
 refine withAddr_some ⟨_,h.b.cell 0,Cli.Waiting_c h.p.c (by rw[e];simp) λw' g=>?_⟩
 rw[e];exact K w' g
theorem LS.open_ (H:LS B gd X b q w gl k c t s ka kb mb ba bb) (h3:3<=c) {R:KV} (K:R (.bool true) w):
 withAddr (zA gl) λa=>∃(o:Option Addr),((Go.World.cell? w (Addr.add a 0))=(some (.pointer o)))/\Zs 12 #[.pointer o] w R:=by
 obtain⟨f,vw,vv,n,cl,sA,yA,sB,yB,h,hc,tw,tv,hy,hx⟩:=H.ex
 have e:cl.op=true/\cl.cl=false:=by
  rcases hc with ⟨e,_⟩|⟨e,_⟩|⟨e,_⟩|⟨e,rfl⟩|⟨_,m',d,rfl,_⟩
  ·omega
  ·omega
  ·omega
  ·exact⟨rfl,rfl⟩
  ·exact⟨rfl,rfl⟩
 refine withAddr_some ⟨_,h.b.cell 0,Cli.Open_c h.p.c ?_⟩
 rw[e.1,e.2];exact K
def cD (l:List Ask) (i:Nat):Cl:={cL pL i (asksL false 1 (l.take i))with asked:=false}
theorem cD_next {l:List Ask} {i:Nat} (hi:i < l.length) (h8:l.length<=8):Cli.ask (cD l i) (cbX l[i]) (dsX l[i])=cD l (i+1):=by
 have e1:m32 ((i:Int)+1)=((i+1:Nat):Int):=by rw[m32_id (by omega) (by omega)];omega
 have e2:(l.take i).length=i:=by rw[List.length_take];omega
 have e3:asksL false 1 (l.take (i+1))=asksL false 1 (l.take i)++[⟨((i+1:Nat):Int),cbX l[i],dsX l[i],[],false⟩]:=by
  rw[List.take_add_one,List.getElem?_eq_getElem hi,asksL_app,e2]
  show _++[(⟨1+(i:Int),cbX l[i],dsX l[i],[],false⟩:Cli.Ak)]=_
  have:(1:Int)+i=((i+1:Nat):Int):=by omega
  rw[this]
 show({cL pL i (asksL false 1 (l.take i))with asked:=false,tag:=m32 ((i:Int)+1),L:=asksL false 1 (l.take i)++[⟨m32 ((i:Int)+1),cbX l[i],dsX l[i],[],false⟩]}:Cl)={cL pL (i+1:Nat) (asksL false 1 (l.take (i+1)))with asked:=false}
 rw[e1,e3];rfl
def b1 (u:Un) (hu:tyOk u) (l:List Ask) (hl:l.length<=8):Bt where
 e:=2
 n:=2
 tag:=1
 m:=17
 u:=u
 l:=l
 lg:=true
 L:=encP pLog (askB pL)
 R0:=encs [qLog pL]
 hl:=hl
 he:=by omega
 hn:=by omega
 ht:=by omega
 hm:=by omega
 hu:=hu
 hL:=one_len _ _ (Nat.le_trans askLen (by decide))
 h0:=by
  have e:encs [qLog pL]=encP (qLog pL).1 (Txt.encB (Lgn.ansL pL)):=by simp [encs,qLog]
  rw[e];exact one_len _ _ (Nat.le_trans ansLen (by decide))
 hlg _:=⟨rfl,rfl,rfl,rfl,rfl⟩
theorem LAt.start {f:LF} {k n:Int} {u:Un} {hu:tyOk u} {l:List Ask} {hl:l.length<=8} (h:LAt B gd AL w gl f (.slice none 0 0) (.slice none 0 0) k n (cD l l.length) (newS u) (newC 1 true) (newC 2 false)) (hx:∀p,X p->¬All (Fz gl f (.slice none 0 0) (.slice none 0 0)) p/\p < w.heap.size):LS B gd X (b1 u hu l hl) 0 w gl k 0 0 0 false false false 0 0:=by
 refine⟨⟨f,_,_,n,cD l l.length,0,true,0,false,?_,.inl ⟨rfl,rfl,?_⟩,.inl rfl,Tb.nil,(λe=>by cases e),hx⟩,?_,λ_=>rfl⟩
 ·have e1:=mk_new (own:=1) (oth:=2) (fi:=true) (T:=tz (YB (b1 u hu l hl)) 0)
  have e2:=mk_new (own:=2) (oth:=1) (fi:=false) (T:=Los.sa (YB (b1 u hu l hl)) 0)
  rw[e1,e2]at h
  exact h
 ·have e:(b1 u hu l hl).tg=l.length:=by
   show(1:Int) - 1+(l.length:Int)=_;omega
  rw[e]
  unfold cD;rw[List.take_length];rfl
 ·exact⟨by omega,by omega,Nat.le_refl _,by omega,by omega,by omega,by omega,id,id,by omega,by omega,Nat.zero_le _,Nat.zero_le _,by omega,by omega,by omega⟩
end Go.Proofs.YtdpmhkbhlbfbeaaGreatDoor.Los
end
section
namespace Go.Proofs.YtdpmhkbhlbfbeaaGreatDoor.Los
open CW RowKit Con Pdu
open Ses (St newS)
open Cli (Cl encs DnAt ED)
open Pip (cA pLog qLog)
variable {B gd:Nat} {w w':World} {X:Nat->Prop} {b:Bt} {c t s q:Nat} {ka kb mb:Bool} {ba bb:Nat} {gl:Nat} {k:Int}
theorem LAt.apart {f:LF} {vw vv:Value} {n:Int} {cl:Cl} {x:St Un} {ca cb:Cs} {T T':Fp} (h:LAt B gd AL w gl f vw vv k n cl x ca cb) (st:Step T w w' T') (ht:∀q,T q->¬All (Fz gl f vw vv) q) (hb:∀q,T q->B<=q):LAt B gd AL w' gl f vw vv k n cl x ca cb:=by
 have a:∀i q,Fz gl f vw vv i q->¬T q:=λi q hq h=>ht q h ⟨i,hq⟩
 exact⟨h.b.stepS st (a 2 gl rfl),h.p.apart st (a 0) (a 1) hb,h.ea.stepS st (a 3),h.eb.stepS st (a 4),h.fa,h.fb,⟨h.fr.ap,λi q hq=>Nat.lt_of_lt_of_le (h.fr.lt i q hq) st.size,h.fr.lo,Nat.le_trans h.fr.hB st.size⟩⟩
theorem LS.turn {p:Nat} (H:LS B gd X b q w gl k c t s ka kb mb ba bb) (t':Turn p w w') (st:Step (λq=>q=p) w w' (λq=>q=p)) (hp:X p) (hB:B<=p):LS B gd X b q w' gl k c t s ka kb mb ba bb:=by
 obtain⟨f,vw,vv,n,cl,sA,yA,sB,yB,h,hc,tw,tv,hy,hx⟩:=H.ex
 have ht:∀q,q=p->¬All (Fz gl f vw vv) q:=λq e=>e▸(hx p hp).1
 exact⟨⟨f,vw,vv,n,cl,sA,yA,sB,yB,h.apart st ht (λq e=>e▸hB),hc,tw.stepS st (λq hq e=>ht q e ⟨5,hq⟩),tv.stepS st (λq hq e=>ht q e ⟨6,hq⟩),hy,λr hr=>⟨(hx r hr).1,Nat.lt_of_lt_of_le (hx r hr).2 st.size⟩⟩,H.sg,H.hq⟩
theorem LS.away (H:LS B gd X b q w gl k c t s ka kb mb ba bb):LS B gd (λ_=>False) b q w gl k c t s ka kb mb ba bb:=by
 obtain⟨f,vw,vv,n,cl,sA,yA,sB,yB,h,hc,tw,tv,hy,hx⟩:=H.ex
 exact⟨⟨f,vw,vv,n,cl,sA,yA,sB,yB,h,hc,tw,tv,hy,λr hr=>hr.elim⟩,H.sg,H.hq⟩
structure Dos (B gd:Nat) (w0:World) (gl:Nat) (x:Ask) (b:Bt) (c t s:Nat) (ka kb mb:Bool) (ba bb:Nat):Prop where
 ex:∃gc:Nat,(∀w,Grow w0 w->w.cell? (Addr.add ⟨gl,0,none⟩ 0)=some (zA gc))/\
  ∀{w:World} {dv:Value} {X:Nat->Prop} {R:KV},Grow w0 w->RdB w dv (cmX x).d->(∀p,X p->w0.heap.size<=p/\p < w.heap.size)->
   (∀w',LS B gd X b 0 w' gl 0 c t s ka kb mb ba bb->Below B w w'->(∀p,X p->w'.heap[p]? =w.heap[p]?)->R (.tuple #[.int .u32 b.tag,.int .i64 0]) w')->
   Zs 7 #[zA gc,.agg (Ses.rCm (cmX x) dv)] w R
 hB:B<=w0.heap.size
 hl:b.l=[x]
 h3:c<=3
theorem dn_at {S :Fp} {v:Value} {D:List (Int×Ses.Rp)} (h:DnAt w S v D) {i:Nat} (hi:i < D.length):
 ∃ad sd,sliceAt v (i:Int) 6=some ad/\w.cell? (Addr.add ad 0)=some (.int .u32 D[i].1)/\ldCells w (Addr.add ad 1) 5 #[.int .i64 D[i].2.st,.int .i64 D[i].2.key,.int .i64 D[i].2.code,Ses.sl sd,.int .i64 D[i].2.info]/\RdB w (Ses.sl sd) D[i].2.d/\(D[i].2.d≠[]->∀q,(Ses.sl sd).ownBlock=some q-> S q):=by
 obtain⟨ds,hl,hr,_,hb⟩:=h
 have hz:(D.zip ds).length=D.length:=by rw[List.length_zip,hl,Nat.min_self]
 obtain⟨ad,h1,h2,_⟩:=hr.at (i:=(i:Int)) (by omega) (by omega)
 have hd:=hb i hi (by omega)
 have e:(D.zip ds)[(i:Int).toNat]'(by rw[hz];exact hi)=(D[i],ds[i]'(by omega)):=by simp
 refine⟨ad,ds[i]'(by omega),h1,?_,⟨rfl,λj hj=>?_⟩,hd.1,hd.2⟩
 ·rw[h2 0 (by decide),e];rfl
 ·rw[add_add,h2 (1+j) (by show 1+j < 6;omega),e]
  have:j=0\/j=1\/j=2\/j=3\/j=4:=by omega
  rcases this with rfl|rfl|rfl|rfl|rfl<;>rfl
theorem ask_c {w0:World} {Y:Nat->Prop} {x:Ask} (D:Dos B gd w0 gl x b c t s ka kb mb ba bb) (gw:Grow w0 w) (hY:∀p,Y p->w0.heap.size<=p/\p < w.heap.size) {dv:Value} (hd:RdB w dv (cmX x).d) {R:KV}
 (K:∀(r:Ses.Rp) rv w' ka kb mb ba bb,r.st=(rp pL.nm b.u x).st->((rp pL.nm b.u x).st=0->r.d=(rp pL.nm b.u x).d)->RdB w' rv r.d->LS B gd (λ_=>False) b 1 w' gl 0 4 2 2 ka kb mb ba bb->Below B w w'->(∀p,Y p->w'.heap[p]? =w.heap[p]?)->
  R (.tuple #[.agg #[.int .i64 r.st,.int .i64 r.key,.int .i64 r.code,rv,.int .i64 r.info],.bool true]) w'):
 Zs 13 #[zA gl,.agg (Ses.rCm (cmX x) dv),.int .i64 200] w R:=by
 obtain⟨gc,hcell,hdo⟩:=D.ex
 apply q56W
 have hdi:=Rd.isOne hd
 refine Go.CW.nm λwa ea_=>?_
 obtain⟨b0',g0,s0⟩:=alE ea_
 have b0:BK wa w.heap.size (Ses.rCm (cmX x) dv) tCmd:=b0'
 refine Go.CW.nm λw1 e1=>?_
 obtain⟨r1,g1,s1⟩:=alE e1
 refine Go.CW.nm λw2 e2=>withAddr_some ⟨_,hcell w2 (gw.then ((g0.then g1).then (drE e2))),?_⟩
 have b2:=(b0.grow g1).grow (drE e2)
 refine⟨_,_,_,_,_,_,_,_,b2.ld rfl,Go.CW.nm λw13 e13=>?_⟩
 have g13:=drE e13
 have gA:=(g0.then g1).then g13
 have r13:=r1.grow g13
 have z0:wa.heap.size=w.heap.size+1:=s0
 have z1:w1.heap.size=wa.heap.size+1:=s1
 have zA:=g13.size
 have hB0:=D.hB
 have zw:=gw.size
 have hbw:B<=w.heap.size:=by omega
 refine hdo (X:=λp=>p=wa.heap.size\/Y p) (gw.then gA) (hd.grow gA) (λp hp=>by
  rcases hp with rfl|hp
  ·omega
  ·have:=hY p hp;omega) λw15 H15 bel15 k15=>⟨_,_,rfl,cond_f rfl ?_⟩
 have r15:BK w15 wa.heap.size _ _:=(k15 _ (.inl rfl)).trans r13
 have bel0:Below B w w15:=(gA.mono hbw).trans bel15
 have y15:∀p,Y p->w15.heap[p]? =w.heap[p]? :=λp hp=>(k15 p (.inr hp)).trans (gA.block p (hY p hp).2)
 refine⟨λ(i:Int) (ww:World)=>0<=i/\i<=200/\Below B w ww/\(∀p,Y p->ww.heap[p]? =w.heap[p]?)/\BK ww wa.heap.size #[.int .i64 0,.int .i64 0,.int .i64 0,.slice none 0 0,.int .i64 0] 49/\∃c t s ka kb mb ba bb,LS B gd (λp=>p=wa.heap.size\/Y p) b 0 ww gl 0 c t s ka kb mb ba bb/\Lv (YB b) i.toNat c t ka kb/\c<=3,
  λ(i:Int) (_:World)=>((200:Int) - i).toNat,⟨by omega,by omega,bel0,y15,r15,_,_,_,_,_,_,_,_,H15,⟨by omega,by omega,by omega,by omega,by omega,by omega⟩,D.h3⟩,?_⟩
 have hlx:=D.hl
 clear H15 y15 r15 r13 r1 b0 b2 hdo hcell k15 bel15 bel0
 dsimp only[allR,mapR2,eqN,ltN]
 rintro m i ww ⟨⟨i0,i1,bW,yW,bk,c,t,s,ka,kb,mb,ba,bb,H,lv,h3⟩,hm⟩
 refine cond_intro (λd=>?_) (λd=>?_)
 ·simp only[decide_eq_true_eq]at d
  refine stage_c H (Int.le_refl _) λw28 c' t' ka' kb' mb' ba' bb' H' bel kp up=>⟨rfl,?_⟩
  have lv':=up rfl _ lv
  rw[show i.toNat+1=(i+1).toNat by omega]at lv'
  refine H'.done λv31 w32 d hd' hD H32 b32 k32 q4 q3=>?_
  have bk32:BK w32 wa.heap.size _ _:=(k32 _ (.inl rfl)).trans ((kp _ (.inl rfl)).trans bk)
  have bel32:=(bW.trans bel).trans b32
  have y32:∀p,Y p->w32.heap[p]? =w.heap[p]? :=λp hp=>(k32 p (.inr hp)).trans ((kp p (.inr hp)).trans (yW p hp))
  refine⟨λ(j:Int) (wj:World)=>j=0/\wj=w32,λ_ _=>0,⟨rfl,rfl⟩,?_⟩
  dsimp only[allR,mapR2,eqN,ltN]
  rintro m2 j wj ⟨⟨rfl,rfl⟩,hm2⟩
  have hc4:=H'.sg.c4
  by_cases h4:c'=4
  ·subst h4
   obtain⟨S,D',dn,ok,hS⟩:=hD rfl rfl
   have hld:D'.length=d:=Option.some.inj ((dn_len dn).symm.trans hd')
   rw[hlx]at ok
   obtain⟨rp',D'',rfl,⟨o1,o2,o3⟩,o4⟩:=ok
   obtain rfl:D''=[]:=o4
   have hd1:d=1:=by rw[←hld];rfl
   obtain⟨ad,sd,a1,a2,a3,a4,a5⟩:=dn_at dn (i:=0) (by show 0 < 1;omega)
   have hsd:=Rd.isOne a4
   refine⟨_,hd',cond_t (by rw[hd1];rfl) ⟨ad,a1,_,a2,cond_t (by show(rp'.1==b.tag)=true;rw[o1];simp) ⟨ad,a1,_,_,_,_,_,a3,bk32.row rfl (by simp only[oneL,hsd,Bool.and_true];rfl),Go.CW.nm λw45 e45=>?_⟩⟩⟩
   obtain⟨b45,t45⟩:=rowE bk32 e45 rfl
   have st45:Step (λq=>q=wa.heap.size) wj w45 (λq=>q=wa.heap.size):=by
    subst e45;exact Step.row wj ⟨wa.heap.size,0,none⟩ _ rfl
   refine⟨_,_,_,_,_,b45.ld rfl,?_⟩
   have H45:=(H32.turn t45 st45 (.inl rfl) (by omega)).away
   have hsg:=H45.sg
   have es:=hsg.c42 rfl
   have et:t'=2:=by have:=hsg.st;have:=hsg.t2;omega
   rw[es,et,hd1]at H45
   exact K rp'.2 _ w45 _ _ _ _ _ o2 o3 (Rd.stepS a4 st45 (λhne q hq e=>hS q (.inl e) (a5 (λe0=>hne (by rw[show rp'.2.d=[] from e0];rfl)) q hq))) H45 (Below.turn bel32 t45 (by omega)) λp hp=>(t45.block p (by have:=(hY p hp).2;omega)).trans (y32 p hp)
  ·have d0:d=0:=q3 (by omega)
   refine⟨_,hd',cond_f (by rw[d0];rfl) ?_⟩
   rw[wi64_id (n:=i+1) (by omega) (by omega)]
   rw[d0]at H32
   exact⟨⟨by omega,by omega,bel32,y32,bk32,_,_,_,_,_,_,_,_,H32,lv',by omega⟩,by omega⟩
 simp only[decide_eq_false_iff_not]at d
 obtain⟨e3,e4⟩:=lv.l6 (by omega)
 rcases e4 with e|e
 ·exfalso
  have:=(cmds_len b.l b.e b.tag).1
  have e:encs (cmdsP b.e b.tag b.l)=[]:=e
  rw[e,hlx]at this
  simp at this
 ·omega
theorem dos1 {f:LF} {n:Int} {u:Un} {hu:tyOk u} {x:Ask} (h:LAt B gd AL w gl f (.slice none 0 0) (.slice none 0 0) 0 n (Cli.newC pL) (newS u) (newC 1 true) (newC 2 false)):
 Dos B gd w gl x (b1 u hu [x] (by simp)) 0 0 0 false false false 0 0:=by
 refine⟨⟨f.gc,λw' g=>(h.grow g).b.cell 0,?_⟩,h.fr.hB,rfl,by omega⟩
 intro w' dv X R g r hX K
 have h':=h.grow g
 obtain⟨cmR,Wx⟩:=plain_wr x
 refine Pip.cDo_c h'.p (cm:=cmX x) (cb:=cbX x) (xs:=dsX x) rfl r Wx.enc Wx.dat (by show 0 < 16;omega) λw41 Sc' st hp=>?_
 obtain⟨f',h41,a41⟩:=h'.cl st hp
 have e:Cli.ask (Cli.newC pL) (cbX x) (dsX x)=cD [x] 1:=cD_next (l:=[x]) (i:=0) (by simp) (by simp)
 rw[e]at h41
 have e1:Ses.m32 ((Cli.newC pL).tag+1)=1:=by decide
 rw[e1]
 obtain⟨kx,ky⟩:=keep_x (X:=X) (λp hp=>⟨λ⟨i,hi⟩=>by have:=h.fr.lt i p hi;have:=(hX p hp).1;omega,(hX p hp).2⟩) a41
 exact K w41 (LAt.start (l:=[x]) h41 kx) (h'.all a41) ky
theorem one_len2 (p:Pd) (ds:List UInt8) (h:ds.length<=300):0 < (encP p ds).length/\(encP p ds).length<=400:=by
 rw[encP_length];split<;>omega
abbrev bA (u:Un) (hu:tyOk u) (x:Ask):Bt:=b1 u hu [x] (by simp)
def b2 (u:Un) (hu:tyOk u) (x y:Ask):Bt where
 e:=3
 n:=3
 tag:=2
 m:=18
 u:=un pL.nm u x
 l:=[y]
 lg:=false
 L:=sa (YB (bA u hu x)) 4
 R0:=tz (YB (bA u hu x)) 2
 hl:=by simp
 he:=by omega
 hn:=by omega
 ht:=by omega
 hm:=by simp
 hu:=un_ty nmL hu x
 hL:=by
  have h1:=one_len2 pLog (Cli.askB pL) askLen
  have h2:=(cmds_len [x] 2 1).2
  have e:(sa (YB (bA u hu x)) 4).length=(encP pLog (Cli.askB pL)).length+(encs (cmdsP 2 1 [x])).length:=(sa_len (Y:=YB (bA u hu x))).2.2
  rw[e];simp only[List.length_singleton]at h2;omega
 h0:=by
  have e0:encs [qLog pL]=encP (qLog pL).1 (Txt.encB (Lgn.ansL pL)):=by simp [encs,qLog]
  have h1:=one_len2 (qLog pL).1 (Txt.encB (Lgn.ansL pL)) ansLen
  have h2:=(outs_len [x] 2 2 1 u hu (by simp) (by simp) (by simp)).2
  have e:(tz (YB (bA u hu x)) 2).length=(encs [qLog pL]).length+(encs (outsP pL.nm 2 2 1 u [x])).length:=(to_len (Y:=YB (bA u hu x))).2.2
  rw[e,e0];simp only[List.length_singleton]at h2;omega
 hlg:=λh=>by cases h
theorem dos2 {u:Un} {hu:tyOk u} {x y:Ask} (H:LS B gd X (bA u hu x) 1 w gl 0 4 2 2 ka kb mb ba bb):Dos B gd w gl y (b2 u hu x y) 2 1 1 ka kb mb ba bb:=by
 obtain⟨f,vw,vv,n,cl,sA,yA,sB,yB,h,hc,tw,tv,hy,hx⟩:=H.ex
 have ecl:cl=cA pL 3 18 1 [] [] []:=by
  rcases hc with ⟨e,_⟩|⟨e,_⟩|⟨e,_⟩|⟨e,_⟩|⟨_,m',d,rfl,h1,h2,_⟩
  ·omega
  ·omega
  ·omega
  ·omega
  ·have e1:m'=18:=h1.2 (by show[x]≠[];simp)
   have e2:d=[]:=List.eq_nil_of_length_eq_zero (by
    have h2:d.length+1=1:=h2
    omega)
   rw[e1,e2];rfl
 subst ecl
 refine⟨⟨f.gc,λw' g=>(h.grow g).b.cell 0,?_⟩,h.fr.hB,rfl,by omega⟩
 intro w' dv X R g r hX K
 have h':=h.grow g
 obtain⟨cmR,Wx⟩:=plain_wr y
 refine Pip.cDo_c h'.p (cm:=cmX y) (cb:=cbX y) (xs:=dsX y) rfl r Wx.enc Wx.dat (by show 0 < 16;omega) λw41 Sc' st hp=>?_
 obtain⟨f',h41,a41⟩:=h'.cl st hp
 have e:Cli.ask (cA pL 3 18 1 [] [] []) (cbX y) (dsX y)=cA pL 3 18 (b2 u hu x y).tg (asksL false 2 [y]) [] []:=by
  have e2:Ses.m32 ((1:Int)+1)=2:=by decide
  show({cA pL 3 18 1 [] [] []with tag:=Ses.m32 ((1:Int)+1),L:=[⟨Ses.m32 ((1:Int)+1),cbX y,dsX y,[],false⟩]}:Cl)=_
  rw[e2];rfl
 rw[e]at h41
 have e1:Ses.m32 ((cA pL 3 18 1 [] [] []).tag+1)=2:=by decide
 rw[e1]
 obtain⟨kx,ky⟩:=keep_x (X:=X) (λp hp=>⟨λ⟨i,hi⟩=>by have:=h.fr.lt i p hi;have:=(hX p hp).1;omega,(hX p hp).2⟩) a41
 have eg:gaN (YB (bA u hu x)) 4=gaN (YB (b2 u hu x y)) 2:=by
  show(YB (bA u hu x)).R0.length+(YB (bA u hu x)).Rs.length=(tz (YB (bA u hu x)) 2).length
  rw[(to_len (Y:=YB (bA u hu x))).2.2]
 have eb:gbN (YB (bA u hu x)) 2=gbN (YB (b2 u hu x y)) 1:=by
  show(YB (bA u hu x)).L.length+(YB (bA u hu x)).C.length=(sa (YB (bA u hu x)) 4).length
  rw[(sa_len (Y:=YB (bA u hu x))).2.2]
 rw[eg,eb]at h41
 have sg:=H.sg
 have tv':=(tv.grow g).stepS st (h'.fr.apart (i:=6) (j:=0) (by decide))
 refine K w41 ⟨⟨f',vw,vv,n,_,sA,yA,sB,yB,h41,.inr (.inr (.inl ⟨rfl,rfl⟩)),(tw.grow g).stepS st (h'.fr.apart (i:=5) (j:=0) (by decide)),tv',hy,kx⟩,?_,λ_=>rfl⟩ (h'.all a41) ky
 refine⟨by omega,by omega,Nat.le_refl _,by omega,by omega,by omega,by omega,sg.kk,sg.mm,λ_=>sg.ck (by omega),λ_=>sg.tk (by omega),?_,?_,λ_=>?_,by omega,by omega⟩
 ·rw[←eb];exact sg.hba
 ·rw[←eg];exact sg.hbb
 ·have:=sg.cq rfl
  show(sa (YB (bA u hu x)) 4).length<=ba
  rw[(sa_len (Y:=YB (bA u hu x))).2.2];exact this
theorem rp1:(rp pL.nm (u0 8) (0,1,7)).st=0:=by decide+kernel
theorem rp2:(rp pL.nm (un pL.nm (u0 8) (0,1,7)) (2,1,0)).st=0/\(rp pL.nm (un pL.nm (u0 8) (0,1,7)) (2,1,0)).d=List.replicate 8 7:=by decide+kernel
theorem known_c (hT:Txt.Env w) {R:KV} (K:∀w',Grow w w'->R (.bool true) w'):Zs 4 #[] w R:=by
 apply q55W
 refine newDesk_c (N:=8) (by omega) (by omega) λgd F w1 g1 hF hd=>⟨_,rfl,false,rfl,cond_f rfl ?_⟩
 refine newLine_c (B:=w.heap.size) g1.size (λw' bel=>hT.grow (g1.trans bel)) hd (λq hq=>hF q hq) λgl f w5 h5 b5=>⟨_,rfl,?_⟩
 refine one_f (x:=7) λv7 w8 g8 r8 n8 fu8=>oneK_of (Rd.isOne r8) ?_
 have ec:(Value.agg #[.int .i64 3,.int .i64 1,.int .i64 1,v7,.int .u64 0,.int .u64 0,.int .i64 0,.bool false])= .agg (Ses.rCm (cmX (0,1,7)) v7):=rfl
 rw[ec]
 refine ask_c (x:=(0,1,7)) (w0:=w5) (Y:=λ_=>False) (dos1 (hu:=u0_ty 8) h5) g8 (λ_ h=>h.elim) r8 λr rv w10 ka kb mb ba bb h1 h2 r10 H10 b10 _=>⟨_,_,_,_,_,_,rfl,?_⟩
 have hrv:=Rd.isOne r10
 refine Go.CW.nm λw17 e17=>?_
 obtain⟨b17,g17,s17⟩:=alE e17
 refine⟨b17.row rfl (by simp only[oneL,hrv,Bool.and_true];rfl),Go.CW.nm λw18 e18=>?_⟩
 obtain⟨b18,t18⟩:=rowE b17 e18 rfl
 have g18:Grow w10 w18:=Below.turn g17 t18 (Nat.le_refl _)
 have ec2:(Value.agg #[.int .i64 2,.int .i64 1,.int .i64 1,.slice none 0 0,.int .u64 0,.int .u64 0,.int .i64 0,.bool false])= .agg (Ses.rCm (cmX (2,1,0)) (.slice none 0 0)):=rfl
 rw[ec2]
 refine ask_c (x:=(2,1,0)) (w0:=w10) (Y:=λp=>p=w10.heap.size) (dos2 H10) g18 (λp hp=>by subst hp;exact⟨Nat.le_refl _,b18.lt⟩) (Rd.nil _) λr' rv' w20 ka' kb' mb' ba' bb' h1' h2' r20 H20 b20 y20=>⟨_,_,_,_,_,_,rfl,?_⟩
 have c20:BK w20 w10.heap.size _ _:=(y20 _ rfl).trans b18
 have hrv':=Rd.isOne r20
 refine Go.CW.nm λw27 e27=>?_
 obtain⟨b27,g27,s27⟩:=alE e27
 refine⟨b27.row rfl (by simp only[oneL,hrv',Bool.and_true];rfl),Go.CW.nm λw28 e28=>?_⟩
 obtain⟨b28,t28⟩:=rowE b27 e28 rfl
 have g28:Grow w20 w28:=Below.turn g27 t28 (Nat.le_refl _)
 have c28:=c20.grow g28
 have r28:=r20.grow g28
 have gB:Grow w w5:=g1.trans b5
 have gC:Grow w w10:=(gB.then g8).trans b10
 have gD:Grow w w20:=(gC.then g18).trans b20
 have gA:Grow w w28:=gD.then g28
 refine JoinP.bool (λb w'=>b=true/\Grow w w') (λj hj=>?_) (λb w' hh=>by rw[hh.1];exact K w' hh.2)
 refine Go.CW.nm λw32 e32=>?_
 have g32:=drE e32
 refine cond_t rfl (cond_t rfl ⟨_,(c28.grow g32).cell 0,cond_t ?_ ⟨_,(b28.grow g32).cell 3,_,to_text (r28.grow g32),Go.CW.nm λw36 e36=>?_⟩⟩)
 ·show(r.st==0)=true
  rw[h1]
  show((rp pL.nm (u0 8) (0,1,7)).st==0)=true
  rw[rp1];rfl
 have g36:=drE e36
 refine one_f (x:=7) λv37 w38 g38 r38 n38 fu38=>⟨⟨_,((b28.grow g36).grow g38).cell 3,rfl⟩,⟨_,to_text ((r28.grow g36).grow g38),rfl⟩,_,to_text r38,hj _ _ ⟨?_,(gA.then g36).then g38⟩⟩
 have e:r'.d=List.replicate 8 7:=(h2' rp2.1).trans rp2.2
 rw[e];simp
end Go.Proofs.YtdpmhkbhlbfbeaaGreatDoor.Los
end
