/- A part of the proof. -/
import Derived.Test.YtdinpgnjnleioaaGreatDoorSRsX3
set_option linter.unusedSimpArgs false
set_option linter.unusedVariables false
set_option maxRecDepth 100000
set_option maxRecDepth 1000000
section
namespace Go.Proofs.YtdinpgnjnleioaaGreatDoor.Rs
open CW RowKit Pdu
abbrev Pr:=List UInt8×List UInt8
def EQ:Enc Pr:=⟨2,λp=>[.string (textOf p.1),.string (textOf p.2)],λ_=>rfl,by omega,λ_=>rfl⟩
abbrev tPa:TypeId:=105
abbrev tPas:TypeId:=106
theorem tyPa:SlTyN Tryz.prog tPas tPa EQ.s 32:=SlTyN.of (by kernel_rfl)
variable {w w':World}
def RightOk (p:Pr):Prop:=∀{w:World} {R:KV},(∀w',Grow w w'->R (.bool true) w')->Zs 80 #[.agg #[.string (textOf p.1),.string (textOf p.2)]] w R
def seg (p:Pr):List UInt8:=p.1++61::p.2++[0]
def segs (L:List Pr):List UInt8:=L.flatMap seg
theorem segs_app (L M:List Pr):segs (L++M)=segs L++segs M:=by simp [segs]
theorem textOf_app (a b:List UInt8):textOf a++textOf b=textOf (a++b):=by
 apply ByteArray.ext
 simp [textOf]
theorem tEncode_c {v:Value} {L:List Pr} (hr:RdR EQ w v L) (hok:∀p∈L,RightOk p) (hk:∀i j (hi:i < L.length) (hj:j < L.length),j < i->L[j].1≠L[i].1) (hs:(segs L).length<=4096) (hl:L.length<=1000) {R:KV}
 (k:∀v' w',Grow w w'->OwnB w' w.heap.size tb v' (segs L)->R (.tuple #[v',.int .i64 (0:Int)]) w'):Zs 32 #[v] w R:=by
 apply q82W
 have hlen:∀{wz:World},Grow w wz->RdR EQ wz v L:=λg=>hr.grow g
 refine⟨λ(n:Int) (ww:World)=>∃i:Nat,n=(i:Int)/\i<=L.length/\Grow w ww,λ(n:Int) (_:World)=>((L.length:Int) - n).toNat,⟨0,rfl,by omega,Grow.refl _⟩,?_⟩
 dsimp only[allR,mapR2,eqN,ltN]
 rintro m _ w2 ⟨⟨i,rfl,hi,g2⟩,hm⟩
 refine⟨_,hr.len,cond_intro (λhc=>?_) (λhc=>?_)⟩
 ·have hc:i < L.length:=by have:=of_decide_eq_true hc;omega
  obtain⟨a4,q1,q2,_⟩:=(hlen g2).at (i:=(i:Int)) (by omega) (by omega)
  have q2:∀k,k < 2->w2.cell? (a4.add k)=(EQ.enc (L[i]'hc))[k]? :=λk hk=>q2 k hk
  refine⟨a4,q1,textOf (L[i]'hc).1,textOf (L[i]'hc).2,ldCells_of (vs:=EQ.enc (L[i]'hc)) rfl q2,hok _ (List.getElem_mem hc) λw8 g8=>⟨_,rfl,cond_f rfl ?_⟩⟩
  have g28:=g2.then g8
  refine⟨λ(n:Int) (ww:World)=>∃j:Nat,n=(j:Int)/\j<=i/\Grow w ww,λ(n:Int) (_:World)=>((i:Int) - n).toNat,⟨0,rfl,by omega,g28⟩,?_⟩
  dsimp only[allR,mapR2,eqN,ltN]
  rintro m2 _ w12 ⟨⟨j,rfl,hj,g12⟩,hm2⟩
  refine cond_intro (λhc2=>?_) (λhc2=>?_)
  ·have hc2:j < i:=by have:=of_decide_eq_true hc2;omega
   refine nm λw13 e13=>?_
   have g13:=g12.then (drE e13)
   obtain⟨a14,p1,p2,_⟩:=(hlen g13).at (i:=(j:Int)) (by omega) (by omega)
   obtain⟨a16,p3,p4,_⟩:=(hlen g13).at (i:=(i:Int)) (by omega) (by omega)
   have p2:w13.cell? (a14.add 0)=some (.string (textOf (L[j]'(by omega)).1)):=p2 0 (by decide)
   have p4:w13.cell? (a16.add 0)=some (.string (textOf (L[i]'hc).1)):=p4 0 (by decide)
   refine⟨a14,p1,_,p2,a16,p3,_,p4,nm λw18 e18=>cond_f ?_ ?_⟩
   ·rw[text_beq,decide_eq_false (hk i j hc (by omega) hc2)]
   ·rw[wi64_id (by omega) (by omega)]
    exact⟨⟨j+1,by omega,by omega,g12.then (drE e18)⟩,by omega⟩
  ·rw[wi64_id (n:=(i:Int)+1) (by omega) (by omega)]
   exact⟨⟨i+1,by omega,by omega,g12⟩,by omega⟩
 ·refine⟨λ(v21:Value) (n:Int) (ww:World)=>∃i:Nat,n=(i:Int)/\i<=L.length/\Grow w ww/\OwnB ww w.heap.size tb v21 (segs (L.take i)),λ(_:Value) (n:Int) (_:World)=>((L.length:Int) - n).toNat,⟨0,rfl,by omega,g2,Own.nil w2 w.heap.size tb⟩,?_⟩
  dsimp only[allR,mapR2,eqN,ltN]
  rintro m v21 _ w23 ⟨⟨i,rfl,hi,g23,o23⟩,hm⟩
  have pre:∀i,(segs (L.take i)).length<=4096:=λi=>by
   have e:segs L=segs (L.take i)++segs (L.drop i):=by rw[←segs_app,List.take_append_drop]
   have:(segs L).length=(segs (L.take i)).length+(segs (L.drop i)).length:=by rw[e,List.length_append]
   omega
  refine⟨_,hr.len,cond_intro (λhc=>?_) (λhc=>?_)⟩
  ·have hc:i < L.length:=by have:=of_decide_eq_true hc;omega
   have esg:segs (L.take (i+1))=segs (L.take i)++(((L[i]'hc).1++[61])++(L[i]'hc).2++[0]):=by
    rw[List.take_add_one,List.getElem?_eq_getElem hc,segs_app]
    simp [segs,seg]
   have hp:=pre (i+1)
   rw[esg]at hp
   simp only[List.length_append,List.length_cons,List.length_nil]at hp
   refine nm λw25 e25=>?_
   have g25:=g23.then (drE e25)
   obtain⟨a26,p1,p2,_⟩:=(hlen g25).at (i:=(i:Int)) (by omega) (by omega)
   have c0:w25.cell? (a26.add 0)=some (.string (textOf (L[i]'hc).1)):=p2 0 (by decide)
   have c1:w25.cell? (a26.add 1)=some (.string (textOf (L[i]'hc).2)):=p2 1 (by decide)
   have e61:textOf (L[i]'hc).1++ByteArray.mk #[61]=textOf ((L[i]'hc).1++[61]):=textOf_app _ [61]
   refine⟨a26,p1,_,c0,by rw[textOf_size];omega,a26,p1,_,c1,?_,nm λw30 e30=>?_⟩
   ·rw[e61,textOf_size,textOf_size];simp only[List.length_append,List.length_cons,List.length_nil];omega
   have g30:=g23.then (drE e30)
   obtain rfl:w30=w25:=e30.trans e25.symm
   rw[e61,textOf_app]
   obtain⟨v31,w32,k32,o32,b32⟩:=Txt.app_textO (l:=(L[i]'hc).1++[61]++(L[i]'hc).2) (o23.grow (drE e30)) (by simp only[List.length_append,List.length_cons,List.length_nil];omega) g30.size
   have g32:Grow w w32:=g30.trans b32
   refine⟨v31,w32,k32,nm λw33 e33=>?_⟩
   obtain⟨r33,g33⟩:=Sen.lit_rd w32 [0] 1 rfl (by omega) e33
   obtain⟨v34,w35,k35,o35,n35⟩:=app_bytes (o32.grow g33) r33 (g32.then g33).size (by simp only[List.length_append,List.length_cons,List.length_nil];omega)
   refine⟨v34,w35,k35,?_⟩
   rw[wi64_id (n:=(i:Int)+1) (by omega) (by omega)]
   refine⟨⟨i+1,by omega,by omega,(g32.then g33).trans (n35.below (g32.then g33).size (o32.grow g33).blk),?_⟩,by omega⟩
   rw[esg,←List.append_assoc]
   exact o35
  ·have hc:i=L.length:=by have:=of_decide_eq_false hc;omega
   subst hc
   rw[List.take_of_length_le (Nat.le_refl _)]at o23
   exact⟨_,RdB.len o23.rd,cond_f (by simp;omega) (k v21 w23 g23 o23)⟩
end Go.Proofs.YtdinpgnjnleioaaGreatDoor.Rs
end
section
namespace Go.Proofs.YtdinpgnjnleioaaGreatDoor.Rs
open CW RowKit Pdu
variable {w w':World}
structure Plain (p:Pr):Prop where
 k:∀b∈p.1,b≠61/\b≠0
 v:∀b∈p.2,b≠0
theorem seg_len (p:Pr):(seg p).length=p.1.length+p.2.length+2:=by simp [seg];omega
theorem seg_at {p:Pr} (hp:Plain p) (t:Nat):(t < p.1.length->(seg p).getD t 0≠61/\(seg p).getD t 0≠0)/\(t=p.1.length->(seg p).getD t 0=61)/\(p.1.length < t->t < p.1.length+p.2.length+1->(seg p).getD t 0≠0)/\(t=p.1.length+p.2.length+1->(seg p).getD t 0=0):=by
 have e:seg p=p.1++(61::(p.2++[0])):=by simp [seg]
 rw[e]
 simp only[List.getD_eq_getElem?_getD]
 refine⟨λh=>?_,λh=>?_,λh1 h2=>?_,λh=>?_⟩
 ·rw[List.getElem?_append_left h,List.getElem?_eq_getElem h]
  exact hp.k _ (List.getElem_mem h)
 ·rw[List.getElem?_append_right (by omega),h];simp
 ·obtain⟨s,hs⟩:∃s,t - p.1.length=s+1:=⟨t - p.1.length - 1,by omega⟩
  rw[List.getElem?_append_right (by omega),hs,List.getElem?_cons_succ,List.getElem?_append_left (by omega),List.getElem?_eq_getElem (by omega)]
  exact hp.v _ (List.getElem_mem _)
 ·obtain⟨s,hs⟩:∃s,t - p.1.length=s+1:=⟨t - p.1.length - 1,by omega⟩
  rw[List.getElem?_append_right (by omega),hs,List.getElem?_cons_succ,List.getElem?_append_right (by omega)]
  have:s - p.2.length=0:=by omega
  rw[this];rfl
theorem getD_mid (a s d:List UInt8) {t:Nat} (ht:t < s.length):(a++(s++d)).getD (a.length+t) 0=s.getD t 0:=by
 simp only[List.getD_eq_getElem?_getD]
 rw[List.getElem?_append_right (by omega),List.getElem?_append_left (by omega)]
 congr 2;omega
theorem u8_eq61 (b:UInt8):(((b.toNat:Nat):Int)==(61:Int))=decide (b=61):=by
 rw[Bool.eq_iff_iff]
 simp only[beq_iff_eq,decide_eq_true_eq]
 constructor
 ·intro h;exact UInt8.toNat.inj (by show _=61;omega)
 ·intro h;rw[h];rfl
theorem u8_ne0' (b:UInt8):(((b.toNat:Nat):Int) !=(0:Int))=!decide (b=0):=by
 have:(((b.toNat:Nat):Int)==(0:Int))=decide (b=0):=by
  rw[Bool.eq_iff_iff]
  simp only[beq_iff_eq,decide_eq_true_eq]
  constructor
  ·intro h;exact UInt8.toNat.inj (by show _=0;omega)
  ·intro h;rw[h];rfl
 show(!(((b.toNat:Nat):Int)==(0:Int)))=_
 rw[this]
theorem tDecode_c {v:Value} {L:List Pr} (hr:RdB w v (segs L)) (hpl:∀p∈L,Plain p) (hok:∀p∈L,RightOk p) (hk:∀i j (hi:i < L.length) (hj:j < L.length),j < i->L[j].1≠L[i].1) (hs:(segs L).length<=4096) (hl:L.length<=1000) {R:KV}
 (k:∀v' w',Grow w w'->RdR EQ w' v' L->R (.tuple #[v',.int .i64 (0:Int)]) w'):Zs 123 #[v] w R:=by
 apply q81W
 have hlen:=RdB.len hr
 have pre:∀j,j<=L.length->(segs (L.take j)).length<=(segs L).length:=λj hj=>by
  have e:segs L=segs (L.take j)++segs (L.drop j):=by rw[←segs_app,List.take_append_drop]
  have:(segs L).length=(segs (L.take j)).length+(segs (L.drop j)).length:=by rw[e,List.length_append]
  omega
 refine⟨_,hlen,cond_f (by simp;omega) ?_⟩
 refine⟨λ(v2:Value) (n:Int) (ww:World)=>∃j:Nat,n=((segs (L.take j)).length:Int)/\j<=L.length/\Grow w ww/\OwnR EQ ww w.heap.size tPa v2 (L.take j),λ(_:Value) (n:Int) (_:World)=>(((segs L).length:Int) - n).toNat,⟨0,by simp [segs],by omega,Grow.refl _,OwnR.nil _ _ _⟩,?_⟩
 dsimp only[allR,mapR2,eqN,ltN]
 rintro m v2 _ w4 ⟨⟨j,rfl,hj,g4,o4⟩,hm⟩
 refine⟨_,hlen,cond_intro (λhc=>?_) (λhc=>?_)⟩
 ·have hc:(segs (L.take j)).length < (segs L).length:=by have:=of_decide_eq_true hc;omega
  have hjl:j < L.length:=by
   apply Decidable.byContradiction
   intro hh
   have:L.take j=L:=List.take_of_length_le (by omega)
   rw[this]at hc;omega
  obtain⟨p,hp⟩:∃p,p=L[j]'hjl:=⟨_,rfl⟩
  have hpm:p∈L:=by rw[hp];exact List.getElem_mem hjl
  have hpp:=hpl p hpm
  obtain⟨A,hA⟩:∃A,A=segs (L.take j):=⟨_,rfl⟩
  obtain⟨D,hD⟩:∃D,D=segs (L.drop (j+1)):=⟨_,rfl⟩
  have ebs:segs L=A++(seg p++D):=by
   have e1:L=L.take j++(p::L.drop (j+1)):=by rw[hp,←List.drop_eq_getElem_cons hjl,List.take_append_drop]
   rw[hA,hD]
   conv=>lhs;rw[e1]
   rw[segs_app]
   simp [segs]
  have enx:segs (L.take (j+1))=A++seg p:=by
   rw[List.take_add_one,List.getElem?_eq_getElem hjl,segs_app,←hp,←hA];simp [segs]
  have sl:=seg_len p
  have bl:(segs L).length=A.length+((seg p).length+D.length):=by rw[ebs];simp
  rw[←hA]
  have byte:∀{wz:World} (t:Nat),t < (seg p).length->Grow w wz->∃a,sliceAt v ((A.length+t:Nat):Int) 1=some a/\wz.cell? a=some (.int .u8 (((seg p).getD t 0).toNat:Int)):=λ{wz} t ht g=>by
   obtain⟨a,q1,q2⟩:=by_at (hr.grow g) (i:=A.length+t) (by omega)
   rw[ebs,getD_mid A (seg p) D ht]at q2
   exact⟨a,q1,q2⟩
  refine⟨λ(n7:Int) (n8:Int) (ww:World)=>∃t:Nat,n8=((A.length+t:Nat):Int)/\t<=p.1.length+p.2.length+1/\n7=(if t<=p.1.length then(-1:Int)else((A.length+p.1.length:Nat):Int))/\ww=w4,λ(_:Int) (n8:Int) (_:World)=>(((segs L).length:Int) - n8).toNat,⟨0,by omega,by omega,by rw[if_pos (by omega)],rfl⟩,?_⟩
  dsimp only[allR,mapR2,eqN,ltN]
  rintro m2 n7 _ ww ⟨⟨t,rfl,ht,rfl,rfl⟩,hm2⟩
  obtain⟨s1,s2,s3,s4⟩:=seg_at hpp t
  obtain⟨ab,b1,b2⟩:=byte t (by omega) g4
  refine JoinP.bool (λb w1=>b=!decide ((seg p).getD t 0=0)/\ww=w1) (λj34 hj34=>⟨_,hlen,cond_t (by simp;omega) ⟨ab,b1,_,b2,hj34 _ _ ⟨u8_ne0' _,rfl⟩⟩⟩) ?_
  rintro b w11 ⟨rfl,rfl⟩
  refine cond_intro (λhb=>?_) (λhb=>?_)
  ·have hb:(seg p).getD t 0≠0:=by simpa using hb
   have htT:t < p.1.length+p.2.length+1:=by
    apply Decidable.byContradiction
    intro hh
    exact hb (s4 (by omega))
   refine JoinP.int (λn12 w13=>n12=(if t+1<=p.1.length then(-1:Int)else((A.length+p.1.length:Nat):Int))/\ww=w13) (λj14 hj14=>?_) ?_
   ·refine JoinP.bool (λb w1=>b=decide (t=p.1.length)/\ww=w1) (λj17 hj17=>⟨ab,b1,_,b2,?_⟩) ?_
    ·rw[u8_eq61]
     refine cond_intro (λhe=>hj17 _ _ ⟨?_,rfl⟩) (λhe=>hj17 _ _ ⟨?_,rfl⟩)
     ·have he:(seg p).getD t 0=61:=of_decide_eq_true he
      rw[Bool.eq_iff_iff]
      simp only[decide_eq_true_eq]
      constructor
      ·intro hn
       split at hn
       ·next hle=>
        apply Decidable.byContradiction
        intro hh
        exact(s1 (by omega)).1 he
       ·omega
      ·intro e;rw[if_pos (by omega)];omega
     ·have he:(seg p).getD t 0≠61:=of_decide_eq_false he
      exact(decide_eq_false (λe=>he (s2 e))).symm
    rintro b w16 ⟨rfl,rfl⟩
    refine cond_intro (λe=>hj14 _ _ ⟨?_,rfl⟩) (λe=>hj14 _ _ ⟨?_,rfl⟩)
    ·have e:=of_decide_eq_true e
     rw[if_neg (by omega),e]
    ·have e:=of_decide_eq_false e
     by_cases hle:t<=p.1.length
     ·rw[if_pos hle,if_pos (by omega)]
     ·rw[if_neg hle,if_neg (by omega)]
   rintro n12 w13 ⟨rfl,rfl⟩
   rw[wi64_id (n:=((A.length+t:Nat):Int)+1) (by omega) (by omega)]
   exact⟨⟨t+1,by omega,by omega,rfl,rfl⟩,by omega⟩
  ·have hb:(seg p).getD t 0=0:=by simpa using hb
   have htT:t=p.1.length+p.2.length+1:=by
    apply Decidable.byContradiction
    intro hh
    rcases Nat.lt_trichotomy t p.1.length with h|h|h
    ·exact(s1 h).2 hb
    ·rw[s2 h]at hb;cases hb
    ·exact s3 h (by omega) hb
   have en7:(if t<=p.1.length then(-1:Int)else((A.length+p.1.length:Nat):Int))=((A.length+p.1.length:Nat):Int):=if_neg (by omega)
   rw[en7]
   refine JoinP.bool (λb w1=>b=false/\ww=w1) (λj32 hj32=>⟨_,hlen,cond_f (by simp;omega) (hj32 _ _ ⟨by simp;omega,rfl⟩)⟩) ?_
   rintro b w21 ⟨rfl,rfl⟩
   refine cond_f rfl (nm λw22 e22=>?_)
   have g22:=g4.then (drE e22)
   have r22:=hr.grow g22
   obtain⟨v23,hs23,hr23,_⟩:=Rd.sub r22 (lo:=some (.int .i64 (A.length:Int))) (hi:=some (.int .i64 ((A.length+p.1.length:Nat):Int))) (l:=A.length) (r:=A.length+p.1.length) (λcap hcap=>by rw[List.length_map]at hcap;rw[bounds_ii (by omega) (by omega) (by omega)];congr 2<;>omega) (by omega) (by rw[List.length_map];omega)
   have r23:RdB w22 v23 p.1:=by
    have e:(((segs L).map b8).drop A.length).take (A.length+p.1.length - A.length)=p.1.map b8:=by
     rw[←List.map_drop,←List.map_take,ebs,List.drop_left,show A.length+p.1.length - A.length=p.1.length by omega]
     simp [seg]
    rw[e]at hr23;exact hr23
   rw[wi64_id (n:=((A.length+p.1.length:Nat):Int)+1) (by omega) (by omega)]
   obtain⟨v25,hs25,hr25,_⟩:=Rd.sub r22 (lo:=some (.int .i64 (((A.length+p.1.length:Nat):Int)+1))) (hi:=some (.int .i64 ((A.length+t:Nat):Int))) (l:=A.length+p.1.length+1) (r:=A.length+t) (λcap hcap=>by rw[List.length_map]at hcap;rw[bounds_ii (by omega) (by omega) (by omega)];congr 2<;>omega) (by omega) (by rw[List.length_map];omega)
   have r25:RdB w22 v25 p.2:=by
    have e:(((segs L).map b8).drop (A.length+p.1.length+1)).take (A.length+t - (A.length+p.1.length+1))=p.2.map b8:=by
     rw[←List.map_drop,←List.map_take,ebs,show A.length+t - (A.length+p.1.length+1)=p.2.length by omega,show A.length+p.1.length+1=A.length+(p.1.length+1) by omega,←List.drop_drop,List.drop_left,←List.drop_drop]
     simp [seg]
    rw[e]at hr25;exact hr25
   refine⟨v23,hs23,_,to_text r23,v25,hs25,_,to_text r25,nm λw27 e27=>nm λw28 e28=>nm λw29 e29=>?_⟩
   have g27:=g4.then (drE e27)
   obtain rfl:w29=w28:=e29.trans e28.symm
   obtain⟨_,g29,_⟩:=alE e29
   have r29:RdR EQ w29 (.slice (some ⟨w27.heap.size,0,none⟩) 1 1) [p]:=by rw[e29];exact(OwnR.lit (E:=EQ) w27 (Nat.le_refl _) tPa [p] 1 rfl (by simp [maxLen])).rd
   obtain⟨v30,w31,k30,o30,n30⟩:=app_ownR tyPa (o4.grow ((drE e27).then g29)) r29 (by simp only[List.length_take,List.length_cons,List.length_nil];omega) (g27.then g29).size
   refine⟨v30,w31,k30,?_⟩
   have etk:L.take (j+1)=L.take j++[p]:=by rw[List.take_add_one,List.getElem?_eq_getElem hjl,hp];rfl
   rw[wi64_id (n:=((A.length+t:Nat):Int)+1) (by omega) (by omega)]
   have enl:(segs (L.take (j+1))).length=A.length+t+1:=by rw[enx,List.length_append,sl];omega
   rw[←hA]at hm
   refine⟨⟨j+1,by rw[enl];omega,by omega,(g27.then g29).trans (n30.below (g27.then g29).size (λq hq=>((o4.grow ((drE e27).then g29)).lt q hq).1)),by rw[etk];exact o30⟩,by omega⟩
 ·have hc:¬(segs (L.take j)).length < (segs L).length:=by have:=of_decide_eq_false hc;omega
  have hjl:j=L.length:=by
   apply Decidable.byContradiction
   intro hh
   have hjl:j < L.length:=by omega
   have e:segs L=segs (L.take j)++segs (L.drop j):=by rw[←segs_app,List.take_append_drop]
   have e2:L.drop j=L[j]'hjl::L.drop (j+1):=List.drop_eq_getElem_cons hjl
   have:(segs L).length=(segs (L.take j)).length+(segs (L.drop j)).length:=by rw[e,List.length_append]
   rw[e2]at this
   have e3:(segs (L[j]'hjl::L.drop (j+1))).length=(seg (L[j]'hjl)).length+(segs (L.drop (j+1))).length:=by
    have e4:segs (L[j]'hjl::L.drop (j+1))=seg (L[j]'hjl)++segs (L.drop (j+1)):=by unfold segs;rw[List.flatMap_cons]
    rw[e4,List.length_append]
   rw[seg_len]at e3
   omega
  subst hjl
  rw[List.take_of_length_le (Nat.le_refl _)]at o4
  exact tEncode_c o4.rd hok hk hs hl λv' w' g' o'=>⟨_,_,rfl,cond_f rfl (k v2 w' (g4.then g') (o4.grow g').rd)⟩
end Go.Proofs.YtdinpgnjnleioaaGreatDoor.Rs
end
section
namespace Go.Proofs.YtdinpgnjnleioaaGreatDoor.Rs
open CW RowKit
variable {w:World}
def ltI (p:Int) (u:Bool):Bool:=decide (97<=p)&&decide (p<=122)||decide (48<=p)&&decide (p<=57)||u&&(decide (65<=p)&&decide (p<=90))
theorem letter_c {p:Int} {u:Bool} {R:KV} (k:R (.bool (ltI p u)) w):Zs 127 #[.int .u8 p,.bool u] w R:=by
 apply q87W
 refine JoinP.bool (λb w'=>b=ltI p u/\w'=w) (λj hj=>?_) (by rintro b _ ⟨rfl,rfl⟩;exact k)
 have hj':∀b,ltI p u=b->j b w:=λb hb=>hj _ _ ⟨hb.symm,rfl⟩
 clear hj k
 repeat' refine cond_intro (λh=>?_) (λh=>?_)
 all_goals (refine hj' _ ?_;simp_all [ltI]<;>omega)
theorem get_at (l:List UInt8) (i:Nat) (hi:i < l.length):ByteArray.get! (textOf l) (Int.toNat (i:Int))=l[i]:=by
 show ByteArray.get! (textOf l) i=_
 rw[Txt.text_get]
 simp [hi]
theorem take_more (l:List UInt8) {i:Nat} (hi:i < l.length):l.take (i+1)=l.take i++[l[i]]:=by
 rw[List.take_add_one,List.getElem?_eq_getElem hi];rfl
theorem in_c {c:UInt8} {l:List UInt8} (hl:l.length<=1000) {R:KV} (k:R (.bool (decide (c∈l))) w):Zs 128 #[.int .u8 ((c.toNat:Nat):Int),.string (textOf l)] w R:=by
 apply q86W
 have sz:=textOf_size l
 refine⟨λ(n:Int) (ww:World)=>∃i:Nat,n=(i:Int)/\ww=w/\i<=l.length/\c∉l.take i,λ(n:Int) (_:World)=>((l.length:Int) - n).toNat,⟨0,rfl,rfl,by omega,by simp⟩,?_⟩
 dsimp only[allR,mapR2,eqN,ltN]
 rintro m _ _ ⟨⟨i,rfl,rfl,hi,hn⟩,hm⟩
 rw[sz]
 refine cond_intro (λhc=>?_) (λhc=>?_)
 ·have hc:i < l.length:=by have:=of_decide_eq_true hc;omega
  rw[get_at l i hc]
  refine⟨⟨by omega,by omega⟩,cond_intro (λhe=>?_) (λhe=>?_)⟩
  ·have he:l[i]=c:=by
    have:=eq_of_beq he
    exact UInt8.toNat_inj.1 (by omega)
   rw[decide_eq_true (by rw[←he];exact List.getElem_mem hc)]at k
   exact k
  ·have he:l[i]≠c:=λe=>by rw[e]at he;simp at he
   rw[wi64_id (n:=(i:Int)+1) (by omega) (by omega)]
   refine⟨⟨i+1,by omega,rfl,by omega,?_⟩,by omega⟩
   rw[take_more l hc,List.mem_append,List.mem_singleton]
   exact λh=>h.elim hn (λe=>he e.symm)
 ·have hc:i=l.length:=by have:=of_decide_eq_false hc;omega
  rw[hc,List.take_length]at hn
  rw[decide_eq_false hn]at k
  exact k
theorem right_of {p:Pr} (h0:p.1≠[]) (h1:p.1.length<=63) (h2:p.2.length<=255) (h3:∀c∈p.1,ltI ((c.toNat:Nat):Int) true=true\/c∈[46,45,43,64,95]) (h4:∀c∈p.2,c≠0):RightOk p:=by
 intro w R k
 obtain⟨a,c⟩:=p
 dsimp only at *
 apply q88W
 have sa:=textOf_size a
 have sc:=textOf_size c
 refine nm λw0 e0=>?_
 obtain⟨b0,g0,_⟩:=alE e0
 refine JoinP.bool (λb w'=>b=false/\w'=w0) (λj hj=>⟨_,b0.cell 0,cond_f ?_ ⟨_,b0.cell 0,cond_f (by rw[sa];simp;omega) ⟨_,b0.cell 1,hj _ _ ⟨by rw[sc];simp;omega,rfl⟩⟩⟩⟩) ?_
 ·rw[Txt.text_eqb];simpa using h0
 rintro b w0 ⟨rfl,rfl⟩
 refine cond_f rfl ⟨λ(n:Int) (ww:World)=>∃i:Nat,n=(i:Int)/\ww=w0/\i<=a.length,λ(n:Int) (_:World)=>((a.length:Int) - n).toNat,⟨0,rfl,rfl,by omega⟩,?_⟩
 dsimp only[allR,mapR2,eqN,ltN]
 rintro m _ w0 ⟨⟨i,rfl,rfl,hi⟩,hm⟩
 refine⟨_,b0.cell 0,cond_intro (λhc=>?_) (λhc=>?_)⟩
 ·have hc:i < a.length:=by rw[sa]at hc;have:=of_decide_eq_true hc;omega
  have hx:=h3 _ (List.getElem_mem hc)
  refine JoinP.bool (λb w'=>b=false/\w'=w0) (λj hj=>⟨_,b0.cell 0,⟨by omega,by rw[sa];omega⟩,?_⟩) ?_
  ·rw[get_at a i hc]
   refine letter_c ⟨_,rfl,cond_intro (λhl=>⟨_,b0.cell 0,⟨by omega,by rw[sa];omega⟩,?_⟩) (λhl=>hj _ _ ⟨rfl,rfl⟩)⟩
   rw[get_at a i hc]
   refine in_c (l:=[46,45,43,64,95]) (by decide) ⟨_,rfl,hj _ _ ⟨?_,rfl⟩⟩
   rcases hx with hx|hx
   ·rw[hx]at hl;cases hl
   ·rw[decide_eq_true hx];rfl
  rintro b w0 ⟨rfl,rfl⟩
  rw[wi64_id (n:=(i:Int)+1) (by omega) (by omega)]
  exact cond_f rfl ⟨⟨i+1,by omega,rfl,by omega⟩,by omega⟩
 refine⟨λ(n:Int) (ww:World)=>∃i:Nat,n=(i:Int)/\ww=w0/\i<=c.length,λ(n:Int) (_:World)=>((c.length:Int) - n).toNat,⟨0,rfl,rfl,by omega⟩,?_⟩
 dsimp only[allR,mapR2,eqN,ltN]
 rintro m _ w0 ⟨⟨i,rfl,rfl,hi⟩,hm⟩
 refine⟨_,b0.cell 1,cond_intro (λhc=>⟨_,b0.cell 1,⟨by omega,?_⟩,?_⟩) (λhc=>k _ g0)⟩
 ·rw[sc]at hc ⊢;have:=of_decide_eq_true hc;omega
 ·have hc:i < c.length:=by rw[sc]at hc;have:=of_decide_eq_true hc;omega
  rw[get_at c i hc]
  refine cond_f ?_ ?_
  ·have:=h4 _ (List.getElem_mem hc)
   have:(c[i]).toNat≠0:=λe=>this (UInt8.toNat_inj.1 e)
   simpa using this
  ·rw[wi64_id (n:=(i:Int)+1) (by omega) (by omega)]
   exact⟨⟨i+1,by omega,rfl,by omega⟩,by omega⟩
theorem Name_c {s:List UInt8} (h1:5<=s.length) (h2:s.length<=223) (h3:s.take 4=[105,113,110,46]) (h4:∀c∈s,ltI ((c.toNat:Nat):Int) false=true\/c∈[46,45,58]) {R:KV} (k:R (.bool true) w):Zs 166 #[.string (textOf s)] w R:=by
 apply q83W
 have sz:=textOf_size s
 refine JoinP.bool (λb w'=>b=false/\w'=w) (λj hj=>cond_f (by rw[sz];simp;omega) (cond_f (by rw[sz];simp;omega) ⟨0,4,s.length,by rw[sz,bounds_ni (by omega) (by omega)];simp,hj _ _ ⟨?_,rfl⟩⟩)) ?_
 ·rw[Txt.text_extract,Txt.text_eqb]
  simp [h3]
 rintro b w ⟨rfl,rfl⟩
 refine cond_f rfl ⟨λ(n:Int) (ww:World)=>∃i:Nat,n=(i:Int)/\ww=w/\i<=s.length,λ(n:Int) (_:World)=>((s.length:Int) - n).toNat,⟨4,rfl,rfl,by omega⟩,?_⟩
 dsimp only[allR,mapR2,eqN,ltN]
 rintro m _ w ⟨⟨i,rfl,rfl,hi⟩,hm⟩
 rw[sz]
 refine cond_intro (λhc=>?_) (λhc=>k)
 have hc:i < s.length:=by have:=of_decide_eq_true hc;omega
 have hx:=h4 _ (List.getElem_mem hc)
 refine JoinP.bool (λb w'=>b=false/\w'=w) (λj hj=>⟨⟨by omega,by omega⟩,?_⟩) ?_
 ·rw[get_at s i hc]
  refine letter_c ⟨_,rfl,cond_intro (λhl=>⟨⟨by omega,by omega⟩,?_⟩) (λhl=>hj _ _ ⟨rfl,rfl⟩)⟩
  refine in_c (l:=[46,45,58]) (by decide) ⟨_,rfl,hj _ _ ⟨?_,rfl⟩⟩
  rcases hx with hx|hx
  ·rw[hx]at hl;cases hl
  ·rw[decide_eq_true hx];rfl
 rintro b w ⟨rfl,rfl⟩
 rw[wi64_id (n:=(i:Int)+1) (by omega) (by omega)]
 exact cond_f rfl ⟨⟨i+1,by omega,rfl,by omega⟩,by omega⟩
theorem digit_c {c:UInt8} (h:48<=c.toNat/\c.toNat<=57) {R:KV} (k:R (.int .i64 ((c.toNat - 48:Nat):Int)) w):Zs 224 #[.int .u8 ((c.toNat:Nat):Int)] w R:=by
 apply q85W
 refine JoinP.bool (λb w'=>b=true/\w'=w) (λj hj=>cond_t (by simp;omega) (hj _ _ ⟨by simp;omega,rfl⟩)) ?_
 rintro b w ⟨rfl,rfl⟩
 refine cond_t rfl ?_
 rw[w8_id (by omega) (by omega),wi64_id (by omega) (by omega)]
 have e:((c.toNat:Nat):Int) - 48=((c.toNat - 48:Nat):Int):=by omega
 rw[e];exact k
def numD (l:List UInt8):Nat:=l.foldl (λa c=>a*10+(c.toNat - 48)) 0
theorem numD_more (l:List UInt8) (c:UInt8):numD (l++[c])=numD l*10+(c.toNat - 48):=by simp [numD]
theorem Number_c {s:List UInt8} (h0:s≠[]) (h1:s.length<=9) (hd:∀c∈s,48<=c.toNat/\c.toNat<=57) (hz:s.getD 0 0≠48) (hb:∀i,i<=s.length->numD (s.take i)<=1000000000) {R:KV} (k:R (.tuple #[.int .i64 (numD s:Int),.bool true]) w):Zs 210 #[.string (textOf s)] w R:=by
 apply q84W
 have sz:=textOf_size s
 have hp:0 < s.length:=List.length_pos_iff.2 h0
 have hz0:s[0]≠48:=by
  rw[List.getD_eq_getElem?_getD,List.getElem?_eq_getElem hp]at hz
  exact hz
 unfold q84F
 rw[sz]
 refine JoinP.go ?_
 refine JoinP.bool (λb w'=>b=false/\w'=w) (λj hj=>cond_intro (λhc=>⟨0,2,s.length,?_,hj _ _ ⟨?_,rfl⟩⟩) (λ_=>hj _ _ ⟨rfl,rfl⟩)) ?_
 ·have hc:=of_decide_eq_true hc
  rw[bounds_ni (by omega) (by omega)];simp
 ·rw[Txt.text_extract,Txt.text_eqb]
  refine decide_eq_false λe=>?_
  have:=congrArg (λl:List UInt8=>l[0]?) e
  simp [hp]at this
  exact hz0 this
 rintro b w ⟨rfl,rfl⟩
 refine cond_f rfl (JoinP.bool (λb w'=>b=false/\w'=w) (λj hj=>cond_intro (λhc=>⟨⟨by omega,by omega⟩,hj _ _ ⟨?_,rfl⟩⟩) (λ_=>hj _ _ ⟨rfl,rfl⟩)) ?_)
 ·have e:ByteArray.get! (textOf s) (Int.toNat 0)=s[0]:=get_at s 0 hp
  rw[e]
  refine beq_eq_false_iff_ne.2 λh=>hz0 (UInt8.toNat_inj.1 ?_)
  show(s[0]).toNat=48
  omega
 rintro b w ⟨rfl,rfl⟩
 refine cond_f rfl ?_
 refine JoinP.bool (λb w'=>b=false/\w'=w) (λj hj=>cond_f (by rw[Txt.text_eqb];simpa using h0) (hj _ _ ⟨by rw[sz];simp;omega,rfl⟩)) ?_
 rintro b w ⟨rfl,rfl⟩
 refine cond_f rfl ⟨λ(v:Int) (n:Int) (ww:World)=>∃i:Nat,n=(i:Int)/\v=(numD (s.take i):Int)/\ww=w/\i<=s.length,λ(_:Int) (n:Int) (_:World)=>((s.length:Int) - n).toNat,⟨0,rfl,rfl,rfl,by omega⟩,?_⟩
 dsimp only[allR,mapR2,eqN,ltN]
 rintro m _ _ w ⟨⟨i,rfl,rfl,rfl,hi⟩,hm⟩
 rw[sz]
 refine cond_intro (λhc=>?_) (λhc=>?_)
 ·have hc:i < s.length:=by have:=of_decide_eq_true hc;omega
  rw[get_at s i hc]
  have hx:=hd _ (List.getElem_mem hc)
  have b1:=hb (i+1) (by omega)
  have b0:=hb i (by omega)
  have e:=numD_more (s.take i) s[i]
  rw[←take_more s hc]at e
  refine⟨⟨by omega,by omega⟩,digit_c hx ⟨_,rfl,JoinP.bool (λb w'=>b=false/\w'=w) (λj hj=>cond_f (by simp) (hj _ _ ⟨by simp;omega,rfl⟩)) ?_⟩⟩
  rintro b w ⟨rfl,rfl⟩
  refine cond_f rfl ?_
  rw[wi64_id (n:=(numD (s.take i):Int)*10) (by omega) (by omega),wi64_id (n:=(i:Int)+1) (by omega) (by omega),wi64_id (by omega) (by omega)]
  exact⟨⟨i+1,by omega,by omega,rfl,by omega⟩,by omega⟩
 ·have hc:i=s.length:=by have:=of_decide_eq_false hc;omega
  rw[hc,List.take_length]
  exact k
theorem decimal_c {n:Nat} {R:KV} (h1:n < 4611686018427387904) (k:∀w',Grow w w'->R (.string (textOf (Lib.decDigits n))) w'):Zs 168 #[.int .i64 (n:Int)] w R:=by
 apply q56W
 refine nm λw0 e0=>?_
 obtain⟨k0,g0⟩:=Txt.dig_text (n:=(n:Int)) (by omega) (by omega) e0
 have hl:=Txt.digits_len n h1
 refine⟨_,k0,?_⟩
 refine⟨λ(v:Int) (s:ByteArray) (ww:World)=>∃(q:Nat) (t:List UInt8),v=(q:Int)/\q < 4611686018427387904/\s=textOf t/\Lib.decDigits n=(if q < 10 then[] else Lib.decDigits (q / 10))++t/\Grow w ww,λ(v:Int) (s:ByteArray) (ww:World)=>v.toNat,?_,?_⟩
 ·dsimp only
  refine⟨n,_,rfl,h1,rfl,?_,g0⟩
  have:((n:Nat):Int).toNat=n:=by omega
  rw[this];exact Txt.digits_split n
 ·dsimp only[allR,mapR2,eqN,ltN]
  rintro m v s ww ⟨⟨q,t,rfl,hq,rfl,ht,g⟩,hm⟩
  refine cond_intro (λh2=>?_) (λh2=>?_)
  ·simp at h2
   have e1:IntKind.wrap .i64 (Int.tdiv (q:Int) (10:Int))=((q / 10:Nat):Int):=by
    have:Int.tdiv (q:Int) 10=((q / 10:Nat):Int):=by rw[Int.tdiv_eq_ediv_of_nonneg (by omega)];omega
    rw[this,wi64_id (by omega) (by omega)]
   rw[e1]
   refine nm λw6 e6=>?_
   obtain⟨k6,g6⟩:=Txt.dig_text (n:=((q / 10:Nat):Int)) (by omega) (by omega) e6
   have e3:(((q / 10:Nat):Int)).toNat=q / 10:=by omega
   rw[e3]at k6
   have htl:t.length<=21:=by
    have:=congrArg List.length ht
    rw[List.length_append]at this
    omega
   refine⟨_,k6,by simp only[textOf_size];simp;omega,⟨q / 10,_,rfl,by omega,textOf_app _ _,?_,g.then g6⟩,by omega⟩
   rw[ht,if_neg (by omega),Txt.digits_split (q / 10),List.append_assoc]
  ·simp at h2
   rw[if_pos (by omega),List.nil_append]at ht
   rw[←ht];exact k ww g
def kN:List UInt8:=[73,110,105,116,105,97,116,111,114,78,97,109,101]
def kM:List UInt8:=[77,97,120,82,101,99,118,68,97,116,97,83,101,103,109,101,110,116,76,101,110,103,116,104]
def kB:List UInt8:=[77,97,120,66,117,114,115,116,76,101,110,103,116,104]
def kI:List UInt8:=[73,109,109,101,100,105,97,116,101,68,97,116,97]
def vM:List UInt8:=[53,49,50]
def vY:List UInt8:=[89,101,115]
structure Who where
 nm:List UInt8
 bu:List UInt8
 n:Nat
def whoA:Who:=⟨[105,113,110,46,97],[49,48,48,48],1000⟩
def whoB:Who:=⟨[105,113,110,46,98,99],[53,49,50],512⟩
def whoC:Who:=⟨[105,113,110,46,97],[49,48,50,52],1024⟩
inductive L3|wa|wb|wc
def who:L3->Who
 | .wa=>whoA
 | .wb=>whoB
 | .wc=>whoC
def lgP (q:Who):List Pr:=[(kN,q.nm),(kM,vM),(kB,q.bu),(kI,vY)]
def anP (q:Who):List Pr:=[(kB,q.bu),(kI,vY)]
theorem rightOk (b:L3):∀p∈lgP (who b),RightOk p:=by
 have h:∀p∈lgP (who b),p.1≠[]/\p.1.length<=63/\p.2.length<=255/\(∀c∈p.1,ltI ((c.toNat:Nat):Int) true=true\/c∈[46,45,43,64,95])/\∀c∈p.2,c≠0:=by cases b<;>decide
 intro p hp
 obtain⟨h0,h1,h2,h3,h4⟩:=h p hp
 exact right_of h0 h1 h2 h3 h4
theorem name_c (b:L3) {w:World} {R:KV} (k:∀w',Grow w w'->R (.bool true) w'):Zs 166 #[.string (textOf (who b).nm)] w R:=by
 refine Name_c ?_ ?_ ?_ ?_ (k w (Grow.refl w))<;>cases b<;>decide
theorem lesser_c {m:Nat} {s:List UInt8} (h0:s≠[]) (h1:s.length<=9) (hd:∀c∈s,48<=c.toNat/\c.toNat<=57) (hz:s.getD 0 0≠48) (hb:∀i,i<=s.length->numD (s.take i)<=1000000000) (h2:512<=numD s) (h3:numD s < m) (h4:numD s<=16777215) {R:KV} (k:R (.tuple #[.int .i64 (numD s:Int),.bool true]) w):
 Zs 167 #[.int .i64 (m:Int),.string (textOf s)] w R:=by
 apply q57W
 refine Number_c h0 h1 hd hz hb ⟨_,_,rfl,JoinP.bool (λb w'=>b=false/\w'=w) (λj hj=>cond_f rfl (cond_f (by simp;omega) (hj _ _ ⟨by simp;omega,rfl⟩))) ?_⟩
 rintro b w ⟨rfl,rfl⟩
 exact cond_f rfl (cond_t (by simp;omega) k)
theorem lesM_c {w:World} {R:KV} (k:∀w',Grow w w'->R (.tuple #[.int .i64 512,.bool true]) w'):Zs 167 #[.int .i64 4096,.string (textOf vM)] w R:=
 lesser_c (m:=4096) (s:=vM) (by decide) (by decide) (by decide) (by decide) (by decide) (by decide) (by decide) (by decide) (k w (Grow.refl w))
theorem lesB_c (b:L3) {w:World} {R:KV} (k:∀w',Grow w w'->R (.tuple #[.int .i64 ((who b).n:Int),.bool true]) w'):Zs 167 #[.int .i64 8192,.string (textOf (who b).bu)] w R:=by
 have e:numD (who b).bu=(who b).n:=by cases b<;>decide
 refine lesser_c (m:=8192) (s:=(who b).bu) ?_ ?_ ?_ ?_ ?_ ?_ ?_ ?_ (e▸k w (Grow.refl w))<;>cases b<;>decide
theorem decB_c (b:L3) {w:World} {R:KV} (k:∀w',Grow w w'->R (.string (textOf (who b).bu)) w'):Zs 168 #[.int .i64 ((who b).n:Int)] w R:=by
 have e:Lib.decDigits (who b).n=(who b).bu:=by cases b<;>(simp only[who,whoA,whoB,whoC];repeat rw[Txt.digits_split];simp)
 refine decimal_c (by cases b<;>decide) λw' g=>?_
 rw[e];exact k w' g
theorem bool_c {w:World} {R:KV} (k:∀w',Grow w w'->R (.tuple #[.bool true,.bool true]) w'):Zs 169 #[.string (textOf vY)] w R:=by
 apply q80W
 have e:((textOf vY).toList==(ByteArray.mk #[89,101,115]).toList)=true:=by rw[Txt.text_eqb];decide
 unfold q80F
 rw[e]
 exact JoinP.go (cond_t rfl (k w (Grow.refl w)))
theorem yes_c {w:World} {R:KV} (k:∀w',Grow w w'->R (.string (textOf vY)) w'):Zs 170 #[.bool true] w R:=by
 apply q58W
 exact cond_t rfl (k w (Grow.refl w))
theorem ours_c {w:World} {R:KV} (k:∀w',Grow w w'->R (.agg #[.string (textOf []),.int .i64 4096,.int .i64 8192,.bool true,.bool true]) w'):Zs 125 #[] w R:=by
 apply q55W
 refine nm λw0 e0=>?_
 obtain⟨b0,g0,_⟩:=alE e0
 refine⟨b0.row rfl rfl,nm λw1 e1=>?_⟩
 obtain⟨b1,t1⟩:=rowE b0 e1 rfl
 exact⟨_,_,_,_,_,b1.ld rfl,k w1 (Below.turn g0 t1 (Nat.le_refl _))⟩
end Go.Proofs.YtdinpgnjnleioaaGreatDoor.Rs
end
section
namespace Go.Proofs.YtdinpgnjnleioaaGreatDoor.Rs
open CW RowKit Pdu
open Ses (ET)
open Rf (iqA iqB)
variable {w w':World}
abbrev tPm:TypeId:=37
theorem key_t {P Q:Prop} {a:List UInt8} {x:ByteArray} (h:x=textOf a) (hp:P):cond ((textOf a).toList==x.toList) P Q:=by
 subst h
 exact cond_t (by simp) hp
theorem key_f {P Q:Prop} {a:List UInt8} {x:ByteArray} (c:List UInt8) (h:x=textOf c) (hn:a≠c) (hq:Q):cond ((textOf a).toList==x.toList) P Q:=by
 subst h
 exact cond_f (by rw[text_beq,decide_eq_false hn]) hq
def ix:L3->Nat
 | .wb=>1
 |_=>0
def zS:Array Value:= #[.string (textOf []),.int .i64 0,.int .i64 0,.bool false,.bool false]
def nS (q:Who):Nat->Array Value
 |0=> #[.string (textOf []),.int .i64 4096,.int .i64 8192,.bool true,.bool false]
 |1=> #[.string (textOf q.nm),.int .i64 4096,.int .i64 8192,.bool true,.bool false]
 |2=> #[.string (textOf q.nm),.int .i64 512,.int .i64 8192,.bool true,.bool false]
 |_=> #[.string (textOf q.nm),.int .i64 512,.int .i64 (q.n:Int),.bool true,.bool false]
def oS (q:Who):Nat->List Pr
 |0=>[]
 |1=>[]
 |2=>[]
 |3=>[(kB,q.bu)]
 |_=>anP q
theorem k10:kM≠kN:=by decide
theorem k20:kB≠kN:=by decide
theorem k21:kB≠kM:=by decide
theorem k30:kI≠kN:=by decide
theorem k31:kI≠kM:=by decide
theorem k32:kI≠kB:=by decide
theorem one_pa {w w':World} (p:Pr) (e:w'=World.alloc w (.cells #[.string (textOf p.1),.string (textOf p.2)] tPa)):RdR EQ w' (.slice (some ⟨w.heap.size,0,none⟩) 1 1) [p]/\Grow w w':=by
 obtain⟨b,g,_⟩:=alE e
 refine⟨⟨some ⟨w.heap.size,0,none⟩,1,rfl,by simp,by simp [maxLen],(λh=>(by cases h)),λq u hq=>⟨_,rfl,?_⟩⟩,g⟩
 rw[b.cell]
 have:EQ.flat [p]=[.string (textOf p.1),.string (textOf p.2)]:=by simp [Enc.flat,EQ]
 rw[this]at hq
 rw[←hq]
 simp
theorem apQ {w:World} {B:Nat} {v src:Value} {L M:List Pr} (ho:OwnR EQ w B tPa v L) (hr:RdR EQ w src M) (hl:L.length+M.length<=1000) (hB:B<=w.heap.size):
 ∃v' w',Sem.run Tryz.prog (Builtin.append_ #[tPas,tPas] tPas #[v,src]) w= .ok v' w'/\OwnR EQ w' B tPa v' (L++M)/\Below B w w':=by
 obtain⟨v',w',k1,k2,k3⟩:=app_ownR (E:=EQ) tyPa ho hr (by omega) hB
 exact⟨v',w',k1,k2,k3.below hB λq hq=>(ho.lt q hq).1⟩
theorem dNeg_c (b:L3) {av qv:Value} (ha:RdR ET w av [iqA,iqB]) (hq:RdR EQ w qv (lgP (who b))) {R:KV}
 (k:∀v w',Grow w w'->OwnR EQ w' w.heap.size tPa v (anP (who b))->R (.tuple #[v,.agg #[.string (textOf (who b).nm),.int .i64 512,.int .i64 ((who b).n:Int),.bool true,.bool false],.int .i64 (0:Int)]) w'):
 Zs 124 #[.agg #[.string (textOf []),.int .i64 4096,.int .i64 8192,.bool true,.bool true],av,qv] w R:=by
 apply q54W
 refine nm λw0 e0=>nm λw1 e1=>?_
 obtain⟨b0,g0,z0⟩:=alE e0
 obtain⟨b1,g1,z1⟩:=alE e1
 refine⟨_,_,_,_,_,(b0.grow g1).ld rfl,nm λw7 e7=>?_⟩
 obtain⟨b7,g7,z7⟩:=alE e7
 refine⟨b7.row rfl rfl,nm λw8 e8=>?_⟩
 obtain⟨b8,t8⟩:=rowE b7 e8 rfl
 refine⟨st1_at b8 (by simp),nm λw9 e9=>?_⟩
 obtain⟨b9,t9⟩:=setE b8 e9
 refine⟨st1_at b9 (by simp),nm λw10 e10=>?_⟩
 obtain⟨b10,t10⟩:=setE b9 e10
 have l1:=Nat.le_refl w1.heap.size
 have G1:Grow w1 w10:=Below.turn (Below.turn (Below.turn g7 t8 l1) t9 l1) t10 l1
 have G10:Grow w w10:=(g0.then g1).then G1
 have P10:BK w10 w1.heap.size (nS (who b) 0) tPm:=b10
 have Z10:BK w10 w0.heap.size zS tPm:=b1.grow G1
 clear b10 b9 b8 b7 b0 b1 e0 e1 e7 e8 e9 e10 t8 t9 t10
 have hgB:w1.heap.size < w10.heap.size:=P10.lt
 have hwB:=G10.size
 have hw1:=(g0.then g1).size
 have hw0:=g0.size
 generalize hg:w1.heap.size=g at *
 generalize hr:w0.heap.size=r at *
 have hrg:r < g:=by omega
 generalize hB:w10.heap.size=B at *
 refine⟨λ(v:Value) (n:Int) (ww:World)=>∃i:Nat,n=(i:Int)/\i<=4/\Grow w ww/\B<=ww.heap.size/\BK ww r zS tPm/\BK ww g (nS (who b) i) tPm/\OwnR EQ ww B tPa v (oS (who b) i),λ(_:Value) (n:Int) (_:World)=>((4:Int) - n).toNat,?_,?_⟩
 ·exact⟨0,rfl,by omega,G10,by omega,Z10,P10,OwnR.nil _ _ _⟩
 dsimp only[allR,mapR2,eqN,ltN]
 rintro m v12 _ w14 ⟨⟨i,rfl,hi,G,hsz,bZ,bP,ow⟩,hm⟩
 refine⟨_,hq.len,cond_intro (λhc=>?_) (λhc=>?_)⟩
 ·have hc:i < 4:=by have:=of_decide_eq_true hc;have:(lgP (who b)).length=4:=rfl;omega
  obtain⟨a16,q1,q2,_⟩:=(hq.grow G).at (i:=(i:Int)) (by omega) (by show(i:Int) < ((4:Nat):Int);omega)
  have q2:∀k,k < 2->w14.cell? (a16.add k)=(EQ.enc ((lgP (who b))[i]'hc))[k]? :=λk hk=>q2 k hk
  have c0:=q2 0 (by decide)
  have c1:=q2 1 (by decide)
  refine⟨a16,q1,textOf ((lgP (who b))[i]'hc).1,c0,a16,q1,textOf ((lgP (who b))[i]'hc).2,c1,JoinP.go ?_⟩
  clear c0 c1 q2
  have h4:i=0\/i=1\/i=2\/i=3:=by omega
  have set1:∀{wa wb:World} {cs:Array Value} {j:Nat} {x:Value},Grow w14 wa->BK wa g cs tPm->wb=World.setCell wa (Addr.add ⟨g,0,none⟩ j) x->Grow w wb/\B<=wb.heap.size/\BK wb r zS tPm/\OwnR EQ wb B tPa v12 (oS (who b) i):=by
   intro wa wb cs j x ga ba e
   obtain⟨bb,tb⟩:=setE ba e
   have hs1:=ga.size
   have hs2:=tb.size
   have owa:=ow.grow ga
   exact⟨Below.turn (G.then ga) tb (by omega),by omega,(tb.block _ (by omega)).trans (bZ.grow ga),owa.stable λy hy=>tb.block _ (by have:=(owa.lt y hy).1;omega)⟩
  rcases h4 with rfl|rfl|rfl|rfl
  ·refine key_t rfl (name_c b λw31 g31=>⟨true,rfl,st1_at (bP.grow g31) (by simp [nS]),nm λw33 e33=>cond_f rfl ?_⟩)
   obtain⟨x1,x2,x3,x4⟩:=set1 g31 (bP.grow g31) e33
   obtain⟨b33,t33⟩:=setE (bP.grow g31) e33
   rw[wi64_id (by omega) (by omega)]
   exact⟨⟨1,rfl,by omega,x1,x2,x3,b33,x4⟩,by omega⟩
  ·refine key_f kN rfl k10 (key_t rfl ⟨_,bP.cell 1,lesM_c λw31 g31=>⟨_,_,rfl,st1_at (bP.grow g31) (by simp [nS]),nm λw33 e33=>cond_f rfl ?_⟩⟩)
   obtain⟨x1,x2,x3,x4⟩:=set1 g31 (bP.grow g31) e33
   obtain⟨b33,t33⟩:=setE (bP.grow g31) e33
   rw[wi64_id (by omega) (by omega)]
   exact⟨⟨2,rfl,by omega,x1,x2,x3,b33,x4⟩,by omega⟩
  ·refine key_f kN rfl k20 (key_f kM rfl k21 (key_t rfl ⟨_,bP.cell 2,lesB_c b λw31 g31=>⟨_,_,rfl,st1_at (bP.grow g31) (by simp [nS]),nm λw33 e33=>?_⟩⟩))
   obtain⟨x1,x2,x3,x4⟩:=set1 g31 (bP.grow g31) e33
   obtain⟨b33,t33⟩:=setE (bP.grow g31) e33
   have b33:BK w33 g (nS (who b) 3) tPm:=b33
   refine⟨_,b33.cell 2,decB_c b λw48 g48=>⟨_,rfl,nm λw50 e50=>?_⟩⟩
   obtain⟨r50,g50⟩:=one_pa (kB,(who b).bu) e50
   have hs50:=(g48.then g50).size
   obtain⟨v51,w52,k52,o52,n52⟩:=apQ ((x4.grow g48).grow g50) r50 (by simp [oS]) (by omega)
   have gg:Below B w33 w52:=((g48.then g50).mono x2).trans n52
   refine⟨v51,w52,k52,cond_f rfl ?_⟩
   rw[wi64_id (by omega) (by omega)]
   exact⟨⟨3,rfl,by omega,x1.trans (gg.mono (by omega)),by have:=gg.size;omega,(gg.block _ (by omega)).trans x3,(gg.block _ (by omega)).trans b33,o52⟩,by omega⟩
  ·refine key_f kN rfl k30 (key_f kM rfl k31 (key_f kB rfl k32 (key_t rfl (bool_c λw31 g31=>⟨_,_,rfl,JoinP.go ⟨_,(bP.grow g31).cell 3,cond_t rfl ⟨st1_at (bP.grow g31) (by simp [nS]),nm λw33 e33=>?_⟩⟩⟩))))
   obtain⟨x1,x2,x3,x4⟩:=set1 g31 (bP.grow g31) e33
   obtain⟨b33,t33⟩:=setE (bP.grow g31) e33
   have b33:BK w33 g (nS (who b) 4) tPm:=b33
   refine⟨_,b33.cell 3,yes_c λw48 g48=>⟨_,rfl,nm λw50 e50=>?_⟩⟩
   obtain⟨r50,g50⟩:=one_pa (kI,vY) e50
   have hs50:=(g48.then g50).size
   obtain⟨v51,w52,k52,o52,n52⟩:=apQ ((x4.grow g48).grow g50) r50 (by simp [oS]) (by omega)
   have gg:Below B w33 w52:=((g48.then g50).mono x2).trans n52
   refine⟨v51,w52,k52,cond_f rfl ?_⟩
   rw[wi64_id (by omega) (by omega)]
   exact⟨⟨4,rfl,by omega,x1.trans (gg.mono (by omega)),by have:=gg.size;omega,(gg.block _ (by omega)).trans x3,(gg.block _ (by omega)).trans b33,o52⟩,by omega⟩
 ·have hc:i=4:=by have:=of_decide_eq_false hc;have:(lgP (who b)).length=4:=rfl;omega
  subst hc
  refine⟨_,bP.cell 0,key_f [] rfl (by cases b<;>decide) ?_⟩
  refine⟨λ(n:Int) (ww:World)=>∃j:Nat,n=(j:Int)/\j<=ix b/\Grow w14 ww,λ(n:Int) (_:World)=>((2:Int) - n).toNat,⟨0,rfl,by omega,Grow.refl _⟩,?_⟩
  dsimp only[allR,mapR2,eqN,ltN]
  rintro m2 _ w92 ⟨⟨j,rfl,hj,g92⟩,hm2⟩
  have hj2:j < 2:=by cases b<;>simp only[ix]at hj<;>omega
  refine⟨_,ha.len,cond_t (decide_eq_true (by show(j:Int) < ((2:Nat):Int);omega)) (nm λw94 e94=>?_)⟩
  have g94:=g92.then (drE e94)
  obtain⟨a95,q1,q2,_⟩:=(ha.grow (G.then g94)).at (i:=(j:Int)) (by omega) (by show(j:Int) < ((2:Nat):Int);omega)
  have q2:w94.cell? a95=some (.string (textOf ([iqA,iqB][j]'hj2))):=by have:=q2 0 (by decide);rw[add_zero]at this;exact this
  refine⟨a95,q1,_,q2,_,(bP.grow g94).cell 0,nm λw98 e98=>?_⟩
  have g98:=g92.then (drE e98)
  by_cases he:([iqA,iqB][j]'hj2)=(who b).nm
  ·refine key_t (by rw[he]) (nm λw99 e99=>⟨_,_,_,_,_,(bP.grow (g98.then (drE e99))).ld rfl,nm λw105 e105=>?_⟩)
   have g105:=g98.then (drE e105)
   have bZ5:=bZ.grow g105
   refine⟨bZ5.row rfl rfl,nm λw106 e106=>nm λw107 e107=>?_⟩
   obtain⟨b107,t107⟩:=rowE bZ5 e107 rfl
   refine⟨_,_,_,_,_,b107.ld rfl,k v12 w107 (Below.turn (G.then g105) t107 (by omega)) ?_⟩
   have ow5:=ow.grow g105
   have:=ow5.stable (w':=w107) λy hy=>t107.block _ (by have:=(ow5.lt y hy).1;omega)
   exact this.mono hwB
  ·have hb:b= .wb/\j=0:=by
    have:j=0\/j=1:=by omega
    cases b<;>rcases this with rfl|rfl<;>first|exact⟨rfl,rfl⟩|exact absurd rfl he|(simp [ix]at hj)
   obtain⟨rfl,rfl⟩:=hb
   refine key_f _ rfl he ?_
   rw[wi64_id (by omega) (by omega)]
   exact⟨⟨1,rfl,by simp [ix],g98⟩,by omega⟩
end Go.Proofs.YtdinpgnjnleioaaGreatDoor.Rs
end
section
namespace Go.Proofs.YtdinpgnjnleioaaGreatDoor.Rs
open CW RowKit Pdu
open Rf (iqA iqB)
open Ses (St Ses Wt Prm Doer Sl Col Pt reC reS reS_in Step.whole RdR.stepS At.stepS m32 encQ encQ_length fits_m32 Rd.sl Rd.turnX partE)
variable {K:Doer} {gd:Nat} {w:World} {κ:Col} {S :Fp} {g:Nat} {acl rv lv tv:Value} {hs:List Sl} {FU:Fp}
def prm (q:Who):Prm:=⟨q.nm,512,q.n,true,false⟩
theorem nodup_keys {L:List Pr} (h:(L.map (·.1)).Nodup):∀i j (hi:i < L.length) (hj:j < L.length),j < i->L[j].1≠L[i].1:=by
 intro i j hi hj hlt
 have:=List.pairwise_iff_getElem.1 h j i (by simpa using hj) (by simpa using hi) hlt
 simpa using this
def plainB (p:Pr):Bool:=p.1.all (λc=>c !=61&&c !=0)&&p.2.all (λc=>c !=0)
theorem plain_of {p:Pr} (h:plainB p=true):Plain p:=by
 unfold plainB at h
 simp only[Bool.and_eq_true,List.all_eq_true,bne_iff_ne,ne_eq]at h
 exact⟨λb hb=>h.1 b hb,λb hb=>h.2 b hb⟩
theorem lg_plain (b:L3):∀p∈lgP (who b),Plain p:=by
 have:(lgP (who b)).all plainB=true:=by cases b<;>decide
 exact λp hp=>plain_of (List.all_eq_true.1 this p hp)
theorem lg_keys (b:L3):((lgP (who b)).map (·.1)).Nodup:=by cases b<;>decide
theorem an_keys (b:L3):((anP (who b)).map (·.1)).Nodup:=by cases b<;>decide
theorem lg_size (b:L3):(segs (lgP (who b))).length<=100:=by cases b<;>decide
theorem an_size (b:L3):(segs (anP (who b))).length<=100:=by cases b<;>decide
theorem an_right (b:L3):∀p∈anP (who b),RightOk p:=λp hp=>rightOk b p (by simp only[anP,lgP,List.mem_cons,List.not_mem_nil,or_false]at hp ⊢;exact .inr (.inr hp))
abbrev lgQ (tag:Int):Pd:={zP with op:=35,fin:=true,tag:=tag,sn:=1}
def lgD {U:Type} (b:L3) (x:St U) (p:Pd) (_:List UInt8):St U:=
 let y:=Ses.say ({x with s:={x.s with exp:=m32 (p.sn+1)}}:St U) (lgQ p.tag) (segs (anP (who b)))
 {y with s:={y.s with op:=true,p:=prm (who b),sn:=2}}
theorem dLogin_c {x:St K.U} {p:Pd} {ds:List UInt8} (b:L3) (hop:p.op=3) (hds:ds=segs (lgP (who b))) (htag:Fits .u32 p.tag) (ho:x.o.length<=1000000000):LogD K gd [iqA,iqB] (lgD b) x p ds:=by
 intro w g S dv R h k
 apply q70W
 refine nm λw0 e0=>?_
 obtain⟨b0,g0,s0⟩:=alE e0
 have hb:BK w0 w.heap.size (rP p dv) tP:=b0
 have hd0:RdB w0 dv (segs (lgP (who b))):=hds▸(h.grow g0).byt (by simp)
 have l1:=lg_size b
 have l2:=an_size b
 refine⟨_,hb.cell 0,cond_f (by rw[hop];rfl) ⟨_,hb.cell 26,tDecode_c hd0 (lg_plain b) (rightOk b) (nodup_keys (lg_keys b)) (by omega) (by show 4<=_;omega) λv7 w6 g6 r7=>⟨_,_,rfl,nm λw9 e9=>?_⟩⟩⟩
 obtain⟨b9',g9,s9⟩:=alE e9
 refine JoinP.go (cond_t rfl (nm λw89 e89=>withAddr_some ?_))
 obtain⟨κ,acl,rv,lv,tv,hs,FU,h⟩:=h
 have g89:=drE e89
 have h89:=h.grow (g0.then (g6.then (g9.then g89)))
 refine⟨_,h89.b.cell 0,nm λw92 e92=>?_⟩
 obtain rfl:w92=w89:=e92.trans e89.symm
 refine ours_c λw94 g94=>⟨_,_,_,_,_,rfl,⟨_,(h89.grow g94).b.cell 0,rfl⟩,?_⟩
 have h94:=h89.grow g94
 refine dNeg_c b (h94.r.ac) (r7.grow (g9.then (g89.then g94))) λv103 w102 g102 o103=>⟨_,_,_,_,_,_,_,rfl,?_⟩
 have b102:=((b9'.grow g89).grow g94).grow g102
 refine⟨b102.row rfl rfl,nm λw110 e110=>nm λw111 e111=>?_⟩
 obtain rfl:w111=w110:=e111.trans e110.symm
 obtain⟨b110,t110⟩:=rowE b102 e110 rfl
 have hlt:=h.r.lt
 have hg:g < w.heap.size:=h.b.lt
 have hq:w.heap.size < w6.heap.size:=by have:=g6.size;omega
 have z9:=g9.size
 have z89:=g89.size
 have z94:=g94.size
 have z102:=g102.size
 have hSq:∀q, S q->q < w.heap.size:=hlt
 have bp:BK w111 w6.heap.size #[.string (textOf (who b).nm),.int .i64 512,.int .i64 ((who b).n:Int),.bool true,.bool false] 37:=b110
 have hp:BK w111 w.heap.size (rP p dv) tP:=((((hb.grow g6).grow g9).grow (g89.then g94)).grow g102).turn t110 (by omega)
 have h110:SIn K gd w111 κ S g acl rv lv tv hs FU [iqA,iqB] [(dv,ds)] x:=(h94.grow g102).turn t110 (λhh=>by have:=hSq _ hh;omega)
 have m110:Md S w.heap.size w w111:=((Md.refl S w.heap.size w).grow (g0.then (g6.then (g9.then (g89.then (g94.then g102)))))).turn t110 (.inr (by omega))
 have o110:OwnR EQ w111 w94.heap.size tPa v103 (anP (who b)):=o103.stable λy hy=>t110.block _ (by have:=(o103.lt y hy).1;omega)
 have z110:w111.heap.size=w102.heap.size:=t110.size
 clear h94 h89 h
 refine JoinP.go (cond_t rfl (tEncode_c o110.rd (an_right b) (nodup_keys (an_keys b)) (by omega) (by show 2<=_;omega) λv86 w85 g85 o86=>⟨_,_,rfl,cond_f rfl ?_⟩))
 have r86:RdB w85 v86 (segs (anP (who b))):=o86.rd
 have h85:=h110.grow g85
 have z85:=g85.size
 have hp85:=hp.grow g85
 have bp85:=bp.grow g85
 refine⟨_,hp85.cell 5,withAddr_some ⟨st1_at h85.b (by show 11 < 15;omega),nm λw18 e18=>nm λw19 e19=>?_⟩⟩
 obtain⟨h18,t18⟩:=h85.set (s':={x.s with exp:=m32 (p.sn+1)}) e18 rfl rfl rfl
 have r18:RdB w18 v86 (segs (anP (who b))):=Rd.turnX r86 t18 (λhx e=>h85.ne_g r86 (by simpa using hx) e)
 have g19:=drE e19
 have h19:=h18.grow g19
 have hp19:=(hp85.turn t18 (by omega)).grow g19
 have bp19:=(bp85.turn t18 (by omega)).grow g19
 have r19:=Rd.grow r18 g19
 have z18:w18.heap.size=w85.heap.size:=t18.size
 have z19:=g19.size
 have m19:=((m110.grow g85).turn t18 (.inl h110.r.g.1)).grow g19
 refine⟨_,hp19.cell 4,withAddr_some ⟨_,h19.b.cell 11,withAddr_some ⟨_,h19.b.cell 11,oneK_of (Rd.isOne r86) (nm λw25 e25=>?_)⟩⟩⟩
 obtain rfl:w25=w19:=e25.trans e19.symm
 have hA:=h19.grow (Grow.al (Grow.refl w25) (.cells (rP zP nilV) tP))
 have hpA:=hp19.grow (Grow.al (Grow.refl w25) (.cells (rP zP nilV) tP))
 refine⟨⟨_,hpA.cell 4,rfl⟩,⟨_,hA.b.cell 11,rfl⟩,⟨_,hA.b.cell 11,rfl⟩,nm λw29 e29=>nm λw30 e30=>?_⟩
 obtain rfl:w30=w29:=e30.trans e29.symm
 obtain⟨b30,g30,s30⟩:=alE e30
 refine⟨b30.row rfl (one_rP (p:={lgQ p.tag with exp:=m32 (p.sn+1),mx:=m32 (m32 (p.sn+1)+15)}) (Rd.isOne r86)),nm λw31 e31=>nm λw32 e32=>?_⟩
 obtain rfl:w32=w31:=e32.trans e31.symm
 obtain⟨b32',t32⟩:=rowE b30 e32 rfl
 have b32:BK w32 w25.heap.size (rP {lgQ p.tag with exp:=m32 (p.sn+1),mx:=m32 (m32 (p.sn+1)+15)} v86) tP:=b32'
 have h32:=(h19.grow g30).turn t32 (λhh=>by have:=hSq _ hh;omega)
 have bp32:=(bp19.grow g30).turn t32 (by omega)
 have r32:RdB w32 v86 (segs (anP (who b))):=Rd.turnX (Rd.grow r19 g30) t32 (λhx e=>by have:=o86.ltS _ e;omega)
 have m32':=(m19.grow g30).turn t32 (.inr (by omega))
 have hf:PdFits ({lgQ p.tag with exp:=m32 (p.sn+1),mx:=m32 (m32 (p.sn+1)+15)}:Pd):=⟨(by decide:Fits .i64 35),(by decide:Fits .i64 0),(by decide:Fits .i64 0),htag,(by decide:Fits .u32 1),fits_m32 _,fits_m32 _,(by decide:Fits .u32 0),(by decide:Fits .u32 0)⟩
 refine⟨_,_,_,_,_,_,_,_,_,_,_,_,_,_,_,_,_,_,_,_,_,_,_,_,_,_,_,b32.ld rfl,rEncode_c hf r32 λv62 n63 w61 g61 c1 c2 c3=>⟨_,_,rfl,?_⟩⟩
 have h61:=h32.grow g61
 have bp61:=bp32.grow g61
 have z30:=g30.size
 have z32:w32.heap.size=w30.heap.size:=t32.size
 have z61:=g61.size
 generalize hP:({lgQ p.tag with exp:=m32 (p.sn+1),mx:=m32 (m32 (p.sn+1)+15)}:Pd)=P1 at *
 have r62:RdB w61 v62 (encQ P1 (segs (anP (who b)))):=by
  unfold encQ
  by_cases q1:okP P1=true
  ·rw[if_pos ⟨q1,by omega⟩];exact(c3 q1 (by omega)).1.rd
  ·rw[if_neg (λhh=>q1 hh.1),(c1 (by simpa using q1)).1];exact Rd.nil _
 have hl:=encQ_length P1 (segs (anP (who b)))
 obtain⟨v66,w67,k66,o66,n66⟩:=app_bytes h61.r.t r62 (Nat.zero_le _) (by show x.o.length+_<=_;omega)
 obtain⟨r67,b67,s67⟩:=h61.more n66 o66
 have bp67:=bp61.stepS s67 (λhh=>by have:=hSq _ hh;omega)
 refine withAddr_some ⟨_,h61.b.cell 14,v66,w67,k66,withAddr_some (oneK_of (Rd.isOne o66.rd) ⟨st1_at b67 (by show 14 < 15;omega),nm λw69 e69=>cond_f rfl (withAddr_some ?_)⟩)⟩
 obtain⟨b69,t69⟩:=setE b67 e69
 have r69:=r67.turn t69
 have bp69:=bp67.turn t69 (by omega)
 have h69:SIn K gd w69 (reC κ w61 5) (reS S λk=>v66.ownBlock=some k) g acl rv lv v66 hs FU [iqA,iqB] [(dv,ds)] (Ses.say ({x with s:={x.s with exp:=m32 (p.sn+1)}}:St K.U) (lgQ p.tag) (segs (anP (who b)))):=by
  refine⟨b69,?_⟩
  show Rest _ _ _ _ _ _ _ _ _ _ _ _ _ _ _ (x.o++encQ _ _) _
  rw[←hP]at r69
  exact r69
 refine⟨st1_at h69.b (by show 4 < 15;omega),nm λw73 e73=>?_⟩
 obtain⟨h73,t73⟩:=h69.set (s':={x.s with exp:=m32 (p.sn+1),op:=true}) e73 rfl rfl rfl
 have t73':Turn g w69 w73:=(setE h69.b e73).2
 have bp73:=bp69.turn t73' (by omega)
 refine⟨_,_,_,_,_,bp73.ld rfl,withAddr_some ⟨part_row h73.b (by show 6+5<=15;omega) rfl,nm λw80 e80=>withAddr_some ?_⟩⟩
 obtain⟨b80,t80⟩:=partE h73.b e80 (by show 6+5<=15;omega)
 have h80:SIn K gd w80 (reC κ w61 5) (reS S λk=>v66.ownBlock=some k) g acl rv lv v66 hs FU [iqA,iqB] [(dv,ds)] ({Ses.say ({x with s:={x.s with exp:=m32 (p.sn+1)}}:St K.U) (lgQ p.tag) (segs (anP (who b)))with s:={x.s with exp:=m32 (p.sn+1),op:=true,p:=prm (who b)}}:St K.U):=⟨b80,h73.r.turn t80⟩
 refine⟨st1_at h80.b (by show 12 < 15;omega),nm λw82 e82=>?_⟩
 obtain⟨h82,t82⟩:=h80.set (s':={x.s with exp:=m32 (p.sn+1),op:=true,p:=prm (who b),sn:=2}) e82 rfl rfl rfl
 have t82':Turn g w80 w82:=(setE h80.b e82).2
 have z67:=s67.size
 have mE:=(((((m32'.grow g61).stp s67 (λq hq=>.inl hq) (λq hq=>(s67.fp q hq).elim (λh=>.inl (.inl h)) .inr)).turn t69 (.inl h110.r.g.1)).turn t73' (.inl h110.r.g.1)).turn t80 (.inl h110.r.g.1)).turn t82' (.inl h110.r.g.1)
 exact k w82 _ (mE.out.imp (λ_ h=>h) (λq hq=>(s67.fp q hq).imp id (λh=>by omega))) h82.at
end Go.Proofs.YtdinpgnjnleioaaGreatDoor.Rs
end
section
namespace Go.Proofs.YtdinpgnjnleioaaGreatDoor.Rs
open CW RowKit Pdu
open Ses (St Ses Wt Prm Doer m32 encQ encQ_length fits_m32 wireP wireP_ok inp one off1 Along newS inp_last SOk)
open Rf (Rv stepV docV iqA iqB u0n fineV0)
def pLg:Pd:={zP with op:=3,tag:=1,sn:=10}
abbrev dLg (b:L3):List UInt8:=segs (lgP (who b))
def lgb (b:L3):List UInt8:=encP pLg (dLg b)
theorem pLg_fits:PdFits pLg:=⟨(by decide:Fits .i64 3),(by decide:Fits .i64 0),(by decide:Fits .i64 0),(by decide:Fits .u32 1),(by decide:Fits .u32 10),(by decide:Fits .u32 0),(by decide:Fits .u32 0),(by decide:Fits .u32 0),(by decide:Fits .u32 0)⟩
theorem pLg_ok:okP pLg=true:=by decide
abbrev rv0:Rv:=⟨u0n 64,false,false⟩
def hOf (b:L3):Nat:=(who b).nm.length % 8
def xL (b:L3):St Rv:=lgD b (newS rv0) pLg []
theorem lg_neg (b:L3):Lgn.negN Lgn.oursP [iqA,iqB] (lgP (who b))=(anP (who b),prm (who b),0):=by cases b<;>kernel_rfl
theorem segs_encB (L:List Pr):Txt.encB L=segs L:=by
 unfold Txt.encB segs
 congr 1
 funext p
 simp [Txt.encP,seg]
theorem lgT_is (b:L3) (ds:List UInt8):Ses.lgT [iqA,iqB] (lgP (who b)) (newS rv0) pLg ds=xL b:=by
 unfold Ses.lgT
 rw[lg_neg,if_pos rfl]
 dsimp only
 rw[segs_encB]
 rfl
theorem lgb_len (b:L3):(lgb b).length<=300:=by
 unfold lgb
 have:(dLg b).length<=100:=lg_size b
 rw[encP_length]
 split<;>omega
theorem xL_o (b:L3):(xL b).o.length<=4152:=by
 show([]++encQ _ (segs (anP (who b)))).length<=_
 rw[List.nil_append]
 exact encQ_length _ _
theorem lg_one {W:Ses.Wire} {du:Rv->List UInt8->Ses.Cm->Ses.Rp×Rv} {b:L3} {lg:St Rv->Pd->List UInt8->St Rv} {x:St Rv} (ho:x.s.op=false) (h:lg x pLg (dLg b)=xL b):one W du lg x pLg (dLg b)=xL b:=by
 unfold one
 rw[if_neg (by rw[ho];decide)]
 exact h
def D0 (x:St Rv):St Rv:=if x.s.op then x else{x with s:={x.s with sn:=0}}
abbrev newD:St Rv:={newS rv0 with s:={(newS rv0).s with sn:=0}}
theorem lg_fit (b:L3):Fit (hOf b) (xL b):=
 .open_ ⟨fineV0 _,rfl,by cases b<;>decide,⟨fits_m32 _,(by decide:Fits .u32 2),by show 512<=512/\512<=1000000000;omega,by cases b<;>decide,(λv hv=>by cases hv),by show 0<=16;omega⟩,(λv hv=>by cases hv),rfl⟩ rfl rfl (by show 0<=4155;omega)
variable {g1 g2 a r:Nat} {w:World} {S1 S2:Fp} {b:L3}
theorem InLast_c {K:Doer} {gd g:Nat} {A:List (List UInt8)} {S :Fp} (HK:Direct K gd) {lg:St K.U->Pd->List UInt8->St K.U} {x:St K.U} {src:Value} {bs:List UInt8} {p:Pd} {ds:List UInt8} (h:SAt K gd A w g S [] x) (hr:RdB w src bs) (hro:bs≠[]->∀q,src.ownBlock=some q->¬ S q) (hl:x.s.rd.length+bs.length<=1000000)
 (hc:x.s.cl=false) (hre:x.s.re=0) (hop:x.s.op=false) (hf:PdFits p) (hk:okP p=true) (hn:ds.length<=4096) (he:x.s.rd++bs=encP p ds) (hlo:LogD K gd A lg {x with s:={x.s with rd:=[]},o:=[]} p ds)
 {y:St K.U} (hy:y=one wireP K.step lg {x with s:={x.s with rd:=[]},o:=[]} p ds) (hrd:y.s.rd=[]) (hye:y.s.re=0) (hyo:y.o.length<=900000000) {R:KV}
 (k:∀v w' S',Step S w w' S'->SAt K gd A w' g S' [] y->RdB w' v y.o->R v w'):
 Zs 30 #[zA g,src] w R:=by
 subst hy
 have e:=inp_last (W:=wireP) (du:=K.step) (lg:=lg) hc hf hk hn he hrd
 obtain⟨d1,d2,d3,d4,_⟩:=dec_enc p ds hf hk hn
 have eo:off1 ({x with s:={x.s with rd:=x.s.rd++bs},o:=[]}:St K.U)={x with s:={x.s with rd:=[]},o:=[]}:=by
  unfold off1
  show({x with s:={x.s with rd:=(x.s.rd++bs).drop (decN (x.s.rd++bs)).toNat},o:=[]}:St K.U)=_
  rw[he,d4];simp
 refine In_c wireP_d HK (lg:=lg) h hr hro hl (λ_=>hre) (λ_=>⟨⟨hre,by simp,λh0 ho=>?_,λh0 ho=>?_,λh0 hcl=>?_⟩,λh0 hcl=>?_⟩) λv w' S' st h' r'=>k v w' S' st ?_ ?_
 ·exact absurd (hop.symm.trans ho) (by decide)
 ·rw[eo]
  show LogD K gd A lg _ (pdOf (x.s.rd++bs)) (decD (x.s.rd++bs))
  rw[he,d2,d3];exact hlo
 ·rw[eo]
  show(one wireP K.step lg _ (pdOf (x.s.rd++bs)) (decD (x.s.rd++bs))).s.rd=_
  rw[he,d2,d3,hrd]
 ·have ea:one wireP K.step lg (off1 ({x with s:={x.s with rd:=x.s.rd++bs},o:=[]}:St K.U)) (pdOf (x.s.rd++bs)) (decD (x.s.rd++bs))=one wireP K.step lg {x with s:={x.s with rd:=[]},o:=[]} p ds:=by rw[eo,he,d2,d3]
  show Along wireP K lg (NxD wireP K gd A lg) (x.s.rd.length+bs.length) (one wireP K.step lg (off1 ({x with s:={x.s with rd:=x.s.rd++bs},o:=[]}:St K.U)) (pdOf (x.s.rd++bs)) (decD (x.s.rd++bs)))
  rw[ea]
  generalize one wireP K.step lg {x with s:={x.s with rd:=[]},o:=[]} p ds=y at *
  have h3:decE y.s.rd=3:=by rw[hrd];exact short_nil
  cases x.s.rd.length+bs.length with
  |zero=>trivial
  |succ n=>exact⟨⟨hye,hyo,λh0=>absurd (h0.symm.trans h3) (by decide),λh0=>absurd (h0.symm.trans h3) (by decide),λh0=>absurd (h0.symm.trans h3) (by decide)⟩,λh0=>absurd (h0.symm.trans h3) (by decide)⟩
 ·rw[e]at h';exact h'
 ·rw[e]at r';exact r'
theorem dIn_c {S :Fp} {g:Nat} {o2:List UInt8} {src:Value} (h:SAt (docV g2 (hOf b)) g2 [iqA,iqB] w g S [] ({newD with o:=o2}:St Rv)) (hr:RdB w src (lgb b)) (hro:∀q,src.ownBlock=some q->¬ S q) {R:KV}
 (k:∀v w' S',Step S w w' S'->SAt (docV g2 (hOf b)) g2 [iqA,iqB] w' g S' [] (xL b)->RdB w' v (xL b).o->R v w'):Zs 30 #[zA g,src] w R:=by
 have l:=lgb_len b
 have l2:(dLg b).length<=100:=lg_size b
 have ho:=xL_o b
 exact InLast_c (Rf.docV_direct g2 (hOf b)) (lg:=lgD b) (p:=pLg) (ds:=dLg b) (y:=xL b) h hr (λ_=>hro) (by show 0+_<=_;omega) rfl rfl rfl pLg_fits pLg_ok (by omega) rfl
  (dLogin_c b rfl rfl (by decide:Fits .u32 1) (by show 0<=_;omega)) (lg_one rfl rfl).symm rfl rfl (by omega) k
theorem lgRight (b:L3):(∀q∈lgP (who b),Txt.rightB q=true)/\Txt.wrongA [] (lgP (who b))=false/\Txt.wrongA [] (anP (who b))=false:=by
 refine⟨?_,?_,?_⟩
 ·have:(lgP (who b)).all Txt.rightB=true:=by cases b<;>decide+kernel
  exact λq hq=>List.all_eq_true.1 this q hq
 ·cases b<;>decide+kernel
 ·cases b<;>decide+kernel
theorem smP_of {L:List Pr} (h1:L.length<=4) (h2:(segs L).length<=100):Txt.SmP L:=by
 refine⟨by omega,λp hp=>?_,λp hp=>?_,by rw[segs_encB];omega⟩<;>
 ·obtain⟨A,B,rfl⟩:=List.append_of_mem hp
  rw[segs_app]at h2
  simp only[segs,List.flatMap_cons,List.length_append,seg,List.length_cons]at h2
  omega
theorem aIn_c {S :Fp} {g:Nat} {src:Value} (h:Ses.SAt (docV g1 (hOf b)) [iqA,iqB] w g S [] (newS rv0)) (hr:RdB w src (lgb b)) (hro:∀q,src.ownBlock=some q->¬ S q) (hQ:∀w' S',Step S w w' S'->Txt.Env w') {R:KV}
 (k:∀v w' S',Step S w w' S'->Ses.SAt (docV g1 (hOf b)) [iqA,iqB] w' g S' [] ({xL b with o:=[]}:St Rv)->RdB w' v (xL b).o->R v w'):Zs 23 #[zA g,src] w R:=by
 have l:=lgb_len b
 have l2:(dLg b).length<=100:=lg_size b
 have ho:=xL_o b
 obtain⟨r1,r2,r3⟩:=lgRight b
 have sa:Txt.SmP (Lgn.negN Lgn.oursP [iqA,iqB] (lgP (who b))).1:=by rw[lg_neg];exact smP_of (by show 2<=4;omega) (an_size b)
 have na:Txt.wrongA [] (Lgn.negN Lgn.oursP [iqA,iqB] (lgP (who b))).1=false:=by rw[lg_neg];exact r3
 refine Ses.InLast_c wireP_ok (Q:=Txt.Env) (lg:=Ses.lgT [iqA,iqB] (lgP (who b))) (p:=pLg) (ds:=dLg b) (y:=xL b) h hr hQ (λ_=>hro) (by show 0+_<=_;omega) rfl rfl pLg_fits pLg_ok (by omega) rfl (λhop=>by cases hop)
  (λ_=>Ses.Login_c rfl (segs_encB _).symm r1 (smP_of (by show 4<=4;omega) l2) r2 (by show 4<=_;omega) sa na (by decide:Fits .u32 1) (by decide:Fits .u32 1) (by show 0<=_;omega))
  (lg_one rfl (lgT_is b _)).symm rfl rfl (by omega) λv w' S' st h' r' _=>k v w' S' st h' r'
theorem lgBoth_c (hE:∀w',Md (λq=>S1 q\/S2 q) w.heap.size w w'->Txt.Env w') (t:TwoD D0 g1 g2 a r (hOf b) [iqA,iqB] w S1 S2 (newS rv0)) {v:Value} (hb:RdB w v (lgb b)) (hv:∀q,v.ownBlock=some q->¬S1 q/\¬S2 q) {R:KV}
 (k:∀w' S1' S2' x',Step (λq=>S1 q\/S2 q) w w' (λq=>S1' q\/S2' q)->Two g1 g2 a r (hOf b) [iqA,iqB] w' S1' S2' x'->Fit (hOf b) x'->R (.bool true) w'):
 Zs 12 #[zA a,zA r,v,.int .i64 (999:Int)] w R:=by
 have l:=lgb_len b
 have ho:=xL_o b
 have ne:lgb b≠[]:=λe=>by
  have h:=congrArg List.length e
  unfold lgb at h
  rw[encP_length]at h
  simp only[List.length_nil]at h
  omega
 refine both_g D0 (Q:=Txt.Env) (F:=λx rest=>(x=newS rv0/\rest=lgb b)\/(rest=[]/\x=xL b)) (nx:=λ_ _=>xL b) (λx rest n hn f hne=>?_) (λ_ _=>rfl) (λx f=>?_) hE (λ{ww S v x rest n R} hn f hne ta r9 hq hQ k=>?_) (λ{ww S v x rest o2 n R} hn f hne tr r9 hq k=>?_) t (.inl ⟨rfl,rfl⟩) hb (λ_=>hv) (by omega) k
 ·obtain⟨rfl,rfl⟩:=f.resolve_right (λq=>hne q.1)
  exact⟨.inr ⟨List.drop_eq_nil_of_le (by omega),rfl⟩,by omega⟩
 ·rcases f with ⟨_,e⟩|⟨_,rfl⟩
  ·exact absurd e.symm ne
  ·exact⟨lg_fit b,rfl⟩
 ·obtain⟨rfl,rfl⟩:=f.resolve_right (λq=>hne q.1)
  rw[List.take_of_length_le (by omega)]at r9
  exact aIn_c ta r9 hq hQ k
 ·obtain⟨rfl,rfl⟩:=f.resolve_right (λq=>hne q.1)
  rw[List.take_of_length_le (by omega)]at r9
  exact dIn_c tr r9 hq k
end Go.Proofs.YtdinpgnjnleioaaGreatDoor.Rs
end
section
namespace Go.Proofs.YtdinpgnjnleioaaGreatDoor.Rs
open CW RowKit Pdu
variable {w w':World}
theorem rd_litQ {w:World} {b n:Nat} {L:List Pr} {cs:Array Value} (h:BK w b cs tPa) (hc:cs.toList=EQ.flat L) (hn:n=L.length) (hl:L.length<=1000):RdR EQ w (.slice (some ⟨b,0,none⟩) n n) L:=by
 subst hn
 refine⟨some ⟨b,0,none⟩,L.length,rfl,Nat.le_refl _,by simp only[maxLen];omega,(λh=>(by cases h)),λq u hq=>⟨_,rfl,?_⟩⟩
 rw[h.cell,←hq,←hc]
 simp
theorem login_c (b:L3) {R:KV} (k:∀v w',Grow w w'->OwnB w' w.heap.size tb v (lgb b)->R v w'):Zs 13 #[.string (textOf (who b).nm),.string (textOf (who b).bu),.string (textOf vY)] w R:=by
 apply q16W
 refine nm λw0 e0=>?_
 obtain⟨b0,g0,z0⟩:=alE e0
 have l2:(dLg b).length<=100:=lg_size b
 have r0:RdR EQ w0 (.slice (some ⟨w.heap.size,0,none⟩) 4 4) (lgP (who b)):=rd_litQ (cs:= #[.string (textOf kN),.string (textOf (who b).nm),.string (textOf kM),.string (textOf vM),.string (textOf kB),.string (textOf (who b).bu),.string (textOf kI),.string (textOf vY)]) b0 (by simp [Enc.flat,EQ,lgP]) rfl (by show 4<=_;omega)
 refine tEncode_c r0 (rightOk b) (nodup_keys (lg_keys b)) (by show(dLg b).length<=_;omega) (by show 4<=_;omega) λv1 w2 g2 o2=>⟨_,_,rfl,oneK_of (Rd.isOne o2.rd) ?_⟩
 refine rEncode_c (p:=pLg) (ds:=dLg b) pLg_fits o2.rd λv5 e w6 g6 c1 c2 c3=>⟨v5,e,rfl,?_⟩
 have z2:=g2.size
 exact k v5 w6 ((g0.then g2).then g6) ((c3 pLg_ok (by show(dLg b).length<=_;omega)).1.mono (by omega))
theorem few_c {v:Value} {n:Nat} (hn:sliceLen v=some n) (hx:∀(i:Nat),i < n->∃a x m,sliceAt v (i:Int) 29=some a/\w.cell? (Addr.add (Addr.add a 0) 26)=some x/\sliceLen x=some m) {R:KV}
 (kf:R (.bool false) w) (kt:(n<=60/\∀(i:Nat),i < n->∀a x m,sliceAt v (i:Int) 29=some a->w.cell? (Addr.add (Addr.add a 0) 26)=some x->sliceLen x=some m->m<=1000)->R (.bool true) w):
 Zs 7 #[v] w R:=by
 apply q15W
 refine⟨_,hn,cond_intro (λ_=>kf) (λhc=>?_)⟩
 have hc:n<=60:=by have:=of_decide_eq_false hc;omega
 refine⟨λ(i:Int) (ww:World)=>∃i':Nat,i=(i':Int)/\ww=w/\i'<=n/\∀(j:Nat),j < i'->∀a x m,sliceAt v (j:Int) 29=some a->w.cell? (Addr.add (Addr.add a 0) 26)=some x->sliceLen x=some m->m<=1000,λ(i:Int) (_:World)=>((n:Int) - i).toNat,⟨0,rfl,rfl,Nat.zero_le _,λj hj=>absurd hj (Nat.not_lt_zero _)⟩,?_⟩
 dsimp only[allR,mapR2,eqN,ltN]
 rintro m _ ww ⟨⟨i,rfl,rfl,hi,hall⟩,hm⟩
 refine⟨_,hn,cond_intro (λhl=>?_) (λhl=>?_)⟩
 ·have hl:i < n:=by have:=of_decide_eq_true hl;omega
  obtain⟨a,x,m7,h1,h2,h3⟩:=hx i hl
  refine⟨a,h1,x,h2,m7,h3,cond_intro (λ_=>kf) (λh7=>?_)⟩
  have h7:m7<=1000:=by have:=of_decide_eq_false h7;omega
  rw[wi64_id (n:=(i:Int)+1) (by omega) (by omega)]
  refine⟨⟨i+1,by omega,rfl,by omega,λj hj a' x' m' q1 q2 q3=>?_⟩,by omega⟩
  by_cases e:j < i
  ·exact hall j e a' x' m' q1 q2 q3
  ·obtain rfl:j=i:=by omega
   rw[h1]at q1;cases q1
   rw[h2]at q2;cases q2
   rw[h3]at q3;cases q3
   exact h7
 ·have hl:i=n:=by have:=of_decide_eq_false hl;omega
  subst hl
  exact kt ⟨hc,hall⟩
end Go.Proofs.YtdinpgnjnleioaaGreatDoor.Rs
end
section
namespace Go.Proofs.YtdinpgnjnleioaaGreatDoor.Rs
open CW RowKit Pdu
open Ses (St Ses m32 encQ encQ_length fits_m32 wireP wireP_ok one newS SOk TkOk Rd.turnX)
open Rf (Rv stepV docV iqA iqB doer_c)
variable {w w':World}
def pPg:Pd:={zP with tag:=5}
def dPg:List UInt8:=[112,105,110,103]
theorem pPg_fits:PdFits pPg:=⟨(by decide:Fits .i64 0),(by decide:Fits .i64 0),(by decide:Fits .i64 0),(by decide:Fits .u32 5),(by decide:Fits .u32 0),(by decide:Fits .u32 0),(by decide:Fits .u32 0),(by decide:Fits .u32 0),(by decide:Fits .u32 0)⟩
def pA1:Pd:={lgQ 1 with exp:=11,mx:=26}
def pA2:Pd:={zP with op:=32,tag:=5,sn:=2,exp:=11,mx:=26}
theorem pA1_fits:PdFits pA1:=⟨(by decide:Fits .i64 35),(by decide:Fits .i64 0),(by decide:Fits .i64 0),(by decide:Fits .u32 1),(by decide:Fits .u32 1),(by decide:Fits .u32 11),(by decide:Fits .u32 26),(by decide:Fits .u32 0),(by decide:Fits .u32 0)⟩
theorem pA2_fits:PdFits pA2:=⟨(by decide:Fits .i64 32),(by decide:Fits .i64 0),(by decide:Fits .i64 0),(by decide:Fits .u32 5),(by decide:Fits .u32 2),(by decide:Fits .u32 11),(by decide:Fits .u32 26),(by decide:Fits .u32 0),(by decide:Fits .u32 0)⟩
theorem encQ_is {p:Pd} {ds:List UInt8} (h:okP p=true) (hl:ds.length<=4096):encQ p ds=encP p ds:=by unfold encQ;rw[if_pos ⟨h,hl⟩]
theorem out1:(xL .wc).o=encP pA1 (segs (anP whoC)):=by
 have e:(xL .wc).o=encQ pA1 (segs (anP whoC)):=rfl
 rw[e,encQ_is (by decide) (by have:=an_size .wc;show(segs (anP (who .wc))).length<=_;omega)]
abbrev xC:St Rv:={xL .wc with o:=[]}
def yC:St Rv:=Ses.sayN xC 32 {zP with tag:=5} dPg
theorem out2:yC.o=encP pA2 dPg:=by
 have e:yC.o=encQ pA2 dPg:=rfl
 rw[e,encQ_is (by decide) (by decide)]
theorem xC_ok:SOk xC.s:=⟨(by decide:Fits .u32 11),(by decide:Fits .u32 2),(by show 512<=512/\512<=1000000000;omega),(by decide),(λv hv=>by cases hv),(by show 0<=16;omega)⟩
theorem known_c (hE:Txt.Env w) {R:KV} (k:∀w',Grow w w'->R (.bool true) w'):Zs 6 #[] w R:=by
 apply q20W
 refine Pip.acl_c λv0 w1 g1 r1=>doer_c (h:=hOf .wc) λgd F w3 g3 hF hd=>⟨_,rfl,?_⟩
 refine Ses.New_c (K:=docV gd (hOf .wc)) hd (r1.grow g3) (by show 2<=_;omega) λg w6 S6 st6 hg6 h6=>⟨_,rfl,false,rfl,cond_f rfl ?_⟩
 have h6:Ses.SAt (docV gd (hOf .wc)) [iqA,iqB] w6 g S6 [] (newS rv0):=h6
 have z1:=g1.size
 have z3:=g3.size
 have m6:Md (λ_=>False) w.heap.size w w6:=(((Md.refl _ _ w).grow g1).grow g3).stp (T':=S6) st6 (λq hq=>.inr (by have:=hF q hq;omega)) (λq hq=>(st6.fp q hq).elim (λz=>.inl (.inr (by have:=hF q z;omega))) .inr)
 have lo6:∀q,S6 q->w.heap.size<=q:=λq hq=>(st6.fp q hq).elim (λz=>by have:=hF q z;omega) (λz=>by omega)
 have b6:Grow w w6:=m6.below (Nat.le_refl _) (λq hq=>hq.elim)
 refine login_c .wc λv9 w10 g10 o10=>?_
 have h10:=h6.grow g10
 have b10:=b6.then g10
 have lt6:=h6.lt
 refine aIn_c (b:=.wc) h10 o10.rd (λq hq hS=>by have:=lt6 q hS;have:=o10.blk q hq;omega) (λw' S' st=>hE.grow (((Md.refl (λ_=>False) w.heap.size w).grow b10).stp (T':=S') st (λq hq=>.inr (lo6 q hq)) (λq hq=>(st.fp q hq).elim (λz=>.inl (.inr (lo6 q z))) .inr) |>.below (Nat.le_refl _) (λq hq=>hq.elim))) λv11 w12 S12 st12 h12 r12=>?_
 have st12:Step S6 w10 w12 S12:=st12
 have lo12:∀q,S12 q->w.heap.size<=q:=λq hq=>(st12.fp q hq).elim (lo6 q) (λz=>by have:=b10.size;omega)
 have b12:Grow w w12:=((Md.refl (λ_=>False) w.heap.size w).grow b10).stp (T':=S12) st12 (λq hq=>.inr (lo6 q hq)) (λq hq=>(st12.fp q hq).elim (λz=>.inl (.inr (lo6 q z))) .inr) |>.below (Nat.le_refl _) (λq hq=>hq.elim)
 rw[out1]at r12
 have sz1:(segs (anP whoC)).length<=4096:=by have:=an_size .wc;show(segs (anP (who .wc))).length<=_;omega
 obtain⟨d1,d2,d3,d4,_⟩:=dec_enc pA1 (segs (anP whoC)) pA1_fits (by decide) sz1
 have le1:(encP pA1 (segs (anP whoC))).length<=100000:=by rw[encP_length];split<;>omega
 refine rDecode_c r12 (by omega) λdv n w14 g14 rd14 n14 _=>?_
 rw[if_pos d1,d2,d1]
 rw[if_pos d1,d3]at rd14
 refine⟨_,_,_,_,_,_,_,_,_,_,_,_,_,_,_,_,_,_,_,_,_,_,_,_,_,_,_,_,_,rfl,nm λw44 e44=>?_⟩
 obtain⟨b44,g44,z44⟩:=alE e44
 refine⟨b44.row rfl (one_rP (Rd.isOne rd14)),nm λw45 e45=>?_⟩
 obtain⟨b45,t45⟩:=rowE b44 e45 rfl
 have b45:BK w45 w14.heap.size (rP pA1 dv) tP:=b45
 have z14:=g14.size
 have lt12:=h12.lt
 have h45:Ses.SAt (docV gd (hOf .wc)) [iqA,iqB] w45 g S12 [] xC:=((h12.grow g14).grow g44).turn t45 (λhq=>by have:=lt12 _ hq;omega)
 refine nm λw46 e46=>?_
 obtain⟨w47,k47,g46,r46⟩:=conv_lit (P:=Tryz.prog) (t:=33) (e:=tb) (by kernel_rfl) (by kernel_rfl) w45 dPg 4 rfl (by decide)
 refine⟨.slice (some ⟨w45.heap.size,0,none⟩) 4 4,w47,by rw[e46];exact k47,oneK_of rfl ?_⟩
 have b46:=b45.grow g46
 have h46:=h45.grow g46
 refine rEncode_c (p:=pPg) (ds:=dPg) pPg_fits r46 λv49 n50 w50 g50 c1 c2 c3=>⟨v49,n50,rfl,?_⟩
 obtain⟨o50,_⟩:=c3 (by decide) (by decide)
 have h50:=h46.grow g50
 have lt46:=h46.lt
 refine Ses.InLast_c wireP_ok (K:=docV gd (hOf .wc)) (A:=[iqA,iqB]) (Q:=λ_=>True) (lg:=lgN) (x:=xC) (p:=pPg) (ds:=dPg) (y:=yC) h50 o50.rd (λ_ _ _=>trivial) (λ_ q hq hS=>by have:=lt46 q hS;have:=o50.blk q hq;omega) (by show 0+(encP pPg dPg).length<=_;rw[encP_length];split<;>decide) rfl rfl pPg_fits (by decide) (by decide) rfl
  (λ_=>⟨xC_ok,⟨λh=>absurd h (by decide),λh=>absurd h (by decide),λh=>absurd h (by decide)⟩⟩) (λh=>by cases h) rfl rfl rfl (by rw[out2,encP_length];split<;>decide) λv53 w54 S54 st54 h54 r54 _=>?_
 have r54:RdB w54 v53 yC.o:=r54
 rw[out2]at r54
 have h54:Ses.SAt (docV gd (hOf .wc)) [iqA,iqB] w54 g S54 [] ({yC with o:=[]}:St Rv):=h54
 obtain⟨q1,q2,q3,q4,_⟩:=dec_enc pA2 dPg pA2_fits (by decide) (by decide)
 have le2:(encP pA2 dPg).length<=100000:=by rw[encP_length];split<;>decide
 refine rDecode_c r54 (by omega) λev m w56 g56 rd56 n56 _=>?_
 rw[if_pos q1,q2,q1]
 rw[if_pos q1,q3]at rd56
 refine⟨_,_,_,_,_,_,_,_,_,_,_,_,_,_,_,_,_,_,_,_,_,_,_,_,_,_,_,_,_,rfl,nm λw86 e86=>?_⟩
 obtain⟨b86,g86,z86⟩:=alE e86
 refine⟨b86.row rfl (one_rP (Rd.isOne rd56)),nm λw87 e87=>?_⟩
 obtain⟨b87,t87⟩:=rowE b86 e87 rfl
 have b87:BK w87 w56.heap.size (rP pA2 ev) tP:=b87
 have z56:=g56.size
 have lt54:=h54.lt
 have z46:=g46.size
 have z50:=g50.size
 have z54:=st54.size
 have z45:=b45.lt
 have h87:=((h54.grow g56).grow g86).turn t87 (λhq=>by have:=lt54 _ hq;omega)
 have rd87:RdB w87 ev dPg:=Rd.turnX (rd56.grow g86) t87 (λhx e=>by have:=Rd.lt rd56 hx _ e;omega)
 have a50:=b46.grow g50
 have a54:BK w54 w14.heap.size (rP pA1 dv) tP:=a50.stepS st54 (λhS=>by have:=lt12 _ hS;omega)
 have a87:=((a54.grow g56).grow g86).turn t87 (by omega)
 refine JoinP.go ⟨_,a87.cell 0,cond_t rfl ⟨_,a87.cell 3,cond_t rfl ⟨_,a87.cell 6,cond_t rfl (cond_t rfl ⟨_,b87.cell 0,cond_t rfl ⟨_,b87.cell 26,_,to_text rd87,cond_t (by rw[show(ByteArray.mk #[112,105,110,103])=textOf dPg from rfl];simp) ⟨_,b87.cell 5,cond_t rfl ?_⟩⟩⟩)⟩⟩⟩
 obtain⟨κ,gr,acl,rv,lv,tv,hs,FU,hI⟩:=h87
 refine tName_c hI ⟨_,rfl,cond_t (by show((textOf whoC.nm).toList==(textOf [105,113,110,46,97]).toList)=true;simp [whoC]) (tExp_c hI ⟨_,rfl,cond_t rfl (tClosed_c hI ⟨_,rfl,?_⟩)⟩)⟩
 have gE:Grow w w87:=by
  have m:=((Md.refl (λ_=>False) w.heap.size w).grow b12).grow g14
  have m45:=((m.grow g44).turn t45 (.inr (by have:=b12.size;omega))).grow (g46.then g50)
  have m54:=m45.stp (T':=S54) st54 (λq hq=>.inr (lo12 q hq)) (λq hq=>(st54.fp q hq).elim (λz=>.inl (.inr (lo12 q z))) .inr)
  have m87:=((m54.grow g56).grow g86).turn t87 (.inr (by have:=m54.size;omega))
  exact m87.below (Nat.le_refl _) (λq hq=>hq.elim)
 exact k w87 gE
end Go.Proofs.YtdinpgnjnleioaaGreatDoor.Rs
end
section
namespace Go.Proofs.YtdinpgnjnleioaaGreatDoor.Rs
open CW RowKit Pdu
open Ses (St Ses Doer ET newS tStr reS Pt)
open Rf (Rv docV iqA iqB doer_c docVAt)
variable {w w':World}
theorem aclO_c {R:KV} (k:∀v w',Grow w w'->OwnR ET w' w.heap.size tStr v [iqA,iqB]->R v w'):Zs 9 #[] w R:=by
 apply q14W
 refine nm λw0 e0=>?_
 have g0:Grow w w0:=by rw[e0];exact Grow.al (Grow.refl w) _
 have ho:OwnR ET w0 w.heap.size tStr (.slice (some ⟨w.heap.size,0,none⟩) 2 2) [iqA,iqB]:=by
  rw[e0]
  exact OwnR.lit w (Nat.le_refl _) tStr [iqA,iqB] 2 rfl (by simp [maxLen])
 exact k _ w0 g0 ho
theorem mkT_c {h:Nat} {R:Option Addr->World->Prop} (k:∀gd a w' S,Grow w w'->(∀q, S q->w.heap.size<=q/\q < w'.heap.size)->Ses.SAt (docV gd h) [iqA,iqB] w' a S [] (newS rv0)->R (some ⟨a,0,none⟩) w'):
 Zs 9 #[] w λv5 w6=>Zs 10 #[] w6 λv7 w8=>∃(o9:Option Addr),((v7:Value)=(.pointer o9))/\
  Zs 8 #[v5,(.func (.func 11) #[(.pointer o9)] #[])] w8 λv10 w11=>∃(o12:Option Addr),((v10:Value)=(.pointer o12))/\R o12 w11:=by
 refine aclO_c λv0 w1 g1 r1=>doer_c (h:=h) λgd F w3 g3 hF hd=>⟨_,rfl,?_⟩
 refine Ses.New_c (K:=docV gd h) hd (r1.rd.grow g3) (by show 2<=_;omega) λg w6 S6 st6 hg6 h6=>⟨_,rfl,?_⟩
 have h6:Ses.SAt (docV gd h) [iqA,iqB] w6 g S6 [] (newS rv0):=h6
 have z1:=g1.size
 have z3:=g3.size
 have m6:Md (λ_=>False) w.heap.size w w6:=(((Md.refl _ _ w).grow g1).grow g3).stp (T':=S6) st6 (λq hq=>.inr (by have:=hF q hq;omega)) (λq hq=>(st6.fp q hq).elim (λz=>.inl (.inr (by have:=hF q z;omega))) .inr)
 exact k gd g w6 S6 (m6.below (Nat.le_refl _) (λq hq=>hq.elim)) (λq hq=>⟨(st6.fp q hq).elim (λz=>by have:=hF q z;omega) (λz=>by omega),h6.lt q hq⟩) h6
theorem dNew_at {K:Doer} {gd B:Nat} {w w1:World} {FU:Fp} {u:K.U} {av:Value} {A:List (List UInt8)} (hu:K.At w FU u) (ha:OwnR ET w B tStr av A) (hap:∀q,av.ownBlock=some q->¬FU q)
 (e:w1=World.alloc w (.cells (rS gd av nilV ({(newS u).s with sn:=0}:Ses) nilV nilV) tSes)):SAt K gd A w1 w.heap.size (λq=>FU q\/q=w.heap.size\/av.ownBlock=some q) [] ({newS u with s:={(newS u).s with sn:=0}}:St K.U):=by
 obtain⟨b1,g1,z1⟩:=alE e
 have ltF:∀q,FU q->q < w.heap.size:=K.lt hu
 have ltA:∀q,av.ownBlock=some q->q < w.heap.size:=λq hq=>(ha.lt q hq).2
 have hlt:∀q,(FU q\/q=w.heap.size\/av.ownBlock=some q)->q < w1.heap.size:=λq hq=>by
  rcases hq with hq|rfl|hq
  ·have:=ltF q hq;omega
  ·omega
  ·have:=ltA q hq;omega
 refine⟨λq=>if q=w.heap.size then 1 else if av.ownBlock=some q then 7 else 6,av,nilV,nilV,nilV,[],FU,⟨b1,?_⟩⟩
 refine⟨hlt,⟨.inr (.inl rfl),by simp⟩,Rd.nil _,λh=>absurd rfl h,OwnR.nil _ _ _,(λq hq=>by cases hq),Own.nil _ _ _,(λq hq=>by cases hq),K.stable hu g1.size (λq hq=>g1.block q (ltF q hq)),λq hq=>⟨.inl hq,?_⟩,rfl,(λi hi=>absurd hi (Nat.not_lt_zero _)),(λi hi=>absurd hi (Nat.not_lt_zero _)),(λq hq=>by cases hq),ha.rd.grow g1,λq hq=>⟨.inr (.inr hq),?_⟩⟩
 ·have h1:=ltF q hq
  have h2:av.ownBlock≠some q:=λe=>hap q e hq
  simp only
  rw[if_neg (by omega),if_neg h2]
 ·have h1:=ltA q hq
  simp only
  rw[if_neg (by omega),if_pos hq]
theorem mkD_c {h:Nat} {R:World->World->Prop} (k:∀gd w24 w' S,Grow w w'->(∀q, S q->w.heap.size<=q/\q < w'.heap.size)->SAt (docV gd h) gd [iqA,iqB] w' w24.heap.size S [] newD->R w24 w'):
 Zs 9 #[] w λv21 w22=>Zs 10 #[] w22 λv23 w24=>∃(o25:Option Addr),((v23:Value)=(.pointer o25))/\
  oneK v21 (bindW (World.alloc w24 (.cells #[v21,(.pointer o25),(.slice none 0 0),(.int .i64 (0:Int)),(.bool false),(.bool false),(.string (ByteArray.mk #[])),(.int .i64 (0:Int)),(.int .i64 (0:Int)),(.bool false),(.bool false),(.int .u32 (0:Int)),(.int .u32 (0:Int)),(.slice none 0 0),(.slice none 0 0)] tSes)) λw26=>R w24 w26):=by
 refine aclO_c λv0 w1 g1 r1=>doer_c (h:=h) λgd F w3 g3 hF hd=>⟨_,rfl,?_⟩
 have one1:isOne v0=true:=by obtain⟨a,cap,rfl,_⟩:=r1.rd;rfl
 refine oneK_of one1 (nm λw5 e5=>?_)
 have z1:=g1.size
 have z3:=g3.size
 have r3:OwnR ET w3 w.heap.size tStr v0 [iqA,iqB]:=r1.grow g3
 obtain⟨b5,g5,z5⟩:=alE e5
 have hat:=dNew_at (K:=docV gd h) (gd:=gd) (w1:=w5) hd r3 (λq hq hf=>by have:=hF q hf;have:=(r1.lt q hq).2;omega) e5
 refine k gd w3 w5 _ ((g1.then g3).then g5) (λq hq=>⟨?_,hat.lt q hq⟩) hat
 rcases hq with hq|rfl|hq
 ·have:=hF q hq;omega
 ·omega
 ·exact(r1.lt q hq).1
end Go.Proofs.YtdinpgnjnleioaaGreatDoor.Rs
end
