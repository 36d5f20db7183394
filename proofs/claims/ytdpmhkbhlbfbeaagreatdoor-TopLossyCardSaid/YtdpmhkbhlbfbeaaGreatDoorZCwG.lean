/- A part of the proof. -/
import Derived.Test.YtdpmhkbhlbfbeaaGreatDoorZCwF
namespace Go.CW
variable {P:Program}
theorem lv_of_look {ops:List Oper} {t:Nat}:∀{l:List Oper} {L:Nat},(∀o∈l,o.dst≠some t)->(∃o∈l,t∈looks ops o)->(lvOps ops l L).testBit t=true:=by
 intro l
 induction l with
 |nil=>intro L _ h;obtain⟨o,ho,_⟩:=h;cases ho
 |cons o l ih=>
  intro L hd h
  obtain⟨o',ho',ht⟩:=h
  simp only[lvOps]
  rcases List.mem_cons.1 ho' with e|ho'
  ·subst e
   unfold looks at ht
   rcases List.mem_append.1 ht with ht|ht
   ·unfold rdGuard
    cases hg:o'.guard with
    |none=>rw[hg]at ht;cases ht
    |some g=>
     obtain⟨j,want⟩:=g
     rw[hg]at ht
     simp only at ht ⊢
     cases hdj:dstAt ops j with
     |none=>rw[hdj]at ht;cases ht
     |some d=>
      rw[hdj]at ht
      simp at ht
      subst ht
      simp [testBit_addB]
   ·refine rdGuard_mono _ _ _ _ ?_
    obtain⟨x,hx,hxt⟩:=List.mem_filterMap.1 ht
    cases x with
    |tmp t'=>
     simp at hxt
     subst hxt
     have:∀(xs:List Operand) (L:Nat),Operand.tmp t'∈xs->(rdOpds xs L).testBit t'=true:=by
      intro xs
      induction xs with
      |nil=>intro L h;cases h
      |cons y ys ih=>
       intro L h
       simp only[rdOpds]
       rcases List.mem_cons.1 h with e|h
       ·subst e;simp [rdOpd,testBit_addB]
       ·exact rdOpd_mono _ _ _ (ih L h)
     exact this _ _ hx
    |_=>simp at hxt
  ·refine rdGuard_mono _ _ _ _ (rdOpds_mono _ _ _ ?_)
   have:=ih (L:=L) (λo ho=>hd o (by simp [ho])) ⟨o',ho',ht⟩
   unfold remDst
   cases ho:o.dst with
   |none=>exact this
   |some d=>
    simp only[testBit_remB,this,Bool.and_true,decide_eq_true_eq]
    exact λe=>hd o (by simp) (by rw[ho,e])
theorem lv_of_live {ops:List Oper} {t:Nat}:∀{l:List Oper} {L:Nat},(∀o∈l,o.dst≠some t)->L.testBit t=true->(lvOps ops l L).testBit t=true:=by
 intro l
 induction l with
 |nil=>intro L _ h;exact h
 |cons o l ih=>
  intro L hd h
  simp only[lvOps]
  refine rdGuard_mono _ _ _ _ (rdOpds_mono _ _ _ ?_)
  have:=ih (L:=L) (λo ho=>hd o (by simp [ho])) h
  unfold remDst
  cases ho:o.dst with
  |none=>exact this
  |some d=>
   simp only[testBit_remB,this,Bool.and_true,decide_eq_true_eq]
   exact λe=>hd o (by simp) (by rw[ho,e])
structure Wf (ops:List Oper):Prop where
 unique:∀i j,i < ops.length->j < ops.length->i≠j->∀d,(opAt ops i).dst=some d->(opAt ops j).dst≠some d
 c3:∀i,i < ops.length->∀t∈looks ops (opAt ops i),∀j,j < ops.length->(opAt ops j).dst=some t->((befL [] ops).getD i 0).testBit j=true\/isOld ops i t
 c4:∀i,i < ops.length->∀e∈(opAt ops i).after.toList,Region.binds .any e=true->e.on < i
 c6:∀i j,i < ops.length->j < i->((befL [] ops).getD i 0).testBit j=true->∀k,((befL [] ops).getD j 0).testBit k=true->((befL [] ops).getD i 0).testBit k=true
theorem uniqueD_spec {ops0:List Oper}:∀{ops:List Oper},uniqueD ops0 ops=true->∀i j,i < ops.length->j < ops.length->i < j->∀d,(opAt ops i).dst=some d->(opAt ops j).dst≠some d:=by
 intro ops
 induction ops with
 |nil=>intro _ i j hi;simp at hi
 |cons o ops ih=>
  intro h i j hi hj hlt d hd
  simp only[uniqueD,Bool.and_eq_true]at h
  cases j with
  |zero=>omega
  |succ j=>
   cases i with
   |zero=>
    have hd':o.dst=some d:=by simpa[opAt]using hd
    rw[hd']at h
    have h1:=h.1
    simp only[List.all_eq_true,Bool.not_eq_true',beq_eq_false_iff_ne]at h1
    have hj':j < ops.length:=by simpa using hj
    refine h1 (opAt ops j) ?_
    rw[opAt,List.getD_eq_getElem?_getD,List.getElem?_eq_getElem hj'];exact List.getElem_mem hj'
   |succ i=>
    have:=ih h.2 i j (by simpa using hi) (by simpa using hj) (by omega) d (by simpa[opAt]using hd)
    simpa[opAt]using this
theorem wf_of {ops:List Oper} (h:drawOkB ops=true):Wf ops:=by
 unfold drawOkB at h
 simp only[Bool.and_eq_true,List.all_eq_true,List.mem_range,Bool.or_eq_true,Bool.not_eq_true',beq_eq_false_iff_ne,Nat.blt_eq]at h
 obtain⟨⟨⟨h1,h3⟩,h4⟩,h6⟩:=h
 refine⟨λi j hi hj hne d hd=>?_,λi hi t ht j hj hd=>?_,λi hi e he hb=>?_,λi j hi hj hb k hk=>?_⟩
 ·rcases Nat.lt_or_ge i j with hlt|hge
  ·exact uniqueD_spec h1 i j hi hj hlt d hd
  ·intro hd'
   exact uniqueD_spec h1 j i hj hi (by omega) d hd' hd
 ·rcases h3 i hi t ht j hj with (h|h)|h
  ·exact absurd hd h
  ·exact .inl h
  ·exact .inr ⟨by simpa using h.2,j,hj,hd,h.1⟩
 ·rcases h4 i hi e he with h|h
  ·rw[hb]at h;cases h
  ·exact h
 ·rcases h6 i hi j hj with h|h
  ·rw[hb]at h;cases h
  ·have:=Nat.eq_of_beq_eq_true h
   rw[←this,Nat.testBit_or,hk,Bool.or_true]
theorem isOld_quiet {ops:List Oper} {i:Nat} {t:Tmp} (h:isOld ops i t):isEff P (opAt ops i)=false:=by
 unfold isEff
 rw[(mvOf_spec h.1).2]
theorem lvOps_append {ops:List Oper} {L:Nat}:∀{a b:List Oper},lvOps ops (a++b) L=lvOps ops a (lvOps ops b L):=by
 intro a
 induction a with
 |nil=>intro b;rfl
 |cons o a ih=>intro b;simp only[List.cons_append,lvOps,ih]
theorem Wf.lt {ops:List Oper} (h:Wf ops):∀n i,i < n->i < ops.length->∀j,((befL [] ops).getD i 0).testBit j=true->j < i:=by
 intro n
 induction n with
 |zero=>intro i hi;omega
 |succ n ih=>
  intro i hin hi j hj
  obtain⟨e,he,hb,hh⟩:=befL_edge hi hj
  have hlt:=h.c4 i hi e he hb
  rcases hh with hh|⟨_,hh⟩
  ·omega
  ·have:=ih e.on (by omega) (by omega) j hh
   omega
theorem Wf.lt' {ops:List Oper} (h:Wf ops) {i j:Nat} (hi:i < ops.length) (hj:((befL [] ops).getD i 0).testBit j=true):j < i:=h.lt (i+1) i (by omega) hi j hj
theorem Wf.trans {ops:List Oper} (h:Wf ops) {i j k:Nat} (hi:i < ops.length) (hj:((befL [] ops).getD i 0).testBit j=true) (hk:((befL [] ops).getD j 0).testBit k=true):((befL [] ops).getD i 0).testBit k=true:=
 h.c6 i j hi (h.lt' hi hj) hj k hk
theorem Wf.old {ops:List Oper} (h:Wf ops) {i:Nat} {t:Tmp} (ho:isOld ops i t):∃j,j < ops.length/\(opAt ops j).dst=some t/\((befL [] ops).getD j 0).testBit i=true/\i < j/\i < ops.length/\∀k,k < ops.length->(opAt ops k).dst=some t->k=j:=by
 obtain⟨_,j,hj,hd,hb⟩:=ho
 have hlt:=h.lt' hj hb
 refine⟨j,hj,hd,hb,hlt,by omega,λk hk hk'=>?_⟩
 rcases Nat.lt_trichotomy k j with e|e|e
 ·exact absurd hd (h.unique k j hk hj (by omega) t hk')
 ·exact e
 ·exact absurd hd (h.unique k j hk hj (by omega) t hk')
theorem Wf.oldLv {ops:List Oper} (h:Wf ops) {i:Nat} {t:Tmp} (ho:isOld ops i t) {L:Nat}:(lvOps ops ops L).testBit t=true:=by
 obtain⟨j,hj,hd,hb,hlt,hi,hu⟩:=h.old ho
 have e:ops=ops.take (i+1)++ops.drop (i+1):=(List.take_append_drop _ _).symm
 have e2:lvOps ops ops L=lvOps ops (ops.take (i+1)) (lvOps ops (ops.drop (i+1)) L):=by
  rw[←lvOps_append,List.take_append_drop]
 rw[e2]
 refine lv_of_look (λo hom hod=>?_) ⟨opAt ops i,?_,?_⟩
 ·obtain⟨k,hk,rfl⟩:=List.mem_iff_getElem.1 hom
  have hk2:k < i+1/\k < ops.length:=by
   have hk3:=hk
   rw[List.length_take]at hk3
   omega
  rw[List.getElem_take]at hod
  have:=hu k hk2.2 (by rw[opAt,List.getD_eq_getElem?_getD,List.getElem?_eq_getElem hk2.2];exact hod)
  omega
 ·have hget:(ops.take (i+1))[i]'(by simp;omega)=opAt ops i:=by
   rw[List.getElem_take,opAt,List.getD_eq_getElem?_getD,List.getElem?_eq_getElem hi];rfl
  rw[←hget];exact List.getElem_mem _
 ·have m:=(mvOf_spec ho.1).2
  unfold looks
  rw[m]
  refine List.mem_append_right _ ?_
  simp [opnds]
theorem Wf.c2 {ops:List Oper} (h:Wf ops):∀(l:List Nat),l.Pairwise (· < ·)->(∀i∈l,i < ops.length)->C2P ops l:=by
 intro l
 induction l with
 |nil=>intro _ _;trivial
 |cons i l ih=>
  intro hp hl
  obtain⟨h1,h2⟩:=List.pairwise_cons.1 hp
  have hi:=hl i (by simp)
  refine⟨λd hd ht=>?_,λj hj d hd=>⟨λht=>?_,λhd'=>?_⟩,λj hj t ht hd=>?_,ih h2 (λj hj=>hl j (by simp [hj]))⟩
  ·rcases h.c3 i hi d ht i hi hd with hb|ho
   ·have:=h.lt' hi hb;omega
   ·obtain⟨j,_,_,_,hlt,_,hu⟩:=h.old ho
    have:=hu i hi hd;omega
  ·rcases h.c3 i hi d ht j (hl j (by simp [hj])) hd with hb|ho
   ·have:=h.lt' hi hb
    have:=h1 j hj;omega
   ·exact ho
  ·have:=h1 j hj
   exact h.unique i j hi (hl j (by simp [hj])) (by omega) d hd' hd
  ·obtain⟨q,_,_,_,hlt,_,hu⟩:=h.old ht
   have:=hu i hi hd
   have:=h1 j hj;omega
theorem range_filter_sorted (p:Nat->Bool) (n:Nat):((List.range n).filter p).Pairwise (· < ·):=List.Pairwise.filter _ List.pairwise_lt_range
theorem waitsFor_false {B l:List Nat} {i:Nat}:waitsFor B l i=false↔∀e∈l,(B.getD i 0).testBit e=false:=by
 simp [waitsFor]
structure St (P:Program) (ops:List Oper) (N Lv:Nat) (fr0:Fr) (listed:Array Bool) (rem:List Nat) (fr:Fr) (a:Act) (w:World):Prop where
 size:listed.size=ops.length
 asize:a.tmps.size=N
 defers:a.defers=[]
 closed:∀i,i < ops.length->listed.getD i true=true->∀j,((befL [] ops).getD i 0).testBit j=true->listed.getD j false=true
 ag1:∀i,i < ops.length->listed.getD i true=true->∀d,(opAt ops i).dst=some d->a.tmps.getD d undef=get fr d
 ag2:∀t,Lv.testBit t=true->(∀i,i < ops.length->(opAt ops i).dst≠some t)->a.tmps.getD t undef=get fr t
 same:∀t,(∀i,i < ops.length->(opAt ops i).dst≠some t)->get fr t=get fr0 t
 sub:∀e∈rem,e∈effI P ops
 ldone:∀e∈effI P ops,e∉rem->listed.getD e false=true
 lrest:∀e∈rem,listed.getD e true=false
 pend:∀i,i < ops.length->listed.getD i true=false->isEff P (opAt ops i)=false->waitsFor (befL [] ops) rem i=false->ValidO P ops fr0 i fr w
 olds:∀i t,isOld ops i t->waitsFor (befL [] ops) rem i=true->get fr t=get fr0 t
 agO:∀j,j < ops.length->listed.getD j true=false->∀t,(opAt ops j).dst=some t->Lv.testBit t=true->a.tmps.getD t undef=get fr0 t
theorem getD_lt {l:Array Bool} {i:Nat} (h:i < l.size) (b c:Bool):l.getD i b=l.getD i c:=by
 simp [Array.getD_eq_getD_getElem?,Array.getElem?_eq_getElem h]
theorem mem_effI {ops:List Oper} {i:Nat}:i∈effI P ops↔i < ops.length/\isEff P (opAt ops i)=true:=by
 simp [effI]
theorem mem_stage0 {ops:List Oper} {i:Nat}:i∈stage0 P ops↔i < ops.length/\isEff P (opAt ops i)=false/\waitsFor (befL [] ops) (effI P ops) i=false:=by
 simp [stage0]
theorem mem_stageN {ops:List Oper} {rem:List Nat} {e i:Nat}:i∈stageN P ops rem e↔i < ops.length/\isEff P (opAt ops i)=false/\((befL [] ops).getD i 0).testBit e=true/\waitsFor (befL [] ops) (rem.filter (λx=>!Nat.beq x e)) i=false:=by
 simp only[stageN,List.mem_filter,List.mem_range,Bool.and_eq_true,Bool.not_eq_true']
 exact⟨λ⟨h1,⟨h2,h3⟩,h4⟩=>⟨h1,h2,h3,h4⟩,λ⟨h1,h2,h3,h4⟩=>⟨h1,⟨h2,h3⟩,h4⟩⟩
theorem mem_less {rem:List Nat} {e x:Nat}:x∈rem.filter (λx=>!Nat.beq x e)↔x∈rem/\x≠e:=by
 rw[List.mem_filter]
 constructor
 ·rintro⟨h1,h2⟩;exact⟨h1,λe'=>by subst e';simp at h2⟩
 ·rintro⟨h1,h2⟩
  refine⟨h1,?_⟩
  cases hb:Nat.beq x e
  ·rfl
  ·exact absurd (Nat.eq_of_beq_eq_true hb) h2
theorem St.preds {ops:List Oper} {N Lv:Nat} {fr0:Fr} {listed:Array Bool} {rem:List Nat} {fr:Fr} {a:Act} {w:World} (s:St P ops N Lv fr0 listed rem fr a w)
 {i:Nat} (hi:i < ops.length) (hr:∀e∈(opAt ops i).after,Region.binds .any e=true->listed.getD e.on false=true):
 ∀j,((befL [] ops).getD i 0).testBit j=true->listed.getD j false=true:=by
 intro j hj
 obtain⟨e,he,hb,h⟩:=befL_edge hi hj
 have h1:=hr e (by simpa using he) hb
 rcases h with h|⟨hlt,h⟩
 ·rw[←h];exact h1
 ·have hl:e.on < ops.length:=by omega
  exact s.closed e.on hl (by rw[getD_lt (by rw[s.size];exact hl) true false];exact h1) j h
theorem St.look {ops:List Oper} {N L:Nat} {fr0:Fr} {listed:Array Bool} {rem:List Nat} {fr:Fr} {a:Act} {w:World} (hwf:Wf ops) (s:St P ops N (lvOps ops ops L) fr0 listed rem fr a w)
 {i:Nat} (hi:i < ops.length) (hno:∀t,¬isOld ops i t) (hp:∀j,((befL [] ops).getD i 0).testBit j=true->listed.getD j false=true):∀t∈looks ops (opAt ops i),a.tmps.getD t undef=get fr t:=by
 intro t ht
 by_cases h:∃j,j < ops.length/\(opAt ops j).dst=some t
 ·obtain⟨j,hj,hd⟩:=h
  have:=hp j ((hwf.c3 i hi t ht j hj hd).resolve_right (hno t))
  exact s.ag1 j hj (by rw[getD_lt (by rw[s.size];exact hj) true false];exact this) t hd
 ·have h':∀j,j < ops.length->(opAt ops j).dst≠some t:=λj hj hd=>h ⟨j,hj,hd⟩
  refine s.ag2 t (lv_of_look (λo ho=>?_) ⟨opAt ops i,?_,ht⟩) h'
  ·obtain⟨j,hj,rfl⟩:=List.mem_iff_getElem.1 ho
   have:=h' j hj
   rwa [opAt,List.getD_eq_getElem?_getD,List.getElem?_eq_getElem hj]at this
  ·rw[opAt,List.getD_eq_getElem?_getD,List.getElem?_eq_getElem hi];exact List.getElem_mem hi
theorem wanted_of {ops:List Oper} {o:Oper} {a:Act} {fr:Fr} (hl:∀t∈looks ops o,a.tmps.getD t undef=get fr t):Region.wanted o (yielded ops.toArray a.tmps)=wantedF ops o fr:=by
 unfold Region.wanted wantedF
 cases ho:o.guard with
 |none=>rfl
 |some g=>
  obtain⟨j,want⟩:=g
  simp only
  cases hd:dstAt ops j with
  |none=>
   have hy:yielded ops.toArray a.tmps j=none:=by
    unfold yielded
    have h1:(ops.toArray[j]?).bind (·.dst)=none:=by simpa[dstAt]using hd
    rw[h1];rfl
   rw[hy];rfl
  |some d=>
   have ht:=hl d (by simp [looks,ho,hd])
   simp only
   have hy:yielded ops.toArray a.tmps j=(match get fr d with| .bool t=>some t|_=>none):=by
    unfold yielded
    have h1:(ops.toArray[j]?).bind (·.dst)=some d:=by simpa[dstAt]using hd
    rw[h1,←ht]
    simp only[Option.bind_some]
    cases hx:a.tmps[d]? with
    |none=>simp [Array.getD_eq_getD_getElem?,hx,undef]
    |some v=>
     simp only[Array.getD_eq_getD_getElem?,hx,Option.getD_some]
     cases v<;>rfl
   rw[hy]
   cases get fr d<;>simp
theorem getD_set_ne' {l:Array Bool} {i j:Nat} {b c:Bool} (h:i≠j):(l.setIfInBounds i c).getD j b=l.getD j b:=by
 simp [Array.getD_eq_getD_getElem?,Array.getElem?_setIfInBounds_ne h]
theorem getD_set_eq' {l:Array Bool} {i:Nat} {b c:Bool} (h:i < l.size):(l.setIfInBounds i c).getD i b=c:=by
 simp [Array.getD_eq_getD_getElem?,h]
theorem opAt_get {ops:List Oper} {i:Nat} {o:Oper} (h:ops.toArray[i]? =some o):i < ops.length/\opAt ops i=o:=by
 simp only[List.getElem?_toArray]at h
 obtain⟨hlt,he⟩:=List.getElem?_eq_some_iff.1 h
 exact⟨hlt,by rw[opAt,List.getD_eq_getElem?_getD,h];rfl⟩
theorem put_other {a:Act} {dst:Option Tmp} {v:Value} {t:Tmp} (h:dst≠some t):(a.put dst v).tmps.getD t undef=a.tmps.getD t undef:=by
 cases dst with
 |none=>rfl
 |some d=>
  have hne:d≠t:=λe=>h (by rw[e])
  simp [Act.put,Array.getD_eq_getD_getElem?,Array.getElem?_setIfInBounds_ne hne]
theorem put_same {a:Act} {d:Tmp} {v:Value} (h:d < a.tmps.size):(a.put (some d) v).tmps.getD d undef=v:=by
 simp [Act.put,Array.getD_eq_getD_getElem?,h]
theorem put_size {a:Act} {dst:Option Tmp} {v:Value}:(a.put dst v).tmps.size=a.tmps.size:=by
 cases dst<;>simp [Act.put]
theorem put_defers {a:Act} {dst:Option Tmp} {v:Value}:(a.put dst v).defers=a.defers:=by
 cases dst<;>rfl
theorem closed_set {ops:List Oper} {listed:Array Bool} {i:Nat} (hs:listed.size=ops.length) (hi:i < ops.length)
 (hc:∀i,i < ops.length->listed.getD i true=true->∀j,((befL [] ops).getD i 0).testBit j=true->listed.getD j false=true)
 (hp:∀j,((befL [] ops).getD i 0).testBit j=true->listed.getD j false=true):
 ∀i',i' < ops.length->(listed.setIfInBounds i true).getD i' true=true->∀j,((befL [] ops).getD i' 0).testBit j=true->(listed.setIfInBounds i true).getD j false=true:=by
 have up:∀j,listed.getD j false=true->(listed.setIfInBounds i true).getD j false=true:=by
  intro j hj
  by_cases e:i=j
  ·subst e;exact getD_set_eq' (by rw[hs];exact hi)
  ·rw[getD_set_ne' e];exact hj
 intro i' hi' hl j hj
 by_cases e:i=i'
 ·subst e;exact up j (hp j hj)
 ·rw[getD_set_ne' e]at hl
  exact up j (hc i' hi' hl j hj)
theorem St.quiet {ops:List Oper} {N L:Nat} {fr0:Fr} {listed:Array Bool} {rem:List Nat} {fr:Fr} {a:Act} {w:World} (hwf:Wf ops) (s:St P ops N (lvOps ops ops L) fr0 listed rem fr a w)
 {i:Nat} (hi:i < ops.length) (hq:isEff P (opAt ops i)=false) (hp:∀j,((befL [] ops).getD i 0).testBit j=true->listed.getD j false=true) {v:Value} (hv:∀d,(opAt ops i).dst=some d->get fr d=v) (hN:∀d,(opAt ops i).dst=some d->d < N):
 St P ops N (lvOps ops ops L) fr0 (listed.setIfInBounds i true) rem fr (a.put (opAt ops i).dst v) w:=by
 have hne:∀e∈effI P ops,i≠e:=λe he h=>by rw[h,(mem_effI.1 he).2]at hq;cases hq
 refine{s with size:=?_,asize:=?_,defers:=?_,closed:=closed_set s.size hi s.closed hp,ag1:=?_,ag2:=?_,ldone:=?_,lrest:=?_,pend:=?_,agO:=?_}
 ·simp [s.size]
 ·rw[put_size];exact s.asize
 ·rw[put_defers];exact s.defers
 ·intro j hj hl d hd
  by_cases e:i=j
  ·subst e
   rw[hd,put_same (by rw[s.asize];exact hN d hd)]
   exact(hv d hd).symm
  ·rw[getD_set_ne' e]at hl
   rw[put_other (hwf.unique j i hj hi (Ne.symm e) d hd)]
   exact s.ag1 j hj hl d hd
 ·intro t ht hd
  rw[put_other (hd i hi)]
  exact s.ag2 t ht hd
 ·intro e he hr
  rw[getD_set_ne' (hne e he)]
  exact s.ldone e he hr
 ·intro e he
  rw[getD_set_ne' (hne e (s.sub e he))]
  exact s.lrest e he
 ·intro j hj hl
  have e:i≠j:=by
   intro e;subst e
   rw[getD_set_eq' (by rw[s.size];exact hi)]at hl;cases hl
  rw[getD_set_ne' e]at hl
  exact s.pend j hj hl
 ·intro j hj hl t hd hL
  have e:i≠j:=by
   intro e;subst e
   rw[getD_set_eq' (by rw[s.size];exact hi)]at hl;cases hl
  rw[getD_set_ne' e]at hl
  rw[put_other (hwf.unique j i hj hi (Ne.symm e) t hd)]
  exact s.agO j hj hl t hd hL
theorem St.eff {ops:List Oper} {N L:Nat} {fr0:Fr} {listed:Array Bool} {rem:List Nat} {e:Nat} {fr fr1:Fr} {a:Act} {w w':World} (hwf:Wf ops) (s:St P ops N (lvOps ops ops L) fr0 listed rem fr a w)
 (hrem:e∈rem) (hp:∀j,((befL [] ops).getD e 0).testBit j=true->listed.getD j false=true) (hf1:∀t,get fr1 t=get fr t) {v:Value} {K:Fr->Prop} (hN:∀d,(opAt ops e).dst=some d->d < N)
 (hpend:∀i,i < ops.length->listed.getD i true=false->isEff P (opAt ops i)=false->waitsFor (befL [] ops) rem i=false->((befL [] ops).getD e 0).testBit i=false->Valid P ops i fr w->Valid P ops i fr w')
 (hr:runQ P ops w' K (stageN P ops rem e) (putF fr1 (opAt ops e).dst v)):
 ∃fr',K fr'/\St P ops N (lvOps ops ops L) fr0 (listed.setIfInBounds e true) (rem.filter (λx=>!Nat.beq x e)) fr' (a.put (opAt ops e).dst v) w':=by
 have heI:e∈effI P ops:=s.sub e hrem
 have he:e < ops.length:=(mem_effI.1 heI).1
 have heE:isEff P (opAt ops e)=true:=(mem_effI.1 heI).2
 have hsN:∀i∈stageN P ops rem e,i < ops.length:=λi hi=>(mem_stageN.1 hi).1
 have hwaitE:∀i,((befL [] ops).getD i 0).testBit e=true->waitsFor (befL [] ops) rem i=true:=by
  intro i hb
  cases hw:waitsFor (befL [] ops) rem i
  ·rw[waitsFor_false]at hw
   rw[hw e hrem]at hb;cases hb
  ·rfl
 have hout:∀t,(opAt ops e).dst≠some t->get (putF fr1 (opAt ops e).dst v) t=get fr t:=by
  intro t ht
  cases hd:(opAt ops e).dst with
  |none=>exact hf1 t
  |some d=>
   rw[hd]at ht
   simp only[putF,get_cons]
   rw[if_neg (λe=>ht (by rw[e]))]
   exact hf1 t
 have hstart:∀i∈stageN P ops rem e,∀t,isOld ops i t->get (putF fr1 (opAt ops e).dst v) t=get fr0 t:=by
  intro i hi t ho
  have hbe:=(mem_stageN.1 hi).2.2.1
  refine(hout t (λhd=>?_)).trans (s.olds i t ho (hwaitE i hbe))
  obtain⟨j,_,_,hb,_,hil,hu⟩:=hwf.old ho
  have:=hu e he hd
  subst this
  have h1:=hwf.lt' he hb
  have h2:=hwf.lt' hil hbe
  omega
 obtain⟨fr',h1,h2,h3⟩:=runQ_sound _ _ (hwf.c2 _ (range_filter_sorted _ _) hsN) (λi hi=>(mem_stageN.1 hi).2.1) hstart hr
 have hne:∀i∈stageN P ops rem e,i≠e:=λi hi h=>by rw[h]at hi;rw[(mem_stageN.1 hi).2.1]at heE;cases heE
 have hkeep:∀t,(opAt ops e).dst≠some t->(∀i∈stageN P ops rem e,(opAt ops i).dst≠some t)->get fr' t=get fr t:=by
  intro t ht hs
  rw[h1 t hs]
  cases hd:(opAt ops e).dst with
  |none=>exact hf1 t
  |some d=>
   rw[hd]at ht
   simp only[putF,get_cons]
   rw[if_neg (λe=>ht (by rw[e]))]
   exact hf1 t
 have hlt:listed.getD e true=false:=s.lrest e hrem
 have hltf:listed.getD e false=false:=by rw[getD_lt (by rw[s.size];exact he) false true];exact hlt
 refine⟨fr',h3,?_⟩
 refine{size:=by simp [s.size],asize:=by rw[put_size];exact s.asize,defers:=by rw[put_defers];exact s.defers,closed:=closed_set s.size he s.closed hp,ag1:=?_,ag2:=?_,same:=?_,sub:=λe' he'=>s.sub e' (mem_less.1 he').1,ldone:=?_,lrest:=?_,pend:=?_,olds:=?_,agO:=?_}
 ·intro j hj hl d hd
  by_cases ej:e=j
  ·subst ej
   rw[hd,put_same (by rw[s.asize];exact hN d hd)]
   rw[h1 d (λi hi hd'=>hwf.unique e i he (hsN i hi) (Ne.symm (hne i hi)) d hd hd'),hd]
   simp [putF,get_cons]
  ·rw[getD_set_ne' ej]at hl
   rw[put_other (hwf.unique j e hj he (Ne.symm ej) d hd)]
   rw[s.ag1 j hj hl d hd]
   refine(hkeep d (hwf.unique j e hj he (Ne.symm ej) d hd) (λi hi=>?_)).symm
   by_cases eij:j=i
   ·exfalso
    subst eij
    have:=s.closed j hj hl e (mem_stageN.1 hi).2.2.1
    rw[hltf]at this;cases this
   ·exact hwf.unique j i hj (hsN i hi) eij d hd
 ·intro t ht hd
  rw[put_other (hd e he),s.ag2 t ht hd]
  exact(hkeep t (hd e he) (λi hi=>hd i (hsN i hi))).symm
 ·intro t hd
  rw[hkeep t (hd e he) (λi hi=>hd i (hsN i hi))]
  exact s.same t hd
 ·intro e' he' hr'
  by_cases ee:e=e'
  ·subst ee;exact getD_set_eq' (by rw[s.size];exact he)
  ·rw[getD_set_ne' ee];exact s.ldone e' he' (λh=>hr' (mem_less.2 ⟨h,Ne.symm ee⟩))
 ·intro e' he'
  obtain⟨h4,h5⟩:=mem_less.1 he'
  rw[getD_set_ne' (Ne.symm h5)]
  exact s.lrest e' h4
 ·intro i hi hl hq hs
  have ei:e≠i:=by intro ei;subst ei;rw[heE]at hq;cases hq
  rw[getD_set_ne' ei]at hl
  cases hbe:((befL [] ops).getD i 0).testBit e
  ·have hw:waitsFor (befL [] ops) rem i=false:=by
    rw[waitsFor_false]at hs ⊢
    intro x hx
    by_cases ex:x=e
    ·subst ex;exact hbe
    ·exact hs x (mem_less.2 ⟨hx,ex⟩)
   have hb:((befL [] ops).getD e 0).testBit i=false:=by
    cases hb:((befL [] ops).getD e 0).testBit i
    ·rfl
    ·have:=hp i hb
     rw[getD_lt (by rw[s.size];exact hi) true false]at hl
     rw[hl]at this;cases this
   have hkd:∀d,(opAt ops i).dst=some d->get fr' d=get fr d:=by
    intro d hd
    refine hkeep d (hwf.unique i e hi he (Ne.symm ei) d hd) (λj hj=>?_)
    refine hwf.unique i j hi (hsN j hj) (λeij=>?_) d hd
    rw[←eij]at hj
    have:=(mem_stageN.1 hj).2.2.1
    rw[hbe]at this;cases this
   rcases s.pend i hi hl hq hw with ⟨t,ho,hv⟩|⟨hno,hv⟩
   ·exact .inl ⟨t,ho,λd hd=>(hkd d hd).trans (hv d hd)⟩
   ·refine .inr ⟨hno,?_⟩
    have hv:=hpend i hi hl hq hw hb hv
    refine hv.transfer (λt ht=>hkeep t (λhd=>?_) (λj hj hd=>?_)) hkd
    ·have:=(hwf.c3 i hi t ht e he hd).resolve_right (hno t)
     rw[hbe]at this;cases this
    ·have h4:=(hwf.c3 i hi t ht j (hsN j hj) hd).resolve_right (hno t)
     have:=hwf.trans hi h4 (mem_stageN.1 hj).2.2.1
     rw[hbe]at this;cases this
  ·exact h2 i (mem_stageN.2 ⟨hi,hq,hbe,hs⟩)
 ·intro i t ho hw
  obtain⟨j,hj,hd,hb,hlt',hil,hu⟩:=hwf.old ho
  have hex:∃e',e'∈rem/\e'≠e/\((befL [] ops).getD i 0).testBit e'=true:=by
   cases hc:(rem.filter (λx=>!Nat.beq x e)).any (λe'=>((befL [] ops).getD i 0).testBit e')
   ·exact absurd (show waitsFor (befL [] ops) (rem.filter (λx=>!Nat.beq x e)) i=false from hc) (by rw[hw];simp)
   ·obtain⟨e',he',hb'⟩:=List.any_eq_true.1 hc
    obtain⟨h4,h5⟩:=mem_less.1 he'
    exact⟨e',h4,h5,hb'⟩
  obtain⟨e',he',hne',hb'⟩:=hex
  have hw0:waitsFor (befL [] ops) rem i=true:=by
   cases hw0:waitsFor (befL [] ops) rem i
   ·rw[waitsFor_false]at hw0
    rw[hw0 e' he']at hb';cases hb'
   ·rfl
  have hjb:((befL [] ops).getD j 0).testBit e'=true:=hwf.trans hj hb hb'
  rw[hkeep t (λhd'=>?_) (λq hq hd'=>?_)]
  ·exact s.olds i t ho hw0
  ·have:=hu e he hd'
   subst this
   have h6:=hp e' hjb
   have h7:=s.lrest e' he'
   have hle:e' < ops.length:=(mem_effI.1 (s.sub e' he')).1
   rw[getD_lt (by rw[s.size];exact hle) true false]at h7
   rw[h7]at h6;cases h6
  ·have:=hu q (hsN q hq) hd'
   subst this
   have h6:=(mem_stageN.1 hq).2.2.2
   rw[waitsFor_false]at h6
   rw[h6 e' (mem_less.2 ⟨he',hne'⟩)]at hjb;cases hjb
 ·intro j hj hl t hd hL
  have ej:e≠j:=by
   intro ej;subst ej
   rw[getD_set_eq' (by rw[s.size];exact he)]at hl;cases hl
  rw[getD_set_ne' ej]at hl
  rw[put_other (hwf.unique j e hj he (Ne.symm ej) t hd)]
  exact s.agO j hj hl t hd hL
theorem dstsOps_mem {ops:List Oper} {o:Oper} {t:Tmp} (ho:o∈ops) (hd:o.dst=some t):(dstsOps ops).testBit t=true:=by
 induction ops with
 |nil=>cases ho
 |cons x ops ih=>
  rcases List.mem_cons.1 ho with e|ho
  ·subst e;simp [dstsOps,hd,testBit_addB]
  ·have:=ih ho
   cases hx:x.dst with
   |none=>simpa[dstsOps,hx]using this
   |some d=>simp [dstsOps,hx,testBit_addB,this]
theorem opAt_mem {ops:List Oper} {i:Nat} (hi:i < ops.length):opAt ops i∈ops:=by
 rw[opAt,List.getD_eq_getElem?_getD,List.getElem?_eq_getElem hi];exact List.getElem_mem hi
theorem wfOps_dst {N:Nat} {ops:List Oper} (h:wfOps N ops=true) {i:Nat} (hi:i < ops.length) {d:Tmp} (hd:(opAt ops i).dst=some d):d < N:=
 wfOps_dsts h d (dstsOps_mem (opAt_mem hi) hd)
theorem runD_nil {ops:List Oper} {K:Fr->World->Prop} {n:Nat} {fr:Fr} {w:World}:runD P ops K n [] fr w=K fr w:=by
 cases n<;>rfl
theorem eachE_mem {f:Nat->Prop}:∀{l:List Nat},eachE f l->∀e∈l,f e:=by
 intro l
 induction l with
 |nil=>intro h;exact h.elim
 |cons x l ih=>
  intro h e he
  cases l with
  |nil=>simp at he;subst he;exact h
  |cons y l=>
   rcases List.mem_cons.1 he with e'|he
   ·subst e';exact h.1
   ·exact ih h.2 e he
theorem St.done_all {ops:List Oper} {N L:Nat} {fr0:Fr} {listed:Array Bool} {rem:List Nat} {n:Nat} {fr:Fr} {a:Act} {w:World} {K:Fr->World->Prop} {Q:Exit->Act->World->Prop} (s:St P ops N (lvOps ops ops L) fr0 listed rem fr a w)
 (hall:∀i,i < ops.length->listed.getD i true=true) (hQ:∀fr' w' a',Agree N L fr' a'->Same (dstsOps ops) fr0 fr'->K fr' w'->Q .normal a' w') (h:runD P ops K n rem fr w):Q .normal a w:=by
 cases rem with
 |cons e r=>
  have he:e < ops.length:=(mem_effI.1 (s.sub e (by simp))).1
  have:=s.lrest e (by simp)
  rw[hall e he]at this;cases this
 |nil=>
  rw[runD_nil]at h
  refine hQ fr w a ⟨s.asize,s.defers,λt ht=>?_⟩ (λt ht=>?_) h
  ·by_cases hd:∃j,j < ops.length/\(opAt ops j).dst=some t
   ·obtain⟨j,hj,hd⟩:=hd
    exact s.ag1 j hj (hall j hj) t hd
   ·have h':∀j,j < ops.length->(opAt ops j).dst≠some t:=λj hj h=>hd ⟨j,hj,h⟩
    refine s.ag2 t (lv_of_live (λo ho hod=>?_) ht) h'
    obtain⟨j,hj,rfl⟩:=List.mem_iff_getElem.1 ho
    exact h' j hj (by rw[opAt,List.getD_eq_getElem?_getD,List.getElem?_eq_getElem hj];exact hod)
  ·refine s.same t (λi hi hd=>?_)
   rw[dstsOps_mem (opAt_mem hi) hd]at ht;cases ht
def left (ops:List Oper) (listed:Array Bool):Nat:=((List.range ops.length).filter (λi=>!listed.getD i true)).length
theorem filter_one {p q:Nat->Bool} {i:Nat} (hp:p i=true) (hq:q i=false) (h:∀x,i≠x->q x=p x):∀(l:List Nat),l.Nodup->i∈l->(l.filter p).length=(l.filter q).length+1:=by
 intro l
 induction l with
 |nil=>intro _ h;cases h
 |cons x l ih=>
  intro hnd hm
  obtain⟨hx,hnd⟩:=List.nodup_cons.1 hnd
  by_cases e:i=x
  ·subst e
   have h2:l.filter q=l.filter p:=by
    apply List.filter_congr
    intro j hj
    exact h j (λe=>hx (by rw[e];exact hj))
   rw[List.filter_cons_of_pos hp,List.filter_cons_of_neg (by rw[hq];simp),h2];rfl
  ·have hm':i∈l:=by rcases List.mem_cons.1 hm with h|h;exact absurd h e;exact h
   have:=ih hnd hm'
   cases hpx:p x
   ·rw[List.filter_cons_of_neg (by rw[hpx];simp),List.filter_cons_of_neg (by rw[h x e,hpx];simp),this]
   ·rw[List.filter_cons_of_pos hpx,List.filter_cons_of_pos (by rw[h x e,hpx]),List.length_cons,this];rfl
theorem left_set {ops:List Oper} {listed:Array Bool} {i n:Nat} (hs:listed.size=ops.length) (hi:i < ops.length) (hl:listed.getD i true=false) (h:left ops listed=n+1):left ops (listed.setIfInBounds i true)=n:=by
 unfold left at h ⊢
 have:=filter_one (p:=λj=>!listed.getD j true) (q:=λj=> !(listed.setIfInBounds i true).getD j true) (i:=i) (by rw[hl];rfl) (by rw[getD_set_eq' (by rw[hs];exact hi)];rfl)
  (λx hx=>by rw[getD_set_ne' hx]) (List.range ops.length) List.nodup_range (List.mem_range.2 hi)
 omega
theorem drawn_any (hn:NamesOk P) {ops:List Oper} {N L:Nat} {fr0:Fr} {K:Fr->World->Prop} {Q:Exit->Act->World->Prop} (hwf:Wf ops) (hN:wfOps N ops=true)
 (hQ:∀fr' w' a',Agree N L fr' a'->Same (dstsOps ops) fr0 fr'->K fr' w'->Q .normal a' w'):∀(fuel:Nat) (listed:Array Bool) (rem:List Nat) (n:Nat) (fr:Fr) (a:Act) (w:World),
 St P ops N (lvOps ops ops L) fr0 listed rem fr a w->left ops listed=fuel->runD P ops K n rem fr w->wpAny P .any ops.toArray Q fuel listed a w:=by
 intro fuel
 induction fuel with
 |zero=>
  intro listed rem n fr a w s hf h
  have hall:∀i,i < ops.length->listed.getD i true=true:=by
   intro i hi
   unfold left at hf
   rw[List.length_eq_zero_iff,List.filter_eq_nil_iff]at hf
   have:=hf i (List.mem_range.2 hi)
   simpa using this
  refine⟨?_,s.done_all hall hQ h⟩
  rw[List.eq_nil_iff_forall_not_mem]
  intro j hj
  obtain⟨h0,o,ho,_⟩:=mem_ready.1 hj
  rw[hall j (opAt_get ho).1]at h0;cases h0
 |succ fuel ih=>
  intro listed rem n fr a w s hf h
  refine⟨λh0=>?_,λi hi=>?_⟩
  ·
   exfalso
   have hex:∃i,i < ops.length/\listed.getD i true=false:=by
    unfold left at hf
    cases hl:(List.range ops.length).filter (λi=>!listed.getD i true)with
    |nil=>rw[hl]at hf;simp at hf
    |cons x l=>
     have hm:x∈(List.range ops.length).filter (λi=>!listed.getD i true):=by rw[hl];simp
     rw[List.mem_filter,List.mem_range]at hm
     exact⟨x,hm.1,by simpa using hm.2⟩
   have hmin:∀n i,i < n->i < ops.length->listed.getD i true=false->False:=by
    intro n
    induction n with
    |zero=>intro i hi;omega
    |succ n ihn=>
     intro i hin hi hl
     have hr:i∈Region.ready .any ops.toArray listed:=by
      refine mem_ready.2 ⟨hl,opAt ops i,?_,λe he hb=>?_⟩
      ·rw[List.getElem?_toArray,opAt,List.getD_eq_getElem?_getD,List.getElem?_eq_getElem hi];rfl
      ·have hlt:=hwf.c4 i hi e (by simpa using he) hb
       have h1:e.on < ops.length:=by omega
       rw[getD_lt (by rw[s.size];exact h1) false true]
       cases hx:listed.getD e.on true
       ·exact(ihn e.on (by omega) h1 hx).elim
       ·rfl
     rw[h0]at hr;cases hr
   obtain⟨i,hi,hl⟩:=hex
   exact hmin (i+1) i (by omega) hi hl
  ·obtain⟨hl,o,ho,hedge⟩:=mem_ready.1 hi
   obtain⟨hlt,hoAt⟩:=opAt_get ho
   have hedge':∀e∈(opAt ops i).after,Region.binds .any e=true->listed.getD e.on false=true:=by rw[hoAt];exact hedge
   have hp:=s.preds hlt hedge'
   have hNd:∀d,(opAt ops i).dst=some d->d < N:=λd hd=>wfOps_dst hN hlt hd
   have hleft:=left_set s.size hlt hl hf
   have hnone:∀e'∈rem,((befL [] ops).getD i 0).testBit e'=false:=by
    intro e' he'
    cases hb:((befL [] ops).getD i 0).testBit e'
    ·rfl
    ·exfalso
     have h1:=hp e' hb
     have h0:=s.lrest e' he'
     have hlt':e' < ops.length:=(mem_effI.1 (s.sub e' he')).1
     rw[getD_lt (by rw[s.size];exact hlt') true false]at h0
     rw[h0]at h1;cases h1
   have hwait:waitsFor (befL [] ops) rem i=false:=waitsFor_false.2 hnone
   by_cases hold:∃t,isOld ops i t
   ·
    obtain⟨t,hold⟩:=hold
    obtain⟨m1,m2⟩:=mvOf_spec hold.1
    obtain⟨j,hj,hd,hb,hij,_,_⟩:=hwf.old hold
    have hjl:listed.getD j true=false:=by
     cases hx:listed.getD j true
     ·rfl
     ·have:=s.closed j hj hx i hb
      rw[getD_lt (by rw[s.size];exact hlt) false true,hl]at this;cases this
    have hval:=s.agO j hj hjl t hd (hwf.oldLv hold)
    have hpv:∀d,(opAt ops i).dst=some d->get fr d=get fr0 t:=by
     rcases s.pend i hlt hl (isOld_quiet hold) hwait with ⟨t',ho',hv⟩|⟨hno,_⟩
     ·have:t'=t:=by have h1:=ho'.1;rw[hold.1]at h1;cases h1;rfl
      subst this;exact hv
     ·exact absurd hold (hno t)
    have hw:Region.wanted o (yielded ops.toArray a.tmps)=true:=by
     rw[←hoAt];simp [Region.wanted,m1]
    unfold wpOp
    rw[ho]
    simp only
    rw[hw,if_pos rfl,←hoAt]
    left
    obtain⟨v,hrun,hvd⟩:=opQ_sound hn (ρ:=ev fr0) (w:=w) (K:=λv=>∀d,(opAt ops i).dst=some d->get fr d=v) (λ_=>rfl) (isOld_quiet hold) (by unfold opK;rw[m2];exact hpv)
    have hs:∀cs b,(opAt ops i).op≠.select cs b:=by
     intro cs b e
     rw[m2]at e;cases e
    have hrun':(execOp a.eval (opAt ops i)).run P w= .ok (.value v) w:=by
     rw[execOp_congr _ hs (λx hx=>?_)];exact hrun
     have hx':=opnds_mem _ hs x hx
     rw[m2]at hx'
     simp only[opnds,List.mem_singleton]at hx'
     subst hx'
     exact hval
    unfold Oper.wp
    rw[hrun']
    exact ih _ rem n fr _ w (s.quiet hwf hlt (isOld_quiet hold) hp hvd hNd) hleft h
   have hno:∀t,¬isOld ops i t:=λt ht=>hold ⟨t,ht⟩
   have hlook:=s.look hwf hlt hno hp
   have hw:=wanted_of hlook
   unfold wpOp
   rw[ho]
   simp only
   rw[←hoAt,hw]
   have heval:∀{fr':Fr},(∀t∈looks ops (opAt ops i),get fr' t=get fr t)->∀x∈opnds (opAt ops i).op,a.eval x=ev fr' x:=by
    intro fr' hf' x hx
    cases x with
    |tmp t=>
     have ht:=looks_opnds (ops:=ops) hx
     exact(hlook t ht).trans (hf' t ht).symm
    |_=>rfl
   cases hq:isEff P (opAt ops i)
   ·
    obtain⟨frq,hfq,hv⟩:Valid P ops i fr w:=by
     rcases s.pend i hlt hl hq hwait with ⟨t,ht,_⟩|⟨_,hv⟩
     ·exact absurd ht (hno t)
     ·exact hv
    rcases hv with ⟨hwt,hk⟩|⟨hwt,hk⟩
    ·rw[if_pos hwt]
     left
     obtain⟨v,hrun,hvd⟩:=opQ_sound hn (ρ:=ev frq) (K:=λv=>∀d,(opAt ops i).dst=some d->get fr d=v) (λ_=>rfl) hq hk
     have hs:∀cs b,(opAt ops i).op≠.select cs b:=by
      intro cs b e
      unfold isEff at hq;rw[e]at hq;cases hq
     have hrun':(execOp a.eval (opAt ops i)).run P w= .ok (.value v) w:=by
      rw[execOp_congr _ hs (λx hx=>heval hfq x (opnds_mem _ hs x hx))];exact hrun
     unfold Oper.wp
     rw[hrun']
     exact ih _ rem n fr _ w (s.quiet hwf hlt hq hp hvd hNd) hleft h
    ·rw[if_neg (by rw[hwt];simp)]
     exact ih _ rem n fr _ w (s.quiet hwf hlt hq hp hk hNd) hleft h
   ·
    have hiI:i∈effI P ops:=mem_effI.2 ⟨hlt,hq⟩
    have hir:i∈rem:=by
     by_cases hir:i∈rem
     ·exact hir
     ·have:=s.ldone i hiI hir
      rw[getD_lt (by rw[s.size];exact hlt) false true,hl]at this;cases this
    cases rem with
    |nil=>cases hir
    |cons e0 r0=>
     cases n with
     |zero=>exact h.elim
     |succ n=>
      have hre:i∈readyE ops (e0::r0):=by
       unfold readyE
       rw[List.mem_filter,hwait]
       exact⟨hir,rfl⟩
      have h:=eachE_mem h i hre
      obtain⟨fr1,hf1,h1⟩:=guardK_frame h
      rcases h1 with ⟨hwt,hy⟩|⟨hwt,hno⟩
      ·rw[if_pos hwt]
       left
       refine opK_wp hn (heval (λt _=>hf1 t)) hy (λv w' hk=>?_)
       obtain⟨hst,hrun⟩:=stills_sound hk
       have hpend:∀q,q < ops.length->listed.getD q true=false->isEff P (opAt ops q)=false->waitsFor (befL [] ops) (e0::r0) q=false->((befL [] ops).getD i 0).testBit q=false->Valid P ops q fr w->Valid P ops q fr w':=by
        intro q hq1 hq2 hq3 hq4 hq5 hval
        cases hpure:isPure P (opAt ops q)
        ·have hm:q∈stillN P ops (e0::r0) i:=by
          simp only[stillN,List.mem_filter,List.mem_range,Bool.and_eq_true,Bool.not_eq_true']
          exact⟨hq1,⟨⟨hq3,hpure⟩,hq4⟩,hq5⟩
         have hs1:=hst q hm
         have hv1:Valid P ops q fr1 w:=hval.transfer (λt _=>hf1 t) (λd _=>hf1 d)
         exact(stillK_valid hq3 hv1 hs1).transfer (λt _=>(hf1 t).symm) (λd _=>(hf1 d).symm)
        ·exact hval.pure hpure
       obtain⟨fr',hk',s'⟩:=s.eff hwf hir hp hf1 (v:=v) (w':=w') hNd hpend hrun
       exact ih _ _ _ fr' _ w' s' hleft hk'
      ·rw[if_neg (by rw[hwt];simp)]
       obtain⟨fr',hk',s'⟩:=s.eff hwf hir hp hf1 (v:=undef) (w':=w) hNd (λq _ _ _ _ _ hval=>hval) hno
       exact ih _ _ _ fr' _ w s' hleft hk'
theorem drawK_ok (hn:NamesOk P) (hm:P.follows .mixedOrders=true):DrawOk P drawK:=by
 intro N id ops K Q L fr a w hN ha hQ h
 unfold drawK at h
 cases hd:drawOkB ops.toList
 ·rw[hd]at h;exact h.elim
 rw[hd]at h
 simp only[cond_true]at h
 have hwf:=wf_of hd
 have hs0:∀i∈stage0 P ops.toList,i < ops.toList.length:=λi hi=>(mem_stage0.1 hi).1
 obtain⟨fr',h1,h2,h3⟩:=runQ_sound (fr0:=fr) _ _ (hwf.c2 _ (range_filter_sorted _ _) hs0) (λi hi=>(mem_stage0.1 hi).2.1) (λ_ _ _ _=>rfl) h
 refine wp_region_any hm ?_
 have hgf:∀i,(Array.replicate ops.size false).getD i true=true->¬i < ops.size:=by
  intro i hi hlt
  simp [Array.getD_eq_getD_getElem?,hlt]at hi
 have s:St P ops.toList N (lvOps ops.toList ops.toList L) fr (Array.replicate ops.size false) (effI P ops.toList) fr' a w.drew:=by
  refine{size:=by simp,asize:=ha.size,defers:=ha.defers,closed:=λi hi hl=>absurd hi (by simpa using hgf i hl),ag1:=λi hi hl=>absurd hi (by simpa using hgf i hl),ag2:=?_,same:=?_,sub:=λ_ h=>h,ldone:=λe he hr=>absurd he hr,lrest:=?_,pend:=?_,olds:=?_,agO:=?_}
  ·intro t ht hd
   rw[ha.slots t ht]
   exact(h1 t (λi hi=>hd i (hs0 i hi))).symm
  ·intro t hd
   exact h1 t (λi hi=>hd i (hs0 i hi))
  ·intro e he
   have:=(mem_effI.1 he).1
   simp only[Array.length_toList]at this
   simp [Array.getD_eq_getD_getElem?,this]
  ·intro i hi _ hq hs
   exact h2 i (mem_stage0.2 ⟨hi,hq,hs⟩)
  ·intro i t ho hw
   obtain⟨j,hj,hd,hb,_,_,hu⟩:=hwf.old ho
   refine h1 t (λq hq hd'=>?_)
   have:=hu q (hs0 q hq) hd'
   subst this
   have h6:=(mem_stage0.1 hq).2.2
   rw[waitsFor_false]at h6
   have hex:∃e',e'∈effI P ops.toList/\((befL [] ops.toList).getD i 0).testBit e'=true:=by
    obtain⟨e',he',hb'⟩:=List.any_eq_true.1 (show(effI P ops.toList).any (λe'=>((befL [] ops.toList).getD i 0).testBit e')=true from hw)
    exact⟨e',he',hb'⟩
   obtain⟨e',he',hb'⟩:=hex
   have:=hwf.trans hj hb hb'
   rw[h6 e' he']at this;cases this
  ·intro j hj _ t hd hL
   exact ha.slots t hL
 have hleft:left ops.toList (Array.replicate ops.size false)=ops.size:=by
  unfold left
  rw[List.filter_eq_self.2]
  ·simp
  ·intro i hi
   have:i < ops.size:=by simpa using hi
   simp [Array.getD_eq_getD_getElem?,this]
 exact drawn_any hn hwf hN hQ ops.size _ _ _ fr' a w.drew s hleft h3
end Go.CW
