/- A part of the proof. -/
import Derived.Test.YtdpmhkbhlbfbeaaGreatDoorZCwE
namespace Go.CW
variable {P:Program}
def wantedF (ops:List Oper) (o:Oper) (fr:Fr):Bool:=
 match o.guard with
 |none=>true
 |some (j,want)=>match dstAt ops j with
  |some d=>match get fr d with
   | .bool t=>t==want
   |_=>false
  |none=>false
theorem guardK_frame {ops:List Oper} {o:Oper} {fr:Fr} {yes no:Fr->Prop} (h:guardK ops o fr yes no):
 ∃fr',(∀t,get fr' t=get fr t)/\((wantedF ops o fr=true/\yes fr')\/(wantedF ops o fr=false/\no fr')):=by
 unfold guardK at h
 unfold wantedF
 cases hg:o.guard with
 |none=>rw[hg]at h;exact⟨fr,λ_=>rfl,.inl ⟨rfl,h⟩⟩
 |some g=>
  obtain⟨j,want⟩:=g
  rw[hg]at h
  simp only at h ⊢
  cases hd:dstAt ops j with
  |none=>rw[hd]at h;exact h.elim
  |some d=>
   rw[hd]at h
   simp only at h ⊢
   unfold guardV at h
   split at h
   case h_2=>
    rename_i hne
    refine⟨fr,λ_=>rfl,.inr ⟨?_,h⟩⟩
    split
    ·rename_i t ht;exact(hne t ht).elim
    ·rfl
   rename_i t ht
   refine⟨(d,.bool t)::fr,?_,?_⟩
   ·intro t';rw[get_cons];split
    ·rename_i e;subst e;exact ht.symm
    ·rfl
   ·simp only[ht]
    cases t<;>cases want<;>simp only[cond_true,cond_false]at h<;>simp [h]
theorem wantedF_congr {ops:List Oper} {o:Oper} {fr fr':Fr} (h:∀t∈looks ops o,get fr' t=get fr t):wantedF ops o fr'=wantedF ops o fr:=by
 unfold wantedF
 cases hg:o.guard with
 |none=>rfl
 |some g=>
  obtain⟨j,want⟩:=g
  simp only
  cases hd:dstAt ops j with
  |none=>rfl
  |some d=>
   simp only
   rw[h d (by simp [looks,hg,hd])]
theorem looks_opnds {ops:List Oper} {o:Oper} {t:Tmp} (h:Operand.tmp t∈opnds o.op):t∈looks ops o:=by
 unfold looks
 exact List.mem_append_right _ (List.mem_filterMap.2 ⟨_,h,rfl⟩)
def Valid (P:Program) (ops:List Oper) (i:Nat) (fr:Fr) (w:World):Prop:=
 ∃fr0,(∀t∈looks ops (opAt ops i),get fr0 t=get fr t)/\
  ((wantedF ops (opAt ops i) fr=true/\opK P (ev fr0) (opAt ops i) w (λv _=>∀d,(opAt ops i).dst=some d->get fr d=v))\/
   (wantedF ops (opAt ops i) fr=false/\∀d,(opAt ops i).dst=some d->get fr d=undef))
theorem Valid.transfer {ops:List Oper} {i:Nat} {fr fr':Fr} {w:World} (h:Valid P ops i fr w) (hl:∀t∈looks ops (opAt ops i),get fr' t=get fr t) (hd:∀d,(opAt ops i).dst=some d->get fr' d=get fr d):Valid P ops i fr' w:=by
 obtain⟨fr0,h0,h1⟩:=h
 refine⟨fr0,λt ht=>(h0 t ht).trans (hl t ht).symm,?_⟩
 rw[wantedF_congr hl]
 have e:(λ(v:Value) (_:World)=>∀d,(opAt ops i).dst=some d->get fr' d=v)=(λv _=>∀d,(opAt ops i).dst=some d->get fr d=v):=by
  funext v _
  apply propext
  exact⟨λh d hd'=>(hd d hd').symm.trans (h d hd'),λh d hd'=>(hd d hd').trans (h d hd')⟩
 rcases h1 with ⟨h1,h2⟩|⟨h1,h2⟩
 ·exact .inl ⟨h1,by rw[e];exact h2⟩
 ·exact .inr ⟨h1,λd hd'=>(hd d hd').trans (h2 d hd')⟩
theorem Valid.pure {ops:List Oper} {i:Nat} {fr:Fr} {w w':World} (hp:isPure P (opAt ops i)=true) (h:Valid P ops i fr w):Valid P ops i fr w':=by
 obtain⟨fr0,h0,h1⟩:=h
 refine⟨fr0,h0,?_⟩
 rcases h1 with ⟨h1,h2⟩|h1
 ·exact .inl ⟨h1,pure_indep (K:=λv=>∀d,(opAt ops i).dst=some d->get fr d=v) hp h2⟩
 ·exact .inr h1
def isOld (ops:List Oper) (i:Nat) (t:Tmp):Prop:=
 mvOf (opAt ops i)=some t/\∃j,j < ops.length/\(opAt ops j).dst=some t/\((befL [] ops).getD j 0).testBit i=true
theorem mvOf_spec {o:Oper} {t:Tmp} (h:mvOf o=some t):o.guard=none/\o.op= .move (.tmp t):=by
 unfold mvOf at h
 split at h
 ·rename_i h1 h2;cases h;exact⟨h1,h2⟩
 ·cases h
def ValidO (P:Program) (ops:List Oper) (fr0:Fr) (i:Nat) (fr:Fr) (w:World):Prop:=
 (∃t,isOld ops i t/\∀d,(opAt ops i).dst=some d->get fr d=get fr0 t)\/((∀t,¬isOld ops i t)/\Valid P ops i fr w)
def C2P (ops:List Oper):List Nat->Prop
 |[]=>True
 |i::r=>(∀d,(opAt ops i).dst=some d->d∉looks ops (opAt ops i))/\(∀j∈r,∀d,(opAt ops j).dst=some d->(d∈looks ops (opAt ops i)->isOld ops i d)/\(opAt ops i).dst≠some d)/\
  (∀j∈r,∀t,isOld ops j t->(opAt ops i).dst≠some t)/\C2P ops r
theorem befOf_spec {X:List Nat}:∀{es:List Edge} {j:Nat},(befOf X es).testBit j=true->∃e∈es,Region.binds .any e=true/\(e.on=j\/(X.getD e.on 0).testBit j=true):=by
 intro es
 induction es with
 |nil=>intro j h;simp [befOf]at h
 |cons e es ih=>
  intro j h
  unfold befOf at h
  cases hb:Region.binds .any e
  ·rw[hb]at h
   obtain⟨e',he',h1⟩:=ih h
   exact⟨e',by simp [he'],h1⟩
  ·rw[hb]at h
   simp only[cond_true,Nat.testBit_or,Bool.or_eq_true,testBit_one_shl,decide_eq_true_eq]at h
   rcases h with (h|h)|h
   ·obtain⟨e',he',h1⟩:=ih h
    exact⟨e',by simp [he'],h1⟩
   ·exact⟨e,by simp,hb,.inl h⟩
   ·exact⟨e,by simp,hb,.inr h⟩
theorem befL_spec:∀(l:List Oper) (acc:List Nat),(befL acc l).length=acc.length+l.length/\(∀i,i < acc.length->(befL acc l)[i]? =acc[i]?)/\
 ∀k,k < l.length->(befL acc l)[acc.length+k]? =some (befOf ((befL acc l).take (acc.length+k)) (l.getD k default).after.toList):=by
 intro l
 induction l with
 |nil=>intro acc;exact⟨by simp [befL],λi _=>rfl,λk hk=>by simp at hk⟩
 |cons o l ih=>
  intro acc
  obtain⟨h1,h2,h3⟩:=ih (acc++[befOf acc o.after.toList])
  simp only[befL]
  have hl:(acc++[befOf acc o.after.toList]).length=acc.length+1:=by simp
  rw[hl]at h1 h2 h3
  refine⟨by rw[h1];simp;omega,λi hi=>?_,λk hk=>?_⟩
  ·rw[h2 i (by omega),List.getElem?_append_left hi]
  ·cases k with
   |zero=>
    rw[Nat.add_zero,h2 acc.length (by omega)]
    have ht:(befL (acc++[befOf acc o.after.toList]) l).take acc.length=acc:=by
     apply List.ext_getElem?
     intro i
     rw[List.getElem?_take]
     split
     ·rename_i hi;rw[h2 i (by omega),List.getElem?_append_left hi]
     ·rename_i hi;rw[List.getElem?_eq_none (by omega)]
    rw[ht]
    simp
   |succ k=>
    have:=h3 k (by simpa using hk)
    have e:acc.length+1+k=acc.length+(k+1):=by omega
    rw[e]at this
    rw[this]
    simp
theorem befL_edge {ops:List Oper} {i j:Nat} (hi:i < ops.length) (h:((befL [] ops).getD i 0).testBit j=true):
 ∃e∈(opAt ops i).after.toList,Region.binds .any e=true/\(e.on=j\/(e.on < i/\((befL [] ops).getD e.on 0).testBit j=true)):=by
 obtain⟨h1,h2,h3⟩:=befL_spec ops []
 have:=h3 i hi
 simp only[List.length_nil,Nat.zero_add]at this
 rw[List.getD_eq_getElem?_getD,this]at h
 simp only[Option.getD_some]at h
 obtain⟨e,he,hb,h4⟩:=befOf_spec h
 refine⟨e,he,hb,?_⟩
 rcases h4 with h4|h4
 ·exact .inl h4
 ·right
  rw[List.getD_eq_getElem?_getD,List.getElem?_take]at h4
  split at h4
  ·rename_i hlt;exact⟨hlt,by rw[List.getD_eq_getElem?_getD];exact h4⟩
  ·simp at h4
theorem runQ_sound {ops:List Oper} {w:World} {K:Fr->Prop} {fr0:Fr}:∀(l:List Nat) (fr:Fr),C2P ops l->(∀i∈l,isEff P (opAt ops i)=false)->(∀i∈l,∀t,isOld ops i t->get fr t=get fr0 t)->runQ P ops w K l fr->
 ∃fr',(∀t,(∀i∈l,(opAt ops i).dst≠some t)->get fr' t=get fr t)/\(∀i∈l,ValidO P ops fr0 i fr' w)/\K fr':=by
 intro l
 induction l with
 |nil=>intro fr _ _ _ h;exact⟨fr,λ_ _=>rfl,(λi hi=>by cases hi),h⟩
 |cons i l ih=>
  intro fr hc hq hold h
  obtain⟨hself,hlater,hold',hc'⟩:=hc
  unfold runQ at h
  obtain⟨fr1,hf1,h1⟩:=guardK_frame h
  have fin:∀(v:Value),runQ P ops w K l (putF fr1 (opAt ops i).dst v)->
   ((wantedF ops (opAt ops i) fr=true/\opK P (ev fr1) (opAt ops i) w (λu _=>u=v))\/(wantedF ops (opAt ops i) fr=false/\v=undef))->
   ∃fr',(∀t,(∀j∈i::l,(opAt ops j).dst≠some t)->get fr' t=get fr t)/\(∀j∈i::l,ValidO P ops fr0 j fr' w)/\K fr':=by
   intro v hr hv
   have hput:∀t,(opAt ops i).dst≠some t->get (putF fr1 (opAt ops i).dst v) t=get fr t:=by
    intro t ht
    cases hd:(opAt ops i).dst with
    |none=>exact hf1 t
    |some d=>
     rw[hd]at ht
     simp only[putF,get_cons]
     rw[if_neg (λe=>ht (by rw[e]))]
     exact hf1 t
   obtain⟨fr',h2,h3,h4⟩:=ih _ hc' (λj hj=>hq j (by simp [hj])) (λj hj t ht=>(hput t (hold' j hj t ht)).trans (hold j (by simp [hj]) t ht)) hr
   have hdst:∀d,(opAt ops i).dst=some d->get fr' d=v:=by
    intro d hd
    rw[h2 d (λj hj e=>(hlater j hj d e).2 hd),hd]
    simp [putF,get_cons]
   refine⟨fr',λt ht=>?_,λj hj=>?_,h4⟩
   ·rw[h2 t (λj hj=>ht j (by simp [hj]))]
    exact hput t (ht i (by simp))
   ·rcases List.mem_cons.1 hj with e|hj
    ·subst e
     by_cases ho:∃t,isOld ops j t
     ·obtain⟨t,ho⟩:=ho
      obtain⟨m1,m2⟩:=mvOf_spec ho.1
      refine .inl ⟨t,ho,λd hd=>?_⟩
      rw[hdst d hd]
      rcases hv with ⟨_,hv2⟩|⟨hv1,_⟩
      ·unfold opK at hv2
       rw[m2]at hv2
       have hv2:get fr1 t=v:=hv2
       rw[←hv2,hf1 t]
       exact hold j (by simp) t ho
      ·unfold wantedF at hv1
       rw[m1]at hv1
       cases hv1
     ·have hno:∀t,¬isOld ops j t:=λt ht=>ho ⟨t,ht⟩
      have hlook:∀t∈looks ops (opAt ops j),get fr' t=get fr t:=by
       intro t ht
       rw[h2 t (λq hq' e=>hno t ((hlater q hq' t e).1 ht))]
       exact hput t (λe=>hself t e ht)
      refine .inr ⟨hno,fr1,λt ht=>(hf1 t).trans (hlook t ht).symm,?_⟩
      rw[wantedF_congr hlook]
      rcases hv with ⟨hv1,hv2⟩|⟨hv1,hv2⟩
      ·exact .inl ⟨hv1,opK_at (hq j (by simp)) (λu hu d hd=>(hdst d hd).trans hu.symm) hv2⟩
      ·exact .inr ⟨hv1,λd hd=>(hdst d hd).trans hv2⟩
    ·exact h3 j hj
  rcases h1 with ⟨hw,hy⟩|⟨hw,hno⟩
  ·obtain⟨v,hv1,hv2⟩:=opK_pick (hq i (by simp)) hy
   exact fin v hv1 (.inl ⟨hw,hv2⟩)
  ·exact fin undef hno (.inr ⟨hw,rfl⟩)
theorem stills_sound {ops:List Oper} {w:World} {fr:Fr} {X:Prop}:∀{l:List Nat},stills P ops w fr X l->(∀i∈l,stillK P ops w fr i)/\X:=by
 intro l
 induction l with
 |nil=>intro h;exact⟨(λi hi=>by cases hi),h⟩
 |cons i l ih=>
  intro h
  obtain⟨h1,h2⟩:=ih h.2
  exact⟨λj hj=>by rcases List.mem_cons.1 hj with e|hj;(subst e;exact h.1);exact h1 j hj,h2⟩
theorem stillK_valid {ops:List Oper} {w w':World} {fr:Fr} {i:Nat} (hq:isEff P (opAt ops i)=false) (hv:Valid P ops i fr w) (h:stillK P ops w' fr i):Valid P ops i fr w':=by
 obtain⟨fr0,h0,h1⟩:=hv
 unfold stillK at h
 obtain⟨fr',hf',h2⟩:=guardK_frame h
 rcases h2 with ⟨hw,hy⟩|⟨hw,_⟩
 ·refine⟨fr',λt _=>hf' t,.inl ⟨hw,opK_at hq (λv hv d hd=>?_) hy⟩⟩
  rw[hd]at hv
  exact hv.symm
 ·rcases h1 with ⟨h1,_⟩|h1
  ·rw[hw]at h1;cases h1
  ·exact⟨fr0,h0,.inr h1⟩
end Go.CW
