/- A part of the proof. -/
import Derived.Test.YtdpmhkbhlbfbeaaGreatDoorZCwC
namespace Go.CW
variable {P:Program}
structure Agree (N L:Nat) (fr:Fr) (a:Act):Prop where
 size:a.tmps.size=N
 defers:a.defers=[]
 slots:∀t,L.testBit t=true->a.tmps.getD t undef=get fr t
def Same (D:Nat) (fr fr':Fr):Prop:=∀t,D.testBit t=false->get fr' t=get fr t
theorem testBit_one_shl (t i:Nat):(1 <<< t).testBit i=decide (t=i):=by
 rw[Nat.one_shiftLeft,Nat.testBit_two_pow]
theorem testBit_addB (L t i:Nat):(addB L t).testBit i=(decide (t=i)||L.testBit i):=by
 unfold addB
 rw[Nat.testBit_or,testBit_one_shl,Bool.or_comm]
theorem testBit_remB (L t i:Nat):(remB L t).testBit i=(decide (t≠i)&&L.testBit i):=by
 unfold remB
 cases hb:L.testBit t
 ·simp only[cond_false]
  by_cases h:t=i
  ·subst h;simp [hb]
  ·simp [h]
 ·simp only[cond_true]
  rw[Nat.testBit_xor,testBit_one_shl]
  by_cases h:t=i
  ·subst h;simp [hb]
  ·simp [h]
theorem get_cons (j:Nat) (v:Value) (fr:Fr) (i:Nat):get ((j,v)::fr) i=if i=j then v else get fr i:=by
 simp only[get]
 by_cases h:i=j
 ·subst h;simp
 ·have:Nat.beq i j=false:=by cases hb:Nat.beq i j;rfl;exact absurd (Nat.eq_of_beq_eq_true hb) h
  simp [this,h]
theorem Agree.mono {N L L':Nat} {fr:Fr} {a:Act} (h:Agree N L fr a) (hL:∀t,L'.testBit t=true->L.testBit t=true):Agree N L' fr a:=
 ⟨h.size,h.defers,λt ht=>h.slots t (hL t ht)⟩
theorem Agree.eqv {N L:Nat} {fr fr':Fr} {a:Act} (h:Agree N L fr a) (hf:∀t,L.testBit t=true->get fr' t=get fr t):Agree N L fr' a:=
 ⟨h.size,h.defers,λt ht=>(h.slots t ht).trans (hf t ht).symm⟩
theorem rdOpd_mono (x:Operand) (L:Nat):∀t,L.testBit t=true->(rdOpd x L).testBit t=true:=by
 intro t ht
 cases x<;>simp [rdOpd,testBit_addB,ht]
theorem rdOpds_mono (xs:List Operand) (L:Nat):∀t,L.testBit t=true->(rdOpds xs L).testBit t=true:=by
 induction xs with
 |nil=>exact λ_ h=>h
 |cons x xs ih=>exact λt ht=>rdOpd_mono x _ t (ih t ht)
theorem Agree.evalOne {N L:Nat} {fr:Fr} {a:Act} {x:Operand} (h:Agree N (rdOpd x L) fr a):a.eval x=ev fr x:=by
 cases x with
 |tmp t=>exact h.slots t (by simp [rdOpd,testBit_addB])
 |_=>rfl
theorem Agree.eval {N L:Nat} {fr:Fr} {a:Act} {xs:List Operand} (h:Agree N (rdOpds xs L) fr a):∀x∈xs,a.eval x=ev fr x:=by
 induction xs with
 |nil=>intro x hx;cases hx
 |cons y ys ih=>
  intro x hx
  rcases List.mem_cons.1 hx with rfl|hx
  ·exact Agree.evalOne h
  ·exact ih (h.mono (rdOpd_mono _ _)) x hx
theorem opnds_mem (op:Op) (hs:∀cs b,op≠.select cs b):∀x∈op.operands,x∈opnds op:=by
 intro x hx
 cases op
 case alloc=>simp [Op.operands]at hx
 case ready=>simp [Op.operands]at hx
 case waits=>simp [Op.operands]at hx
 case select cs b=>exact absurd rfl (hs cs b)
 case call c=>obtain⟨callee,args,ats⟩:=c;cases callee<;>simpa[Op.operands,Call.operands,opnds]using hx
 case go c=>obtain⟨callee,args,ats⟩:=c;cases callee<;>simpa[Op.operands,Call.operands,opnds]using hx
 case defer c=>obtain⟨callee,args,ats⟩:=c;cases callee<;>simpa[Op.operands,Call.operands,opnds]using hx
 case makeMap t r=>cases r<;>simp [Op.operands,opnds]at hx ⊢;exact hx
 case slice t x lo hi mx=>cases lo<;>cases hi<;>cases mx<;>simpa[Op.operands,opnds]using hx
 all_goals simpa[Op.operands,opnds]using hx
theorem Agree.put {N L:Nat} {fr:Fr} {a:Act} {o:Oper} {v:Value} (h:Agree N (remDst o L) fr a) (hd:∀d,o.dst=some d->d < N):Agree N L (putF fr o.dst v) (a.put o.dst v):=by
 unfold remDst at h
 cases ho:o.dst with
 |none=>rw[ho]at h;exact h
 |some d=>
  rw[ho]at h
  refine⟨by simp [Act.put,h.size],h.defers,λt ht=>?_⟩
  have hlt:=hd d ho
  simp only[Act.put,putF,get_cons]
  by_cases e:t=d
  ·subst e
   simp [h.size,hlt]
  ·have:=h.slots t (by rw[testBit_remB];simp [Ne.symm e,ht])
   simp only[e,if_false]
   rw[←this]
   simp [Array.getElem?_setIfInBounds_ne (Ne.symm e)]
theorem Same.refl (D:Nat) (fr:Fr):Same D fr fr:=λ_ _=>rfl
theorem Same.trans {D:Nat} {a b c:Fr} (h:Same D a b) (k:Same D b c):Same D a c:=λt ht=>(k t ht).trans (h t ht)
theorem Same.mono {D D':Nat} {a b:Fr} (h:Same D a b) (hD:∀t,D'.testBit t=false->D.testBit t=false):Same D' a b:=λt ht=>h t (hD t ht)
theorem Same.put {fr:Fr} {o:Oper} {v:Value} {r:List Oper}:Same (dstsOps (o::r)) fr (putF fr o.dst v):=by
 intro t ht
 cases ho:o.dst with
 |none=>rfl
 |some d=>
  simp only[dstsOps,ho,testBit_addB,Bool.or_eq_false_iff,decide_eq_false_iff_not]at ht
  simp only[putF,get_cons]
  rw[if_neg (λe=>ht.1 e.symm)]
theorem dstsOps_tail {o:Oper} {r:List Oper}:∀t,(dstsOps (o::r)).testBit t=false->(dstsOps r).testBit t=false:=by
 intro t ht
 cases ho:o.dst with
 |none=>simpa[dstsOps,ho]using ht
 |some d=>simp only[dstsOps,ho,testBit_addB,Bool.or_eq_false_iff]at ht;exact ht.2
theorem wp_of_runsTo {o:Oper} {a:Act} {w:World} {K:KV} {next:Act->World->Prop} {Q:Exit->Act->World->Prop} (h:runsTo P a.eval o w K) (hK:∀v w',K v w'->next (a.put o.dst v) w'):
 o.wp P a w next Q:=by
 unfold Oper.wp
 unfold runsTo at h
 generalize (execOp a.eval o).run P w=r at h ⊢
 cases r with
 |halt h' w'=>exact h.elim
 |ok n w'=>
  cases n<;>try exact h.elim
  case value v=>exact hK _ _ h
  case skip=>exact hK _ _ h
  case enter f args=>
   refine Calls.mono h ?_
   rintro e w'' ⟨v,rfl,hv⟩
   exact hK _ _ hv
theorem opK_no_select {ρ:Operand->Value} {o:Oper} {w:World} {K:KV} (h:opK P ρ o w K):∀cs b,o.op≠.select cs b:=by
 intro cs b e
 unfold opK at h
 rw[e]at h
 exact h
theorem opK_wp (hn:NamesOk P) {o:Oper} {a:Act} {fr:Fr} {w:World} {K:KV} {next:Act->World->Prop} {Q:Exit->Act->World->Prop}
 (he:∀x∈opnds o.op,a.eval x=ev fr x) (h:opK P (ev fr) o w K) (hK:∀v w',K v w'->next (a.put o.dst v) w'):o.wp P a w next Q:=by
 have hs:=opK_no_select h
 have hr:=opK_sound hn (ρ:=ev fr) (λ_=>rfl) h
 refine wp_of_runsTo ?_ hK
 unfold runsTo at hr ⊢
 rw[execOp_congr o hs (λx hx=>he x (opnds_mem o.op hs x hx))]
 exact hr
theorem yielded_of {ops:List Oper} {j:Nat} {d:Tmp} {a:Act} {t:Bool} (hd:dstAt ops j=some d) (h:a.tmps.getD d undef= .bool t):yielded ops.toArray a.tmps j=some t:=by
 unfold yielded
 have h1:(ops.toArray[j]?).bind (·.dst)=some d:=by simpa[dstAt]using hd
 rw[h1]
 simp only[Option.bind_some]
 cases ht:a.tmps[d]? with
 |none=>simp [Array.getD_eq_getD_getElem?,ht,undef]at h
 |some v=>simp [Array.getD_eq_getD_getElem?,ht]at h;subst h;rfl
theorem yielded_no {ops:List Oper} {j:Nat} {d:Tmp} {a:Act} {v:Value} (hd:dstAt ops j=some d) (h:a.tmps.getD d undef=v) (hv:∀t,v= .bool t->False):yielded ops.toArray a.tmps j=none:=by
 unfold yielded
 have h1:(ops.toArray[j]?).bind (·.dst)=some d:=by simpa[dstAt]using hd
 rw[h1]
 simp only[Option.bind_some]
 cases ht:a.tmps[d]? with
 |none=>rfl
 |some u=>
  simp [Array.getD_eq_getD_getElem?,ht]at h
  subst h
  cases u<;>first|rfl|exact(hv _ rfl).elim
theorem guardK_sound {ops:List Oper} {o:Oper} {fr:Fr} {yes no:Fr->Prop} {N L:Nat} {a:Act} (ha:Agree N (rdGuard ops o L) fr a) (h:guardK ops o fr yes no):
 ∃fr',(∀t,get fr' t=get fr t)/\((Region.wanted o (yielded ops.toArray a.tmps)=true/\yes fr')\/(Region.wanted o (yielded ops.toArray a.tmps)=false/\no fr')):=by
 unfold guardK at h
 unfold rdGuard at ha
 cases hg:o.guard with
 |none=>rw[hg]at h;exact⟨fr,λ_=>rfl,.inl ⟨by simp [Region.wanted,hg],h⟩⟩
 |some g=>
  obtain⟨j,want⟩:=g
  rw[hg]at h ha
  simp only at h ha
  cases hd:dstAt ops j with
  |none=>rw[hd]at h;exact h.elim
  |some d=>
   rw[hd]at h ha
   simp only at h ha
   unfold guardV at h
   split at h
   case h_2=>
    rename_i hne
    have hy:yielded ops.toArray a.tmps j=none:=yielded_no hd (ha.slots d (by simp [testBit_addB])) hne
    exact⟨fr,λ_=>rfl,.inr ⟨by simp [Region.wanted,hg,hy],h⟩⟩
   rename_i t ht
   have hy:yielded ops.toArray a.tmps j=some t:=yielded_of hd ((ha.slots d (by simp [testBit_addB])).trans ht)
   have hg':∀t',get ((d,.bool t)::fr) t'=get fr t':=by
    intro t';rw[get_cons];split
    ·rename_i e;subst e;exact ht.symm
    ·rfl
   refine⟨(d,.bool t)::fr,hg',?_⟩
   simp only[Region.wanted,hg,hy]
   cases t<;>cases want<;>simp only[cond_true,cond_false]at h<;>simp [h]
theorem rdGuard_mono (ops:List Oper) (o:Oper) (L:Nat):∀t,L.testBit t=true->(rdGuard ops o L).testBit t=true:=by
 intro t ht
 unfold rdGuard
 split
 ·exact ht
 ·split
  ·simp [testBit_addB,ht]
  ·exact ht
theorem opsK_sound (hn:NamesOk P) (ops:List Oper) {N:Nat} {K:Fr->World->Prop} {Q:Exit->Act->World->Prop}:∀(l:List Oper) (L:Nat) (fr:Fr) (a:Act) (w:World),wfOps N l=true->
 Agree N (lvOps ops l L) fr a->(∀fr' w' a',Agree N L fr' a'->Same (dstsOps l) fr fr'->K fr' w'->Q .normal a' w')->opsK P ops K l fr w->wpList P ops.toArray Q l a w:=by
 intro l
 induction l with
 |nil=>intro L fr a w _ ha hQ h;exact hQ fr w a ha (Same.refl _ _) h
 |cons o r ih=>
  intro L fr a w hwf ha hQ h
  simp only[wfOps,Bool.and_eq_true]at hwf
  have hd:∀d,o.dst=some d->d < N:=by
   intro d hd;have:=hwf.1;rw[hd]at this;simpa using this
  simp only[lvOps]at ha
  unfold opsK at h
  obtain⟨fr',hfr,hc⟩:=guardK_sound ha h
  have ha1:Agree N (rdOpds (opnds o.op) (remDst o (lvOps ops r L))) fr' a:=(ha.mono (rdGuard_mono _ _ _)).eqv (λt _=>hfr t)
  have ha2:Agree N (remDst o (lvOps ops r L)) fr' a:=ha1.mono (rdOpds_mono _ _)
  have cont:∀v w',opsK P ops K r (putF fr' o.dst v) w'->wpList P ops.toArray Q r (a.put o.dst v) w':=by
   intro v w' hk
   refine ih L _ _ _ hwf.2 (ha2.put hd) ?_ hk
   intro fr'' w'' a'' hag hsame hk'
   refine hQ fr'' w'' a'' hag ?_ hk'
   refine Same.trans (b:=fr') (λt _=>hfr t) (Same.trans Same.put (hsame.mono dstsOps_tail))
  unfold wpList
  rcases hc with ⟨hw,hy⟩|⟨hw,hno⟩
  ·rw[if_pos hw]
   exact .inl (opK_wp hn ha1.eval hy cont)
  ·rw[if_neg (by rw[hw];simp)]
   exact cont _ _ hno
theorem appR_curryR (rs:List Rep):∀(k:List Value->World->Prop) (vs:List Value) (w:World),appR rs (curryR rs k) vs w->∃us,us.length=rs.length/\(∀i,i < rs.length->us[i]? =vs[i]?)/\k us w:=by
 induction rs with
 |nil=>intro k vs w h;exact⟨[],rfl,λi hi=>by simp at hi,h⟩
 |cons r rs ih=>
  intro k vs w h
  have fin:∀{v:Value} {vs:List Value} {k':List Value->World->Prop},(∃us,us.length=rs.length/\(∀i,i < rs.length->us[i]? =vs[i]?)/\k' (us) w)->(∀us w,k' us w->k (v::us) w)->
   ∃us,us.length=(r::rs).length/\(∀i,i < (r::rs).length->us[i]? =(v::vs)[i]?)/\k us w:=by
   rintro v vs k' ⟨us,h1,h2,h3⟩ hk
   refine⟨v::us,by simp [h1],?_,hk _ _ h3⟩
   intro i hi
   cases i with
   |zero=>rfl
   |succ i=>simpa using h2 i (by simpa using hi)
  cases vs with
  |nil=>cases r<;>exact h.elim
  |cons v vs=>
   cases r with
   |int k'=>
    cases v<;>try exact h.elim
    rename_i k'' n
    simp only[appR]at h
    split at h
    ·rename_i e _
     subst e
     exact fin (ih _ _ _ h) (λ_ _ h=>h)
    ·exact h.elim
   |bool=>cases v<;>first|exact h.elim|exact fin (ih _ _ _ h) (λ_ _ h=>h)
   |str=>cases v<;>first|exact h.elim|exact fin (ih _ _ _ h) (λ_ _ h=>h)
   |ptr=>cases v<;>first|exact h.elim|exact fin (ih _ _ _ h) (λ_ _ h=>h)
   |val=>exact fin (ih _ _ _ h) (λ_ _ h=>h)
def numR:(rs:List Rep)->FunN rs->List Value->World->Nat
 |[],μ,_,w=>μ w
 | .int _::rs,μ,.int _ n::vs,w=>numR rs (μ n) vs w
 | .bool::rs,μ,.bool b::vs,w=>numR rs (μ b) vs w
 | .str::rs,μ,.string s::vs,w=>numR rs (μ s) vs w
 | .ptr::rs,μ,.pointer s::vs,w=>numR rs (μ s) vs w
 | .val::rs,μ,v::vs,w=>numR rs (μ v) vs w
 |_::_,_,_,_=>0
theorem appR_and {rs:List Rep}:∀{a b:FunR rs} {vs:List Value} {w:World},appR rs (mapR2 rs And a b) vs w->appR rs a vs w/\appR rs b vs w:=by
 induction rs with
 |nil=>intro a b vs w h;exact h
 |cons r rs ih=>
  intro a b vs w h
  cases vs with
  |nil=>cases r<;>exact h.elim
  |cons v vs=>
   cases r with
   |int k=>
    cases v<;>try exact h.elim
    simp only[appR,mapR2]at h ⊢
    split at h
    ·exact ih h
    ·exact h.elim
   |bool=>cases v<;>first|exact h.elim|exact ih h
   |str=>cases v<;>first|exact h.elim|exact ih h
   |ptr=>cases v<;>first|exact h.elim|exact ih h
   |val=>exact ih h
theorem appR_eqN {rs:List Rep}:∀{a:FunR rs} {μ:FunN rs} {vs:List Value} {w:World},appR rs a vs w->appR rs (mapR2 rs And a (eqN rs μ (numR rs μ vs w))) vs w:=by
 induction rs with
 |nil=>intro a μ vs w h;exact⟨h,rfl⟩
 |cons r rs ih=>
  intro a μ vs w h
  cases vs with
  |nil=>cases r<;>exact h.elim
  |cons v vs=>
   cases r with
   |int k=>
    cases v<;>try exact h.elim
    simp only[appR,mapR2,eqN,numR]at h ⊢
    split at h
    ·exact ih h
    ·exact h.elim
   |bool=>cases v<;>first|exact h.elim|exact ih h
   |str=>cases v<;>first|exact h.elim|exact ih h
   |ptr=>cases v<;>first|exact h.elim|exact ih h
   |val=>exact ih h
theorem appR_ltN {rs:List Rep}:∀{μ:FunN rs} {m:Nat} {vs:List Value} {w:World},appR rs (ltN rs μ m) vs w->numR rs μ vs w < m:=by
 induction rs with
 |nil=>intro μ m vs w h;exact h
 |cons r rs ih=>
  intro μ m vs w h
  cases vs with
  |nil=>cases r<;>exact h.elim
  |cons v vs=>
   cases r with
   |int k=>
    cases v<;>try exact h.elim
    simp only[appR,ltN,numR]at h ⊢
    split at h
    ·exact ih h
    ·exact h.elim
   |bool=>cases v<;>first|exact h.elim|exact ih h
   |str=>cases v<;>first|exact h.elim|exact ih h
   |ptr=>cases v<;>first|exact h.elim|exact ih h
   |val=>exact ih h
theorem allR_app {rs:List Rep}:∀{a b:FunR rs} {vs:List Value} {w:World},allR rs (mapR2 rs (λa b=>a->b) a b)->appR rs a vs w->appR rs b vs w:=by
 induction rs with
 |nil=>intro a b vs w h ha;exact h w ha
 |cons r rs ih=>
  intro a b vs w h ha
  cases vs with
  |nil=>cases r<;>exact ha.elim
  |cons v vs=>
   cases r with
   |int k=>
    cases v<;>try exact ha.elim
    simp only[appR]at ha ⊢
    split at ha
    ·exact ih (h _) ha
    ·exact ha.elim
   |bool=>cases v<;>first|exact ha.elim|exact ih (h _) ha
   |str=>cases v<;>first|exact ha.elim|exact ih (h _) ha
   |ptr=>cases v<;>first|exact ha.elim|exact ih (h _) ha
   |val=>exact ih (h _) ha
theorem get_zipS_out {sl:List Nat} {vs:List Value} {fr:Fr} {t:Nat} (h:t∉sl):get (zipS sl vs++fr) t=get fr t:=by
 induction sl generalizing vs with
 |nil=>cases vs<;>rfl
 |cons s sl ih=>
  cases vs with
  |nil=>rfl
  |cons v vs=>
   simp only[zipS,List.cons_append,get_cons]
   rw[if_neg (λe=>h (by simp [e]))]
   exact ih (λhm=>h (by simp [hm]))
theorem get_zipS_in {sl:List Nat} {us:List Value} {fr fr':Fr} {t:Nat} (hlen:us.length=sl.length) (hus:∀i,i < sl.length->us[i]? =(sl.map (get fr'))[i]?) (h:t∈sl):get (zipS sl us++fr) t=get fr' t:=by
 induction sl generalizing us with
 |nil=>cases h
 |cons s sl ih=>
  cases us with
  |nil=>simp at hlen
  |cons v vs=>
   simp only[zipS,List.cons_append,get_cons]
   by_cases e:t=s
   ·subst e
    have:=hus 0 (by simp)
    simp at this
    simp [this]
   ·rw[if_neg e]
    refine ih (by simpa using hlen) (λi hi=>?_) (by simpa[e]using h)
    have:=hus (i+1) (by simpa using hi)
    simpa using this
theorem mem_slotsOf {N D t:Nat}:t∈slotsOf N D↔t < N/\D.testBit t=true:=by
 simp [slotsOf]
theorem okC_length:∀{rs:List Rep} {vs:List Value},okC rs vs=true->vs.length=rs.length
 |[],[],_=>rfl
 |_::_,_::_,h=>by simp only[okC]at h;simp [okC_length h]
 |[],_::_,h=>by simp [okC]at h
 |_::_,[],h=>by simp [okC]at h
theorem takeR_eq:∀(rs:List Rep) (us:List Value),takeR rs us=us.take rs.length
 |[],us=>by cases us<;>rfl
 |_::rs,[]=>rfl
 |_::rs,u::us=>by simp [takeR,takeR_eq rs us]
theorem dropR_eq:∀(rs:List Rep) (us:List Value),dropR rs us=us.drop rs.length
 |[],us=>by cases us<;>rfl
 |_::rs,[]=>rfl
 |_::rs,u::us=>by simp [dropR,dropR_eq rs us]
theorem pack_flat:∀(ss:List Sh0) (vs us:List Value),okF ss vs=true->us.length=(shReps ss).length->(∀i,i < (shReps ss).length->us[i]? =(flatT ss vs)[i]?)->
 (packS ss us).length=ss.length/\∀i,i < ss.length->(packS ss us)[i]? =vs[i]?
 |[],vs,us,_,_,_=>⟨rfl,λi hi=>by simp at hi⟩
 | .one r::ss,[],us,h,_,_=>by simp [okF]at h
 | .one r::ss,v::vs,[],_,hl,_=>by simp [shReps]at hl
 | .one r::ss,v::vs,u::us,h,hl,hu=>by
   simp only[okF]at h
   simp only[shReps,List.length_cons,Nat.add_right_cancel_iff]at hl hu
   have h0:=hu 0 (by omega)
   simp [flatT]at h0
   obtain⟨h1,h2⟩:=pack_flat ss vs us h hl (λi hi=>by have:=hu (i+1) (by omega);simpa[flatT]using this)
   refine⟨by simp [packS,h1],λi hi=>?_⟩
   cases i with
   |zero=>simp [packS,h0]
   |succ i=>simpa[packS]using h2 i (by simpa using hi)
 | .agg rs::ss,[],us,h,_,_=>by simp [okF]at h
 | .agg rs::ss,v::vs,us,h,hl,hu=>by
   cases v<;>simp only[okF,Bool.false_eq_true]at h
   rename_i cs
   simp only[Bool.and_eq_true]at h
   have hc:=okC_length h.1
   simp only[shReps,List.length_append]at hl hu
   have e1:us.take rs.length=cs.toList:=by
    apply List.ext_getElem?
    intro i
    by_cases hi:i < rs.length
    ·rw[List.getElem?_take_of_lt hi,hu i (by omega)]
     simp only[flatT]
     rw[List.getElem?_append_left (by omega)]
    ·rw[List.getElem?_eq_none (by simp;omega),List.getElem?_eq_none (by omega)]
   obtain⟨h1,h2⟩:=pack_flat ss vs (us.drop rs.length) h.2 (by simp;omega) (λi hi=>by
    have:=hu (rs.length+i) (by omega)
    simp only[flatT]at this
    rw[List.getElem?_append_right (by omega)]at this
    rw[List.getElem?_drop,this]
    congr 1;omega)
   refine⟨by simp [packS,dropR_eq,h1],λi hi=>?_⟩
   cases i with
   |zero=>simp [packS,takeR_eq,e1]
   |succ i=>simpa[packS,dropR_eq]using h2 i (by simpa using hi)
theorem appS_iff {ss:List Sh0} {j:FunR (shReps ss)} {vs:List Value} {w:World} (h:appS ss j vs w):okF ss vs=true/\appR (shReps ss) j (flatT ss vs) w:=by
 unfold appS at h
 cases hb:okF ss vs
 ·rw[hb]at h;exact h.elim
 ·rw[hb]at h;exact⟨rfl,h⟩
theorem appS_of {ss:List Sh0} {j:FunR (shReps ss)} {vs:List Value} {w:World} (h1:okF ss vs=true) (h:appR (shReps ss) j (flatT ss vs) w):appS ss j vs w:=by
 unfold appS;rw[h1];exact h
theorem appS_curryR {ss:List Sh0} {k:List Value->World->Prop} {vs:List Value} {w:World} (h:appS ss (curryR (shReps ss) (λus w=>k (packS ss us) w)) vs w):
 ∃us,us.length=ss.length/\(∀i,i < ss.length->us[i]? =vs[i]?)/\k us w:=by
 obtain⟨h1,h2⟩:=appS_iff h
 obtain⟨us,h3,h4,h5⟩:=appR_curryR _ _ _ _ h2
 obtain⟨h6,h7⟩:=pack_flat ss vs us h1 h3 h4
 exact⟨_,h6,h7,h5⟩
theorem join_sound {N:Nat} {c:Code} {L D:Nat} {fr fr':Fr} {a':Act} {w':World} {rest:Fr->World->Prop} (hD:D=dsts c) (hag:Agree N L fr' a') (hsame:Same D fr fr')
 (h:appS ((slotsOf N (dsts c&&& L)).map (shSlot P c)) (curryR (shReps ((slotsOf N (dsts c&&& L)).map (shSlot P c))) (λvs w=>rest (zipS (slotsOf N (dsts c&&& L)) (packS ((slotsOf N (dsts c&&& L)).map (shSlot P c)) vs)++fr) w)) ((slotsOf N (dsts c&&& L)).map (get fr')) w')
 (hN:∀t,(dsts c).testBit t=true->t < N):
 ∃fr'',Agree N L fr'' a'/\Same D fr fr''/\rest fr'' w':=by
 subst hD
 obtain⟨us,h1,h2,h3⟩:=appS_curryR (k:=λvs w=>rest (zipS (slotsOf N (dsts c&&& L)) vs++fr) w) h
 rw[List.length_map]at h1
 have hin:∀t,t∈slotsOf N (dsts c&&& L)->get (zipS (slotsOf N (dsts c&&& L)) us++fr) t=get fr' t:=λt ht=>
  get_zipS_in h1 (λi hi=>h2 i (by simpa using hi)) ht
 refine⟨_,?_,?_,h3⟩
 ·refine hag.eqv (λt ht=>?_)
  by_cases hm:t∈slotsOf N (dsts c&&& L)
  ·exact hin t hm
  ·rw[get_zipS_out hm]
   have:(dsts c).testBit t=false:=by
    cases hb:(dsts c).testBit t
    ·rfl
    ·exact absurd (mem_slotsOf.2 ⟨hN t hb,by rw[Nat.testBit_and,hb,ht];rfl⟩) hm
   exact(hsame t this).symm
 ·intro t ht
  exact get_zipS_out (λhm=>by
   have:=(mem_slotsOf.1 hm).2
   rw[Nat.testBit_and,ht]at this
   cases this)
theorem join_sound' {N:Nat} {c:Code} {L:Nat} {fr fr':Fr} {a':Act} {w':World} {rest:Fr->World->Prop} {sl:List Nat} (hsl:slotsOf N (dsts c&&& L)=sl) (hag:Agree N L fr' a') (hsame:Same (dsts c) fr fr')
 (h:appS (sl.map (shSlot P c)) (curryR (shReps (sl.map (shSlot P c))) (λvs w=>rest (zipS sl (packS (sl.map (shSlot P c)) vs)++fr) w)) (sl.map (get fr')) w')
 (hN:∀t,(dsts c).testBit t=true->t < N):
 ∃fr'',Agree N L fr'' a'/\Same (dsts c) fr fr''/\rest fr'' w':=by
 subst hsl
 exact join_sound rfl hag hsame h hN
theorem wfOps_dsts {N:Nat}:∀{l:List Oper},wfOps N l=true->∀t,(dstsOps l).testBit t=true->t < N:=by
 intro l
 induction l with
 |nil=>intro _ t ht;simp [dstsOps]at ht
 |cons o r ih=>
  intro h t ht
  simp only[wfOps,Bool.and_eq_true]at h
  cases ho:o.dst with
  |none=>simp only[dstsOps,ho]at ht;exact ih h.2 t ht
  |some d=>
   simp only[dstsOps,ho,testBit_addB,Bool.or_eq_true,decide_eq_true_eq]at ht
   rcases ht with rfl|ht
   ·have:=h.1;rw[ho]at this;simpa using this
   ·exact ih h.2 t ht
theorem wfC_dsts {N:Nat}:∀{c:Code},wfC N c=true->∀t,(dsts c).testBit t=true->t < N:=by
 intro c
 induction c with
 |region id ops draw=>intro h;exact wfOps_dsts h
 |seq a b iha ihb=>
  intro h t ht
  simp only[wfC,Bool.and_eq_true]at h
  simp only[dsts,Nat.testBit_or,Bool.or_eq_true]at ht
  exact ht.elim (iha h.1 t) (ihb h.2 t)
 |cond c x y iha ihb=>
  intro h t ht
  simp only[wfC,Bool.and_eq_true]at h
  simp only[dsts,Nat.testBit_or,Bool.or_eq_true]at ht
  exact ht.elim (iha h.1 t) (ihb h.2 t)
 |block id c ih=>intro h;exact ih h
 |loop c ih=>intro h;exact ih h
 |scope c ih=>intro h;exact ih h
 |_=>intro _ t ht;simp [dsts]at ht
def BlkOk (N:Nat) (Q:Exit->Act->World->Prop) (D:Nat) (fr:Fr) (B:List Blk):Prop:=
 ∀id fr' w' a',Agree N (bLive (bls B) id) fr' a'->Same D fr fr'->bk B id fr' w'->Q (.exit id) a' w'
def DrawOk (P:Program) (D:DrawT):Prop:=
 ∀(N id:Nat) (ops:Array Oper) (K:Fr->World->Prop) (Q:Exit->Act->World->Prop) (L:Nat) (fr:Fr) (a:Act) (w:World),wfOps N ops.toList=true->
  Agree N (lvOps ops.toList ops.toList L) fr a->(∀fr' w' a',Agree N L fr' a'->Same (dstsOps ops.toList) fr fr'->K fr' w'->Q .normal a' w')->
  D P ops.toList K fr w->(Code.region id ops true).wp P Q a w
theorem bk_cons_ne {i L id:Nat} {k:Fr->World->Prop} {B:List Blk} (h:id≠i):bk ((i,L,k)::B) id=bk B id/\bLive (bls ((i,L,k)::B)) id=bLive (bls B) id:=by
 have:Nat.beq i id=false:=by cases hb:Nat.beq i id;rfl;exact absurd (Nat.eq_of_beq_eq_true hb).symm h
 simp [bk,bls,bLive,this]
theorem bk_cons_eq {i L:Nat} {k:Fr->World->Prop} {B:List Blk}:bk ((i,L,k)::B) i=k/\bLive (bls ((i,L,k)::B)) i=L:=by
 simp [bk,bls,bLive]
theorem cw_sound (hn:NamesOk P) {D:DrawT} (hD:DrawOk P D) {N rL:Nat} {r:Fr->World->Prop}:∀(c:Code) (B:List Blk) (L:Nat) (k:Fr->World->Prop) (fr:Fr) (a:Act) (w:World) (Q:Exit->Act->World->Prop),
 wfC N c=true->Agree N (lv c (bls B) rL L) fr a->(∀fr' w' a',Agree N L fr' a'->Same (dsts c) fr fr'->k fr' w'->Q .normal a' w')->BlkOk N Q (dsts c) fr B->
 (∀fr' w' a',Agree N rL fr' a'->r fr' w'->Q .ret a' w')->cw P D N c B rL r L k fr w->c.wp P Q a w:=by
 intro c
 induction c with
 |skip=>intro B L k fr a w Q _ ha hk _ _ h;exact wp_skip (hk fr w a ha (Same.refl _ _) h)
 |label l=>intro B L k fr a w Q _ ha hk _ _ h;exact wp_label (hk fr w a ha (Same.refl _ _) h)
 |exit id=>intro B L k fr a w Q _ ha _ hB _ h;exact wp_exit (hB id fr w a ha (Same.refl _ _) h)
 |ret=>intro B L k fr a w Q _ ha _ _ hr h;exact wp_ret (hr fr w a ha h)
 |seq x y ihx ihy=>
  intro B L k fr a w Q hwf ha hk hB hr h
  simp only[wfC,Bool.and_eq_true]at hwf
  have hx:∀t,(dsts (x.seq y)).testBit t=false->(dsts x).testBit t=false/\(dsts y).testBit t=false:=λt ht=>by
   simpa[dsts,Nat.testBit_or]using ht
  have goY:∀fr' w' a',Agree N (lv y (bls B) rL L) fr' a'->Same (dsts x) fr fr'->cw P D N y B rL r L k fr' w'->y.wp P Q a' w':=by
   intro fr' w' a' hag hs hc
   refine ihy B L k fr' a' w' Q hwf.2 hag (λfr2 w2 a2 h1 h2 h3=>hk fr2 w2 a2 h1 ?_ h3) (λid fr2 w2 a2 h1 h2 h3=>hB id fr2 w2 a2 h1 ?_ h3) hr hc
   ·exact(hs.mono λt ht=>(hx t ht).1).trans (h2.mono λt ht=>(hx t ht).2)
   ·exact(hs.mono λt ht=>(hx t ht).1).trans (h2.mono λt ht=>(hx t ht).2)
  have hBx:BlkOk N (Exit.then (y.wp P Q) Q) (dsts x) fr B:=λid fr' w' a' h1 h2 h3=>hB id fr' w' a' h1 (h2.mono λt ht=>(hx t ht).1) h3
  refine wp_seq ?_
  simp only[cw]at h
  cases hp:Nat.ble 2 (paths P x)
  ·rw[hp]at h
   exact ihx B _ _ fr a w _ hwf.1 ha (λfr' w' a' h1 h2 h3=>goY fr' w' a' h1 h2 h3) hBx hr h
  ·rw[hp]at h
   simp only[cond_true,joinK,JoinP]at h
   refine ihx B _ _ fr a w _ hwf.1 ha (λfr' w' a' h1 h2 h3=>?_) hBx hr h
   obtain⟨fr'',h4,h5,h6⟩:=join_sound (rest:=cw P D N y B rL r L k) rfl h1 h2 h3 (wfC_dsts hwf.1)
   exact goY fr'' w' a' h4 h5 h6
 |cond c x y ihx ihy=>
  intro B L k fr a w Q hwf ha hk hB hr h
  simp only[wfC,Bool.and_eq_true]at hwf
  simp only[lv]at ha
  have hx:∀t,(dsts (Code.cond c x y)).testBit t=false->(dsts x).testBit t=false/\(dsts y).testBit t=false:=λt ht=>by
   simpa[dsts,Nat.testBit_or]using ht
  have ha':=ha.mono (rdOpd_mono c _)
  have hax:Agree N (lv x (bls B) rL L) fr a:=ha'.mono λt ht=>by simp [Nat.testBit_or,ht]
  have hay:Agree N (lv y (bls B) rL L) fr a:=ha'.mono λt ht=>by simp [Nat.testBit_or,ht]
  simp only[cw]at h
  obtain⟨t,hc,hK⟩:=pickK_iff h
  have hev:a.eval c= .bool t:=ha.evalOne.trans hc
  refine wp_cond hev ?_
  cases t
  ·exact ihy B L k fr a w Q hwf.2 hay (λfr' w' a' h1 h2 h3=>hk fr' w' a' h1 (h2.mono λt ht=>(hx t ht).2) h3) (λid fr' w' a' h1 h2 h3=>hB id fr' w' a' h1 (h2.mono λt ht=>(hx t ht).2) h3) hr hK
  ·exact ihx B L k fr a w Q hwf.1 hax (λfr' w' a' h1 h2 h3=>hk fr' w' a' h1 (h2.mono λt ht=>(hx t ht).1) h3) (λid fr' w' a' h1 h2 h3=>hB id fr' w' a' h1 (h2.mono λt ht=>(hx t ht).1) h3) hr hK
 |block id c ih=>
  intro B L k fr a w Q hwf ha hk hB hr h
  refine wp_block ?_
  have go:∀k',(∀fr' w' a',Agree N L fr' a'->Same (dsts c) fr fr'->k' fr' w'->Q .normal a' w')->cw P D N c ((id,L,k')::B) rL r L k' fr w->c.wp P (Exit.inBlock id Q) a w:=by
   intro k' hk' hc
   refine ih ((id,L,k')::B) L k' fr a w _ hwf ha (λfr' w' a' h1 h2 h3=>hk' fr' w' a' h1 h2 h3) ?_ hr hc
   intro id' fr' w' a' h1 h2 h3
   by_cases e:id'=id
   ·subst e
    rw[bk_cons_eq.2]at h1
    rw[bk_cons_eq.1]at h3
    simp only[Exit.inBlock,if_true]
    exact hk' fr' w' a' h1 h2 h3
   ·rw[(bk_cons_ne e).2]at h1
    rw[(bk_cons_ne e).1]at h3
    simp only[Exit.inBlock,e,if_false]
    exact hB id' fr' w' a' h1 h2 h3
  simp only[cw]at h
  cases hp:Nat.ble 2 (paths P c+exitsTo id c)
  ·rw[hp]at h
   exact go k hk h
  ·rw[hp]at h
   simp only[cond_true,joinK,JoinP]at h
   refine go _ (λfr' w' a' h1 h2 h3=>?_) h
   obtain⟨fr'',h4,h5,h6⟩:=join_sound (rest:=k) rfl h1 h2 h3 (wfC_dsts (c:=c) hwf)
   exact hk fr'' w' a' h4 h5 h6
 |scope c ih=>
  intro B L k fr a w Q hwf ha hk hB hr h
  exact wp_scope_straight (ih B L k fr a w (Exit.noGoto Q) hwf ha hk hB hr h)
 |region id ops draw=>
  intro B L k fr a w Q hwf ha hk hB hr h
  simp only[cw]at h
  cases draw
  ·exact wp_region_list (opsK_sound hn ops.toList ops.toList L fr a w hwf ha hk h)
  ·exact hD N id ops k Q L fr a w hwf ha hk h
 |loop c ih=>
  intro B L k fr a w Q hwf ha hk hB hr h
  simp only[cw]at h
  simp only[lv]at ha
  generalize hLh:lv c (bls B) rL 0=Lh at h ha
  cases hs:Nat.beq (lv c (bls B) rL Lh|||Lh) Lh
  ·rw[hs]at h;exact h.elim
  rw[hs]at h
  simp only[cond_true]at h
  have hsub:∀t,(lv c (bls B) rL Lh).testBit t=true->Lh.testBit t=true:=by
   intro t ht
   rw[←Nat.eq_of_beq_eq_true hs,Nat.testBit_or,ht];rfl
  generalize hsl:slotsOf N (dsts c&&& Lh)=sl at h
  have hslL:∀t∈sl,Lh.testBit t=true:=by
   intro t ht
   rw[←hsl]at ht
   have:=(mem_slotsOf.1 ht).2
   rw[Nat.testBit_and,Bool.and_eq_true]at this
   exact this.2
  obtain⟨I,μ,hstart,hround⟩:=h
  have vals:∀{fr':Fr} {a':Act},Agree N Lh fr' a'->sl.map (get fr')=sl.map (λt=>a'.tmps.getD t undef):=by
   intro fr' a' hag
   exact List.map_congr_left λt ht=>(hag.slots t (hslL t ht)).symm
  refine wp_loop (λa' w'=>∃fr',Agree N Lh fr' a'/\Same (dsts c) fr fr'/\appS (sl.map (shSlot P c)) I (sl.map (get fr')) w')
   (λa' w'=>numR (shReps (sl.map (shSlot P c))) μ (flatT (sl.map (shSlot P c)) (sl.map (λt=>a'.tmps.getD t undef))) w') ⟨fr,ha,Same.refl _ _,hstart⟩ ?_
  rintro a1 w1 ⟨fr1,hag1,hs1,hI⟩
  obtain⟨hok,hI'⟩:=appS_iff hI
  have h1:=appR_eqN (μ:=μ) hI'
  have h2:=appS_of hok (allR_app (hround _) h1)
  obtain⟨fr2,hag2,hs2,h3⟩:=join_sound' (rest:=λfr' w'=>cw P D N c B rL r Lh (λfr' w''=>appS (sl.map (shSlot P c)) _ (sl.map (get fr')) w'') fr' w') hsl hag1 hs1 h2 (wfC_dsts (c:=c) hwf)
  refine ih B Lh _ fr2 a1 w1 _ hwf (hag2.mono hsub) ?_ ?_ hr h3
  ·intro fr3 w3 a3 hag3 hs3 h4
   obtain⟨hok4,h4'⟩:=appS_iff h4
   obtain⟨h5,h6⟩:=appR_and h4'
   refine⟨⟨fr3,hag3,hs2.trans hs3,appS_of hok4 h5⟩,?_⟩
   have h7:=appR_ltN h6
   rw[vals hag3,vals hag1]at h7
   exact h7
  ·intro id fr3 w3 a3 h5 h6 h7
   exact hB id fr3 w3 a3 h5 (hs2.trans h6) h7
 |_=>intro B L k fr a w Q _ _ _ _ _ h;exact h.elim
theorem get_fr0:∀(vs:List Value) (i t:Nat),get (fr0 i vs) t=if i<=t then(vs[t - i]?).getD undef else undef:=by
 intro vs
 induction vs with
 |nil=>intro i t;simp [fr0,get]
 |cons v vs ih=>
  intro i t
  simp only[fr0,get_cons,ih]
  by_cases h:t=i
  ·subst h;simp
  ·by_cases h2:i<=t
   ·have e:t - i=(t - (i+1))+1:=by omega
    rw[if_neg h,if_pos (by omega:i+1<=t),if_pos h2,e];rfl
   ·rw[if_neg h,if_neg (by omega:¬i+1<=t),if_neg h2]
def resF (tmps:Array Value):ResultVar->Sem Value
 | .tmp t=>pure (tmps.getD t undef)
 | .cell x t=>do loadVar t (←asAddr (tmps.getD x undef))
theorem results_eq (fn:Func) (tmps:Array Value):results fn tmps=(do let vs ←fn.results.mapM (resF tmps);pure (if h:vs.size=1 then vs[0] else .tuple vs)):=by
 unfold results
 congr 1
theorem retVs_sound:∀(rs:List ResultVar) (fr:Fr) (a:Act) (w:World) (N:Nat) (K:List Value->Prop),Agree N (retL rs) fr a->retVs P rs fr w K->
 ∃vs,(rs.mapM (resF a.tmps)).run P w= .ok vs w/\K vs:=by
 intro rs
 induction rs with
 |nil=>intro fr a w N K _ h;exact⟨[],rfl,h⟩
 |cons r rs ih=>
  intro fr a w N K ha h
  cases r with
  |tmp t=>
   simp only[retL]at ha
   obtain⟨vs,h1,h2⟩:=ih fr a w N _ (ha.mono λi hi=>by simp [testBit_addB,hi]) h
   have ht:=ha.slots t (by simp [testBit_addB])
   refine⟨get fr t::vs,?_,h2⟩
   simp only[List.mapM_cons,Sem.run_bind,resF,Sem.run_pure,Result.andThen_ok,ht,h1]
  |cell x ty=>
   simp only[retL]at ha
   obtain⟨ad,had,h'⟩:=withAddr_iff h
   obtain⟨v,h1,h2⟩:=ldK_same h'
   obtain⟨vs,h3,h4⟩:=ih fr a w N _ (ha.mono λi hi=>by simp [testBit_addB,hi]) h2
   have ht:=ha.slots x (by simp [testBit_addB])
   refine⟨v::vs,?_,h4⟩
   have hx:(resF a.tmps (.cell x ty)).run P w= .ok v w:=by simp only[resF,Sem.run_bind,ht,had,asAddr,Sem.run_pure,Result.andThen_ok,h1]
   simp only[List.mapM_cons,Sem.run_bind,hx,Result.andThen_ok,h3,Sem.run_pure]
theorem calls_of_fnK (hn:NamesOk P) {D:DrawT} (hD:DrawOk P D) {f:FuncId} {fn:Func} {args:Array Value} {w:World} {R:KV} (hf:P.funcs[f]? =some fn)
 (hwf:((match fn.body with|some c=>wfC fn.ntmps c|none=>false)&&Nat.ble args.size fn.ntmps)=true) (h:fnK P D fn args w R):Spec P f args w R:=by
 unfold fnK at h
 cases hb:fn.body with
 |none=>rw[hb]at h;exact h.elim
 |some c=>
  rw[hb]at h hwf
  simp only[Bool.and_eq_true,Nat.ble_eq]at hwf h
  have ha:Agree fn.ntmps (lv c [] (retL fn.results.toList) (retL fn.results.toList)) (fr0 0 args.toList) {tmps:=args++Array.replicate (fn.ntmps - args.size) undef,defers:=[]}:=by
   refine⟨by simp;omega,rfl,λt _=>?_⟩
   rw[get_fr0]
   simp only[Nat.zero_le,if_true,Nat.sub_zero,Array.getD_eq_getD_getElem?,Array.getElem?_append,Array.getElem?_toList]
   split
   ·rfl
   ·rename_i hlt
    rw[Array.getElem?_replicate]
    have:args[t]? =none:=by simp;omega
    rw[this];split<;>rfl
  have fin:∀fr' w' a',Agree fn.ntmps (retL fn.results.toList) fr' a'->retVs P fn.results.toList fr' w' (λvs=>R (resVal vs) w')->a'.defers=[]/\∃v,(results fn a'.tmps).run P w'= .ok v w'/\(∃u,Ending.returned v= .returned u/\R u w'):=by
   intro fr' w' a' hag hr
   obtain⟨vs,h1,h2⟩:=retVs_sound _ _ _ _ _ _ hag hr
   refine⟨hag.defers,resVal vs,?_,_,rfl,h2⟩
   rw[results_eq,Array.mapM_eq_mapM_toList]
   simp only[Sem.run_bind,Sem.run_map,h1,Result.andThen_ok,Sem.run_pure]
   congr 1
   match vs with
   |[]=>rfl
   |[v]=>rfl
   |v::u::vs=>simp [resVal]
  refine calls_of_wp hf hb (cw_sound hn hD c [] _ _ _ _ _ _ hwf.1 ha (λfr' w' a' h1 _ h3=>fin fr' w' a' h1 h3) (λid fr' w' a' _ _ h3=>h3.elim) (λfr' w' a' h1 h3=>fin fr' w' a' h1 h3) h)
end Go.CW
