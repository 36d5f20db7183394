/- A part of the proof. -/
import Derived.Test.YtdpmhkbhlbfbeaaGreatDoorZCwD
namespace Go.CW
variable {P:Program}
theorem exR_mono {r:Rep} {φ K K':Value->Prop} (hk:∀v,K v->K' v) (h:exR r φ K):exR r φ K':=by
 cases r<;>exact let ⟨x,h1,h2⟩:=h;⟨x,h1,hk _ h2⟩
theorem exRs_mono {rs:List Rep}:∀{K K':List Value->Prop},(∀vs,K vs->K' vs)->exRs rs K->exRs rs K':=by
 induction rs with
 |nil=>intro K K' hk h;exact hk _ h
 |cons r rs ih=>intro K K' hk h;cases r<;>exact let ⟨x,hx⟩:=h;⟨x,ih (λvs hv=>hk _ hv) hx⟩
theorem exShs_mono {ss:List Sh0}:∀{K K':List Value->Prop},(∀vs,K vs->K' vs)->exShs ss K->exShs ss K':=by
 induction ss with
 |nil=>intro K K' hk h;exact hk _ h
 |cons s ss ih=>intro K K' hk h;cases s<;>exact exRs_mono (λvs hv=>ih (λus hu=>hk _ hu) hv) h
theorem exSp_mono {s:Shp} {φ K K':Value->Prop} (hk:∀v,K v->K' v) (h:exSp s φ K):exSp s φ K':=by
 cases s with
 |s x=>cases x with
  |one r=>exact exR_mono hk h
  |agg rs=>exact exRs_mono (λvs hv=>⟨hv.1,hk _ hv.2⟩) h
 |tup ss=>exact exShs_mono (λvs hv=>⟨hv.1,hk _ hv.2⟩) h
theorem withAddr_mono {v:Value} {K K':Addr->Prop} (hk:∀a,K a->K' a) (h:withAddr v K):withAddr v K':=by
 obtain⟨a,rfl,h⟩:=withAddr_iff h;exact hk a h
theorem leK_mono {b:Int} {A A':Prop} (hk:A->A') (h:leK b A):leK b A':=by cases b<;>first|exact hk h|exact h.elim
theorem nzK_mono {b:Int} {A A':Prop} (hk:A->A') (h:nzK b A):nzK b A':=by
 cases b with
 |ofNat n=>cases n<;>first|exact hk h|exact h.elim
 |negSucc n=>exact hk h
theorem intK_at {op:BinOp} {k:IntKind} {a b:Int} {w:World} {K K':KV} (hk:∀v,K v w->K' v w) (h:intK op k a b w K):intK op k a b w K':=by
 cases op<;>first|exact hk _ h|exact nzK_mono (hk _) h|exact h.elim
theorem strK_at {op:BinOp} {a b:ByteArray} {w:World} {K K':KV} (hk:∀v,K v w->K' v w) (h:strK op a b w K):strK op a b w K':=by
 cases op<;>first|exact hk _ h|exact⟨h.1,hk _ h.2⟩|exact h.elim
theorem nilEqK_at {op:BinOp} {t:TypeId} {a b:Value} {w:World} {K K':KV} (hk:∀v,K v w->K' v w) (h:nilEqK P op t a b w K):nilEqK P op t a b w K':=by
 unfold nilEqK at h ⊢
 split at h
 all_goals (try simp only[*])
 all_goals first
  |exact h.elim
  |(obtain⟨r,h1,h2⟩:=h;exact⟨r,h1,hk _ h2⟩)
theorem eqK_at {op:BinOp} {t:TypeId} {a b:Value} {cy:Bool} {w:World} {K K':KV} (hk:∀v,K v w->K' v w) (h:eqK P op t a b cy w K):eqK P op t a b cy w K':=by
 unfold eqK at h ⊢
 split at h
 ·split at h
  ·exact hk _ h
  ·exact h.elim
 ·exact nilEqK_at hk h
 ·exact nilEqK_at hk h
 ·exact nilEqK_at hk h
 ·exact nilEqK_at hk h
 ·obtain⟨r,h1,h2,h3⟩:=h;exact⟨r,h1,h2,hk _ h3⟩
theorem binIntK_at {op:BinOp} {a b:Value} {w:World} {K K':KV} (hk:∀v,K v w->K' v w) (h:binIntK op a b w K):binIntK op a b w K':=by
 unfold binIntK at h ⊢
 split at h
 ·split at h
  ·exact leK_mono (hk _) h
  ·exact h.elim
 ·split at h
  ·exact leK_mono (hk _) h
  ·exact h.elim
 ·split at h
  ·split at h
   ·rename_i e _
    subst e
    exact intK_at hk h
   ·exact h.elim
  ·exact h.elim
theorem binK_at {op:BinOp} {t:TypeId} {a b:Value} {cy:Bool} {w:World} {K K':KV} (hk:∀v,K v w->K' v w) (h:binK P op t a b cy w K):binK P op t a b cy w K':=by
 unfold binK at h ⊢
 split at h
 ·exact binIntK_at hk h
 ·split at h
  ·exact strK_at hk h
  ·exact h.elim
 ·split at h
  ·exact eqK_at hk h
  ·exact eqK_at hk h
  ·exact h.elim
theorem ldK_at {t:TypeId} {a:Addr} {w:World} {K K':KV} (hk:∀v,K v w->K' v w) (h:ldK P t a w K):ldK P t a w K':=by
 unfold ldK at h ⊢
 split at h
 ·exact h.elim
 ·split at h
  ·split at h
   ·split at h
    ·exact exRs_mono (λvs hv=>⟨hv.1,hk _ hv.2⟩) h
    ·obtain⟨cs,h1,h2⟩:=h;exact⟨cs,h1,hk _ h2⟩
   ·exact h.elim
  ·exact exR_mono hk h
theorem nilK_at {x:Value} {K K':Value->Prop} (hk:∀v,K v->K' v) (h:nilK x K):nilK x K':=by
 unfold nilK at h ⊢
 split at h
 ·exact hk _ h
 ·exact withAddr_mono (λ_ h=>hk _ h) h
theorem unK_at {op:UnOp} {x:Value} {w:World} {K K':KV} (hk:∀v,K v w->K' v w) (h:unK op x w K):unK op x w K':=by
 unfold unK at h ⊢
 split at h<;>first|exact hk _ h|exact h.elim
theorem exK_at {x:Value} {i:Nat} {K K':Value->Prop} (hk:∀v,K v->K' v) (h:exK x i K):exK x i K':=by
 unfold exK at h ⊢
 split at h
 ·split at h
  ·exact hk _ h
  ·exact h.elim
 ·exact h.elim
theorem fldK_at {sp:Shp} {t:TypeId} {x:Value} {f:Nat} {w:World} {K K':KV} (hk:∀v,K v w->K' v w) (h:fldK P sp t x f w K):fldK P sp t x f w K':=by
 unfold fldK at h ⊢
 split at h
 ·split at h
  ·split at h
   ·exact h.elim
   ·split at h
    ·split at h
     ·exact hk _ h
     ·exact h.elim
    ·split at h
     ·exact hk _ h
     ·exact h.elim
  ·exact h.elim
 ·exact exSp_mono hk h
theorem ixK_at {r:Shp} {t:TypeId} {x i:Value} {w:World} {K K':KV} (hk:∀v,K v w->K' v w) (h:ixK P r t x i w K):ixK P r t x i w K':=by
 unfold ixK at h ⊢
 split at h
 ·exact⟨h.1,hk _ h.2⟩
 ·exact h.elim
 ·exact exSp_mono hk h
theorem iaK_at {t:TypeId} {x i:Value} {K K':Addr->Prop} (hk:∀v,K v->K' v) (h:iaK P t x i K):iaK P t x i K':=by
 unfold iaK at h ⊢
 split at h
 ·split at h
  ·obtain⟨a,h1,h2⟩:=h;exact⟨a,h1,hk _ h2⟩
  ·exact h.elim
 ·split at h
  ·exact withAddr_mono (λa h=>⟨h.1,hk _ h.2⟩) h
  ·exact h.elim
 ·exact h.elim
theorem slK_at {t:TypeId} {x:Value} {lo hi mx:Option Value} {w:World} {K K':KV} (hk:∀v,K v w->K' v w) (h:slK P t x lo hi mx w K):slK P t x lo hi mx w K':=by
 unfold slK at h ⊢
 split at h
 ·split at h
  ·obtain⟨l,h',m,h1,h2⟩:=h;exact⟨l,h',m,h1,hk _ h2⟩
  ·exact h.elim
 ·split at h
  ·obtain⟨v,h1,h2⟩:=h;exact⟨v,h1,hk _ h2⟩
  ·exact h.elim
 ·split at h
  ·split at h
   ·exact withAddr_mono (λa h=>hk _ h) h
   ·refine withAddr_mono (λa h=>?_) h
    obtain⟨l,h',m,h1,h2⟩:=h;exact⟨l,h',m,h1,hk _ h2⟩
  ·exact h.elim
 ·exact h.elim
theorem bdK_at {t:TypeId} {parts:Array (Nat×Value)} {w:World} {K K':KV} (hk:∀v,K v w->K' v w) (h:bdK P t parts w K):bdK P t parts w K':=by
 unfold bdK at h ⊢
 split at h
 ·split at h
  ·exact fillK_mono _ (λc hc=>hk _ hc) _ _ h
  ·exact h.elim
 ·split at h
  ·exact fillK_mono _ (λc hc=>hk _ hc) _ _ h
  ·exact h.elim
 ·exact h.elim
theorem convK_at {s d:TypeId} {x:Value} {w:World} {K K':KV} (hd:∀e,P.underlying d≠some (.slice e)) (hk:∀v,K v w->K' v w) (h:convK P s d x w K):convK P s d x w K':=by
 unfold convK at h ⊢
 split at h
 ·split at h
  ·exact hk _ h
  ·exact h.elim
 ·split at h
  ·exact hk _ h
  ·exact h.elim
 ·rename_i hd';exact absurd hd' (hd _)
 ·exact exSp_mono hk h
theorem lenK_at {t:TypeId} {x:Value} {w:World} {K K':KV} (hk:∀v,K v w->K' v w) (h:lenK P t x w K):lenK P t x w K':=by
 unfold lenK at h ⊢
 split at h
 ·exact hk _ h
 ·exact h.elim
 ·exact hk _ h
 ·obtain⟨n,h1,h2⟩:=h;exact⟨n,h1,hk _ h2⟩
 ·exact exSp_mono hk h
theorem builtinK_at {r:Rep} {b:Builtin} {ts:Array TypeId} {ty:TypeId} {vs:Array Value} {w:World} {K K':KV} (hb:b= .len\/b= .min\/b= .max\/b= .cap) (hk:∀v,K v w->K' v w) (h:builtinK P r b ts ty vs w K):builtinK P r b ts ty vs w K':=by
 unfold builtinK at h ⊢
 split at h
 all_goals first
  |exact lenK_at hk h
  |exact hk _ h
  |exact exSp_mono hk h
  |(simp at hb;done)
  |exact h.elim
theorem opK_at {ρ:Operand->Value} {o:Oper} {w:World} {K K':KV} (hq:isEff P o=false) (hk:∀v,K v w->K' v w) (h:opK P ρ o w K):opK P ρ o w K':=by
 obtain⟨dst,op,type,pos,after,guard⟩:=o
 unfold opK at h ⊢
 cases op<;>simp only at h ⊢ <;>simp only[isEff,reduceCtorEq]at hq
 case move x=>exact hk _ h
 case assign x=>exact hk _ h
 case pick c a b=>
  obtain⟨t,hc,hK⟩:=pickK_iff h
  rw[hc]
  cases t<;>exact hk _ hK
 case binOp op t x y yt=>exact binK_at hk h
 case unOp op t x=>exact unK_at hk h
 case convert s d x=>exact convK_at (λe he=>by rw[he]at hq;cases hq) hk h
 case load t a=>exact withAddr_mono (λ_ h=>ldK_at hk h) h
 case nilCheck x=>exact nilK_at hk h
 case fieldAddr t x f=>
  refine withAddr_mono (λa h=>?_) h
  unfold faK at h ⊢
  split at h<;>first|exact hk _ h|exact h.elim
 case indexAddr t x i=>exact iaK_at (λ_ h=>hk _ h) h
 case index t x i=>exact ixK_at hk h
 case slice t x lo hi mx=>exact slK_at hk h
 case build t parts=>exact bdK_at hk h
 case extract x i=>exact exK_at hk h
 case call c=>
  obtain⟨callee,args,ats⟩:=c
  simp only at h hq ⊢
  cases callee with
  |value f=>simp at hq
  |invoke r m=>simp at hq
  |builtin b=>exact builtinK_at (by cases b<;>simp at hq ⊢) hk h
 case makeInterface t x=>exact exSp_mono hk h
 case makeFunc fn first captured=>exact hk _ h
 case sliceToArrayPointer t x=>exact exSp_mono hk h
 case field t x f=>exact fldK_at hk h
 case lookup t x i ok=>exact exSp_mono hk h
 case typeAssert x t asserted ok=>exact exSp_mono hk h
theorem opQ_sound (hn:NamesOk P) {ρ:Operand->Value} {o:Oper} {w:World} {K:Value->Prop} (hρ:∀f,ρ (.func f)= .func (.func f) #[] #[]) (hq:isEff P o=false) (h:opK P ρ o w (λv _=>K v)):
 ∃v,(execOp ρ o).run P w= .ok (.value v) w/\K v:=by
 have h':=opK_at hq (K':=λv w'=>w'=w/\K v) (λv hv=>⟨rfl,hv⟩) h
 have hr:=opK_sound hn hρ h'
 unfold runsTo at hr
 have gen:∀(s:Sem Value),execOp ρ o=(do pure (.value (←s)))->∃v,(execOp ρ o).run P w= .ok (.value v) w/\K v:=by
  intro s he
  rw[he]at hr ⊢
  simp only[Sem.run_bind]at hr ⊢
  cases hs:s.run P w with
  |halt x w'=>rw[hs]at hr;exact hr.elim
  |ok v w'=>
   rw[hs]at hr
   simp only[Result.andThen_ok,Sem.run_pure]at hr ⊢
   obtain⟨rfl,hK⟩:=hr
   exact⟨v,rfl,hK⟩
 obtain⟨dst,op,type,pos,after,guard⟩:=o
 cases op<;>simp only[isEff,reduceCtorEq]at hq
 case move x=>exact gen (pure (ρ x)) rfl
 case assign x=>exact gen (pure (ρ x)) rfl
 case pick c a b=>
  unfold opK at h
  obtain⟨t,hc,hK⟩:=pickK_iff h
  refine⟨if t then ρ a else ρ b,?_,by cases t<;>exact hK⟩
  simp only[execOp,hc,asBool]
  cases t<;>rfl
 case nilCheck x=>
  unfold opK at h
  rcases nilK_sound h with ⟨f,first,captured,hx,hK⟩|⟨a,hx,hK⟩
  ·exact⟨ρ x,by simp only[execOp,hx];rfl,hK⟩
  ·exact⟨ρ x,by simp only[execOp,hx];rfl,hK⟩
 case call c=>
  obtain⟨callee,args,ats⟩:=c
  cases callee with
  |value f=>simp at hq
  |invoke r m=>simp at hq
  |builtin b=>
   unfold opK at h
   obtain⟨s,he,_⟩:=builtinK_sound (cs:=args.map λ| .const _=>true|_=>false) h
   refine gen s ?_
   show(do let d ←resolve ρ _ type;invoke d.target d.args)=_
   rw[mapA_eq]at he
   simp only[resolve,pure_bind,invoke]
   exact he
 all_goals exact gen _ rfl
theorem pure_indep {ρ:Operand->Value} {o:Oper} {w w':World} {K:Value->Prop} (hp:isPure P o=true) (h:opK P ρ o w (λv _=>K v)):opK P ρ o w' (λv _=>K v):=by
 obtain⟨dst,op,type,pos,after,guard⟩:=o
 unfold opK at h ⊢
 cases op<;>simp only at h ⊢ <;>simp only[isPure,Bool.false_eq_true]at hp
 case move x=>exact h
 case assign x=>exact h
 case pick c a b=>exact h
 case unOp op t x=>exact h
 case nilCheck x=>exact h
 case fieldAddr t x f=>exact h
 case indexAddr t x i=>exact h
 case slice t x lo hi mx=>exact h
 case build t parts=>exact h
 case extract x i=>exact h
 case makeFunc fn first captured=>exact h
 case binOp op t x y yt=>
  generalize ρ x=a at h ⊢
  generalize ρ y=b at h ⊢
  generalize isConstO y=cy at h hp ⊢
  unfold binK at h ⊢
  split at h
  ·exact h
  ·exact h
  ·split at h
   all_goals try exact h.elim
   all_goals
    unfold eqK at h ⊢
    split at h
    ·exact h
    ·exact h
    ·exact h
    ·exact h
    ·exact h
    ·exfalso;split at hp<;>simp_all
 case convert s d x=>
  unfold convK at h ⊢
  split at hp
  case h_2=>cases hp
  rename_i hs hd
  rw[hs,hd]at h ⊢
  generalize ρ x=v at h ⊢
  cases v<;>exact h
 case index t x i=>
  unfold ixK at h ⊢
  split at hp
  case h_2=>cases hp
  rename_i hs
  rw[hs]at h ⊢
  generalize ρ x=v at h ⊢
  generalize ρ i=u at h ⊢
  cases v<;>cases u<;>exact h
 case call c=>
  obtain⟨callee,args,ats⟩:=c
  simp only at h hp ⊢
  split at hp
  case h_3=>cases hp
  all_goals
   rename_i hh
   obtain⟨l⟩:=ats
   cases l with
   |nil=>simp at hh
   |cons t l=>
    simp at hh
    unfold builtinK at h ⊢
    cases l with
    |cons _ _=>exact h.elim
    |nil=>
     generalize mapA ρ args=va at h ⊢
     obtain⟨vs⟩:=va
     cases vs with
     |nil=>exact h.elim
     |cons v vs=>
      cases vs with
      |cons _ _=>exact h.elim
      |nil=>
       simp only at h ⊢
       unfold lenK at h ⊢
       rw[hh]at h ⊢
       cases v<;>exact h
theorem exR_pick {r:Rep} {φ K:Value->Prop} (h:exR r φ K):∃v,K v/\exR r φ (λu=>u=v):=by
 cases r<;>exact let ⟨x,h1,h2⟩:=h;⟨_,h2,x,h1,rfl⟩
theorem exRs_pick {rs:List Rep}:∀{K:List Value->Prop},exRs rs K->∃vs,K vs/\exRs rs (λus=>us=vs):=by
 induction rs with
 |nil=>intro K h;exact⟨[],h,rfl⟩
 |cons r rs ih=>
  intro K h
  cases r<;>(obtain⟨x,hx⟩:=h;obtain⟨vs,h1,h2⟩:=ih hx;exact⟨_,h1,x,exRs_mono (λus hu=>by rw[hu]) h2⟩)
theorem exShs_pick {ss:List Sh0}:∀{K:List Value->Prop},exShs ss K->∃vs,K vs/\exShs ss (λus=>us=vs):=by
 induction ss with
 |nil=>intro K h;exact⟨[],h,rfl⟩
 |cons s ss ih=>
  intro K h
  cases s<;>(obtain⟨vs,hx,h3⟩:=exRs_pick h;obtain⟨us,h1,h2⟩:=ih hx;exact⟨_,h1,exRs_mono (λus' hu=>by subst hu;exact exShs_mono (λus' hu=>by rw[hu]) h2) h3⟩)
theorem exSp_pick {s:Shp} {φ K:Value->Prop} (h:exSp s φ K):∃v,K v/\exSp s φ (λu=>u=v):=by
 cases s with
 |s x=>cases x with
  |one r=>exact exR_pick h
  |agg rs=>obtain⟨vs,⟨h1,h2⟩,h3⟩:=exRs_pick h;exact⟨_,h2,exRs_mono (λus hu=>by subst hu;exact⟨h1,rfl⟩) h3⟩
 |tup ss=>obtain⟨vs,⟨h1,h2⟩,h3⟩:=exShs_pick h;exact⟨_,h2,exShs_mono (λus hu=>by subst hu;exact⟨h1,rfl⟩) h3⟩
theorem fldK_pick {sp:Shp} {t:TypeId} {x:Value} {f:Nat} {w:World} {K:Value->Prop} (h:fldK P sp t x f w (λv _=>K v)):∃v,K v/\fldK P sp t x f w (λu _=>u=v):=by
 unfold fldK at h ⊢
 split at h
 ·split at h
  ·split at h
   ·exact h.elim
   ·split at h
    ·split at h
     ·exact⟨_,h,rfl⟩
     ·exact h.elim
    ·split at h
     ·exact⟨_,h,rfl⟩
     ·exact h.elim
  ·exact h.elim
 ·exact exSp_pick h
theorem intK_pick {op:BinOp} {k:IntKind} {a b:Int} {w:World} {K:Value->Prop} (h:intK op k a b w (λv _=>K v)):∃v,K v/\intK op k a b w (λu _=>u=v):=by
 cases op<;>first|exact⟨_,h,rfl⟩|exact h.elim|(obtain⟨h1,h2⟩:=nzK_iff h;exact⟨_,h2,nzK_mono (λ_=>rfl) h⟩)
theorem strK_pick {op:BinOp} {a b:ByteArray} {w:World} {K:Value->Prop} (h:strK op a b w (λv _=>K v)):∃v,K v/\strK op a b w (λu _=>u=v):=by
 cases op<;>first|exact⟨_,h,rfl⟩|exact h.elim|exact⟨_,h.2,h.1,rfl⟩
theorem nilEqK_pick {op:BinOp} {t:TypeId} {a b:Value} {w:World} {K:Value->Prop} (h:nilEqK P op t a b w (λv _=>K v)):∃v,K v/\nilEqK P op t a b w (λu _=>u=v):=by
 unfold nilEqK at h ⊢
 split at h
 all_goals (try simp only[*])
 all_goals first
  |exact h.elim
  |(obtain⟨r,h1,h2⟩:=h;exact⟨_,h2,r,h1,rfl⟩)
theorem eqK_pick {op:BinOp} {t:TypeId} {a b:Value} {cy:Bool} {w:World} {K:Value->Prop} (h:eqK P op t a b cy w (λv _=>K v)):∃v,K v/\eqK P op t a b cy w (λu _=>u=v):=by
 unfold eqK at h ⊢
 split at h
 ·split at h
  ·exact⟨_,h,rfl⟩
  ·exact h.elim
 ·exact nilEqK_pick h
 ·exact nilEqK_pick h
 ·exact nilEqK_pick h
 ·exact nilEqK_pick h
 ·obtain⟨r,h1,h2,h3⟩:=h;exact⟨_,h3,r,h1,h2,rfl⟩
theorem binIntK_pick {op:BinOp} {a b:Value} {w:World} {K:Value->Prop} (h:binIntK op a b w (λv _=>K v)):∃v,K v/\binIntK op a b w (λu _=>u=v):=by
 unfold binIntK at h ⊢
 split at h
 ·split at h
  ·obtain⟨h1,h2⟩:=leK_iff h;exact⟨_,h2,leK_mono (λ_=>rfl) h⟩
  ·exact h.elim
 ·split at h
  ·obtain⟨h1,h2⟩:=leK_iff h;exact⟨_,h2,leK_mono (λ_=>rfl) h⟩
  ·exact h.elim
 ·split at h
  ·split at h
   ·rename_i e _
    subst e
    exact intK_pick h
   ·exact h.elim
  ·exact h.elim
theorem binK_pick {op:BinOp} {t:TypeId} {a b:Value} {cy:Bool} {w:World} {K:Value->Prop} (h:binK P op t a b cy w (λv _=>K v)):∃v,K v/\binK P op t a b cy w (λu _=>u=v):=by
 unfold binK at h ⊢
 split at h
 ·exact binIntK_pick h
 ·split at h
  ·exact strK_pick h
  ·exact h.elim
 ·split at h
  ·exact eqK_pick h
  ·exact eqK_pick h
  ·exact h.elim
theorem lenK_pick {t:TypeId} {x:Value} {w:World} {K:Value->Prop} (h:lenK P t x w (λv _=>K v)):∃v,K v/\lenK P t x w (λu _=>u=v):=by
 unfold lenK at h ⊢
 split at h
 ·exact⟨_,h,rfl⟩
 ·exact h.elim
 ·exact⟨_,h,rfl⟩
 ·obtain⟨n,h1,h2⟩:=h;exact⟨_,h2,n,h1,rfl⟩
 ·exact exSp_pick h
theorem builtinK_pick {r:Rep} {b:Builtin} {ts:Array TypeId} {ty:TypeId} {vs:Array Value} {w:World} {K:Value->Prop} (hb:b= .len\/b= .min\/b= .max\/b= .cap) (h:builtinK P r b ts ty vs w (λv _=>K v)):∃v,K v/\builtinK P r b ts ty vs w (λu _=>u=v):=by
 unfold builtinK at h ⊢
 split at h
 all_goals first
  |exact lenK_pick h
  |exact⟨_,h,rfl⟩
  |exact exSp_pick h
  |(simp at hb;done)
  |exact h.elim
theorem opK_pick {ρ:Operand->Value} {o:Oper} {w:World} {K:Value->Prop} (hq:isEff P o=false) (h:opK P ρ o w (λv _=>K v)):∃v,K v/\opK P ρ o w (λu _=>u=v):=by
 obtain⟨dst,op,type,pos,after,guard⟩:=o
 unfold opK at h ⊢
 cases op<;>simp only at h ⊢ <;>simp only[isEff,reduceCtorEq]at hq
 case move x=>exact⟨_,h,rfl⟩
 case assign x=>exact⟨_,h,rfl⟩
 case pick c a b=>
  obtain⟨t,hc,hK⟩:=pickK_iff h
  rw[hc]
  cases t<;>exact⟨_,hK,rfl⟩
 case binOp op t x y yt=>exact binK_pick h
 case unOp op t x=>
  generalize ρ x=v at h ⊢
  unfold unK at h ⊢
  split at h<;>first|exact⟨_,h,rfl⟩|exact h.elim
 case convert s d x=>
  generalize ρ x=v at h ⊢
  unfold convK at h ⊢
  split at h
  ·split at h
   ·exact⟨_,h,rfl⟩
   ·exact h.elim
  ·split at h
   ·exact⟨_,h,rfl⟩
   ·exact h.elim
  ·rename_i hd;rw[hd]at hq;cases hq
  ·exact exSp_pick h
 case load t a=>
  obtain⟨ad,ha,h⟩:=withAddr_iff h
  rw[ha]
  show ∃v,K v/\ldK P t ad w (λu _=>u=v)
  unfold ldK at h ⊢
  split at h
  ·exact h.elim
  ·split at h
   ·split at h
    ·split at h
     ·obtain⟨vs,⟨h1,h2⟩,h3⟩:=exRs_pick h;exact⟨_,h2,exRs_mono (λus hu=>by subst hu;exact⟨h1,rfl⟩) h3⟩
     ·obtain⟨cs,h1,h2⟩:=h;exact⟨_,h2,cs,h1,rfl⟩
    ·exact h.elim
   ·exact exR_pick h
 case nilCheck x=>
  generalize ρ x=v at h ⊢
  unfold nilK at h ⊢
  split at h
  ·exact⟨_,h,rfl⟩
  ·obtain⟨ad,ha,h⟩:=withAddr_iff h
   rw[ha];exact⟨_,h,rfl⟩
 case fieldAddr t x f=>
  obtain⟨ad,ha,h⟩:=withAddr_iff h
  rw[ha]
  show ∃v,K v/\faK P t f ad (λa'=>Value.pointer (some a')=v)
  unfold faK at h ⊢
  split at h<;>first|exact⟨_,h,rfl⟩|exact h.elim
 case indexAddr t x i=>
  generalize ρ x=v at h ⊢
  generalize ρ i=u at h ⊢
  unfold iaK at h ⊢
  split at h
  ·split at h
   ·obtain⟨a,h1,h2⟩:=h;exact⟨_,h2,a,h1,rfl⟩
   ·exact h.elim
  ·split at h
   ·obtain⟨ad,rfl,h⟩:=withAddr_iff h;exact⟨_,h.2,h.1,rfl⟩
   ·exact h.elim
  ·exact h.elim
 case index t x i=>
  generalize ρ x=v at h ⊢
  generalize ρ i=u at h ⊢
  unfold ixK at h ⊢
  split at h
  ·exact⟨_,h.2,h.1,rfl⟩
  ·exact h.elim
  ·exact exSp_pick h
 case slice t x lo hi mx=>
  generalize ρ x=v at h ⊢
  unfold slK at h ⊢
  split at h
  ·split at h
   ·obtain⟨l,h',m,h1,h2⟩:=h;exact⟨_,h2,l,h',m,h1,rfl⟩
   ·exact h.elim
  ·split at h
   ·obtain⟨v,h1,h2⟩:=h;exact⟨_,h2,v,h1,rfl⟩
   ·exact h.elim
  ·split at h
   ·split at h
    ·obtain⟨ad,rfl,h2⟩:=withAddr_iff h;exact⟨_,h2,rfl⟩
    ·obtain⟨ad,rfl,l,h',m,h1,h2⟩:=withAddr_iff h;exact⟨_,h2,l,h',m,h1,rfl⟩
   ·exact h.elim
  ·exact h.elim
 case build t parts=>
  unfold bdK at h ⊢
  split at h
  ·split at h
   ·obtain⟨out,h1,h2⟩:=fillK_pick _ _ _ h
    exact⟨_,h1,fillK_mono _ (λc hc=>by rw[hc]) _ _ h2⟩
   ·exact h.elim
  ·split at h
   ·obtain⟨out,h1,h2⟩:=fillK_pick _ _ _ h
    exact⟨_,h1,fillK_mono _ (λc hc=>by rw[hc]) _ _ h2⟩
   ·exact h.elim
  ·exact h.elim
 case extract x i=>
  generalize ρ x=v at h ⊢
  unfold exK at h ⊢
  split at h
  ·split at h
   ·exact⟨_,h,rfl⟩
   ·exact h.elim
  ·exact h.elim
 case call c=>
  obtain⟨callee,args,ats⟩:=c
  simp only at h hq ⊢
  cases callee with
  |value f=>simp at hq
  |invoke r m=>simp at hq
  |builtin b=>exact builtinK_pick (by cases b<;>simp at hq ⊢) h
 case makeInterface t x=>exact exSp_pick h
 case makeFunc fn first captured=>exact⟨_,h,rfl⟩
 case sliceToArrayPointer t x=>exact exSp_pick h
 case field t x f=>exact fldK_pick h
 case lookup t x i ok=>exact exSp_pick h
 case typeAssert x t asserted ok=>exact exSp_pick h
end Go.CW
