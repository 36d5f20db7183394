/- A part of the proof. -/
import Derived.Test.YtdinpgnjnleioaaGreatDoorSRsX2
import Derived.Test.YtdinpgnjnleioaaGreatDoorSRfW
set_option linter.unusedSimpArgs false
set_option linter.unusedVariables false
set_option maxRecDepth 100000
section
namespace Go.Proofs.YtdinpgnjnleioaaGreatDoor.Rf
open CW RowKit
open Ses (Cm Rp RpAt RpOk rRp rCm nilV m32 Doer RdR.stepS)
def EI:Enc Int:=⟨1,λx=>[.int .i64 x],λ_=>rfl,by omega,λ_=>rfl⟩
abbrev tInt:TypeId:=3
abbrev tInts:TypeId:=73
theorem tyI:SlTyN Tryz.prog tInts tInt EI.s 8:=SlTyN.of (by kernel_rfl)
def rWn (gs gt:Nat) (wv:List Value):Array Value:=(Value.pointer (some ⟨gs,0,none⟩)::Value.pointer (some ⟨gt,0,none⟩)::(wv++(List.replicate 8 (Value.int .u64 0)++List.replicate 8 nilV))).toArray
structure WnIn (w:World) (F:Fp) (gu gs gt N:Nat) (bv mv:Value) (m:List UInt8) (u:Ru) (wv:List Value) (W:Nat->List Int):Prop where
 o:BK w gu (rWn gs gt wv) tUn
 s:SpAt w gs N u.b bv mv m
 t:TAt w gt u
 fu:F gu
 fs:F gs
 ft:F gt
 fb:∀q,bv.ownBlock=some q->F q
 fm:∀q,mv.ownBlock=some q->F q
 n1:gu≠gs
 n2:gu≠gt
 n3:gs≠gt
 nb:∀q,bv.ownBlock=some q->q≠gu/\q≠gt
 nm:∀q,mv.ownBlock=some q->q≠gu/\q≠gt
 lt:InW w F
 wl:wv.length=8
 wr:∀i,i < 8->RdR EI w (wv.getD i nilV) (W i)
 wf:∀i,i < 8->∀q,(wv.getD i nilV).ownBlock=some q->F q/\q≠gu/\q≠gt/\q≠gs
variable {w w':World} {F:Fp} {gu gs gt N:Nat} {bv mv:Value} {m:List UInt8} {u:Ru} {wv:List Value} {W:Nat->List Int}
theorem WnIn.grow (h:WnIn w F gu gs gt N bv mv m u wv W) (g:Grow w w'):WnIn w' F gu gs gt N bv mv m u wv W:=
 ⟨h.o.grow g,h.s.grow g,h.t.grow g,h.fu,h.fs,h.ft,h.fb,h.fm,h.n1,h.n2,h.n3,h.nb,h.nm,h.lt.grow g,h.wl,λi hi=>(h.wr i hi).grow g,h.wf⟩
theorem WnIn.turn {b:Nat} (h:WnIn w F gu gs gt N bv mv m u wv W) (t:Turn b w w') (hb:¬F b):WnIn w' F gu gs gt N bv mv m u wv W:=
 ⟨h.o.turn t (λe=>hb (e▸h.fu)),⟨h.s.o.turn t (λe=>hb (e▸h.fs)),Rd.turn h.s.rb t (λe=>hb (h.fb _ e)),Rd.turn h.s.rm t (λe=>hb (h.fm _ e)),h.s.hb,h.s.hN,h.s.hm,h.s.nb,h.s.nm,λq hq=>by have:=h.s.lb q hq;have:=t.size;omega,λq hq=>by have:=h.s.lm q hq;have:=t.size;omega⟩,
  h.t.turn t (λe=>hb (e▸h.ft)),h.fu,h.fs,h.ft,h.fb,h.fm,h.n1,h.n2,h.n3,h.nb,h.nm,(λk hk=>by have:=h.lt k hk;have:=t.size;omega),h.wl,λi hi=>RdR.stepS (h.wr i hi) (t.step (S :=λq=>q=b) rfl) (λq hq e=>hb (e▸(h.wf i hi q hq).1)),h.wf⟩
theorem WnIn.stable (h:WnIn w F gu gs gt N bv mv m u wv W) (hz:w.heap.size<=w'.heap.size) (hk:∀k,F k->w'.heap[k]? =w.heap[k]?):WnIn w' F gu gs gt N bv mv m u wv W:=by
 have rd:∀{v:Value} {xs:List UInt8},RdB w v xs->(∀q,v.ownBlock=some q->F q)->RdB w' v xs:=λhr hf=>hr.kept λa x ha ho=>(cell_of_heap (hk _ (hf _ ho))).trans ha
 exact⟨(hk _ h.fu).trans h.o,⟨(hk _ h.fs).trans h.s.o,rd h.s.rb h.fb,rd h.s.rm h.fm,h.s.hb,h.s.hN,h.s.hm,h.s.nb,h.s.nm,λq hq=>Nat.lt_of_lt_of_le (h.s.lb q hq) hz,λq hq=>Nat.lt_of_lt_of_le (h.s.lm q hq) hz⟩,
  ⟨(hk _ h.ft).trans h.t.b,h.t.len⟩,h.fu,h.fs,h.ft,h.fb,h.fm,h.n1,h.n2,h.n3,h.nb,h.nm,λk q=>Nat.lt_of_lt_of_le (h.lt k q) hz,h.wl,λi hi=>(h.wr i hi).stable λk hk'=>hk k (h.wf i hi k hk').1,h.wf⟩
theorem WnIn.table {S':Fp} {u':Ru} (h:WnIn w F gu gs gt N bv mv m u wv W) (st:Step (λq=>q=gt) w w' S') (t:TAt w' gt u') (hb:u'.b=u.b):WnIn w' F gu gs gt N bv mv m u' wv W:=
 ⟨h.o.stepS st h.n2,⟨h.s.o.stepS st h.n3,by rw[hb];exact h.s.rb.stepS st (λ_ q hq=>(h.nb q hq).2),h.s.rm.stepS st (λ_ q hq=>(h.nm q hq).2),by rw[hb];exact h.s.hb,h.s.hN,h.s.hm,h.s.nb,h.s.nm,λq hq=>Nat.lt_of_lt_of_le (h.s.lb q hq) st.size,λq hq=>Nat.lt_of_lt_of_le (h.s.lm q hq) st.size⟩,
  t,h.fu,h.fs,h.ft,h.fb,h.fm,h.n1,h.n2,h.n3,h.nb,h.nm,λk hk=>Nat.lt_of_lt_of_le (h.lt k hk) st.size,h.wl,λi hi=>RdR.stepS (h.wr i hi) st (λq hq=>(h.wf i hi q hq).2.2.1),h.wf⟩
theorem WnIn.space {S':Fp} {b' m':List UInt8} {bv' mv':Value} (h:WnIn w F gu gs gt N bv mv m u wv W) (st:Step (λq=>q=gs) w w' S') (s:SpAt w' gs N b' bv' mv' m') (n1:NewV w bv') (n2:NewV w mv'):
 WnIn w' (λq=>F q\/bv'.ownBlock=some q\/mv'.ownBlock=some q) gu gs gt N bv' mv' m' {u with b:=b'} wv W:=by
 have l1:=h.o.lt
 have l2:=h.t.b.lt
 exact⟨h.o.stepS st h.n1,s,TAt.eq ⟨h.t.b.stepS st h.n3.symm,h.t.len⟩ rfl rfl rfl rfl,.inl h.fu,.inl h.fs,.inl h.ft,λq hq=>.inr (.inl hq),λq hq=>.inr (.inr hq),h.n1,h.n2,h.n3,
  (λq hq=>by have:=n1 q hq;omega),(λq hq=>by have:=n2 q hq;omega),λk hk=>hk.elim (λhk=>Nat.lt_of_lt_of_le (h.lt k hk) st.size) (λhk=>hk.elim (s.lb k) (s.lm k)),h.wl,
  λi hi=>RdR.stepS (h.wr i hi) st (λq hq=>(h.wf i hi q hq).2.2.2),λi hi q hq=>⟨.inl (h.wf i hi q hq).1,(h.wf i hi q hq).2⟩⟩
theorem rWn_size (h:wv.length=8):(rWn gs gt wv).size=26:=by simp [rWn,h]
theorem WnIn.wait (h:WnIn w F gu gs gt N bv mv m u wv W) {i:Nat} (hi:i < 8):w.cell? (Addr.add (Addr.add ⟨gu,0,none⟩ 2) (Int.toNat (i:Int)*1))=some (wv.getD i nilV):=by
 have hl:=h.wl
 rw[add_add,h.o.cell]
 unfold rWn
 rw[List.getElem?_toArray,show 2+Int.toNat (i:Int)*1=i+2 by omega,List.getElem?_cons_succ,List.getElem?_cons_succ,List.getElem?_append_left (by omega),List.getD_eq_getElem?_getD,List.getElem?_eq_getElem (by omega)]
 rfl
theorem WnIn.c0 (h:WnIn w F gu gs gt N bv mv m u wv W):w.cell? (Addr.add ⟨gu,0,none⟩ 0)=some (zA gs):=by rw[h.o.cell];rfl
theorem WnIn.c1 (h:WnIn w F gu gs gt N bv mv m u wv W):w.cell? (Addr.add ⟨gu,0,none⟩ 1)=some (zA gt):=by rw[h.o.cell];rfl
theorem WnIn.setW (h:WnIn w F gu gs gt N bv mv m u wv W) (g:Grow w w') {i:Nat} (hi:i < 8) {v:Value} {l:List Int} (hr:RdR EI w' v l) (hn:NewV w v) (hl:∀q,v.ownBlock=some q->q < w'.heap.size) {w2:World} (e:w2=World.setCell w' (Addr.add (Addr.add ⟨gu,0,none⟩ 2) (Int.toNat (i:Int)*1)) v):
 St1 w' (Addr.add (Addr.add ⟨gu,0,none⟩ 2) (Int.toNat (i:Int)*1))/\WnIn w2 (λq=>F q\/v.ownBlock=some q) gu gs gt N bv mv m u (wv.set i v) (λj=>if j=i then l else W j)/\Step F w w2 (λq=>F q\/v.ownBlock=some q):=by
 have h':=h.grow g
 have hwl:=h.wl
 rw[add_add,show 2+Int.toNat (i:Int)*1=i+2 by omega]at e ⊢
 have hs:i+2 < (rWn gs gt wv).size:=by rw[rWn_size hwl];omega
 obtain⟨b2,t2⟩:=setE h'.o e
 have er:(rWn gs gt wv).setIfInBounds (i+2) v=rWn gs gt (wv.set i v):=by
  unfold rWn
  rw[List.setIfInBounds_toArray]
  congr 1
  rw[List.set_cons_succ,List.set_cons_succ,List.set_append_left _ _ (by omega)]
 rw[er]at b2
 have lgu:=h.o.lt
 have lgt:=h.t.b.lt
 have lgs:=h.s.o.lt
 have hg:∀j,(wv.set i v).getD j nilV=if j=i then v else wv.getD j nilV:=by
  intro j
  simp only[List.getD_eq_getElem?_getD,List.getElem?_set]
  by_cases hj:i=j
  ·subst hj;rw[if_pos rfl,if_pos rfl,if_pos (by omega)];rfl
  ·rw[if_neg hj,if_neg (λe=>hj e.symm)]
 refine⟨st1_at h'.o hs,⟨b2,⟨h'.s.o.turn t2 h.n1.symm,Rd.turn h'.s.rb t2 (λe=>(h.nb _ e).1 rfl),Rd.turn h'.s.rm t2 (λe=>(h.nm _ e).1 rfl),h.s.hb,h.s.hN,h.s.hm,h.s.nb,h.s.nm,(λq hq=>by have:=h'.s.lb q hq;have:=t2.size;omega),λq hq=>by have:=h'.s.lm q hq;have:=t2.size;omega⟩,
  h'.t.turn t2 h.n2.symm,.inl h.fu,.inl h.fs,.inl h.ft,λq hq=>.inl (h.fb q hq),λq hq=>.inl (h.fm q hq),h.n1,h.n2,h.n3,h.nb,h.nm,?_,by rw[List.length_set];exact hwl,λj hj=>?_,λj hj q hq=>?_⟩,?_⟩
 ·intro k hk
  have:=t2.size
  rcases hk with hk|hk
  ·have:=h'.lt k hk;omega
  ·have:=hl k hk;omega
 ·rw[hg]
  have st:Step (λq=>q=gu) w' w2 (λq=>q=gu):=t2.step rfl
  by_cases e:j=i
  ·rw[if_pos e,if_pos e]
   exact RdR.stepS hr st (λq hq e=>by have:=hn q hq;omega)
  ·rw[if_neg e,if_neg e]
   exact RdR.stepS (h'.wr j hj) st (λq hq=>(h.wf j hj q hq).2.1)
 ·rw[hg]at hq
  by_cases e:j=i
  ·rw[if_pos e]at hq
   have:=hn q hq
   exact⟨.inr hq,by omega,by omega,by omega⟩
  ·rw[if_neg e]at hq
   exact⟨.inl (h.wf j hj q hq).1,(h.wf j hj q hq).2⟩
 ·have st:Step F w w2 F:=(Step.of_grow g).then (t2.step h.fu)
  exact⟨st.os,st.tape,st.output,st.size,st.block,λq hq=>hq.elim .inl (λz=>.inr (hn q z))⟩
theorem UnIn.wait0 (h:UnIn w F gu gs gt N bv mv m u):WnIn w F gu gs gt N bv mv m u (List.replicate 8 nilV) (λ_=>[]):=
 ⟨h.o,h.s,h.t,h.fu,h.fs,h.ft,h.fb,h.fm,h.n1,h.n2,h.n3,h.nb,h.nm,h.lt,rfl,(λi hi=>by
  have:(List.replicate 8 nilV).getD i nilV=nilV:=by
   rw[List.getD_eq_getElem?_getD,List.getElem?_replicate];split<;>rfl
  rw[this];exact RdR.nil w),λi hi q hq=>by
  have:(List.replicate 8 nilV).getD i nilV=nilV:=by
   rw[List.getD_eq_getElem?_getD,List.getElem?_replicate];split<;>rfl
  rw[this]at hq;cases hq⟩
theorem popN_c (h:WnIn w F gu gs gt N bv mv m u wv W) {i:Nat} (hi:i < 8) (hW:W i=[]) {R:KV} (k:∀w',Grow w w'->R (.tuple #[.agg (rRp ⟨0,0,0,[],0⟩ nilV),.bool false]) w'):
 Zs 49 #[zA gu,.int .i64 (i:Int)] w R:=by
 apply q53W
 refine nm λw0 e0=>?_
 obtain⟨b0,g0,s0⟩:=alE e0
 have hl:=((h.wr i hi).grow g0).len
 rw[hW]at hl
 exact withAddr_some ⟨⟨by omega,by omega⟩,_,(h.grow g0).wait hi,_,hl,cond_t rfl (ret5 b0 rfl rfl λw' _ t=>k _ (Below.turn g0 t (Nat.le_refl _)))⟩
theorem popS_c (h:WnIn w F gu gs gt N bv mv m u wv W) {i:Nat} (hi:i < 8) {c:Int} (hW:W i=[c]) {R:KV}
 (k:∀w' F' wv',Step F w w' F'->WnIn w' F' gu gs gt N bv mv m u wv' (λj=>if j=i then[] else W j)->R (.tuple #[.agg (rRp ⟨2,6,c,[],0⟩ nilV),.bool true]) w'):
 Zs 49 #[zA gu,.int .i64 (i:Int)] w R:=by
 apply q53W
 refine nm λw0 e0=>?_
 obtain⟨b0,g0,s0⟩:=alE e0
 have h0:=h.grow g0
 have hr0:=h0.wr i hi
 rw[hW]at hr0
 have hl:=hr0.len
 obtain⟨a12,q1,q2,_⟩:=hr0.at (i:=0) (by omega) (by simp)
 have q3:w0.cell? a12=some (.int .i64 c):=by have:=q2 0 (by decide);rw[add_zero]at this;rw[this];rfl
 refine withAddr_some ⟨⟨by omega,by omega⟩,_,h0.wait hi,_,hl,cond_f rfl (withAddr_some ⟨⟨by omega,by omega⟩,_,h0.wait hi,a12,q1,_,q3,nm λw14 e14=>?_⟩)⟩
 have g14:=drE e14
 have h14:=h0.grow g14
 have hr14:=hr0.grow g14
 obtain⟨v17,hs17,r17,_⟩:=RdR.sub hr14 (lo:=some (.int .i64 1)) (hi:=none) (l:=1) (r:=1) (λcap hc=>by rw[bounds_in (by omega) (by simp)];rfl) (by omega) (by simp)
 have r17:RdR EI w14 v17 []:=r17
 refine withAddr_some ⟨⟨by omega,by omega⟩,_,h14.wait hi,v17,hs17,withAddr_some (nm λw19 e19=>?_)⟩
 obtain rfl:w19=w14:=e19.trans e14.symm
 obtain⟨_,gy,_⟩:=alE (w:=w19) (cs:= #[]) (t:=tInt) rfl
 refine⟨⟨_,(h14.grow gy).wait hi,rfl⟩,nm λw21 e21=>nm λw22 e22=>?_⟩
 clear gy
 obtain rfl:w22=w21:=e22.trans e21.symm
 obtain⟨_,g22,_⟩:=alE e22
 have o22:OwnR EI w22 w19.heap.size tInt (.slice (some ⟨w19.heap.size,0,none⟩) 0 0) []:=by rw[e22];exact OwnR.lit w19 (Nat.le_refl _) tInt [] 0 rfl (by simp [maxLen])
 obtain⟨v23,w24,k24,o24,n24⟩:=app_ownR tyI o22 (r17.grow g22) (by simp) g22.size
 rw[List.nil_append]at o24
 have g24:Grow w19 w24:=g22.trans (n24.below g22.size (λq hq=>(o22.lt q hq).1))
 have gA:Grow w w24:=(g0.then g14).then g24
 have hA:=h.setW gA hi o24.rd (λq hq=>by have:=(o24.lt q hq).1;have:=(g0.then g14).size;omega) (λq hq=>(o24.lt q hq).2) rfl
 refine⟨v23,w24,k24,⟨by omega,by omega⟩,oneK_of (Ses.own_isOne o24) ⟨hA.1,nm λw25 e25=>nm λw26 e26=>?_⟩⟩
 obtain rfl:w26=w25:=e26.trans e25.symm
 obtain⟨_,h26,st26⟩:=h.setW gA hi o24.rd (λq hq=>by have:=(o24.lt q hq).1;have:=(g0.then g14).size;omega) (λq hq=>(o24.lt q hq).2) e26
 have nF:∀q,w.heap.size<=q->¬F q:=λq hq hh=>by have:=h.lt _ hh;omega
 have l0:w.heap.size < w0.heap.size:=by omega
 have zA:=(g14.then g24).size
 have bk26:BK w26 w.heap.size #[.int .i64 0,.int .i64 0,.int .i64 0,nilV,.int .i64 0] tRp:=by
  have b24:=b0.grow (g14.then g24)
  have:=hA.2.1.o
  have hb:Turn gu w24 w26:=by
   have:=(setE (h.grow gA).o (w':=w26) (j:=i+2) (v:=v23) (by rw[e26,add_add,show 2+Int.toNat (i:Int)*1=i+2 by omega])).2
   exact this
  exact b24.turn hb (by have:=h.o.lt;omega)
 refine rWrong_c λw28 g28=>⟨_,_,_,_,_,rfl,ret5 (bk26.grow g28) rfl rfl λw' b' t'=>?_⟩
 have nF':¬(λq=>F q\/v23.ownBlock=some q) w.heap.size:=by
  rintro(hh|hh)
  ·exact nF _ (Nat.le_refl _) hh
  ·have:=(o24.lt _ hh).1;have:=g14.size;omega
 have m:=(((Md.refl F w.heap.size w).stp st26 (λq hq=>.inl hq) (λq hq=>(st26.fp q hq).imp .inl id)).grow g28).turn t' (.inr (Nat.le_refl _))
 exact k w' _ _ (m.out.imp (λ_ h=>h) (λq hq=>st26.fp q hq)) ((h26.grow g28).turn t' nF')
end Go.Proofs.YtdinpgnjnleioaaGreatDoor.Rf
end
section
namespace Go.Proofs.YtdinpgnjnleioaaGreatDoor.Rf
open CW RowKit
open Ses (Cm Rp RpAt RpOk rRp rCm nilV m32 Doer RdR.stepS own_isOne)
variable {w w':World} {F:Fp} {gu gs gt N:Nat} {bv mv:Value} {m:List UInt8} {u:Ru} {wv:List Value} {W:Nat->List Int}
def noteW (W:Nat->List Int) (i:Nat) (c:Int):Nat->List Int:=λj=>if j=i then[c] else W j
theorem note_c (h:WnIn w F gu gs gt N bv mv m u wv W) {i:Nat} (hi:i < 8) {c:Int} (hW:W i=[]\/W i=[c]) {R:KV}
 (k:∀w' F' wv',Step F w w' F'->WnIn w' F' gu gs gt N bv mv m u wv' (noteW W i c)->R (.tuple #[]) w'):
 Zs 65 #[zA gu,.int .i64 (i:Int),.int .i64 c] w R:=by
 apply q51W
 refine⟨λ(n:Int) (ww:World)=>n=0/\ww=w,λ(_:Int) (_:World)=>0,⟨rfl,rfl⟩,?_⟩
 dsimp only[allR,mapR2,eqN,ltN]
 rintro M n ww ⟨⟨rfl,rfl⟩,hM⟩
 have hr:=h.wr i hi
 rcases hW with hW|hW
 rotate_left
 ·
  rw[hW]at hr
  obtain⟨a12,q1,q2,_⟩:=hr.at (i:=0) (by omega) (by simp)
  have q3:ww.cell? a12=some (.int .i64 c):=by have:=q2 0 (by decide);rw[add_zero]at this;rw[this];rfl
  have e:noteW W i c=W:=by
   funext j;unfold noteW
   by_cases hj:j=i
   ·rw[if_pos hj,hj,hW]
   ·rw[if_neg hj]
  rw[e]at k
  exact withAddr_some ⟨⟨by omega,by omega⟩,_,h.wait hi,_,hr.len,cond_t rfl (withAddr_some ⟨⟨by omega,by omega⟩,_,h.wait hi,a12,q1,_,q3,cond_t (by simp) (k _ F wv (Step.refl _ _) h)⟩)⟩
 rw[hW]at hr
 refine withAddr_some ⟨⟨by omega,by omega⟩,_,h.wait hi,_,hr.len,cond_f rfl (nm λw10 e10=>?_)⟩
 have g10:=drE e10
 have h10:=h.grow g10
 have r10:=hr.grow g10
 refine withAddr_some ⟨⟨by omega,by omega⟩,_,h10.wait hi,withAddr_some (nm λw14 e14=>?_)⟩
 obtain rfl:w14=w10:=e14.trans e10.symm
 clear e10 e14
 have wt:∀{wz:World},Grow w14 wz->wz.cell? (Addr.add (Addr.add ⟨gu,0,none⟩ 2) (Int.toNat (i:Int)*1))=some (wv.getD i nilV):=λgz=>(h10.grow gz).wait hi
 have aL:∀{wz wy:World},Grow w14 wz->wy=World.alloc wz (.cells #[] tInt)->Grow w14 wy/\OwnR EI wy w14.heap.size tInt (.slice (some ⟨wz.heap.size,0,none⟩) 0 0) []/\Grow wz wy:=λ{wz wy} gz e=>by
  obtain⟨_,gy,_⟩:=alE e
  exact⟨gz.then gy,by rw[e];exact OwnR.lit wz gz.size tInt [] 0 rfl (by simp [maxLen]),gy⟩
 have aE:∀{wz wy:World},Grow w14 wz->wy=World.alloc wz (.cells #[.int .i64 c] tInt)->Grow w14 wy/\RdR EI wy (.slice (some ⟨wz.heap.size,0,none⟩) 1 1) [c]/\Grow wz wy:=λ{wz wy} gz e=>by
  obtain⟨_,gy,_⟩:=alE e
  exact⟨gz.then gy,by rw[e];exact(OwnR.lit (E:=EI) wz gz.size tInt [c] 1 rfl (by simp [maxLen])).rd,gy⟩
 have c1:∀{wz:World} {v:Value},Grow w14 wz->OwnR EI wz w14.heap.size tInt v []->∃v' w',Sem.run Tryz.prog (Builtin.append_ #[tInts,tInts] tInts #[v,wv.getD i nilV]) wz= .ok v' w'/\OwnR EI w' w14.heap.size tInt v' []/\OwnNext wz v w' v'/\Grow w14 w':=λ{wz v} gz o=>by
  obtain⟨v',w',k',o',n'⟩:=app_ownR tyI o (r10.grow gz) (by simp) gz.size
  exact⟨v',w',k',o',n',gz.trans (n'.below gz.size (λq hq=>(o.lt q hq).1))⟩
 have c2:∀{wz:World} {v s:Value},Grow w14 wz->OwnR EI wz w14.heap.size tInt v []->RdR EI wz s [c]->∃v' w',Sem.run Tryz.prog (Builtin.append_ #[tInts,tInts] tInts #[v,s]) wz= .ok v' w'/\OwnR EI w' w14.heap.size tInt v' [c]/\Grow w14 w':=λ{wz v s} gz o hs=>by
  obtain⟨v',w',k',o',n'⟩:=app_ownR tyI o hs (by simp [EI]) gz.size
  exact⟨v',w',k',o',gz.trans (n'.below gz.size (λq hq=>(o.lt q hq).1))⟩
 have keep:∀{wz wy:World} {b be:Nat} {v':Value},RdR EI wz (.slice (some ⟨be,0,none⟩) 1 1) [c]->OwnNext wz (.slice (some ⟨b,0,none⟩) 0 0) wy v'->be≠b->RdR EI wy (.slice (some ⟨be,0,none⟩) 1 1) [c]:=λ{wz wy b be v'} r n hne=>by
  refine RdR.stepS r (Step.of_own n (S :=λq=>q=b) (λq hq=>by simpa[Value.ownBlock,eq_comm]using hq)) (λq hq e=>?_)
  have:be=q:=by simpa[Value.ownBlock]using hq
  omega
 have fin:∀{wz:World} {v:Value},Grow w14 wz->OwnR EI wz w14.heap.size tInt v [c]->(inR (i:Int) 8)/\oneK v ((St1 wz (Addr.add (Addr.add ⟨gu,0,none⟩ 2) ((Int.toNat (i:Int))*1)))/\bindW (World.setCell wz (Addr.add (Addr.add ⟨gu,0,none⟩ 2) ((Int.toNat (i:Int))*1)) v) λ_=>bindW (World.setCell wz (Addr.add (Addr.add ⟨gu,0,none⟩ 2) ((Int.toNat (i:Int))*1)) v) λw26=>R (.tuple #[]) w26):=λ{wz v} gz o=>by
  have gA:=g10.then gz
  have hn:NewV ww v:=λq hq=>by have:=(o.lt q hq).1;have:=g10.size;omega
  refine⟨⟨by omega,by omega⟩,oneK_of (own_isOne o) ⟨(h.setW gA hi o.rd hn (λq hq=>(o.lt q hq).2) rfl).1,nm λw25 e25=>nm λw26 e26=>?_⟩⟩
  obtain rfl:w26=w25:=e26.trans e25.symm
  obtain⟨_,h26,st⟩:=h.setW gA hi o.rd hn (λq hq=>(o.lt q hq).2) e26
  exact k w26 _ _ st h26
 constructor
 ·obtain⟨g0, -, -⟩:=aL (Grow.refl w14) (rfl:World.alloc w14 (.cells #[] tInt)=_)
  refine⟨⟨_,wt g0,rfl⟩,nm λw16 e16=>nm λw17 e17=>?_⟩
  clear g0
  obtain⟨g17,o17,g17'⟩:=aL (Grow.refl w14) e17
  have z17:w17.heap.size=w14.heap.size+1:=(alE e17).2.2
  constructor
  ·obtain⟨v18,w19,k19,o19,n19,g19⟩:=c1 g17 o17
   obtain⟨g0, -, -⟩:=aE g19 (rfl:World.alloc w19 (.cells #[.int .i64 c] tInt)=_)
   refine⟨v18,w19,k19,⟨_,wt g0,rfl⟩,nm λw21 e21=>nm λw22 e22=>?_⟩
   clear g0
   obtain⟨g22,r22,g22'⟩:=aE g19 e22
   obtain⟨v23,w24,k24,o24,g24⟩:=c2 g22 (o19.grow g22') r22
   exact⟨v23,w24,k24,fin g24 o24⟩
  ·obtain⟨g0, -, -⟩:=aE g17 (rfl:World.alloc w17 (.cells #[.int .i64 c] tInt)=_)
   refine⟨⟨_,wt g0,rfl⟩,nm λw28 e28=>nm λw29 e29=>?_⟩
   clear g0
   obtain⟨g29,r29,g29'⟩:=aE g17 e29
   obtain⟨v30,w31,k31,o31,n31,g31⟩:=c1 g29 (o17.grow g29')
   obtain⟨v32,w33,k33,o33,g33⟩:=c2 g31 o31 (keep r29 n31 (by omega))
   exact⟨v30,w31,k31,v32,w33,k33,fin g33 o33⟩
 ·obtain⟨g0, -, -⟩:=aE (Grow.refl w14) (rfl:World.alloc w14 (.cells #[.int .i64 c] tInt)=_)
  refine⟨⟨_,wt g0,rfl⟩,nm λw37 e37=>nm λw38 e38=>?_⟩
  clear g0
  obtain⟨g38,r38,g38'⟩:=aE (Grow.refl w14) e38
  have z38:w38.heap.size=w14.heap.size+1:=(alE e38).2.2
  obtain⟨g0, -, -⟩:=aL g38 (rfl:World.alloc w38 (.cells #[] tInt)=_)
  refine⟨⟨_,wt g0,rfl⟩,nm λw40 e40=>nm λw41 e41=>?_⟩
  clear g0
  obtain⟨g41,o41,g41'⟩:=aL g38 e41
  obtain⟨v42,w43,k43,o43,n43,g43⟩:=c1 g41 o41
  obtain⟨v44,w45,k45,o45,g45⟩:=c2 g43 o43 (keep (r38.grow g41') n43 (by omega))
  exact⟨v42,w43,k43,v44,w45,k45,fin g45 o45⟩
theorem notes0_c {gu:Nat} {v:Value} (hv:sliceLen v=some 0) {R:KV} (k:R (.tuple #[]) w):Zs 56 #[zA gu,v] w R:=by
 apply q52W
 refine⟨λ(i:Int) (w':World)=>i=0/\w'=w,λ_ _=>0,⟨rfl,rfl⟩,?_⟩
 dsimp only[allR,mapR2,eqN,ltN]
 rintro m i w' ⟨⟨rfl,rfl⟩,hm⟩
 exact⟨0,hv,cond_f rfl k⟩
end Go.Proofs.YtdinpgnjnleioaaGreatDoor.Rf
end
section
namespace Go.Proofs.YtdinpgnjnleioaaGreatDoor.Rf
open CW RowKit
open Ses (Cm Rp RpAt RpOk rRp rCm nilV m32 Doer)
variable {w:World} {t:Nat} {u:Ru}
def Alone (u:Ru) (i:Nat):Prop:=∀j,j < 8->j≠i->u.keys.getD j 0=0
def freeU (u:Ru):Ru:={u with holder:= -1,typ:=0}
theorem others_c (h:TAt w t u) {i:Nat} (hi:i < 8) (al:Alone u i) {code:Int} {R:KV} (k:R nilV w):Zs 107 #[zA t,.int .i64 (i:Int),.int .i64 code] w R:=by
 apply q42W
 refine⟨λ(v:Value) (n:Int) (w':World)=>v=nilV/\w'=w/\∃j:Nat,n=(j:Int)/\j<=8,λ(_:Value) (n:Int) (_:World)=>((8:Int) - n).toNat,⟨rfl,rfl,0,rfl,by omega⟩,?_⟩
 dsimp only[allR,mapR2,eqN,ltN]
 rintro m v n w' ⟨⟨rfl,rfl,j,rfl,hj⟩,hm⟩
 refine cond_intro (λhc=>?_) (λ_=>k)
 have hc:j < 8:=by simp at hc;omega
 refine JoinP.val (λv w1=>v=nilV/\w1=w') (λj1 hj1=>?_) ?_
 ·refine JoinP.bool (λb w1=>b=false/\w1=w') (λj2 hj2=>cond_intro (λe=>withAddr_some ⟨⟨by omega,by omega⟩,_,h.keyI hc,hj2 _ _ ⟨?_,rfl⟩⟩) (λe=>hj2 _ _ ⟨rfl,rfl⟩)) ?_
  ·have e:j≠i:=by simp at e;omega
   rw[al j hc e];rfl
  rintro b w1 ⟨rfl,rfl⟩
  exact cond_f rfl (hj1 _ _ ⟨rfl,rfl⟩)
 rintro v w1 ⟨rfl,rfl⟩
 rw[wi64_id (by omega) (by omega)]
 exact⟨⟨rfl,rfl,j+1,by omega,by omega⟩,by omega⟩
theorem free_c (h:TAt w t u) {i:Nat} (hi:i < 8) (al:Alone u i) {R:KV} (k:∀w',Step (λq=>q=t) w w' (λq=>q=t)->TAt w' t (freeU u)->R nilV w'):Zs 104 #[zA t,.int .i64 (i:Int)] w R:=by
 apply q40W
 refine JoinP.val (λv w'=>v=nilV/\w'=w) (λj hj=>withAddr_some ⟨_,h.at9,cond_intro (λ_=>others_c h hi al (hj _ _ ⟨rfl,rfl⟩)) (λ_=>hj _ _ ⟨rfl,rfl⟩)⟩) ?_
 rintro v w' ⟨rfl,rfl⟩
 refine withAddr_some ⟨h.st (by omega),nm λw3 e3=>withAddr_some ?_⟩
 obtain⟨h3,t3⟩:=h.set8 e3
 refine⟨h3.st (by omega),nm λw5 e5=>?_⟩
 obtain⟨h5,t5⟩:=h3.set9 e5
 exact k w5 ((t3.step (S :=λq=>q=t) rfl).then (t5.step rfl)) h5
theorem Alone.set {i:Nat} (al:Alone u i) {x:Int} {u':Ru} (e:u'.keys=u.keys.set i x):Alone u' i:=λj hj hne=>by
 rw[e,List.getD_eq_getElem?_getD,List.getElem?_set_ne (λh=>hne h.symm),←List.getD_eq_getElem?_getD]
 exact al j hj hne
def regU (u:Ru) (i:Nat) (key fresh:Int) (ign:Bool):Rp×Ru:=
 if ign=false/\u.keys.getD i 0≠key then(conf,u)
 else
  let u1:Ru:={u with keys:=u.keys.set i fresh,gen:=m32 (u.gen+1)}
  if fresh=0/\u.holder=(i:Int)then(good,freeU u1)else(good,u1)
theorem RegisterA_c (h:TAt w t u) {i:Nat} (hi:i < 8) (al:Alone u i) {key fresh:Int} {ign:Bool} {R:KV}
 (k:∀w',Step (λq=>q=t) w w' (λq=>q=t)->TAt w' t (regU u i key fresh ign).2->R (.tuple #[.agg (rRp (regU u i key fresh ign).1 nilV),nilV]) w'):Zs 55 #[zA t,.int .i64 (i:Int),.int .u64 key,.int .u64 fresh,.bool ign] w R:=by
 apply q37W
 refine nm λw0 e0=>?_
 obtain⟨b0,g0,s0⟩:=alE e0
 have h0:=h.grow g0
 have hne:t≠w.heap.size:=by have:=h.b.lt;omega
 refine no_c hi ⟨_,rfl,cond_f rfl ?_⟩
 refine JoinP.bool (λb w'=>b=decide (ign=false/\u.keys.getD i 0≠key)/\w'=w0) (λj hj=>cond_intro (λe=>withAddr_some ⟨⟨by omega,by omega⟩,_,h0.keyI hi,hj _ _ ⟨?_,rfl⟩⟩) (λe=>hj _ _ ⟨?_,rfl⟩)) ?_
 ·have e:ign=false:=by simpa using e
  rw[Bool.eq_iff_iff];simp [e]
 ·have e:ign=true:=by simpa using e
  simp [e]
 rintro b w' ⟨rfl,rfl⟩
 unfold regU at k
 refine cond_intro (λh1=>?_) (λh1=>?_)
 ·rw[if_pos (of_decide_eq_true h1)]at k
  refine conflict_c λw2 g2=>⟨_,_,_,_,_,rfl,ret5 (b0.grow g2) rfl rfl λw3 _ t3=>?_⟩
  exact k w3 (Step.of_grow (Below.turn (g0.then g2) t3 (Nat.le_refl _))) ((h0.grow g2).turn t3 hne)
 ·rw[if_neg (of_decide_eq_false h1)]at k
  refine withAddr_some ⟨⟨by omega,by omega⟩,by rw[adk];exact h0.st (by omega),nm λw5 e5=>?_⟩
  rw[adk]at e5
  obtain⟨h5,t5⟩:=h0.setKey hi e5
  refine withAddr_some ⟨_,h5.at10,withAddr_some ⟨h5.st (by omega),nm λw6 e6=>?_⟩⟩
  obtain⟨h6,t6⟩:=h5.set10 e6
  have h6:TAt w6 t {u with keys:=u.keys.set i fresh,gen:=m32 (u.gen+1)}:=h6
  have al6:Alone ({u with keys:=u.keys.set i fresh,gen:=m32 (u.gen+1)}:Ru) i:=al.set (x:=fresh) rfl
  have b6:=(b0.turn t5 hne.symm).turn t6 hne.symm
  have m6:=(((Md.refl (λq=>q=t) w.heap.size w).grow g0).turn t5 (.inl rfl)).turn t6 (.inl rfl)
  refine JoinP.bool (λb w'=>b=decide (fresh=0/\u.holder=(i:Int))/\w'=w6) (λj hj=>cond_intro (λe=>withAddr_some ⟨_,h6.at8,hj _ _ ⟨?_,rfl⟩⟩) (λe=>hj _ _ ⟨?_,rfl⟩)) ?_
  ·have e:fresh=0:=by simpa using e
   rw[Bool.eq_iff_iff];simp [e]
  ·have e:fresh≠0:=by simpa using e
   simp [e]
  rintro b w' ⟨rfl,rfl⟩
  refine cond_intro (λh2=>?_) (λh2=>?_)
  ·simp only[if_pos (of_decide_eq_true h2)]at k
   refine good_c λw2 g2=>⟨_,_,_,_,_,rfl,?_⟩
   refine free_c (h6.grow g2) hi al6 λw48 st48 h48=>ret5 ((b6.grow g2).stepS st48 (λe=>hne e.symm)) rfl rfl λw3 _ t3=>?_
   refine k w3 ?_ (h48.turn t3 hne)
   exact(((m6.grow g2).stp st48 (λq hq=>.inl hq) (λq hq=>.inl (.inl hq))).turn t3 (.inr (Nat.le_refl _))).out
  ·simp only[if_neg (of_decide_eq_false h2)]at k
   refine good_c λw2 g2=>⟨_,_,_,_,_,rfl,ret5 (b6.grow g2) rfl rfl λw3 _ t3=>?_⟩
   exact k w3 ((m6.grow g2).turn t3 (.inr (Nat.le_refl _))).out ((h6.grow g2).turn t3 hne)
def wr (key code:Int):Rp:=⟨2,key,code,[],0⟩
def noKey (u:Ru) (i:Nat) (key:Int):Prop:=u.keys.getD i 0=0\/u.keys.getD i 0≠key
instance (u:Ru) (i:Nat) (key:Int):Decidable (noKey u i key):=by unfold noKey;infer_instance
def relU (u:Ru) (i:Nat) (key y:Int):Rp×Ru:=
 if noKey u i key then(conf,u)else if isT y=false then(wr 5 9216,u)else if u.holder≠(i:Int)then(good,u)else if u.typ≠y then(wr 5 9732,u)else(good,freeU u)
theorem Release_c (h:TAt w t u) {i:Nat} (hi:i < 8) (al:Alone u i) {key y:Int} {R:KV}
 (k:∀w',Step (λq=>q=t) w w' (λq=>q=t)->TAt w' t (relU u i key y).2->R (.tuple #[.agg (rRp (relU u i key y).1 nilV),nilV]) w'):Zs 58 #[zA t,.int .i64 (i:Int),.int .u64 key,.int .i64 y] w R:=by
 apply q38W
 refine nm λw0 e0=>?_
 obtain⟨b0,g0,s0⟩:=alE e0
 have h0:=h.grow g0
 have hne:t≠w.heap.size:=by have:=h.b.lt;omega
 have out:∀{w2 w3:World},Grow w0 w2->Turn w.heap.size w2 w3->Step (λq=>q=t) w w3 (λq=>q=t)/\TAt w3 t u:=λg2 t3=>⟨Step.of_grow (Below.turn (g0.then g2) t3 (Nat.le_refl _)),(h0.grow g2).turn t3 hne⟩
 unfold relU at k
 refine no_c hi ⟨_,rfl,cond_f rfl (not_c h0 hi ⟨_,rfl,cond_intro (λh1=>?_) (λh1=>?_)⟩)⟩
 ·rw[if_pos (show noKey u i key from of_decide_eq_true h1)]at k
  refine conflict_c λw2 g2=>⟨_,_,_,_,_,rfl,ret5 (b0.grow g2) rfl rfl λw3 _ t3=>?_⟩
  exact k w3 (out g2 t3).1 (out g2 t3).2
 rw[if_neg (show ¬noKey u i key from of_decide_eq_false h1)]at k
 refine is_c ⟨_,rfl,cond_intro (λh2=>?_) (λh2=>?_)⟩
 ·rw[if_pos (by simpa using h2)]at k
  refine wrong_c λw2 g2=>⟨_,_,_,_,_,rfl,ret5 (b0.grow g2) rfl rfl λw3 _ t3=>?_⟩
  exact k w3 (out g2 t3).1 (out g2 t3).2
 rw[if_neg (by simpa using h2)]at k
 refine withAddr_some ⟨_,h0.at8,cond_intro (λh3=>?_) (λh3=>?_)⟩
 ·rw[if_pos (by simpa using h3)]at k
  refine good_c λw2 g2=>⟨_,_,_,_,_,rfl,ret5 (b0.grow g2) rfl rfl λw3 _ t3=>?_⟩
  exact k w3 (out g2 t3).1 (out g2 t3).2
 rw[if_neg (by simpa using h3)]at k
 refine withAddr_some ⟨_,h0.at9,cond_intro (λh4=>?_) (λh4=>?_)⟩
 ·rw[if_pos (by simpa using h4)]at k
  refine wrong_c λw2 g2=>⟨_,_,_,_,_,rfl,ret5 (b0.grow g2) rfl rfl λw3 _ t3=>?_⟩
  exact k w3 (out g2 t3).1 (out g2 t3).2
 rw[if_neg (by simpa using h4)]at k
 refine good_c λw2 g2=>⟨_,_,_,_,_,rfl,?_⟩
 refine free_c (h0.grow g2) hi al λw48 st48 h48=>ret5 ((b0.grow g2).stepS st48 (λe=>hne e.symm)) rfl rfl λw3 _ t3=>?_
 refine k w3 ?_ (h48.turn t3 hne)
 exact(((((Md.refl (λq=>q=t) w.heap.size w).grow g0).grow g2).stp st48 (λq hq=>.inl hq) (λq hq=>.inl (.inl hq))).turn t3 (.inr (Nat.le_refl _))).out
def preU (u:Ru) (i:Nat) (key other:Int):Rp:=if noKey u i key then conf else if other=0 then wr 5 9728 else conf
theorem Preempt_c (h:TAt w t u) {i:Nat} (hi:i < 8) (al:Alone u i) {key other y:Int} {R:KV}
 (k:∀w',Step (λq=>q=t) w w' (λq=>q=t)->TAt w' t u->R (.tuple #[.agg (rRp (preU u i key other) nilV),nilV]) w'):Zs 60 #[zA t,.int .i64 (i:Int),.int .u64 key,.int .u64 other,.int .i64 y] w R:=by
 apply q36W
 refine nm λw0 e0=>?_
 obtain⟨b0,g0,s0⟩:=alE e0
 have h0:=h.grow g0
 have hne:t≠w.heap.size:=by have:=h.b.lt;omega
 have out:∀{w2 w3:World},Grow w0 w2->Turn w.heap.size w2 w3->Step (λq=>q=t) w w3 (λq=>q=t)/\TAt w3 t u:=λg2 t3=>⟨Step.of_grow (Below.turn (g0.then g2) t3 (Nat.le_refl _)),(h0.grow g2).turn t3 hne⟩
 unfold preU at k
 refine no_c hi ⟨_,rfl,cond_f rfl (not_c h0 hi ⟨_,rfl,cond_intro (λh1=>?_) (λh1=>?_)⟩)⟩
 ·rw[if_pos (show noKey u i key from of_decide_eq_true h1)]at k
  refine conflict_c λw2 g2=>⟨_,_,_,_,_,rfl,ret5 (b0.grow g2) rfl rfl λw3 _ t3=>?_⟩
  exact k w3 (out g2 t3).1 (out g2 t3).2
 rw[if_neg (show ¬noKey u i key from of_decide_eq_false h1)]at k
 refine cond_intro (λh2=>?_) (λh2=>?_)
 ·rw[if_pos (by simpa using h2)]at k
  refine wrong_c λw2 g2=>⟨_,_,_,_,_,rfl,ret5 (b0.grow g2) rfl rfl λw3 _ t3=>?_⟩
  exact k w3 (out g2 t3).1 (out g2 t3).2
 have h2:other≠0:=by simpa using h2
 rw[if_neg h2]at k
 refine⟨λ(v:Value) (n:Int) (w':World)=>v=nilV/\w'=w0/\∃j:Nat,n=(j:Int)/\j<=8,λ(_:Value) (n:Int) (_:World)=>((8:Int) - n).toNat,⟨rfl,rfl,0,rfl,by omega⟩,?_⟩
 dsimp only[allR,mapR2,eqN,ltN]
 rintro m v n w' ⟨⟨rfl,rfl,j,rfl,hj⟩,hm⟩
 refine cond_intro (λhc=>?_) (λ_=>?_)
 ·have hc:j < 8:=by simp at hc;omega
  refine JoinP.val (λv w1=>v=nilV/\w1=w') (λj1 hj1=>?_) ?_
  ·refine JoinP.bool (λb w1=>b=false/\w1=w') (λj2 hj2=>cond_intro (λe=>withAddr_some ⟨⟨by omega,by omega⟩,_,h0.keyI hc,hj2 _ _ ⟨?_,rfl⟩⟩) (λe=>hj2 _ _ ⟨rfl,rfl⟩)) ?_
   ·have e:j≠i:=by simp at e;omega
    rw[al j hc e]
    simpa using h2.symm
   rintro b w1 ⟨rfl,rfl⟩
   exact cond_f rfl (hj1 _ _ ⟨rfl,rfl⟩)
  rintro v w1 ⟨rfl,rfl⟩
  rw[wi64_id (by omega) (by omega)]
  exact⟨⟨rfl,rfl,j+1,by omega,by omega⟩,by omega⟩
 ·refine⟨0,rfl,cond_t rfl (conflict_c λw2 g2=>⟨_,_,_,_,_,rfl,ret5 (b0.grow g2) rfl rfl λw3 _ t3=>?_⟩)⟩
  exact k w3 (out g2 t3).1 (out g2 t3).2
theorem TAt.clear (h:TAt w t u) {w':World} (e:w'=stRow w (Addr.add ⟨t,0,none⟩ 0) #[.int .u64 0,.int .u64 0,.int .u64 0,.int .u64 0,.int .u64 0,.int .u64 0,.int .u64 0,.int .u64 0]):TAt w' t {u with keys:=List.replicate 8 0}/\Turn t w w':=by
 obtain⟨w1,e1⟩:∃w1,w1=World.setCell w (Addr.add ⟨t,0,none⟩ 0) (.int .u64 0):=⟨_,rfl⟩
 obtain⟨w2,e2⟩:∃w2,w2=World.setCell w1 (Addr.add ⟨t,0,none⟩ 1) (.int .u64 0):=⟨_,rfl⟩
 obtain⟨w3,e3⟩:∃w3,w3=World.setCell w2 (Addr.add ⟨t,0,none⟩ 2) (.int .u64 0):=⟨_,rfl⟩
 obtain⟨w4,e4⟩:∃w4,w4=World.setCell w3 (Addr.add ⟨t,0,none⟩ 3) (.int .u64 0):=⟨_,rfl⟩
 obtain⟨w5,e5⟩:∃w5,w5=World.setCell w4 (Addr.add ⟨t,0,none⟩ 4) (.int .u64 0):=⟨_,rfl⟩
 obtain⟨w6,e6⟩:∃w6,w6=World.setCell w5 (Addr.add ⟨t,0,none⟩ 5) (.int .u64 0):=⟨_,rfl⟩
 obtain⟨w7,e7⟩:∃w7,w7=World.setCell w6 (Addr.add ⟨t,0,none⟩ 6) (.int .u64 0):=⟨_,rfl⟩
 have e8:w'=World.setCell w7 (Addr.add ⟨t,0,none⟩ 7) (.int .u64 0):=by rw[e,e7,e6,e5,e4,e3,e2,e1];rfl
 obtain⟨h1,t1⟩:=h.setKey (by omega) e1
 obtain⟨h2,t2⟩:=h1.setKey (by omega) e2
 obtain⟨h3,t3⟩:=h2.setKey (by omega) e3
 obtain⟨h4,t4⟩:=h3.setKey (by omega) e4
 obtain⟨h5,t5⟩:=h4.setKey (by omega) e5
 obtain⟨h6,t6⟩:=h5.setKey (by omega) e6
 obtain⟨h7,t7⟩:=h6.setKey (by omega) e7
 obtain⟨h8,t8⟩:=h7.setKey (by omega) e8
 refine⟨h8.eq ?_ rfl rfl rfl,?_⟩
 ·have hl:=h.len
  match hk:u.keys,hl with
  |[a0,a1,a2,a3,a4,a5,a6,a7],_=>simp only[hk];rfl
 ·have tt:∀{x y z:World},Turn t x y->Turn t y z->Turn t x z:=λa b=>⟨b.os.trans a.os,b.tape.trans a.tape,b.output.trans a.output,b.size.trans a.size,λq hq=>(b.block q hq).trans (a.block q hq)⟩
  exact tt (tt (tt (tt (tt (tt (tt t1 t2) t3) t4) t5) t6) t7) t8
def clrU (u:Ru) (i:Nat) (key:Int):Rp×Ru:=if noKey u i key then(conf,u)else(good,{u with keys:=List.replicate 8 0,holder:= -1,typ:=0,gen:=m32 (u.gen+1)})
theorem Clear_c (h:TAt w t u) {i:Nat} (hi:i < 8) (al:Alone u i) {key:Int} {R:KV}
 (k:∀w',Step (λq=>q=t) w w' (λq=>q=t)->TAt w' t (clrU u i key).2->R (.tuple #[.agg (rRp (clrU u i key).1 nilV),nilV]) w'):Zs 59 #[zA t,.int .i64 (i:Int),.int .u64 key] w R:=by
 apply q33W
 refine nm λw0 e0=>?_
 obtain⟨b0,g0,s0⟩:=alE e0
 have h0:=h.grow g0
 have hne:t≠w.heap.size:=by have:=h.b.lt;omega
 unfold clrU at k
 refine no_c hi ⟨_,rfl,cond_f rfl (not_c h0 hi ⟨_,rfl,cond_intro (λh1=>?_) (λh1=>?_)⟩)⟩
 ·rw[if_pos (show noKey u i key from of_decide_eq_true h1)]at k
  refine conflict_c λw2 g2=>⟨_,_,_,_,_,rfl,ret5 (b0.grow g2) rfl rfl λw3 _ t3=>?_⟩
  exact k w3 (Step.of_grow (Below.turn (g0.then g2) t3 (Nat.le_refl _))) ((h0.grow g2).turn t3 hne)
 rw[if_neg (show ¬noKey u i key from of_decide_eq_false h1)]at k
 refine others_c h0 hi al (withAddr_some ⟨⟨rfl,λn hn=>by rw[add_add];exact h0.st (by have:n < 8:=hn;omega)⟩,nm λw36 e36=>withAddr_some ?_⟩)
 obtain⟨h36,t36⟩:=h0.clear e36
 refine⟨h36.st (by omega),nm λw38 e38=>withAddr_some ?_⟩
 obtain⟨h38,t38⟩:=h36.set8 e38
 refine⟨h38.st (by omega),nm λw40 e40=>withAddr_some ⟨_,(h38.set9 e40).1.at10,withAddr_some ?_⟩⟩
 obtain⟨h40,t40⟩:=h38.set9 e40
 refine⟨h40.st (by omega),nm λw44 e44=>?_⟩
 obtain⟨h44,t44⟩:=h40.set10 e44
 have b44:=(((b0.turn t36 hne.symm).turn t38 hne.symm).turn t40 hne.symm).turn t44 hne.symm
 refine good_c λw2 g2=>⟨_,_,_,_,_,rfl,ret5 (b44.grow g2) rfl rfl λw3 _ t3=>?_⟩
 refine k w3 ?_ ((h44.grow g2).turn t3 hne)
 exact((((((((Md.refl (λq=>q=t) w.heap.size w).grow g0).turn t36 (.inl rfl)).turn t38 (.inl rfl)).turn t40 (.inl rfl)).turn t44 (.inl rfl)).grow g2).turn t3 (.inr (Nat.le_refl _))).out
theorem Key_c (h:TAt w t u) {i:Nat} (hi:i < 8) {R:KV} (k:R (.int .u64 (u.keys.getD i 0)) w):Zs 64 #[zA t,.int .i64 (i:Int)] w R:=by
 apply q34W
 exact no_c hi ⟨_,rfl,cond_f rfl (withAddr_some ⟨⟨by omega,by omega⟩,_,h.keyI hi,k⟩)⟩
theorem Key1_c (h:TAt w t u) {R:KV} (k:R (.int .u64 0) w):Zs 64 #[zA t,.int .i64 (-1:Int)] w R:=by
 apply q34W
 apply q46W
 exact JoinP.go (cond_t rfl ⟨_,rfl,cond_t rfl k⟩)
end Go.Proofs.YtdinpgnjnleioaaGreatDoor.Rf
end
section
namespace Go.Proofs.YtdinpgnjnleioaaGreatDoor.Rf
open CW RowKit
open Ses (nilV)
open Rs (EB put4_c)
variable {w w':World}
def inqB:List UInt8:=[0,0,5,2,31,0,0,0,71,69,77,69,76,32,32,32,84,87,73,78,32,68,73,83,75,32,32,32,32,32,32,32,48,48,48,49]
theorem inq_c {R:KV} (k:∀v w',Grow w w'->RdB w' v inqB->NewV w v->R v w'):Zs 52 #[] w R:=by
 apply q97W
 obtain⟨v0,w1,k1,o1,g1⟩:=make_bytes (w:=w) 8 (by omega)
 have h1:EB w w.heap.size [] v0 w1 (List.replicate 8 0):=⟨g1,o1,(λq hq=>by cases hq),Nat.le_refl _⟩
 obtain⟨a2,q1,q2,_,q3⟩:=h1.put (i:=2) (i':=2) rfl (by simp)
 refine⟨v0,w1,k1,a2,q1,q2,nm λw3 e3=>?_⟩
 obtain⟨h3,_⟩:=q3 5 w3 e3
 obtain⟨a4,q1,q2,_,q3⟩:=h3.put (i:=3) (i':=3) rfl (by simp)
 refine⟨a4,q1,q2,nm λw5 e5=>?_⟩
 obtain⟨h5,_⟩:=q3 2 w5 e5
 obtain⟨a6,q1,q2,_,q3⟩:=h5.put (i:=4) (i':=4) rfl (by simp)
 refine⟨a6,q1,q2,nm λw7 e7=>?_⟩
 obtain⟨h7,_⟩:=q3 31 w7 e7
 obtain⟨v8,w9,k9,o9,b9⟩:=Txt.app_textO (l:=[71,69,77,69,76,32,32,32,84,87,73,78,32,68,73,83,75,32,32,32,32,32,32,32,48,48,48,49]) h7.o (by simp) h7.g.size
 exact⟨v8,w9,k9,k v8 w9 (h7.g.trans b9) o9.rd (λq hq=>o9.blk q hq)⟩
def capB (N:Nat):List UInt8:=putL (IntKind.wrap .u64 ((N:Int) - 1)) 4++putL 8 4
theorem putS4 (bs:List UInt8) (x:Int):putS bs x 4=bs++putL x 4:=rfl
theorem putS8 (bs:List UInt8) (x:Int):putS bs x 8=bs++putL x 8:=rfl
theorem cap_c {N:Nat} (h1:1<=N) (h2:N<=1024) {R:KV} (k:∀v w',Grow w w'->RdB w' v (capB N)->NewV w v->R v w'):Zs 53 #[.int .i64 (N:Int)] w R:=by
 apply q95W
 refine JoinP.int (λn w'=>n=(N:Int)/\w'=w) (λj hj=>cond_f (by simp;omega) (hj _ _ ⟨rfl,rfl⟩)) ?_
 rintro n w' ⟨rfl,rfl⟩
 rw[wi64_id (n:=(N:Int) - 1) (by omega) (by omega)]
 refine put4_c (n:=4) (by omega) λv2 w3 g3 o3=>?_
 refine gemelref1_Put_c o3 g3.size (by rw[putL_length];omega) λv4 w5 n5 o5=>?_
 exact k v4 w5 (g3.trans (n5.below g3.size o3.blk)) o5.rd (λq hq=>o5.blk q hq)
def hdB (g key y:Int):List UInt8:=
 if bitsI .and .i64 y 15=0 then putL (IntKind.wrap .u64 g) 4++putL 0 4
 else putL (IntKind.wrap .u64 g) 4++putL 16 4++putL key 8++[0,0,0,0,0,byt (bitsI .and .i64 y 15),0,0]
theorem hdB_length (g key y:Int):(hdB g key y).length<=24:=by unfold hdB;split<;>simp [putL_length]
theorem holder_c {g key y:Int} {R:KV} (k:∀v w',Grow w w'->RdB w' v (hdB g key y)->NewV w v->R v w'):Zs 63 #[.int .u32 g,.int .u64 key,.int .i64 y] w R:=by
 apply q100W
 unfold hdB at k
 refine put4_c (n:=4) (by omega) λv0 w1 g1 o1=>cond_intro (λh=>?_) (λh=>?_)
 ·have h:bitsI .and .i64 y 15=0:=by simpa using h
  rw[if_pos h]at k
  refine gemelref1_Put_c o1 g1.size (by rw[putL_length];omega) λv4 w5 n5 o5=>?_
  exact k v4 w5 (g1.trans (n5.below g1.size o1.blk)) o5.rd (λq hq=>o5.blk q hq)
 ·have h:bitsI .and .i64 y 15≠0:=by simpa using h
  rw[if_neg h]at k
  refine gemelref1_Put_c o1 g1.size (by rw[putL_length];omega) λv4 w5 n5 o5=>?_
  have g5:Grow w w5:=g1.trans (n5.below g1.size o1.blk)
  rw[putS4]at o5
  refine gemelref1_Put_c o5 g5.size (by simp [putL_length]) λv6 w7 n7 o7=>?_
  have g7:Grow w w7:=g5.trans (n7.below g5.size o5.blk)
  rw[putS8]at o7
  refine nm λw8 e8=>?_
  rw[b8_wrap]at e8
  obtain⟨r8,g8⟩:=Sen.lit_rd w7 [0,0,0,0,0,byt (bitsI .and .i64 y 15),0,0] 8 rfl (by omega) e8
  obtain⟨v9,w10,k10,o10,n10⟩:=app_bytes (o7.grow g8) r8 (g7.then g8).size (by simp [putL_length])
  exact⟨v9,w10,k10,k v9 w10 ((g7.then g8).trans (n10.below (g7.then g8).size (o7.grow g8).blk)) o10.rd (λq hq=>o10.blk q hq)⟩
variable {g N:Nat} {b m:List UInt8} {bv mv:Value}
theorem sUnmap_c (h:SpAt w g N b bv mv m) {p n:Nat} (hn:n<=32/\p+n<=N) {R:KV}
 (k:∀w' bv' mv' m',Step (λq=>q=g) w w' (λq=>q=g)->SpAt w' g N (over b (p*8) (List.replicate (n*8) 0)) bv' mv' m'->NewV w bv'->NewV w mv'->R (.int .i64 (0:Int)) w'):
 Zs 99 #[zA g,.int .i64 (p:Int),.int .i64 (n:Int)] w R:=by
 apply q29W
 have hN:=h.hN
 have hb:=h.hb
 obtain⟨d,hd⟩:∃d,d=List.replicate (n*8) (0:UInt8):=⟨_,rfl⟩
 have hdl:d.length=n*8:=by rw[hd];simp
 rw[←hd]at k
 refine sIn_c h (by omega) ⟨_,rfl,cond_f (by rw[decide_eq_true hn];rfl) (nm λw3 e3=>?_)⟩
 obtain⟨b3,g3,s3⟩:=alE e3
 refine withAddr_some ⟨_,(h.o.grow g3).cell 1,?_⟩
 have ho:OwnB w3 w.heap.size tb (.slice (some ⟨w.heap.size,0,none⟩) 0 0) []:=by
  rw[e3];exact Own.lit w (Nat.le_refl _) tb #[] 0 rfl (by simp [maxLen])
 obtain⟨v6,w7,hr,o7,n7⟩:=app_bytes ho (h.rb.grow g3) g3.size (by simp;omega)
 rw[List.nil_append]at o7
 have g7:Grow w w7:=g3.trans (n7.below g3.size ho.blk)
 refine⟨v6,w7,hr,?_⟩
 have ov0:over b (p*8) (d.take 0)=b:=by unfold over;simp
 rw[wi64_id (n:=(p:Int)*8) (by omega) (by omega),wi64_id (n:=(p:Int)+n) (by omega) (by omega),wi64_id (n:=((p:Int)+n)*8) (by omega) (by omega)]
 refine⟨λ(i:Int) (w':World)=>∃i':Nat,i=((p*8+i':Nat):Int)/\i'<=d.length/\Grow w w'/\OwnB w' w.heap.size tb v6 (over b (p*8) (d.take i')),λ(i:Int) (_:World)=>(((p:Int)+n)*8 - i).toNat,
  ⟨0,by omega,by omega,g7,by rw[ov0];exact o7⟩,?_⟩
 dsimp only[allR,mapR2,eqN,ltN]
 rintro M _ w10 ⟨⟨i,rfl,hi,g10,o10⟩,hM⟩
 have hol:(over b (p*8) (d.take i)).length=b.length:=by
  unfold over
  simp only[List.length_append,List.length_take,List.length_drop];omega
 refine cond_intro (λh1=>?_) (λh1=>?_)
 ·have hlt:i < d.length:=by simp at h1;omega
  obtain⟨a',r1,r2,r3,r4,r5,r6⟩:=Own.put o10 (i:=((p*8+i:Nat):Int)) (by omega) (by rw[List.length_map,hol];omega)
  refine⟨a',r1,r3,nm λw15 e15=>?_⟩
  have edi:d[i]=0:=by subst hd;simp
  have r7:=r6 (b8 d[i])
  have e15':w15=World.setCell w10 a' (b8 d[i]):=by rw[edi];exact e15
  rw[←e15']at r7
  rw[wi64_id (n:=((p*8+i:Nat):Int)+1) (by omega) (by omega)]
  refine⟨⟨i+1,by omega,by omega,?_,?_⟩,by omega⟩
  ·rw[e15']
   exact g10.trans (Step.to_below (Step.setA (S :=λq=>q=a'.block) w10 a' (b8 d[i]) rfl) g10.size (λq hq=>by rw[hq];exact r4))
  ·rw[Int.toNat_natCast,←List.map_set,over_step (by omega) hlt]at r7
   exact r7
 ·have he:i=d.length:=by simp at h1;omega
  subst he
  rw[List.take_length]at o10
  have h10:=h.grow g10
  refine withAddr_some (oneK_of (Rd.isOne o10.rd) ⟨st1_at h10.o (by show 1 < 3;omega),nm λw17 e17=>?_⟩)
  obtain⟨b17,t17⟩:=setE h10.o e17
  have hgw:g < w.heap.size:=h.o.lt
  refine withAddr_some ⟨mv,b17.cell 2,?_⟩
  have hm17:RdB w17 mv m:=Rd.turn h10.rm t17 h.nm
  refine bPut_c hm17 h.hm (p:=p) (n:=n) (by omega) (by omega) λv22 w21 m' c g21 r21 hm' n21 l21=>⟨_,_,rfl,withAddr_some (oneK_of (Rd.isOne r21) ⟨st1_at (b17.grow g21) (by show 2 < 3;omega),nm λw25 e25=>?_⟩)⟩
  obtain⟨b25,t25⟩:=setE (b17.grow g21) e25
  have z17:w17.heap.size=w10.heap.size:=t17.size
  have z10:=g10.size
  have nv6:∀q,v6.ownBlock=some q->q≠g:=λq hq e=>by have:=o10.blk q hq;omega
  have nv22:∀q,v22.ownBlock=some q->q≠g:=λq hq e=>by have:=n21 q hq;omega
  refine k w25 v6 v22 m' ?_ ⟨b25,?_,?_,?_,hN,by have:=h.hm;omega,λe=>nv6 _ e rfl,λe=>nv22 _ e rfl,λq hq=>?_,λq hq=>?_⟩ (λq hq=>o10.blk q hq) (λq hq=>by have:=n21 q hq;omega)
  ·exact(((((Md.refl (λq=>q=g) w.heap.size w).grow g10).turn t17 (.inl rfl)).grow g21).turn t25 (.inl rfl)).out
  ·exact Rd.turn ((Rd.turn o10.rd t17 (λe=>nv6 _ e rfl)).grow g21) t25 (λe=>nv6 _ e rfl)
  ·exact Rd.turn r21 t25 (λe=>nv22 _ e rfl)
  ·have:=hol
   rw[List.take_length]at this
   rw[this];exact hb
  ·have:=o10.ltS q hq
   have:=g21.size
   have:=t25.size
   omega
  ·have:=l21 q hq
   have:=t25.size
   omega
def missAt (a c:List UInt8) (n:Nat):Option Nat:=(List.range n).find? λi=>!decide (a.getD i 0=c.getD i 0)
theorem sCompare_c (h:SpAt w g N b bv mv m) {p n:Nat} (hn:n<=32/\p+n<=N) {v:Value} {d:List UInt8} (hv:RdB w v d) (hd:d.length=2*(n*8)) {R:KV}
 (k1:∀i,missAt (b.drop (p*8)) d (n*8)=some i->i < n*8->∀w',Grow w w'->R (.tuple #[.int .i64 (i:Int),.int .i64 (0:Int)]) w')
 (k2:missAt (b.drop (p*8)) d (n*8)=none->∀w' bv' mv' m',Step (λq=>q=g) w w' (λq=>q=g)->SpAt w' g N (over b (p*8) (d.drop (n*8))) bv' mv' m'->NewV w bv'->NewV w mv'->R (.tuple #[.int .i64 (-1:Int),.int .i64 (0:Int)]) w'):
 Zs 100 #[zA g,.int .i64 (p:Int),v] w R:=by
 apply q26W
 have hN:=h.hN
 have hb:=h.hb
 have hl:=RdB.len hv
 have e8:IntKind.wrap .i64 (Int.tdiv (IntKind.wrap .i64 (Int.tdiv ((d.length:Nat):Int) (8:Int))) (2:Int))=(n:Int):=by
  have i1:IntKind.wrap .i64 (Int.tdiv ((d.length:Nat):Int) (8:Int))=((2*n:Nat):Int):=by rw[Int.tdiv_eq_ediv_of_nonneg (by omega),wi64_id (by omega) (by omega)];omega
  rw[i1,Int.tdiv_eq_ediv_of_nonneg (by omega),wi64_id (by omega) (by omega)];omega
 refine⟨_,hl,?_⟩
 rw[e8]
 refine JoinP.bool (λbb w'=>bb=false/\w'=w) (λj hj=>⟨_,hl,cond_f ?_ (sIn_c h (by omega) ⟨_,rfl,hj _ _ ⟨by rw[decide_eq_true hn];rfl,rfl⟩⟩)⟩) ?_
 ·have:Int.tmod ((d.length:Nat):Int) (16:Int)=0:=by rw[Int.tmod_eq_emod_of_nonneg (by omega)];omega
  rw[this];rfl
 rintro bb w2 ⟨rfl,rfl⟩
 rw[wi64_id (n:=(n:Int)*8) (by omega) (by omega)]
 refine cond_f rfl ⟨λ(i:Int) (w':World)=>∃i':Nat,i=(i':Int)/\i'<=n*8/\Grow w2 w'/\∀j,j < i'->(b.drop (p*8)).getD j 0=d.getD j 0,λ(i:Int) (_:World)=>((n:Int)*8 - i).toNat,⟨0,rfl,by omega,Grow.refl _,λj hj=>by omega⟩,?_⟩
 dsimp only[allR,mapR2,eqN,ltN]
 rintro M _ w5 ⟨⟨i,rfl,hi,g5,heq⟩,hM⟩
 refine cond_intro (λh1=>?_) (λh1=>?_)
 ·have hlt:i < n*8:=by simp at h1;omega
  refine nm λw6 e6=>?_
  have g6:=drE e6
  have gA:=g5.then g6
  rw[wi64_id (n:=(p:Int)*8) (by omega) (by omega),wi64_id (n:=(p:Int)*8+i) (by omega) (by omega)]
  obtain⟨a9,q1,q2⟩:=RdB.at (h.rb.grow gA) (i:=(p:Int)*8+i) (by omega) (by omega)
  obtain⟨a11,q3,q4⟩:=RdB.at (hv.grow gA) (i:=(i:Int)) (by omega) (by omega)
  refine withAddr_some ⟨_,(h.o.grow gA).cell 1,a9,q1,_,q2,a11,q3,_,q4,nm λw13 e13=>?_⟩
  obtain rfl:w13=w6:=e13.trans e6.symm
  have eb:(b.drop (p*8)).getD i 0=b[((p:Int)*8+i).toNat]'(by omega):=by
   rw[List.getD_eq_getElem?_getD,List.getElem?_drop,List.getElem?_eq_getElem (by omega)]
   simp only[Option.getD_some]
   congr 1<;>omega
  have ed:d.getD i 0=d[((i:Int)).toNat]'(by omega):=by
   rw[List.getD_eq_getElem?_getD,List.getElem?_eq_getElem (by omega)];rfl
  refine cond_intro (λh2=>?_) (λh2=>?_)
  ·have hne:(b.drop (p*8)).getD i 0≠d.getD i 0:=λe=>by
    rw[eb,ed]at e
    rw[e]at h2;simp at h2
   refine k1 i ?_ hlt _ gA
   unfold missAt
   rw[List.find?_range_eq_some]
   exact⟨by simpa using hne,by simpa using hlt,λj hj=>by simpa using heq j hj⟩
  ·have he:(b.drop (p*8)).getD i 0=d.getD i 0:=by
    rw[eb,ed]
    have:((b[((p:Int)*8+i).toNat]'(by omega)).toNat:Int)=((d[((i:Int)).toNat]'(by omega)).toNat:Int):=by simpa using h2
    exact UInt8.toNat.inj (by omega)
   rw[wi64_id (n:=(i:Int)+1) (by omega) (by omega)]
   refine⟨⟨i+1,by omega,by omega,gA,λj hj=>?_⟩,by omega⟩
   by_cases hji:j=i
   ·rw[hji];exact he
   ·exact heq j (by omega)
 ·have he:i=n*8:=by simp at h1;omega
  subst he
  have hnone:missAt (b.drop (p*8)) d (n*8)=none:=by
   unfold missAt
   rw[List.find?_range_eq_none]
   intro j hj
   simpa using heq j hj
  obtain⟨v14,hs14,hr14,_⟩:=Rd.sub (hv.grow g5) (lo:=some (.int .i64 ((n:Int)*8))) (hi:=none) (l:=n*8) (r:=d.length) (λcap hc=>by rw[List.length_map,bounds_in (by omega) (by omega)];congr 2<;>omega) (by omega) (by simp)
  have r14:RdB w5 v14 (d.drop (n*8)):=by
   have e:((d.map b8).drop (n*8)).take (d.length - n*8)=(d.drop (n*8)).map b8:=by rw[List.map_drop,List.take_of_length_le (by simp)]
   rw[e]at hr14;exact hr14
  refine⟨v14,hs14,sWrite_c (h.grow g5) hn r14 (by rw[List.length_drop];omega) λw16 bv' mv' m' st s16 n1 n2=>⟨_,rfl,?_⟩⟩
  exact k2 hnone w16 bv' mv' m' (((Md.refl (λq=>q=g) w2.heap.size w2).grow g5).stp st (λq hq=>.inl hq) (λq hq=>.inl (.inl hq))).out s16 (n1.of g5.size) (n2.of g5.size)
end Go.Proofs.YtdinpgnjnleioaaGreatDoor.Rf
end
section
namespace Go.Proofs.YtdinpgnjnleioaaGreatDoor.Rf
open CW RowKit
open Ses (Cm Rp RpAt RpOk rRp rCm nilV m32 Doer RdR.stepS own_isOne)
def stB (N:Nat) (u:Ru) (c:Cm):Rp×Ru:=
 if ¬(c.n<=32/\c.pos+c.n<=N)then(wr 5 8448,u)
 else if c.kind=2 then({good with d:=(u.b.drop (c.pos*8)).take (c.n*8)},u)
 else if c.kind=3 then(if c.d.length=c.n*8 then(good,{u with b:=over u.b (c.pos*8) c.d})else(wr 5 9216,u))
 else if c.kind=5 then(good,{u with b:=over u.b (c.pos*8) (List.replicate (c.n*8) 0)})
 else if c.kind=6 then(if c.d.length=2*(c.n*8)then(match missAt (u.b.drop (c.pos*8)) c.d (c.n*8)with
  |some i=>(⟨2,14,7424,[],(i:Int)⟩,u)
  |none=>(good,{u with b:=over u.b (c.pos*8) (c.d.drop (c.n*8))}))else(wr 5 9216,u))
 else(good,u)
def UnWt (w:World) (F:Fp) (gu N:Nat) (u:Ru) (W:Nat->List Int):Prop:=∃gs gt bv mv m wv,WnIn w F gu gs gt N bv mv m u wv W
variable {w w':World} {F F':Fp} {gu gs gt N:Nat} {bv mv:Value} {m:List UInt8} {u u':Ru} {wv:List Value} {W:Nat->List Int}
theorem UnWt.grow (h:UnWt w F gu N u W) (g:Grow w w'):UnWt w' F gu N u W:=by
 obtain⟨gs,gt,bv,mv,m,wv,h⟩:=h
 exact⟨gs,gt,bv,mv,m,wv,h.grow g⟩
theorem UnWt.turn {b:Nat} (h:UnWt w F gu N u W) (t:Turn b w w') (hb:¬F b):UnWt w' F gu N u W:=by
 obtain⟨gs,gt,bv,mv,m,wv,h⟩:=h
 exact⟨gs,gt,bv,mv,m,wv,h.turn t hb⟩
theorem UnWt.lt (h:UnWt w F gu N u W):InW w F:=by obtain⟨gs,gt,bv,mv,m,wv,h⟩:=h;exact h.lt
theorem fin_c {w3:World} {br:Nat} {cs:Array Value} {x0 x1 x2 x4:Int} {x3:Value} {r:Rp} {R:KV} (md:Md F w.heap.size w w3) (hF':∀q,F' q->F q\/w.heap.size<=q) (hb:w.heap.size<=br) (bk:BK w3 br cs tRp) (hcs:cs.size=5) (hu:UnWt w3 F' gu N u' W) (nf:¬F' br)
 (ho:isOne x3=true) (hr:RdB w3 x3 r.d) (hn:NewV w x3) (hne:r.d≠[]->x3.ownBlock≠some br) (er:r=⟨x0,x1,x2,r.d,x4⟩) (k:∀v w' F',Step F w w' F'->UnWt w' F' gu N u' W->RpAt w w' v r->R v w'):
 (StRow w3 ⟨br,0,none⟩ #[.int .i64 x0,.int .i64 x1,.int .i64 x2,x3,.int .i64 x4])/\
 bindW (stRow w3 ⟨br,0,none⟩ #[.int .i64 x0,.int .i64 x1,.int .i64 x2,x3,.int .i64 x4]) λw'=>
 ∃(n0:Int) (n1:Int) (n2:Int) (v3:Value) (n4:Int),(ldCells w' ⟨br,0,none⟩ 5 #[.int .i64 n0,.int .i64 n1,.int .i64 n2,v3,.int .i64 n4])/\R (.agg #[.int .i64 n0,.int .i64 n1,.int .i64 n2,v3,.int .i64 n4]) w':=by
 refine ret5 bk hcs ho λw' b' t'=>?_
 refine k _ w' F' ((md.turn t' (.inr hb)).out.imp (λ_ h=>h) hF') (hu.turn t' nf) ⟨x3,?_,Ses.Rd.turnX hr t' (λhx=>hne (λe=>hx (by rw[e];rfl))),hn⟩
 show _=Value.agg (rRp r x3)
 rw[er]
theorem rp0 {r:Rp} (hr:r.d=[]):RdB w nilV r.d:=by rw[hr];exact Rd.nil _
theorem blocksW_c (h:WnIn w F gu gs gt N bv mv m u wv W) {c:Cm} {dv:Value} (hd:RdB w dv c.d) (hp:c.pos<=4611686018427387904) (hn:c.n<=4294967295) {R:KV}
 (k:∀v w' F',Step F w w' F'->UnWt w' F' gu N (stB N u c).2 W->RpAt w w' v (stB N u c).1->R v w'):
 Zs 54 #[zA gu,.agg (rCm c dv)] w R:=by
 apply q50W
 have hN:=h.s.hN
 have hdi:=Rd.isOne hd
 refine nm λw0 e0=>?_
 obtain⟨b0',g0,s0⟩:=alE e0
 have b0:BK w0 w.heap.size (rCm c dv) tCm:=b0'
 refine nm λw1 e1=>?_
 obtain⟨b1,g1,s1⟩:=alE e1
 refine nm λw2 e2=>?_
 have g2:=drE e2
 have gA:Grow w w2:=g0.then (g1.then g2)
 have hA:=h.grow gA
 refine withAddr_some ⟨_,hA.c0,_,((b0.grow g1).grow g2).cell 1,_,((b0.grow g1).grow g2).cell 2,nm λw7 e7=>?_⟩
 have g7:=drE e7
 have gB:Grow w w7:=g0.then (g1.then g7)
 have hB:=h.grow gB
 have c7:=(b0.grow g1).grow g7
 have r7:=b1.grow g7
 have z0:w0.heap.size=w.heap.size+1:=s0
 have nF:∀q,w.heap.size<=q->¬F q:=λq hq hh=>by have:=h.lt _ hh;omega
 have md7:Md F w.heap.size w w7:=(Md.refl F w.heap.size w).grow gB
 have hu7:UnWt w7 F gu N u W:=⟨gs,gt,bv,mv,m,wv,hB⟩
 have lr7:=r7.lt
 have hl0:w0.heap.size < w7.heap.size:=lr7
 refine sIn_c hB.s hp ⟨_,rfl,?_⟩
 by_cases hin:c.n<=32/\c.pos+c.n<=N
 rotate_left
 ·unfold stB at k
  rw[if_pos hin]at k
  refine cond_t (by rw[decide_eq_false hin];rfl) (rWrong_c λw12 g12=>⟨_,_,_,_,_,rfl,?_⟩)
  exact fin_c (r:=wr 5 8448) (md7.grow g12) (λq hq=>.inl hq) (by omega) (r7.grow g12) rfl (hu7.grow g12) (nF _ (by omega)) rfl (rp0 rfl) (newV_nil w) (λe=>absurd rfl e) rfl k
 refine cond_f (by rw[decide_eq_true hin];rfl) ⟨_,c7.cell 0,?_⟩
 unfold stB at k
 rw[if_neg (λhh=>hh hin)]at k
 have bad:(∀v w' F',Step F w w' F'->UnWt w' F' gu N u W->RpAt w w' v (wr 5 9216)->R v w')->Zs 48 #[(.int .i64 (5:Int)),(.int .i64 (9216:Int))] w7 λv52 w53=>
  ∃(n54:Int) (n55:Int) (n56:Int) (v57:Value) (n58:Int),((v52:Value)=(.agg #[.int .i64 n54,.int .i64 n55,.int .i64 n56,v57,.int .i64 n58]))/\
  (StRow w53 ⟨w0.heap.size,0,none⟩ #[.int .i64 n54,.int .i64 n55,.int .i64 n56,v57,.int .i64 n58])/\bindW (stRow w53 ⟨w0.heap.size,0,none⟩ #[.int .i64 n54,.int .i64 n55,.int .i64 n56,v57,.int .i64 n58]) λw'=>
  ∃(n0:Int) (n1:Int) (n2:Int) (v3:Value) (n4:Int),(ldCells w' ⟨w0.heap.size,0,none⟩ 5 #[.int .i64 n0,.int .i64 n1,.int .i64 n2,v3,.int .i64 n4])/\R (.agg #[.int .i64 n0,.int .i64 n1,.int .i64 n2,v3,.int .i64 n4]) w':=λk=>by
  refine rWrong_c λw12 g12=>⟨_,_,_,_,_,rfl,?_⟩
  exact fin_c (r:=wr 5 9216) (md7.grow g12) (λq hq=>.inl hq) (by omega) (r7.grow g12) rfl (hu7.grow g12) (nF _ (by omega)) rfl (rp0 rfl) (newV_nil w) (λe=>absurd rfl e) rfl k
 refine JoinP.unit (λw'=>∃F' u',Md F w.heap.size w w'/\(∀q,F' q->F q\/w.heap.size<=q)/\UnWt w' F' gu N u' W/\BK w' w0.heap.size #[.int .i64 0,.int .i64 0,.int .i64 0,nilV,.int .i64 0] tRp/\¬F' w0.heap.size/\(∀v w' F',Step F w w' F'->UnWt w' F' gu N u' W->RpAt w w' v good->R v w')) (λj hj=>?_) ?_
 ·
  have sp:∀{wa wb:World} {bv' mv':Value} {b' m':List UInt8},Grow w wa->Step (λq=>q=gs) wa wb (λq=>q=gs)->SpAt wb gs N b' bv' mv' m'->NewV wa bv'->NewV wa mv'->BK wa w0.heap.size #[.int .i64 0,.int .i64 0,.int .i64 0,nilV,.int .i64 0] tRp->
   (∀v w' F',Step F w w' F'->UnWt w' F' gu N {u with b:=b'} W->RpAt w w' v good->R v w')->j wb:=λ{wa wb bv' mv' b' m'} ga st s n1 n2 br k=>by
   have la:=br.lt
   refine hj _ ⟨_,_,((Md.refl F w.heap.size w).grow ga).stp st (λq hq=>by rw[hq];exact .inl h.fs) (λq hq=>.inl (by rw[hq];exact .inl h.fs)),?_,⟨gs,gt,bv',mv',m',wv,(h.grow ga).space st s n1 n2⟩,br.stepS st (λe=>nF _ (by omega) (e▸h.fs)),?_,k⟩
   ·intro q hq
    rcases hq with hq|hq|hq
    ·exact .inl hq
    ·have:=n1 q hq;have:=ga.size;exact .inr (by omega)
    ·have:=n2 q hq;have:=ga.size;exact .inr (by omega)
   ·intro hh
    rcases hh with hh|hh|hh
    ·exact nF _ (by omega) hh
    ·have:=n1 _ hh;omega
    ·have:=n2 _ hh;omega
  refine cond_intro (λh2=>?_) (λh2=>?_)
  ·have h2:c.kind=2:=by simpa using h2
   rw[if_pos h2]at k
   refine nm λw33 e33=>?_
   have g33:=drE e33
   refine withAddr_some ⟨_,(hB.grow g33).c0,_,(c7.grow g33).cell 1,_,(c7.grow g33).cell 2,nm λw38 e38=>?_⟩
   have g38:=drE e38
   refine sRead_c (hB.grow g38).s hin λv w40 g40 rd nv=>⟨v,_,rfl,oneK_of (Rd.isOne rd) ?_⟩
   have gg:Grow w7 w40:=g38.then g40
   have l38:=(r7.grow g38).lt
   exact fin_c (r:={good with d:=(u.b.drop (c.pos*8)).take (c.n*8)}) (md7.grow gg) (λq hq=>.inl hq) (by omega) (r7.grow gg) rfl (hu7.grow gg) (nF _ (by omega)) (Rd.isOne rd) rd (nv.of (gB.then g38).size) (λ_ e=>by have:=nv _ e;omega) rfl k
  have h2:c.kind≠2:=by simpa using h2
  rw[if_neg h2]at k
  refine cond_intro (λh3=>?_) (λh3=>?_)
  ·have h3:c.kind=3:=by simpa using h3
   rw[if_pos h3]at k
   refine⟨dv,c7.cell 3,_,RdB.len hd,_,c7.cell 2,?_⟩
   rw[wi64_id (by omega) (by omega)]
   refine cond_intro (λhl=>?_) (λhl=>?_)
   ·have hl:c.d.length≠c.n*8:=by simp at hl;omega
    rw[if_neg hl]at k
    exact bad k
   ·have hl:c.d.length=c.n*8:=by simp at hl;omega
    rw[if_pos hl]at k
    refine nm λw65 e65=>?_
    have g65:=drE e65
    refine withAddr_some ⟨_,(hB.grow g65).c0,_,(c7.grow g65).cell 1,dv,(c7.grow g65).cell 3,nm λw70 e70=>?_⟩
    have g70:=drE e70
    have gC:=gB.then g70
    exact sWrite_c (hB.grow g70).s hin (hd.grow gC) hl λw72 bv' mv' m' st s72 n1 n2=>⟨_,rfl,sp gC st s72 n1 n2 (r7.grow g70) k⟩
  have h3:c.kind≠3:=by simpa using h3
  rw[if_neg h3]at k
  refine cond_intro (λh5=>?_) (λh5=>?_)
  ·have h5:c.kind=5:=by simpa using h5
   rw[if_pos h5]at k
   refine nm λw65 e65=>?_
   have g65:=drE e65
   refine withAddr_some ⟨_,(hB.grow g65).c0,_,(c7.grow g65).cell 1,_,(c7.grow g65).cell 2,nm λw70 e70=>?_⟩
   have g70:=drE e70
   have gC:=gB.then g70
   exact sUnmap_c (hB.grow g70).s hin λw72 bv' mv' m' st s72 n1 n2=>⟨_,rfl,sp gC st s72 n1 n2 (r7.grow g70) k⟩
  have h5:c.kind≠5:=by simpa using h5
  rw[if_neg h5]at k
  refine cond_intro (λh6=>?_) (λh6=>?_)
  ·have h6:c.kind=6:=by simpa using h6
   rw[if_pos h6]at k
   refine⟨dv,c7.cell 3,_,RdB.len hd,_,c7.cell 2,?_⟩
   rw[wi64_id (n:=2*(c.n:Int)) (by omega) (by omega),wi64_id (by omega) (by omega)]
   refine cond_intro (λhl=>?_) (λhl=>?_)
   ·have hl:c.d.length≠2*(c.n*8):=by simp at hl;omega
    rw[if_neg hl]at k
    exact bad k
   ·have hl:c.d.length=2*(c.n*8):=by simp at hl;omega
    rw[if_pos hl]at k
    refine nm λw99 e99=>?_
    have g99:=drE e99
    refine withAddr_some ⟨_,(hB.grow g99).c0,_,(c7.grow g99).cell 1,dv,(c7.grow g99).cell 3,nm λw104 e104=>?_⟩
    have g104:=drE e104
    have gC:=gB.then g104
    refine sCompare_c (hB.grow g104).s hin (hd.grow gC) hl (λi hm hi w106 g106=>⟨_,_,rfl,cond_t (by simp) ?_⟩) (λhm w72 bv' mv' m' st s72 n1 n2=>⟨_,_,rfl,cond_f rfl ?_⟩)
    ·rw[hm]at k
     exact fin_c (r:=⟨2,14,7424,[],(i:Int)⟩) (md7.grow (g104.then g106)) (λq hq=>.inl hq) (by omega) (r7.grow (g104.then g106)) rfl (hu7.grow (g104.then g106)) (nF _ (by omega)) rfl (rp0 rfl) (newV_nil w) (λe=>absurd rfl e) rfl k
    ·rw[hm]at k
     exact sp gC st s72 n1 n2 (r7.grow g104) k
  have h6:c.kind≠6:=by simpa using h6
  rw[if_neg h6]at k
  exact hj _ ⟨F,u,md7,λq hq=>.inl hq,hu7,r7,nF _ (by omega),k⟩
 ·rintro w' ⟨F',u',md,hF',hu,br,nf,k⟩
  exact fin_c (r:=good) md hF' (by omega) br rfl hu nf rfl (rp0 rfl) (newV_nil w) (λe=>absurd rfl e) rfl k
end Go.Proofs.YtdinpgnjnleioaaGreatDoor.Rf
end
section
namespace Go.Proofs.YtdinpgnjnleioaaGreatDoor.Rf
open CW RowKit
open Ses (Cm Rp RpAt RpOk rRp rCm nilV m32 Doer RdR.stepS own_isOne)
structure Rv where
 u:Ru
 own:Bool
 oth:Bool
def rsC:Int:=10499
def wOf (h:Nat) (x:Rv):Nat->List Int:=λi=>if(if i=h then x.own else x.oth)=true then[rsC] else[]
def resU (u:Ru) (i:Nat) (key y:Int):Rp×Ru:=
 if u.keys.getD i 0=0\/u.keys.getD i 0≠key then(conf,u)else if isT y=false then(⟨2,5,9216,[],0⟩,u)else if u.holder < 0 then(good,{u with holder:=(i:Int),typ:=y})else if u.holder≠(i:Int)\/u.typ≠y then(conf,u)else(good,u)
def stT (h:Nat) (u:Ru) (c:Cm):Rp×Ru:=
 if c.kind=10\/c.kind=11 then regU u h c.key c.new (c.kind==11)
 else if c.kind=12 then resU u h c.key c.typ
 else if c.kind=13 then relU u h c.key c.typ
 else if c.kind=14 then clrU u h c.key
 else if c.kind=15 then(preU u h c.key c.new,u)
 else if c.kind=16 then({good with d:=Lst.keysB u.gen (listR u)},u)
 else({good with d:=hdB u.gen (if u.holder < 0 then 0 else u.keys.getD h 0) u.typ},u)
def stepV (h N:Nat) (x:Rv) (c:Cm):Rp×Rv:=
 if c.kind < 1\/18 < c.kind then(wr 5 8192,x)
 else if c.kind=9 then({good with d:=Sen.encS (if x.own then 6 else 0) (if x.own then rsC else 0) 0},{x with own:=false})
 else if c.kind≠8/\x.own=true then(wr 6 rsC,{x with own:=false})
 else if c.kind=8 then({good with d:=inqB},x)
 else if c.kind=7 then({good with d:=capB N},x)
 else if 2<=c.kind/\c.kind<=6 then((stB N x.u c).1,{x with u:=(stB N x.u c).2})
 else if 10<=c.kind/\c.kind<=17 then((stT h x.u c).1,{x with u:=(stT h x.u c).2})
 else if c.kind=18 then(good,⟨x.u,true,true⟩)
 else(good,x)
structure FineV (h:Nat) (x:Rv):Prop where
 al:Alone x.u h
 ho:x.u.holder= -1\/x.u.holder=(h:Int)
 gen:0<=x.u.gen/\x.u.gen < 4294967296
theorem reg_bd (u:Ru) (i:Nat) (k f:Int) (g:Bool):(regU u i k f g).2.b=u.b/\(regU u i k f g).1.d=[]:=by
 unfold regU;split
 ·exact⟨rfl,rfl⟩
 ·dsimp only;split<;>exact⟨rfl,rfl⟩
theorem res_bd (u:Ru) (i:Nat) (k y:Int):(resU u i k y).2.b=u.b/\(resU u i k y).1.d=[]:=by
 unfold resU;split
 ·exact⟨rfl,rfl⟩
 ·split
  ·exact⟨rfl,rfl⟩
  ·split
   ·exact⟨rfl,rfl⟩
   ·split<;>exact⟨rfl,rfl⟩
theorem rel_bd (u:Ru) (i:Nat) (k y:Int):(relU u i k y).2.b=u.b/\(relU u i k y).1.d=[]:=by
 unfold relU;split
 ·exact⟨rfl,rfl⟩
 ·split
  ·exact⟨rfl,rfl⟩
  ·split
   ·exact⟨rfl,rfl⟩
   ·split<;>exact⟨rfl,rfl⟩
theorem clr_bd (u:Ru) (i:Nat) (k:Int):(clrU u i k).2.b=u.b/\(clrU u i k).1.d=[]:=by
 unfold clrU;split<;>exact⟨rfl,rfl⟩
theorem pre_d (u:Ru) (i:Nat) (k f:Int):(preU u i k f).d=[]:=by
 unfold preU;split
 ·rfl
 ·split<;>rfl
variable {w w':World} {F F':Fp} {gu gs gt N:Nat} {bv mv:Value} {m:List UInt8} {u u':Ru} {wv:List Value} {W:Nat->List Int} {x:Rv}
theorem wOf_own (h:Nat) (x:Rv):wOf h x h=if x.own=true then[rsC] else[]:=by unfold wOf;rw[if_pos rfl]
theorem wOf_pop (h:Nat) (x:Rv):(λj=>if j=h then[] else wOf h x j)=wOf h {x with own:=false}:=by
 funext j;unfold wOf
 by_cases e:j=h
 ·rw[if_pos e,if_pos e,if_neg (by simp)]
 ·rw[if_neg e,if_neg e,if_neg e]
abbrev zR:Array Value:= #[.int .i64 0,.int .i64 0,.int .i64 0,nilV,.int .i64 0]
structure Told (w w':World) (F:Fp) (gu N:Nat) (u':Ru) (W:Nat->List Int) (r:Rp) (v1 v2:Value):Prop where
 v2:v2=nilV
 ex:∃b,v1= zA b/\w.heap.size+1 < b/\BK w' b (rRp r nilV) tRp
 md:Md F w.heap.size w w'
 hu:UnWt w' F gu N u' W
 br:BK w' (w.heap.size+1) zR tRp
theorem told1 {w4:World} {r:Rp} {j:Value->Value->World->Prop} (lt:InW w F) (md:Md F w.heap.size w w4) (hu:UnWt w4 F gu N u' W) (br:BK w4 (w.heap.size+1) zR tRp) (hj:∀v1 v2 w',Told w w' F gu N u' W r v1 v2->j v1 v2 w'):
 bindW (World.alloc w4 (.cells zR tRp)) λ_=>bindW (World.alloc w4 (.cells zR tRp)) λw148=>(StRow w148 ⟨w4.heap.size,0,none⟩ (rRp r nilV))/\bindW (stRow w148 ⟨w4.heap.size,0,none⟩ (rRp r nilV)) λ_=>bindW (stRow w148 ⟨w4.heap.size,0,none⟩ (rRp r nilV)) λw150=>
  j (zA w4.heap.size) nilV w150:=by
 refine nm λw147 e147=>nm λw148 e148=>?_
 obtain rfl:w148=w147:=e148.trans e147.symm
 obtain⟨b2,g2,_⟩:=alE e148
 have q1:=br.lt
 refine⟨b2.row rfl rfl,nm λwc ec=>nm λwd ed=>?_⟩
 obtain rfl:wd=wc:=ed.trans ec.symm
 obtain⟨bd,td⟩:=rowE b2 ed rfl
 have nF:¬F w4.heap.size:=λhh=>by have:=lt _ hh;have:=md.size;omega
 exact hj _ _ _ ⟨rfl,⟨_,rfl,by omega,bd⟩,(md.grow g2).turn td (.inr (by have:=md.size;omega)),(hu.grow g2).turn td nF,(br.grow g2).turn td (by omega)⟩
theorem told2 {w3 w4:World} {r:Rp} {j:Value->Value->World->Prop} (lt:InW w F) (l3:w.heap.size+1 < w3.heap.size) (b2:BK w4 w3.heap.size zR tRp) (md:Md F w.heap.size w w4) (hu:UnWt w4 F gu N u' W) (br:BK w4 (w.heap.size+1) zR tRp) (hj:∀v1 v2 w',Told w w' F gu N u' W r v1 v2->j v1 v2 w'):
 (StRow w4 ⟨w3.heap.size,0,none⟩ (rRp r nilV))/\bindW (stRow w4 ⟨w3.heap.size,0,none⟩ (rRp r nilV)) λ_=>bindW (stRow w4 ⟨w3.heap.size,0,none⟩ (rRp r nilV)) λw150=>j (zA w3.heap.size) nilV w150:=by
 refine⟨b2.row rfl rfl,nm λwc ec=>nm λwd ed=>?_⟩
 obtain rfl:wd=wc:=ed.trans ec.symm
 obtain⟨bd,td⟩:=rowE b2 ed rfl
 have nF:¬F w3.heap.size:=λhh=>by have:=lt _ hh;omega
 exact hj _ _ _ ⟨rfl,⟨_,rfl,by omega,bd⟩,md.turn td (.inr (by omega)),hu.turn td nF,br.turn td (by omega)⟩
theorem told_c {v1 v2:Value} {r:Rp} {R:KV} (lt:InW w F) (t:Told w w' F gu N u' W r v1 v2) (hd:r.d=[]) (k:∀v w' F',Step F w w' F'->UnWt w' F' gu N u' W->RpAt w w' v r->R v w'):
 Zs 56 #[zA gu,v2] w' λv113 w114=>((v113:Value)=(.tuple #[]))/\withAddr v1 λa115=>
  ∃(n116:Int) (n117:Int) (n118:Int) (v119:Value) (n120:Int),(ldCells w114 a115 5 #[.int .i64 n116,.int .i64 n117,.int .i64 n118,v119,.int .i64 n120])/\
  (StRow w114 ⟨w.heap.size+1,0,none⟩ #[.int .i64 n116,.int .i64 n117,.int .i64 n118,v119,.int .i64 n120])/\bindW (stRow w114 ⟨w.heap.size+1,0,none⟩ #[.int .i64 n116,.int .i64 n117,.int .i64 n118,v119,.int .i64 n120]) λw'=>
  ∃(n0:Int) (n1:Int) (n2:Int) (v3:Value) (n4:Int),(ldCells w' ⟨w.heap.size+1,0,none⟩ 5 #[.int .i64 n0,.int .i64 n1,.int .i64 n2,v3,.int .i64 n4])/\R (.agg #[.int .i64 n0,.int .i64 n1,.int .i64 n2,v3,.int .i64 n4]) w':=by
 obtain⟨rfl,⟨b,rfl,hb,bk⟩,md,hu,br⟩:=t
 refine notes0_c rfl ⟨rfl,withAddr_some ⟨_,_,_,_,_,bk.ld rfl,?_⟩⟩
 exact fin_c (r:=r) md (λ_ h=>.inl h) (by omega) br rfl hu (λhh=>by have:=lt _ hh;omega) rfl (rp0 hd) (newV_nil w) (λe=>absurd hd e) (by rw[hd];cases r;cases hd;rfl) k
theorem go2 {rest:Value->Value->World->Prop} {body:(Value->Value->World->Prop)->Prop} (Q:Value->Value->World->Prop) (hb:∀j:Value->Value->World->Prop,(∀a b w,Q a b w->j a b w)->body j) (h:∀a b w,Q a b w->rest a b w):JoinP [.val,.val] rest body:=hb rest h
theorem dup2 {A:Prop} {w1:World} {P:World->Prop} (h:A/\bindW w1 P):A/\bindW w1 λ_=>bindW w1 P:=h
theorem doW_c {h:Nat} (h0:WnIn w F gu gs gt N bv mv m x.u wv (wOf h x)) (hh:h < 8) (fv:FineV h x) (hN:1<=N) {c:Cm} {dv:Value} (hd:RdB w dv c.d) (hp:c.pos<=4611686018427387904) (hn:c.n<=4294967295) {R:KV}
 (k:∀v w' F',Step F w w' F'->UnWt w' F' gu N (stepV h N x c).2.u (wOf h (stepV h N x c).2)->RpAt w w' v (stepV h N x c).1->R v w'):
 Zs 22 #[zA gu,.int .i64 (h:Int),.agg (rCm c dv)] w R:=by
 apply q49W
 have hdi:=Rd.isOne hd
 refine nm λw0 e0=>?_
 obtain⟨b0',g0,s0⟩:=alE e0
 have b0:BK w0 w.heap.size (rCm c dv) tCm:=b0'
 refine nm λw1 e1=>?_
 obtain⟨b1,g1,s1⟩:=alE e1
 have z0:w0.heap.size=w.heap.size+1:=s0
 rw[z0]at b1
 have l1:Lo w w1 F c dv:=⟨g0.then g1,b0.grow g1,b1⟩
 rw[z0]
 have lt:=h0.lt
 have nF:∀q,w.heap.size<=q->¬F q:=λq hq hh=>by have:=h0.lt _ hh;omega
 have hu:∀{wz:World},Grow w wz->UnWt wz F gu N x.u (wOf h x):=λg=>⟨gs,gt,bv,mv,m,wv,h0.grow g⟩
 have mdg:∀{wz:World},Grow w wz->Md F w.heap.size w wz:=λg=>(Md.refl F w.heap.size w).grow g
 have plain:∀{w3:World} {r:Rp},Lo w w3 F c dv->r.d=[]->(stepV h N x c)=(r,x)->(StRow w3 ⟨w.heap.size+1,0,none⟩ (rRp r nilV))/\bindW (stRow w3 ⟨w.heap.size+1,0,none⟩ (rRp r nilV)) λw'=>
  ∃(n0:Int) (n1:Int) (n2:Int) (v3:Value) (n4:Int),(ldCells w' ⟨w.heap.size+1,0,none⟩ 5 #[.int .i64 n0,.int .i64 n1,.int .i64 n2,v3,.int .i64 n4])/\R (.agg #[.int .i64 n0,.int .i64 n1,.int .i64 n2,v3,.int .i64 n4]) w':=λ{w3 r} l hr es=>by
  rw[es]at k
  exact fin_c (r:=r) (mdg l.g) (λ_ h=>.inl h) (by omega) l.br rfl (hu l.g) (nF _ (by omega)) rfl (rp0 hr) (newV_nil w) (λe=>absurd hr e) (by cases r;cases hr;rfl) k
 have data:∀{w3:World} {v:Value} {d:List UInt8},Lo w w3 F c dv->RdB w3 v d->NewV w v->(∀q,v.ownBlock=some q->q≠w.heap.size+1)->(stepV h N x c)=({good with d:=d},x)->(StRow w3 ⟨w.heap.size+1,0,none⟩ #[.int .i64 0,.int .i64 0,.int .i64 0,v,.int .i64 0])/\bindW (stRow w3 ⟨w.heap.size+1,0,none⟩ #[.int .i64 0,.int .i64 0,.int .i64 0,v,.int .i64 0]) λw'=>
  ∃(n0:Int) (n1:Int) (n2:Int) (v3:Value) (n4:Int),(ldCells w' ⟨w.heap.size+1,0,none⟩ 5 #[.int .i64 n0,.int .i64 n1,.int .i64 n2,v3,.int .i64 n4])/\R (.agg #[.int .i64 n0,.int .i64 n1,.int .i64 n2,v3,.int .i64 n4]) w':=λ{w3 v d} l hr hn hne es=>by
  rw[es]at k
  exact fin_c (r:={good with d:=d}) (mdg l.g) (λ_ h=>.inl h) (by omega) l.br rfl (hu l.g) (nF _ (by omega)) (Rd.isOne hr) hr hn (λ_ e=>hne _ e rfl) rfl k
 have tab:∀{w3:World} {u':Ru} {S':Fp},Lo w w3 F c dv->∀{w4:World},Step (λq=>q=gt) w3 w4 S'->TAt w4 gt u'->u'.b=x.u.b->
  Md F w.heap.size w w4/\UnWt w4 F gu N u' (wOf h x)/\BK w4 (w.heap.size+1) zR tRp/\BK w4 w.heap.size (rCm c dv) tCm/\WnIn w4 F gu gs gt N bv mv m u' wv (wOf h x):=by
  intro w3 u' S' l3 w4 st t4 hb
  have h3:=h0.grow l3.g
  exact⟨(mdg l3.g).stp (st.imp (T:=λq=>q=gt) (T':=λq=>q=gt) (λ_ h=>h) (λ_ h=>.inl h)) (λq hq=>by rw[hq];exact .inl h0.ft) (λq hq=>.inl (by rw[hq];exact .inl h0.ft)),⟨gs,gt,bv,mv,m,wv,h3.table st t4 hb⟩,l3.br.stepS st (λe=>nF _ (by omega) (e▸h0.ft)),l3.bc.stepS st (λe=>nF _ (Nat.le_refl _) (e▸h0.ft)),h3.table st t4 hb⟩
 have z1:w1.heap.size=w.heap.size+2:=by rw[s1,z0]
 have aft:∀{w19:World} {F':Fp},Step F w1 w19 F'->Md F w.heap.size w w19/\(∀q,F' q->F q\/w.heap.size<=q)/\¬F' (w.heap.size+1)/\BK w19 (w.heap.size+1) zR tRp:=λ{w19 F'} st=>
  ⟨(mdg l1.g).stp (T':=F') st (λq hq=>.inl hq) (λq hq=>(st.fp q hq).imp .inl id),λq hq=>(st.fp q hq).imp id (λz=>by omega),λhq=>(st.fp _ hq).elim (nF _ (by omega)) (λz=>by omega),l1.br.stepS st (nF _ (by omega))⟩
 refine JoinP.bool (λb w'=>b=decide (c.kind < 1\/18 < c.kind)/\w1=w') (λj hj=>cond_f (by simp) (cond_f (by simp;omega) ⟨_,l1.bc.cell 0,cond_intro (λe=>hj _ _ ⟨?_,rfl⟩) (λe=>⟨_,l1.bc.cell 0,hj _ _ ⟨?_,rfl⟩⟩)⟩)) ?_
 ·have e:c.kind < 1:=of_decide_eq_true e
  exact(decide_eq_true (.inl e)).symm
 ·have e:¬c.kind < 1:=of_decide_eq_false e
  rw[Bool.eq_iff_iff];simp only[decide_eq_true_eq];omega
 rintro b w3 ⟨rfl,rfl⟩
 refine cond_intro (λhb=>?_) (λhb=>?_)
 ·have hb:=of_decide_eq_true hb
  refine rWrong_c λw5 g5=>⟨_,_,_,_,_,rfl,plain (r:=wr 5 8192) (l1.grow g5) rfl ?_⟩
  unfold stepV;rw[if_pos hb]
 have hb:¬(c.kind < 1\/18 < c.kind):=of_decide_eq_false hb
 refine⟨_,l1.bc.cell 0,cond_intro (λh9=>?_) (λh9=>?_)⟩
 ·
  have h9:c.kind=9:=by simpa using h9
  have es:stepV h N x c=({good with d:=Sen.encS (if x.own then 6 else 0) (if x.own then rsC else 0) 0},{x with own:=false}):=by
   unfold stepV;rw[if_neg hb,if_pos h9]
  rw[es]at k
  have more:∀{w19:World} {F':Fp} {r:Rp},Step F w1 w19 F'->UnWt w19 F' gu N x.u (wOf h {x with own:=false})->r.d=[]->r.key=(if x.own then 6 else 0)->r.code=(if x.own then rsC else 0)->r.info=0->
   bindW (World.alloc w19 (.cells zR tRp)) λw26=>(StRow w26 ⟨w19.heap.size,0,none⟩ (rRp r nilV))/\bindW (stRow w26 ⟨w19.heap.size,0,none⟩ (rRp r nilV)) λw27=>
   ∃(n28:Int) (n29:Int) (n30:Int) (v31:Value) (n32:Int),(ldCells w27 ⟨w19.heap.size,0,none⟩ 5 #[.int .i64 n28,.int .i64 n29,.int .i64 n30,v31,.int .i64 n32])/\
   Zs 50 #[(.agg #[.int .i64 n28,.int .i64 n29,.int .i64 n30,v31,.int .i64 n32])] w27 λv33 w34=>oneK v33 ((StRow w34 ⟨w.heap.size+1,0,none⟩ #[.int .i64 0,.int .i64 0,.int .i64 0,v33,.int .i64 0])/\
   bindW (stRow w34 ⟨w.heap.size+1,0,none⟩ #[.int .i64 0,.int .i64 0,.int .i64 0,v33,.int .i64 0]) λw35=>
   ∃(n36:Int) (n37:Int) (n38:Int) (v39:Value) (n40:Int),(ldCells w35 ⟨w.heap.size+1,0,none⟩ 5 #[.int .i64 n36,.int .i64 n37,.int .i64 n38,v39,.int .i64 n40])/\R (.agg #[.int .i64 n36,.int .i64 n37,.int .i64 n38,v39,.int .i64 n40]) w35):=by
   intro w19 F' r st hu' hd1 hd2 hd3 hd4
   obtain⟨md19,hF',nb,br⟩:=aft st
   refine nm λw26 e26=>?_
   obtain⟨b26,g26,_⟩:=alE e26
   refine⟨b26.row rfl rfl,nm λw27 e27=>?_⟩
   obtain⟨b27,t27⟩:=rowE b26 e27 rfl
   have q1:=br.lt
   have nF':∀q,w19.heap.size<=q->¬F' q:=λq hq hh=>by have:=hu'.lt _ hh;omega
   have br27:=(br.grow g26).turn t27 (by omega)
   have hu27:=(hu'.grow g26).turn t27 (nF' _ (Nat.le_refl _))
   have md27:Md F w.heap.size w w27:=(md19.grow g26).turn t27 (.inr md19.size)
   have z27:=md27.size
   have l27:=br27.lt
   refine⟨_,_,_,_,_,b27.ld rfl,Rs.sEnc_c rfl λv33 w34 g34 o34=>oneK_of (Rd.isOne o34.rd) ?_⟩
   refine fin_c (r:={good with d:=Sen.encS (if x.own then 6 else 0) (if x.own then rsC else 0) 0}) (md27.grow g34) hF' (by omega) (br27.grow g34) rfl (hu27.grow g34) nb (Rd.isOne o34.rd) ?_ (λq hq=>by have:=o34.blk q hq;omega) (λ_ e=>by have:=o34.blk _ e;omega) rfl k
   show RdB w34 v33 (Sen.encS _ _ _)
   rw[←hd2,←hd3,←hd4];exact o34.rd
  cases hx:x.own with
  |false=>
   rw[hx]at more
   have e:({x with own:=false}:Rv)=x:=by cases x;cases hx;rfl
   rw[e]at more
   refine popN_c (h0.grow l1.g) hh (by rw[wOf_own,hx];rfl) λw19 g19=>⟨_,_,_,_,_,_,rfl,?_⟩
   exact more (r:=⟨0,0,0,[],0⟩) (Step.of_grow g19) (hu (l1.g.then g19)) rfl rfl rfl rfl
  |true=>
   rw[hx]at more
   refine popS_c (h0.grow l1.g) hh (c:=rsC) (by rw[wOf_own,hx];rfl) λw19 F' wv' st h19=>⟨_,_,_,_,_,_,rfl,?_⟩
   rw[wOf_pop]at h19
   exact more (r:=⟨2,6,rsC,[],0⟩) st ⟨gs,gt,bv,mv,m,wv',h19⟩ rfl rfl rfl rfl
 have h9:c.kind≠9:=by simpa using h9
 refine JoinP.unit (λw'=>¬(c.kind≠8/\x.own=true)/\Lo w w' F c dv) (λj hj=>⟨_,l1.bc.cell 0,cond_intro (λh8=>?_) (λh8=>hj _ ⟨λhh=>hh.1 (by simpa using h8),l1⟩)⟩) ?_
 ·have h8:c.kind≠8:=by simpa using h8
  cases hx:x.own with
  |false=>
   rw[hx]at hj
   refine popN_c (h0.grow l1.g) hh (by rw[wOf_own,hx];rfl) λw2 g2=>⟨_,_,_,_,_,_,rfl,nm λw3 e3=>?_⟩
   obtain⟨b3,g3,_⟩:=alE e3
   refine⟨b3.row rfl rfl,nm λw4 e4=>cond_f rfl (hj _ ⟨(λhh=>by cases hh.2),?_⟩)⟩
   obtain⟨b4,t4⟩:=rowE b3 e4 rfl
   have l3:=(l1.grow g2).grow g3
   have q1:=(l1.grow g2).bc.lt
   have q2:=(l1.grow g2).br.lt
   exact⟨Below.turn l3.g t4 (by omega),l3.bc.turn t4 (by omega),l3.br.turn t4 (by omega)⟩
  |true=>
   have es:stepV h N x c=(wr 6 rsC,{x with own:=false}):=by
    unfold stepV;rw[if_neg hb,if_neg h9,if_pos ⟨h8,hx⟩]
   rw[es]at k
   refine popS_c (h0.grow l1.g) hh (c:=rsC) (by rw[wOf_own,hx];rfl) λw19 F' wv' st h19=>⟨_,_,_,_,_,_,rfl,nm λw26 e26=>?_⟩
   rw[wOf_pop]at h19
   obtain⟨md19,hF',nb,br⟩:=aft st
   obtain⟨b26,g26,_⟩:=alE e26
   refine⟨b26.row rfl rfl,nm λw27 e27=>cond_t rfl ?_⟩
   obtain⟨b27,t27⟩:=rowE b26 e27 rfl
   have q1:=br.lt
   have nF':∀q,w19.heap.size<=q->¬F' q:=λq hq hh=>by have:=h19.lt _ hh;omega
   have br27:=(br.grow g26).turn t27 (by omega)
   have hu19:UnWt w19 F' gu N x.u (wOf h {x with own:=false}):=⟨gs,gt,bv,mv,m,wv',h19⟩
   have hu27:=(hu19.grow g26).turn t27 (nF' _ (Nat.le_refl _))
   refine⟨_,_,_,_,_,b27.ld rfl,?_⟩
   exact fin_c (r:=wr 6 rsC) ((md19.grow g26).turn t27 (.inr md19.size)) hF' (by omega) br27 rfl hu27 nb rfl (rp0 rfl) (newV_nil w) (λe=>absurd rfl e) rfl k
 rintro w41 ⟨hown,l41⟩
 refine nm λw42 e42=>?_
 have g42:=drE e42
 have h42:=h0.grow (l41.g.then g42)
 refine withAddr_some ⟨_,h42.c1,_,(l41.grow g42).bc.cell 0,nm λw46 e46=>?_⟩
 have g46:=drE e46
 have l46:=l41.grow g46
 have h46:=h0.grow l46.g
 have ha:allowsR x.u h c.kind=true:=by
  unfold allowsR
  rw[if_pos]
  rcases fv.ho with e|e
  ·left;omega
  ·right;exact e
 refine Allows_c h46.t hh ⟨_,rfl,cond_f (by rw[ha];rfl) ⟨_,l46.bc.cell 0,?_⟩⟩
 have d46:RdB w46 dv c.d:=hd.grow l46.g
 have es0:stepV h N x c=if c.kind=8 then({good with d:=inqB},x)else if c.kind=7 then({good with d:=capB N},x)else if 2<=c.kind/\c.kind<=6 then((stB N x.u c).1,{x with u:=(stB N x.u c).2})else if 10<=c.kind/\c.kind<=17 then((stT h x.u c).1,{x with u:=(stT h x.u c).2})else if c.kind=18 then(good,⟨x.u,true,true⟩)else(good,x):=by
  unfold stepV;rw[if_neg hb,if_neg h9,if_neg hown]
 refine JoinP.unit (λw'=>∃F' u' W',Md F w.heap.size w w'/\(∀q,F' q->F q\/w.heap.size<=q)/\UnWt w' F' gu N u' W'/\BK w' (w.heap.size+1) zR tRp/\¬F' (w.heap.size+1)/\(stepV h N x c).1=good/\(stepV h N x c).2.u=u'/\wOf h (stepV h N x c).2=W') (λj64 hj64=>?_) ?_
 rotate_left
 ·rintro w' ⟨F',u',W',md,hF',hu',br,nf,e1,rfl,rfl⟩
  rw[e1]at k
  exact fin_c (r:=good) md hF' (by omega) br rfl hu' nf rfl (rp0 rfl) (newV_nil w) (λe=>absurd rfl e) rfl k
 refine cond_intro (λh8=>?_) (λh8=>?_)
 ·have h8:c.kind=8:=by simpa using h8
  rw[if_pos h8]at es0
  refine inq_c λv65 w66 g66 r66 n66=>oneK_of (Rd.isOne r66) ?_
  exact data (l46.grow g66) r66 (n66.of l46.g.size) (λq hq e=>by have:=n66 q hq;have:=l46.br.lt;omega) es0
 have h8:c.kind≠8:=by simpa using h8
 rw[if_neg h8]at es0
 refine cond_intro (λh7=>?_) (λh7=>?_)
 ·have h7:c.kind=7:=by simpa using h7
  rw[if_pos h7]at es0
  refine withAddr_some ⟨_,h46.c0,withAddr_some ⟨_,h46.s.o.cell 0,cap_c hN h46.s.hN λv65 w66 g66 r66 n66=>oneK_of (Rd.isOne r66) ?_⟩⟩
  exact data (l46.grow g66) r66 (n66.of l46.g.size) (λq hq e=>by have:=n66 q hq;have:=l46.br.lt;omega) es0
 have h7:c.kind≠7:=by simpa using h7
 rw[if_neg h7]at es0
 refine JoinP.bool (λb w'=>b=decide (2<=c.kind/\c.kind<=6)/\w46=w') (λj hj=>?_) ?_
 ·refine cond_intro (λq=>hj _ _ ⟨?_,rfl⟩) (λq=>cond_intro (λq'=>hj _ _ ⟨?_,rfl⟩) (λq'=>cond_intro (λq2=>hj _ _ ⟨?_,rfl⟩) (λq2=>cond_intro (λq3=>hj _ _ ⟨?_,rfl⟩) (λq3=>hj _ _ ⟨?_,rfl⟩))))
  all_goals rw[Bool.eq_iff_iff];simp only[beq_iff_eq,beq_eq_false_iff_ne,decide_eq_true_eq,ne_eq]at *;omega
 rintro b w86 ⟨rfl,rfl⟩
 refine cond_intro (λhB=>?_) (λhB=>?_)
 ·have hB:=of_decide_eq_true hB
  rw[if_pos hB]at es0
  rw[es0]at k
  refine⟨_,_,_,_,_,_,_,_,l46.bc.ld rfl,?_⟩
  refine blocksW_c h46 d46 hp hn λv w' F' st hu' hv=>?_
  obtain⟨dv',rfl,rd',nv'⟩:=hv
  have l46l:=l46.br.lt
  refine⟨_,_,_,_,_,rfl,?_⟩
  refine fin_c (r:=(stB N x.u c).1) ((mdg l46.g).stp (T':=F') st (λq hq=>.inl hq) (λq hq=>(st.fp q hq).imp .inl id)) (λq hq=>(st.fp q hq).imp id (λz=>by have:=l46.g.size;omega)) (by omega) (l46.br.stepS st (nF _ (by omega))) rfl hu' (λhq=>(st.fp _ hq).elim (nF _ (by omega)) (λz=>by omega)) (Rd.isOne rd') rd' (nv'.of l46.g.size) (λ_ e=>by have:=nv' _ e;omega) rfl k
 have hB:=of_decide_eq_false hB
 rw[if_neg hB]at es0
 refine JoinP.bool (λb w'=>b=decide (c.kind=10\/c.kind=11)/\w46=w') (λj hj=>cond_intro (λq=>hj _ _ ⟨?_,rfl⟩) (λq=>hj _ _ ⟨?_,rfl⟩)) ?_
 ·have q':c.kind=10:=by simpa using q
  rw[q'];rfl
 ·have q':¬c.kind=10:=by simpa using q
  rw[Bool.eq_iff_iff];simp [q']
 rintro b w109 ⟨rfl,rfl⟩
 have al:=fv.al
 refine cond_intro (λhk=>?_) (λhk=>?_)
 ·have hk:=of_decide_eq_true hk
  have et:stT h x.u c=regU x.u h c.key c.new (c.kind==11):=by unfold stT;rw[if_pos hk]
  rw[if_pos (by omega),et]at es0
  rw[es0]at k
  obtain⟨bd1,bd2⟩:=reg_bd x.u h c.key c.new (c.kind==11)
  refine go2 (λv1 v2 w'=>Told w w' F gu N (regU x.u h c.key c.new (c.kind==11)).2 (wOf h x) (regU x.u h c.key c.new (c.kind==11)).1 v1 v2) (λj hj=>?_) (λv1 v2 w' t=>told_c lt t bd2 k)
  refine nm λw128 e128=>?_
  have l128:=l46.grow (drE e128)
  refine withAddr_some ⟨_,(h0.grow l128.g).c1,_,l128.bc.cell 4,_,l128.bc.cell 5,_,l128.bc.cell 0,nm λw134 e134=>?_⟩
  have l134:=l46.grow (drE e134)
  have h134:=h0.grow l134.g
  refine⟨?_,?_⟩
  ·refine RegisterA_c h134.t hh al λw136 st t136=>⟨_,_,_,_,_,_,rfl,?_⟩
   obtain⟨md,hu',br,bc,hw'⟩:=tab l134 st t136 bd1
   obtain⟨_,g2,_⟩:=alE (w:=w136) (cs:=zR) (t:=tRp) rfl
   exact⟨⟨_,(hw'.grow g2).c1,rfl⟩,⟨_,(bc.grow g2).cell 4,rfl⟩,⟨_,(bc.grow g2).cell 5,rfl⟩,⟨_,(bc.grow g2).cell 0,rfl⟩,told1 lt md hu' br hj⟩
  ·obtain⟨_,g2,_⟩:=alE (w:=w134) (cs:=zR) (t:=tRp) rfl
   have lz:=l134.grow g2
   refine⟨⟨_,(h0.grow lz.g).c1,rfl⟩,⟨_,lz.bc.cell 4,rfl⟩,⟨_,lz.bc.cell 5,rfl⟩,⟨_,lz.bc.cell 0,rfl⟩,nm λwa ea=>nm λwb eb=>?_⟩
   obtain rfl:wb=wa:=eb.trans ea.symm
   obtain⟨b2,g2',_⟩:=alE eb
   have lw:=l134.grow g2'
   refine RegisterA_c (h0.grow lw.g).t hh al λw136 st t136=>⟨_,_,_,_,_,_,rfl,?_⟩
   obtain⟨md,hu',br,bc,hw'⟩:=tab lw st t136 bd1
   have q0:=l134.br.lt
   exact told2 lt q0 (b2.stepS st (λe=>nF _ (by omega) (e▸h0.ft))) md hu' br hj
 have hk:=of_decide_eq_false hk
 refine cond_intro (λh12=>?_) (λh12=>?_)
 ·have h12:c.kind=12:=by simpa using h12
  have et:stT h x.u c=resU x.u h c.key c.typ:=by unfold stT;rw[if_neg hk,if_pos h12]
  rw[if_pos (by omega),et]at es0
  rw[es0]at k
  obtain⟨bd1,bd2⟩:=res_bd x.u h c.key c.typ
  refine nm λw167 e167=>?_
  have l167:=l46.grow (drE e167)
  refine withAddr_some ⟨_,(h0.grow l167.g).c1,_,l167.bc.cell 4,_,l167.bc.cell 6,nm λw172 e172=>?_⟩
  have l172:=l46.grow (drE e172)
  refine Reserve_c (r:=(resU x.u h c.key c.typ).1) (u':=(resU x.u h c.key c.typ).2) (h0.grow l172.g).t hh rfl λw174 st t174=>⟨_,_,_,_,_,rfl,?_⟩
  obtain⟨md,hu',br,_,_⟩:=tab l172 st t174 bd1
  exact dup2 (fin_c (r:=(resU x.u h c.key c.typ).1) md (λ_ h=>.inl h) (by omega) br rfl hu' (nF _ (by omega)) rfl (rp0 bd2) (newV_nil w) (λe=>absurd bd2 e) rfl k)
 have h12:¬c.kind=12:=by simpa using h12
 refine cond_intro (λh13=>?_) (λh13=>?_)
 ·have h13:c.kind=13:=by simpa using h13
  have et:stT h x.u c=relU x.u h c.key c.typ:=by unfold stT;rw[if_neg hk,if_neg h12,if_pos h13]
  rw[if_pos (by omega),et]at es0
  rw[es0]at k
  obtain⟨bd1,bd2⟩:=rel_bd x.u h c.key c.typ
  refine go2 (λv1 v2 w'=>Told w w' F gu N (relU x.u h c.key c.typ).2 (wOf h x) (relU x.u h c.key c.typ).1 v1 v2) (λj hj=>?_) (λv1 v2 w' t=>told_c lt t bd2 k)
  refine nm λw128 e128=>?_
  have l128:=l46.grow (drE e128)
  refine withAddr_some ⟨_,(h0.grow l128.g).c1,_,l128.bc.cell 4,_,l128.bc.cell 6,nm λw134 e134=>?_⟩
  have l134:=l46.grow (drE e134)
  have h134:=h0.grow l134.g
  refine⟨?_,?_⟩
  ·refine Release_c h134.t hh al λw136 st t136=>⟨_,_,_,_,_,_,rfl,?_⟩
   obtain⟨md,hu',br,bc,hw'⟩:=tab l134 st t136 bd1
   obtain⟨_,g2,_⟩:=alE (w:=w136) (cs:=zR) (t:=tRp) rfl
   exact⟨⟨_,(hw'.grow g2).c1,rfl⟩,⟨_,(bc.grow g2).cell 4,rfl⟩,⟨_,(bc.grow g2).cell 6,rfl⟩,told1 lt md hu' br hj⟩
  ·obtain⟨_,g2,_⟩:=alE (w:=w134) (cs:=zR) (t:=tRp) rfl
   have lz:=l134.grow g2
   refine⟨⟨_,(h0.grow lz.g).c1,rfl⟩,⟨_,lz.bc.cell 4,rfl⟩,⟨_,lz.bc.cell 6,rfl⟩,nm λwa ea=>nm λwb eb=>?_⟩
   obtain rfl:wb=wa:=eb.trans ea.symm
   obtain⟨b2,g2',_⟩:=alE eb
   have lw:=l134.grow g2'
   refine Release_c (h0.grow lw.g).t hh al λw136 st t136=>⟨_,_,_,_,_,_,rfl,?_⟩
   obtain⟨md,hu',br,bc,hw'⟩:=tab lw st t136 bd1
   have q0:=l134.br.lt
   exact told2 lt q0 (b2.stepS st (λe=>nF _ (by omega) (e▸h0.ft))) md hu' br hj
 have h13:¬c.kind=13:=by simpa using h13
 refine cond_intro (λh14=>?_) (λh14=>?_)
 ·have h14:c.kind=14:=by simpa using h14
  have et:stT h x.u c=clrU x.u h c.key:=by unfold stT;rw[if_neg hk,if_neg h12,if_neg h13,if_pos h14]
  rw[if_pos (by omega),et]at es0
  rw[es0]at k
  obtain⟨bd1,bd2⟩:=clr_bd x.u h c.key
  refine go2 (λv1 v2 w'=>Told w w' F gu N (clrU x.u h c.key).2 (wOf h x) (clrU x.u h c.key).1 v1 v2) (λj hj=>?_) (λv1 v2 w' t=>told_c lt t bd2 k)
  refine nm λw128 e128=>?_
  have l128:=l46.grow (drE e128)
  refine withAddr_some ⟨_,(h0.grow l128.g).c1,_,l128.bc.cell 4,nm λw134 e134=>?_⟩
  have l134:=l46.grow (drE e134)
  have h134:=h0.grow l134.g
  refine⟨?_,?_⟩
  ·refine Clear_c h134.t hh al λw136 st t136=>⟨_,_,_,_,_,_,rfl,?_⟩
   obtain⟨md,hu',br,bc,hw'⟩:=tab l134 st t136 bd1
   obtain⟨_,g2,_⟩:=alE (w:=w136) (cs:=zR) (t:=tRp) rfl
   exact⟨⟨_,(hw'.grow g2).c1,rfl⟩,⟨_,(bc.grow g2).cell 4,rfl⟩,told1 lt md hu' br hj⟩
  ·obtain⟨_,g2,_⟩:=alE (w:=w134) (cs:=zR) (t:=tRp) rfl
   have lz:=l134.grow g2
   refine⟨⟨_,(h0.grow lz.g).c1,rfl⟩,⟨_,lz.bc.cell 4,rfl⟩,nm λwa ea=>nm λwb eb=>?_⟩
   obtain rfl:wb=wa:=eb.trans ea.symm
   obtain⟨b2,g2',_⟩:=alE eb
   have lw:=l134.grow g2'
   refine Clear_c (h0.grow lw.g).t hh al λw136 st t136=>⟨_,_,_,_,_,_,rfl,?_⟩
   obtain⟨md,hu',br,bc,hw'⟩:=tab lw st t136 bd1
   have q0:=l134.br.lt
   exact told2 lt q0 (b2.stepS st (λe=>nF _ (by omega) (e▸h0.ft))) md hu' br hj
 have h14:¬c.kind=14:=by simpa using h14
 refine cond_intro (λh15=>?_) (λh15=>?_)
 ·have h15:c.kind=15:=by simpa using h15
  have et:stT h x.u c=(preU x.u h c.key c.new,x.u):=by unfold stT;rw[if_neg hk,if_neg h12,if_neg h13,if_neg h14,if_pos h15]
  rw[if_pos (by omega),et]at es0
  rw[es0]at k
  have bd2:=pre_d x.u h c.key c.new
  refine go2 (λv1 v2 w'=>Told w w' F gu N x.u (wOf h x) (preU x.u h c.key c.new) v1 v2) (λj hj=>?_) (λv1 v2 w' t=>told_c lt t bd2 k)
  refine nm λw128 e128=>?_
  have l128:=l46.grow (drE e128)
  refine withAddr_some ⟨_,(h0.grow l128.g).c1,_,l128.bc.cell 4,_,l128.bc.cell 5,_,l128.bc.cell 6,nm λw134 e134=>?_⟩
  have l134:=l46.grow (drE e134)
  have h134:=h0.grow l134.g
  refine⟨?_,?_⟩
  ·refine Preempt_c h134.t hh al λw136 st t136=>⟨_,_,_,_,_,_,rfl,?_⟩
   obtain⟨md,hu',br,bc,hw'⟩:=tab l134 st t136 rfl
   obtain⟨_,g2,_⟩:=alE (w:=w136) (cs:=zR) (t:=tRp) rfl
   exact⟨⟨_,(hw'.grow g2).c1,rfl⟩,⟨_,(bc.grow g2).cell 4,rfl⟩,⟨_,(bc.grow g2).cell 5,rfl⟩,⟨_,(bc.grow g2).cell 6,rfl⟩,told1 lt md hu' br hj⟩
  ·obtain⟨_,g2,_⟩:=alE (w:=w134) (cs:=zR) (t:=tRp) rfl
   have lz:=l134.grow g2
   refine⟨⟨_,(h0.grow lz.g).c1,rfl⟩,⟨_,lz.bc.cell 4,rfl⟩,⟨_,lz.bc.cell 5,rfl⟩,⟨_,lz.bc.cell 6,rfl⟩,nm λwa ea=>nm λwb eb=>?_⟩
   obtain rfl:wb=wa:=eb.trans ea.symm
   obtain⟨b2,g2',_⟩:=alE eb
   have lw:=l134.grow g2'
   refine Preempt_c (h0.grow lw.g).t hh al λw136 st t136=>⟨_,_,_,_,_,_,rfl,?_⟩
   obtain⟨md,hu',br,bc,hw'⟩:=tab lw st t136 rfl
   have q0:=l134.br.lt
   exact told2 lt q0 (b2.stepS st (λe=>nF _ (by omega) (e▸h0.ft))) md hu' br hj
 have h15:¬c.kind=15:=by simpa using h15
 refine cond_intro (λh16=>?_) (λh16=>?_)
 ·have h16:c.kind=16:=by simpa using h16
  have et:stT h x.u c=({good with d:=Lst.keysB x.u.gen (listR x.u)},x.u):=by unfold stT;rw[if_neg hk,if_neg h12,if_neg h13,if_neg h14,if_neg h15,if_pos h16]
  rw[if_pos (by omega),et]at es0
  refine nm λw349 e349=>?_
  have l349:=l46.grow (drE e349)
  have h349:=h0.grow l349.g
  refine withAddr_some ⟨_,h349.c1,withAddr_some ⟨_,h349.t.at10,withAddr_some ⟨_,h349.c1,nm λw356 e356=>?_⟩⟩⟩
  have l356:=l46.grow (drE e356)
  have h356:=h0.grow l356.g
  refine List_c h356.t λv357 w358 g358 r357 n357=>?_
  have l358:=l356.grow g358
  have h358:=h0.grow l358.g
  refine⟨⟨_,h358.c1,rfl⟩,⟨_,h358.t.at10,rfl⟩,Keys_c fv.gen r357 λv361 w362 g362 r361 n361=>oneK_of (Rd.isOne r361) ?_⟩
  have l362:=l358.grow g362
  exact dup2 (data l362 r361 (n361.of l358.g.size) (λq hq e=>by have:=n361 q hq;have:=l358.br.lt;omega) es0)
 have h16:¬c.kind=16:=by simpa using h16
 refine cond_intro (λh17=>?_) (λh17=>?_)
 ·have h17:c.kind=17:=by simpa using h17
  have et:stT h x.u c=({good with d:=hdB x.u.gen (if x.u.holder < 0 then 0 else x.u.keys.getD h 0) x.u.typ},x.u):=by unfold stT;rw[if_neg hk,if_neg h12,if_neg h13,if_neg h14,if_neg h15,if_neg h16]
  rw[if_pos (by omega),et]at es0
  refine nm λw370 e370=>?_
  have l370:=l46.grow (drE e370)
  have h370:=h0.grow l370.g
  refine withAddr_some ⟨_,h370.c1,withAddr_some ⟨_,h370.t.at10,withAddr_some ⟨_,h370.c1,withAddr_some ⟨_,h370.c1,withAddr_some ⟨_,h370.t.at8,withAddr_some ⟨_,h370.c1,withAddr_some ⟨_,h370.t.at9,nm λw385 e385=>?_⟩⟩⟩⟩⟩⟩⟩
  have l385:=l46.grow (drE e385)
  have h385:=h0.grow l385.g
  have key:∀{R':KV},R' (.int .u64 (if x.u.holder < 0 then 0 else x.u.keys.getD h 0)) w385->Zs 64 #[zA gt,.int .i64 x.u.holder] w385 R':=λ{R'} q=>by
   rcases fv.ho with e|e
   ·rw[e]at q ⊢
    exact Key1_c h385.t q
   ·rw[e]at q ⊢
    rw[if_neg (by omega)]at q
    exact Key_c h385.t hh q
  refine key ⟨_,rfl,⟨_,h385.c1,rfl⟩,⟨_,h385.t.at10,rfl⟩,⟨_,h385.c1,rfl⟩,⟨_,h385.t.at9,rfl⟩,holder_c λv393 w394 g394 r394 n394=>oneK_of (Rd.isOne r394) ?_⟩
  have l394:=l385.grow g394
  exact dup2 (data l394 r394 (n394.of l385.g.size) (λq hq e=>by have:=n394 q hq;have:=l385.br.lt;omega) es0)
 have h17:¬c.kind=17:=by simpa using h17
 rw[if_neg (by omega)]at es0
 refine cond_intro (λh18=>?_) (λh18=>?_)
 ·
  have h18:c.kind=18:=by simpa using h18
  rw[if_pos h18]at es0
  refine⟨λ(n:Int) (ww:World)=>∃(i:Nat) (F':Fp) (wv':List Value),n=(i:Int)/\i<=8/\Step F w46 ww F'/\WnIn ww F' gu gs gt N bv mv m x.u wv' (λj=>if j < i then[rsC] else wOf h x j),λ(n:Int) (_:World)=>((8:Int) - n).toNat,⟨0,F,wv,rfl,by omega,Step.refl _ _,by simpa using h46⟩,?_⟩
  dsimp only[allR,mapR2,eqN,ltN]
  rintro M n ww ⟨⟨i,F',wv',rfl,hi,st,hw⟩,hM⟩
  refine cond_intro (λhc=>?_) (λhc=>?_)
  ·have hc:i < 8:=by have:=of_decide_eq_true hc;omega
   refine note_c (c:=rsC) hw hc ?_ λw406 F2 wv2 st2 h2=>⟨rfl,?_⟩
   ·rw[if_neg (by omega)]
    unfold wOf
    by_cases q:(if i=h then x.own else x.oth)=true
    ·exact .inr (if_pos q)
    ·exact .inl (if_neg q)
   ·rw[wi64_id (by omega) (by omega)]
    have e:noteW (λj=>if j < i then[rsC] else wOf h x j) i rsC=λj=>if j < i+1 then[rsC] else wOf h x j:=by
     funext j;unfold noteW;dsimp only
     by_cases hj:j=i
     ·rw[if_pos hj,if_pos (by omega)]
     ·rw[if_neg hj]
      by_cases hj2:j < i
      ·rw[if_pos hj2,if_pos (by omega)]
      ·rw[if_neg hj2,if_neg (by omega)]
    rw[e]at h2
    exact⟨⟨i+1,F2,wv2,by omega,by omega,st.then st2,h2⟩,by omega⟩
  ·have hc:i=8:=by have:=of_decide_eq_false hc;omega
   subst hc
   have l46l:=l46.br.lt
   refine hj64 _ ⟨F',x.u,wOf h ⟨x.u,true,true⟩,(mdg l46.g).stp (T':=F') st (λq hq=>.inl hq) (λq hq=>(st.fp q hq).imp .inl id),λq hq=>(st.fp q hq).imp id (λz=>by have:=l46.g.size;omega),⟨gs,gt,bv,mv,m,wv',?_⟩,l46.br.stepS st (nF _ (by omega)),λhq=>(st.fp _ hq).elim (nF _ (by omega)) (λz=>by omega),by rw[es0],by rw[es0],by rw[es0]⟩
   have hwr:∀i,i < 8->RdR EI ww (wv'.getD i nilV) (wOf h ⟨x.u,true,true⟩ i):=λi hi=>by
    have:=hw.wr i hi
    rw[if_pos hi]at this
    have e:wOf h ⟨x.u,true,true⟩ i=[rsC]:=by unfold wOf;simp
    rw[e];exact this
   exact{hw with wr:=hwr}
 have h18:¬c.kind=18:=by simpa using h18
 rw[if_neg h18]at es0
 exact hj64 _ ⟨F,x.u,wOf h x,mdg l46.g,λ_ h=>.inl h,hu l46.g,l46.br,nF _ (by omega),by rw[es0],by rw[es0],by rw[es0]⟩
end Go.Proofs.YtdinpgnjnleioaaGreatDoor.Rf
end
section
namespace Go.Proofs.YtdinpgnjnleioaaGreatDoor.Rf
open CW RowKit
open Ses (Cm Rp RpAt RpOk rRp rCm nilV m32 Doer)
variable {w w':World} {F:Fp} {gu gd h:Nat} {x:Rv}
def docVAt (gd h:Nat) (w:World) (F:Fp) (x:Rv):Prop:=∃gu F',BK w gd #[zA gu] tDo/\F gd/\(∀k,F' k->F k/\k≠gd)/\InW w F/\UnWt w F' gu 64 x.u (wOf h x)
theorem docVAt.stable (hd:docVAt gd h w F x) (hz:w.heap.size<=w'.heap.size) (hk:∀k,F k->w'.heap[k]? =w.heap[k]?):docVAt gd h w' F x:=by
 obtain⟨gu,F',b,fg,ff,lt,gs,gt,bv,mv,m,wv,h⟩:=hd
 exact⟨gu,F',(hk _ fg).trans b,fg,ff,λk q=>Nat.lt_of_lt_of_le (lt k q) hz,gs,gt,bv,mv,m,wv,h.stable hz λk q=>hk k (ff k q).1⟩
structure OkV (h:Nat) (x:Rv) (n:List UInt8) (c:Cm):Prop where
 f:FineV h x
 hn:n.length % 8=h
 nl:n.length < 4294967296
 pos:c.pos<=4611686018427387904
 m:c.n<=4294967295
theorem docV_c (hd:docVAt gd h w F x) {n:List UInt8} {c:Cm} {dv:Value} (ok:OkV h x n c) (hr:RdB w dv c.d) {R:KV}
 (k:∀v w' F',Step F w w' F'->docVAt gd h w' F' (stepV h 64 x c).2->RpAt w w' v (stepV h 64 x c).1->R v w'):
 Zs 11 #[zA gd,.string (textOf n),.agg (rCm c dv)] w R:=by
 obtain⟨gu,F',b,fg,ff,lt,gs,gt,bv,mv,m,wv,hu0⟩:=hd
 apply q62W
 have hdi:=Rd.isOne hr
 refine nm λw0 e0=>?_
 obtain⟨b0',g0,s0⟩:=alE e0
 have b0:BK w0 w.heap.size (rCm c dv) tCm:=b0'
 refine nm λw1 e1=>?_
 obtain⟨b1,g1,s1⟩:=alE e1
 refine nm λw2 e2=>?_
 have g2:=drE e2
 have gA:Grow w w2:=g0.then (g1.then g2)
 refine withAddr_some ⟨_,(b.grow gA).cell 0,_,_,_,_,_,_,_,_,((b0.grow g1).grow g2).ld rfl,nm λw13 e13=>?_⟩
 have g13:=drE e13
 have gB:Grow w w13:=g0.then (g1.then g13)
 rw[textOf_size,and7 _ ok.nl,ok.hn]
 have nF:∀q,w.heap.size<=q->¬F' q:=λq hq hh=>by have:=lt _ (ff _ hh).1;omega
 have z0:w0.heap.size=w.heap.size+1:=s0
 refine doW_c (hu0.grow gB) (by have:=ok.hn;omega) ok.f (by omega) (hr.grow gB) ok.pos ok.m λv w15 F'' st hu hv=>?_
 obtain⟨rv,rfl,rr,rn⟩:=hv
 have br:=(b1.grow g13).stepS st (nF _ (by omega))
 refine⟨_,_,_,_,_,rfl,?_⟩
 have lt1:w0.heap.size < w13.heap.size:=(b1.grow g13).lt
 obtain⟨r1,r2⟩:=ret5d (G:=λn0 n1 n2 v3 n4 w'=>R (.agg #[.int .i64 n0,.int .i64 n1,.int .i64 n2,v3,.int .i64 n4]) w') br rfl (Rd.isOne rr) λw' b' t'=>by
  have fp2:∀q,F'' q->F' q\/w13.heap.size<=q:=st.fp
  refine k _ w' (λq=>q=gd\/F'' q) ?_ ⟨gu,F'',?_,.inl rfl,λq hq=>⟨.inr hq,λe=>?_⟩,λq hq=>?_,hu.turn t' (λhh=>?_)⟩ ⟨rv,rfl,Rd.turn rr t' (λe=>by have:=rn _ e;omega),rn.of gB.size⟩
  ·have md:Md F w.heap.size w w':=(((Md.refl F w.heap.size w).grow gB).stp st (λq hq=>.inl (ff q hq).1) (λq hq=>(fp2 q hq).elim (λhq=>.inl (.inl (ff q hq).1)) (λhq=>.inr hq))).turn t' (.inr (by omega))
   refine md.out.imp (λ_ h=>h) λq hq=>?_
   rcases hq with rfl|hq
   ·exact .inl fg
   ·rcases fp2 q hq with hq|hq
    ·exact .inl (ff q hq).1
    ·have:=gB.size;exact .inr (by omega)
  ·exact((b.grow gB).stepS st (λhh=>(ff _ hh).2 rfl)).turn t' (λe=>by have:=b.lt;omega)
  ·rcases fp2 q hq with hq|hq
   ·exact(ff q hq).2 e
   ·have:=b.lt;have:=gB.size;omega
  ·have z5:=st.size
   have z6:=t'.size
   rcases hq with rfl|hq
   ·have:=b.lt;have:=gB.size;omega
   ·have:=hu.lt q hq;omega
  ·rcases fp2 _ hh with hh|hh
   ·exact nF _ (by omega) hh
   ·omega
 exact⟨r1,r2⟩
theorem rp_of {st key code info:Int} {d:List UInt8} (h1:0<=st/\st<=255) (h2:d.length<=512) (h3:0<=key/\key<=100000) (h4:0<=code/\code<=100000) (h5:0<=info/\info<=100000):RpOk ⟨st,key,code,d,info⟩:=
 ⟨h1,h2,Ses.fits_i (by show _<=key;omega) (by show key < _;omega),Ses.fits_i (by show _<=code;omega) (by show code < _;omega),Ses.fits_i (by show _<=info;omega) (by show info < _;omega)⟩
theorem miss_lt {a c:List UInt8} {n i:Nat} (h:missAt a c n=some i):i < n:=by
 unfold missAt at h
 have:=List.mem_of_find?_eq_some h
 simpa using this
theorem stepV_rp {c:Cm} (hm:c.n<=4294967295):RpOk (stepV h 64 x c).1:=by
 have cf:RpOk conf:=rp_of (by omega) (by simp) (by omega) (by omega) (by omega)
 have gd:RpOk good:=rp_of (by omega) (by simp) (by omega) (by omega) (by omega)
 have w5:∀code,0<=code->code<=100000->RpOk (wr 5 code):=λcode a b=>rp_of (by omega) (by simp) (by omega) ⟨a,b⟩ (by omega)
 have dd:∀d:List UInt8,d.length<=512->RpOk {good with d:=d}:=λd hd=>by show RpOk ⟨0,0,0,d,0⟩;exact rp_of (by omega) hd (by omega) (by omega) (by omega)
 unfold stepV
 split
 ·exact w5 _ (by omega) (by omega)
 split
 ·exact dd _ (by rw[Sen.encS_length];omega)
 split
 ·exact rp_of (by omega) (by simp) (by omega) (by unfold rsC;omega) (by omega)
 split
 ·exact dd _ (by decide)
 split
 ·exact dd _ (by simp [capB,putL_length])
 split
 ·show RpOk (stB 64 x.u c).1
  unfold stB
  split
  ·exact w5 _ (by omega) (by omega)
  split
  ·next h1 _=>
   have h1:c.n<=32/\c.pos+c.n<=64:=by
    apply Decidable.byContradiction
    intro hh;exact h1 hh
   exact dd _ (by rw[List.length_take];omega)
  split
  ·split
   ·exact gd
   ·exact w5 _ (by omega) (by omega)
  split
  ·exact gd
  split
  ·split
   ·next h1 _ _ _ _ _=>
    have h1:c.n<=32/\c.pos+c.n<=64:=by
     apply Decidable.byContradiction
     intro hh;exact h1 hh
    split
    ·next i hi=>
     have:=miss_lt hi
     exact rp_of (by omega) (by simp) (by omega) (by omega) (by omega)
    ·exact gd
   ·exact w5 _ (by omega) (by omega)
  ·exact gd
 split
 ·show RpOk (stT h x.u c).1
  unfold stT
  split
  ·unfold regU
   split
   ·exact cf
   ·dsimp only;split<;>exact gd
  split
  ·unfold resU
   split
   ·exact cf
   split
   ·exact w5 9216 (by omega) (by omega)
   split
   ·exact gd
   split
   ·exact cf
   ·exact gd
  split
  ·unfold relU
   split
   ·exact cf
   split
   ·exact w5 _ (by omega) (by omega)
   split
   ·exact gd
   split
   ·exact w5 _ (by omega) (by omega)
   ·exact gd
  split
  ·unfold clrU
   split
   ·exact cf
   ·exact gd
  split
  ·unfold preU
   split
   ·exact cf
   split
   ·exact w5 _ (by omega) (by omega)
   ·exact cf
  split
  ·exact dd _ (by rw[Lst.keysB_length];omega)
  ·exact dd _ (by have:=hdB_length x.u.gen (if x.u.holder < 0 then 0 else x.u.keys.getD h 0) x.u.typ;omega)
 split
 ·exact gd
 ·exact gd
theorem m32_r (n:Int):0<=m32 n/\m32 n < 4294967296:=by
 unfold m32;rw[IntKind.wrap_u32];omega
theorem stB_same (N:Nat) (u:Ru) (c:Cm):(stB N u c).2.keys=u.keys/\(stB N u c).2.holder=u.holder/\(stB N u c).2.gen=u.gen:=by
 unfold stB
 split
 ·exact⟨rfl,rfl,rfl⟩
 split
 ·exact⟨rfl,rfl,rfl⟩
 split
 ·split<;>exact⟨rfl,rfl,rfl⟩
 split
 ·exact⟨rfl,rfl,rfl⟩
 split
 ·split
  ·split<;>exact⟨rfl,rfl,rfl⟩
  ·exact⟨rfl,rfl,rfl⟩
 ·exact⟨rfl,rfl,rfl⟩
structure FineU (h:Nat) (u:Ru):Prop where
 al:Alone u h
 ho:u.holder= -1\/u.holder=(h:Int)
 gen:0<=u.gen/\u.gen < 4294967296
theorem stT_fine {u:Ru} (hf:FineU h u) (c:Cm):FineU h (stT h u c).2:=by
 unfold stT
 split
 ·unfold regU
  split
  ·exact hf
  ·dsimp only
   split
   ·exact⟨hf.al.set (x:=c.new) rfl,.inl rfl,m32_r _⟩
   ·exact⟨hf.al.set (x:=c.new) rfl,hf.ho,m32_r _⟩
 split
 ·unfold resU
  split
  ·exact hf
  split
  ·exact hf
  split
  ·exact⟨hf.al,.inr rfl,hf.gen⟩
  split
  ·exact hf
  ·exact hf
 split
 ·unfold relU
  split
  ·exact hf
  split
  ·exact hf
  split
  ·exact hf
  split
  ·exact hf
  ·exact⟨hf.al,.inl rfl,hf.gen⟩
 split
 ·unfold clrU
  split
  ·exact hf
  ·refine⟨λj hj hne=>?_,.inl rfl,m32_r _⟩
   show(List.replicate 8 (0:Int)).getD j 0=0
   rw[List.getD_eq_getElem?_getD,List.getElem?_replicate,if_pos hj];rfl
 split
 ·exact hf
 split
 ·exact hf
 ·exact hf
theorem stepV_fine (hf:FineV h x) {c:Cm}:FineV h (stepV h 64 x c).2:=by
 have same:∀(y:Rv),y.u.keys=x.u.keys->y.u.holder=x.u.holder->y.u.gen=x.u.gen->FineV h y:=λy a b c=>⟨λj h1 h2=>by rw[a];exact hf.al j h1 h2,by rw[b];exact hf.ho,by rw[c];exact hf.gen⟩
 unfold stepV
 split
 ·exact hf
 split
 ·exact same _ rfl rfl rfl
 split
 ·exact same _ rfl rfl rfl
 split
 ·exact hf
 split
 ·exact hf
 split
 ·obtain⟨a,b,c⟩:=stB_same 64 x.u c
  exact same _ a b c
 split
 ·have:=stT_fine ⟨hf.al,hf.ho,hf.gen⟩ c
  exact⟨this.al,this.ho,this.gen⟩
 split
 ·exact same _ rfl rfl rfl
 ·exact hf
def docV (gd h:Nat):Doer where
 U:=Rv
 fid:=11
 first:= #[zA gd]
 captured:= #[]
 body:=by kernel_rfl
 At:=docVAt gd h
 step x _ c:=stepV h 64 x c
 Ok x n c:=OkV h x n c
 stable h hz hk:=docVAt.stable h hz hk
 lt h:=by obtain⟨gu,F',b,fg,ff,lt,h⟩:=h;exact lt
 rp h:=stepV_rp h.m
 spec h ok hd k:=docV_c h ok hd k
theorem docV_direct (gd h:Nat):Rs.Direct (docV gd h) gd:=λhu hok hd k=>docV_c hu hok hd k
theorem doer_c {h:Nat} {R:KV} (k:∀gd F w',Grow w w'->(∀q,F q->w.heap.size<=q)->docVAt gd h w' F ⟨u0n 64,false,false⟩->R (zA gd) w'):Zs 10 #[] w R:=by
 apply q19W
 refine uNew_c (N:=64) (by omega) (by omega) λgu F w1 g1 hF hu=>⟨_,_,rfl,nm λw4 e4=>?_⟩
 obtain⟨b4,g4,s4⟩:=alE e4
 obtain⟨gs,gt,bv,mv,m,hu⟩:=hu
 have z1:=g1.size
 refine k w1.heap.size (λq=>q=w1.heap.size\/F q) w4 (g1.then g4) (λq hq=>hq.elim (λe=>by omega) (hF q)) ⟨gu,F,b4,.inl rfl,λq hq=>⟨.inr hq,λe=>?_⟩,λq hq=>?_,gs,gt,bv,mv,m,List.replicate 8 nilV,?_⟩
 ·have:=hu.lt q hq;omega
 ·rcases hq with rfl|hq
  ·omega
  ·have:=hu.lt q hq;omega
 ·have hw:=(hu.grow g4).wait0
  have e:wOf h ⟨u0n 64,false,false⟩=λ_=>[]:=by
   funext i;unfold wOf;split<;>split<;>simp_all
  show WnIn w4 F gu gs gt 64 bv mv m (u0n 64) (List.replicate 8 nilV) (wOf h ⟨u0n 64,false,false⟩)
  rw[e];exact hw
theorem fineV0 (h:Nat):FineV h ⟨u0n 64,false,false⟩:=by
 refine⟨λj hj _=>?_,.inl rfl,by show(0:Int)<=0/\(0:Int) < 4294967296;omega⟩
 show(List.replicate 8 (0:Int)).getD j 0=0
 rw[List.getD_eq_getElem?_getD,List.getElem?_replicate,if_pos hj];rfl
end Go.Proofs.YtdinpgnjnleioaaGreatDoor.Rf
end
