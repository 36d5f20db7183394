/- A part of the proof. -/
import Derived.Test.YtdpmhkbhlbfbeaaGreatDoorZSesX1
set_option linter.unusedSimpArgs false
set_option linter.unusedVariables false
set_option maxRecDepth 100000
section
namespace Go.Proofs.YtdpmhkbhlbfbeaaGreatDoor.Ses
open CW RowKit Pdu
variable {W:Wire} {K:Doer} {w w':World} {κ:Col} {S :Fp} {g gr:Nat} {acl rv lv tv:Value} {hs:List Sl} {FU:Fp} {A:List (List UInt8)} {bl:List (Value×List UInt8)}
theorem app_more {v43 dv:Value} {hv ds:List UInt8} (r:RdB w v43 hv) (f:Ful v43) (hd:RdB w dv ds) (hl:hv.length+ds.length<=100000):
 ∃v46 w47,Sem.run Tryz.prog (Builtin.append_ #[tB,tB] tB #[v43,dv]) w= .ok v46 w47/\RdB w47 v46 (hv++ds)/\Grow w w47/\(v46=v43\/NewV w v46):=by
 by_cases hne:ds=[]
 ·subst hne
  exact⟨v43,w,app_none tyB r hd,by rw[List.append_nil];exact r,Grow.refl w,.inl rfl⟩
 ·obtain⟨v46,w47,k46,o46,g46⟩:=app_ful tyB r f hd one_b8 (by simpa using hne) (by simp;omega)
  refine⟨v46,w47,k46,?_,g46,.inr o46.blk⟩
  have:=o46.rd
  rw[←List.map_append]at this
  exact this
theorem SIn.have {x:St K.U} {v:Value} {bs:List UInt8} (h:SIn K w κ S g gr acl rv lv tv hs FU A bl x) (hw:Grow w w') (hr:RdB w' v bs) (hn:(bs≠[]->∀k,v.ownBlock=some k->Pt S κ 7 k)\/NewV w v):
 ∃κ' S',SIn K w' κ' S' g gr acl rv lv tv hs FU A ((v,bs)::bl) x/\Step S w w' S':=by
 rcases hn with hn|hn
 ·have h':=h.grow hw
  refine⟨κ, S,⟨h'.b,{h'.r with bl:=λq hq=>?_}⟩,Step.of_grow hw⟩
  rcases List.mem_cons.1 hq with rfl|hq
  ·exact⟨hr,hn⟩
  ·exact h'.r.bl q hq
 ·exact⟨_,_,⟨h.b.grow hw,h.r.more hw hr hn rfl⟩,hw.os,hw.tape,hw.output,hw.size,λk hk _=>hw.block k hk,λk hk=>hk.elim .inl (λq=>.inr (hn k q.1))⟩
theorem data_c (HW:WireOk W) {x:St K.U} {p:Pd} {dv:Value} {ds:List UInt8} (h:SAt K A w g S bl x) (hm:(dv,ds)∈bl) (hf:PdFits p) (hk:okP p=true) (hl:ds.length<=4096) (hs:SOk x.s) (ho:x.o.length<=900000000)
 (hok:∀i v,posOf x.s.L p.tag=some i->x.s.L[i]? =some v->∀c',full W v.c (v.hv++ds)=some c'->K.Ok x.u x.s.p.nm c') {R:KV}
 (k:∀w' S',Step S w w' S'->SAt K A w' g S' bl (dataS W K.step x p ds)->R (.tuple #[]) w'):Zs 84 #[zA g,vP p dv] w R:=by
 apply q156W
 have hS:∀q,w.heap.size<=q->¬ S q:=λq hq hs=>by have:=h.lt q hs;omega
 have hd:=h.byt hm
 refine nm λw0 e0=>?_
 obtain⟨b0',g0,s0⟩:=alE e0
 have b0:BK w0 w.heap.size (rP p dv) tP:=b0'
 refine⟨_,b0.cell 4,at_c (h.grow g0) λw3 g3=>⟨_,rfl,?_⟩⟩
 have g03:=g0.then g3
 have b3:=b0.grow g3
 unfold dataS at k
 refine JoinP.bool (λb ww=>Grow w ww/\BK ww w.heap.size (rP p dv) tP/\(b=true->dataS W K.step x p ds=reject x p ds)/\(b=false->∃i v,posOf x.s.L p.tag=some i/\x.s.L[i]? =some v/\p.off=(v.hv.length:Int)/\ds.length<=v.want)) (λj hj=>?_) ?_
 ·refine nm λw104 e104=>?_
  have g104:=drE e104
  have gA:=g03.then g104
  have bA:=b3.grow g104
  have hA:=h.grow gA
  cases hp:posOf x.s.L p.tag with
  |none=>
   rw[posOf_none hp]
   refine cond_t rfl (nm λw105 e105=>?_)
   obtain rfl:w105=w104:=e105.trans e104.symm
   exact hj _ _ ⟨gA,bA,λ_=>by unfold dataS;rw[hp],λe=>by cases e⟩
  |some i=>
   obtain⟨hi,hpi⟩:=posOf_some hp
   rw[hpi]
   obtain⟨κ,gr,acl,rv,lv,tv,hs',FU,hn⟩:=hA
   obtain⟨a,hi',ha,hpt,hc,_⟩:=hn.elem hi
   have hv:=hn.r.hv i hi hi'
   have hvo:=hs.L _ (List.getElem_mem hi)
   have hhv:=hvo.hv
   have hou:=hvo.out
   have hoff:=hf.off.u32
   have eL:x.s.L[i]? =some x.s.L[i]:=List.getElem?_eq_getElem hi
   have hgo:∀b,(b=true↔(p.off≠((x.s.L[i]).hv.length:Int)\/(x.s.L[i]).want < ds.length))->j b w104:=by
    intro b hb
    refine hj _ _ ⟨gA,bA,λe=>?_,λe=>⟨i,_,hp,eL,?_,?_⟩⟩
    ·unfold dataS;rw[hp];simp only[eL];rw[if_pos (hb.1 e)]
    ·apply Decidable.byContradiction
     intro hh
     rw[hb.2 (.inl hh)]at e;cases e
    ·apply Decidable.byContradiction
     intro hh
     rw[hb.2 (.inr (by omega))]at e;cases e
   refine cond_f (by simp) ⟨_,bA.cell 8,withAddr_some ⟨lv,hn.b.cell 12,a,ha,_,hc 9 (by omega),_,RdB.len hv,?_⟩⟩
   rw[w64_id (n:=p.off) (by omega) (by omega),w64_id (n:=((x.s.L[i]).hv.length:Int)) (by omega) (by omega)]
   refine cond_intro (λq=>nm λw112 e112=>?_) (λq=>⟨_,bA.cell 26,_,RdB.len (hd.grow gA),withAddr_some ⟨lv,hn.b.cell 12,a,ha,_,hc 11 (by omega),nm λw119 e119=>?_⟩⟩)
   ·obtain rfl:w112=w104:=e112.trans e104.symm
    have q:p.off≠((x.s.L[i]).hv.length:Int):=by simpa using q
    exact hgo _ ⟨λ_=>.inl q,λ_=>rfl⟩
   ·obtain rfl:w119=w104:=e119.trans e104.symm
    have q:p.off=((x.s.L[i]).hv.length:Int):=by simpa using q
    refine hgo _ ?_
    simp only[decide_eq_true_eq]
    constructor
    ·intro hh;exact .inr (by omega)
    ·rintro(hh|hh)
     ·exact absurd q hh
     ·omega
 rintro b6 w6 ⟨g6,b6',c1,c2⟩
 have h6:=h.grow g6
 refine cond_intro (λe=>?_) (λe=>?_)
 ·have k':∀w' S',Step S w w' S'->SAt K A w' g S' bl (reject x p ds)->R (.tuple #[]) w':=λw' S' st h'=>by
   rw[←c1 e]at h'
   exact k w' S' st (by unfold dataS at h';exact h')
  exact⟨_,_,_,_,_,_,_,_,_,_,_,_,_,_,_,_,_,_,_,_,_,_,_,_,_,_,_,b6'.ld rfl,reject_c h6 hf hk hl (hd.grow g6) hs.exp (by omega) λw35 S' st h'=>⟨rfl,k' w35 S' ((Step.of_grow g6).then st) h'⟩⟩
 obtain⟨i,v,hp,hv?,hoff,hwant⟩:=c2 e
 obtain⟨hi,hpi⟩:=posOf_some hp
 have hv:x.s.L[i]=v:=by rw[List.getElem?_eq_getElem hi]at hv?;exact Option.some.inj hv?
 have hok':=hok i v hp hv?
 have hvo:=hs.L _ (List.getElem_mem hi)
 rw[hv]at hvo
 rw[hp]at k
 simp only[hv?]at k
 rw[if_neg (by rintro(q|q);exact q hoff;omega)]at k
 rw[hpi]
 obtain⟨κ,gr,acl,rv,lv,tv,hs',FU,hn⟩:=h6
 obtain⟨a,hi',ha,hpt,hc,_⟩:=hn.elem hi
 refine withAddr_some ⟨lv,hn.b.cell 12,a,ha,nm λw39 e39=>?_⟩
 have g39:=drE e39
 have h39:=hn.grow g39
 have b39:=b6'.grow g39
 obtain⟨a2,_,ha2,_,hc2,_⟩:=h39.elem hi
 obtain rfl:a2=a:=by rw[ha]at ha2;exact(Option.some.inj ha2).symm
 refine⟨_,hc2 9 (by omega),_,b39.cell 26,nm λw42 e42=>?_⟩
 obtain rfl:w42=w39:=e42.trans e39.symm
 have rh:=h39.r.hv i hi hi'
 rw[hv]at rh
 refine slices_Clip_f rh λv43 r43 e43 f43=>⟨⟨_,b39.cell 26,rfl⟩,?_⟩
 have hd39:=hd.grow (g6.then g39)
 have hou:=hvo.out
 have hhv:=hvo.hv
 obtain⟨v46,w47,k46,r46,g46,n46⟩:=app_more r43 f43 hd39 (by omega)
 obtain⟨κ2,S2,h47,st47⟩:=h39.have (bs:=v.hv++ds) g46 r46 (by
  rcases n46 with rfl|n46
  ·by_cases hds:ds=[]
   ·subst hds
    left
    intro hx q hq
    rw[List.append_nil]at hx
    exact h39.r.hc i hi hi' (by rw[hv];exact hx) q (e43▸hq)
   ·right
    exact absurd (by
     have l1:=RdB.len r43
     have l2:=RdB.len r46
     rw[l1]at l2
     have:=Option.some.inj l2
     simp at this;exact this) hds
  ·exact .inr n46)
 have b47:=b39.grow g46
 refine⟨v46,w47,k46,oneK_of (Rd.isOne r46) ?_⟩
 obtain⟨a46,rfl⟩:=sl_of r46
 obtain⟨a3,hi3,ha3,hp3,hc3,hst3⟩:=h47.elem hi
 obtain rfl:a3=a2:=by rw[ha]at ha3;exact(Option.some.inj ha3).symm
 have hnS:∀{S3:Fp},(∀q,S3 q-> S q\/w.heap.size < q)->¬S3 w.heap.size:=λhh hq=>by
  rcases hh _ hq with q|q
  ·exact hS _ (Nat.le_refl _) q
  ·omega
 have hS2:∀q,S2 q-> S q\/w.heap.size < q:=λq hq=>(st47.fp q hq).imp id (λz=>by have:=(g6.then g39).size;have:=b6'.lt;have:=g39.size;omega)
 have hne4:a3.block≠w.heap.size:=λe=>hnS hS2 (e▸hp3.1)
 refine⟨(hst3 9 (by omega)).1,nm λw48 e48=>nm λw49 e49=>?_⟩
 obtain rfl:w49=w48:=e49.trans e48.symm
 have hso:=(hst3 9 (by omega)).2 (sl a46) {x.s.L[i]with hv:=v.hv++ds} a46 rfl
 rw[←e48]at hso
 obtain⟨κ3,S3,h48,st48,hS3⟩:=h47.setE (by rw[add_block];exact hp3) e48 hso (by simp [h39.r.hl]) (λj h1 h2=>by
  by_cases hij:i=j
  ·subst hij;right;simp
  ·left
   exact⟨j,by simpa using h1,by simpa using h2,by rw[List.getElem_set_ne hij],by rw[List.getElem_set_ne hij]⟩)
 have t48:Turn a3.block w47 w49:=by rw[e48];have:=Turn.set w47 (a3.add 9) (sl a46);rw[add_block]at this;exact this
 have b48:=b47.turn t48 (λe=>hne4 e.symm)
 refine nm λw50 e50=>?_
 have g50:=drE e50
 have h50:=h48.grow g50
 have b50:=b48.grow g50
 obtain⟨a4,hi4,ha4,hp4,hc4,hst4⟩:=h50.elem (i:=i) (by simpa using hi)
 obtain rfl:a4=a3:=by rw[ha]at ha4;exact(Option.some.inj ha4).symm
 have eL1:(({x with s:={x.s with L:=x.s.L.set i {x.s.L[i]with hv:=v.hv++ds}}}:St K.U).s.L[i]'(by simpa using hi))={v with hv:=v.hv++ds}:=by simp [hv]
 rw[eL1]at hc4 hst4
 have hdl:RdB w50 dv ds:=(h50.r.bl _ (List.mem_cons_of_mem _ hm)).1
 refine⟨_,hc4 11 (by omega),_,b50.cell 26,_,RdB.len hdl,nm λw54 e54=>?_⟩
 obtain rfl:w54=w50:=e54.trans e50.symm
 have ew:IntKind.wrap .i64 ((({v with hv:=v.hv++ds}:Wt).want:Int) - (ds.length:Int))=((v.want - ds.length:Nat):Int):=by
  show IntKind.wrap .i64 ((v.want:Int) - (ds.length:Int))=_
  rw[wi64_id (by omega) (by omega)];omega
 rw[ew]
 refine⟨(hst4 11 (by omega)).1,nm λw55 e55=>nm λw56 e56=>?_⟩
 obtain rfl:w56=w55:=e56.trans e55.symm
 have hso2:=(hst4 11 (by omega)).2 (.int .i64 ((v.want - ds.length:Nat):Int)) {v with hv:=v.hv++ds,want:=v.want - ds.length} ((hs'.set i a46)[i]) rfl
 rw[←e55]at hso2
 generalize hY:({v with hv:=v.hv++ds,want:=v.want - ds.length}:Wt)=Y at *
 have y1:Y.hv=v.hv++ds/\Y.want=v.want - ds.length/\Y.out=v.out/\Y.tag=v.tag/\Y.c=v.c:=by subst hY;exact⟨rfl,rfl,rfl,rfl,rfl⟩
 obtain⟨yh,yw,yo,yt,yc⟩:=y1
 obtain⟨κ5,S5,h56',st56,hS5⟩:=h50.setE (by rw[add_block];exact hp4) e55 hso2 (by simp [h39.r.hl]) (λj h1 h2=>.inl ⟨j,by simpa using h1,by simpa using h2,by
  by_cases hij:i=j
  ·subst hij;simp [yh]
  ·simp [List.getElem_set_ne hij],by
  by_cases hij:i=j
  ·subst hij;simp
  ·simp [List.getElem_set_ne hij]⟩)
 have eX:({({x with s:={x.s with L:=x.s.L.set i {x.s.L[i]with hv:=v.hv++ds}}}:St K.U)with s:={({x with s:={x.s with L:=x.s.L.set i {x.s.L[i]with hv:=v.hv++ds}}}:St K.U).s with L:=(({x with s:={x.s with L:=x.s.L.set i {x.s.L[i]with hv:=v.hv++ds}}}:St K.U).s.L).set i Y}}:St K.U)=setW x i Y:=by simp [setW,List.set_set]
 rw[eX]at h56'
 have h56:SIn K w56 κ5 S5 g gr acl rv lv tv (hs'.set i a46) FU A ((sl a46,v.hv++ds)::bl) (setW x i Y):=by
  have e:(hs'.set i a46).set i ((hs'.set i a46)[i]'(by simpa using hi'))=hs'.set i a46:=List.set_getElem_self _
  rw[e]at h56';exact h56'
 clear h56'
 have hiY:i < (setW x i Y).s.L.length:=by simpa[setW]using hi
 have eLY:(setW x i Y).s.L[i]=Y:=by simp [setW]
 have t56:Turn a4.block w54 w56:=by rw[e55];have:=Turn.set w54 (a4.add 11) (.int .i64 ((v.want - ds.length:Nat):Int));rw[add_block]at this;exact this
 have b56:=b50.turn t56 (λe=>hne4 e.symm)
 have stA:Step S w w56 S5:=((((Step.of_grow (g6.then g39)).then st47).then st48).then (Step.of_grow g50)).then st56
 have nS5:¬S5 w.heap.size:=hnS (λq hq=>hS2 q ((hS3 q).1 ((hS5 q).1 hq)))
 obtain⟨a5,hi5,ha5,hp5,hc5,_⟩:=h56.elem hiY
 obtain rfl:a5=a4:=by rw[ha]at ha5;exact(Option.some.inj ha5).symm
 rw[eLY]at hc5
 have rY:=h56.r.hv i hiY hi5
 rw[eLY]at rY
 have lessbl:∀q∈bl,q∈((sl a46,v.hv++ds)::bl):=λq hq=>List.mem_cons_of_mem _ hq
 refine JoinP.unit (λw57=>∃S',Step S w w57 S'/\SAt K A w57 g S' bl (if p.fin=false/\0 < v.want - ds.length then setW x i Y else if(v.hv++ds).length < v.out then ready x i Y else done W K.step (dropW x i) v.tag v.c (v.hv++ds))) (λj hj=>?_) (λw57 ⟨S',st,h'⟩=>k w57 S' st h')
 have hj:∀w57 S',Step S w w57 S'->SAt K A w57 g S' bl (if p.fin=false/\0 < v.want - ds.length then setW x i Y else if(v.hv++ds).length < v.out then ready x i Y else done W K.step (dropW x i) v.tag v.c (v.hv++ds))->j w57:=λw57 S' a b=>hj _ ⟨S',a,b⟩
 refine JoinP.bool (λb ww=>ww=w56/\(b=true↔p.fin=false/\0 < v.want - ds.length)) (λj1 hj1=>?_) ?_
 ·refine⟨_,b56.cell 1,cond_intro (λq=>⟨_,hc5 11 (by omega),hj1 _ _ ⟨rfl,?_⟩⟩) (λq=>hj1 _ _ ⟨rfl,?_⟩)⟩
  ·simp only[Bool.not_eq_true']at q
   simp only[decide_eq_true_eq,q,yw]
   constructor
   ·intro hh;exact⟨trivial,by omega⟩
   ·rintro⟨_,hh⟩;omega
  ·simp only[Bool.not_eq_false']at q
   simp [q]
 rintro b60 w60 ⟨rfl,hb60⟩
 refine cond_intro (λq=>?_) (λq=>?_)
 ·refine hj w60 S5 stA ?_
  rw[if_pos (hb60.1 q)]
  exact h56.at.less lessbl
 rw[if_neg (λhh=>by rw[hb60.2 hh]at q;cases q)]at hj
 refine nm λw61 e61=>?_
 have g61:=drE e61
 have h61:=h56.grow g61
 have b61:=b56.grow g61
 obtain⟨a6,hi6,ha6,hp6,hc6,_⟩:=h61.elem hiY
 obtain rfl:a6=a5:=by rw[ha]at ha6;exact(Option.some.inj ha6).symm
 rw[eLY]at hc6
 have r61:=rY.grow g61
 refine⟨_,hc6 9 (by omega),_,RdB.len r61,_,hc6 10 (by omega),nm λw65 e65=>?_⟩
 obtain rfl:w65=w61:=e65.trans e61.symm
 rw[yh,yo]
 refine cond_intro (λq2=>?_) (λq2=>?_)
 ·have q2:(v.hv++ds).length < v.out:=by simp only[decide_eq_true_eq]at q2;omega
  rw[if_pos q2]at hj
  have er:ready (setW x i Y) i Y=ready x i Y:=by simp [ready,setW,List.set_set]
  refine ready_c h61 hiY ha (by rw[eLY,yt];exact hvo.tag) (by rw[eLY,yo];exact hvo.out) (by rw[eLY,yo,yh];omega) hs.bu hs.exp (by show x.o.length<=_;omega) λw67 S' st h'=>⟨rfl,?_⟩
  rw[eLY,er]at h'
  exact hj w67 S' ((stA.then (Step.of_grow g61)).then st) (h'.less lessbl)
 ·have q2:¬(v.hv++ds).length < v.out:=by simp only[decide_eq_false_iff_not]at q2;omega
  rw[if_neg q2]at hj
  refine⟨_,_,_,_,_,_,_,_,_,_,_,_,EW_ld hc6,nm λw80 e80=>?_⟩
  obtain⟨b80,g80,s80⟩:=alE e80
  refine⟨b80.row rfl rfl,nm λw81 e81=>?_⟩
  obtain⟨b81,t81⟩:=rowE b80 e81 rfl
  have g81:Grow w65 w81:=Below.turn g80 t81 (Nat.le_refl _)
  have h81:=h61.grow g81
  refine withAddr_some ?_
  refine drop_c h81.at hiY λw87 S' st hS' h'=>?_
  have nb:¬S5 w65.heap.size:=λhq=>by have:=h61.r.lt _ hq;omega
  have b87:=b81.stepS st nb
  have hl8:ldCells w87 (Addr.add ⟨w65.heap.size,0,none⟩ 1) 8 (rCm Y.c nilV):=⟨rfl,λn hn=>by
   rw[add_add,b87.cell]
   have:n=0\/n=1\/n=2\/n=3\/n=4\/n=5\/n=6\/n=7:=by omega
   rcases this with rfl|rfl|rfl|rfl|rfl|rfl|rfl|rfl<;>rfl⟩
  refine⟨_,b87.cell 0,_,_,_,_,_,_,_,_,hl8,_,b87.cell 9,?_⟩
  have e9:(hs'.set i a46)[i]'hi6=a46:=by simp
  have ed:dropW (setW x i Y) i=dropW x i:=by simp [dropW,setW,List.eraseIdx_set_eq]
  rw[ed]at h'
  have hm9:(sl a46,v.hv++ds)∈((sl a46,v.hv++ds)::bl):=List.mem_cons_self ..
  have r87:=h'.byt hm9
  show Zs _ #[_,.int .u32 Y.tag,.agg (rCm Y.c nilV),sl ((hs'.set i a46)[i]'hi6)] _ _
  rw[e9,yt,yc]
  refine done_c HW h' r87 (by simp only[List.length_append];omega) hvo.d hvo.tag hs.exp hs.sn ho hs.md (λc' hc'=>hok' c' hc') λw99 S'' st'' h''=>⟨rfl,?_⟩
  exact hj w99 S'' (((stA.then (Step.of_grow (g61.then g81))).then st).then st'') (h''.less lessbl)
structure TkOk (W:Wire) (K:Doer) (x:St K.U) (p:Pd) (ds:List UInt8):Prop where
 cmd:p.op=1->(W.cmd p.cdb).2=0->∀c',(W.out (W.cmd p.cdb).1=0->full W (W.cmd p.cdb).1 []=some c'->K.Ok x.u x.s.p.nm c')/\(ds.length=W.out (W.cmd p.cdb).1->full W (W.cmd p.cdb).1 ds=some c'->K.Ok x.u x.s.p.nm c')
 dat:p.op=5->∀i v,posOf x.s.L p.tag=some i->x.s.L[i]? =some v->∀c',full W v.c (v.hv++ds)=some c'->K.Ok x.u x.s.p.nm c'
 man:p.op=2->p.fl=5->K.Ok x.u x.s.p.nm reset
theorem take_c (HW:WireOk W) {x:St K.U} {p:Pd} {dv:Value} {ds:List UInt8} (h:SAt K A w g S bl x) (hm:(dv,ds)∈bl) (hf:PdFits p) (hk:okP p=true) (hl:ds.length<=4096) (hs:SOk x.s) (ho:x.o.length<=900000000)
 (hok:TkOk W K x p ds) {R:KV}
 (k:∀w' S',Step S w w' S'->SAt K A w' g S' bl (take W K.step x p ds)->R (.tuple #[]) w'):Zs 60 #[zA g,vP p dv] w R:=by
 apply q166W
 have hS:∀q,w.heap.size<=q->¬ S q:=λq hq hs=>by have:=h.lt q hs;omega
 have hd:=h.byt hm
 refine nm λw0 e0=>?_
 obtain⟨b0',g0,s0⟩:=alE e0
 have b0:BK w0 w.heap.size (rP p dv) tP:=b0'
 have h0:=h.grow g0
 unfold take at k
 refine⟨_,b0.cell 0,?_⟩
 refine JoinP.unit (λw2=>∃S',Step S w w2 S'/\SAt K A w2 g S' bl (take W K.step x p ds)) (λj hj=>?_) (λw2 ⟨S',st,h'⟩=>k w2 S' st (by unfold take at h';exact h'))
 have hj:∀w2 S',Step S w w2 S'->SAt K A w2 g S' bl (take W K.step x p ds)->j w2:=λw2 S' a b=>hj _ ⟨S',a,b⟩
 clear k
 unfold take at hj
 refine cond_intro (λe1=>?_) (λe1=>?_)
 ·have e1:p.op=1:=by simpa using e1
  rw[if_pos e1]at hj
  refine nm λw4 e4=>?_
  have g4:=drE e4
  obtain⟨κ,gr,acl,rv,lv,tv,hs',FU,hn⟩:=h0.grow g4
  have b4:=b0.grow g4
  refine⟨_,b4.cell 5,withAddr_some ⟨_,hn.b.cell 10,nm λw8 e8=>?_⟩⟩
  obtain rfl:w8=w4:=e8.trans e4.symm
  refine cond_intro (λe=>?_) (λe=>?_)
  ·have e:p.sn=x.s.exp:=by simpa using e
   rw[if_pos e]at hj
   refine withAddr_some ⟨_,hn.b.cell 10,withAddr_some ⟨st1_at hn.b (by show 10 < 14;omega),nm λw12 e12=>?_⟩⟩
   obtain⟨h12,s12⟩:=hn.set (s':={x.s with exp:=m32 (x.s.exp+1)}) e12 rfl rfl rfl
   have t12:=(setE hn.b e12).2
   have b12:=b4.turn t12 (λe=>hS _ (Nat.le_refl _) (e▸hn.r.g.1))
   refine⟨_,_,_,_,_,_,_,_,_,_,_,_,_,_,_,_,_,_,_,_,_,_,_,_,_,_,_,b12.ld rfl,?_⟩
   refine command_c HW h12.at hm hf hl ⟨fits_m32 _,hs.sn,hs.md,hs.bu,hs.L,hs.len⟩ ho (hok.cmd e1) λw41 S' st h'=>⟨rfl,?_⟩
   exact hj w41 S' (((Step.of_grow (g0.then g4)).then s12).then st) h'
  ·have e:p.sn≠x.s.exp:=by simpa using e
   rw[if_neg e]at hj
   exact hj w8 S (Step.of_grow (g0.then g4)) hn.at
 have e1:p.op≠1:=by simpa using e1
 rw[if_neg e1]at hj
 refine cond_intro (λe5=>?_) (λe5=>?_)
 ·have e5:p.op=5:=by simpa using e5
  rw[if_pos e5]at hj
  refine⟨_,_,_,_,_,_,_,_,_,_,_,_,_,_,_,_,_,_,_,_,_,_,_,_,_,_,_,b0.ld rfl,data_c HW h0 hm hf hk hl hs ho (hok.dat e5) λw70 S' st h'=>⟨rfl,hj w70 S' ((Step.of_grow g0).then st) h'⟩⟩
 have e5:p.op≠5:=by simpa using e5
 rw[if_neg e5]at hj
 have nS0:∀{wz:World},Grow w wz->∀q,wz.heap.size<=q->¬ S q:=λgz q hq=>hS q (Nat.le_trans gz.size hq)
 refine cond_intro (λe2=>?_) (λe2=>?_)
 ·have e2:p.op=0:=by simpa using e2
  rw[if_pos e2]at hj
  refine nm λw71 e71=>?_
  have g71:=drE e71
  have b71:=b0.grow g71
  refine⟨_,b71.cell 4,_,b71.cell 26,oneK_of (Rd.isOne hd) (nm λw74 e74=>?_)⟩
  obtain rfl:w74=w71:=e74.trans e71.symm
  refine sayer_c λw76 g76 ba bb s76=>⟨⟨_,(b71.grow g76).cell 4,rfl⟩,⟨_,(b71.grow g76).cell 26,rfl⟩,?_⟩
  have gA:=g0.then g71
  have hP:PdFits {zP with tag:=p.tag}:=⟨(by decide:Fits .i64 0),(by decide:Fits .i64 0),(by decide:Fits .i64 0),hf.tag,(by decide:Fits .u32 0),(by decide:Fits .u32 0),(by decide:Fits .u32 0),(by decide:Fits .u32 0),(by decide:Fits .u32 0)⟩
  refine sayN_c (p:={zP with tag:=p.tag}) ((h0.grow g71).grow g76) hP (by decide) (hd.grow (gA.then g76)) hs.exp hs.sn (by omega) ba bb (nS0 gA _ (Nat.le_refl _)) (nS0 gA _ (by omega)) λw80 S' st h'=>⟨rfl,hj w80 S' ((Step.of_grow (gA.then g76)).then st) h'⟩
 have e2:p.op≠0:=by simpa using e2
 rw[if_neg e2]at hj
 refine cond_intro (λe3=>?_) (λe3=>?_)
 ·have e3:p.op=2:=by simpa using e3
  rw[if_pos e3]at hj
  exact⟨_,_,_,_,_,_,_,_,_,_,_,_,_,_,_,_,_,_,_,_,_,_,_,_,_,_,_,b0.ld rfl,manage_c HW h0 hf (hd.grow g0) hs.exp hs.sn (by omega) (hok.man e3) λw109 S' st h'=>⟨rfl,hj w109 S' ((Step.of_grow g0).then st) h'⟩⟩
 have e3:p.op≠2:=by simpa using e3
 rw[if_neg e3]at hj
 refine cond_intro (λe6=>?_) (λe6=>?_)
 ·have e6:p.op=6:=by simpa using e6
  rw[if_pos e6]at hj
  refine nm λw110 e110=>?_
  have g110:=drE e110
  have b110:=b0.grow g110
  refine⟨_,b110.cell 4,nm λw112 e112=>?_⟩
  obtain rfl:w112=w110:=e112.trans e110.symm
  refine sayer_c λw114 g114 ba bb s114=>⟨⟨_,(b110.grow g114).cell 4,rfl⟩,?_⟩
  have gA:=g0.then g110
  have hP:PdFits {zP with tag:=p.tag}:=⟨(by decide:Fits .i64 0),(by decide:Fits .i64 0),(by decide:Fits .i64 0),hf.tag,(by decide:Fits .u32 0),(by decide:Fits .u32 0),(by decide:Fits .u32 0),(by decide:Fits .u32 0),(by decide:Fits .u32 0)⟩
  refine sayN_c (p:={zP with tag:=p.tag}) (dv:=nilV) (ds:=[]) ((h0.grow g110).grow g114) hP (by decide) (Rd.nil _) hs.exp hs.sn (by omega) ba bb (nS0 gA _ (Nat.le_refl _)) (nS0 gA _ (by omega)) λw117 S' st h'=>⟨rfl,?_⟩
  exact close_c h' λw119 S2 st2 h2=>⟨rfl,hj w119 S2 (((Step.of_grow (gA.then g114)).then st).then st2) h2⟩
 have e6:p.op≠6:=by simpa using e6
 rw[if_neg e6]at hj
 exact⟨_,_,_,_,_,_,_,_,_,_,_,_,_,_,_,_,_,_,_,_,_,_,_,_,_,_,_,b0.ld rfl,reject_c h0 hf hk hl (hd.grow g0) hs.exp (by omega) λw148 S' st h'=>⟨rfl,hj w148 S' ((Step.of_grow g0).then st) h'⟩⟩
end Go.Proofs.YtdpmhkbhlbfbeaaGreatDoor.Ses
end
section
namespace Go.Proofs.YtdpmhkbhlbfbeaaGreatDoor.Ses
open CW RowKit Pdu
variable {W:Wire} {K:Doer} {w w':World} {κ:Col} {S :Fp} {g gr:Nat} {acl rv lv tv:Value} {hs:List Sl} {FU:Fp} {A:List (List UInt8)} {bl:List (Value×List UInt8)}
theorem least {P:Nat->Prop} (h:∃n,P n):∃n,P n/\∀m,P m->n<=m:=by
 obtain⟨n,hn⟩:=h
 induction n using Nat.strongRecOn with
 |_ n ih=>
  by_cases hm:∃m,m < n/\P m
  ·obtain⟨m,hl,hp⟩:=hm
   exact ih m hl hp
  ·exact⟨n,hn,λm hp=>Nat.le_of_not_lt λhl=>hm ⟨m,hl,hp⟩⟩
open Classical in
theorem LoopP.rank {round:(World->Prop)->World->Prop} {start:(World->Prop)->Prop} (J:Nat->World->Prop) (hs:start (λw=>∃n,J n w)) (hr:∀n w (L:World->Prop),J n w->(∀w' n',n' < n->J n' w'->L w')->round L w):LoopP [] round start:=by
 refine⟨λw=>∃n,J n w,λw=>if h:∃n,J n w then Classical.choose (least h)else 0,hs,λm w=>?_⟩
 rintro⟨hi,hm⟩
 have hm:(if h:∃n,J n w then Classical.choose (least h)else 0)=m:=hm
 rw[dif_pos hi]at hm
 have hj:=(Classical.choose_spec (least hi)).1
 rw[hm]at hj
 refine hr m w _ hj λw' n' hl hj'=>⟨⟨n',hj'⟩,?_⟩
 show(if h:∃n,J n w' then Classical.choose (least h)else 0) < m
 rw[dif_pos ⟨n',hj'⟩]
 exact Nat.lt_of_le_of_lt ((Classical.choose_spec (least (⟨n',hj'⟩:∃n,J n w'))).2 n' hj') hl
theorem put_c {x:St K.U} {src:Value} {bs:List UInt8} (h:SAt K A w g S bl x) (hre:x.s.re=0) (hr:RdB w src bs) (hl:x.s.rd.length+bs.length<=1000000000) {R:KV}
 (k:∀w' S',Step S w w' S'->SAt K A w' g S' bl ({x with s:={x.s with rd:=x.s.rd++bs}}:St K.U)->R (.tuple #[]) w'):
 ∃(o5:Option Addr),w.cell? (Addr.add ⟨g,0,none⟩ 2)=some (.pointer o5)/\Zs 56 #[.pointer o5,src] w R:=by
 obtain⟨κ,gr,acl,rv,lv,tv,hs,FU,h⟩:=h
 have hb:=h.r.rb
 rw[hre]at hb
 refine⟨_,h.b.cell 2,Put_f hb h.r.ro hr (by omega) λv' w' st b' o'=>?_⟩
 have st':Step (Pt S κ 3) w w' (λq=>q=gr\/v'.ownBlock=some q):=st.imp (λq hq=>hq.elim (λe=>e▸h.r.rg) (h.r.rc q)) (λq hq=>(st.fp q hq).imp (λz=>z.elim (λe=>e▸h.r.rg) (h.r.rc q)) id)
 have r:=h.r.row (re':=0) st' (λq hq=>hq.elim (λe=>e▸b'.lt) (λe=>o'.ltS q e)) b' o' (λq hq=>.inr hq)
 refine k w' _ (Step.whole h.r.lt st') ⟨reC κ w 3,gr,acl,v',lv,tv,hs,FU,⟨h.b.stepS st' (λhh=>h.r.g.ne (by decide) hh),?_⟩⟩
 show Rest K w' (reC κ w 3) (reS S λq=>q=gr\/v'.ownBlock=some q) g gr acl v' lv tv hs FU A bl x.s.L (x.s.rd++bs) x.s.re x.o x.u
 rw[hre];exact r
theorem next_c {x:St K.U} (h:SAt K A w g S bl x) (hre:x.s.re=0) (hl:x.s.rd.length<=1000000000) {R:KV}
 (k:∀dv w' S',Step S w w' S'->SAt K A w' g S' ((dv,decDs x.s.rd)::bl) ({x with s:={x.s with rd:=nxB x.s.rd,re:=nxE x.s.rd}}:St K.U)->R (.tuple #[vP (if decE x.s.rd=0 then pdOf x.s.rd else zP) dv,.bool (decide (decE x.s.rd=0))]) w'):
 ∃(o5:Option Addr),w.cell? (Addr.add ⟨g,0,none⟩ 2)=some (.pointer o5)/\Zs 57 #[.pointer o5] w R:=by
 obtain⟨κ,gr,acl,rv,lv,tv,hs,FU,h⟩:=h
 have hb:=h.r.rb
 rw[hre]at hb
 refine⟨_,h.b.cell 2,Next_f hb h.r.ro (by omega) λv' dv w' st b' o' hv' rd' nd hne=>?_⟩
 have st':Step (Pt S κ 3) w w' (λq=>q=gr\/v'.ownBlock=some q):=⟨st.os,st.tape,st.output,st.size,λq hq hs=>st.block q hq (λe=>hs (e▸h.r.rg)),λq hq=>hq.elim (λe=>.inl (e▸h.r.rg)) (λe=>hv'.elim (λe'=>.inl (h.r.rc q (e'▸e))) (λe'=>.inr (e' q e)))⟩
 have r:=h.r.row (re':=nxE x.s.rd) st' (λq hq=>hq.elim (λe=>e▸b'.lt) (λe=>o'.ltS q e)) b' o' (λq hq=>.inr hq)
 have hS:=Step.whole h.r.lt st'
 have hin:=r.lt
 have hx:∃κ2 S2,Rest K w' κ2 S2 g gr acl v' lv tv hs FU A ((dv,decDs x.s.rd)::bl) x.s.L (nxB x.s.rd) (nxE x.s.rd) x.o x.u/\∀q,S2 q-> S q\/w.heap.size<=q:=by
  refine⟨λq=>if decDs x.s.rd≠[]/\dv.ownBlock=some q then 7 else reC κ w 3 q,λq=>reS S (λq=>q=gr\/v'.ownBlock=some q) q\/(decDs x.s.rd≠[]/\dv.ownBlock=some q),?_,?_⟩
  ·have up:∀{d q:Nat},Pt (reS S (λq=>q=gr\/v'.ownBlock=some q)) (reC κ w 3) d q->Pt (λq=>reS S (λq=>q=gr\/v'.ownBlock=some q) q\/(decDs x.s.rd≠[]/\dv.ownBlock=some q)) (λq=>if decDs x.s.rd≠[]/\dv.ownBlock=some q then 7 else reC κ w 3 q) d q:=by
    intro d q hq
    refine⟨.inl hq.1,?_⟩
    have:¬(decDs x.s.rd≠[]/\dv.ownBlock=some q):=by
     rintro⟨e1,e2⟩
     rcases hS.fp q hq.1 with z|z
     ·have:=nd q e2;have:=h.r.lt q z;omega
     ·rcases hq.1 with z'|z'|z'
      ·have:=nd q e2;have:=h.r.lt q z';omega
      ·have:=nd q e2;have:=h.r.lt q (z'▸h.r.rg.1);omega
      ·exact hne e1 q e2 z'
    simp only[if_neg this];exact hq.2
   exact{lt:=λq hq=>hq.elim (r.lt q) (λz=>Rd.lt rd' (by simpa using z.1) q z.2),g:=up r.g,rb:=r.rb,rg:=up r.rg,ro:=r.ro,rc:=λq hq=>up (r.rc q hq),l:=r.l,lc:=λq hq=>up (r.lc q hq),t:=r.t,tc:=λq hq=>up (r.tc q hq),u:=r.u,uc:=λq hq=>up (r.uc q hq),hl:=r.hl,hv:=r.hv,
         hc:=λi h1 h2 hx q hq=>up (r.hc i h1 h2 hx q hq),ac:=r.ac,acc:=λq hq=>up (r.acc q hq),
         bl:=λq hq=>by
          rcases List.mem_cons.1 hq with rfl|hq
          ·exact⟨rd',λhx q hq=>⟨.inr ⟨hx,hq⟩,by simp only[if_pos (⟨hx,hq⟩:decDs x.s.rd≠[]/\dv.ownBlock=some q)]⟩⟩
          ·exact⟨(r.bl q hq).1,λhx q' hq'=>up ((r.bl q hq).2 hx q' hq')⟩}
  ·rintro q (hq|⟨_,hq⟩)
   ·exact hS.fp q hq
   ·exact .inr (nd q hq)
 obtain⟨κ2,S2,r2,hf2⟩:=hx
 exact k dv w' S2 ⟨hS.os,hS.tape,hS.output,hS.size,hS.block,hf2⟩ ⟨κ2,gr,acl,v',lv,tv,hs,FU,⟨h.b.stepS st' (λhh=>h.r.g.ne (by decide) hh),r2⟩⟩
theorem SIn.untold {x:St K.U} (h:SIn K w κ S g gr acl rv lv tv hs FU A bl x) (e:w'=World.setCell w (Addr.add ⟨g,0,none⟩ 13) nilV):
 SAt K A w' g (λq=> S q/\tv.ownBlock≠some q) bl ({x with o:=[]}:St K.U)/\Turn g w w':=by
 obtain⟨b,t⟩:=Go.CW.setE h.b e
 have r:=h.r.turn t
 have up:∀{d q:Nat},d≠5->Pt S κ d q->Pt (λq=> S q/\tv.ownBlock≠some q) κ d q:=λhd hq=>⟨⟨hq.1,λz=>hd (hq.2.symm.trans (r.tc _ z).2)⟩,hq.2⟩
 exact⟨⟨κ,gr,acl,rv,lv,nilV,hs,FU,⟨b,{lt:=λq hq=>r.lt q hq.1,g:=up (by decide) r.g,rb:=r.rb,rg:=up (by decide) r.rg,ro:=r.ro,rc:=λq hq=>up (by decide) (r.rc q hq),l:=r.l,lc:=λq hq=>up (by decide) (r.lc q hq),t:=Own.nil _ _ _,tc:=λq hq=>(by cases hq),u:=r.u,uc:=λq hq=>up (by decide) (r.uc q hq),hl:=r.hl,hv:=r.hv,hc:=λi h1 h2 hx q hq=>up (by decide) (r.hc i h1 h2 hx q hq),ac:=r.ac,acc:=λq hq=>up (by decide) (r.acc q hq),bl:=λq hq=>⟨(r.bl q hq).1,λhx q' hq'=>up (by decide) ((r.bl q hq).2 hx q' hq')⟩}⟩⟩,t⟩
def LogOk (Q:World->Prop) (K:Doer) (A:List (List UInt8)) (lg:St K.U->Pd->List UInt8->St K.U) (x:St K.U) (p:Pd) (ds:List UInt8):Prop:=
 ∀{w:World} {g:Nat} {S :Fp} {dv:Value} {R:KV},Q w->SAt K A w g S [(dv,ds)] x->(∀w' S',Step S w w' S'->SAt K A w' g S' [(dv,ds)] (lg x p ds)->R (.tuple #[]) w')->
  Zs 61 #[zA g,vP p dv] w R
def off1 {U:Type} (x:St U):St U:={x with s:={x.s with rd:=x.s.rd.drop (decN x.s.rd).toNat}}
structure NxOk (Q:World->Prop) (W:Wire) (K:Doer) (A:List (List UInt8)) (lg:St K.U->Pd->List UInt8->St K.U) (x:St K.U):Prop where
 re:x.s.re=0
 o:x.o.length<=900000000
 tk:decE x.s.rd=0->x.s.op=true->SOk x.s/\TkOk W K (off1 x) (pdOf x.s.rd) (decD x.s.rd)
 lo:decE x.s.rd=0->x.s.op=false->LogOk Q K A lg (off1 x) (pdOf x.s.rd) (decD x.s.rd)
 rd:decE x.s.rd=0->(one W K.step lg (off1 x) (pdOf x.s.rd) (decD x.s.rd)).s.cl=false->(one W K.step lg (off1 x) (pdOf x.s.rd) (decD x.s.rd)).s.rd=(off1 x).s.rd
def Along (W:Wire) (K:Doer) (lg:St K.U->Pd->List UInt8->St K.U) (P:St K.U->Prop):Nat->St K.U->Prop
 |0,x=>True
 |n+1,x=>P x/\(decE x.s.rd=0->(one W K.step lg (off1 x) (pdOf x.s.rd) (decD x.s.rd)).s.cl=false->Along W K lg P n (one W K.step lg (off1 x) (pdOf x.s.rd) (decD x.s.rd)))
theorem loop_succ {U:Type} (W:Wire) (du:U->List UInt8->Cm->Rp×U) (lg:St U->Pd->List UInt8->St U) (n:Nat) (x:St U):
 loop W du lg (n+1) x=if decE x.s.rd=0 then(if(one W du lg (off1 x) (pdOf x.s.rd) (decD x.s.rd)).s.cl then one W du lg (off1 x) (pdOf x.s.rd) (decD x.s.rd)else loop W du lg n (one W du lg (off1 x) (pdOf x.s.rd) (decD x.s.rd)))else if decE x.s.rd=3 then x else clos x:=rfl
theorem In_c (HW:WireOk W) {Q:World->Prop} {lg:St K.U->Pd->List UInt8->St K.U} {x:St K.U} {src:Value} {bs:List UInt8} (h:SAt K A w g S [] x) (hr:RdB w src bs) (hQ:∀w' S',Step S w w' S'->Q w') (hro:bs≠[]->∀q,src.ownBlock=some q->¬ S q) (hl:x.s.rd.length+bs.length<=1000000)
 (hre:x.s.cl=false->x.s.re=0) (hal:x.s.cl=false->Along W K lg (NxOk Q W K A lg) (x.s.rd.length+bs.length+1) {x with s:={x.s with rd:=x.s.rd++bs},o:=[]}) {R:KV}
 (k:∀v w' S',Step S w w' S'->SAt K A w' g S' [] ({inp W K.step lg x bs with o:=[]}:St K.U)->RdB w' v (inp W K.step lg x bs).o->(∀q,v.ownBlock=some q->(S q\/w.heap.size<=q)/\¬S' q)->R v w'):
 Zs 30 #[zA g,src] w R:=by
 apply q151W
 have hself:=h.self
 have hin:=h.lt
 obtain⟨κ,gr,acl,rv,lv,tv,hs,FU,h⟩:=h
 refine withAddr_some ⟨st1_at h.b (by show 13 < 14;omega),nm λw1 e1=>withAddr_some ?_⟩
 obtain⟨h1,t1⟩:=h.untold e1
 have st1:Step S w w1 (λq=> S q/\tv.ownBlock≠some q):=(t1.step hself).imp (λ_ h=>h) (λq hq=>.inl hq.1)
 have r1:RdB w1 src bs:=Rd.turnX hr t1 (λhx e=>hro (λe=>hx (by rw[e];rfl)) _ e hself)
 have hu:inp W K.step lg x bs=if x.s.cl then{x with o:=[]} else loop W K.step lg (x.s.rd.length+bs.length+1) {x with s:={x.s with rd:=x.s.rd++bs},o:=[]}:=rfl
 generalize hF:inp W K.step lg x bs=F at *
 obtain⟨gr1,acl1,lv1,tv1,hb1⟩:=h1.cells
 refine⟨_,hb1.cell 9,cond_intro (λhc=>?_) (λhc=>?_)⟩
 ·have hc:x.s.cl=true:=hc
  rw[if_pos hc]at hu
  subst hu
  exact k nilV w1 _ st1 h1 (Rd.nil _) (λq hq=>by cases hq)
 have hc:x.s.cl=false:=hc
 rw[if_neg (by rw[hc];simp)]at hu
 have hre:=hre hc
 have hal:=hal hc
 refine withAddr_some (put_c h1 hre r1 (by show x.s.rd.length+bs.length<=_;omega) λw7 S7 st7 h7=>⟨rfl,?_⟩)
 have st07:=st1.then st7
 refine JoinP.unit (λw8=>∃S',Step S w w8 S'/\SAt K A w8 g S' [] F) (λj hj=>?_) ?_
 ·have hj:∀w8 S',Step S w w8 S'->SAt K A w8 g S' [] F->j w8:=λw8 S' a b=>hj _ ⟨S',a,b⟩
  refine LoopP.rank (λn ww=>∃S' y,Step S w ww S'/\SAt K A ww g S' [] y/\y.s.cl=false/\y.s.rd.length < n/\loop W K.step lg n y=F/\Along W K lg (NxOk Q W K A lg) n y/\y.s.rd.length<=1000000) ⟨x.s.rd.length+bs.length+1,S7,_,st07,h7,hc,by show(x.s.rd++bs).length < _;simp,hu.symm,hal,by show(x.s.rd++bs).length<=_;simp;omega⟩ ?_
  rintro n ww L ⟨S',y,st,hy,hcl,hlen,hloop,hal,hlen2⟩ hL
  cases n with
  |zero=>omega
  |succ n=>
   obtain⟨nx,hal⟩:=hal
   rw[loop_succ]at hloop
   refine withAddr_some (next_c hy nx.re (by omega) λdv w21 S2 st2 h2=>⟨_,_,_,_,_,_,_,_,_,_,_,_,_,_,_,_,_,_,_,_,_,_,_,_,_,_,_,_,rfl,nm λw50 e50=>?_⟩)
   obtain⟨b50,g50,s50⟩:=alE e50
   have h2:SAt K A w21 g S2 [(dv,decDs y.s.rd)] ({y with s:={y.s with rd:=nxB y.s.rd,re:=nxE y.s.rd}}:St K.U):=h2
   have rdv:=h2.byt (List.mem_cons_self ..)
   refine⟨b50.row rfl (one_rP (Rd.isOne rdv)),nm λw51 e51=>?_⟩
   obtain⟨b51,t51⟩:=rowE b50 e51 rfl
   have h51:=(h2.grow g50).turn t51 (λhq=>by have:=h2.lt _ hq;omega)
   have st51:Step S w w51 S2:=by
    have m:Md S2 w21.heap.size w21 w51:=((Md.refl S2 w21.heap.size w21).grow g50).turn t51 (.inr (Nat.le_refl _))
    exact(st.then st2).then m.out
   have bp:BK w51 w21.heap.size (rP (if decE y.s.rd=0 then pdOf y.s.rd else zP) dv) tP:=b51
   clear e50 e51 b50 b51
   refine JoinP.unit (λw52=>∃S3 z,Step S w w52 S3/\SAt K A w52 g S3 [] z/\(z.s.cl=true->z=F)/\(z.s.cl=false->z.s.rd.length < n/\loop W K.step lg n z=F/\Along W K lg (NxOk Q W K A lg) n z/\z.s.rd.length<=1000000)) (λj1 hj1=>?_) ?_
   ·by_cases h5:decE y.s.rd=0
    ·rw[decide_eq_true h5]
     rw[if_pos h5]at hloop
     obtain⟨d1,d2⟩:=decN_le h5
     have eB:nxB y.s.rd=y.s.rd.drop (decN y.s.rd).toNat:=by unfold nxB;rw[if_pos h5]
     have eE:nxE y.s.rd=y.s.re:=by unfold nxE;rw[if_pos (.inl h5),nx.re]
     have eD:decDs y.s.rd=decD y.s.rd:=by unfold decDs;rw[if_pos h5]
     have ey:({y with s:={y.s with rd:=nxB y.s.rd,re:=nxE y.s.rd}}:St K.U)=off1 y:=by rw[eB,eE];rfl
     rw[ey,eD]at h51
     have epd:(if decE y.s.rd=0 then pdOf y.s.rd else zP)=pdOf y.s.rd:=if_pos h5
     rw[epd]at bp
     obtain⟨k1,k2,k3⟩:=okP_dec h5
     have fin:∀w95 S3,Step S2 w51 w95 S3->SAt K A w95 g S3 [(dv,decD y.s.rd)] (one W K.step lg (off1 y) (pdOf y.s.rd) (decD y.s.rd))->j1 w95:=by
      intro w95 S3 st3 h3
      refine hj1 _ ⟨S3,_,st51.then st3,h3.less (λq hq=>by cases hq),λe=>?_,λe=>?_⟩
      ·rw[if_pos e]at hloop;exact hloop
      ·rw[if_neg (by rw[e];simp)]at hloop
       have er:=nx.rd h5 e
       have el:(one W K.step lg (off1 y) (pdOf y.s.rd) (decD y.s.rd)).s.rd.length=y.s.rd.length - (decN y.s.rd).toNat:=by rw[er];show(y.s.rd.drop _).length=_;rw[List.length_drop]
       exact⟨by omega,hloop,hal h5 e,by omega⟩
     refine cond_f rfl (withAddr_some ?_)
     obtain⟨gr5,acl5,lv5,tv5,hb5⟩:=h51.cells
     refine⟨_,hb5.cell 8,cond_intro (λho=>?_) (λho=>?_)⟩
     ·have ho:y.s.op=true:=ho
      obtain⟨s1,s2⟩:=nx.tk h5 ho
      refine⟨_,_,_,_,_,_,_,_,_,_,_,_,_,_,_,_,_,_,_,_,_,_,_,_,_,_,_,bp.ld rfl,take_c HW h51 (List.mem_cons_self ..) k2 k1 k3 ⟨s1.exp,s1.sn,s1.md,s1.bu,s1.L,s1.len⟩ nx.o s2 λw95 S3 st3 h3=>⟨rfl,fin w95 S3 st3 ?_⟩⟩
      have:one W K.step lg (off1 y) (pdOf y.s.rd) (decD y.s.rd)=take W K.step (off1 y) (pdOf y.s.rd) (decD y.s.rd):=by unfold one;rw[if_pos (by exact ho)]
      rw[this];exact h3
     ·have ho:y.s.op=false:=ho
      refine⟨_,_,_,_,_,_,_,_,_,_,_,_,_,_,_,_,_,_,_,_,_,_,_,_,_,_,_,bp.ld rfl,nx.lo h5 ho (hQ _ _ st51) h51 λw95 S3 st3 h3=>⟨rfl,fin w95 S3 st3 ?_⟩⟩
      have:one W K.step lg (off1 y) (pdOf y.s.rd) (decD y.s.rd)=lg (off1 y) (pdOf y.s.rd) (decD y.s.rd):=by unfold one;rw[if_neg (by show ¬y.s.op=true;rw[ho];simp)]
      rw[this];exact h3
    ·rw[decide_eq_false h5]
     rw[if_neg h5]at hloop
     refine cond_t rfl (JoinP.go (withAddr_some ?_))
     obtain⟨κ5,gr5,acl5,rv5,lv5,tv5,hs5,FU5,h5'⟩:=h51
     refine⟨_,h5'.b.cell 2,Err_f h5'.r.rb ⟨_,rfl,cond_intro (λhe=>?_) (λhe=>?_)⟩⟩
     ·have he:nxE y.s.rd≠0:=by simpa using he
      have h3:decE y.s.rd≠3:=λe=>he (by unfold nxE;rw[if_pos (.inr e)])
      rw[if_neg h3]at hloop
      refine close_c h5'.at λw64 S6 st6 h6=>⟨rfl,hj w64 S6 (st51.then st6) ?_⟩
      rw[←hloop]
      exact h6.less (λq hq=>by cases hq)
     ·have he:nxE y.s.rd=0:=by simpa using he
      have h3:decE y.s.rd=3:=by
       unfold nxE at he
       split at he
       ·next hh=>exact hh.resolve_left h5
       ·exact absurd he h5
      rw[if_pos h3]at hloop
      refine hj w51 S2 st51 ?_
      have eB:nxB y.s.rd=y.s.rd:=by unfold nxB;rw[if_neg h5,if_pos h3]
      have ey:({y with s:={y.s with rd:=nxB y.s.rd,re:=nxE y.s.rd}}:St K.U)=y:=by
       rw[eB,he,←nx.re]
      have:=h5'.at
      rw[ey,hloop]at this
      exact this.less (λq hq=>by cases hq)
   ·rintro w52 ⟨S3,z,st3,h3,c1,c2⟩
    obtain⟨gr5,acl5,lv5,tv5,hb5⟩:=h3.cells
    refine withAddr_some ⟨_,hb5.cell 9,cond_intro (λe=>?_) (λe=>?_)⟩
    ·rw[c1 e]at h3
     exact hj w52 S3 st3 h3
    ·obtain⟨q1,q2,q3,q4⟩:=c2 e
     exact hL w52 n (Nat.lt_succ_self n) ⟨S3,z,st3,h3,e,q1,q2,q3,q4⟩
 ·rintro w8 ⟨S8,st8,h8⟩
  obtain⟨κ8,gr8,acl8,rv8,lv8,tv8,hs8,FU8,h8⟩:=h8
  refine withAddr_some ⟨_,h8.b.cell 13,slices_Clip_c h8.r.t.rd λv11 r11 e11=>withAddr_some ⟨st1_at h8.b (by show 13 < 14;omega),nm λw14 e14=>?_⟩⟩
  obtain⟨h14,t14⟩:=h8.untold e14
  have hne:=own_ne h8.r.t h8.b (by decide)
  refine k v11 w14 _ (st8.then ((t14.step h8.r.g.1).imp (λ_ h=>h) (λq hq=>.inl hq.1))) h14 (Rd.turn r11 t14 (by rw[e11];exact hne)) (λq hq=>?_)
  rw[e11]at hq
  exact⟨st8.fp q (h8.r.tc q hq).1,λhh=>hh.2 hq⟩
end Go.Proofs.YtdpmhkbhlbfbeaaGreatDoor.Ses
end
