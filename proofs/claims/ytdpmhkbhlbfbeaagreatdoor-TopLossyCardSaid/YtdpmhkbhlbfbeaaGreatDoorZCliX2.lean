/- A part of the proof. -/
import Derived.Test.YtdpmhkbhlbfbeaaGreatDoorZCliX1
set_option linter.unusedSimpArgs false
set_option linter.unusedVariables false
set_option maxRecDepth 100000
section
namespace Go.Proofs.YtdpmhkbhlbfbeaaGreatDoor.Cli
open CW RowKit Pdu Ses
variable {w w':World} {κ:Col} {S :Fp} {g gr:Nat} {rv lv tv dv:Value} {hs:List Sl3} {ds:List Sl} {bl:List (Value×List UInt8)} {v:Value}
theorem cdb16 {v:Value} {l:List UInt8} (hr:RdB w v l) (hl:l.length=16):∃x,(∀w':World,Sem.run Tryz.prog (Instr.arrayAt 118 v) w'= .ok (.pointer (some x)) w')/\
 ∀w',Grow w w'->ldCells w' x 16 #[.int .u8 (bn (l.getD 0 0)),.int .u8 (bn (l.getD 1 0)),.int .u8 (bn (l.getD 2 0)),.int .u8 (bn (l.getD 3 0)),.int .u8 (bn (l.getD 4 0)),.int .u8 (bn (l.getD 5 0)),.int .u8 (bn (l.getD 6 0)),.int .u8 (bn (l.getD 7 0)),.int .u8 (bn (l.getD 8 0)),.int .u8 (bn (l.getD 9 0)),.int .u8 (bn (l.getD 10 0)),.int .u8 (bn (l.getD 11 0)),.int .u8 (bn (l.getD 12 0)),.int .u8 (bn (l.getD 13 0)),.int .u8 (bn (l.getD 14 0)),.int .u8 (bn (l.getD 15 0))]:=by
 obtain⟨a,cap,rfl,h1,h2,h3,h4⟩:=hr
 rw[List.length_map]at h1
 obtain⟨x,rfl,_⟩:=h4 0 (b8 (l.getD 0 0)) (by rw[List.getElem?_map,List.getElem?_eq_getElem (by omega)];simp [List.getD_eq_getElem?_getD,List.getElem?_eq_getElem (show 0 < l.length by omega)])
 refine⟨x,λw'=>run_arrayAt w' 118 tb 16 (some x) _ cap (by kernel_rfl) (by simp;omega),λw' gw=>⟨rfl,λi hi=>?_⟩⟩
 obtain⟨y,hy,hc⟩:=h4 i (b8 (l.getD i 0)) (by rw[List.getElem?_map,List.getElem?_eq_getElem (by omega)];simp [List.getD_eq_getElem?_getD,List.getElem?_eq_getElem (show i < l.length by omega)])
 cases hy
 rw[(gw.cell (World.block_lt_of_cell? _ _ hc)).trans hc]
 have:i=0\/i=1\/i=2\/i=3\/i=4\/i=5\/i=6\/i=7\/i=8\/i=9\/i=10\/i=11\/i=12\/i=13\/i=14\/i=15:=by omega
 rcases this with rfl|rfl|rfl|rfl|rfl|rfl|rfl|rfl|rfl|rfl|rfl|rfl|rfl|rfl|rfl|rfl<;>rfl
def send1 (c:Cl) (i:Nat) (a:Ak):Cl:={tell c (cdbP {zP with op:=1,fin:=true,tag:=a.tag,sn:=c.sn} a.cdb) (if c.p.im then a.d else[])with sn:=m32 (c.sn+1),L:=c.L.set i {a with sent:=true}}
theorem send_succ (c:Cl) (i n:Nat):send c i (n+1)=match c.L[i]? with
 |none=>c
 |some a=>if a.sent then send c (i+1) n else if gap c.sn c.mx < 0 then c else send (send1 c i a) (i+1) n:=rfl
theorem COk.send1 {c:Cl} {i:Nat} {a:Ak} (ok:COk c) (ha:c.L[i]? =some a) (hs:c.say.length<=800000000):COk (send1 c i a):=by
 have hi:=(List.getElem?_eq_some_iff.1 ha).1
 have hm:a∈c.L:=List.mem_of_getElem? ha
 refine⟨fits_m32 _,ok.mx,ok.md,λb hb=>?_,by show(c.L.set i _).length<=_;rw[List.length_set];exact ok.len,?_,ok.done⟩
 ·rcases List.mem_or_eq_of_mem_set hb with hb|rfl
  ·exact ok.L b hb
  ·exact⟨(ok.L a hm).tag,(ok.L a hm).d,(ok.L a hm).cdb⟩
 ·show(c.say++_).length<=_
  rw[List.length_append]
  refine Nat.le_trans (Nat.add_le_add_left (encQ_length _ _) _) ?_
  omega
theorem send_c {c:Cl} (h:CAt w g S bl c) (ok:COk c) (hsay:c.say.length<=1000000) {R:KV}
 (k:∀w' S',Step S w w' S'->CAt w' g S' bl (send c 0 c.L.length)->R (.tuple #[]) w'):Zs 49 #[zA g] w R:=by
 apply q32W
 have hl0:=ok.len
 have hin:∃lv,w.cell? (Addr.add ⟨g,0,none⟩ 14)=some lv/\sliceLen lv=some c.L.length:=by
  obtain⟨κ,gr,rv,lv,tv,dv,hs,ds,hn⟩:=h
  refine⟨lv,hn.b.cell 14,?_⟩
  rw[hn.r.l.rd.len];simp [hn.r.hl]
 obtain⟨lv0,hc0,hlen0⟩:=hin
 refine withAddr_some ⟨lv0,hc0,_,hlen0,?_⟩
 obtain⟨F,hF⟩:∃F,F=send c 0 c.L.length:=⟨_,rfl⟩
 rw[←hF]at k
 refine JoinP.unit (λw3=>∃S',Step S w w3 S'/\CAt w3 g S' bl F) (λj hj=>?_) (λw3 ⟨S',st,h'⟩=>k w3 S' st h')
 have hj:∀w3 S',Step S w w3 S'->CAt w3 g S' bl F->j w3:=λw3 S' a b=>hj _ ⟨S',a,b⟩
 refine⟨λ(i:Int) (ww:World)=>0<=i/\i<=c.L.length/\∃S' y,Step S w ww S'/\CAt ww g S' bl y/\COk y/\y.L.length=c.L.length/\y.say.length<=1000000+5000*i.toNat/\send y i.toNat (c.L.length - i.toNat)=F,λ(i:Int) (_:World)=>(c.L.length - i).toNat,⟨by omega,by omega, S,c,Step.refl _ _,h,ok,rfl,by simpa using hsay,by simpa using hF.symm⟩,?_⟩
 dsimp only[allR,mapR2,eqN,ltN]
 rintro m i ww ⟨⟨h0,h1,S',y,st,hy,oky,hyl,hys,hsend⟩,hm⟩
 refine cond_intro (λhp=>?_) (λhp=>?_)
 ·have hp:i < (c.L.length:Int):=of_decide_eq_true hp
  obtain⟨i,rfl⟩:=Int.eq_ofNat_of_zero_le h0
  rw[Int.toNat_natCast]at hys hsend
  have hi:i < y.L.length:=by omega
  have e1:c.L.length - i=(c.L.length - (i+1))+1:=by omega
  have eL:y.L[i]? =some y.L[i]:=List.getElem?_eq_getElem hi
  rw[e1,send_succ,eL]at hsend
  simp only at hsend
  refine JoinP.unit (λw8=>∃S' y,Step S w w8 S'/\CAt w8 g S' bl y/\COk y/\y.L.length=c.L.length/\y.say.length<=1000000+5000*(i+1)/\send y (i+1) (c.L.length - (i+1))=F) (λj1 hj1=>?_) ?_
  ·obtain⟨κ,gr,rv,lv,tv,dv,hs,ds,hn⟩:=hy
   obtain⟨ad,hi',had,hpt,hc,_⟩:=hn.elem hi
   have hA:=hn.r.hv i hi hi'
   have ako:=oky.L y.L[i] (List.getElem_mem hi)
   refine withAddr_some ⟨lv,hn.b.cell 14,ad,had,_,hc 4 (by omega),cond_intro (λes=>?_) (λes=>?_)⟩
   ·have es:y.L[i].sent=true:=es
    rw[if_pos es]at hsend
    exact hj1 _ ⟨S',y,st,hn.at,oky,hyl,by omega,hsend⟩
   have es:y.L[i].sent=false:=es
   rw[if_neg (by rw[es];simp)]at hsend
   refine nm λw14 e14=>?_
   have g14:=drE e14
   have h14:=hn.grow g14
   refine withAddr_some ⟨_,h14.b.cell 11,withAddr_some ⟨_,h14.b.cell 12,nm λw19 e19=>?_⟩⟩
   obtain rfl:w19=w14:=e19.trans e14.symm
   refine Gap_c ⟨_,rfl,cond_intro (λeg=>?_) (λeg=>?_)⟩
   ·have eg:gap y.sn y.mx < 0:=of_decide_eq_true eg
    rw[if_pos eg]at hsend
    rw[hsend]at hn
    exact hj _ S' (st.then (Step.of_grow g14)) (hn.grow g14).at
   have eg:¬gap y.sn y.mx < 0:=of_decide_eq_false eg
   rw[if_neg eg]at hsend
   refine nm λw23 e23=>?_
   have g23:=drE e23
   have h23:=h14.grow g23
   obtain⟨ad2,_,had2,_,hc2,_⟩:=h23.elem hi
   obtain rfl:ad2=ad:=by rw[had]at had2;exact(Option.some.inj had2).symm
   have rc:=hA.c.1.grow (g14.then g23)
   obtain⟨x,hx,hld⟩:=cdb16 rc ako.cdb
   refine⟨_,hc2 0 (by omega),withAddr_some ⟨_,h23.b.cell 11,_,hc2 1 (by omega),_,hx _,withAddr_some ⟨_,_,_,_,_,_,_,_,_,_,_,_,_,_,_,_,hld _ (Grow.refl _),nm λw46 e46=>?_⟩⟩⟩
   obtain rfl:w46=w23:=e46.trans e23.symm
   obtain⟨b68,g68,s68⟩:=alE (w:=w46) (cs:=rP zP nilV) (t:=tP) rfl
   have h68:=h23.grow g68
   obtain⟨ad3,_,had3,_,hc3,_⟩:=h68.elem hi
   obtain rfl:ad3=ad2:=by rw[had]at had3;exact(Option.some.inj had3).symm
   refine⟨⟨_,hc3 0 (by omega),rfl⟩,⟨_,h68.b.cell 11,rfl⟩,⟨_,hc3 1 (by omega),rfl⟩,⟨_,hx _,rfl⟩,withAddr_some ⟨_,_,_,_,_,_,_,_,_,_,_,_,_,_,_,_,hld _ g68,rfl⟩,nm λw68 e68=>nm λw69 e69=>?_⟩
   obtain rfl:w69=w68:=e69.trans e68.symm
   have e69:w69=World.alloc w46 (.cells (rP zP nilV) tP):=e69
   rw[←e69]at b68 g68 h68 hc3
   refine⟨b68.row rfl rfl,nm λw70 e70=>nm λw71 e71=>?_⟩
   obtain rfl:w71=w70:=e71.trans e70.symm
   obtain⟨b71',t71⟩:=rowE b68 e71 rfl
   obtain⟨P,hP⟩:∃P:Pd,P=cdbP {zP with op:=1,fin:=true,tag:=y.L[i].tag,sn:=y.sn} y.L[i].cdb:=⟨_,rfl⟩
   have b71:BK w71 w46.heap.size (rP P nilV) tP:=by rw[hP];exact b71'
   have nS:¬S' w46.heap.size:=λhh=>by have:=h23.r.lt _ hh;omega
   have h71:=h68.turn t71 nS
   have fP:PdFits P:=by rw[hP];exact⟨(by decide:Fits .i64 1),(by decide:Fits .i64 0),(by decide:Fits .i64 0),ako.tag,oky.sn,(by decide:Fits .u32 0),(by decide:Fits .u32 0),(by decide:Fits .u32 0),(by decide:Fits .u32 0)⟩
   have st71:Step S' w19 w71 S':=by
    have m:Md S' w19.heap.size w19 w71:=(((Md.refl S' w19.heap.size w19).grow g23).grow g68).turn t71 (.inr g23.size)
    exact m.out
   clear e14 e19 e23 e46 e68 e69 e70 e71
   refine JoinP.unit (λw72=>∃pv,BK w72 w46.heap.size (rP P pv) tP/\RdB w72 pv (if y.p.im then y.L[i].d else[])/\CIn w72 κ S' g gr rv lv tv dv hs ds bl y/\Step S' w19 w72 S') (λj2 hj2=>?_) ?_
   ·obtain⟨ad4,_,had4,_,hc4,_⟩:=h71.elem hi
    obtain rfl:ad4=ad3:=by rw[had]at had4;exact(Option.some.inj had4).symm
    refine withAddr_some ⟨_,by rw[add_add];exact h71.b.cell 3,cond_intro (λei=>?_) (λei=>?_)⟩
    ·have ei:y.p.im=true:=ei
     have hA71:=h71.r.hv i hi hi'
     refine⟨_,hc4 2 (by omega),oneK_of rfl ⟨st1_at b71 (by show 26 < 27;omega),nm λw111 e111=>?_⟩⟩
     obtain⟨b111,t111⟩:=Go.CW.setE b71 e111
     have h111:=h71.turn t111 nS
     have m:Step S' w19 w111 S':=by
      have m:Md S' w19.heap.size w19 w111:=(Md.stp (Md.refl S' w19.heap.size w19) st71 (λq hq=>.inl hq) (λq hq=>.inl (.inl hq))).turn t111 (.inr g23.size)
      exact m.out
     exact hj2 _ ⟨_,b111,by rw[if_pos ei];exact(h111.r.hv i hi hi').d.1,h111,m⟩
    ·have ei:y.p.im=false:=ei
     exact hj2 _ ⟨nilV,b71,by rw[if_neg (by rw[ei];simp)];exact Rd.nil _,h71,st71⟩
   ·rintro w72 ⟨pv,b72,r72,h72,st72⟩
    have hoS:y.say.length<=800000000:=by omega
    refine⟨_,_,_,_,_,_,_,_,_,_,_,_,_,_,_,_,_,_,_,_,_,_,_,_,_,_,_,b72.ld rfl,tell_i h72 fP r72 (by omega) λw101 κ3 S3 tv3 st3 h3=>⟨rfl,?_⟩⟩
    refine withAddr_some ⟨_,h3.b.cell 11,withAddr_some ⟨st1_at h3.b (by show 11 < 17;omega),nm λw105 e105=>?_⟩⟩
    obtain⟨h5,s5⟩:=h3.set (c':={tell y P (if y.p.im then y.L[i].d else[])with sn:=m32 (y.sn+1)}) e105 rfl
    obtain⟨ad6,hi6,had6,hpt6,hc6,hst6⟩:=h5.elem (i:=i) hi
    obtain rfl:ad6=ad3:=by rw[had]at had6;exact(Option.some.inj had6).symm
    refine⟨(hst6 4 (by omega)).1,nm λw106 e106=>?_⟩
    have hso:=(hst6 4 (by omega)).2 (.bool true) {y.L[i]with sent:=true} hs[i] rfl
    rw[←e106,List.set_getElem_self]at hso
    obtain⟨κ7,S7,h7,st7,hS7⟩:=h5.setA (by rw[add_block];exact hpt6) e106 hso (by show hs.length=(y.L.set i _).length;simp [hn.r.hl]) (λj h1 h2=>by
     have hj:=h5.r.hv j (by simpa using h1) h2
     by_cases hij:i=j
     ·subst hij
      simp only[List.getElem_set_self]
      exact⟨hj.c,hj.d,hj.h,hj.n⟩
     ·rw[List.getElem_set_ne hij];exact hj)
    have e7:({({tell y P (if y.p.im then y.L[i].d else[])with sn:=m32 (y.sn+1)}:Cl)with L:=(({tell y P (if y.p.im then y.L[i].d else[])with sn:=m32 (y.sn+1)}:Cl).L).set i {y.L[i]with sent:=true}}:Cl)=send1 y i y.L[i]:=by rw[hP];rfl
    rw[e7]at h7
    refine hj1 _ ⟨S7,_,((((st.then (Step.of_grow g14)).then st72).then st3).then s5).then st7,h7.at,oky.send1 eL hoS,by show(y.L.set i _).length=_;rw[List.length_set];exact hyl,?_,hsend⟩
    show(y.say++_).length<=_
    rw[List.length_append]
    refine Nat.le_trans (Nat.add_le_add_left (encQ_length _ _) _) ?_
    omega
  ·rintro w8 ⟨S2,y2,st2,h2,ok2,hyl2,hys2,hsend2⟩
   rw[wi64_id (by omega) (by omega)]
   refine⟨⟨by omega,by omega,S2,y2,st2,h2,ok2,hyl2,?_,?_⟩,by omega⟩
   ·have:((i:Int)+1).toNat=i+1:=by omega
    rw[this];exact hys2
   ·have:((i:Int)+1).toNat=i+1:=by omega
    rw[this];exact hsend2
 ·have hp:¬i < (c.L.length:Int):=of_decide_eq_false hp
  have e:c.L.length - i.toNat=0:=by omega
  rw[e]at hsend
  have hsend:y=F:=hsend
  rw[hsend]at hy
  exact hj ww S' st hy
end Go.Proofs.YtdpmhkbhlbfbeaaGreatDoor.Cli
end
section
namespace Go.Proofs.YtdpmhkbhlbfbeaaGreatDoor.Cli
open CW RowKit Pdu Ses
variable {w w':World} {κ:Col} {S :Fp} {g gr:Nat} {rv lv tv dv:Value} {hs:List Sl3} {ds:List Sl} {bl:List (Value×List UInt8)} {v:Value} {bs:List UInt8}
theorem clipR {α:Type} {E:Enc α} {v:Value} {L:List α} (h:RdR E w v L):∃v',subSlice v E.s none (some (.int .i64 (L.length:Int))) (some (.int .i64 (L.length:Int)))=some v'/\RdR E w v' L/\v'.ownBlock=v.ownBlock:=by
 obtain⟨a,cap,rfl,h1,h2,h3,h4⟩:=h
 have h0:(0:Int)<=(L.length:Int):=by omega
 have e:(L.length:Int)<=cap:=by omega
 refine⟨.slice a L.length L.length,?_,⟨a,L.length,rfl,Nat.le_refl _,by omega,λhh=>by have:=h3 hh;omega,h4⟩,by cases a<;>rfl⟩
 simp only[subSlice,boundsOf,boundOf,h0,e,and_self,if_true,Int.toNat_natCast,Int.le_refl,Nat.sub_zero]
 split
 ·rfl
 ·cases a<;>simp [add_zero]
theorem Rest.nodone {L:List Ak} {rd o:List UInt8} {re:Int} {D:List (Int×Rp)} (h:Rest w κ S g gr rv lv tv dv hs ds bl L rd re o D):Rest w κ S g gr rv lv tv nilV hs [] bl L rd re o []:=
 ⟨h.lt,h.g,h.rb,h.rg,h.ro,h.rc,h.l,h.lc,h.t,h.tc,OwnR.nil _ _ _,λk hk=>(by cases hk),h.hl,rfl,h.hv,λi hi=>absurd hi (Nat.not_lt_zero _),h.bl⟩
def DnAt (w:World) (S :Fp) (v:Value) (D:List (Int×Rp)):Prop:=
 ∃ds:List Sl,ds.length=D.length/\RdR ED w v (D.zip ds)/\(∀q,v.ownBlock=some q-> S q)/\∀(i:Nat) (h:i < D.length) (h':i < ds.length),RdB w (sl ds[i]) D[i].2.d/\(D[i].2.d≠[]->∀q,(sl ds[i]).ownBlock=some q-> S q)
theorem Done_c {c:Cl} (h:CAt w g S bl c) {R:KV} (k:∀v w',Step S w w' S ->CAt w' g S bl {c with done:=[]}->DnAt w' S v c.done->R v w'):Zs 10 #[zA g] w R:=by
 obtain⟨κ,gr,rv,lv,tv,dv,hs,ds,h⟩:=h
 apply q21W
 refine withAddr_some ⟨dv,h.b.cell 16,?_⟩
 apply q122W
 have hrd:=h.r.d.rd
 have hlen:=hrd.len
 obtain⟨v2,hs2,r2,e2⟩:=clipR hrd
 refine⟨_,hlen,_,hlen,v2,hs2,withAddr_some ⟨st1_at h.b (by show 16 < 17;omega),nm λw5 e5=>?_⟩⟩
 obtain⟨b5,t5⟩:=Go.CW.setE h.b e5
 have r5:=h.r.turn t5
 have st5:Step (λk=>k=g) w w5 (λk=>k=g):=t5.step rfl
 have ne:∀q,Pt S κ 6 q->q≠g:=λq hq e=>by
  have:=hq.2
  rw[e,h.r.g.2]at this;cases this
 refine k v2 w5 (t5.step h.r.g.1) ⟨κ,gr,rv,lv,tv,nilV,hs,[],⟨b5,r5.nodone⟩⟩ ⟨ds,h.r.dl,RdR.stepS r2 st5 (λq hq=>ne q (h.r.dc q (e2▸hq))),λq hq=>(h.r.dc q (e2▸hq)).1,λi h1 h2=>⟨(r5.db i h1 h2).1,λhx q hq=>((r5.db i h1 h2).2 hx q hq).1⟩⟩
def newC (p:Prm):Cl:=⟨p,[],0,false,false,false,0,0,0,[],[],[]⟩
theorem New_c {p:Prm} {R:KV} (k:∀g w' S',Step (λ_=>False) w w' S'->w.heap.size<=g->CAt w' g S' [] (newC p)->R (zA g) w'):
 Zs 16 #[.agg #[.string (textOf p.nm),.int .i64 (p.md:Int),.int .i64 (p.bu:Int),.bool p.im,.bool p.dg]] w R:=by
 apply q35W
 refine nm λw0 e0=>?_
 obtain⟨b0,g0,s0⟩:=alE e0
 refine nm λw1 e1=>?_
 have g1:=drE e1
 have b1:=b0.grow g1
 refine⟨_,_,_,_,_,b1.ld rfl,nm λw7 e7=>?_⟩
 obtain rfl:w7=w1:=e7.trans e1.symm
 refine NewReader_f λw9 g9 s9 b9=>⟨_,rfl,⟨_,_,_,_,_,(b1.grow g9).ld rfl,rfl⟩,nm λw16 e16=>nm λw17 e17=>?_⟩
 obtain rfl:w17=w16:=e17.trans e16.symm
 obtain⟨b17,g17,s17⟩:=alE e17
 have gA:=g0.then (g1.then (g9.then g17))
 have z7:w.heap.size<=w7.heap.size:=(g0.then g1).size
 have z9:w9.heap.size=w7.heap.size+1:=s9
 refine k w9.heap.size w17 (λq=>q=w9.heap.size\/q=w7.heap.size) ⟨gA.os,gA.tape,gA.output,gA.size,λq hq _=>gA.block q hq,λq hq=>.inr (by omega)⟩ (by omega)
  ⟨λq=>if q=w9.heap.size then 1 else 3,w7.heap.size,nilV,nilV,nilV,nilV,[],[],⟨b17,?_⟩⟩
 have b9':=b9.grow g17
 exact⟨λq hq=>by rcases hq with rfl|rfl<;>omega,⟨.inl rfl,by simp⟩,b9',⟨.inr rfl,by simp;omega⟩,Own.nil _ _ _,λq hq=>(by cases hq),OwnR.nil _ _ _,λq hq=>(by cases hq),Own.nil _ _ _,λq hq=>(by cases hq),OwnR.nil _ _ _,λq hq=>(by cases hq),rfl,rfl,λi hi=>absurd hi (Nat.not_lt_zero _),λi hi=>absurd hi (Nat.not_lt_zero _),λq hq=>(by cases hq)⟩
theorem put_c {c:Cl} {src:Value} {bs:List UInt8} (h:CAt w g S bl c) (hre:c.re=0) (hr:RdB w src bs) (hl:c.rd.length+bs.length<=1000000000) {R:KV}
 (k:∀w' S',Step S w w' S'->CAt w' g S' bl {c with rd:=c.rd++bs}->R (.tuple #[]) w'):
 ∃(o5:Option Addr),w.cell? (Addr.add ⟨g,0,none⟩ 5)=some (.pointer o5)/\Zs 56 #[.pointer o5,src] w R:=by
 obtain⟨κ,gr,rv,lv,tv,dv,hs,ds,h⟩:=h
 have hb:=h.r.rb
 rw[hre]at hb
 refine⟨_,h.b.cell 5,Put_f hb h.r.ro hr (by omega) λv' w' st b' o'=>?_⟩
 have st':Step (Pt S κ 3) w w' (λq=>q=gr\/v'.ownBlock=some q):=st.imp (λq hq=>hq.elim (λe=>e▸h.r.rg) (h.r.rc q)) (λq hq=>(st.fp q hq).imp (λz=>z.elim (λe=>e▸h.r.rg) (h.r.rc q)) id)
 have r:=h.r.row (re':=0) st' (λq hq=>hq.elim (λe=>e▸b'.lt) (λe=>o'.ltS q e)) b' o' (λq hq=>.inr hq)
 refine k w' _ (Step.whole h.r.lt st') ⟨reC κ w 3,gr,v',lv,tv,dv,hs,ds,⟨h.b.stepS st' (λhh=>h.r.g.ne (by decide) hh),?_⟩⟩
 show Rest w' (reC κ w 3) (reS S λq=>q=gr\/v'.ownBlock=some q) g gr v' lv tv dv hs ds bl c.L (c.rd++bs) c.re c.say c.done
 rw[hre];exact r
theorem next_c {c:Cl} (h:CAt w g S bl c) (hre:c.re=0) (hl:c.rd.length<=1000000000) {R:KV}
 (k:∀pv w' S',Step S w w' S'->CAt w' g S' ((pv,decDs c.rd)::bl) {c with rd:=nxB c.rd,re:=nxE c.rd}->R (.tuple #[vP (if decE c.rd=0 then pdOf c.rd else zP) pv,.bool (decide (decE c.rd=0))]) w'):
 ∃(o5:Option Addr),w.cell? (Addr.add ⟨g,0,none⟩ 5)=some (.pointer o5)/\Zs 57 #[.pointer o5] w R:=by
 obtain⟨κ,gr,rv,lv,tv,dv,hs,ds,h⟩:=h
 have hb:=h.r.rb
 rw[hre]at hb
 refine⟨_,h.b.cell 5,Next_f hb h.r.ro (by omega) λv' pv w' st b' o' hv' rd' nd hne=>?_⟩
 have st':Step (Pt S κ 3) w w' (λq=>q=gr\/v'.ownBlock=some q):=⟨st.os,st.tape,st.output,st.size,λq hq hs=>st.block q hq (λe=>hs (e▸h.r.rg)),λq hq=>hq.elim (λe=>.inl (e▸h.r.rg)) (λe=>hv'.elim (λe'=>.inl (h.r.rc q (e'▸e))) (λe'=>.inr (e' q e)))⟩
 have r:=h.r.row (re':=nxE c.rd) st' (λq hq=>hq.elim (λe=>e▸b'.lt) (λe=>o'.ltS q e)) b' o' (λq hq=>.inr hq)
 have hS:=Step.whole h.r.lt st'
 obtain⟨S1,hS1⟩:∃S1,S1=reS S (λq=>q=gr\/v'.ownBlock=some q):=⟨_,rfl⟩
 rw[←hS1]at r hS
 have hx:∃κ2 S2,Rest w' κ2 S2 g gr v' lv tv dv hs ds ((pv,decDs c.rd)::bl) c.L (nxB c.rd) (nxE c.rd) c.say c.done/\∀q,S2 q-> S q\/w.heap.size<=q:=by
  refine⟨λq=>if decDs c.rd≠[]/\pv.ownBlock=some q then 7 else reC κ w 3 q,λq=>S1 q\/(decDs c.rd≠[]/\pv.ownBlock=some q),?_,?_⟩
  ·have up:∀{d q:Nat},Pt S1 (reC κ w 3) d q->Pt (λq=>S1 q\/(decDs c.rd≠[]/\pv.ownBlock=some q)) (λq=>if decDs c.rd≠[]/\pv.ownBlock=some q then 7 else reC κ w 3 q) d q:=by
    intro d q hq
    refine⟨.inl hq.1,?_⟩
    have:¬(decDs c.rd≠[]/\pv.ownBlock=some q):=by
     rintro⟨e1,e2⟩
     have n1:=nd q e2
     have h1:=hq.1
     rw[hS1]at h1
     rcases h1 with z'|z'|z'
     ·have:=h.r.lt q z';omega
     ·have:=h.r.lt q (z'▸h.r.rg.1);omega
     ·exact hne e1 q e2 z'
    simp only[if_neg this];exact hq.2
   have upB:∀{v2:Value} {bs2:List UInt8},BlAt w' (reC κ w 3) S1 v2 bs2->BlAt w' (λq=>if decDs c.rd≠[]/\pv.ownBlock=some q then 7 else reC κ w 3 q) (λq=>S1 q\/(decDs c.rd≠[]/\pv.ownBlock=some q)) v2 bs2:=λhb=>⟨hb.1,λhx q hq=>up (hb.2 hx q hq)⟩
   exact⟨λq hq=>hq.elim (r.lt q) (λz=>Rd.lt rd' (by simpa using z.1) q z.2),up r.g,r.rb,up r.rg,r.ro,λq hq=>up (r.rc q hq),r.l,λq hq=>up (r.lc q hq),r.t,λq hq=>up (r.tc q hq),r.d,λq hq=>up (r.dc q hq),r.hl,r.dl,λi h1 h2=>⟨upB (r.hv i h1 h2).c,upB (r.hv i h1 h2).d,upB (r.hv i h1 h2).h,(r.hv i h1 h2).n⟩,λi h1 h2=>upB (r.db i h1 h2),λq hq=>by
    rcases List.mem_cons.1 hq with rfl|hq
    ·exact⟨rd',λhx q hq=>⟨.inr ⟨hx,hq⟩,by simp only[if_pos (⟨hx,hq⟩:decDs c.rd≠[]/\pv.ownBlock=some q)]⟩⟩
    ·exact upB (r.bl q hq)⟩
  ·rintro q (hq|⟨_,hq⟩)
   ·exact hS.fp q hq
   ·exact .inr (nd q hq)
 obtain⟨κ2,S2,r2,hf2⟩:=hx
 exact k pv w' S2 ⟨hS.os,hS.tape,hS.output,hS.size,hS.block,hf2⟩ ⟨κ2,gr,v',lv,tv,dv,hs,ds,⟨h.b.stepS st' (λhh=>h.r.g.ne (by decide) hh),r2⟩⟩
def LogOk (Q:World->Prop) (lg:Cl->Pd->List UInt8->Cl) (c:Cl) (p:Pd) (xs:List UInt8):Prop:=
 ∀{w:World} {g:Nat} {S :Fp} {pv:Value} {R:KV},Q w->CAt w g S [(pv,xs)] c->(∀w' S',Step S w w' S'->CAt w' g S' [(pv,xs)] (lg c p xs)->R (.tuple #[]) w')->
  Zs 91 #[zA g,vP p pv] w R
def off1 (c:Cl):Cl:={c with rd:=c.rd.drop (decN c.rd).toNat}
structure NxOk (Q:World->Prop) (sen:List UInt8->Int×Int×Int×Int) (lg:Cl->Pd->List UInt8->Cl) (c:Cl):Prop where
 re:c.re=0
 tk:decE c.rd=0->c.op=true->COk c/\((pdOf c.rd).op=37->∀i a,posOf c.L (pdOf c.rd).tag=some i->c.L[i]? =some a->(pdOf c.rd).off=(a.hv.length:Int)->a.hv=[]/\decD c.rd≠[])
 lo:decE c.rd=0->c.op=false->LogOk Q lg (off1 c) (pdOf c.rd) (decD c.rd)
 rd:decE c.rd=0->(take sen lg (off1 c) (pdOf c.rd) (decD c.rd)).cl=false->(take sen lg (off1 c) (pdOf c.rd) (decD c.rd)).rd=(off1 c).rd
def Along (sen:List UInt8->Int×Int×Int×Int) (lg:Cl->Pd->List UInt8->Cl) (P:Cl->Prop):Nat->Cl->Prop
 |0,c=>True
 |n+1,c=>c.cl=false->P c/\(decE c.rd=0->Along sen lg P n (take sen lg (off1 c) (pdOf c.rd) (decD c.rd)))
theorem loop_succ (sen:List UInt8->Int×Int×Int×Int) (lg:Cl->Pd->List UInt8->Cl) (n:Nat) (c:Cl):
 loop sen lg (n+1) c=if c.cl then c else if decE c.rd=0 then loop sen lg n (take sen lg (off1 c) (pdOf c.rd) (decD c.rd))else if decE c.rd=3 then c else clos c:=rfl
theorem loop_cl (sen:List UInt8->Int×Int×Int×Int) (lg:Cl->Pd->List UInt8->Cl) (n:Nat) (c:Cl) (h:c.cl=true):loop sen lg n c=c:=by
 cases n with
 |zero=>rfl
 |succ n=>rw[loop_succ,if_pos h]
theorem login_take {Q:World->Prop} {lg:Cl->Pd->List UInt8->Cl} {c:Cl} {p:Pd} {pv:Value} {xs:List UInt8} (h:CAt w g S [(pv,xs)] c) (hop:c.op=false) (hQ:∀w',Grow w w'->Q w') (hlo:LogOk Q lg c p xs) {R:KV}
 (k:∀w' S',Step S w w' S'->CAt w' g S' [(pv,xs)] (lg c p xs)->R (.tuple #[]) w'):Zs 62 #[zA g,vP p pv] w R:=by
 apply q33W
 refine nm λw0 e0=>?_
 obtain⟨b0',g0,s0⟩:=alE e0
 have b0:BK w0 w.heap.size (rP p pv) tP:=b0'
 have h0:=h.grow g0
 obtain⟨gr1,lv1,tv1,dv1,hg⟩:=h0.cells
 refine withAddr_some ⟨_,hg.cell 6,?_⟩
 rw[hop]
 exact cond_t rfl ⟨_,_,_,_,_,_,_,_,_,_,_,_,_,_,_,_,_,_,_,_,_,_,_,_,_,_,_,b0.ld rfl,hlo (hQ _ g0) h0 λw' S' st h'=>⟨rfl,k w' S' ((Step.of_grow g0).then st) h'⟩⟩
theorem In_c {sen:List UInt8->Int×Int×Int×Int} (HS:SenOk sen) {Q:World->Prop} {lg:Cl->Pd->List UInt8->Cl} {c:Cl} {src:Value} {bs:List UInt8} (h:CAt w g S [] c) (hQ:∀w' S',Step S w w' S'->Q w') (hr:RdB w src bs) (hl:c.rd.length+bs.length<=1000000)
 (hre:c.cl=false->c.re=0) (hal:c.cl=false->Along sen lg (NxOk Q sen lg) (c.rd.length+bs.length+1) {c with rd:=c.rd++bs}) {R:KV}
 (k:∀w' S',Step S w w' S'->CAt w' g S' [] (inp sen lg c bs)->R (.tuple #[]) w'):Zs 32 #[zA g,src] w R:=by
 apply q22W
 obtain⟨gr1,lv1,tv1,dv1,hb1⟩:=h.cells
 have hu:inp sen lg c bs=if c.cl then c else loop sen lg (c.rd.length+bs.length+1) {c with rd:=c.rd++bs}:=rfl
 generalize hF:inp sen lg c bs=F at *
 refine withAddr_some ⟨_,hb1.cell 7,cond_intro (λhc=>?_) (λhc=>?_)⟩
 ·have hc:c.cl=true:=hc
  rw[if_pos hc]at hu
  subst hu
  exact k w S (Step.refl _ _) h
 have hc:c.cl=false:=hc
 rw[if_neg (by rw[hc];simp)]at hu
 have hre:=hre hc
 have hal:=hal hc
 refine withAddr_some (put_c h hre hr (by omega) λw5 S5 st5 h5=>⟨rfl,?_⟩)
 refine JoinP.unit (λw6=>∃S',Step S w w6 S'/\CAt w6 g S' [] F) (λj hj=>?_) (λw6 ⟨S',st,h'⟩=>k w6 S' st h')
 have hj:∀w6 S',Step S w w6 S'->CAt w6 g S' [] F->j w6:=λw6 S' a b=>hj _ ⟨S',a,b⟩
 refine Ses.LoopP.rank (λn ww=>∃S' y,Step S w ww S'/\CAt ww g S' [] y/\(y.cl=false->y.rd.length < n/\y.rd.length<=1000000)/\loop sen lg n y=F/\Along sen lg (NxOk Q sen lg) n y) ⟨c.rd.length+bs.length+1,S5,_,st5,h5,λ_=>⟨by show(c.rd++bs).length < _;simp,by show(c.rd++bs).length<=_;simp;omega⟩,hu.symm,hal⟩ ?_
 rintro n ww L ⟨S',y,st,hy,hlen,hloop,hal⟩ hL
 obtain⟨gr2,lv2,tv2,dv2,hb2⟩:=hy.cells
 refine withAddr_some ⟨_,hb2.cell 7,cond_intro (λhcl=>?_) (λhcl=>?_)⟩
 ·simp only[Bool.not_eq_true']at hcl
  obtain⟨hlen,hlen2⟩:=hlen hcl
  cases n with
  |zero=>omega
  |succ n=>
   obtain⟨nx,hal⟩:=hal hcl
   rw[loop_succ,if_neg (by rw[hcl];simp)]at hloop
   refine withAddr_some (next_c hy nx.re (by omega) λpv w15 S2 st2 h2=>⟨_,_,_,_,_,_,_,_,_,_,_,_,_,_,_,_,_,_,_,_,_,_,_,_,_,_,_,_,rfl,nm λw44 e44=>?_⟩)
   obtain⟨b44,g44,s44⟩:=alE e44
   have rdv:=h2.byt (List.mem_cons_self ..)
   refine⟨b44.row rfl (one_rP (Rd.isOne rdv)),nm λw45 e45=>?_⟩
   obtain⟨b45,t45⟩:=rowE b44 e45 rfl
   have h45:=(h2.grow g44).turn t45 (λhq=>by have:=h2.lt _ hq;omega)
   have st45:Step S w w45 S2:=by
    have m:Md S2 w15.heap.size w15 w45:=((Md.refl S2 w15.heap.size w15).grow g44).turn t45 (.inr (Nat.le_refl _))
    exact(st.then st2).then m.out
   have bp:BK w45 w15.heap.size (rP (if decE y.rd=0 then pdOf y.rd else zP) pv) tP:=b45
   clear e44 e45 b44 b45
   refine JoinP.unit (λw46=>∃S',Step S w w46 S'/\CAt w46 g S' [] F) (λj1 hj1=>?_) (λw46 ⟨S',st,h'⟩=>hj w46 S' st h')
   by_cases h5:decE y.rd=0
   ·rw[decide_eq_true h5]
    rw[if_pos h5]at hloop
    obtain⟨d1,d2⟩:=decN_le h5
    have eB:nxB y.rd=y.rd.drop (decN y.rd).toNat:=by unfold nxB;rw[if_pos h5]
    have eE:nxE y.rd=y.re:=by unfold nxE;rw[if_pos (.inl h5),nx.re]
    have eD:decDs y.rd=decD y.rd:=by unfold decDs;rw[if_pos h5]
    have ey:({y with rd:=nxB y.rd,re:=nxE y.rd}:Cl)=off1 y:=by rw[eB,eE];rfl
    rw[ey,eD]at h45
    have epd:(if decE y.rd=0 then pdOf y.rd else zP)=pdOf y.rd:=if_pos h5
    rw[epd]at bp
    obtain⟨k1,k2,k3⟩:=okP_dec h5
    have fin:∀w76 S3,Step S2 w45 w76 S3->CAt w76 g S3 [(pv,decD y.rd)] (take sen lg (off1 y) (pdOf y.rd) (decD y.rd))->L w76:=by
     intro w76 S3 st3 h3
     refine hL w76 n (Nat.lt_succ_self n) ⟨S3,_,st45.then st3,h3.less (λq hq=>by cases hq),λe=>?_,hloop,hal h5⟩
     have er:(take sen lg (off1 y) (pdOf y.rd) (decD y.rd)).rd.length=y.rd.length - (decN y.rd).toNat:=by rw[nx.rd h5 e];show(y.rd.drop _).length=_;rw[List.length_drop]
     exact⟨by omega,by omega⟩
    refine cond_t rfl ⟨_,_,_,_,_,_,_,_,_,_,_,_,_,_,_,_,_,_,_,_,_,_,_,_,_,_,_,bp.ld rfl,?_⟩
    cases ho:y.op with
    |true=>
     obtain⟨s1,s2⟩:=nx.tk h5 ho
     exact take_c HS h45 (List.mem_cons_self ..) k2 k3 ho ⟨s1.sn,s1.mx,s1.md,s1.L,s1.len,s1.say,s1.done⟩ s2 λw76 S3 st3 h3=>⟨rfl,fin w76 S3 st3 h3⟩
    |false=>
     have et:∀x ps,(off1 y).op=false->take sen lg (off1 y) x ps=lg (off1 y) x ps:=λx ps hx=>by unfold take;rw[if_pos hx]
     refine login_take h45 ho (λw' gw=>hQ w' _ (st45.then (Step.of_grow gw))) (nx.lo h5 ho) λw76 S3 st3 h3=>⟨rfl,fin w76 S3 st3 ?_⟩
     rw[et _ _ ho];exact h3
   ·rw[decide_eq_false h5]
    rw[if_neg h5]at hloop
    refine cond_f rfl (withAddr_some ?_)
    obtain⟨κ5,gr5,rv5,lv5,tv5,dv5,hs5,ds5,h5'⟩:=h45
    refine⟨_,h5'.b.cell 5,Err_f h5'.r.rb ⟨_,rfl,cond_intro (λhe=>?_) (λhe=>?_)⟩⟩
    ·have he:nxE y.rd≠0:=by simpa using he
     have h3:decE y.rd≠3:=λe=>he (by unfold nxE;rw[if_pos (.inr e)])
     rw[if_neg h3]at hloop
     refine close_c h5'.at λw64 S6 st6 h6=>⟨rfl,hj1 _ ⟨S6,st45.then st6,?_⟩⟩
     rw[←hloop]
     exact h6.less (λq hq=>by cases hq)
    ·have he:nxE y.rd=0:=by simpa using he
     have h3:decE y.rd=3:=by
      unfold nxE at he
      split at he
      ·next hh=>exact hh.resolve_left h5
      ·exact absurd he h5
     rw[if_pos h3]at hloop
     refine hj1 _ ⟨S2,st45,?_⟩
     have eB:nxB y.rd=y.rd:=by unfold nxB;rw[if_neg h5,if_pos h3]
     have ey:({y with rd:=nxB y.rd,re:=nxE y.rd}:Cl)=y:=by rw[eB,he,←nx.re]
     have:=h5'.at
     rw[ey,hloop]at this
     exact this.less (λq hq=>by cases hq)
 ·simp only[Bool.not_eq_false']at hcl
  rw[loop_cl _ _ _ _ hcl]at hloop
  rw[hloop]at hy
  exact hj ww S' st hy
end Go.Proofs.YtdpmhkbhlbfbeaaGreatDoor.Cli
end
section
namespace Go.Proofs.YtdpmhkbhlbfbeaaGreatDoor.Cli
open CW RowKit Pdu Ses
variable {w w':World} {κ:Col} {S :Fp} {g gr:Nat} {rv lv tv dv:Value} {hs:List Sl3} {ds:List Sl} {bl:List (Value×List UInt8)} {v:Value} {bs:List UInt8}
theorem CIn.untold {c:Cl} (h:CIn w κ S g gr rv lv tv dv hs ds bl c) (e:w'=World.setCell w (Addr.add ⟨g,0,none⟩ 15) nilV):
 CAt w' g (λq=> S q/\tv.ownBlock≠some q) bl {c with say:=[]}/\Turn g w w':=by
 obtain⟨b,t⟩:=Go.CW.setE h.b e
 have r:=h.r.turn t
 have up:∀{d q:Nat},d≠5->Pt S κ d q->Pt (λq=> S q/\tv.ownBlock≠some q) κ d q:=λhd hq=>⟨⟨hq.1,λz=>hd (hq.2.symm.trans (r.tc _ z).2)⟩,hq.2⟩
 have upB:∀{v:Value} {bs:List UInt8},BlAt w' κ S v bs->BlAt w' κ (λq=> S q/\tv.ownBlock≠some q) v bs:=λhb=>⟨hb.1,λhx q hq=>up (by decide) (hb.2 hx q hq)⟩
 exact⟨⟨κ,gr,rv,lv,nilV,dv,hs,ds,⟨b,⟨λq hq=>r.lt q hq.1,up (by decide) r.g,r.rb,up (by decide) r.rg,r.ro,λq hq=>up (by decide) (r.rc q hq),r.l,λq hq=>up (by decide) (r.lc q hq),Own.nil _ _ _,λq hq=>(by cases hq),r.d,λq hq=>up (by decide) (r.dc q hq),r.hl,r.dl,λi h1 h2=>⟨upB (r.hv i h1 h2).c,upB (r.hv i h1 h2).d,upB (r.hv i h1 h2).h,(r.hv i h1 h2).n⟩,λi h1 h2=>upB (r.db i h1 h2),λq hq=>upB (r.bl q hq)⟩⟩⟩,t⟩
abbrev vPrm (p:Prm):Value:=.agg #[.string (textOf p.nm),.int .i64 (p.md:Int),.int .i64 (p.bu:Int),.bool p.im,.bool p.dg]
def AskOk (Q:World->Prop) (lt:Prm->List UInt8) (p:Prm):Prop:=∀{w:World} {R:KV},Q w->(∀v w',Grow w w'->RdB w' v (lt p)->R (.tuple #[v,.int .i64 0]) w')->Zs 46 #[vPrm p] w λv20 w21=>Zs 45 #[v20] w21 R
theorem Out_c {Q:World->Prop} {lt:Prm->List UInt8} {c:Cl} (h:CAt w g S [] c) (hQ:∀w' S',Step S w w' S'->Q w') (ok:c.cl=false->c.op=true->COk c) (hsay:c.say.length<=1000000) (hlt:c.cl=false->c.asked=false->AskOk Q lt c.p/\(lt c.p).length<=4096) {R:KV}
 (k:∀v w' S',Step S w w' S'->CAt w' g S' [] (outC lt c).1->RdB w' v (outC lt c).2->(∀q,v.ownBlock=some q->(S q\/w.heap.size<=q)/\¬S' q)->R v w'):Zs 24 #[zA g] w R:=by
 apply q24W
 have hself:=h.self
 obtain⟨κ,gr,rv,lv,tv,dv,hs,ds,hn⟩:=h
 refine withAddr_some ⟨_,hn.b.cell 7,cond_intro (λhc=>?_) (λhc=>?_)⟩
 ·have hc:c.cl=true:=hc
  have e:outC lt c=(c,[]):=by unfold outC;rw[if_pos hc]
  rw[e]at k
  exact k nilV w S (Step.refl _ _) hn.at (Rd.nil _) (λq hq=>by cases hq)
 have hc:c.cl=false:=hc
 obtain⟨x,hx⟩:∃x:Cl,x=if c.asked=false then tell {c with asked:=true} {zP with op:=3,fin:=true,sn:=1} (lt c.p)else if c.op then send c 0 c.L.length else c:=⟨_,rfl⟩
 have e:outC lt c=({x with say:=[]},x.say):=by unfold outC;rw[if_neg (by rw[hc];simp),hx]
 rw[e]at k
 refine JoinP.unit (λw2=>∃S',Step S w w2 S'/\CAt w2 g S' [] x) (λj hj=>?_) ?_
 ·have hj:∀w2 S',Step S w w2 S'->CAt w2 g S' [] x->j w2:=λw2 S' a b=>hj _ ⟨S',a,b⟩
  refine withAddr_some ⟨_,hn.b.cell 8,cond_intro (λha=>?_) (λha=>?_)⟩
  ·simp only[Bool.not_eq_true']at ha
   rw[if_pos ha]at hx
   obtain⟨hl1,hl2⟩:=hlt hc ha
   refine withAddr_some ⟨st1_at hn.b (by show 8 < 17;omega),nm λw13 e13=>withAddr_some ?_⟩
   obtain⟨h13,s13⟩:=hn.set (c':={c with asked:=true}) e13 rfl
   refine⟨_,_,_,_,_,?_,hl1 (hQ _ _ s13) λv24 w23 g23 r23=>⟨v24,_,rfl,cond_f rfl (oneK_of (Rd.isOne r23) ?_)⟩⟩
   ·exact⟨rfl,λi hi=>by
     rw[add_add,Nat.zero_add,h13.b.cell]
     have:i=0\/i=1\/i=2\/i=3\/i=4:=by omega
     rcases this with rfl|rfl|rfl|rfl|rfl<;>rfl⟩
   ·refine tell_c (p:={zP with op:=3,fin:=true,sn:=1}) (h13.grow g23).at ⟨(by decide:Fits .i64 3),(by decide:Fits .i64 0),(by decide:Fits .i64 0),(by decide:Fits .u32 0),(by decide:Fits .u32 1),(by decide:Fits .u32 0),(by decide:Fits .u32 0),(by decide:Fits .u32 0),(by decide:Fits .u32 0)⟩ r23 (by show c.say.length<=_;omega) λw29 S' st h'=>⟨rfl,hj w29 S' ((s13.then (Step.of_grow g23)).then st) (by rw[hx];exact h')⟩
  ·simp only[Bool.not_eq_false']at ha
   rw[if_neg (by rw[ha];simp)]at hx
   refine withAddr_some ⟨_,hn.b.cell 6,cond_intro (λho=>?_) (λho=>?_)⟩
   ·have ho:c.op=true:=ho
    rw[if_pos ho]at hx
    refine send_c hn.at (ok hc ho) hsay λw33 S' st h'=>⟨rfl,?_⟩
    obtain⟨gr3,lv3,tv3,dv3,hg3⟩:=h'.cells
    refine JoinP.bool (λb w=>b=false/\w=w33) (λj1 hj1=>withAddr_some ⟨_,hg3.cell 9,cond_f rfl (hj1 _ _ ⟨rfl,rfl⟩)⟩) ?_
    rintro b w35 ⟨rfl,rfl⟩
    exact cond_f rfl (hj _ S' st (by rw[hx];exact h'))
   ·have ho:c.op=false:=ho
    rw[if_neg (by rw[ho];simp)]at hx
    exact hj w S (Step.refl _ _) (by rw[hx];exact hn.at)
 ·rintro w2 ⟨S2,st2,h2⟩
  obtain⟨κ2,gr2,rv2,lv2,tv2,dv2,hs2,ds2,h2⟩:=h2
  refine withAddr_some ⟨_,h2.b.cell 15,slices_Clip_c h2.r.t.rd λv5 r5 e5=>withAddr_some ⟨st1_at h2.b (by show 15 < 17;omega),nm λw8 e8=>?_⟩⟩
  obtain⟨h8,t8⟩:=h2.untold e8
  have hne:=own_ne h2.r.t h2.b (by decide)
  refine k v5 w8 _ (st2.then ((t8.step h2.r.g.1).imp (λ_ h=>h) (λq hq=>.inl hq.1))) h8 (Rd.turn r5 t8 (by rw[e5];exact hne)) (λq hq=>?_)
  rw[e5]at hq
  exact⟨st2.fp q (h2.r.tc q hq).1,λhh=>hh.2 hq⟩
def EncOk (cm:Cm) (cb:List UInt8):Prop:=∀{w:World} {dv:Value} {R:KV},isOne dv=true->(∀v w',Grow w w'->RdB w' v cb->NewV w v->R (.tuple #[v,.int .i64 0]) w')->Zs 22 #[.agg (rCm cm dv)] w R
def DatOk (cm:Cm) (xs:List UInt8):Prop:=∀{w:World} {dv:Value} {R:KV},RdB w dv cm.d->(∀v w',Grow w w'->RdB w' v xs->NewV w v->R (.tuple #[v,.bool true]) w')->Zs 23 #[.agg (rCm cm dv)] w R
theorem Do_c {cm:Cm} {cb xs:List UInt8} {c:Cl} {dv:Value} (h:CAt w g S [] c) (hc:c.cl=false) (hd:RdB w dv cm.d) (he:EncOk cm cb) (hx:DatOk cm xs) (hlen:c.L.length < 16) {R:KV}
 (k:∀w' S',Step S w w' S'->CAt w' g S' [] (ask c cb xs)->R (.tuple #[.int .u32 (m32 (c.tag+1)),.int .i64 0]) w'):Zs 7 #[zA g,.agg (rCm cm dv)] w R:=by
 apply q20W
 have hS:∀q,w.heap.size<=q->¬ S q:=λq hq hs=>by have:=h.lt q hs;omega
 refine nm λw0 e0=>?_
 obtain⟨b0',g0,s0⟩:=alE e0
 have b0:BK w0 w.heap.size (rCm cm dv) tCm:=b0'
 refine⟨_,_,_,_,_,_,_,_,b0.ld rfl,he (Rd.isOne hd) λv11 w10 g10 r11 n11=>⟨_,_,rfl,_,_,_,_,_,_,_,_,(b0.grow g10).ld rfl,hx (hd.grow (g0.then g10)) λv23 w22 g22 r23 n23=>⟨_,_,rfl,?_⟩⟩⟩
 have gA:=g0.then (g10.then g22)
 refine JoinP.bool (λb w26=>b=false/\w26=w22) (λj hj=>cond_f rfl (hj _ _ ⟨rfl,rfl⟩)) ?_
 rintro b w26 ⟨rfl,rfl⟩
 refine cond_f rfl ?_
 obtain⟨S1,h10,st10⟩:=(h.grow g0).more g10 r11 n11
 obtain⟨S2,h22,st22⟩:=h10.more g22 r23 n23
 have stA:Step S w w26 S2:=((Step.of_grow g0).then st10).then st22
 refine Waiting_c h22 (by omega) λw28 g28=>⟨_,rfl,cond_f (by simp;omega) ?_⟩
 obtain⟨κ,gr,rv,lv,tv,dv',hs,ds,hn⟩:=h22.grow g28
 refine withAddr_some ⟨_,hn.b.cell 7,?_⟩
 rw[hc]
 refine cond_f rfl (withAddr_some ⟨_,hn.b.cell 13,withAddr_some ⟨st1_at hn.b (by show 13 < 17;omega),nm λw35 e35=>?_⟩⟩)
 obtain⟨h35,s35⟩:=hn.set (c':={c with tag:=m32 (c.tag+1)}) e35 rfl
 refine nm λw36 e36=>?_
 have g36:=drE e36
 have h36:=h35.grow g36
 obtain⟨a11,rfl⟩:=sl_of r11
 obtain⟨a23,rfl⟩:=sl_of r23
 refine withAddr_some ⟨lv,h36.b.cell 14,withAddr_some ⟨_,h36.b.cell 13,oneK_of rfl (oneK_of rfl (nm λw41 e41=>?_))⟩⟩
 obtain rfl:w41=w36:=e41.trans e36.symm
 have hE:(#[.int .u32 (m32 (c.tag+1)),sl a11,sl a23,nilV,.bool false,.bool false]:Array Value)=(EA.flat [((⟨m32 (c.tag+1),cb,xs,[],false⟩:Ak),((a11,a23,(none,0,0)):Sl3))]).toArray:=rfl
 have eA:∀cs:Array Value,cs=(EA.flat [((⟨m32 (c.tag+1),cb,xs,[],false⟩:Ak),((a11,a23,(none,0,0)):Sl3))]).toArray->∀wz,wz=World.alloc w41 (.cells cs tAk)->Grow w41 wz/\RdR EA wz (.slice (some ⟨w41.heap.size,0,none⟩) 1 1) [((⟨m32 (c.tag+1),cb,xs,[],false⟩:Ak),((a11,a23,(none,0,0)):Sl3))]:=by
  rintro cs rfl wz rfl
  exact⟨Grow.al (Grow.refl _) _,(OwnR.lit w41 (Nat.le_refl _) tAk [((⟨m32 (c.tag+1),cb,xs,[],false⟩:Ak),((a11,a23,(none,0,0)):Sl3))] 1 rfl (by simp [maxLen])).rd⟩
 have gz:=(eA _ hE _ rfl).1
 refine⟨⟨lv,(h36.grow gz).b.cell 14,rfl⟩,nm λw43 e43=>nm λw44 e44=>?_⟩
 obtain⟨g44,r44⟩:=eA _ hE w44 e44
 have h44:=h36.grow g44
 have hl':=h36.r.hl
 obtain⟨v45,w46,k46,o46,n46⟩:=app_ownR tyAk h44.r.l r44 (by simp only[List.length_cons,List.length_nil,List.length_zip];show(min c.L.length hs.length+_)*_<=_;omega) (Nat.zero_le _)
 have st:Step (Pt S2 κ 4) w44 w46 (λq=>v45.ownBlock=some q):=(Step.of_own n46 (S :=Pt S2 κ 4) (λq hq=>hn.r.lc q hq)).imp (λ_ h=>h) (λq hq=>by
  rcases n46.at_ with e|e
  ·exact .inl (hn.r.lc q (e▸hq))
  ·exact .inr (e q hq))
 have ezip:c.L.zip hs++[((⟨m32 (c.tag+1),cb,xs,[],false⟩:Ak),((a11,a23,(none,0,0)):Sl3))]=(c.L++[(⟨m32 (c.tag+1),cb,xs,[],false⟩:Ak)]).zip (hs++[(a11,a23,(none,0,0))]):=by
  rw[List.zip_append hl'.symm];rfl
 have o46:OwnR EA w46 0 tAk v45 (c.L.zip hs++[((⟨m32 (c.tag+1),cb,xs,[],false⟩:Ak),((a11,a23,(none,0,0)):Sl3))]):=o46
 rw[ezip]at o46
 have hl':hs.length=c.L.length:=hl'
 have r46:=h44.r.wait (L':=c.L++[(⟨m32 (c.tag+1),cb,xs,[],false⟩:Ak)]) (hs':=hs++[(a11,a23,(none,0,0))]) st (λq hq=>(o46.lt q hq).2) o46 (λq hq=>hq) (by simp [hl']) (λj h1 h2=>by
  by_cases hj:j < c.L.length
  ·rw[List.getElem_append_left hj,List.getElem_append_left (by omega)]
   exact h44.r.hv j hj (by omega)
  ·have ej:j=c.L.length:=by simp at h1;omega
   subst ej
   rw[List.getElem_append_right (by omega),List.getElem_append_right (by omega)]
   have e1:∀(h:c.L.length - c.L.length < [(⟨m32 (c.tag+1),cb,xs,[],false⟩:Ak)].length),[(⟨m32 (c.tag+1),cb,xs,[],false⟩:Ak)][c.L.length - c.L.length]'h=⟨m32 (c.tag+1),cb,xs,[],false⟩:=λh=>by simp
   have e2:∀(h:c.L.length - hs.length < [((a11,a23,(none,0,0)):Sl3)].length),[((a11,a23,(none,0,0)):Sl3)][c.L.length - hs.length]'h=(a11,a23,(none,0,0)):=λh=>by simp
   rw[e1,e2]
   exact⟨h44.r.bl _ (List.mem_cons_of_mem _ (List.mem_cons_self ..)),h44.r.bl _ (List.mem_cons_self ..),BlAt.nil,λ_=>rfl⟩)
 have b46:=h44.b.stepS st (λhh=>hn.r.g.ne (by decide) hh)
 refine⟨v45,w46,k46,withAddr_some (oneK_of (Ses.own_isOne o46) ⟨st1_at b46 (by show 14 < 17;omega),nm λw48 e48=>nm λw49 e49=>?_⟩)⟩
 obtain rfl:w49=w48:=e49.trans e48.symm
 obtain⟨b49,t49⟩:=Go.CW.setE b46 e49
 have b49:BK w49 g (rC (ask c cb xs) gr v45 tv dv') tCl:=b49
 refine withAddr_some ⟨_,b49.cell 13,?_⟩
 refine k w49 _ (((((stA.then (Step.of_grow g28)).then s35).then (Step.of_grow (g36.then g44))).then (Step.whole h44.r.lt st)).then (t49.step (.inl hn.r.g.1))) ?_
 have r49:=r46.turn t49
 exact⟨_,gr,rv,v45,tv,dv',_,ds,⟨b49,r49.less (λq hq=>by cases hq)⟩⟩
end Go.Proofs.YtdpmhkbhlbfbeaaGreatDoor.Cli
end
