/- A part of the proof. -/
import Derived.Test.YtdpmhkbhlbfbeaaGreatDoorZOncP
import Derived.Test.YtdpmhkbhlbfbeaaGreatDoorZPipX
set_option linter.unusedSimpArgs false
set_option linter.unusedVariables false
set_option maxRecDepth 100000
section
namespace Go.Proofs.YtdpmhkbhlbfbeaaGreatDoor.Los
open CW RowKit
abbrev tDesk:TypeId:=57
def toU (c:Ses.Cm):Cm:=⟨c.kind,c.pos,c.n,c.key,c.new,c.typ,c.fo,c.d⟩
def ofU (c:Cm):Ses.Cm:=⟨c.kind,c.pos,c.n,c.key,c.new,c.typ,c.force,c.d⟩
def ofR (r:Rp):Ses.Rp:=⟨r.st,r.key,r.code,r.d,r.info⟩
def tyOk (U:Un):Prop:=(U.T.ty=0\/U.T.ty=1)/\∃k,U.T.keys=[0,0,0,0,0,k,0,0]
theorem plainC_cases {P:Cm->Prop} (n a b:UInt8)
 (h1:P ⟨3,a.toNat % 32,1,0,0,0,false,List.replicate 8 b⟩) (h2:P ⟨2,a.toNat % 32,1,0,0,0,false,[]⟩)
 (h3:P ⟨6,a.toNat % 32,1,0,0,0,false,List.replicate 8 (b&&& 1)++List.replicate 8 b⟩) (h4:P ⟨5,a.toNat % 32,1,0,0,0,false,[]⟩)
 (h5:P ⟨11,0,0,0,(b.toNat:Int),0,false,[]⟩) (h6:P ⟨12,0,0,(b.toNat:Int),0,1,false,[]⟩) (h7:P ⟨16,0,0,0,0,0,false,[]⟩):P (plainC n a b):=by
 unfold plainC
 split
 ·exact h1
 ·split
  ·exact h2
  ·split
   ·exact h3
   ·split
    ·exact h4
    ·split
     ·exact h5
     ·split
      ·exact h6
      ·exact h7
theorem plain_ok {U:Un} (hU:tyOk U) (n a b:UInt8) (i:Nat):CmOk U i (plainC n a b):=by
 have hr:regsB U.T=false:=by unfold regsB;rcases hU.1 with h|h<;>rw[h]<;>rfl
 have hp:a.toNat % 32<=1000000:=by omega
 refine plainC_cases (P:=λc=>CmOk U i c) n a b ?_ ?_ ?_ ?_ ?_ ?_ ?_<;>
  exact⟨by first|exact hp|exact Nat.zero_le _,by first|exact Nat.zero_le _|exact(show(1:Nat)<=1000000 by decide),by first|exact(show Fits .i64 (0:Int) by decide)|exact(show Fits .i64 (1:Int) by decide),by simp,λ_ _ _=>hr⟩
theorem runU_T (U:Un) (c:Cm):(runU U c).2.T=U.T:=by
 unfold runU
 repeat' split
 all_goals rfl
theorem regT_ty (T:Tb) (h:Nat) (x:Int) (hT:T.ty=0\/T.ty=1):(regT T h x).ty=0\/(regT T h x).ty=1:=by
 unfold regT
 dsimp only
 split
 ·exact .inl rfl
 ·exact hT
theorem resT_ty (T:Tb) (h:Nat) (k:Int) (hT:T.ty=0\/T.ty=1):(resT T h k 1).2.ty=0\/(resT T h k 1).2.ty=1:=by
 unfold resT
 repeat' split
 all_goals first|exact hT|exact .inr rfl
theorem regT_keys {T:Tb} (x:Int) (h:∃k,T.keys=[0,0,0,0,0,k,0,0]):∃k,(regT T 5 x).keys=[0,0,0,0,0,k,0,0]:=by
 obtain⟨k,hk⟩:=h
 refine⟨x,?_⟩
 unfold regT
 dsimp only
 split
 ·show T.keys.set 5 x=_;rw[hk];rfl
 ·show T.keys.set 5 x=_;rw[hk];rfl
theorem resT_keys {T:Tb} (h:Nat) (k x:Int):(resT T h k x).2.keys=T.keys:=by
 unfold resT
 repeat' split
 all_goals rfl
theorem actU_ty {U:Un} (hU:tyOk U) (n a b:UInt8):tyOk (actU U 5 (plainC n a b)).2:=by
 have run:∀c,tyOk (runU U c).2:=λc=>by unfold tyOk;rw[runU_T];exact hU
 refine plainC_cases (P:=λc=>tyOk (actU U 5 c).2) n a b (run _) (run _) (run _) (run _) ⟨regT_ty _ _ _ hU.1,regT_keys _ hU.2⟩ ⟨resT_ty _ _ _ hU.1,?_⟩ hU
 show ∃k,(resT U.T 5 _ 1).2.keys=_
 rw[resT_keys];exact hU.2
theorem doU_ty {U:Un} (hU:tyOk U) (n a b:UInt8):tyOk (doU U 5 (plainC n a b)).2:=by
 unfold doU
 split
 ·exact actU_ty hU n a b
 ·exact hU
theorem fit_i64 {n:Int} (h0:0<=n) (h1:n < 4611686018427387904):Fits .i64 n:=by
 constructor<;>simp [IntKind.min,IntKind.max,IntKind.bits,IntKind.signed]<;>omega
structure Sh (r:Rp):Prop where
 st:0<=r.st/\r.st<=255
 d:r.d.length<=16
 key:0<=r.key/\r.key<=255
 code:0<=r.code/\r.code<=65535
 info:0<=r.info/\r.info<=10000
 z:r.st≠0->r.d=[]
theorem Sh.ok {r:Rp} (h:Sh r):Ses.RpOk (ofR r):=by
 have h1:=h.d;have h2:=h.key;have h3:=h.code;have h4:=h.info
 exact⟨h.st,by show r.d.length<=512;omega,fit_i64 h2.1 (by show r.key < _;omega),fit_i64 h3.1 (by show r.code < _;omega),fit_i64 h4.1 (by show r.info < _;omega)⟩
theorem sh_good {d:List UInt8} (h:d.length<=16):Sh (goodR d):=⟨⟨by show(0:Int)<=0;omega,by show(0:Int)<=255;omega⟩,h,⟨by show(0:Int)<=0;omega,by show(0:Int)<=255;omega⟩,⟨by show(0:Int)<=0;omega,by show(0:Int)<=65535;omega⟩,⟨by show(0:Int)<=0;omega,by show(0:Int)<=10000;omega⟩,λh=>absurd rfl h⟩
theorem sh_bad {st key code info:Int} (h1:0<=st/\st<=255) (h2:0<=key/\key<=255) (h3:0<=code/\code<=65535) (h4:0<=info/\info<=10000):Sh ⟨st,key,code,[],info⟩:=⟨h1,by show([]:List UInt8).length<=_;simp,h2,h3,h4,λ_=>rfl⟩
theorem dif_lt {xs ys:List UInt8} {i:Nat} (h:dif xs ys=some i):i < xs.length:=by
 unfold dif at h
 have:=List.mem_of_find?_eq_some h
 exact List.mem_range.1 this
theorem runU_sh {U:Un} {c:Cm} (hc:c.n<=1):Sh (runU U c).1:=by
 have hp:(part U.D (c.pos,c.n)).length<=8:=by simp only[part,List.length_take,List.length_drop];omega
 unfold runU
 split
 ·exact sh_bad (by omega) (by omega) (by omega) (by omega)
 split
 ·exact sh_good (by omega)
 split
 ·split
  ·exact sh_bad (by omega) (by omega) (by omega) (by omega)
  ·exact sh_good (by simp)
 split
 ·exact sh_good (by simp)
 split
 ·exact sh_bad (by omega) (by omega) (by omega) (by omega)
 ·split
  ·next i hi=>
   have:=dif_lt hi
   exact sh_bad (by omega) (by omega) (by omega) (by omega)
  ·exact sh_good (by simp)
theorem resT_sh (T:Tb) (h:Nat) (k:Int):Sh ⟨(resT T h k 1).1.1,(resT T h k 1).1.2.1,(resT T h k 1).1.2.2,[],0⟩:=by
 unfold resT
 repeat' split
 all_goals exact sh_bad (by dsimp only;omega) (by dsimp only;omega) (by dsimp only;omega) (by omega)
theorem doU_sh {U:Un} (hU:tyOk U) (n a b:UInt8) (i:Nat):Sh (doU U i (plainC n a b)).1:=by
 unfold doU
 split
 ·refine plainC_cases (P:=λc=>Sh (actU U i c).1) n a b (runU_sh (by show 1<=1;omega)) (runU_sh (by show 1<=1;omega)) (runU_sh (by show 1<=1;omega)) (runU_sh (by show 1<=1;omega)) (sh_good (by simp)) (resT_sh _ _ _) (sh_good ?_)
  rw[Lst.keysB_length]
  obtain⟨k,hk⟩:=hU.2
  have:(someK U.T.keys).length<=1:=by
   rw[hk];unfold someK
   by_cases h0:k=0
   ·subst h0;decide
   ·simp [h0]
  omega
 ·exact sh_bad (by omega) (by omega) (by omega) (by omega)
variable {w w':World}
def deskF (gd u b t g1 g2:Nat):Fp:=λq=>q=gd\/q=u\/q=b\/q=t\/q=g1\/q=g2
def deskAt (gd:Nat) (w:World) (F:Fp) (U:Un):Prop:=∃u b t g1 g2 G,F=deskF gd u b t g1 g2/\BK w gd #[zA u] tDesk/\UAt w u b t g1 g2 G U
theorem UAt.same {u b t g1 g2:Nat} {G:List (Int×Option Nat)} {U:Un} (h:UAt w u b t g1 g2 G U) (hk:∀k,(k=u\/k=b\/k=t\/k=g1\/k=g2)->w'.heap[k]? =w.heap[k]?):UAt w' u b t g1 g2 G U:=
 ⟨(hk _ (by simp)).trans h.o,h.gl,⟨(hk _ (by simp)).trans h.sp.obj,(hk _ (by simp)).trans h.sp.dat,(hk _ (by simp)).trans h.sp.map,h.sp.hD,h.sp.hM,h.sp.pos,h.sp.most,h.sp.n1,h.sp.n2,h.sp.n3⟩,⟨(hk _ (by simp)).trans h.tb.b,h.tb.len⟩,h.gn,h.ty⟩
theorem deskAt.stable {gd:Nat} {F:Fp} {U:Un} (h:deskAt gd w F U) (hk:∀k,F k->w'.heap[k]? =w.heap[k]?):deskAt gd w' F U:=by
 obtain⟨u,b,t,g1,g2,G,rfl,bk,hu⟩:=h
 exact⟨u,b,t,g1,g2,G,rfl,(hk _ (.inl rfl)).trans bk,UAt.same hu λk q=>hk k (.inr q)⟩
theorem deskAt.lt {gd:Nat} {F:Fp} {U:Un} (h:deskAt gd w F U):InW w F:=by
 obtain⟨u,b,t,g1,g2,G,rfl,bk,hu⟩:=h
 rintro k (rfl|rfl|rfl|rfl|rfl|rfl)
 ·exact bk.lt
 ·exact hu.o.lt
 ·exact hu.sp.obj.lt
 ·exact hu.tb.b.lt
 ·exact BK.lt hu.sp.dat
 ·exact BK.lt hu.sp.map
abbrev stepD (U:Un) (nm:List UInt8) (c:Ses.Cm):Ses.Rp×Un:=(ofR (doU U (nm.length % 8) (toU c)).1,(doU U (nm.length % 8) (toU c)).2)
def OkD (U:Un) (nm:List UInt8) (c:Ses.Cm):Prop:=tyOk U/\(nm.length<=1000/\nm.length % 8=5)/\∃n a b,toU c=plainC n a b
theorem and7 {n:Nat} (h:n<=1000):bitsI .and .i64 (n:Int) (7:Int)=((n % 8:Nat):Int):=by
 have e:(BitVec.ofInt 64 (n:Int)&&& BitVec.ofInt 64 (7:Int)).toNat=n % 8:=by
  have e1:(BitVec.ofInt 64 (n:Int))=BitVec.ofNat 64 n:=by rw[←BitVec.ofInt_natCast]
  have e2:(BitVec.ofInt 64 (7:Int))=BitVec.ofNat 64 7:=by decide
  rw[e1,e2,BitVec.toNat_and,BitVec.toNat_ofNat,BitVec.toNat_ofNat,Nat.mod_eq_of_lt (by omega),Nat.mod_eq_of_lt (by omega)]
  exact Nat.and_two_pow_sub_one_eq_mod n 3
 show IntKind.wrap .i64 ((BitVec.ofInt 64 (n:Int)&&& BitVec.ofInt 64 (7:Int)).toNat:Int)=_
 rw[e,wi64_id (by omega) (by omega)]
theorem desk_c {gd:Nat} {F:Fp} {U:Un} {nm:List UInt8} {c:Ses.Cm} {dv:Value} (hd:deskAt gd w F U) (ok:OkD U nm c) (hr:RdB w dv c.d) {R:KV}
 (k:∀v w' F',Step F w w' F'->deskAt gd w' F' (stepD U nm c).2->Ses.RpAt w w' v (stepD U nm c).1->R v w'):
 Zs 20 #[zA gd,.string (textOf nm),.agg (Ses.rCm c dv)] w R:=by
 obtain⟨u,b,t,g1,g2,G,rfl,bk,hu⟩:=hd
 obtain⟨hty,⟨hn,hn5⟩,n,a,x,hc⟩:=ok
 have ltF:=deskAt.lt ⟨u,b,t,g1,g2,G,rfl,bk,hu⟩
 apply q54W
 have hdi:=Rd.isOne hr
 refine Go.CW.nm λw0 e0=>?_
 obtain⟨b0',g0,s0⟩:=alE e0
 have b0:BK w0 w.heap.size (Ses.rCm c dv) tCmd:=b0'
 refine Go.CW.nm λw1 e1=>?_
 obtain⟨b1,g1',s1⟩:=alE e1
 have b01:=b0.grow g1'
 have g01:=g0.then g1'
 refine Go.CW.nm λw2 e2=>withAddr_some ⟨_,((bk.grow g01).grow (drE e2)).cell 0,?_⟩
 have b2:=b01.grow (drE e2)
 refine⟨_,_,_,_,_,_,_,_,b2.ld rfl,Go.CW.nm λw13 e13=>?_⟩
 have gd13:=drE e13
 have g13:=g01.then gd13
 have hh:bitsI .and .i64 (((textOf nm).size:Nat):Int) (7:Int)=((nm.length % 8:Nat):Int):=by
  rw[show(textOf nm).size=nm.length by simp [textOf,ByteArray.size]];exact and7 hn
 rw[hh]
 have hu13:=hu.grow g13
 have ec:(Value.agg #[.int .i64 c.kind,.int .i64 (c.pos:Int),.int .i64 (c.n:Int),dv,.int .u64 c.key,.int .u64 c.new,.int .i64 c.typ,.bool c.fo])= .agg (rCmd (toU c) dv):=rfl
 rw[ec]
 refine Do_c hu13 (i:=nm.length % 8) (Nat.mod_lt _ (by omega)) (c:=toU c) (by rw[hc];exact plain_ok hty n a x _) (hr.grow g13) λv w15 st15 u15 r15=>?_
 obtain⟨v19,rfl,rd15,nv15⟩:=r15
 refine⟨_,_,_,_,_,rfl,?_⟩
 have z0:=s0
 have z1:=s1
 have z13:=g13.size
 have zd:=gd13.size
 have b15:=((b1.grow gd13)).stepS st15 (λhh=>by
  have h1:=ltF t (by simp [deskF]);have h2:=ltF g1 (by simp [deskF]);have h3:=ltF g2 (by simp [deskF])
  rcases hh with e|e|e<;>omega)
 have on19:isOne v19=true:=Rd.isOne rd15
 refine⟨b15.row rfl (by simp only[oneL,on19,Bool.and_true];rfl),Go.CW.nm λw21 e21=>?_⟩
 obtain⟨b21,t21⟩:=rowE b15 e21 rfl
 refine Go.CW.nm λw22 e22=>?_
 have e:w22=w21:=by rw[e22,e21]
 subst e
 refine⟨_,_,_,_,_,b21.ld rfl,?_⟩
 have l1:=ltF t (by simp [deskF])
 have l2:=ltF g1 (by simp [deskF])
 have l3:=ltF g2 (by simp [deskF])
 have l4:=ltF u (by simp [deskF])
 have l5:=ltF b (by simp [deskF])
 have m:Md (deskF gd u b t g1 g2) w.heap.size w w22:=(((Md.refl (deskF gd u b t g1 g2) w.heap.size w).grow g13).stp (T':=FU t g1 g2) st15 (λq hq=>.inl (by rcases hq with h|h|h<;>simp [deskF,h])) (λq hq=>.inl (.inl (by rcases hq with h|h|h<;>simp [deskF,h])))).turn t21 (.inr (by omega))
 have bk13:=bk.grow g13
 have bk15:=bk13.stepS st15 (λhh=>by
  rcases hh with e|e|e
  ·exact bk_ne bk hu.tb.b (by decide) e
  ·exact bk_ne bk hu.sp.dat (by decide) e
  ·exact bk_ne bk hu.sp.map (by decide) e)
 have lg:gd < w.heap.size:=bk.lt
 refine k _ w22 _ m.out ⟨u,b,t,g1,g2,G,rfl,bk15.turn t21 (by omega),UAt.same u15 λq hq=>t21.block q (by rcases hq with e|e|e|e|e<;>omega)⟩ ⟨v19,rfl,Rd.turn rd15 t21 (λe=>?_),λq hq=>?_⟩
 ·have:=nv15 _ e;omega
 ·have:=nv15 q hq;omega
abbrev deskK (gd:Nat):Ses.Doer where
 U:=Un
 fid:=20
 first:= #[zA gd]
 captured:= #[]
 body:=by kernel_rfl
 At:=deskAt gd
 step:=stepD
 Ok:=OkD
 stable h _ hk:=deskAt.stable h hk
 lt h:=h.lt
 rp {u n c} h:=by
  obtain⟨hty,_,m,a,x,hc⟩:=h
  show Ses.RpOk (ofR (doU u (n.length % 8) (toU c)).1)
  rw[hc]
  exact(doU_sh hty m a x _).ok
 spec h ok hd k:=desk_c h ok hd k
abbrev u0 (N:Nat):Un:=⟨N,List.replicate (8*N) 0,List.replicate ((N+7) / 8) 0,newTb⟩
theorem u0_ty (N:Nat):tyOk (u0 N):=⟨.inl rfl,0,rfl⟩
theorem newDesk_c {N:Nat} (h1:1<=N) (h2:N<=1024) {R:KV} (k:∀gd F w',Grow w w'->(∀q,F q->w.heap.size<=q)->deskAt gd w' F (u0 N)->R (zA gd) w'):Zs 5 #[.int .i64 (N:Int)] w R:=by
 apply q59W
 refine uNew_c h1 h2 λu b t g1 g2 G w1 gw hu hb ht hg1 hg2 au _=>⟨_,_,rfl,JoinP.bool (λq w'=>q=false/\w'=w1) (λj hj=>cond_f rfl ⟨false,rfl,hj _ _ ⟨rfl,rfl⟩⟩) ?_⟩
 rintro q w1 ⟨rfl,rfl⟩
 refine cond_f rfl (Go.CW.nm λw6 e6=>?_)
 obtain⟨b6,g6,s6⟩:=alE e6
 have z:=gw.size
 refine k _ _ w6 (gw.then g6) (λq hq=>?_) ⟨u,b,t,g1,g2,G,rfl,b6,au.grow g6⟩
 rcases hq with rfl|rfl|rfl|rfl|rfl|rfl<;>omega
end Go.Proofs.YtdpmhkbhlbfbeaaGreatDoor.Los
end
section
namespace Go.Proofs.YtdpmhkbhlbfbeaaGreatDoor.Los
open CW RowKit Pdu
open Ses (St Doer m32 m32_id wireP wireP_ok encQ_eq Prm)
open Cli (Cl Ak Pq encs cdbP)
open Lgn (LgP agP)
open Pip (cA pCmd lgS lgC fits_small)
abbrev Ask:=UInt8×UInt8×UInt8
def cmX (x:Ask):Ses.Cm:=ofU (plainC x.1 x.2.1 x.2.2)
def cbC (c:Ses.Cm):List UInt8:=match Cdb.codesL.find? (Cdb.isK c.kind)with
 |some x=>Cdb.encB x c.fo c.typ c.pos c.n
 |none=>[]
def cbX (x:Ask):List UInt8:=cbC (cmX x)
def dsX (x:Ask):List UInt8:=Cli.datL (cmX x)
structure Wr (c:Ses.Cm) (cb ds:List UInt8) (cmR:Ses.Cm):Prop where
 enc:Cli.EncOk c cb
 dat:Cli.DatOk c ds
 hcb:cb.length=16
 hc:wireP.cmd cb=(cmR,0)
 ho:wireP.out cmR=ds.length
 hf:Ses.full wireP cmR ds=some c
 hds:ds.length<=24
theorem wr_of {c:Ses.Cm} {x:Cdb.Cod} (hx:Cdb.codesL.find? (Cdb.isK c.kind)=some x) (hm:x∈Cdb.codesL) (hfo:c.fo=false) (ha:c.pos < 1000) (hn:c.n<=1) (ht:0<=c.typ/\c.typ<=15)
 (hd:c.d.length<=16) (ho:¬(10<=c.kind/\c.kind<=15)->(c.d.length:Int)=Cdb.outI c.kind c.n) (h1:wireP.out (Ses.cmE x c.typ c.pos c.n)=(Cli.datL c).length) (h2:Ses.full wireP (Ses.cmE x c.typ c.pos c.n) (Cli.datL c)=some c):
 ∃cmR,Wr c (cbC c) (Cli.datL c) cmR:=by
 have e:cbC c=Cdb.encB x c.fo c.typ c.pos c.n:=by unfold cbC;rw[hx]
 refine⟨_,?_,Cli.dat_c (by omega) ho,?_,?_,h1,h2,?_⟩
 ·rw[e];exact Cli.enc_c hx (by omega) (by omega) ht
 ·rw[e];exact Cdb.encB_length ..
 ·rw[e,hfo];exact Ses.cmd_enc hm ht (by omega) (by omega)
 ·unfold Cli.datL;split
  ·rw[Lst.encB_length];omega
  ·omega
theorem plain_wr (x:Ask):∃cmR,Wr (cmX x) (cbX x) (dsX x) cmR:=by
 have hp:x.2.1.toNat % 32 < 1000:=by have:=Nat.mod_lt x.2.1.toNat (show 32 > 0 by omega);omega
 have hb:=x.2.2.toNat_lt
 have hk:(0:Int)<=0/\(0:Int) < 18446744073709551616:=by omega
 have hbk:0<=(x.2.2.toNat:Int)/\(x.2.2.toNat:Int) < 18446744073709551616:=by omega
 refine plainC_cases (P:=λc=>∃cmR,Wr (ofU c) (cbC (ofU c)) (Cli.datL (ofU c)) cmR) x.1 x.2.1 x.2.2 ?_ ?_ ?_ ?_ ?_ ?_ ?_
 ·exact wr_of (x:=⟨3,138,0,true,true,false,true,false,false⟩) rfl (by decide) rfl hp (by show 1<=1;omega) (by show(0:Int)<=0/\(0:Int)<=15;omega) (by show(List.replicate 8 _).length<=16;simp) (λ_=>by show((List.replicate 8 _).length:Int)=Cdb.outI 3 1;simp;rfl)
   (by show _=(List.replicate 8 _).length;simp;rfl) rfl
 ·exact wr_of (x:=⟨2,136,0,true,true,false,false,false,false⟩) rfl (by decide) rfl hp (by show 1<=1;omega) (by show(0:Int)<=0/\(0:Int)<=15;omega) (by show 0<=16;omega) (λ_=>rfl) rfl rfl
 ·exact wr_of (x:=⟨6,137,0,true,false,true,true,false,false⟩) rfl (by decide) rfl hp (by show 1<=1;omega) (by show(0:Int)<=0/\(0:Int)<=15;omega) (by show(List.replicate 8 _++List.replicate 8 _).length<=16;simp) (λ_=>by show((List.replicate 8 _++List.replicate 8 _).length:Int)=Cdb.outI 6 1;simp;rfl)
   (by show _=(List.replicate 8 _++List.replicate 8 _).length;simp;rfl) rfl
 ·exact wr_of (x:=⟨5,66,0,true,true,false,false,false,false⟩) rfl (by decide) rfl hp (by show 1<=1;omega) (by show(0:Int)<=0/\(0:Int)<=15;omega) (by show 0<=16;omega) (λ_=>rfl) rfl rfl
 ·exact wr_of (x:=⟨11,95,6,false,false,false,false,false,true⟩) rfl (by decide) rfl (by show 0 < 1000;omega) (by show 0<=1;omega) (by show(0:Int)<=0/\(0:Int)<=15;omega) (by show 0<=16;omega) (λh=>absurd (by show(10:Int)<=11/\(11:Int)<=15;omega) h)
   (by show _=(Lst.encB 0 _).length;rw[Lst.encB_length];rfl) (Ses.full_two (c:=Ses.cmE ⟨11,95,6,false,false,false,false,false,true⟩ 0 0 0) rfl hk hbk)
 ·exact wr_of (x:=⟨12,95,1,false,false,false,false,true,true⟩) rfl (by decide) rfl (by show 0 < 1000;omega) (by show 0<=1;omega) (by show(0:Int)<=1/\(1:Int)<=15;omega) (by show 0<=16;omega) (λh=>absurd (by show(10:Int)<=12/\(12:Int)<=15;omega) h)
   (by show _=(Lst.encB _ 0).length;rw[Lst.encB_length];rfl) (Ses.full_two (c:=Ses.cmE ⟨12,95,1,false,false,false,false,true,true⟩ 1 0 0) rfl hbk hk)
 ·exact wr_of (x:=⟨16,94,0,false,false,false,false,false,true⟩) rfl (by decide) rfl (by show 0 < 1000;omega) (by show 0<=1;omega) (by show(0:Int)<=0/\(0:Int)<=15;omega) (by show 0<=16;omega) (λ_=>rfl) rfl rfl
def rp (nm:List UInt8) (u:Un) (x:Ask):Ses.Rp:=(stepD u nm (cmX x)).1
def un (nm:List UInt8) (u:Un) (x:Ask):Un:=(stepD u nm (cmX x)).2
theorem rp_sh (nm:List UInt8) {u:Un} (h:tyOk u) (x:Ask):∃r:Rp,rp nm u x=ofR r/\Sh r:=⟨_,rfl,doU_sh h x.1 x.2.1 x.2.2 _⟩
abbrev NmOk (nm:List UInt8):Prop:=nm.length<=1000/\nm.length % 8=5
theorem un_ty {nm:List UInt8} (hn:NmOk nm) {u:Un} (h:tyOk u) (x:Ask):tyOk (un nm u x):=by
 show tyOk (doU u (nm.length % 8) (plainC x.1 x.2.1 x.2.2)).2
 rw[hn.2];exact doU_ty h x.1 x.2.1 x.2.2
theorem okD {nm:List UInt8} {u:Un} (h:tyOk u) (hn:NmOk nm) (x:Ask):OkD u nm (cmX x):=⟨h,hn,x.1,x.2.1,x.2.2,rfl⟩
def qDat (e tag:Int) (r:Ses.Rp):Pq:=({zP with op:=37,tag:=tag,fin:=true,exp:=e,mx:=m32 (e+15)},r.d)
def qRsp (e n tag:Int) (r:Ses.Rp):Pq:=({zP with op:=33,tag:=tag,st:=r.st,fin:=true,sn:=n,exp:=e,mx:=m32 (e+15),ln:=m32 (((if r.st=0 then r.d.length else 0):Nat):Int)},if r.st=2 then wireP.sen r.key r.code r.info else[])
def outsE (e n tag:Int) (r:Ses.Rp):List Pq:=(if r.st=0/\r.d≠[] then[qDat e tag r] else[])++[qRsp e n tag r]
def cmdsP (e tag:Int):List Ask->List Pq
 |[]=>[]
 |x::l=>(pCmd e tag (cbX x),dsX x)::cmdsP (e+1) (tag+1) l
def outsP (nm:List UInt8) (e n tag:Int) (u:Un):List Ask->List Pq
 |[]=>[]
 |x::l=>outsE (e+1) n tag (rp nm u x)++outsP nm (e+1) (n+1) (tag+1) (un nm u x) l
def unitP (nm:List UInt8) (u:Un):List Ask->Un
 |[]=>u
 |x::l=>unitP nm (un nm u x) l
theorem encs_app (a b:List Pq):encs (a++b)=encs a++encs b:=by simp [encs]
theorem encs_cons (q:Pq) (l:List Pq):encs (q::l)=encP q.1 q.2++encs l:=by simp [encs]
def sB {U:Type} (p:Prm) (e n:Int) (u:U) (rd o:List UInt8):St U:=⟨⟨agP p,true,false,e,n,[],rd,0⟩,u,o⟩
theorem rsp_fits {e n tag:Int} {r:Rp} (h:Sh r) (he:0<=e/\e < 100000) (hn:0<=n/\n < 100000) (ht:0<=tag/\tag < 100000):Cli.PqOk (qRsp e n tag (ofR r)):=by
 have h1:=h.st;have h2:=h.d
 have em:m32 (e+15)=e+15:=m32_id (by omega) (by omega)
 have hl:(if(ofR r).st=0 then(ofR r).d.length else 0)<=16:=by
  split
  ·exact h2
  ·omega
 generalize hln:(if(ofR r).st=0 then(ofR r).d.length else 0)=ln at hl
 have el:m32 (ln:Int)=(ln:Int):=m32_id (by omega) (by omega)
 have eq:qRsp e n tag (ofR r)=({zP with op:=33,tag:=tag,st:=r.st,fin:=true,sn:=n,exp:=e,mx:=e+15,ln:=(ln:Int)},if r.st=2 then wireP.sen r.key r.code r.info else[]):=by
  unfold qRsp;rw[hln,em,el];rfl
 rw[eq]
 refine⟨⟨(by decide:Fits .i64 33),(by decide:Fits .i64 0),fit_i64 h1.1 (by show r.st < _;omega),fits_small (n:=tag) ht.1 (by omega),fits_small (n:=n) hn.1 (by omega),fits_small (n:=e) he.1 (by omega),fits_small (n:=e+15) (by omega) (by omega),(by decide:Fits .u32 0),fits_small (n:=(ln:Int)) (by omega) (by omega)⟩,?_,?_⟩
 ·show okP _=true
  simp [okP,known,zP]
  omega
 ·show(if r.st=2 then wireP.sen r.key r.code r.info else[]).length<=4096
  split
  ·show(Sen.encS _ _ _).length<=_
   rw[Sen.encS_length];omega
  ·simp
theorem dat_fits {e tag:Int} {r:Rp} (h:Sh r) (he:0<=e/\e < 100000) (ht:0<=tag/\tag < 100000):Cli.PqOk (qDat e tag (ofR r)):=by
 have h2:=h.d
 have em:m32 (e+15)=e+15:=m32_id (by omega) (by omega)
 have eq:qDat e tag (ofR r)=({zP with op:=37,tag:=tag,fin:=true,exp:=e,mx:=e+15},r.d):=by unfold qDat;rw[em];rfl
 rw[eq]
 exact⟨⟨(by decide:Fits .i64 37),(by decide:Fits .i64 0),(by decide:Fits .i64 0),fits_small (n:=tag) ht.1 (by omega),(by decide:Fits .u32 0),fits_small (n:=e) he.1 (by omega),fits_small (n:=e+15) (by omega) (by omega),(by decide:Fits .u32 0),(by decide:Fits .u32 0)⟩,rfl,by show r.d.length<=4096;omega⟩
theorem outsE_ok {e n tag:Int} {r:Rp} (h:Sh r) (he:0<=e/\e < 100000) (hn:0<=n/\n < 100000) (ht:0<=tag/\tag < 100000):(∀q∈outsE e n tag (ofR r),Cli.PqOk q)/\(encs (outsE e n tag (ofR r))).length<=124:=by
 have h2:=h.d
 refine⟨λq hq=>?_,?_⟩
 ·rcases List.mem_append.1 hq with hq|hq
  ·split at hq
   ·rw[List.mem_singleton.1 hq];exact dat_fits h he ht
   ·cases hq
  ·rw[List.mem_singleton.1 hq];exact rsp_fits h he hn ht
 ·have hs:(encP (qRsp e n tag (ofR r)).1 (qRsp e n tag (ofR r)).2).length<=76:=by
   rw[encP_length]
   split
   ·omega
   ·have:(qRsp e n tag (ofR r)).2.length<=18:=by
     show(if r.st=2 then wireP.sen r.key r.code r.info else[]).length<=18
     split
     ·show(Sen.encS _ _ _).length<=_
      rw[Sen.encS_length];omega
     ·simp
    omega
  unfold outsE
  rw[encs_app,List.length_append]
  have e1:(encs [qRsp e n tag (ofR r)]).length=(encP (qRsp e n tag (ofR r)).1 (qRsp e n tag (ofR r)).2).length:=by simp [encs]
  rw[e1]
  split
  ·next hc=>
   have hst:r.st=0:=hc.1
   have e3:(encP (qRsp e n tag (ofR r)).1 (qRsp e n tag (ofR r)).2).length=52:=by
    have:(qRsp e n tag (ofR r)).2=[]:=by
     show(if r.st=2 then wireP.sen r.key r.code r.info else[])=[]
     rw[if_neg (by omega)]
    rw[encP_length,if_pos this]
   have e2:(encs [qDat e tag (ofR r)]).length=(encP (qDat e tag (ofR r)).1 r.d).length:=by simp [encs];rfl
   rw[e2,e3,encP_length]
   split
   ·omega
   ·omega
  ·simp [encs];omega
theorem fin_g {du:Un->List UInt8->Ses.Cm->Ses.Rp×Un} {p:Prm} {e n:Int} {u:Un} {rd o:List UInt8} {tag:Int} {c:Ses.Cm} {r:Rp} {u':Un} (hr:du u p.nm c=(ofR r,u')) (h:Sh r) (he:0<=e/\e < 100000) (hn:0<=n/\n < 100000) (ht:0<=tag/\tag < 100000):
 Ses.fin wireP du (sB p e n u rd o) tag c=sB p e (n+1) u' rd (o++encs (outsE e n tag (ofR r))):=by
 have e1:m32 (n+1)=n+1:=m32_id (by omega) (by omega)
 obtain⟨k1,k2,k3⟩:=rsp_fits (e:=e) (n:=n) (tag:=tag) h he hn ht
 obtain⟨d1,d2,d3⟩:=dat_fits (e:=e) (tag:=tag) h he ht
 have hr':du (sB p e n u rd o).u (sB p e n u rd o).s.p.nm c=(ofR r,u'):=hr
 unfold Ses.fin
 rw[hr']
 dsimp only
 have rsp:∀o':List UInt8,Ses.respond wireP (sB p e n u' rd o') tag (ofR r) (if(ofR r).st=0 then(ofR r).d.length else 0)=sB p e (n+1) u' rd (o'++encs [qRsp e n tag (ofR r)]):=by
  intro o'
  unfold Ses.respond Ses.sayN Ses.say sB
  dsimp only
  rw[e1]
  have eq:Ses.encQ (qRsp e n tag (ofR r)).1 (qRsp e n tag (ofR r)).2=encP (qRsp e n tag (ofR r)).1 (qRsp e n tag (ofR r)).2:=encQ_eq k2 k3
  have en:encs [qRsp e n tag (ofR r)]=encP (qRsp e n tag (ofR r)).1 (qRsp e n tag (ofR r)).2:=by simp [encs]
  rw[en,←eq]
  rfl
 unfold outsE
 by_cases hd:(ofR r).st=0/\(ofR r).d≠[]
 ·rw[if_pos hd,if_pos hd]
  have e2:Ses.say ({s:=(sB p e n u rd o).s,u:=u',o:=(sB p e n u rd o).o}:St Un) {zP with op:=37,tag:=tag,fin:=true} (ofR r).d=sB p e n u' rd (o++encs [qDat e tag (ofR r)]):=by
   unfold Ses.say sB
   dsimp only
   have eq:Ses.encQ (qDat e tag (ofR r)).1 (qDat e tag (ofR r)).2=encP (qDat e tag (ofR r)).1 (qDat e tag (ofR r)).2:=encQ_eq d2 d3
   have en:encs [qDat e tag (ofR r)]=encP (qDat e tag (ofR r)).1 (qDat e tag (ofR r)).2:=by simp [encs]
   rw[en,←eq]
   rfl
  rw[e2,rsp,encs_app,List.append_assoc]
 ·rw[if_neg hd,if_neg hd]
  exact rsp o
variable {gd:Nat} {A:List (List UInt8)} {p:Prm}
theorem one_cmd {e n tag:Int} {u:Un} (hu:tyOk u) {rd o:List UInt8} (x:Ask) (him:p.im=true) (he:0<=e/\e < 90000) (hn:0<=n/\n < 90000) (ht:0<=tag/\tag < 90000) (lg:St Un->Pd->List UInt8->St Un):
 Ses.one wireP (deskK gd).step lg (sB p e n u rd o) (pCmd e tag (cbX x)) (dsX x)=sB p (e+1) (n+1) (un p.nm u x) rd (o++encs (outsE (e+1) n tag (rp p.nm u x))):=by
 obtain⟨cmR,W⟩:=plain_wr x
 have hcdb:(pCmd e tag (cbX x)).cdb=cbX x:=Ses.cdb_of _ _ W.hcb
 have e1:m32 (e+1)=e+1:=m32_id (by omega) (by omega)
 rw[Ses.step_cmd (c:=cmR) rfl rfl rfl (by rw[hcdb];exact W.hc) W.ho (.inr him),Ses.done_ok W.hf]
 have es:({(sB p e n u rd o)with s:={(sB p e n u rd o).s with exp:=m32 ((sB p e n u rd o).s.exp+1)}}:St Un)=sB p (e+1) n u rd o:=by
  show({s:={(sB p e n u rd o).s with exp:=m32 (e+1)},u:=u,o:=o}:St Un)=_
  rw[e1];rfl
 rw[es]
 obtain⟨r,hr,sh⟩:=rp_sh p.nm hu x
 have:=fin_g (du:=(deskK gd).step) (p:=p) (e:=e+1) (n:=n) (u:=u) (rd:=rd) (o:=o) (tag:=tag) (c:=cmX x) (r:=r) (u':=un p.nm u x) (by show(rp p.nm u x,un p.nm u x)=_;rw[hr]) sh (by omega) (by omega) (by omega)
 rw[hr]
 exact this
theorem cmd_pq (x:Ask) {e tag:Int} (he:0<=e/\e < 90000) (ht:0<=tag/\tag < 90000):Cli.PqOk (pCmd e tag (cbX x),dsX x):=by
 obtain⟨cmR,W⟩:=plain_wr x
 have:=W.hds
 exact⟨⟨(by decide:Fits .i64 1),(by decide:Fits .i64 0),(by decide:Fits .i64 0),fits_small (n:=tag) ht.1 (by omega),fits_small (n:=e) he.1 (by omega),(by decide:Fits .u32 0),(by decide:Fits .u32 0),(by decide:Fits .u32 0),(by decide:Fits .u32 0)⟩,rfl,by show(dsX x).length<=4096;omega⟩
theorem sOkB {U:Type} (h:LgP p A) {e n:Int} {u:U} {rd o:List UInt8} (he:0<=e/\e < 1000000) (hn:0<=n/\n < 1000000):Ses.SOk (sB p e n u rd o).s:=by
 have a:=Pip.sOk h (L:=[]) he hn (by simp) (by simp)
 exact⟨a.exp,a.sn,a.md,a.bu,a.L,a.len⟩
theorem batch_s (h:LgP p A) (him:p.im=true) (hnm:NmOk p.nm) {Q:World->Prop}:∀(l:List Ask) (e n tag:Int) (u:Un) (o:List UInt8) (N:Nat),0<=e/\e+l.length < 90000->0<=n/\n+l.length < 90000->0<=tag/\tag+l.length < 90000->tyOk u->o.length+300*l.length<=900000000->
 Ses.Along wireP (deskK gd) (lgS A p) (Ses.NxOk Q wireP (deskK gd) A (lgS A p)) N (sB p e n u (encs (cmdsP e tag l)) o)/\
 (l.length < N->Ses.loop wireP (deskK gd).step (lgS A p) N (sB p e n u (encs (cmdsP e tag l)) o)=sB p (e+l.length) (n+l.length) (unitP p.nm u l) [] (o++encs (outsP p.nm e n tag u l))):=by
 intro l
 induction l with
 |nil=>
  intro e n tag u o N he hn ht hu ho
  have h3:decE (sB p e n u (encs (cmdsP e tag [])) o).s.rd=3:=short_nil
  cases N with
  |zero=>exact⟨trivial,λh=>by simp at h⟩
  |succ N=>
   refine⟨⟨⟨rfl,by show o.length<=_;simp at ho;omega,λh0=>absurd (h0.symm.trans h3) (by decide),λh0=>absurd (h0.symm.trans h3) (by decide),λh0=>absurd (h0.symm.trans h3) (by decide)⟩,λh0=>absurd (h0.symm.trans h3) (by decide)⟩,λ_=>?_⟩
   rw[Ses.loop_succ,if_neg (by rw[h3];decide),if_pos h3]
   simp [cmdsP,outsP,unitP,encs]
 |cons x l ih=>
  intro e n tag u o N he hn ht hu ho
  have hl:(((x::l).length:Nat):Int)=(l.length:Int)+1:=by simp
  rw[hl]at he hn ht
  have hpq:=cmd_pq x (e:=e) (tag:=tag) ⟨he.1,by omega⟩ ⟨ht.1,by omega⟩
  have ee:encs (cmdsP e tag (x::l))=encP (pCmd e tag (cbX x)) (dsX x)++encs (cmdsP (e+1) (tag+1) l):=encs_cons _ _
  obtain⟨d1,d2,d3,d4⟩:=dec_app (pCmd e tag (cbX x)) (dsX x) (encs (cmdsP (e+1) (tag+1) l)) hpq.f hpq.k hpq.n
  rw[←ee]at d1 d2 d3 d4
  have eo:Ses.off1 (sB p e n u (encs (cmdsP e tag (x::l))) o)=sB p e n u (encs (cmdsP (e+1) (tag+1) l)) o:=by
   unfold Ses.off1
   show({s:={(sB p e n u (encs (cmdsP e tag (x::l))) o).s with rd:=(encs (cmdsP e tag (x::l))).drop (decN (encs (cmdsP e tag (x::l)))).toNat},u:=u,o:=o}:St Un)=_
   rw[d4,ee]
   simp [sB]
  have e1:=one_cmd (gd:=gd) (p:=p) (u:=u) hu (rd:=encs (cmdsP (e+1) (tag+1) l)) (o:=o) x him (e:=e) (n:=n) (tag:=tag) ⟨he.1,by omega⟩ ⟨hn.1,by omega⟩ ⟨ht.1,by omega⟩ (lgS A p)
  obtain⟨r,hr,sh⟩:=rp_sh p.nm hu x
  have hlen:(encs (outsE (e+1) n tag (rp p.nm u x))).length<=124:=by rw[hr];exact(outsE_ok sh (by omega) (by omega) (by omega)).2
  cases N with
  |zero=>exact⟨trivial,λh=>by simp at h⟩
  |succ N=>
   obtain⟨i1,i2⟩:=ih (e+1) (n+1) (tag+1) (un p.nm u x) (o++encs (outsE (e+1) n tag (rp p.nm u x))) N (by omega) (by omega) (by omega) (un_ty hnm hu x) (by rw[List.length_append];simp at ho;omega)
   obtain⟨cmR,W⟩:=plain_wr x
   have hcdb:(pCmd e tag (cbX x)).cdb=cbX x:=Ses.cdb_of _ _ W.hcb
   have step:Ses.one wireP (deskK gd).step (lgS A p) (Ses.off1 (sB p e n u (encs (cmdsP e tag (x::l))) o)) (pdOf (sB p e n u (encs (cmdsP e tag (x::l))) o).s.rd) (decD (sB p e n u (encs (cmdsP e tag (x::l))) o).s.rd)=sB p (e+1) (n+1) (un p.nm u x) (encs (cmdsP (e+1) (tag+1) l)) (o++encs (outsE (e+1) n tag (rp p.nm u x))):=by
    rw[eo]
    show Ses.one wireP (deskK gd).step (lgS A p) _ (pdOf (encs (cmdsP e tag (x::l)))) (decD (encs (cmdsP e tag (x::l))))=_
    rw[d2,d3];exact e1
   refine⟨⟨⟨rfl,by show o.length<=_;omega,λ_ _=>⟨sOkB h (by omega) (by omega),?_⟩,λ_ hop=>(by cases hop),λ_ _=>?_⟩,λ_ _=>?_⟩,λhN=>?_⟩
   ·rw[eo]
    show Ses.TkOk wireP (deskK gd) _ (pdOf (encs (cmdsP e tag (x::l)))) (decD (encs (cmdsP e tag (x::l))))
    rw[d2,d3]
    refine⟨λ_ _ c'=>?_,λq=>by exact absurd q (by show(1:Int)≠5;decide),λq=>by exact absurd q (by show(1:Int)≠2;decide)⟩
    rw[hcdb,W.hc]
    show(wireP.out cmR=0->_->_)/\((dsX x).length=wireP.out cmR->_->_)
    refine⟨λh0 hf=>?_,λ_ hf=>?_⟩
    ·have e0:dsX x=[]:=List.eq_nil_of_length_eq_zero (by rw[←W.ho];exact h0)
     have hf2:=W.hf
     rw[e0]at hf2
     have:=hf2.symm.trans hf
     cases this
     exact okD hu hnm x
    ·have:=W.hf.symm.trans hf
     cases this
     exact okD hu hnm x
   ·rw[step,eo];rfl
   ·rw[step];exact i1
   ·have d1':decE (sB p e n u (encs (cmdsP e tag (x::l))) o).s.rd=0:=d1
    rw[Ses.loop_succ,if_pos d1',step,if_neg (by show ¬(false=true);decide),i2 (by simp at hN;omega)]
    have a1:e+1+(l.length:Int)=e+((x::l).length:Nat):=by rw[hl];omega
    have a2:n+1+(l.length:Int)=n+((x::l).length:Nat):=by rw[hl];omega
    rw[a1,a2]
    show sB p _ _ _ [] ((o++encs (outsE (e+1) n tag (rp p.nm u x)))++encs (outsP p.nm (e+1) (n+1) (tag+1) (un p.nm u x) l))=sB p _ _ (unitP p.nm (un p.nm u x) l) [] (o++encs (outsE (e+1) n tag (rp p.nm u x)++outsP p.nm (e+1) (n+1) (tag+1) (un p.nm u x) l))
    rw[encs_app,List.append_assoc]
end Go.Proofs.YtdpmhkbhlbfbeaaGreatDoor.Los
end
section
namespace Go.Proofs.YtdpmhkbhlbfbeaaGreatDoor.Los
open CW RowKit Pdu
open Ses (St Doer m32 m32_id wireP encQ_eq Prm)
open Cli (Cl Ak Pq encs cdbP Run runC mxC)
open Lgn (LgP agP)
open Pip (cA pCmd lgS lgC fits_small)
def asksL (sent:Bool) (tag:Int):List Ask->List Ak
 |[]=>[]
 |x::l=>⟨tag,cbX x,dsX x,[],sent⟩::asksL sent (tag+1) l
theorem asksL_len (sent:Bool):∀(l:List Ask) (tag:Int),(asksL sent tag l).length=l.length
 |[],_=>rfl
 |x::l,tag=>by simp [asksL,asksL_len sent l]
theorem asksL_app (sent:Bool):∀(l l':List Ask) (tag:Int),asksL sent tag (l++l')=asksL sent tag l++asksL sent (tag+l.length) l'
 |[],l',tag=>by simp [asksL]
 |x::l,l',tag=>by
  have:tag+1+(l.length:Int)=tag+(((x::l).length:Nat):Int):=by simp;omega
  simp only[List.cons_append,asksL,asksL_app sent l l',this]
theorem ak_ok (x:Ask) {tag:Int} (ht:0<=tag/\tag < 1000000) (hv:List UInt8) (sent:Bool):Cli.AkOk ⟨tag,cbX x,dsX x,hv,sent⟩:=by
 obtain⟨cmR,W⟩:=plain_wr x
 exact⟨fits_small (n:=tag) ht.1 (by omega),by have:=W.hds;show(dsX x).length<=512;omega,W.hcb⟩
theorem asksL_ok (sent:Bool):∀(l:List Ask) (tag:Int),0<=tag/\tag+l.length < 1000000->∀a∈asksL sent tag l,Cli.AkOk a
 |[],_,_,a,ha=>by cases ha
 |x::l,tag,ht,a,ha=>by
  have hl:(((x::l).length:Nat):Int)=(l.length:Int)+1:=by simp
  rcases List.mem_cons.1 ha with rfl|ha
  ·exact ak_ok x (by omega) _ _
  ·exact asksL_ok sent l (tag+1) (by omega) a ha
variable {sen:List UInt8->Int×Int×Int×Int} {lg:Cl->Pd->List UInt8->Cl}
theorem pos_head {a:Ak} {L:List Ak}:Cli.posOf (a::L) a.tag=some 0:=by
 have e:Cli.fidx (a::L) a.tag=0:=by
  show List.findIdx (λw:Ak=>w.tag==a.tag) (a::L)=0
  rw[List.findIdx_cons,beq_self_eq_true];rfl
 unfold Cli.posOf;rw[e];simp
theorem takeH_data {c:Cl} {a:Ak} {L:List Ak} {p:Pd} {ds:List UInt8} (hop:c.op=true) (hL:c.L=a::L) (hp:p.op=37) (ht:p.tag=a.tag) (ho:p.off=(a.hv.length:Int)) (hl:a.hv.length < 4096):
 Cli.take sen lg c p ds={mxC c p with L:={a with hv:=a.hv++ds}::L}:=by
 rw[Cli.take_act,if_neg (by rw[hop];simp),if_neg (by rw[hp];decide)]
 have hm:(mxC c p).L=a::L:=by unfold mxC;split<;>exact hL
 have h1:Cli.posOf (mxC c p).L p.tag=some 0:=by rw[hm,ht];exact pos_head
 have h2:(mxC c p).L[0]? =some a:=by rw[hm];rfl
 unfold Cli.act
 rw[h1]
 dsimp only
 rw[h2]
 dsimp only
 rw[if_neg (by rw[hp];decide),if_pos hp,if_pos ⟨ho,hl⟩,hm]
 rfl
theorem takeH_resp {c:Cl} {a:Ak} {L:List Ak} {p:Pd} {ds:List UInt8} (hop:c.op=true) (hL:c.L=a::L) (hp:p.op=33) (ht:p.tag=a.tag):
 ∃R:Int×Ses.Rp,(R.1=a.tag/\R.2.st=p.st/\R.2.d=a.hv)/\Cli.take sen lg c p ds={mxC c p with L:=L,done:=c.done++[R]}:=by
 rw[Cli.take_act,if_neg (by rw[hop];simp),if_neg (by rw[hp];decide)]
 have hm:(mxC c p).L=a::L/\(mxC c p).done=c.done:=by unfold mxC;split<;>exact⟨hL,rfl⟩
 have h1:Cli.posOf (mxC c p).L p.tag=some 0:=by rw[hm.1,ht];exact pos_head
 have h2:(mxC c p).L[0]? =some a:=by rw[hm.1];rfl
 unfold Cli.act
 rw[h1]
 dsimp only
 rw[h2]
 dsimp only
 rw[if_neg (by rw[hp];decide),if_neg (by rw[hp];decide),if_pos hp]
 unfold Cli.respond
 rw[hm.1,hm.2]
 exact⟨_,⟨rfl,rfl,rfl⟩,rfl⟩
variable {A:List (List UInt8)} {p:Prm}
theorem cokA (h:LgP p A) {E m t:Int} {L:List Ak} {D:List (Int×Ses.Rp)} (hE:0<=E/\E < 1000000) (hm:0<=m/\m < 1000000) (hL:∀a∈L,Cli.AkOk a) (hl:L.length<=1000) (hD:D.length<=1000000):Cli.COk (cA p E m t L [] D):=
 Pip.cOk h hE hm hL hl hD (by simp)
theorem hear1 (h:LgP p A) {Q:World->Prop} {E e n tag m t:Int} {x:Ask} {L:List Ak} {D:List (Int×Ses.Rp)} {r:Rp} (sh:Sh r) (hE:0<=E/\E < 1000000) (he:0<=e/\e < 90000) (hn:0<=n/\n < 90000) (ht:0<=tag/\tag < 90000) (hm:0<=m/\m<=e+15)
 (hL:∀a∈L,Cli.AkOk a) (hl:L.length<=900) (hD:D.length<=900000) (rest:List Pq):
 ∃R:Int×Ses.Rp,(R.1=tag/\R.2.st=r.st/\(r.st=0->R.2.d=r.d))/\(Run Q Sen.decS (lgC p) rest (cA p E (e+15) t L [] (D++[R]))->Run Q Sen.decS (lgC p) (outsE e n tag (ofR r)++rest) (cA p E m t (⟨tag,cbX x,dsX x,[],true⟩::L) [] D))/\
  runC Sen.decS (lgC p) (outsE e n tag (ofR r)++rest) (cA p E m t (⟨tag,cbX x,dsX x,[],true⟩::L) [] D)=runC Sen.decS (lgC p) rest (cA p E (e+15) t L [] (D++[R])):=by
 have em:m32 (e+15)=e+15:=m32_id (by omega) (by omega)
 have kR:=rsp_fits (e:=e) (n:=n) (tag:=tag) sh (by omega) (by omega) (by omega)
 have kD:=dat_fits (e:=e) (tag:=tag) sh (by omega) (by omega)
 have mxq:∀{m':Int} {L':List Ak} {q:Pd},q.mx=e+15->0<=m'->m'<=e+15->mxC (cA p E m' t L' [] D) q=cA p E (e+15) t L' [] D:=by
  intro m' L' q hq h0 h1
  rw[Cli.mxC_up h0 (by rw[hq];exact h1) (by rw[hq];omega),hq];rfl
 have okL:∀hv,∀a∈(⟨tag,cbX x,dsX x,hv,true⟩:Ak)::L,Cli.AkOk a:=λhv a ha=>by
  rcases List.mem_cons.1 ha with rfl|ha
  ·exact ak_ok x (by omega) _ _
  ·exact hL a ha
 have resp:∀(m':Int) (hv:List UInt8),0<=m'/\m'<=e+15->∃R:Int×Ses.Rp,(R.1=tag/\R.2.st=r.st/\R.2.d=hv)/\Cli.take Sen.decS (lgC p) (cA p E m' t (⟨tag,cbX x,dsX x,hv,true⟩::L) [] D) (qRsp e n tag (ofR r)).1 (qRsp e n tag (ofR r)).2=cA p E (e+15) t L [] (D++[R]):=by
  intro m' hv hm'
  obtain⟨R,hR1,hR⟩:=takeH_resp (sen:=Sen.decS) (lg:=lgC p) (c:=cA p E m' t (⟨tag,cbX x,dsX x,hv,true⟩::L) [] D) (a:=⟨tag,cbX x,dsX x,hv,true⟩) (L:=L) (p:=(qRsp e n tag (ofR r)).1) (ds:=(qRsp e n tag (ofR r)).2) rfl rfl rfl rfl
  refine⟨R,hR1,?_⟩
  rw[hR,mxq (show(qRsp e n tag (ofR r)).1.mx=e+15 from em) hm'.1 hm'.2]
  rfl
 have rrun:∀(m':Int) (hv:List UInt8),0<=m'/\m'<=e+15->∀R,Cli.take Sen.decS (lgC p) (cA p E m' t (⟨tag,cbX x,dsX x,hv,true⟩::L) [] D) (qRsp e n tag (ofR r)).1 (qRsp e n tag (ofR r)).2=cA p E (e+15) t L [] (D++[R])->
  Run Q Sen.decS (lgC p) rest (cA p E (e+15) t L [] (D++[R]))->Run Q Sen.decS (lgC p) (qRsp e n tag (ofR r)::rest) (cA p E m' t (⟨tag,cbX x,dsX x,hv,true⟩::L) [] D):=by
  intro m' hv hm' R hR hrun
  refine⟨rfl,rfl,kR,(by show(33:Int)≠38;decide),λ_=>⟨cokA h hE (by omega) (okL hv) (by simp;omega) (by omega),λq=>by exact absurd q (by show(33:Int)≠37;decide)⟩,λ_=>rfl,λq=>(by cases q),?_⟩
  rw[hR];exact hrun
 unfold outsE
 by_cases hd:(ofR r).st=0/\(ofR r).d≠[]
 ·rw[if_pos hd]
  obtain⟨R,hR1,hR⟩:=resp (e+15) (ofR r).d ⟨by omega,Int.le_refl _⟩
  have htk:Cli.take Sen.decS (lgC p) (cA p E m t (⟨tag,cbX x,dsX x,[],true⟩::L) [] D) (qDat e tag (ofR r)).1 (qDat e tag (ofR r)).2=cA p E (e+15) t (⟨tag,cbX x,dsX x,(ofR r).d,true⟩::L) [] D:=by
   rw[takeH_data (a:=⟨tag,cbX x,dsX x,[],true⟩) (L:=L) rfl rfl rfl rfl rfl (by simp),mxq (show(qDat e tag (ofR r)).1.mx=e+15 from em) hm.1 hm.2]
   rfl
  refine⟨R,⟨hR1.1,hR1.2.1,λ_=>hR1.2.2⟩,λhrun=>?_,?_⟩
  ·refine⟨rfl,rfl,kD,(by show(37:Int)≠38;decide),λ_=>⟨cokA h hE (by omega) (okL []) (by simp;omega) (by omega),λ_ i a h1 h2 h3=>?_⟩,λ_=>rfl,λq=>(by cases q),?_⟩
   ·have h1:Cli.posOf ((⟨tag,cbX x,dsX x,[],true⟩:Ak)::L) tag=some i:=h1
    have:=(pos_head (a:=⟨tag,cbX x,dsX x,[],true⟩) (L:=L)).symm.trans h1
    cases this
    have h2:some (⟨tag,cbX x,dsX x,[],true⟩:Ak)=some a:=h2
    cases h2
    exact⟨rfl,hd.2⟩
   ·rw[htk]
    exact rrun _ _ ⟨by omega,Int.le_refl _⟩ R hR hrun
  ·show runC Sen.decS (lgC p) rest (Cli.take Sen.decS (lgC p) (Cli.take Sen.decS (lgC p) _ (qDat e tag (ofR r)).1 (qDat e tag (ofR r)).2) (qRsp e n tag (ofR r)).1 (qRsp e n tag (ofR r)).2)=_
   rw[htk,hR]
 ·rw[if_neg hd]
  obtain⟨R,hR1,hR⟩:=resp m [] hm
  refine⟨R,⟨hR1.1,hR1.2.1,λh0=>?_⟩,λhrun=>rrun m [] hm R hR hrun,?_⟩
  ·rw[hR1.2.2]
   exact(Classical.byContradiction λhne=>hd ⟨h0,λe=>hne e.symm⟩)
  show runC Sen.decS (lgC p) rest (Cli.take Sen.decS (lgC p) _ (qRsp e n tag (ofR r)).1 (qRsp e n tag (ofR r)).2)=_
  rw[hR]
def Okd (nm:List UInt8):Int->Un->List Ask->List (Int×Ses.Rp)->Prop
 |_,_,[],D=>D=[]
 |tag,u,x::l,D=>∃R D',D=R::D'/\(R.1=tag/\R.2.st=(rp nm u x).st/\((rp nm u x).st=0->R.2.d=(rp nm u x).d))/\Okd nm (tag+1) (un nm u x) l D'
theorem Okd.len {nm:List UInt8}:∀{l:List Ask} {tag:Int} {u:Un} {D:List (Int×Ses.Rp)},Okd nm tag u l D->D.length=l.length
 |[],_,_,_,h=>by rw[show _=_ from h];rfl
 |x::l,_,_,_,h=>by
  obtain⟨R,D',rfl,_,h⟩:=h
  simp [Okd.len h]
theorem hear_all (h:LgP p A) {Q:World->Prop} {E t:Int} (hE:0<=E/\E < 1000000) {nm:List UInt8} (hnm:NmOk nm):∀(l:List Ask) (e n tag m:Int) (u:Un) (D:List (Int×Ses.Rp)),0<=e/\e+l.length < 90000->0<=n/\n+l.length < 90000->0<=tag/\tag+l.length < 90000->0<=m/\m<=e+15->l.length<=100->D.length+l.length<=1000->tyOk u->
 ∃(D':List (Int×Ses.Rp)) (m':Int),Okd nm tag u l D'/\((l=[]->m'=m)/\(l≠[]->m'=e+l.length+15))/\Run Q Sen.decS (lgC p) (outsP nm e n tag u l) (cA p E m t (asksL true tag l) [] D)/\
  runC Sen.decS (lgC p) (outsP nm e n tag u l) (cA p E m t (asksL true tag l) [] D)=cA p E m' t [] [] (D++D'):=by
 intro l
 induction l with
 |nil=>intro e n tag m u D he hn ht hm hl hD hu;exact⟨[],m,rfl,⟨λ_=>rfl,λh=>absurd rfl h⟩,⟨rfl,rfl⟩,by rw[List.append_nil];rfl⟩
 |cons x l ih=>
  intro e n tag m u D he hn ht hm hl hD hu
  have hL:(((x::l).length:Nat):Int)=(l.length:Int)+1:=by simp
  have hL':(x::l).length=l.length+1:=by simp
  rw[hL]at he hn ht
  rw[hL']at hl hD
  obtain⟨r,hr,sh⟩:=rp_sh nm hu x
  obtain⟨R,h0,h1,h2⟩:=hear1 (x:=x) (Q:=Q) h (E:=E) (e:=e+1) (n:=n) (tag:=tag) (m:=m) (t:=t) (L:=asksL true (tag+1) l) (D:=D) sh hE (by omega) (by omega) (by omega) (by omega) (asksL_ok true l (tag+1) (by omega)) (by rw[asksL_len];omega) (by omega) (outsP nm (e+1) (n+1) (tag+1) (un nm u x) l)
  obtain⟨D',m',q1,q2,q3,q4⟩:=ih (e+1) (n+1) (tag+1) (e+1+15) (un nm u x) (D++[R]) (by omega) (by omega) (by omega) (by omega) (by omega) (by simp;omega) (un_ty hnm hu x)
  refine⟨R::D',m',⟨R,D',rfl,by rw[hr];exact h0,q1⟩,⟨(λh=>by cases h),λ_=>?_⟩,?_,?_⟩
  ·by_cases hl0:l=[]
   ·rw[q2.1 hl0,hl0];simp
   ·rw[q2.2 hl0,hL];omega
  ·show Run Q Sen.decS (lgC p) (outsE (e+1) n tag (rp nm u x)++_) _
   rw[hr];exact h1 q3
  ·show runC Sen.decS (lgC p) (outsE (e+1) n tag (rp nm u x)++_) _=_
   rw[hr]
   refine h2.trans (q4.trans ?_)
   rw[List.append_assoc];rfl
theorem send_all (h:LgP p A) {m t:Int} (him:p.im=true):∀(l l':List Ask) (E tag0:Int) (say:List UInt8) (D:List (Int×Ses.Rp)),0<=E/\E+l.length<=m+1->m < 1000->0<=tag0/\tag0+l'.length+l.length < 90000->
 Cli.send (cA p E m t (asksL true tag0 l'++asksL false (tag0+l'.length) l) say D) l'.length l.length=cA p (E+l.length) m t (asksL true tag0 (l'++l)) (say++encs (cmdsP E (tag0+l'.length) l)) D:=by
 intro l
 induction l with
 |nil=>intro l' E tag0 say D hE hm ht;simp [Cli.send,asksL,cmdsP,encs]
 |cons x l ih=>
  intro l' E tag0 say D hE hm ht
  have hL:(((x::l).length:Nat):Int)=(l.length:Int)+1:=by simp
  rw[hL]at hE ht
  have hlen:(asksL true tag0 l').length=l'.length:=asksL_len _ _ _
  have hget:(cA p E m t (asksL true tag0 l'++asksL false (tag0+l'.length) (x::l)) say D).L[l'.length]? =some ⟨tag0+l'.length,cbX x,dsX x,[],false⟩:=by
   show(asksL true tag0 l'++asksL false (tag0+l'.length) (x::l))[l'.length]? =_
   rw[List.getElem?_append_right (by omega),hlen,Nat.sub_self];rfl
  have hq:=cmd_pq x (e:=E) (tag:=tag0+l'.length) ⟨hE.1,by omega⟩ ⟨by omega,by omega⟩
  have e1:m32 (E+1)=E+1:=m32_id (by omega) (by omega)
  have hgap:¬Cli.gap E m < 0:=by rw[Ses.gap_small hE.1 (by omega) (by omega)];omega
  show Cli.send (cA p E m t (asksL true tag0 l'++asksL false (tag0+l'.length) (x::l)) say D) l'.length (l.length+1)=_
  unfold Cli.send
  rw[hget]
  dsimp only
  rw[if_neg (by decide),if_neg (show ¬Cli.gap (cA p E m t (asksL true tag0 l'++asksL false (tag0+l'.length) (x::l)) say D).sn (cA p E m t (asksL true tag0 l'++asksL false (tag0+l'.length) (x::l)) say D).mx < 0 from hgap)]
  have es:({Cli.tell (cA p E m t (asksL true tag0 l'++asksL false (tag0+l'.length) (x::l)) say D) (cdbP {zP with op:=1,fin:=true,tag:=tag0+l'.length,sn:=E} (cbX x)) (if(Pip.takP p).im then dsX x else[])with
   sn:=m32 (E+1),L:=(asksL true tag0 l'++asksL false (tag0+l'.length) (x::l)).set l'.length ⟨tag0+l'.length,cbX x,dsX x,[],true⟩}:Cl)=
   cA p (E+1) m t (asksL true tag0 (l'++[x])++asksL false (tag0+(l'++[x]).length) l) (say++encP (pCmd E (tag0+l'.length) (cbX x)) (dsX x)) D:=by
   have h1:(if(Pip.takP p).im then dsX x else[])=dsX x:=by show(if p.im=true then _ else _)=_;rw[if_pos him]
   have h2:(asksL true tag0 l'++asksL false (tag0+l'.length) (x::l)).set l'.length ⟨tag0+l'.length,cbX x,dsX x,[],true⟩=asksL true tag0 (l'++[x])++asksL false (tag0+(l'++[x]).length) l:=by
    have e3:(tag0+l'.length:Int)+1=tag0+(((l'++[x]).length:Nat):Int):=by simp;omega
    rw[List.set_append_right _ _ (by omega),hlen,Nat.sub_self,asksL_app]
    show asksL true tag0 l'++(⟨tag0+l'.length,cbX x,dsX x,[],true⟩::asksL false (tag0+l'.length+1) l)=asksL true tag0 l'++[⟨tag0+l'.length,cbX x,dsX x,[],true⟩]++asksL false (tag0+((l'++[x]).length:Nat)) l
    rw[e3];simp
   rw[h1,h2,e1]
   unfold Cli.tell
   rw[encQ_eq hq.k hq.n]
   rfl
  have es':=es
  show Cli.send ({Cli.tell (cA p E m t (asksL true tag0 l'++asksL false (tag0+l'.length) (x::l)) say D) (cdbP {zP with op:=1,fin:=true,tag:=tag0+l'.length,sn:=E} (cbX x)) (if(Pip.takP p).im then dsX x else[])with
   sn:=m32 (E+1),L:=(asksL true tag0 l'++asksL false (tag0+l'.length) (x::l)).set l'.length ⟨tag0+l'.length,cbX x,dsX x,[],true⟩}:Cl) (l'.length+1) l.length=_
  rw[es']
  have e4:l'.length+1=(l'++[x]).length:=by simp
  rw[e4,ih (l'++[x]) (E+1) tag0 _ D (by omega) hm (by simp;omega)]
  have a1:E+1+(l.length:Int)=E+(((x::l).length:Nat):Int):=by rw[hL];omega
  have a2:l'++[x]++l=l'++x::l:=by simp
  have a3:(tag0+l'.length:Int)+1=tag0+(((l'++[x]).length:Nat):Int):=by simp;omega
  rw[a1,a2,←a3]
  congr 1
  show(say++encP (pCmd E (tag0+l'.length) (cbX x)) (dsX x))++encs (cmdsP (E+1) (tag0+l'.length+1) l)=say++encs ((pCmd E (tag0+l'.length) (cbX x),dsX x)::cmdsP (E+1) (tag0+l'.length+1) l)
  rw[encs_cons,List.append_assoc]
theorem out_all (h:LgP p A) {m t:Int} (him:p.im=true) {lt:Prm->List UInt8} {l:List Ask} {E tag0:Int} {D:List (Int×Ses.Rp)} (hE:0<=E/\E+l.length<=m+1) (hm:m < 1000) (ht:0<=tag0/\tag0+l.length < 90000):
 Cli.outC lt (cA p E m t (asksL false tag0 l) [] D)=(cA p (E+l.length) m t (asksL true tag0 l) [] D,encs (cmdsP E tag0 l)):=by
 have hs:=send_all (m:=m) (t:=t) h him l [] E tag0 [] D hE hm (by simp;omega)
 have e0:(tag0+(([]:List Ask).length:Nat):Int)=tag0:=by simp
 rw[e0]at hs
 have hs:Cli.send (cA p E m t (asksL false tag0 l) [] D) 0 l.length=cA p (E+l.length) m t (asksL true tag0 l) ([]++encs (cmdsP E tag0 l)) D:=hs
 unfold Cli.outC
 have hl:(cA p E m t (asksL false tag0 l) [] D).L.length=l.length:=asksL_len _ _ _
 show(if false=true then _ else({(if true=false then _ else if true=true then Cli.send (cA p E m t (asksL false tag0 l) [] D) 0 (cA p E m t (asksL false tag0 l) [] D).L.length else _)with say:=[]},(if true=false then _ else if true=true then Cli.send (cA p E m t (asksL false tag0 l) [] D) 0 (cA p E m t (asksL false tag0 l) [] D).L.length else _).say))=_
 rw[if_neg (by decide),if_neg (by decide),if_pos rfl,hl,hs,List.nil_append]
 rfl
theorem send_sent {c:Cl}:∀(n i:Nat),(∀a∈c.L,a.sent=true)->Cli.send c i n=c
 |0,_,_=>rfl
 |n+1,i,hs=>by
  unfold Cli.send
  cases hg:c.L[i]? with
  |none=>rfl
  |some a=>
   dsimp only
   rw[if_pos (hs a (List.mem_of_getElem? hg))]
   exact send_sent n (i+1) hs
theorem out_none {lt:Prm->List UInt8} {E m t:Int} {L:List Ak} {D:List (Int×Ses.Rp)} (hs:∀a∈L,a.sent=true):Cli.outC lt (cA p E m t L [] D)=(cA p E m t L [] D,[]):=by
 unfold Cli.outC
 show(if false=true then _ else({(if true=false then _ else if true=true then Cli.send (cA p E m t L [] D) 0 L.length else _)with say:=[]},(if true=false then _ else if true=true then Cli.send (cA p E m t L [] D) 0 L.length else _).say))=_
 rw[if_neg (by decide),if_neg (by decide),if_pos rfl,send_sent _ _ hs]
 rfl
theorem asksL_sent:∀(l:List Ask) (tag:Int),∀a∈asksL true tag l,a.sent=true
 |[],_,a,ha=>by cases ha
 |x::l,tag,a,ha=>by
  rcases List.mem_cons.1 ha with rfl|ha
  ·rfl
  ·exact asksL_sent l _ a ha
end Go.Proofs.YtdpmhkbhlbfbeaaGreatDoor.Los
end
