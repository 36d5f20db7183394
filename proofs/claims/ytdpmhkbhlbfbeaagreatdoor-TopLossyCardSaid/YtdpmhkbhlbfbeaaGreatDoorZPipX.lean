/- A part of the proof. -/
import Derived.Test.YtdpmhkbhlbfbeaaGreatDoorZPlnX
set_option linter.unusedSimpArgs false
set_option linter.unusedVariables false
set_option maxRecDepth 100000
section
namespace Go.Proofs.YtdpmhkbhlbfbeaaGreatDoor.Pip
open CW RowKit Pdu
open Ses (Wire WireOk Doer St SAt Cm Rp rCm RpAt encQ_eq)
open Cli (Cl Pq encs CAt SenOk runC)
theorem Step.low {S S':Fp} {w w':World} {B:Nat} (st:Step S w w' S') (hB:B<=w.heap.size) (h:∀k, S k->B<=k):Below B w w':=
 ⟨st.os,st.tape,st.output,st.size,λk hk=>st.block k (by omega) (λhs=>by have:=h k hs;omega)⟩
theorem Step.lo {S S':Fp} {w w':World} {B:Nat} (st:Step S w w' S') (hB:B<=w.heap.size) (h:∀k, S k->B<=k):∀k,S' k->B<=k:=λk hk=>(st.fp k hk).elim (h k) (λq=>Nat.le_trans hB q)
structure PAt (B:Nat) (Q:World->Prop) (K:Doer) (A:List (List UInt8)) (w:World) (gc gs:Nat) (Sc Ss:Fp) (c:Cl) (x:St K.U):Prop where
 c:CAt w gc Sc [] c
 s:SAt K A w gs Ss [] x
 ap:∀k,Sc k->¬Ss k
 lc:∀k,Sc k->B<=k
 ls:∀k,Ss k->B<=k
 hB:B<=w.heap.size
 env:∀w',Below B w w'->Q w'
variable {B:Nat} {Q:World->Prop} {W:Wire} {K:Doer} {A:List (List UInt8)} {w w':World} {gc gs:Nat} {Sc Ss Sc' Ss':Fp} {c c':Cl} {x x':St K.U}
theorem PAt.envS {S S':Fp} (h:PAt B Q K A w gc gs Sc Ss c x) (st:Step S w w' S') (hl:∀k, S k->B<=k):∀w2,Below B w' w2->Q w2:=λw2 b=>h.env w2 ((Step.low st h.hB hl).trans b)
theorem PAt.grow (h:PAt B Q K A w gc gs Sc Ss c x) (g:Grow w w'):PAt B Q K A w' gc gs Sc Ss c x:=
 ⟨h.c.grow g,h.s.grow g,h.ap,h.lc,h.ls,Nat.le_trans h.hB g.size,λw2 b=>h.env w2 ((g.mono h.hB).trans b)⟩
theorem PAt.apart {T T':Fp} (h:PAt B Q K A w gc gs Sc Ss c x) (st:Step T w w' T') (h1:∀k,Sc k->¬T k) (h2:∀k,Ss k->¬T k) (h3:∀k,T k->B<=k):PAt B Q K A w' gc gs Sc Ss c x:=
 ⟨h.c.apart st h1,h.s.apart st h2,h.ap,h.lc,h.ls,Nat.le_trans h.hB st.size,h.envS st h3⟩
theorem PAt.cl (h:PAt B Q K A w gc gs Sc Ss c x) (st:Step Sc w w' Sc') (hc:CAt w' gc Sc' [] c'):PAt B Q K A w' gc gs Sc' Ss c' x:=
 ⟨hc,h.s.apart st (λk hk hs=>h.ap k hs hk),λk hk hs=>(st.fp k hk).elim (λq=>h.ap k q hs) (λq=>by have:=h.s.lt k hs;omega),Step.lo st h.hB h.lc,h.ls,Nat.le_trans h.hB st.size,h.envS st h.lc⟩
theorem PAt.se (h:PAt B Q K A w gc gs Sc Ss c x) (st:Step Ss w w' Ss') (hs:SAt K A w' gs Ss' [] x'):PAt B Q K A w' gc gs Sc Ss' c x':=
 ⟨h.c.apart st h.ap,hs,λk hk hs=>(st.fp k hs).elim (λq=>h.ap k hk q) (λq=>by have:=h.c.lt k hk;omega),h.lc,Step.lo st h.hB h.ls,Nat.le_trans h.hB st.size,h.envS st h.ls⟩
variable {sen:List UInt8->Int×Int×Int×Int} {lgc:Cl->Pd->List UInt8->Cl} {lg:St K.U->Pd->List UInt8->St K.U}
theorem sPart_c (HW:WireOk W) (h:PAt B Q K A w gc gs Sc Ss c x) {src:Value} {bs:List UInt8} (hr:RdB w src bs) (hro:bs≠[]->∀q,src.ownBlock=some q->¬Ss q) (hl:x.s.rd.length+bs.length<=1000000)
 (hc:x.s.cl=false) (hre:x.s.re=0) (hs:decE (x.s.rd++bs)=3) {R:KV}
 (k:∀v w' Ss',Step Ss w w' Ss'->PAt B Q K A w' gc gs Sc Ss' c ({x with s:={x.s with rd:=x.s.rd++bs},o:=[]}:St K.U)->RdB w' v []->R v w'):
 Zs 30 #[zA gs,src] w R:=
 Ses.InPart_c HW (Q:=Q) (lg:=λa _ _=>a) h.s hr (λw' S' st=>h.envS st h.ls w' (Below.refl B w')) hro hl hc hre hs λv w' S' st h' r' _=>k v w' S' st (h.se st h') r'
theorem sLast_c (HW:WireOk W) (h:PAt B Q K A w gc gs Sc Ss c x) {src:Value} {bs:List UInt8} {p:Pd} {ds:List UInt8} (hr:RdB w src bs) (hro:bs≠[]->∀q,src.ownBlock=some q->¬Ss q) (hl:x.s.rd.length+bs.length<=1000000)
 (hc:x.s.cl=false) (hre:x.s.re=0) (hf:PdFits p) (hk:okP p=true) (hn:ds.length<=4096) (he:x.s.rd++bs=encP p ds)
 (htk:x.s.op=true->Ses.SOk x.s/\Ses.TkOk W K {x with s:={x.s with rd:=[]},o:=[]} p ds) (hlo:x.s.op=false->Ses.LogOk Q K A lg {x with s:={x.s with rd:=[]},o:=[]} p ds)
 {y:St K.U} (hy:y=Ses.one W K.step lg {x with s:={x.s with rd:=[]},o:=[]} p ds) (hrd:y.s.rd=[]) (hye:y.s.re=0) (hyo:y.o.length<=900000000) {R:KV}
 (k:∀v w' Ss',Step Ss w w' Ss'->PAt B Q K A w' gc gs Sc Ss' c ({y with o:=[]}:St K.U)->RdB w' v y.o->R v w'):
 Zs 30 #[zA gs,src] w R:=
 Ses.InLast_c HW (Q:=Q) (lg:=lg) h.s hr (λw' S' st=>h.envS st h.ls w' (Below.refl B w')) hro hl hc hre hf hk hn he htk hlo hy hrd hye hyo λv w' S' st h' r' _=>k v w' S' st (h.se st h') r'
theorem cAll_c (HS:SenOk sen) (h:PAt B Q K A w gc gs Sc Ss c x) {src:Value} {qs:List Pq} (hr:RdB w src (encs qs)) (hl:(encs qs).length<=1000000) (hrd:c.rd=[]) (hc:c.cl=false) (hrun:Cli.Run Q sen lgc qs c) {R:KV}
 (k:∀w' Sc',Step Sc w w' Sc'->PAt B Q K A w' gc gs Sc' Ss ({runC sen lgc qs c with rd:=[]}:Cl) x->R (.tuple #[]) w'):
 Zs 32 #[zA gc,src] w R:=
 Cli.InAll_c HS (Q:=Q) (lg:=lgc) h.c (λw' S' st=>h.envS st h.lc w' (Below.refl B w')) hr hl hrd hc hrun λw' S' st h'=>k w' S' st (h.cl st h')
theorem cOut_c (h:PAt B Q K A w gc gs Sc Ss c x) {lt:Ses.Prm->List UInt8} (ok:c.cl=false->c.op=true->Cli.COk c) (hsay:c.say.length<=1000000) (hlt:c.cl=false->c.asked=false->Cli.AskOk Q lt c.p/\(lt c.p).length<=4096) {R:KV}
 (k:∀v w' Sc',Step Sc w w' Sc'->PAt B Q K A w' gc gs Sc' Ss (Cli.outC lt c).1 x->RdB w' v (Cli.outC lt c).2->(∀q,v.ownBlock=some q->¬Sc' q/\¬Ss q/\(Sc q\/w.heap.size<=q))->R v w'):
 Zs 24 #[zA gc] w R:=
 Cli.Out_c (Q:=Q) h.c (λw' S' st=>h.envS st h.lc w' (Below.refl B w')) ok hsay hlt λv w' S' st h' r' o'=>k v w' S' st (h.cl st h') r' λq hq=>⟨(o' q hq).2,λhs=>(o' q hq).1.elim (λhc=>h.ap q hc hs) (λhn=>by have:=h.s.lt q hs;omega),(o' q hq).1⟩
theorem cDo_c (h:PAt B Q K A w gc gs Sc Ss c x) {cm:Cm} {cb xs:List UInt8} {dv:Value} (hc:c.cl=false) (hd:RdB w dv cm.d) (he:Cli.EncOk cm cb) (hx:Cli.DatOk cm xs) (hlen:c.L.length < 16) {R:KV}
 (k:∀w' Sc',Step Sc w w' Sc'->PAt B Q K A w' gc gs Sc' Ss (Cli.ask c cb xs) x->R (.tuple #[.int .u32 (Ses.m32 (c.tag+1)),.int .i64 0]) w'):
 Zs 7 #[zA gc,.agg (rCm cm dv)] w R:=
 Cli.Do_c h.c hc hd he hx hlen λw' S' st h'=>k w' S' st (h.cl st h')
end Go.Proofs.YtdpmhkbhlbfbeaaGreatDoor.Pip
end
section
namespace Go.Proofs.YtdpmhkbhlbfbeaaGreatDoor.Pip
open CW RowKit Pdu
open Ses (Wire WireOk Doer St SAt Cm Rp rCm RpAt encQ_eq)
open Cli (Cl Pq encs CAt SenOk runC)
structure Way (Q:World->Prop) (W:Wire) (K:Doer) (A:List (List UInt8)) (lg:St K.U->Pd->List UInt8->St K.U) (sen:List UInt8->Int×Int×Int×Int) (lgc:Cl->Pd->List UInt8->Cl) (p:Pd) (ds:List UInt8) (qs:List Pq) (c c':Cl) (x y:St K.U):Prop where
 pf:PdFits p
 pk:okP p=true
 pn:ds.length<=4096
 xcl:x.s.cl=false
 xre:x.s.re=0
 xrd:x.s.rd=[]
 xo:x.o=[]
 tk:x.s.op=true->Ses.SOk x.s/\Ses.TkOk W K x p ds
 lo:x.s.op=false->Ses.LogOk Q K A lg x p ds
 hy:{y with o:=encs qs}=Ses.one W K.step lg x p ds
 yrd:y.s.rd=[]
 yre:y.s.re=0
 yo:y.o=[]
 out:(encs qs).length<=1000000
 ccl:c.cl=false
 cre:c.re=0
 crd:c.rd=[]
 run:Cli.Run Q sen lgc qs c
 hc':c'={runC sen lgc qs c with rd:=[]}
end Go.Proofs.YtdpmhkbhlbfbeaaGreatDoor.Pip
end
section
namespace Go.Proofs.YtdpmhkbhlbfbeaaGreatDoor.Pip
open CW RowKit Pdu
open Ses (Wire WireOk Doer St SAt Cm Rp rCm RpAt encQ_eq wireP wireP_ok m32 m32_id newS Prm)
open Cli (Cl Ak Pq encs CAt SenOk runC askB cdbP)
open Lgn (askL ansL agP LgP neg_ask tak_ans ask_right ans_right oursP)
def sA {U:Type} (p:Prm) (e n:Int) (u:U):St U:=⟨⟨agP p,true,false,e,n,[],[],0⟩,u,[]⟩
def takP (p:Prm):Prm:={p with bu:=min 8192 p.bu}
def cA (p:Prm) (e m t:Int) (L:List Ak) (say:List UInt8) (D:List (Int×Rp)):Cl:=⟨takP p,[],0,true,false,true,e,m,t,L,say,D⟩
def cL (p:Prm) (t:Int) (L:List Ak):Cl:=⟨p,[],0,false,false,true,0,0,t,L,[],[]⟩
abbrev pLog:Pd:={zP with op:=3,fin:=true,sn:=1}
def qLog (p:Prm):Pq:=({zP with op:=35,fin:=true,sn:=1,exp:=2,mx:=17},Txt.encB (ansL p))
variable {K:Doer} {A:List (List UInt8)} {u:K.U} {p:Prm}
abbrev lgS {U:Type} (A:List (List UInt8)) (p:Prm):St U->Pd->List UInt8->St U:=Ses.lgT A (askL p)
abbrev lgC (p:Prm):Cl->Pd->List UInt8->Cl:=Cli.lgC (ansL p)
theorem one_login {U:Type} {W:Wire} {du:U->List UInt8->Cm->Rp×U} {u:U} (h:LgP p A):Ses.one W du (lgS A p) (newS u) pLog (askB p)={sA p 2 2 u with o:=encs [qLog p]}:=by
 have hn:=neg_ask h
 have ha:=(ans_right (p:=p)).2.1
 show Ses.lgT A (askL p) (newS u) pLog (askB p)=_
 unfold Ses.lgT
 rw[hn]
 rw[if_pos rfl]
 unfold Ses.sayN Ses.say
 have e2:m32 (pLog.sn+1)=2:=by decide
 dsimp only[newS]
 rw[encQ_eq (by simp [okP,known,zP]) ha.tot]
 simp only[List.nil_append]
 unfold sA encs qLog
 simp only[List.flatMap_cons,List.flatMap_nil,List.append_nil]
 rfl
theorem fits_small {n:Int} (h0:0<=n) (h1:n < 4294967296):Fits .u32 n:=by
 constructor<;>simp [IntKind.min,IntKind.max,IntKind.bits,IntKind.signed]<;>omega
theorem way_login (h:LgP p A) {t:Int} {L:List Ak}:Way Txt.Env wireP K A (lgS A p) Sen.decS (lgC p) pLog (askB p) [qLog p] (cL p t L) (cA p 2 17 t L [] []) (newS u) (sA p 2 2 u):=by
 obtain⟨a1,a2,a3,a4⟩:=ask_right h
 obtain⟨b1,b2,b3,b4⟩:=ans_right (p:=p)
 have hn:=neg_ask h
 have ht:=tak_ans h.bu h.dg
 have hrun:runC Sen.decS (lgC p) [qLog p] (cL p t L)=cA p 2 17 t L [] []:=by
  show Cli.take Sen.decS (lgC p) (cL p t L) (qLog p).1 (qLog p).2=_
  rw[Cli.take_act,if_pos (show(cL p t L).op=false from rfl)]
  show Cli.lgC (ansL p) (cL p t L) (qLog p).1 (qLog p).2=_
  unfold Cli.lgC
  show({cL p t L with p:=(Lgn.takN p (ansL p)).1,op:=true,sn:=(qLog p).1.exp,mx:=(qLog p).1.mx}:Cl)=_
  rw[ht];rfl
 have hlen:(encs [qLog p]).length<=1000000:=by
  have:encs [qLog p]=encP (qLog p).1 (Txt.encB (ansL p)):=by simp [encs,qLog]
  rw[this,encP_length]
  have:=b2.tot
  split<;>omega
 exact{
  pf:=⟨by decide,by decide,by decide,by decide,by decide,by decide,by decide,by decide,by decide⟩
  pk:=by decide
  pn:=a2.tot
  xcl:=rfl,xre:=rfl,xrd:=rfl,xo:=rfl
  tk:=λe=>by cases e
  lo:=λ_=>Ses.Login_c (L:=askL p) rfl rfl a1 a2 a3 a4 (by rw[hn];exact b2) (by rw[hn];exact b3) (by decide) (show Fits .u32 1 by decide) (by show([]:List UInt8).length<=_;simp)
  hy:=(one_login h).symm
  yrd:=rfl,yre:=rfl,yo:=rfl
  out:=hlen
  ccl:=rfl,cre:=rfl,crd:=rfl
  run:=⟨rfl,rfl,⟨⟨(by decide:Fits .i64 35),(by decide:Fits .i64 0),(by decide:Fits .i64 0),(by decide:Fits .u32 0),(by decide:Fits .u32 1),(by decide:Fits .u32 2),(by decide:Fits .u32 17),(by decide:Fits .u32 0),(by decide:Fits .u32 0)⟩,rfl,b2.tot⟩,(by show(35:Int)≠38;decide),(λe=>by cases e),(λr=>rfl),
   λ_ r=>Cli.Login_c rfl rfl rfl b1 b2 b3 b4 (by show(Lgn.takN p (ansL p)).2=0;rw[ht]),(by
    have e:Cli.take Sen.decS (lgC p) (cL p t L) (qLog p).1 (qLog p).2=cA p 2 17 t L [] []:=hrun
    show(Cli.take Sen.decS (lgC p) (cL p t L) (qLog p).1 (qLog p).2).cl=false/\_
    rw[e];exact⟨rfl,rfl⟩)⟩
  hc':=by rw[hrun];rfl}
end Go.Proofs.YtdpmhkbhlbfbeaaGreatDoor.Pip
end
section
namespace Go.Proofs.YtdpmhkbhlbfbeaaGreatDoor.Pip
open CW RowKit Pdu
open Ses (Wire WireOk Doer St SAt Cm Rp rCm RpAt encQ_eq wireP wireP_ok m32 m32_id newS Prm)
open Cli (Cl Ak Pq encs CAt SenOk runC askB cdbP)
open Lgn (askL ansL agP LgP)
variable {A:List (List UInt8)} {p:Prm}
theorem sOk (h:LgP p A) {e n:Int} (he:0<=e/\e < 1000000) (hn:0<=n/\n < 1000000) {L:List Ses.Wt} (hL:∀v∈L,Ses.WtOk v) (hl:L.length<=16):Ses.SOk (⟨agP p,true,false,e,n,L,[],0⟩:Ses.Ses):=by
 have h1:=h.md
 have h2:=h.bu
 exact⟨fits_small he.1 (by show e < _;omega),fits_small hn.1 (by show n < _;omega),by show 512<=min 4096 p.md/\min 4096 p.md<=1000000000;omega,by show min 8192 p.bu<=_;omega,hL,hl⟩
theorem cOk (h:LgP p A) {e m t:Int} {L:List Ak} {D:List (Int×Rp)} (he:0<=e/\e < 1000000) (hm:0<=m/\m < 1000000) (hL:∀a∈L,Cli.AkOk a) (hl:L.length<=1000) (hD:D.length<=1000000) {say:List UInt8} (hs:say.length<=900000000):Cli.COk (cA p e m t L say D):=by
 have h1:=h.md
 exact⟨fits_small he.1 (by show e < _;omega),fits_small hm.1 (by show m < _;omega),by show 512<=p.md/\p.md<=1000000000;omega,hL,hl,hs,hD⟩
abbrev pCmd (e tag:Int) (cb:List UInt8):Pd:=cdbP {zP with op:=1,fin:=true,tag:=tag,sn:=e} cb
end Go.Proofs.YtdpmhkbhlbfbeaaGreatDoor.Pip
end
