/- A part of the proof. -/
import Derived.Test.YtdpmhkbhlbfbeaaGreatDoorZPduX
import Derived.Test.YtdpmhkbhlbfbeaaGreatDoorZGC
set_option linter.unusedSimpArgs false
set_option linter.unusedVariables false
set_option maxRecDepth 100000
section
namespace Go.Proofs.YtdpmhkbhlbfbeaaGreatDoor.Ses
open CW RowKit Pdu
structure Rp where
 st:Int
 key:Int
 code:Int
 d:List UInt8
 info:Int
structure Cm where
 kind:Int
 pos:Nat
 n:Nat
 key:Int
 new:Int
 typ:Int
 fo:Bool
 d:List UInt8
structure Wt where
 tag:Int
 c:Cm
 hv:List UInt8
 out:Nat
 want:Nat
structure Prm where
 nm:List UInt8
 md:Nat
 bu:Nat
 im:Bool
 dg:Bool
structure Ses where
 p:Prm
 op:Bool
 cl:Bool
 exp:Int
 sn:Int
 L:List Wt
 rd:List UInt8
 re:Int
structure St (U:Type) where
 s:Ses
 u:U
 o:List UInt8
def wrong (code:Int):Rp:=⟨2,5,code,[],0⟩
abbrev m32 (n:Int):Int:=IntKind.wrap .u32 n
def encQ (p:Pd) (ds:List UInt8):List UInt8:=if okP p=true/\ds.length<=4096 then encP p ds else[]
structure Wire where
 sen:Int->Int->Int->List UInt8
 two:List UInt8->Option (Int×Int)
 cmd:List UInt8->Cm×Int
 out:Cm->Nat
section
variable {U:Type} (W:Wire) (du:U->List UInt8->Cm->Rp×U)
def say (x:St U) (p:Pd) (ds:List UInt8):St U:={x with o:=x.o++encQ {p with exp:=x.s.exp,mx:=m32 (x.s.exp+15)} ds}
def sayN (x:St U) (op:Int) (p:Pd) (ds:List UInt8):St U:=say {x with s:={x.s with sn:=m32 (x.s.sn+1)}} {p with op:=op,sn:=x.s.sn} ds
def clos (x:St U):St U:={x with s:={x.s with cl:=true,op:=false,L:=[],rd:=[],re:=0}}
def respond (x:St U) (tag:Int) (r:Rp) (n:Nat):St U:=sayN x 33 {zP with tag:=tag,st:=r.st,fin:=true,ln:=m32 (n:Int)} (if r.st=2 then W.sen r.key r.code r.info else[])
def fin (x:St U) (tag:Int) (c:Cm):St U:=
 let q:=du x.u x.s.p.nm c
 let y:St U:={x with u:=q.2}
 let z:St U:=if q.1.st=0/\q.1.d≠[] then say y {zP with op:=37,tag:=tag,fin:=true} q.1.d else y
 respond W z tag q.1 (if q.1.st=0 then q.1.d.length else 0)
def isPr (k:Int):Bool:=decide (10<=k)&&decide (k<=15)
def full (c:Cm) (ds:List UInt8):Option Cm:=
 if isPr c.kind then(match W.two ds with|none=>none|some q=>some {c with key:=q.1,new:=q.2})else some {c with d:=ds}
def done (x:St U) (tag:Int) (c:Cm) (ds:List UInt8):St U:=
 match full W c ds with
 |none=>respond W x tag (wrong 9728) 0
 |some c=>fin W du x tag c
def fidx (L:List Wt) (tag:Int):Nat:=L.findIdx λw=>w.tag==tag
def posOf (L:List Wt) (tag:Int):Option Nat:=if fidx L tag < L.length then some (fidx L tag)else none
def setW (x:St U) (i:Nat) (w:Wt):St U:={x with s:={x.s with L:=x.s.L.set i w}}
def dropW (x:St U) (i:Nat):St U:={x with s:={x.s with L:=x.s.L.eraseIdx i}}
def ready (x:St U) (i:Nat) (w:Wt):St U:=
 let n:=min (w.out - w.hv.length) x.s.p.bu
 say (setW x i {w with want:=n}) {zP with op:=49,tag:=w.tag,off:=(w.hv.length:Int),ln:=(n:Int)} []
def command (x:St U) (p:Pd) (ds:List UInt8):St U:=
 let q:=W.cmd p.cdb
 let out:=W.out q.1
 if q.2≠0 then respond W x p.tag (wrong q.2) 0
 else if out=0 then done W du x p.tag q.1 []
 else if(ds≠[]/\x.s.p.im=false)\/out < ds.length then respond W x p.tag (wrong 9216) 0
 else if ds.length=out then done W du x p.tag q.1 ds
 else if(posOf x.s.L p.tag).isSome then respond W x p.tag (wrong 9216) 0
 else if 16<=x.s.L.length then respond W x p.tag ⟨8,0,0,[],0⟩ 0
 else ready {x with s:={x.s with L:=x.s.L++[⟨p.tag,q.1,ds,out,0⟩]}} x.s.L.length ⟨p.tag,q.1,ds,out,0⟩
def reject (x:St U) (p:Pd) (ds:List UInt8):St U:=say x {zP with op:=63,tag:=p.tag} ((encQ p ds).take 48)
def dataS (x:St U) (p:Pd) (ds:List UInt8):St U:=
 match posOf x.s.L p.tag with
 |none=>reject x p ds
 |some i=>match x.s.L[i]? with
  |none=>x
  |some w=>
   if p.off≠(w.hv.length:Int)\/w.want < ds.length then reject x p ds
   else
    let v:Wt:={w with hv:=w.hv++ds,want:=w.want - ds.length}
    if p.fin=false/\0 < v.want then setW x i v
    else if v.hv.length < v.out then ready x i v
    else done W du (dropW x i) v.tag v.c v.hv
def reset:Cm:=⟨18,0,0,0,0,0,false,[]⟩
def manY (x:St U) (p:Pd):St U×Int:=
 if p.fl=1 then(match posOf x.s.L p.off with|none=>(x,1)|some i=>(dropW x i,0))
 else if p.fl=2 then({x with s:={x.s with L:=[]}},0)
 else if p.fl=5 then({x with s:={x.s with L:=[]},u:=(du x.u x.s.p.nm reset).2},0)
 else(x,255)
def manage (x:St U) (p:Pd):St U:=sayN (manY du x p).1 34 {zP with tag:=p.tag,st:=(manY du x p).2} []
def take (x:St U) (p:Pd) (ds:List UInt8):St U:=
 if p.op=1 then(if p.sn=x.s.exp then command W du {x with s:={x.s with exp:=m32 (x.s.exp+1)}} p ds else x)
 else if p.op=5 then dataS W du x p ds
 else if p.op=0 then sayN x 32 {zP with tag:=p.tag} ds
 else if p.op=2 then manage du x p
 else if p.op=6 then clos (sayN x 38 {zP with tag:=p.tag} [])
 else reject x p ds
variable (lg:St U->Pd->List UInt8->St U)
def one (x:St U) (p:Pd) (ds:List UInt8):St U:=if x.s.op then take W du x p ds else lg x p ds
def loop:Nat->St U->St U
 |0,x=>x
 |n+1,x=>
  if decE x.s.rd=0 then
   let y:=one W du lg {x with s:={x.s with rd:=x.s.rd.drop (decN x.s.rd).toNat}} (pdOf x.s.rd) (decD x.s.rd)
   if y.s.cl then y else loop n y
  else if decE x.s.rd=3 then x else clos x
def inp (x:St U) (bs:List UInt8):St U:=
 if x.s.cl then{x with o:=[]} else loop W du lg (x.s.rd.length+bs.length+1) {x with s:={x.s with rd:=x.s.rd++bs},o:=[]}
end
end Go.Proofs.YtdpmhkbhlbfbeaaGreatDoor.Ses
end
section
namespace Go.Proofs.YtdpmhkbhlbfbeaaGreatDoor.Ses
open CW RowKit Pdu
abbrev tSes:TypeId:=102
abbrev tWt:TypeId:=211
abbrev tRd:TypeId:=139
abbrev nilV:Value:=.slice none 0 0
abbrev Sl:=Option Addr×Nat×Nat
abbrev sl (a:Sl):Value:=.slice a.1 a.2.1 a.2.2
theorem sl_of {w:World} {v:Value} {xs:List Value} (h:Rd w v xs):∃a:Sl,v=sl a:=by
 obtain⟨a,cap,rfl,_⟩:=h;exact⟨(a,xs.length,cap),rfl⟩
abbrev rCm (c:Cm) (d:Value):Array Value:= #[.int .i64 c.kind,.int .i64 (c.pos:Int),.int .i64 (c.n:Int),d,.int .u64 c.key,.int .u64 c.new,.int .i64 c.typ,.bool c.fo]
abbrev rRp (r:Rp) (d:Value):Array Value:= #[.int .i64 r.st,.int .i64 r.key,.int .i64 r.code,d,.int .i64 r.info]
def EW:Enc (Wt×Sl):=⟨12,λq=>[.int .u32 q.1.tag,.int .i64 q.1.c.kind,.int .i64 (q.1.c.pos:Int),.int .i64 (q.1.c.n:Int),nilV,.int .u64 q.1.c.key,.int .u64 q.1.c.new,.int .i64 q.1.c.typ,.bool q.1.c.fo,sl q.2,.int .i64 (q.1.out:Int),.int .i64 (q.1.want:Int)],λ_=>rfl,by omega,λ_=>rfl⟩
def ET:Enc (List UInt8):=⟨1,λl=>[.string (textOf l)],λ_=>rfl,by omega,λ_=>rfl⟩
def RpAt (w w':World) (v:Value) (r:Rp):Prop:=∃dv,v= .agg (rRp r dv)/\RdB w' dv r.d/\NewV w dv
structure RpOk (r:Rp):Prop where
 st:0<=r.st/\r.st<=255
 d:r.d.length<=512
 key:Fits .i64 r.key
 code:Fits .i64 r.code
 info:Fits .i64 r.info
structure Doer where
 U:Type
 fid:FuncId
 first:Array Value
 captured:Array Value
 body:(Tryz.prog.funcs[fid]?).map (λfn=>fn.body.isSome)=some true
 At:World->Fp->U->Prop
 step:U->List UInt8->Cm->Rp×U
 Ok:U->List UInt8->Cm->Prop
 stable:∀{w w':World} {F:Fp} {u:U},At w F u->w.heap.size<=w'.heap.size->(∀k,F k->w'.heap[k]? =w.heap[k]?)->At w' F u
 lt:∀{w:World} {F:Fp} {u:U},At w F u->InW w F
 rp:∀{u:U} {n:List UInt8} {c:Cm},Ok u n c->RpOk (step u n c).1
 spec:∀{w:World} {F:Fp} {u:U} {n:List UInt8} {c:Cm} {dv:Value} {R:KV},At w F u->Ok u n c->RdB w dv c.d->
  (∀v w' F',Step F w w' F'->At w' F' (step u n c).2->RpAt w w' v (step u n c).1->R v w')->
  Zs fid (app3 first #[.string (textOf n),.agg (rCm c dv)] captured) w R
abbrev Doer.f (K:Doer):Value:=.func (.func K.fid) K.first K.captured
abbrev rS (f:Value) (acl:Value) (gr:Nat) (s:Ses) (lv tv:Value):Array Value:= #[acl,f,zA gr,.string (textOf s.p.nm),.int .i64 (s.p.md:Int),.int .i64 (s.p.bu:Int),.bool s.p.im,.bool s.p.dg,.bool s.op,.bool s.cl,.int .u32 s.exp,.int .u32 s.sn,lv,tv]
abbrev Col:=Nat->Nat
abbrev Pt (S :Fp) (κ:Col) (c:Nat):Fp:=λk=> S k/\κ k=c
def reC (κ:Col) (w:World) (c:Nat):Col:=λk=>if k < w.heap.size then κ k else c
def reS (S T:Fp):Fp:=λk=> S k\/T k
structure Rest (K:Doer) (w:World) (κ:Col) (S :Fp) (g gr:Nat) (acl rv lv tv:Value) (hs:List Sl) (FU:Fp) (A:List (List UInt8)) (bl:List (Value×List UInt8)) (L:List Wt) (rd:List UInt8) (re:Int) (o:List UInt8) (u:K.U):Prop where
 lt:InW w S
 g:Pt S κ 1 g
 rb:BK w gr #[rv,.int .i64 re] tRd
 rg:Pt S κ 3 gr
 ro:OwnB w 0 tb rv rd
 rc:∀k,rv.ownBlock=some k->Pt S κ 3 k
 l:OwnR EW w 0 tWt lv (L.zip hs)
 lc:∀k,lv.ownBlock=some k->Pt S κ 4 k
 t:OwnB w 0 tb tv o
 tc:∀k,tv.ownBlock=some k->Pt S κ 5 k
 u:K.At w FU u
 uc:∀k,FU k->Pt S κ 6 k
 hl:hs.length=L.length
 hv:∀(i:Nat) (h:i < L.length) (h':i < hs.length),RdB w (sl hs[i]) L[i].hv
 hc:∀(i:Nat) (h:i < L.length) (h':i < hs.length),L[i].hv≠[]->∀k,(sl hs[i]).ownBlock=some k->Pt S κ 7 k
 bl:∀q∈bl,RdB w q.1 q.2/\(q.2≠[]->∀k,q.1.ownBlock=some k->Pt S κ 7 k)
 ac:RdR ET w acl A
 acc:∀k,acl.ownBlock=some k->Pt S κ 7 k
variable {K:Doer} {w w':World} {κ:Col} {S T:Fp} {g gr:Nat} {acl rv lv tv:Value} {hs:List Sl} {FU:Fp} {A:List (List UInt8)} {bl:List (Value×List UInt8)} {L:List Wt} {rd o:List UInt8} {re:Int} {u:K.U}
theorem reC_eq {c k:Nat} (hk:k < w.heap.size):reC κ w c k=κ k:=by unfold reC;rw[if_pos hk]
theorem Pt.up {c d k:Nat} (hi:InW w S) (h:Pt S κ d k):Pt (reS S T) (reC κ w c) d k:=⟨.inl h.1,by rw[reC_eq (hi k h.1)];exact h.2⟩
theorem Pt.of_fp {c k:Nat} (hi:InW w S) (st:Step (Pt S κ c) w w' T) (h:T k):Pt (reS S T) (reC κ w c) c k:=by
 rcases st.fp k h with q|q
 ·exact Pt.up hi q
 ·exact⟨.inr h,by unfold reC;rw[if_neg (by omega)]⟩
theorem Pt.ne {c d k:Nat} (h:Pt S κ d k) (hd:d≠c):¬Pt S κ c k:=λq=>hd (h.2.symm.trans q.2)
theorem reS_in {c:Nat} (hi:InW w S) (st:Step (Pt S κ c) w w' T) (ht:InW w' T):InW w' (reS S T):=λk hk=>hk.elim (λh=>Nat.lt_of_lt_of_le (hi k h) st.size) (λh=>ht k h)
theorem Step.whole {c:Nat} (hi:InW w S) (st:Step (Pt S κ c) w w' T):Step S w w' (reS S T):=
 ⟨st.os,st.tape,st.output,st.size,λk hk hs=>st.block k hk (λh=>hs h.1),λk hk=>hk.elim .inl (λh=>(st.fp k h).imp (λq=>q.1) id)⟩
theorem OwnR.stepS {α:Type} {E:Enc α} {B:Nat} {e:TypeId} {v:Value} {L:List α} {S S':Fp} (h:OwnR E w B e v L) (st:Step S w w' S') (hs:∀q,v.ownBlock=some q->¬ S q):OwnR E w' B e v L:=
 h.stable λk hk=>st.block k (h.lt k hk).2 (hs k hk)
theorem RdR.stepS {α:Type} {E:Enc α} {v:Value} {L:List α} {S S':Fp} (h:RdR E w v L) (st:Step S w w' S') (hs:∀q,v.ownBlock=some q->¬ S q):RdR E w' v L:=
 h.kept λa u ha hv=>(cell_of_heap (st.block a.block (World.block_lt_of_cell? w a ha) (hs _ hv))).trans ha
theorem At.stepS {F:Fp} {S S':Fp} {u:K.U} (h:K.At w F u) (st:Step S w w' S') (hs:∀q,F q->¬ S q):K.At w' F u:=
 K.stable h st.size λk hk=>st.block k (K.lt h k hk) (hs k hk)
theorem Rest.grow (h:Rest K w κ S g gr acl rv lv tv hs FU A bl L rd re o u) (gg:Grow w w'):Rest K w' κ S g gr acl rv lv tv hs FU A bl L rd re o u:=
 ⟨λk hk=>Nat.lt_of_lt_of_le (h.lt k hk) gg.size,h.g,h.rb.grow gg,h.rg,h.ro.grow gg,h.rc,h.l.grow gg,h.lc,h.t.grow gg,h.tc,K.stable h.u gg.size (λk hk=>gg.block k (K.lt h.u k hk)),h.uc,h.hl,
  λi hi hi'=>(h.hv i hi hi').grow gg,h.hc,λq hq=>⟨(h.bl q hq).1.grow gg,(h.bl q hq).2⟩,h.ac.grow gg,h.acc⟩
theorem Rest.apart {T T':Fp} (h:Rest K w κ S g gr acl rv lv tv hs FU A bl L rd re o u) (st:Step T w w' T') (hT:∀k, S k->¬T k):Rest K w' κ S g gr acl rv lv tv hs FU A bl L rd re o u:=
 ⟨λk hk=>Nat.lt_of_lt_of_le (h.lt k hk) st.size,h.g,h.rb.stepS st (hT _ h.rg.1),h.rg,h.ro.stepS st (λq hq=>hT q (h.rc q hq).1),h.rc,OwnR.stepS h.l st (λq hq=>hT q (h.lc q hq).1),h.lc,h.t.stepS st (λq hq=>hT q (h.tc q hq).1),h.tc,
  At.stepS h.u st (λq hq=>hT q (h.uc q hq).1),h.uc,h.hl,λi hi hi'=>(h.hv i hi hi').stepS st (λhx q hq=>hT q (h.hc i hi hi' (λe=>hx (by rw[e];rfl)) q hq).1),h.hc,
  λq hq=>⟨(h.bl q hq).1.stepS st (λhx k hk=>hT k ((h.bl q hq).2 (λe=>hx (by rw[e];rfl)) k hk).1),(h.bl q hq).2⟩,RdR.stepS h.ac st (λq hq=>hT q (h.acc q hq).1),h.acc⟩
theorem Rest.turn (h:Rest K w κ S g gr acl rv lv tv hs FU A bl L rd re o u) (t:Turn g w w'):Rest K w' κ S g gr acl rv lv tv hs FU A bl L rd re o u:=by
 have st:Step (λk=>k=g) w w' (λk=>k=g):=t.step rfl
 have ne:∀{d k:Nat},d≠1->Pt S κ d k->k≠g:=λhd hk e=>hd (hk.2.symm.trans (e▸h.g.2))
 exact⟨λk hk=>Nat.lt_of_lt_of_le (h.lt k hk) st.size,h.g,h.rb.stepS st (ne (by decide) h.rg),h.rg,h.ro.stepS st (λq hq=>ne (by decide) (h.rc q hq)),h.rc,OwnR.stepS h.l st (λq hq=>ne (by decide) (h.lc q hq)),h.lc,h.t.stepS st (λq hq=>ne (by decide) (h.tc q hq)),h.tc,
  At.stepS h.u st (λq hq=>ne (by decide) (h.uc q hq)),h.uc,h.hl,λi hi hi'=>(h.hv i hi hi').stepS st (λhx q hq=>ne (by decide) (h.hc i hi hi' (λe=>hx (by rw[e];rfl)) q hq)),h.hc,
  λq hq=>⟨(h.bl q hq).1.stepS st (λhx k hk=>ne (by decide) ((h.bl q hq).2 (λe=>hx (by rw[e];rfl)) k hk)),(h.bl q hq).2⟩,RdR.stepS h.ac st (λq hq=>ne (by decide) (h.acc q hq)),h.acc⟩
theorem Rest.less {bl':List (Value×List UInt8)} (h:Rest K w κ S g gr acl rv lv tv hs FU A bl L rd re o u) (hb:∀q∈bl',q∈bl):Rest K w κ S g gr acl rv lv tv hs FU A bl' L rd re o u:={h with bl:=λq hq=>h.bl q (hb q hq)}
theorem Rest.more {v:Value} {bs:List UInt8} {T:Fp} (h:Rest K w κ S g gr acl rv lv tv hs FU A bl L rd re o u) (hw:Grow w w') (hr:RdB w' v bs) (hn:NewV w v) (hT:T=λk=>v.ownBlock=some k/\k < w'.heap.size):
 Rest K w' (reC κ w 7) (reS S T) g gr acl rv lv tv hs FU A ((v,bs)::bl) L rd re o u:=by
 subst hT
 have h':=h.grow hw
 have up:∀{d k:Nat},Pt S κ d k->Pt (reS S λk=>v.ownBlock=some k/\k < w'.heap.size) (reC κ w 7) d k:=λhk=>Pt.up h.lt hk
 refine⟨λk hk=>hk.elim (h'.lt k) (λq=>q.2),up h.g,h'.rb,up h.rg,h'.ro,λk hk=>up (h.rc k hk),h'.l,λk hk=>up (h.lc k hk),h'.t,λk hk=>up (h.tc k hk),h'.u,λk hk=>up (h.uc k hk),h.hl,h'.hv,λi hi hi' hx k hk=>up (h.hc i hi hi' hx k hk),λq hq=>?_,h'.ac,λk hk=>up (h.acc k hk)⟩
 rcases List.mem_cons.1 hq with rfl|hq
 ·exact⟨hr,λhx k hk=>⟨.inr ⟨hk,Rd.lt hr (by simpa using hx) k hk⟩,by unfold reC;rw[if_neg (by have:=hn k hk;omega)]⟩⟩
 ·exact⟨(h'.bl q hq).1,λhx k hk=>up ((h.bl q hq).2 hx k hk)⟩
theorem Rest.told (h:Rest K w κ S g gr acl rv lv tv hs FU A bl L rd re o u) (st:Step (Pt S κ 5) w w' T) (ht:InW w' T) {tv':Value} {o':List UInt8} (hn:OwnB w' 0 tb tv' o') (hq:∀k,tv'.ownBlock=some k->T k):
 Rest K w' (reC κ w 5) (reS S T) g gr acl rv lv tv' hs FU A bl L rd re o' u:=by
 have up:∀{d k:Nat},Pt S κ d k->Pt (reS S T) (reC κ w 5) d k:=λhk=>Pt.up h.lt hk
 have ne:∀{d k:Nat},d≠5->Pt S κ d k->¬Pt S κ 5 k:=λhd hk=>hk.ne hd
 have now:∀{k:Nat},T k->Pt (reS S T) (reC κ w 5) 5 k:=λhk=>Pt.of_fp h.lt st hk
 exact⟨reS_in h.lt st ht,up h.g,h.rb.stepS st (ne (by decide) h.rg),up h.rg,h.ro.stepS st (λq hq=>ne (by decide) (h.rc q hq)),λk hk=>up (h.rc k hk),OwnR.stepS h.l st (λq hq=>ne (by decide) (h.lc q hq)),λk hk=>up (h.lc k hk),hn,λk hk=>now (hq k hk),At.stepS h.u st (λq hq=>ne (by decide) (h.uc q hq)),λk hk=>up (h.uc k hk),h.hl,λi hi hi'=>(h.hv i hi hi').stepS st (λhx q hq=>ne (by decide) (h.hc i hi hi' (λe=>hx (by rw[e];rfl)) q hq)),λi hi hi' hx k hk=>up (h.hc i hi hi' hx k hk),λq hq=>⟨(h.bl q hq).1.stepS st (λhx k hk=>ne (by decide) ((h.bl q hq).2 (λe=>hx (by rw[e];rfl)) k hk)),λhx k hk=>up ((h.bl q hq).2 hx k hk)⟩,RdR.stepS h.ac st (λq hq=>ne (by decide) (h.acc q hq)),λk hk=>up (h.acc k hk)⟩
theorem Rest.row (h:Rest K w κ S g gr acl rv lv tv hs FU A bl L rd re o u) (st:Step (Pt S κ 3) w w' T) (ht:InW w' T) {rv':Value} {rd':List UInt8} {re':Int} (hb:BK w' gr #[rv',.int .i64 re'] tRd) (hn:OwnB w' 0 tb rv' rd') (hq:∀k,rv'.ownBlock=some k->T k):
 Rest K w' (reC κ w 3) (reS S T) g gr acl rv' lv tv hs FU A bl L rd' re' o u:=by
 have up:∀{d k:Nat},Pt S κ d k->Pt (reS S T) (reC κ w 3) d k:=λhk=>Pt.up h.lt hk
 have ne:∀{d k:Nat},d≠3->Pt S κ d k->¬Pt S κ 3 k:=λhd hk=>hk.ne hd
 have now:∀{k:Nat},T k->Pt (reS S T) (reC κ w 3) 3 k:=λhk=>Pt.of_fp h.lt st hk
 exact⟨reS_in h.lt st ht,up h.g,hb,up h.rg,hn,λk hk=>now (hq k hk),OwnR.stepS h.l st (λq hq=>ne (by decide) (h.lc q hq)),λk hk=>up (h.lc k hk),h.t.stepS st (λq hq=>ne (by decide) (h.tc q hq)),λk hk=>up (h.tc k hk),At.stepS h.u st (λq hq=>ne (by decide) (h.uc q hq)),λk hk=>up (h.uc k hk),h.hl,λi hi hi'=>(h.hv i hi hi').stepS st (λhx q hq=>ne (by decide) (h.hc i hi hi' (λe=>hx (by rw[e];rfl)) q hq)),λi hi hi' hx k hk=>up (h.hc i hi hi' hx k hk),λq hq=>⟨(h.bl q hq).1.stepS st (λhx k hk=>ne (by decide) ((h.bl q hq).2 (λe=>hx (by rw[e];rfl)) k hk)),λhx k hk=>up ((h.bl q hq).2 hx k hk)⟩,RdR.stepS h.ac st (λq hq=>ne (by decide) (h.acc q hq)),λk hk=>up (h.acc k hk)⟩
theorem Rest.unit (h:Rest K w κ S g gr acl rv lv tv hs FU A bl L rd re o u) (st:Step (Pt S κ 6) w w' T) (ht:InW w' T) {FU':Fp} {u':K.U} (hn:K.At w' FU' u') (hq:∀k,FU' k->T k):
 Rest K w' (reC κ w 6) (reS S T) g gr acl rv lv tv hs FU' A bl L rd re o u':=by
 have up:∀{d k:Nat},Pt S κ d k->Pt (reS S T) (reC κ w 6) d k:=λhk=>Pt.up h.lt hk
 have ne:∀{d k:Nat},d≠6->Pt S κ d k->¬Pt S κ 6 k:=λhd hk=>hk.ne hd
 have now:∀{k:Nat},T k->Pt (reS S T) (reC κ w 6) 6 k:=λhk=>Pt.of_fp h.lt st hk
 exact⟨reS_in h.lt st ht,up h.g,h.rb.stepS st (ne (by decide) h.rg),up h.rg,h.ro.stepS st (λq hq=>ne (by decide) (h.rc q hq)),λk hk=>up (h.rc k hk),OwnR.stepS h.l st (λq hq=>ne (by decide) (h.lc q hq)),λk hk=>up (h.lc k hk),h.t.stepS st (λq hq=>ne (by decide) (h.tc q hq)),λk hk=>up (h.tc k hk),hn,λk hk=>now (hq k hk),h.hl,λi hi hi'=>(h.hv i hi hi').stepS st (λhx q hq=>ne (by decide) (h.hc i hi hi' (λe=>hx (by rw[e];rfl)) q hq)),λi hi hi' hx k hk=>up (h.hc i hi hi' hx k hk),λq hq=>⟨(h.bl q hq).1.stepS st (λhx k hk=>ne (by decide) ((h.bl q hq).2 (λe=>hx (by rw[e];rfl)) k hk)),λhx k hk=>up ((h.bl q hq).2 hx k hk)⟩,RdR.stepS h.ac st (λq hq=>ne (by decide) (h.acc q hq)),λk hk=>up (h.acc k hk)⟩
theorem Rest.wait (h:Rest K w κ S g gr acl rv lv tv hs FU A bl L rd re o u) (st:Step (Pt S κ 4) w w' T) (ht:InW w' T) {lv':Value} {L':List Wt} {hs':List Sl} (hn:OwnR EW w' 0 tWt lv' (L'.zip hs')) (hq:∀k,lv'.ownBlock=some k->T k) (hl:hs'.length=L'.length) (hh:∀(i:Nat) (h1:i < L'.length) (h2:i < hs'.length),(∃(j:Nat) (h3:j < L.length) (h4:j < hs.length),L'[i].hv=L[j].hv/\hs'[i]=hs[j])\/(sl hs'[i],L'[i].hv)∈bl):
 Rest K w' (reC κ w 4) (reS S T) g gr acl rv lv' tv hs' FU A bl L' rd re o u:=by
 have up:∀{d k:Nat},Pt S κ d k->Pt (reS S T) (reC κ w 4) d k:=λhk=>Pt.up h.lt hk
 have ne:∀{d k:Nat},d≠4->Pt S κ d k->¬Pt S κ 4 k:=λhd hk=>hk.ne hd
 have now:∀{k:Nat},T k->Pt (reS S T) (reC κ w 4) 4 k:=λhk=>Pt.of_fp h.lt st hk
 exact⟨reS_in h.lt st ht,up h.g,h.rb.stepS st (ne (by decide) h.rg),up h.rg,h.ro.stepS st (λq hq=>ne (by decide) (h.rc q hq)),λk hk=>up (h.rc k hk),hn,λk hk=>now (hq k hk),h.t.stepS st (λq hq=>ne (by decide) (h.tc q hq)),λk hk=>up (h.tc k hk),At.stepS h.u st (λq hq=>ne (by decide) (h.uc q hq)),λk hk=>up (h.uc k hk),hl,λi h1 h2=>by
  rcases hh i h1 h2 with ⟨j,h3,h4,e1,e2⟩|hm
  ·rw[e1,e2];exact(h.hv j h3 h4).stepS st (λhx q hq=>ne (by decide) (h.hc j h3 h4 (λe=>hx (by rw[e];rfl)) q hq))
  ·exact(h.bl _ hm).1.stepS st (λhx k hk=>ne (by decide) ((h.bl _ hm).2 (λe=>hx (by rw[e];rfl)) k hk)),λi h1 h2 hx k hk=>by
  rcases hh i h1 h2 with ⟨j,h3,h4,e1,e2⟩|hm
  ·rw[e2]at hk;rw[e1]at hx;exact up (h.hc j h3 h4 hx k hk)
  ·exact up ((h.bl _ hm).2 hx k hk),λq hq=>⟨(h.bl q hq).1.stepS st (λhx k hk=>ne (by decide) ((h.bl q hq).2 (λe=>hx (by rw[e];rfl)) k hk)),λhx k hk=>up ((h.bl q hq).2 hx k hk)⟩,RdR.stepS h.ac st (λq hq=>ne (by decide) (h.acc q hq)),λk hk=>up (h.acc k hk)⟩
structure SIn (K:Doer) (w:World) (κ:Col) (S :Fp) (g gr:Nat) (acl rv lv tv:Value) (hs:List Sl) (FU:Fp) (A:List (List UInt8)) (bl:List (Value×List UInt8)) (x:St K.U):Prop where
 b:BK w g (rS K.f acl gr x.s lv tv) tSes
 r:Rest K w κ S g gr acl rv lv tv hs FU A bl x.s.L x.s.rd x.s.re x.o x.u
def SAt (K:Doer) (A:List (List UInt8)) (w:World) (g:Nat) (S :Fp) (bl:List (Value×List UInt8)) (x:St K.U):Prop:=
 ∃κ gr acl rv lv tv hs FU,SIn K w κ S g gr acl rv lv tv hs FU A bl x
theorem SAt.lt {x:St K.U} (h:SAt K A w g S bl x):InW w S :=by obtain⟨κ,gr,acl,rv,lv,tv,hs,FU,h⟩:=h;exact h.r.lt
theorem SAt.self {x:St K.U} (h:SAt K A w g S bl x): S g:=by obtain⟨κ,gr,acl,rv,lv,tv,hs,FU,h⟩:=h;exact h.r.g.1
theorem SAt.grow {x:St K.U} (h:SAt K A w g S bl x) (gg:Grow w w'):SAt K A w' g S bl x:=by
 obtain⟨κ,gr,acl,rv,lv,tv,hs,FU,h⟩:=h
 exact⟨κ,gr,acl,rv,lv,tv,hs,FU,h.b.grow gg,h.r.grow gg⟩
theorem SAt.apart {T T':Fp} {x:St K.U} (h:SAt K A w g S bl x) (st:Step T w w' T') (hT:Apart S T):SAt K A w' g S bl x:=by
 obtain⟨κ,gr,acl,rv,lv,tv,hs,FU,h⟩:=h
 exact⟨κ,gr,acl,rv,lv,tv,hs,FU,h.b.stepS st (hT g h.r.g.1),h.r.apart st hT⟩
theorem SAt.less {bl':List (Value×List UInt8)} {x:St K.U} (h:SAt K A w g S bl x) (hb:∀q∈bl',q∈bl):SAt K A w g S bl' x:=by
 obtain⟨κ,gr,acl,rv,lv,tv,hs,FU,h⟩:=h
 exact⟨κ,gr,acl,rv,lv,tv,hs,FU,h.b,h.r.less hb⟩
theorem SAt.byt {x:St K.U} {v:Value} {bs:List UInt8} (h:SAt K A w g S bl x) (hm:(v,bs)∈bl):RdB w v bs:=by
 obtain⟨κ,gr,acl,rv,lv,tv,hs,FU,h⟩:=h
 exact(h.r.bl _ hm).1
end Go.Proofs.YtdpmhkbhlbfbeaaGreatDoor.Ses
end
section
namespace Go.Proofs.YtdpmhkbhlbfbeaaGreatDoor.Ses
open CW RowKit Pdu
abbrev tWts:TypeId:=100
theorem tyWt:SlTyN Tryz.prog tWts tWt EW.s 128:=SlTyN.of (by kernel_rfl)
theorem bounds_iii {k k' k'':IntKind} {a b c:Int} {len cap:Nat} (h0:0<=a) (h1:a<=b) (h2:b<=c) (h3:c<=cap):boundsOf len cap (some (.int k a)) (some (.int k' b)) (some (.int k'' c))=some (a.toNat,b.toNat,c.toNat):=by
 have h4:(0:Int)<=b:=by omega
 have h5:(0:Int)<=c:=by omega
 have h6:b<=max c 0:=by omega
 have h7:a<=max b 0:=by omega
 simp [boundsOf,boundOf,h0,h3,h4,h5,h6,h7]
theorem delete_c {w:World} {B:Nat} {v:Value} {L:List (Wt×Sl)} (h:OwnR EW w B tWt v L) {i:Nat} (hi:i < L.length) {R:KV} (k:∀v' w',v'.ownBlock=v.ownBlock->Step (λq=>v.ownBlock=some q) w w' (λq=>v.ownBlock=some q)->OwnR EW w' B tWt v' (L.take i++L.drop (i+1))->R v' w'):
 Zs 134 #[v,.int .i64 (i:Int),.int .i64 ((i:Int)+1)] w R:=by
 have hrd:=h.rd
 have hle:=hrd.le
 rcases h.2 with ⟨rfl,hn⟩|⟨g,cap,cur,rfl,hb,hg,hn,hm,hs,ht⟩
 ·omega
 have hm0:=hm
 simp only[maxLen]at hm
 have hk:BK w g cur tWt:=hg
 have h3:EW.s=12:=rfl
 rw[h3]at hs ht
 apply q129W
 have hb1:∃v1,subSlice (.slice (some ⟨g,0,none⟩) L.length cap) 12 (some (.int .i64 (i:Int))) (some (.int .i64 ((i:Int)+1))) (some (.int .i64 ((L.length:Nat):Int)))=some v1:=by
  simp only[subSlice,bounds_iii (a:=(i:Int)) (b:=(i:Int)+1) (c:=((L.length:Nat):Int)) (len:=L.length) (cap:=cap) (by omega) (by omega) (by omega) (by omega)]
  exact⟨_,rfl⟩
 obtain⟨v1,hv1⟩:=hb1
 refine⟨_,rfl,v1,hv1,cond_f (by simp;omega) ⟨_,rfl,nm λw3 e3=>?_⟩⟩
 refine⟨.slice (some ⟨g,0,none⟩) i cap,?_,?_⟩
 ·simp only[subSlice,bounds_ni (b:=(i:Int)) (len:=L.length) (cap:=cap) (by omega) (by omega)]
  simp [add_zero]
 have hcap:cap≠L.length - 1:=by omega
 refine⟨.slice (if cap=i+1 then some ⟨g,0,none⟩else some ⟨g,(i+1)*12,none⟩) (L.length - (i+1)) (cap - (i+1)),?_,nm λw6 e6=>?_⟩
 ·simp only[subSlice,bounds_in (a:=(i:Int)+1) (len:=L.length) (cap:=cap) (by omega) (by omega)]
  have e1:((i:Int)+1).toNat=i+1:=by omega
  rw[e1]
  simp only[Option.map_some,ad0]
 have gd:=drE e6
 have hk6:=hk.grow gd
 obtain⟨ei,z,hinfo,hz,hsz,hby,hzs⟩:=tyWt.info
 rw[h3]at hsz hzs
 have hflat:(EW.flat (L.drop (i+1))).length=(L.length - (i+1))*12:=by rw[Enc.flat_length,List.length_drop];rfl
 have hrun:=run_append_room (P:=Tryz.prog) w6 tWts tWts tWt ei tyWt.und hinfo g i cap cur hk6 (if cap=i+1 then⟨g,0,none⟩else⟨g,(i+1)*12,none⟩) (L.length - (i+1)) (cap - (i+1)) (EW.flat (L.drop (i+1))) (by rw[hsz];exact hflat)
  (λj u hj=>by
   have hj':j < (L.length - (i+1))*12:=by rw[←hflat];exact(List.getElem?_eq_some_iff.1 hj).1
   have hne:cap≠i+1:=by intro e;have:L.length - (i+1)=0:=by omega
                        rw[this]at hj';omega
   rw[if_neg hne]
   have e:Addr.add ⟨g,(i+1)*12,none⟩ j=⟨g,(i+1)*12+j,none⟩:=by
    unfold Addr.add;split
    ·next e=>subst e;rfl
    ·rfl
   rw[e,hk6.at,←Array.getElem?_toList]
   rw[(Enc.flat_split (E:=EW) L (i+1)).2,List.getElem?_drop,←ht,List.getElem?_take]at hj
   split at hj
   ·exact hj
   ·cases hj)
  (Enc.flat_one _) (by omega) (by rw[hsz,hflat];omega)
 rw[hsz,hflat]at hrun
 have hcapL:L.length*12<=cap*12:=Nat.mul_le_mul_right _ hn
 have hv5:(if cap=i+1 then some (⟨g,0,none⟩:Addr)else some ⟨g,(i+1)*12,none⟩)=some (if cap=i+1 then⟨g,0,none⟩else⟨g,(i+1)*12,none⟩):=by split<;>rfl
 rw[hv5]
 refine⟨_,_,hrun,_,rfl,?_⟩
 have hlen1:i+(L.length - (i+1))=L.length - 1:=by omega
 rw[hlen1]
 generalize hnew:(cur.toList.take (i*12)++EW.flat (L.drop (i+1))++cur.toList.drop (i*12+(L.length - (i+1))*12)).toArray=cur'
 have hsize':cur'.size=cap*12:=by
  rw[←hnew];simp [hflat,hs];omega
 have hk8:BK (w6.setRow g cur') g cur' tWt:=setRow_heap w6 g cur cur' tWt _ hk6
 have st8:Step (λq=>q=g) w6 (w6.setRow g cur') (λq=>q=g):=⟨rfl,rfl,rfl,by simp [World.setRow],λq hq hne=>setRow_other w6 g q cur' hne,λ_ hq=>.inl hq⟩
 generalize w6.setRow g cur'=w8 at *
 refine⟨.slice (some ⟨g,(L.length - 1)*12,none⟩) 1 (cap - (L.length - 1)),?_,?_⟩
 ·have e1:((((L.length - 1:Nat):Int)).toNat)=L.length - 1:=by omega
  simp only[subSlice,bounds_ii (a:=((L.length - 1:Nat):Int)) (b:=((L.length:Nat):Int)) (len:=L.length - 1) (cap:=cap) (by omega) (by omega) (by omega)]
  rw[e1,if_neg hcap]
  simp only[Option.map_some,ad0,Int.toNat_natCast]
  congr 2;omega
 have hzl:(Builtin.zeroCells z.cells 1).toList.length=12:=by simp [Builtin.zeroCells,hzs]
 have hone:∀u∈(Builtin.zeroCells z.cells 1).toList,u.oneCell'=true:=by
  have hz':z= .agg #[.int .u32 0,.int .i64 0,.int .i64 0,.int .i64 0,.slice none 0 0,.int .u64 0,.int .u64 0,.int .i64 0,.bool false,.slice none 0 0,.int .i64 0,.int .i64 0]:=by
   have:(Tryz.prog.info? tWt).bind (·.zero)=some (.agg #[.int .u32 0,.int .i64 0,.int .i64 0,.int .i64 0,.slice none 0 0,.int .u64 0,.int .u64 0,.int .i64 0,.bool false,.slice none 0 0,.int .i64 0,.int .i64 0]):=by kernel_rfl
   rw[hinfo,Option.bind_some,hz]at this
   exact Option.some.inj this
  subst hz'
  intro u hu
  have e:(Builtin.zeroCells (Value.agg #[.int .u32 0,.int .i64 0,.int .i64 0,.int .i64 0,.slice none 0 0,.int .u64 0,.int .u64 0,.int .i64 0,.bool false,.slice none 0 0,.int .i64 0,.int .i64 0]).cells 1).toList=[.int .u32 0,.int .i64 0,.int .i64 0,.int .i64 0,.slice none 0 0,.int .u64 0,.int .u64 0,.int .i64 0,.bool false,.slice none 0 0,.int .i64 0,.int .i64 0]:=by kernel_rfl
  rw[e]at hu
  simp only[List.mem_cons,List.not_mem_nil,or_false]at hu
  rcases hu with rfl|rfl|rfl|rfl|rfl|rfl|rfl|rfl|rfl|rfl|rfl|rfl<;>rfl
 have hst:=run_storeCells_cells (P:=Tryz.prog) g ((L.length - 1)*12) (Builtin.zeroCells z.cells 1).toList 0 w8 (λj hj=>by rw[hk8.at];rw[hzl]at hj;simp [hsize'];omega) (λj _=>hk8.thaw _) hone
 simp only[Nat.add_zero]at hst
 have hclear:(Builtin.clear_ #[tWts] 0 #[.slice (some ⟨g,(L.length - 1)*12,none⟩) 1 (cap - (L.length - 1))]).run Tryz.prog w8= .ok undef (w8.setCells g ((L.length - 1)*12) (Builtin.zeroCells z.cells 1).toList):=by
  simp [Builtin.clear_,run_underlying tyWt.und,zeroValue,typeInfo,hinfo,hz,hst,undef]
 refine⟨_,_,hclear,?_⟩
 have hset:=setCells_set (Builtin.zeroCells z.cells 1).toList ((L.length - 1)*12) w8 cur' hk8 (by rw[hzl,hsize'];omega)
 have st9:Step (λq=>q=g) w8 (w8.setCells g ((L.length - 1)*12) (Builtin.zeroCells z.cells 1).toList) (λq=>q=g):=
  Step.row (S :=λq=>q=g) w8 ⟨g,(L.length - 1)*12,none⟩ (Builtin.zeroCells z.cells 1) rfl
 have hgs:(λq=>(Value.slice (some (⟨g,0,none⟩:Addr)) L.length cap).ownBlock=some q)=(λq=>q=g):=by
  funext q;simp [Value.ownBlock,eq_comm]
 refine k _ _ rfl ?_ ?_
 ·rw[hgs]
  exact(Step.of_grow gd).then (st8.then st9)
 ·have hll:(L.take i++L.drop (i+1)).length=L.length - 1:=by simp;omega
  refine⟨by rw[Enc.flat_length],.inr ⟨g,cap,_,by rw[hll],hb,hset,by rw[hll];omega,hm0,?_,?_⟩⟩
  ·rw[h3];simp [hzl,hsize'];omega
  ·rw[hll,h3,Enc.flat_append,(Enc.flat_split (E:=EW) L i).1,h3]
   simp only
   rw[List.append_assoc,List.take_append_of_le_length (by simp [hsize'];omega),List.take_take,Nat.min_self,←hnew]
   simp only
   rw[List.take_append_of_le_length (by simp [hflat,hs];omega)]
   have ea:(EW.flat L).take (i*12)=cur.toList.take (i*12):=by rw[←ht,List.take_take];congr 1;omega
   rw[ea,List.take_of_length_le (by simp [hflat,hs];omega)]
theorem zip_erase {α β:Type} (L:List α) (M:List β) (i:Nat):(L.zip M).take i++(L.zip M).drop (i+1)=(L.eraseIdx i).zip (M.eraseIdx i):=by
 rw[←List.eraseIdx_eq_take_drop_succ]
 apply List.ext_getElem?
 intro j
 simp only[List.zip,List.getElem?_eraseIdx,List.getElem?_zipWith]
 split<;>rfl
end Go.Proofs.YtdpmhkbhlbfbeaaGreatDoor.Ses
end
section
namespace Go.Proofs.YtdpmhkbhlbfbeaaGreatDoor.Ses
open CW RowKit Pdu
variable {K:Doer} {w w':World} {κ:Col} {S :Fp} {g gr:Nat} {acl rv lv tv:Value} {hs:List Sl} {FU:Fp} {A:List (List UInt8)} {bl:List (Value×List UInt8)}
theorem SIn.grow {x:St K.U} (h:SIn K w κ S g gr acl rv lv tv hs FU A bl x) (gg:Grow w w'):SIn K w' κ S g gr acl rv lv tv hs FU A bl x:=⟨h.b.grow gg,h.r.grow gg⟩
theorem SIn.at {x:St K.U} (h:SIn K w κ S g gr acl rv lv tv hs FU A bl x):SAt K A w g S bl x:=⟨κ,gr,acl,rv,lv,tv,hs,FU,h⟩
theorem SIn.turn {b:Nat} {x:St K.U} (h:SIn K w κ S g gr acl rv lv tv hs FU A bl x) (t:Turn b w w') (hb:¬ S b):SIn K w' κ S g gr acl rv lv tv hs FU A bl x:=
 ⟨h.b.turn t (λe=>hb (e▸h.r.g.1)),h.r.apart (t.step (S :=λk=>k=b) rfl) (λk hk e=>hb (e▸hk))⟩
theorem SIn.set {x:St K.U} {s':Ses} {j:Nat} {v:Value} (h:SIn K w κ S g gr acl rv lv tv hs FU A bl x) (e:w'=World.setCell w (Addr.add ⟨g,0,none⟩ j) v)
 (hc:(rS K.f acl gr x.s lv tv).setIfInBounds j v=rS K.f acl gr s' lv tv) (hL:s'.L=x.s.L) (hr:s'.rd=x.s.rd) (hre:s'.re=x.s.re:=by rfl):SIn K w' κ S g gr acl rv lv tv hs FU A bl {x with s:=s'}/\Step S w w' S :=by
 obtain⟨b,t⟩:=setE h.b e
 have r:=h.r.turn t
 refine⟨⟨by rw[hc]at b;exact b,?_⟩,t.step h.r.g.1⟩
 show Rest K w' κ S g gr acl rv lv tv hs FU A bl s'.L s'.rd s'.re x.o x.u
 rw[hL,hr,hre];exact r
theorem SIn.more {x:St K.U} {tv':Value} {o':List UInt8} (h:SIn K w κ S g gr acl rv lv tv hs FU A bl x) (n:OwnNext w tv w' tv') (hn:OwnB w' 0 tb tv' o'):
 Rest K w' (reC κ w 5) (reS S λk=>tv'.ownBlock=some k) g gr acl rv lv tv' hs FU A bl x.s.L x.s.rd x.s.re o' x.u/\BK w' g (rS K.f acl gr x.s lv tv) tSes/\Step S w w' (reS S λk=>tv'.ownBlock=some k):=by
 have st:Step (Pt S κ 5) w w' (λk=>tv'.ownBlock=some k):=(Step.of_own n (S :=Pt S κ 5) (λq hq=>h.r.tc q hq)).imp (λ_ h=>h) (λk hk=>by
  rcases n.at_ with e|e
  ·exact .inl (h.r.tc k (e▸hk))
  ·exact .inr (e k hk))
 exact⟨h.r.told st (λk hk=>hn.ltS k hk) hn (λk hk=>hk),h.b.stepS st (λhh=>h.r.g.ne (by decide) hh),Step.whole h.r.lt st⟩
theorem Rd.turnX {b:Nat} {v:Value} {xs:List Value} (h:Rd w v xs) (t:Turn b w w') (hne:xs≠[]->v.ownBlock≠some b):Rd w' v xs:=
 h.stepS (t.step (S :=λk=>k=b) rfl) (λhx q hq e=>hne hx (e▸hq))
theorem rS_u8 {K:Doer} {acl lv tv:Value} {gr:Nat} {s:Ses} (ha:∃a n c,acl= .slice a n c) (hl:∃a n c,lv= .slice a n c) (ht:∃a n c,tv= .slice a n c) (j:Nat) (n:Int):(rS K.f acl gr s lv tv)[j]? ≠some (.int .u8 n):=by
 obtain⟨a1,n1,c1,rfl⟩:=ha
 obtain⟨a2,n2,c2,rfl⟩:=hl
 obtain⟨a3,n3,c3,rfl⟩:=ht
 intro e
 rcases j with _|_|_|_|_|_|_|_|_|_|_|_|_|_|j<;>simp at e
theorem Rd.sl {v:Value} {xs:List Value} (h:Rd w v xs):∃a n c,v= .slice a n c:=by obtain⟨a,cap,rfl,_⟩:=h;exact⟨_,_,_,rfl⟩
theorem RdR.sl {α:Type} {E:Enc α} {v:Value} {L:List α} (h:RdR E w v L):∃a n c,v= .slice a n c:=by obtain⟨a,cap,rfl,_⟩:=h;exact⟨_,_,_,rfl⟩
theorem SIn.ne_g {x:St K.U} {dv:Value} {ds:List UInt8} (h:SIn K w κ S g gr acl rv lv tv hs FU A bl x) (hd:RdB w dv ds) (hne:ds≠[]):dv.ownBlock≠some g:=by
 intro e
 have ha:=RdR.sl h.r.ac
 obtain⟨a,cap,rfl,h1,h2,h3,h4⟩:=hd
 cases ds with
 |nil=>exact hne rfl
 |cons d ds=>
  obtain⟨y,rfl,hy⟩:=h4 0 (b8 d) rfl
  have eb:y.block=g:=by simpa[Value.ownBlock]using e
  have hb:=h.b
  unfold BK at hb
  rw[add_zero]at hy
  unfold World.cell? at hy
  rw[eb,hb]at hy
  simp only at hy
  split at hy
  ·cases hy
  exact rS_u8 (K:=K) ha (RdR.sl h.r.l.rd) (Rd.sl h.r.t.rd) y.off (d.toNat:Int) hy
theorem fits_m32 (n:Int):Fits .u32 (m32 n):=by
 have h:0<=m32 n/\m32 n < 4294967296:=by
  have:m32 n=n % 4294967296:=w32 n
  omega
 constructor<;>simp [IntKind.min,IntKind.max,IntKind.bits,IntKind.signed]<;>omega
theorem encQ_length (p:Pd) (ds:List UInt8):(encQ p ds).length<=4152:=by
 unfold encQ
 split
 ·next h=>
  rw[encP_length]
  split
  ·omega
  ·have:=h.2;omega
 ·simp
theorem say_c {x:St K.U} {p:Pd} {dv:Value} {ds:List UInt8} (h:SAt K A w g S bl x) (hf:PdFits p) (hd:RdB w dv ds) (he:Fits .u32 x.s.exp) (ho:x.o.length<=1000000000) {R:KV}
 (k:∀w' S',Step S w w' S'->SAt K A w' g S' bl (say x p ds)->R (.tuple #[]) w'):Zs 136 #[zA g,vP p dv] w R:=by
 obtain⟨κ,gr,acl,rv,lv,tv,hs,FU,h⟩:=h
 apply q163W
 have hd1:=Rd.isOne hd
 refine nm λw0 e0=>?_
 obtain⟨b0,g0,s0⟩:=alE e0
 refine nm λw1 e1=>?_
 have g1:=drE e1
 have g01:=g0.then g1
 have h1:=h.grow g01
 have b1:BK w1 w.heap.size (rP p dv) tP:=b0.grow g1
 have nS:¬ S w.heap.size:=λhh=>by have:=h.r.lt _ hh;omega
 refine withAddr_some ⟨_,h1.b.cell 10,withAddr_some ⟨_,h1.b.cell 10,nm λw6 e6=>?_⟩⟩
 obtain rfl:w6=w1:=e6.trans e1.symm
 obtain⟨b8,t8⟩:=setE (j:=6) (v:=.int .u32 x.s.exp) b1 rfl
 have h8:=h1.turn t8 nS
 refine⟨st1_at b1 (by show 6 < 27;omega),⟨_,h8.b.cell 10,rfl⟩,nm λw8 e8=>nm λw9 e9=>?_⟩
 obtain rfl:w9=w8:=e9.trans e8.symm
 rw[←e8]at b8 t8 h8
 obtain⟨b10,t10⟩:=setE (j:=7) (v:=.int .u32 (IntKind.wrap .u32 (x.s.exp+15))) b8 rfl
 have h10:=h8.turn t10 nS
 refine⟨st1_at b8 (by show 7 < 27;omega),nm λw10 e10=>nm λw11 e11=>?_⟩
 obtain rfl:w11=w10:=e11.trans e10.symm
 rw[←e10]at b10 t10 h10
 have hb:BK w11 w.heap.size (rP {p with exp:=x.s.exp,mx:=m32 (x.s.exp+15)} dv) tP:=by
  exact b10
 have hf':PdFits {p with exp:=x.s.exp,mx:=m32 (x.s.exp+15)}:=⟨hf.op,hf.fl,hf.st,hf.tag,hf.sn,he,fits_m32 _,hf.off,hf.ln⟩
 have gA:Grow w w11:=Below.turn (Below.turn g01 t8 (Nat.le_refl _)) t10 (Nat.le_refl _)
 have hd':=hd.grow gA
 refine⟨_,_,_,_,_,_,_,_,_,_,_,_,_,_,_,_,_,_,_,_,_,_,_,_,_,_,_,hb.ld rfl,?_⟩
 refine Encode_c hf' hd' λv41 n42 w40 g40 c1 c2 c3=>⟨_,_,rfl,?_⟩
 have r41:RdB w40 v41 (encQ {p with exp:=x.s.exp,mx:=m32 (x.s.exp+15)} ds):=by
  unfold encQ
  by_cases q1:okP {p with exp:=x.s.exp,mx:=m32 (x.s.exp+15)}=true
  ·by_cases q2:ds.length<=4096
   ·rw[if_pos ⟨q1,q2⟩];exact(c3 q1 q2).1
   ·rw[if_neg (λhh=>q2 hh.2),(c2 q1 (by omega)).1];exact Rd.nil _
  ·rw[if_neg (λhh=>q1 hh.1),(c1 (by simpa using q1)).1];exact Rd.nil _
 have h40:=h10.grow g40
 have hl:=encQ_length {p with exp:=x.s.exp,mx:=m32 (x.s.exp+15)} ds
 obtain⟨v45,w46,k45,o45,n45⟩:=app_bytes h40.r.t r41 (Nat.zero_le _) (by omega)
 obtain⟨r46,b46,s46⟩:=h40.more n45 o45
 refine withAddr_some ⟨_,h40.b.cell 13,v45,w46,k45,withAddr_some (oneK_of (Rd.isOne o45.rd) ⟨st1_at b46 (by show 13 < 14;omega),nm λw48 e48=>?_⟩)⟩
 obtain⟨b48,t48⟩:=setE b46 e48
 have r48:=r46.turn t48
 refine k w48 _ (((Step.of_grow (gA.then g40)).then s46).then (t48.step (.inl h.r.g.1))) ⟨_,gr,acl,rv,lv,v45,hs,FU,⟨?_,r48⟩⟩
 exact b48
theorem callU_of {P:Program} {g:FuncId} {first captured args:Array Value} {w:World} {K:KV} (hb:(P.funcs[g]?).map (λfn=>fn.body.isSome)=some true) (h:CW.Spec P g (app3 first args captured) w K):
 callU P (.func (.func g) first captured) args w K:=by
 unfold callU
 simp only[hb]
 exact h
theorem SAt.turn {b:Nat} {x:St K.U} (h:SAt K A w g S bl x) (t:Turn b w w') (hb:¬ S b):SAt K A w' g S bl x:=by
 obtain⟨κ,gr,acl,rv,lv,tv,hs,FU,h⟩:=h
 exact(h.turn t hb).at
theorem sayer_c {op:Int} {R:KV} (k:∀w',Grow w w'->BK w' w.heap.size #[zA g] 32->BK w' (w.heap.size+1) #[.int .i64 op] 3->w'.heap.size=w.heap.size+2->R (.func (.func 135) #[] #[.pointer (some ⟨w.heap.size+1,0,none⟩),zA w.heap.size]) w'):
 Zs 85 #[zA g,.int .i64 op] w R:=by
 apply q165W
 refine nm λw0 e0=>?_
 obtain⟨b0,g0,s0⟩:=alE e0
 refine nm λw1 e1=>?_
 obtain⟨b1,g1,s1⟩:=alE e1
 have:=k w1 (g0.then g1) (b0.grow g1) (by rw[s0]at b1;exact b1) (by omega)
 rw[←s0]at this
 exact this
theorem sayN_c {x:St K.U} {p:Pd} {dv:Value} {ds:List UInt8} {op:Int} {a b:Nat} (h:SAt K A w g S bl x) (hf:PdFits p) (hop:Fits .i64 op) (hd:RdB w dv ds) (he:Fits .u32 x.s.exp) (hsn:Fits .u32 x.s.sn) (ho:x.o.length<=1000000000)
 (ha:BK w a #[zA g] 32) (hb:BK w b #[.int .i64 op] 3) (na:¬ S a) (nb:¬ S b) {R:KV}
 (k:∀w' S',Step S w w' S'->SAt K A w' g S' bl (sayN x op p ds)->R (.tuple #[]) w'):
 callU Tryz.prog (.func (.func 135) #[] #[zA b,zA a]) #[vP p dv] w R:=by
 refine callU_of (by kernel_rfl) ?_
 obtain⟨κ,gr,acl,rv,lv,tv,hs,FU,h⟩:=h
 refine q164W _ _ _ _ _ _ _ _ _ _ _ _ _ _ _ _ _ _ _ _ _ _ _ _ _ _ _ _ _ _ _ ?_
 refine nm λw0 e0=>?_
 obtain⟨b0,g0,s0⟩:=alE e0
 refine nm λw1 e1=>?_
 have g1:=drE e1
 have g01:=g0.then g1
 have h1:=h.grow g01
 have b1:BK w1 w.heap.size (rP p dv) tP:=b0.grow g1
 have a1:=ha.grow g01
 have bb1:=hb.grow g01
 have la:=ha.lt
 have lb:=hb.lt
 have nS:¬ S w.heap.size:=λhh=>by have:=h.r.lt _ hh;omega
 have hg:g < w.heap.size:=h.b.lt
 refine withAddr_some ⟨_,bb1.at 0,withAddr_some ⟨_,a1.at 0,withAddr_some ⟨_,h1.b.cell 11,nm λw8 e8=>?_⟩⟩⟩
 obtain rfl:w8=w1:=e8.trans e1.symm
 obtain⟨b12,t12⟩:=setE (j:=0) (v:=.int .i64 op) b1 rfl
 have h12:=h1.turn t12 nS
 have a12:=a1.turn t12 (by omega)
 refine⟨st1_at b1 (by show 0 < 27;omega),withAddr_some ⟨_,a12.at 0,rfl⟩,⟨_,h12.b.cell 11,rfl⟩,nm λw12 e12=>nm λw13 e13=>?_⟩
 obtain rfl:w13=w12:=e13.trans e12.symm
 rw[←e12]at b12 t12 h12 a12
 obtain⟨b14,t14⟩:=setE (j:=5) (v:=.int .u32 x.s.sn) b12 rfl
 have h14:=h12.turn t14 nS
 have a14:=a12.turn t14 (by omega)
 refine⟨st1_at b12 (by show 5 < 27;omega),nm λw14 e14=>nm λw15 e15=>?_⟩
 obtain rfl:w15=w14:=e15.trans e14.symm
 rw[←e14]at b14 t14 h14 a14
 refine withAddr_some ⟨_,a14.at 0,withAddr_some ⟨_,h14.b.cell 11,withAddr_some ⟨st1_at h14.b (by show 11 < 14;omega),nm λw21 e21=>?_⟩⟩⟩
 obtain⟨h21,s21⟩:=h14.set (s':={x.s with sn:=m32 (x.s.sn+1)}) e21 rfl rfl rfl
 have t21:Turn g w15 w21:=(setE h14.b e21).2
 have a21:=a14.turn t21 (λe=>na (e▸h.r.g.1))
 have b21:BK w21 w.heap.size (rP {p with op:=op,sn:=x.s.sn} dv) tP:=b14.turn t21 (by omega)
 have gA:Grow w w15:=Below.turn (Below.turn g01 t12 (Nat.le_refl _)) t14 (Nat.le_refl _)
 refine withAddr_some ⟨_,a21.at 0,_,_,_,_,_,_,_,_,_,_,_,_,_,_,_,_,_,_,_,_,_,_,_,_,_,_,_,b21.ld rfl,?_⟩
 have rd15:=hd.grow gA
 have rd21:RdB w21 dv ds:=Rd.turnX rd15 t21 (λhx e=>h14.ne_g rd15 (by simpa using hx) e)
 have hf':PdFits {p with op:=op,sn:=x.s.sn}:=⟨hop,hf.fl,hf.st,hf.tag,hsn,hf.exp,hf.mx,hf.off,hf.ln⟩
 refine say_c h21.at hf' rd21 he ho λw52 S' st52 h52=>⟨rfl,?_⟩
 exact k w52 S' (((Step.of_grow gA).then s21).then st52) h52
theorem Rest.clos {L:List Wt} {rd o:List UInt8} {re:Int} {u:K.U} {n:Nat} (h:Rest K w κ S g gr acl rv lv tv hs FU A bl L rd re o u) (hw:Grow w w') (hn:n=w.heap.size) (b:BK w' n #[nilV,.int .i64 0] tRd):
 Rest K w' (reC κ w 3) (reS S λk=>k=n) g n acl nilV nilV tv [] FU A bl [] [] 0 o u:=by
 subst hn
 have h':=h.grow hw
 have up:∀{d k:Nat},Pt S κ d k->Pt (reS S λk=>k=w.heap.size) (reC κ w 3) d k:=λhk=>Pt.up h.lt hk
 refine⟨λk hk=>hk.elim (h'.lt k) (λq=>q▸b.lt),up h.g,b,⟨.inr rfl,by unfold reC;rw[if_neg (by omega)]⟩,Own.nil _ _ _,λk hk=>(by cases hk),OwnR.nil _ _ _,λk hk=>(by cases hk),h'.t,λk hk=>up (h.tc k hk),h'.u,λk hk=>up (h.uc k hk),rfl,λi hi=>absurd hi (Nat.not_lt_zero _),λi hi=>absurd hi (Nat.not_lt_zero _),λq hq=>⟨(h'.bl q hq).1,λhx k hk=>up ((h.bl q hq).2 hx k hk)⟩,h'.ac,λk hk=>up (h.acc k hk)⟩
theorem close_c {x:St K.U} (h:SAt K A w g S bl x) {R:KV} (k:∀w' S',Step S w w' S'->SAt K A w' g S' bl (clos x)->R (.tuple #[]) w'):Zs 59 #[zA g] w R:=by
 obtain⟨κ,gr,acl,rv,lv,tv,hs,FU,h⟩:=h
 apply q154W
 refine withAddr_some ⟨st1_at h.b (by show 9 < 14;omega),nm λw1 e1=>withAddr_some ?_⟩
 obtain⟨b1,t1⟩:=setE h.b e1
 refine⟨st1_at b1 (by show 8 < 14;omega),nm λw3 e3=>?_⟩
 obtain⟨b3,t3⟩:=setE b1 e3
 refine NewReader_f λw5 g5 s5 b5=>⟨_,rfl,withAddr_some ?_⟩
 have b35:=b3.grow g5
 have r5:=((h.r.turn t1).turn t3).clos g5 rfl b5
 refine⟨st1_at b35 (by show 12 < 14;omega),nm λw8 e8=>withAddr_some ?_⟩
 obtain⟨b8,t8⟩:=setE b35 e8
 refine⟨st1_at b8 (by show 2 < 14;omega),nm λw10 e10=>?_⟩
 obtain⟨b10,t10⟩:=setE b8 e10
 refine k w10 _ ?_ ⟨_,w3.heap.size,acl,nilV,nilV,tv,[],FU,⟨b10,(r5.turn t8).turn t10⟩⟩
 have m:Md S w.heap.size w w10:=((((Md.refl S w.heap.size w).turn t1 (.inl h.r.g.1)).turn t3 (.inl h.r.g.1)).grow g5).turn t8 (.inl h.r.g.1) |>.turn t10 (.inl h.r.g.1)
 have z3:w3.heap.size=w.heap.size:=t3.size.trans t1.size
 exact m.out.imp (λ_ h=>h) (λk hk=>hk.elim .inl (λe=>.inr (by omega)))
def posI (L:List Wt) (tag:Int):Int:=match posOf L tag with|none=> -1|some i=>(i:Int)
theorem EW_ld {a:Addr} {q:Wt×Sl} (hc:∀k,k < EW.s->w.cell? (a.add k)=(EW.enc q)[k]?):ldCells w a 12 (EW.enc q).toArray:=ldCells_of rfl hc
theorem index_c {v:Value} {L:List Wt} {hs:List Sl} {tag:Int} {a:Nat} {R:KV} (h:RdR EW w v (L.zip hs)) (hl:hs.length=L.length) (ha:BK w a #[.int .u32 tag] 28)
 (c:∀w',Grow w w'->R (.int .i64 (posI L tag)) w'):Zs 172 #[v,.func (.func 173) #[] #[zA a]] w R:=by
 apply q134W
 have hle:=h.le
 have hz:(L.zip hs).length=L.length:=by simp [hl]
 have hidx:fidx L tag<=L.length:=List.findIdx_le_length
 refine⟨_,h.len,λ(i:Int) (ww:World)=>Grow w ww/\0<=i/\i<=fidx L tag,λ(i:Int) (_:World)=>(L.length - i).toNat,⟨Grow.refl w,by omega,by omega⟩,?_⟩
 dsimp only[allR,mapR2,eqN,ltN]
 rw[hz]
 rintro m i ww ⟨⟨gw,h0,h1⟩,hm⟩
 refine cond_intro (λhp=>?_) (λhp=>?_)
 ·simp at hp
  obtain⟨ad,had,hc,_⟩:=(h.grow gw).at h0 (by omega)
  refine⟨ad,had,_,_,_,_,_,_,_,_,_,_,_,_,EW_ld hc,callU_of (by kernel_rfl) ?_⟩
  have hx1:((L.zip hs)[i.toNat]'(by omega)).1=L[i.toNat]'(by omega):=by simp
  generalize (L.zip hs)[i.toNat]'(by omega)=q at *
  refine q152W _ _ _ _ _ _ _ _ _ _ _ _ _ _ _ ?_
  refine nm λw0 e0=>?_
  obtain⟨b0,g0,s0⟩:=alE e0
  refine⟨_,b0.cell 0,withAddr_some ⟨_,((ha.grow gw).grow g0).at 0,_,rfl,?_⟩⟩
  rw[hx1]
  generalize hx:L[i.toNat]'(by omega)=y at *
  refine cond_intro (λhq=>?_) (λhq=>?_)
  ·have e:fidx L tag=i.toNat:=by
    refine(List.findIdx_eq (by omega)).2 ⟨by rw[hx];exact hq,λj hj=>?_⟩
    have:=List.not_of_lt_findIdx (p:=λw:Wt=>w.tag==tag) (xs:=L) (i:=j) (by show j < fidx L tag;omega)
    simpa using this
   have hc:=c _ (gw.then g0)
   unfold posI posOf at hc
   rw[e,if_pos (by omega)]at hc
   have e2:((i.toNat:Nat):Int)=i:=by omega
   simp only[e2]at hc
   exact hc
  ·rw[wi64_id (n:=i+1) (by omega) (by omega)]
   refine⟨⟨gw.then g0,by omega,?_⟩,by omega⟩
   have:fidx L tag≠i.toNat:=by
    intro e
    have h3:=List.findIdx_getElem (p:=λw:Wt=>w.tag==tag) (xs:=L) (w:=by show fidx L tag < L.length;omega)
    have h4:L[fidx L tag]'(by omega)=y:=by rw[←hx];simp only[e]
    have h5:((L[fidx L tag]'(by omega)).tag==tag)=true:=h3
    rw[h4,hq]at h5;cases h5
   omega
 ·simp at hp
  have hc:=c _ gw
  unfold posI posOf at hc
  rw[if_neg (by omega)]at hc
  exact hc
theorem at_c {x:St K.U} {tag:Int} (h:SAt K A w g S bl x) {R:KV} (k:∀w',Grow w w'->R (.int .i64 (posI x.s.L tag)) w'):Zs 132 #[zA g,.int .u32 tag] w R:=by
 obtain⟨κ,gr,acl,rv,lv,tv,hs,FU,h⟩:=h
 apply q153W
 refine nm λw0 e0=>?_
 obtain⟨b0,g0,s0⟩:=alE e0
 have h0:=h.grow g0
 exact withAddr_some ⟨_,h0.b.cell 12,index_c h0.r.l.rd h.r.hl b0 λw' g'=>⟨_,rfl,k w' (g0.then g')⟩⟩
end Go.Proofs.YtdpmhkbhlbfbeaaGreatDoor.Ses
end
section
namespace Go.Proofs.YtdpmhkbhlbfbeaaGreatDoor.Ses
open CW RowKit Pdu
structure WireOk (W:Wire):Prop where
 sen:∀{w:World} {r:Rp} {d:Value} {R:KV},isOne d=true->(∀v w',Grow w w'->OwnB w' 0 tb v (W.sen r.key r.code r.info)->R v w')->Zs 68 #[.agg (rRp r d)] w R
 senl:∀k c i,(W.sen k c i).length<=4096
 two:∀{w:World} {v:Value} {bs:List UInt8} {R:KV},RdB w v bs->(∀w' k o r b,Grow w w'->(∀q,W.two bs=some q->b=true/\k=q.1/\o=q.2)->(W.two bs=none->b=false/\r=wrong 9728)->R (.tuple #[.int .u64 k,.int .u64 o,.agg (rRp r nilV),.bool b]) w')->Zs 171 #[v] w R
 cmd:∀{w:World} {v:Value} {bs:List UInt8} {R:KV},RdB w v bs->bs.length=16->(∀w' r b,Grow w w'->((W.cmd bs).2=0->b=true)->((W.cmd bs).2≠0->b=false/\r=wrong (W.cmd bs).2)->R (.tuple #[.agg (rCm (W.cmd bs).1 nilV),.agg (rRp r nilV),.bool b]) w')->Zs 129 #[v] w R
 cmd0:∀bs,(W.cmd bs).1.d=[]/\(W.cmd bs).1.key=0/\(W.cmd bs).1.new=0
 out:∀{w:World} {c:Cm} {d:Value} {R:KV},isOne d=true->(∀w',Grow w w'->R (.int .i64 (W.out c:Int)) w')->Zs 44 #[.agg (rCm c d)] w R
 outl:∀c,W.out c<=512
 wrg:∀{w:World} {code:Int} {R:KV},(∀w',Grow w w'->R (.agg (rRp (wrong code) nilV)) w')->Zs 65 #[.int .i64 5,.int .i64 code] w R
variable {W:Wire} {K:Doer} {w w':World} {κ:Col} {S :Fp} {g gr:Nat} {acl rv lv tv:Value} {hs:List Sl} {FU:Fp} {A:List (List UInt8)} {bl:List (Value×List UInt8)}
abbrev tRp:TypeId:=49
abbrev tCm:TypeId:=40
theorem fits_32 {n:Int} (h:0<=n) (h1:n < 4294967296):Fits .u32 n:=⟨by simpa[IntKind.min,IntKind.signed]using h,by simp [IntKind.max,IntKind.bits,IntKind.signed];omega⟩
theorem fits_i {n:Int} (h: -9223372036854775808<=n) (h1:n < 9223372036854775808):Fits .i64 n:=⟨by simpa[IntKind.min,IntKind.bits,IntKind.signed]using h,by simp [IntKind.max,IntKind.bits,IntKind.signed];omega⟩
theorem respond_c (HW:WireOk W) {x:St K.U} {tag:Int} {r:Rp} {dv:Value} {n:Nat} (h:SAt K A w g S bl x) (hst:0<=r.st/\r.st<=255) (hone:isOne dv=true) (htag:Fits .u32 tag) (he:Fits .u32 x.s.exp) (hsn:Fits .u32 x.s.sn) (ho:x.o.length<=1000000000) {R:KV}
 (k:∀w' S',Step S w w' S'->SAt K A w' g S' bl (respond W x tag r n)->R (.tuple #[]) w'):
 Zs 130 #[zA g,.int .u32 tag,.agg (rRp r dv),.int .i64 (n:Int)] w R:=by
 apply q162W
 refine nm λw0 e0=>?_
 obtain⟨b0,g0,s0⟩:=alE e0
 refine⟨_,b0.cell 0,nm λw2 e2=>?_⟩
 obtain⟨b2,g2,s2⟩:=alE e2
 refine⟨b2.row rfl rfl,nm λw3 e3=>?_⟩
 obtain⟨b3',t3⟩:=rowE b2 e3 rfl
 have b3:BK w3 w0.heap.size (rP {zP with tag:=tag,st:=r.st,fin:=true,ln:=m32 (n:Int)} nilV) tP:=b3'
 have a3:=(b0.grow g2).turn t3 (by omega)
 have g3:Grow w w3:=Below.turn (g0.then g2) t3 g0.size
 refine JoinP.unit (λw4=>∃dv',Grow w w4/\BK w4 w0.heap.size (rP {zP with tag:=tag,st:=r.st,fin:=true,ln:=m32 (n:Int)} dv') tP/\RdB w4 dv' (if r.st=2 then W.sen r.key r.code r.info else[])) (λj hj=>?_) ?_
 ·refine⟨_,a3.cell 0,cond_intro (λe=>?_) (λe=>?_)⟩
  ·have e:r.st=2:=by simpa using e
   refine⟨_,_,_,_,_,a3.ld rfl,HW.sen hone λv72 w73 g73 o73=>oneK_of (Rd.isOne o73.rd) ⟨st1_at (b3.grow g73) (by show 26 < 27;omega),nm λw74 e74=>?_⟩⟩
   obtain⟨b74,t74⟩:=setE (b3.grow g73) e74
   refine hj _ ⟨v72,Below.turn (g3.then g73) t74 g0.size,b74,?_⟩
   rw[if_pos e]
   exact(o73.turn t74 (own_ne o73 (b3.grow g73) (by decide))).rd
  ·have e:r.st≠2:=by simpa using e
   refine hj _ ⟨nilV,g3,b3,?_⟩
   rw[if_neg e];exact Rd.nil _
 ·rintro w4 ⟨dv',g4,b4,r4⟩
  refine nm λw5 e5=>?_
  have g5:=drE e5
  refine⟨_,_,_,_,_,_,_,_,_,_,_,_,_,_,_,_,_,_,_,_,_,_,_,_,_,_,_,(b4.grow g5).ld rfl,nm λw33 e33=>?_⟩
  obtain rfl:w33=w5:=e33.trans e5.symm
  refine sayer_c λw35 g35 ba bb s35=>⟨⟨_,_,_,_,_,_,_,_,_,_,_,_,_,_,_,_,_,_,_,_,_,_,_,_,_,_,_,((b4.grow g5).grow g35).ld rfl,rfl⟩,?_⟩
  have gA:=g4.then (g5.then g35)
  have z5:w.heap.size<=w33.heap.size:=(g4.then g5).size
  have nS:∀q,w33.heap.size<=q->¬ S q:=λq hq hs=>by have:=h.lt q hs;omega
  have hP:PdFits {zP with tag:=tag,st:=r.st,fin:=true,ln:=m32 (n:Int)}:=⟨(by decide:Fits .i64 0),(by decide:Fits .i64 0),fits_i (by show _<=r.st;omega) (by show r.st < _;omega),htag,(by decide:Fits .u32 0),(by decide:Fits .u32 0),(by decide:Fits .u32 0),(by decide:Fits .u32 0),fits_m32 _⟩
  refine sayN_c (h.grow gA) hP (by decide) (r4.grow (g5.then g35)) he hsn ho ba bb (nS _ (Nat.le_refl _)) (nS _ (by omega)) λw64 S' st h'=>⟨rfl,?_⟩
  exact k w64 S' ((Step.of_grow gA).then st) h'
theorem zip_set {α β:Type} (L:List α) (M:List β) (i:Nat) (a:α) (b:β):(L.zip M).set i (a,b)=(L.set i a).zip (M.set i b):=by
 apply List.ext_getElem?
 intro j
 by_cases hj:i=j
 ·subst hj
  simp only[List.getElem?_set,List.getElem?_zip_eq_some,List.zip,List.getElem?_zipWith]
  by_cases h1:i < L.length<;>by_cases h2:i < M.length<;>simp [h1,h2]<;>omega
 ·rw[List.getElem?_set_ne hj]
  simp only[List.zip,List.getElem?_zipWith]
  rw[List.getElem?_set_ne hj,List.getElem?_set_ne hj]
theorem SIn.elem {x:St K.U} (h:SIn K w κ S g gr acl rv lv tv hs FU A bl x) {i:Nat} (hi:i < x.s.L.length):
 ∃(a:Addr) (hi':i < hs.length),sliceAt lv (i:Int) 12=some a/\Pt S κ 4 a.block/\(∀k,k < 12->w.cell? (a.add k)=(EW.enc (x.s.L[i],hs[i]))[k]?)/\
  ∀k,k < 12->St1 w (a.add k)/\∀(u:Value) (y:Wt) (q:Sl),EW.enc (y,q)=(EW.enc (x.s.L[i],hs[i])).set k u->OwnR EW (w.setCell (a.add k) u) 0 tWt lv ((x.s.L.set i y).zip (hs.set i q)):=by
 have hl:=h.r.hl
 have hz:(x.s.L.zip hs).length=x.s.L.length:=by simp [hl]
 obtain⟨a,h1,h2,_,h4,_,h6⟩:=OwnR.put h.r.l (i:=(i:Int)) (by omega) (by omega)
 have he:(x.s.L.zip hs)[(i:Int).toNat]'(by simp;omega)=(x.s.L[i],hs[i]'(by omega)):=by simp
 refine⟨a,by omega,h1,h.r.lc _ h2,λk hk=>by rw[h4 k hk,he],λk hk=>⟨(h6 k hk).1,λu y q e=>?_⟩⟩
 have:=(h6 k hk).2 u (y,q) (by rw[he];exact e)
 rw[←zip_set]
 exact this
theorem SIn.setE {x:St K.U} (h:SIn K w κ S g gr acl rv lv tv hs FU A bl x) {a:Addr} (hb:Pt S κ 4 a.block) {u:Value} (e:w'=World.setCell w a u) {L':List Wt} {hs':List Sl} (ho:OwnR EW w' 0 tWt lv (L'.zip hs')) (hl:hs'.length=L'.length)
 (hh:∀(i:Nat) (h1:i < L'.length) (h2:i < hs'.length),(∃(j:Nat) (h3:j < x.s.L.length) (h4:j < hs.length),L'[i].hv=x.s.L[j].hv/\hs'[i]=hs[j])\/(sl hs'[i],L'[i].hv)∈bl):
 ∃κ' S',SIn K w' κ' S' g gr acl rv lv tv hs' FU A bl {x with s:={x.s with L:=L'}}/\Step S w w' S'/\(∀k,S' k↔ S k):=by
 have st:Step (Pt S κ 4) w w' (Pt S κ 4):=by subst e;exact Step.setA w a u hb
 have r:=h.r.wait st (λk hk=>Nat.lt_of_lt_of_le (h.r.lt k hk.1) st.size) ho (λk hk=>h.r.lc k hk) hl hh
 exact⟨_,_,⟨h.b.stepS st (λhh=>h.r.g.ne (by decide) hh),r⟩,Step.whole h.r.lt st,λk=>⟨λq=>q.elim id (λq=>q.1),.inl⟩⟩
theorem ready_c {x:St K.U} (h:SIn K w κ S g gr acl rv lv tv hs FU A bl x) {i:Nat} (hi:i < x.s.L.length) {a:Addr} (ha:sliceAt lv (i:Int) 12=some a) (htag:Fits .u32 (x.s.L[i]).tag) (hout:(x.s.L[i]).out<=512) (hhv:(x.s.L[i]).hv.length<=(x.s.L[i]).out) (hbu:x.s.p.bu<=1000000000) (he:Fits .u32 x.s.exp) (ho:x.o.length<=1000000000) {R:KV}
 (k:∀w' S',Step S w w' S'->SAt K A w' g S' bl (ready x i x.s.L[i])->R (.tuple #[]) w'):Zs 133 #[zA g,.pointer (some a)] w R:=by
 apply q160W
 refine nm λw0 e0=>?_
 have g0:=drE e0
 have h0:=h.grow g0
 obtain⟨a',hi',ha',hp,hc,hst⟩:=h0.elem hi
 obtain rfl:a'=a:=by rw[ha]at ha';exact(Option.some.inj ha').symm
 have hv:=h0.r.hv i hi hi'
 have hlen:=RdB.len hv
 have en:(if(x.s.p.bu:Int) < IntKind.wrap .i64 (((x.s.L[i]).out:Int) - ((x.s.L[i]).hv.length:Int))then(x.s.p.bu:Int)else IntKind.wrap .i64 (((x.s.L[i]).out:Int) - ((x.s.L[i]).hv.length:Int)))=((min ((x.s.L[i]).out - (x.s.L[i]).hv.length) x.s.p.bu:Nat):Int):=by
  rw[wi64_id (by omega) (by omega)]
  split<;>omega
 refine withAddr_some ⟨_,hc 10 (by omega),withAddr_some ⟨_,hc 9 (by omega),_,hlen,withAddr_some ⟨_,by rw[add_add];exact h0.b.cell 5,withAddr_some (nm λw9 e9=>?_)⟩⟩⟩
 obtain rfl:w9=w0:=e9.trans e0.symm
 rw[en]
 have hso:=(hst 11 (by omega)).2 (.int .i64 ((min ((x.s.L[i]).out - (x.s.L[i]).hv.length) x.s.p.bu:Nat):Int)) {x.s.L[i]with want:=min ((x.s.L[i]).out - (x.s.L[i]).hv.length) x.s.p.bu} hs[i] rfl
 rw[List.set_getElem_self]at hso
 refine⟨(hst 11 (by omega)).1,nm λw10 e10=>nm λw11 e11=>?_⟩
 obtain rfl:w11=w10:=e11.trans e10.symm
 rw[←e10]at hso
 obtain⟨κ',S',h10,st10,hS⟩:=h0.setE (by rw[add_block];exact hp) e10 hso (by simp [h.r.hl]) (λj h1 h2=>.inl ⟨j,by simpa using h1,h2,by
  by_cases hij:i=j
  ·subst hij;simp
  ·rw[List.getElem_set_ne hij],rfl⟩)
 refine nm λw12 e12=>?_
 have g12:=drE e12
 have h12:=h10.grow g12
 obtain⟨a2,hi2,ha2,hp2,hc2,_⟩:=h12.elem (i:=i) (by simpa using hi)
 obtain rfl:a2=a':=by rw[ha']at ha2;exact(Option.some.inj ha2).symm
 have hv2:=h12.r.hv i (by simpa using hi) hi2
 have eL:(({x with s:={x.s with L:=x.s.L.set i {x.s.L[i]with want:=min ((x.s.L[i]).out - (x.s.L[i]).hv.length) x.s.p.bu}}}:St K.U).s.L[i]'(by simpa using hi))={x.s.L[i]with want:=min ((x.s.L[i]).out - (x.s.L[i]).hv.length) x.s.p.bu}:=by simp
 rw[eL]at hc2 hv2
 refine withAddr_some ⟨_,hc2 0 (by omega),withAddr_some ⟨_,hc2 9 (by omega),_,RdB.len hv2,withAddr_some ⟨_,hc2 11 (by omega),nm λw20 e20=>?_⟩⟩⟩
 obtain rfl:w20=w12:=e20.trans e12.symm
 have w1:IntKind.wrap .u32 ((x.s.L[i]).hv.length:Int)=((x.s.L[i]).hv.length:Int):=w32_id (by omega) (by omega)
 have w2:IntKind.wrap .u32 ((min ((x.s.L[i]).out - (x.s.L[i]).hv.length) x.s.p.bu:Nat):Int)=((min ((x.s.L[i]).out - (x.s.L[i]).hv.length) x.s.p.bu:Nat):Int):=w32_id (by omega) (by omega)
 show Zs _ #[_,.agg #[.int .i64 49,.bool false,.int .i64 0,.int .i64 0,.int .u32 _,.int .u32 0,.int .u32 0,.int .u32 0,.int .u32 (IntKind.wrap .u32 ((x.s.L[i]).hv.length:Int)),.int .u32 (IntKind.wrap .u32 ((min ((x.s.L[i]).out - (x.s.L[i]).hv.length) x.s.p.bu:Nat):Int)),_,_,_,_,_,_,_,_,_,_,_,_,_,_,_,_,_]] _ _
 rw[w1,w2]
 have q1:Fits .u32 (((x.s.L[i]).hv.length:Nat):Int):=fits_32 (by omega) (by omega)
 have q2:Fits .u32 ((min ((x.s.L[i]).out - (x.s.L[i]).hv.length) x.s.p.bu:Nat):Int):=fits_32 (by omega) (by omega)
 have hP:PdFits {zP with op:=49,tag:=(x.s.L[i]).tag,off:=((x.s.L[i]).hv.length:Int),ln:=((min ((x.s.L[i]).out - (x.s.L[i]).hv.length) x.s.p.bu:Nat):Int)}:=⟨(by decide:Fits .i64 49),(by decide:Fits .i64 0),(by decide:Fits .i64 0),htag,(by decide:Fits .u32 0),(by decide:Fits .u32 0),(by decide:Fits .u32 0),q1,q2⟩
 refine say_c (p:={zP with op:=49,tag:=(x.s.L[i]).tag,off:=((x.s.L[i]).hv.length:Int),ln:=((min ((x.s.L[i]).out - (x.s.L[i]).hv.length) x.s.p.bu:Nat):Int)}) (ds:=[]) h12.at hP (Rd.nil _) he ho λw22 S2 st22 h22=>⟨rfl,?_⟩
 exact k w22 S2 (((Step.of_grow g0).then st10).then ((Step.of_grow g12).then st22)) h22
theorem okP_dec {bs:List UInt8} (h:decE bs=0):okP (pdOf bs)=true/\PdFits (pdOf bs)/\(decD bs).length<=4096:=by
 have fe:frontE bs=0:=by
  unfold decE at h
  split at h
  ·exact absurd h (by assumption)
  ·next h2=>exact Decidable.not_not.1 h2
 have hd:=(dn_le fe).1
 have hk:known (bn (bs.getD 0 0))=true:=by
  unfold frontE at fe
  split at fe
  ·cases fe
  ·split at fe
   ·split at fe
    ·cases fe
    ·next h3=>simpa using (not_or.1 h3).1
   ·cases fe
 have h127:∀c:UInt8,((c&&& 127).toNat:Int) < 128:=by
  intro c
  have:(c&&& 127).toNat<=127:=by
   rw[UInt8.toNat_and];exact Nat.and_le_right
  omega
 have hb:=(bs.getD 2 0).toNat_lt
 have r:=λa=>num4_range bs a
 refine⟨?_,⟨?_,?_,?_,?_,?_,?_,?_,?_,?_⟩,?_⟩
 ·have e1:(pdOf bs).fl < 128:=h127 _
  have e2:(pdOf bs).st<=255:=by show((bs.getD 2 0).toNat:Int)<=255;omega
  have e3:0<=(pdOf bs).fl:=by show(0:Int)<=((_:Nat):Int);omega
  have e4:0<=(pdOf bs).st:=by show(0:Int)<=((_:Nat):Int);omega
  simp only[okP,Bool.and_eq_true,decide_eq_true_eq]
  exact⟨⟨⟨⟨hk,e3⟩,e1⟩,e4⟩,e2⟩
 ·have:=known_range hk
  exact fits_i (by show _<=bn (bs.getD 0 0);omega) (by show bn (bs.getD 0 0) < _;omega)
 ·have:=h127 (bs.getD 1 0)
  exact fits_i (by show _<=((_:Nat):Int);omega) (by show(((bs.getD 1 0&&& 127).toNat:Nat):Int) < _;omega)
 ·exact fits_i (by show _<=((_:Nat):Int);omega) (by show((bs.getD 2 0).toNat:Int) < _;omega)
 ·exact fits_32 (r 8).1 (r 8).2
 ·exact fits_32 (r 12).1 (r 12).2
 ·exact fits_32 (r 16).1 (r 16).2
 ·exact fits_32 (r 20).1 (r 20).2
 ·exact fits_32 (r 24).1 (r 24).2
 ·exact fits_32 (r 28).1 (r 28).2
 ·unfold decD;rw[List.length_take];omega
theorem reject_c {x:St K.U} {p:Pd} {dv:Value} {ds:List UInt8} (h:SAt K A w g S bl x) (hf:PdFits p) (hk:okP p=true) (hl:ds.length<=4096) (hd:RdB w dv ds) (he:Fits .u32 x.s.exp) (ho:x.o.length<=1000000000) {R:KV}
 (k:∀w' S',Step S w w' S'->SAt K A w' g S' bl (reject x p ds)->R (.tuple #[]) w'):Zs 87 #[zA g,vP p dv] w R:=by
 apply q161W
 refine nm λw0 e0=>?_
 obtain⟨b0,g0,s0⟩:=alE e0
 have hb:BK w0 w.heap.size (rP p dv) tP:=b0
 refine⟨_,_,_,_,_,_,_,_,_,_,_,_,_,_,_,_,_,_,_,_,_,_,_,_,_,_,_,hb.ld rfl,Encode_c hf (hd.grow g0) λv30 n31 w29 g29 c1 c2 c3=>⟨_,_,rfl,nm λw32 e32=>?_⟩⟩
 have g32:=drE e32
 obtain⟨r30,_,n30⟩:=c3 hk hl
 have r32:=r30.grow g32
 have hll:(encP p ds).length≥52:=by rw[encP_length];omega
 obtain⟨v34,hs34,hr34,_⟩:=Rd.sub r32 (lo:=none) (hi:=some (.int .i64 48)) (l:=0) (r:=48) (λcap hc=>by rw[bounds_ni (by omega) (by simp at hc;omega)];rfl) (by omega) (by simp;omega)
 have r34:RdB w32 v34 ((encQ p ds).take 48):=by
  have:encQ p ds=encP p ds:=by unfold encQ;rw[if_pos ⟨hk,hl⟩]
  rw[this];simpa[RdB,List.map_take]using hr34
 have b32:=(hb.grow g29).grow g32
 refine⟨_,b32.cell 4,v34,hs34,oneK_of (Rd.isOne r34) (nm λw35 e35=>?_)⟩
 obtain rfl:w35=w32:=e35.trans e32.symm
 have hP:PdFits {zP with op:=63,tag:=p.tag}:=⟨(by decide:Fits .i64 63),(by decide:Fits .i64 0),(by decide:Fits .i64 0),hf.tag,(by decide:Fits .u32 0),(by decide:Fits .u32 0),(by decide:Fits .u32 0),(by decide:Fits .u32 0),(by decide:Fits .u32 0)⟩
 have gA:=g0.then (g29.then g32)
 refine say_c (p:={zP with op:=63,tag:=p.tag}) (h.grow gA) hP r34 he ho λw37 S' st h'=>⟨rfl,k w37 S' ((Step.of_grow gA).then st) h'⟩
end Go.Proofs.YtdpmhkbhlbfbeaaGreatDoor.Ses
end
section
namespace Go.Proofs.YtdpmhkbhlbfbeaaGreatDoor.Ses
open CW RowKit Pdu
variable {W:Wire} {K:Doer} {w w':World} {κ:Col} {S :Fp} {g gr:Nat} {acl rv lv tv:Value} {hs:List Sl} {FU:Fp} {A:List (List UInt8)} {bl:List (Value×List UInt8)}
theorem do_c {x:St K.U} {c:Cm} {dv:Value} (h:SAt K A w g S bl x) (hok:K.Ok x.u x.s.p.nm c) (hd:RdB w dv c.d) {R:KV}
 (k:∀v w' S',Step S w w' S'->SAt K A w' g S' bl {x with u:=(K.step x.u x.s.p.nm c).2}->RpAt w w' v (K.step x.u x.s.p.nm c).1->R v w'):
 callU Tryz.prog K.f #[.string (textOf x.s.p.nm),.agg (rCm c dv)] w R:=by
 obtain⟨κ,gr,acl,rv,lv,tv,hs,FU,h⟩:=h
 refine callU_of K.body (K.spec h.r.u hok hd λv w' F' st hu hr=>?_)
 have st':Step (Pt S κ 6) w w' F':=st.imp (λq hq=>h.r.uc q hq) (λq hq=>(st.fp q hq).imp (λq'=>h.r.uc q q') id)
 have r:=h.r.unit st' (K.lt hu) hu (λq hq=>hq)
 exact k v w' _ (Step.whole h.r.lt st') ⟨_,gr,acl,rv,lv,tv,hs,F',⟨h.b.stepS st' (λhh=>h.r.g.ne (by decide) hh),r⟩⟩ hr
theorem SAt.cells {x:St K.U} (h:SAt K A w g S bl x):∃gr acl lv tv,BK w g (rS K.f acl gr x.s lv tv) tSes:=by
 obtain⟨κ,gr,acl,rv,lv,tv,hs,FU,h⟩:=h
 exact⟨_,_,_,_,h.b⟩
theorem done_c (HW:WireOk W) {x:St K.U} {tag:Int} {c:Cm} {dv:Value} {ds:List UInt8} (h:SAt K A w g S bl x) (hd:RdB w dv ds) (hl:ds.length<=5000) (hc:c.d=[]) (htag:Fits .u32 tag) (he:Fits .u32 x.s.exp) (hsn:Fits .u32 x.s.sn) (ho:x.o.length<=900000000)
 (hmd:512<=x.s.p.md/\x.s.p.md<=1000000000) (hok:∀c',full W c ds=some c'->K.Ok x.u x.s.p.nm c') {R:KV}
 (k:∀w' S',Step S w w' S'->SAt K A w' g S' bl (done W K.step x tag c ds)->R (.tuple #[]) w'):
 Zs 131 #[zA g,.int .u32 tag,.agg (rCm c nilV),dv] w R:=by
 apply q157W
 refine nm λw0 e0=>?_
 obtain⟨b0,g0,s0⟩:=alE e0
 have hb0:BK w0 w.heap.size (rCm c nilV) tCm:=b0
 have hS:∀q,w.heap.size<=q->¬ S q:=λq hq hs=>by have:=h.lt q hs;omega
 refine⟨_,hb0.cell 0,?_⟩
 refine JoinP.unit (λw2=>∃c' dv',Grow w w2/\BK w2 w.heap.size (rCm c' dv') tCm/\RdB w2 dv' c'.d/\full W c ds=some c') (λj hj=>?_) ?_
 ·refine JoinP.bool (λb w2=>w2=w0/\b=isPr c.kind) (λj1 hj1=>?_) ?_
  ·have hq:∀b,b=isPr c.kind->j1 b w0:=λb hb=>hj1 _ _ ⟨rfl,hb⟩
   refine cond_intro (λe=>hq _ ?_) (λe0=>cond_intro (λe=>hq _ ?_) (λe1=>cond_intro (λe=>hq _ ?_) (λe2=>cond_intro (λe=>hq _ ?_) (λe3=>cond_intro (λe=>hq _ ?_) (λe4=>hq _ ?_)))))
   all_goals unfold isPr;rw[Bool.eq_iff_iff];simp only[beq_iff_eq,beq_eq_false_iff_ne,Bool.and_eq_true,decide_eq_true_eq]at *;omega
  rintro b w2 ⟨rfl,rfl⟩
  refine cond_intro (λhp=>?_) (λhp=>?_)
  ·refine HW.two (hd.grow g0) λw95 k1 o1 r1 b1 g95 c1 c2=>⟨_,_,_,_,_,_,_,_,rfl,nm λw104 e104=>?_⟩
   obtain⟨b104,g104,s104⟩:=alE e104
   refine⟨b104.row rfl rfl,nm λw105 e105=>?_⟩
   obtain⟨b105,t105⟩:=rowE b104 e105 rfl
   have gA:Grow w w105:=Below.turn (g0.then (g95.then g104)) t105 (g0.then g95).size
   have l0:w.heap.size < w95.heap.size:=Nat.lt_of_lt_of_le b0.lt g95.size
   have hb5:BK w105 w.heap.size (rCm c nilV) tCm:=((hb0.grow g95).grow g104).turn t105 (by omega)
   cases hW:W.two ds with
   |none=>
    obtain⟨rfl,rfl⟩:=c2 hW
    refine cond_t rfl ⟨_,_,_,_,_,b105.ld rfl,?_⟩
    have hfull:full W c ds=none:=by unfold full;rw[if_pos hp,hW]
    refine respond_c HW (n:=0) (r:=wrong 9728) (h.grow gA) ⟨by decide,by decide⟩ rfl htag he hsn (by omega) λw112 S' st h'=>⟨rfl,?_⟩
    refine k w112 S' ((Step.of_grow gA).then st) ?_
    unfold done;rw[hfull];exact h'
   |some q=>
    obtain⟨rfl,rfl,rfl⟩:=c1 q hW
    have hfull:full W c ds=some {c with key:=q.1,new:=q.2}:=by unfold full;rw[if_pos hp,hW]
    refine cond_f rfl ⟨st1_at hb5 (by show 4 < 8;omega),nm λw113 e113=>?_⟩
    obtain⟨b113,t113⟩:=setE hb5 e113
    refine⟨st1_at b113 (by show 5 < 8;omega),nm λw114 e114=>?_⟩
    obtain⟨b114,t114⟩:=setE b113 e114
    refine hj _ ⟨{c with key:=q.1,new:=q.2},nilV,Below.turn (Below.turn gA t113 (Nat.le_refl _)) t114 (Nat.le_refl _),b114,?_,hfull⟩
    show RdB _ _ c.d
    rw[hc];exact Rd.nil _
  ·refine slices_Clone_c (hd.grow g0) (by omega) λv115 w116 g116 o116=>oneK_of (Rd.isOne o116.rd) ?_
   have hb6:=hb0.grow g116
   refine⟨st1_at hb6 (by show 3 < 8;omega),nm λw117 e117=>?_⟩
   obtain⟨b117,t117⟩:=setE hb6 e117
   have hfull:full W c ds=some {c with d:=ds}:=by unfold full;rw[if_neg (by rw[hp];simp)]
   exact hj _ ⟨{c with d:=ds},v115,Below.turn (g0.then g116) t117 (Nat.le_refl _),b117,(o116.turn t117 (own_ne o116 hb6 (by decide))).rd,hfull⟩
 rintro w2 ⟨c',dv',g2,hb2,rd2,hfull⟩
 have hok':=hok c' hfull
 have hrp:=K.rp hok'
 have hdone:done W K.step x tag c ds=fin W K.step x tag c':=by unfold done;rw[hfull]
 rw[hdone]at k
 refine JoinP.val (λv3 w4=>∃b dvr S',v3= zA b/\Step S w w4 S'/\SAt K A w4 g S' bl {x with u:=(K.step x.u x.s.p.nm c').2}/\BK w4 b (rRp (K.step x.u x.s.p.nm c').1 dvr) tRp/\RdB w4 dvr (K.step x.u x.s.p.nm c').1.d/\¬S' b) (λj hj=>?_) ?_
 ·refine nm λw35 e35=>?_
  have g35:=drE e35
  have h35:=h.grow (g2.then g35)
  obtain⟨gr,acl,lv,tv,hg⟩:=h35.cells
  have hb35:=hb2.grow g35
  have rd35:=rd2.grow g35
  refine withAddr_some ⟨_,hg.cell 1,withAddr_some ⟨_,by rw[add_add];exact hg.cell 3,_,_,_,_,_,_,_,_,hb35.ld rfl,nm λw48 e48=>⟨?_,?_⟩⟩⟩
  ·obtain rfl:w48=w35:=e48.trans e35.symm
   have gA:=g2.then g35
   refine do_c h35 hok' rd35 λv49 w50 S' st h50 ⟨dvr,hv,rdr,nr⟩=>⟨_,_,_,_,_,hv,?_⟩
   obtain⟨gr',acl',lv',tv',hg50⟩:=h50.cells
   obtain⟨b66,g66,s66⟩:=alE (w:=w50) (cs:= #[(.int .i64 (0:Int)),(.int .i64 (0:Int)),(.int .i64 (0:Int)),(.slice none 0 0),(.int .i64 (0:Int))]) (t:=tRp) rfl
   have hg66:=hg50.grow g66
   have hb50:BK w50 w.heap.size (rCm c' dv') tCm:=hb35.stepS st (hS _ (Nat.le_refl _))
   have hb66:=hb50.grow g66
   refine⟨⟨_,hg66.cell 1,rfl⟩,⟨_,by rw[add_add];exact hg66.cell 3,rfl⟩,⟨_,_,_,_,_,_,_,_,hb66.ld rfl,rfl⟩,nm λw66 e66=>nm λw67 e67=>?_⟩
   obtain rfl:w67=w66:=e67.trans e66.symm
   rw[←e67]at b66 g66 hg66 hb66
   refine⟨b66.row rfl (by show oneL [_,_,_,dvr,_]=true;simp only[oneL,Rd.isOne rdr];rfl),nm λw68 e68=>nm λw69 e69=>?_⟩
   obtain rfl:w69=w68:=e69.trans e68.symm
   obtain⟨b69,t69⟩:=rowE b66 e69 rfl
   have nS:¬S' w50.heap.size:=λhh=>by have:=h50.lt _ hh;omega
   have rdr':RdB w69 dvr (K.step x.u x.s.p.nm c').1.d:=by
    refine Rd.turnX (rdr.grow g66) t69 (λhx e=>?_)
    have:=Rd.lt rdr hx _ e;omega
   have m:Md S w.heap.size w w69:=(((((Md.refl S w.heap.size w).grow gA).stp st (λq hq=>.inl hq) (λq hq=>(st.fp q hq).imp .inl id)).grow g66).turn t69 (.inr (Nat.le_trans gA.size st.size)))
   exact hj _ _ ⟨w50.heap.size,dvr,S',rfl,m.out.imp (λ_ h=>h) (λq hq=>(st.fp q hq).imp id (λz=>Nat.le_trans gA.size z)),(h50.grow g66).turn t69 nS,b69,rdr',nS⟩
  ·obtain rfl:w48=w35:=e48.trans e35.symm
   have gA:=g2.then g35
   obtain⟨b80,g80,s80⟩:=alE (w:=w48) (cs:= #[(.int .i64 (0:Int)),(.int .i64 (0:Int)),(.int .i64 (0:Int)),(.slice none 0 0),(.int .i64 (0:Int))]) (t:=tRp) rfl
   have hg80:=hg.grow g80
   have hb80:=hb35.grow g80
   refine⟨⟨_,hg80.cell 1,rfl⟩,⟨_,by rw[add_add];exact hg80.cell 3,rfl⟩,⟨_,_,_,_,_,_,_,_,hb80.ld rfl,rfl⟩,nm λw80 e80=>nm λw81 e81=>?_⟩
   obtain rfl:w81=w80:=e81.trans e80.symm
   rw[←e81]at b80 g80 hg80 hb80 s80
   have nb:¬ S w48.heap.size:=hS _ gA.size
   refine do_c (h35.grow g80) hok' (rd35.grow g80) λv82 w83 S' st h83 ⟨dvr,hv,rdr,nr⟩=>⟨_,_,_,_,_,hv,?_⟩
   have b83:=b80.stepS st nb
   refine⟨b83.row rfl (by show oneL [_,_,_,dvr,_]=true;simp only[oneL,Rd.isOne rdr];rfl),nm λw89 e89=>nm λw90 e90=>?_⟩
   obtain rfl:w90=w89:=e90.trans e89.symm
   obtain⟨b90,t90⟩:=rowE b83 e90 rfl
   have nS:¬S' w48.heap.size:=λhh=>by
    rcases st.fp _ hh with q|q
    ·exact nb q
    ·omega
   have rdr':RdB w90 dvr (K.step x.u x.s.p.nm c').1.d:=by
    refine Rd.turnX rdr t90 (λhx e=>?_)
    have:=nr _ e;omega
   have m:Md S w.heap.size w w90:=(((((Md.refl S w.heap.size w).grow gA).grow g80).stp st (λq hq=>.inl hq) (λq hq=>(st.fp q hq).imp .inl id))).turn t90 (.inr gA.size)
   exact hj _ _ ⟨w48.heap.size,dvr,S',rfl,m.out.imp (λ_ h=>h) (λq hq=>(st.fp q hq).imp id (λz=>Nat.le_trans (gA.then g80).size z)),h83.turn t90 nS,b90,rdr',nS⟩
 generalize hq:K.step x.u x.s.p.nm c'=q at *
 have hfin:fin W K.step x tag c'=respond W (if q.1.st=0/\q.1.d≠[] then say ({x with u:=q.2}:St K.U) {zP with op:=37,tag:=tag,fin:=true} q.1.d else{x with u:=q.2}) tag q.1 (if q.1.st=0 then q.1.d.length else 0):=by
  unfold fin;simp only[hq]
 rw[hfin]at k
 rintro v3 w4 ⟨b,dvr,S',rfl,st4,h4,b4,r4,nS4⟩
 have hdl:=hrp.d
 refine JoinP.int (λn w5=>w5=w4/\n=((if q.1.st=0 then q.1.d.length else 0:Nat):Int)) (λj hj=>?_) ?_
 ·refine withAddr_some ⟨_,b4.cell 0,cond_intro (λe=>withAddr_some ⟨_,b4.cell 3,_,RdB.len r4,hj _ _ ⟨rfl,?_⟩⟩) (λe=>hj _ _ ⟨rfl,?_⟩)⟩
  ·have e:q.1.st=0:=by simpa using e
   rw[if_pos e]
  ·have e:q.1.st≠0:=by simpa using e
   rw[if_neg e];rfl
 rintro n w5 ⟨rfl,rfl⟩
 generalize hn:(if q.1.st=0 then q.1.d.length else 0)=n at *
 have hnl:n<=512:=by rw[←hn];split<;>omega
 refine⟨λ(i:Int) (ww:World)=>(i=0/\ww=w5)\/(0 < n/\i=(x.s.p.md:Int)/\∃S2,Step S w ww S2/\SAt K A ww g S2 bl (say ({x with u:=q.2}:St K.U) {zP with op:=37,tag:=tag,fin:=true} q.1.d)/\BK ww b (rRp q.1 dvr) tRp/\isOne dvr=true),λ(i:Int) (_:World)=>((n:Int) - i).toNat,.inl ⟨rfl,rfl⟩,?_⟩
 dsimp only[allR,mapR2,eqN,ltN]
 rintro m i ww ⟨hi,hm⟩
 refine cond_intro (λhlt=>?_) (λhge=>?_)
 ·have hlt:i < (n:Int):=by simpa using hlt
  rcases hi with ⟨rfl,rfl⟩|⟨h0,rfl,_⟩
  ·obtain⟨gr,acl,lv,tv,hg⟩:=h4.cells
   have h0:0 < n:=by omega
   have hst:q.1.st=0:=by
    by_cases hs:q.1.st=0
    ·exact hs
    ·rw[if_neg hs]at hn;omega
   have hne:q.1.d.length=n:=by rw[if_pos hst]at hn;exact hn
   have hmdw:(if(n:Int) < IntKind.wrap .i64 (0+(x.s.p.md:Int))then(n:Int)else IntKind.wrap .i64 (0+(x.s.p.md:Int)))=(n:Int):=by
    rw[wi64_id (n:=0+(x.s.p.md:Int)) (by omega) (by omega)];split<;>omega
   have hmdw2:IntKind.wrap .i64 (0+(x.s.p.md:Int))=(x.s.p.md:Int):=by rw[wi64_id (by omega) (by omega)];omega
   refine withAddr_some ⟨_,by rw[add_add];exact hg.cell 4,withAddr_some ⟨_,b4.cell 3,?_⟩⟩
   rw[hmdw]
   obtain⟨v14,hs14,hr14,_⟩:=Rd.sub r4 (lo:=some (.int .i64 0)) (hi:=some (.int .i64 (n:Int))) (l:=0) (r:=n) (λcap hcap=>by rw[bounds_ii (by omega) (by omega) (by simp at hcap;omega)];rfl) (by omega) (by simp;omega)
   have r14:RdB ww v14 q.1.d:=by
    have e:((q.1.d.map b8).drop 0).take (n - 0)=q.1.d.map b8:=by rw[List.drop_zero,List.take_of_length_le (by simp;omega)]
    rw[e]at hr14;exact hr14
   refine⟨v14,hs14,oneK_of (Rd.isOne r14) ?_⟩
   have hP:PdFits {zP with op:=37,tag:=tag,fin:=true}:=⟨(by decide:Fits .i64 37),(by decide:Fits .i64 0),(by decide:Fits .i64 0),htag,(by decide:Fits .u32 0),(by decide:Fits .u32 0),(by decide:Fits .u32 0),(by decide:Fits .u32 0),(by decide:Fits .u32 0)⟩
   have e1:((n:Int)==(n:Int))=true:=by simp
   rw[e1]
   refine say_c (p:={zP with op:=37,tag:=tag,fin:=true}) h4 hP r14 he (by show x.o.length<=_;omega) λw16 S2 st16 h16=>⟨rfl,?_⟩
   obtain⟨gr',acl',lv',tv',hg'⟩:=h16.cells
   have b16:=b4.stepS st16 nS4
   refine withAddr_some ⟨_,by rw[add_add];exact hg'.cell 4,?_⟩
   show _/\_
   have em:IntKind.wrap .i64 (0+((say ({x with u:=q.2}:St K.U) {zP with op:=37,tag:=tag,fin:=true} q.1.d).s.p.md:Int))=(x.s.p.md:Int):=hmdw2
   rw[em]
   exact⟨.inr ⟨h0,rfl,S2,st4.then st16,h16,b16,Rd.isOne r4⟩,by omega⟩
  ·omega
 ·have hge:¬i < (n:Int):=by simpa using hge
  rcases hi with ⟨rfl,rfl⟩|⟨h0,rfl,S2,st2,h2',b2',one2⟩
  ·have hz:n=0:=by omega
   have hno:¬(q.1.st=0/\q.1.d≠[]):=by
    rintro⟨e1,e2⟩
    rw[if_pos e1]at hn
    exact e2 (List.eq_nil_of_length_eq_zero (by omega))
   rw[if_neg hno]at k
   refine withAddr_some ⟨_,_,_,_,_,b4.ld rfl,?_⟩
   refine respond_c HW (n:=n) h4 hrp.st (Rd.isOne r4) htag he hsn (by show x.o.length<=_;omega) λw26 S3 st3 h3=>⟨rfl,k w26 S3 (st4.then st3) h3⟩
  ·have hyes:q.1.st=0/\q.1.d≠[]:=by
    by_cases hs:q.1.st=0
    ·rw[if_pos hs]at hn
     exact⟨hs,λe=>by rw[e]at hn;simp at hn;omega⟩
    ·rw[if_neg hs]at hn;omega
   rw[if_pos hyes]at k
   refine withAddr_some ⟨_,_,_,_,_,b2'.ld rfl,?_⟩
   have hol:(say ({x with u:=q.2}:St K.U) {zP with op:=37,tag:=tag,fin:=true} q.1.d).o.length<=1000000000:=by
    show(x.o++_).length<=_
    rw[List.length_append]
    refine Nat.le_trans (Nat.add_le_add_left (encQ_length _ _) _) ?_
    omega
   refine respond_c HW (n:=n) h2' hrp.st one2 htag he hsn hol λw26 S3 st3 h3=>⟨rfl,k w26 S3 (st2.then st3) h3⟩
end Go.Proofs.YtdpmhkbhlbfbeaaGreatDoor.Ses
end
section
namespace Go.Proofs.YtdpmhkbhlbfbeaaGreatDoor.Ses
open CW RowKit Pdu
variable {W:Wire} {K:Doer} {w w':World} {κ:Col} {S :Fp} {g gr:Nat} {acl rv lv tv:Value} {hs:List Sl} {FU:Fp} {A:List (List UInt8)} {bl:List (Value×List UInt8)}
theorem SIn.drop {x:St K.U} {lv':Value} {i:Nat} (h:SIn K w κ S g gr acl rv lv tv hs FU A bl x) (hi:i < x.s.L.length) (hv:lv'.ownBlock=lv.ownBlock) (st:Step (λq=>lv.ownBlock=some q) w w' (λq=>lv.ownBlock=some q))
 (ho:OwnR EW w' 0 tWt lv' ((x.s.L.zip hs).take i++(x.s.L.zip hs).drop (i+1))):
 ∃κ' S',Rest K w' κ' S' g gr acl rv lv' tv (hs.eraseIdx i) FU A bl (x.s.L.eraseIdx i) x.s.rd x.s.re x.o x.u/\BK w' g (rS K.f acl gr x.s lv tv) tSes/\Step S w w' S'/\(∀k,S' k↔ S k):=by
 have st':Step (Pt S κ 4) w w' (Pt S κ 4):=st.imp (λq hq=>h.r.lc q hq) (λq hq=>.inl hq)
 rw[zip_erase]at ho
 have hl:=h.r.hl
 have r:=h.r.wait st' (λk hk=>Nat.lt_of_lt_of_le (h.r.lt k hk.1) st.size) ho (λk hk=>h.r.lc k (hv▸hk)) (by rw[List.length_eraseIdx_of_lt (by omega),List.length_eraseIdx_of_lt hi,hl]) (λj h1 h2=>.inl (by
  rw[List.length_eraseIdx_of_lt hi]at h1
  by_cases hj:j < i
  ·exact⟨j,by omega,by omega,by rw[List.getElem_eraseIdx_of_lt _ hj],by rw[List.getElem_eraseIdx_of_lt _ hj]⟩
  ·exact⟨j+1,by omega,by omega,by rw[List.getElem_eraseIdx_of_ge _ (by omega)],by rw[List.getElem_eraseIdx_of_ge _ (by omega)]⟩))
 exact⟨_,_,r,h.b.stepS st' (λhh=>h.r.g.ne (by decide) hh),Step.whole h.r.lt st',λk=>⟨λq=>q.elim id (λq=>q.1),.inl⟩⟩
theorem Rest.none {L:List Wt} {rd o:List UInt8} {re:Int} {u:K.U} (h:Rest K w κ S g gr acl rv lv tv hs FU A bl L rd re o u):Rest K w κ S g gr acl rv nilV tv [] FU A bl [] rd re o u:=
 ⟨h.lt,h.g,h.rb,h.rg,h.ro,h.rc,OwnR.nil _ _ _,λk hk=>(by cases hk),h.t,h.tc,h.u,h.uc,rfl,λi hi=>absurd hi (Nat.not_lt_zero _),λi hi=>absurd hi (Nat.not_lt_zero _),h.bl,h.ac,h.acc⟩
theorem posOf_some {L:List Wt} {tag:Int} {i:Nat} (h:posOf L tag=some i):i < L.length/\posI L tag=(i:Int):=by
 refine⟨?_,by unfold posI;rw[h]⟩
 unfold posOf at h
 split at h
 ·next hl=>cases h;exact hl
 ·cases h
theorem posOf_none {L:List Wt} {tag:Int} (h:posOf L tag=none):posI L tag= -1:=by unfold posI;rw[h]
theorem own_isOne {α:Type} {E:Enc α} {B:Nat} {e:TypeId} {v:Value} {L:List α} (h:OwnR E w B e v L):isOne v=true:=by
 rcases h.2 with ⟨rfl,hn⟩|⟨g,cap,cur,rfl,_⟩<;>rfl
theorem drop_c {x:St K.U} {i:Nat} (h:SAt K A w g S bl x) (hi:i < x.s.L.length) {R:World->Prop}
 (k:∀w' S',Step S w w' S'->(∀k,S' k↔ S k)->SAt K A w' g S' bl (dropW x i)->R w'):
 ∃(v18:Value),w.cell? (Addr.add ⟨g,0,none⟩ 12)=some v18/\Zs 134 #[v18,.int .i64 (i:Int),.int .i64 (IntKind.wrap .i64 ((i:Int)+1))] w λv19 w20=>
  withAddr (zA g) λa21=>oneK v19 ((St1 w20 (Addr.add a21 12))/\bindW (World.setCell w20 (Addr.add a21 12) v19) λw22=>R w22):=by
 obtain⟨κ,gr,acl,rv,lv,tv,hs,FU,h⟩:=h
 have hl:=h.r.hl
 have hle:=h.r.l.rd.le
 have hz:(x.s.L.zip hs).length=x.s.L.length:=by simp [hl]
 rw[wi64_id (by omega) (by omega)]
 refine⟨lv,h.b.cell 12,delete_c h.r.l (by omega) λv19 w20 hob st ho=>?_⟩
 obtain⟨κ',S',r,b,st',hS⟩:=h.drop hi hob st ho
 refine withAddr_some (oneK_of (own_isOne ho) ⟨st1_at b (by show 12 < 14;omega),nm λw22 e22=>?_⟩)
 obtain⟨b22,t22⟩:=setE b e22
 exact k w22 S' (st'.then (t22.step r.g.1)) hS ⟨κ',gr,acl,rv,v19,tv,_,FU,⟨b22,r.turn t22⟩⟩
theorem manage_c (HW:WireOk W) {x:St K.U} {p:Pd} {dv:Value} {ds:List UInt8} (h:SAt K A w g S bl x) (hf:PdFits p) (hd:RdB w dv ds) (he:Fits .u32 x.s.exp) (hsn:Fits .u32 x.s.sn) (ho:x.o.length<=1000000000) (hok:p.fl=5->K.Ok x.u x.s.p.nm reset) {R:KV}
 (k:∀w' S',Step S w w' S'->SAt K A w' g S' bl (manage K.step x p)->R (.tuple #[]) w'):Zs 86 #[zA g,vP p dv] w R:=by
 apply q159W
 have hS:∀q,w.heap.size<=q->¬ S q:=λq hq hs=>by have:=h.lt q hs;omega
 refine nm λw0 e0=>?_
 obtain⟨b0',g0,s0⟩:=alE e0
 have b0:BK w0 w.heap.size (rP p dv) tP:=b0'
 have h0:=h.grow g0
 refine⟨_,b0.cell 2,?_⟩
 refine JoinP.int (λn ww=>∃S',Step S w ww S'/\SAt K A ww g S' bl (manY K.step x p).1/\n=(manY K.step x p).2/\BK ww w.heap.size (rP p dv) tP) (λj hj=>?_) ?_
 ·unfold manY at hj
  refine cond_intro (λe1=>?_) (λe1=>?_)
  ·have e1:p.fl=1:=by simpa using e1
   rw[if_pos e1]at hj
   refine⟨_,b0.cell 8,at_c h0 λw15 g15=>⟨_,rfl,?_⟩⟩
   have h15:=h0.grow g15
   have b15:=b0.grow g15
   have gA:=g0.then g15
   cases hp:posOf x.s.L p.off with
   |none=>
    rw[hp]at hj
    rw[posOf_none hp]
    exact cond_t rfl (hj _ _ ⟨S,Step.of_grow gA,h15,rfl,b15⟩)
   |some i=>
    rw[hp]at hj
    obtain⟨hi,hpi⟩:=posOf_some hp
    rw[hpi]
    refine cond_f (by simp) (withAddr_some ?_)
    refine drop_c h15 hi λw22 S' st hS' h'=>hj _ _ ⟨S',(Step.of_grow gA).then st,h',rfl,b15.stepS st (hS _ (Nat.le_refl _))⟩
  have e1:p.fl≠1:=by simpa using e1
  rw[if_neg e1]at hj
  refine cond_intro (λe2=>?_) (λe2=>?_)
  ·have e2:p.fl=2:=by simpa using e2
   rw[if_pos e2]at hj
   obtain⟨κ,gr,acl,rv,lv,tv,hs,FU,hi0⟩:=h0
   refine withAddr_some ⟨st1_at hi0.b (by show 12 < 14;omega),nm λw24 e24=>?_⟩
   obtain⟨b24,t24⟩:=setE hi0.b e24
   exact hj _ _ ⟨S,(Step.of_grow g0).then (t24.step hi0.r.g.1),⟨κ,gr,acl,rv,nilV,tv,[],FU,⟨b24,hi0.r.none.turn t24⟩⟩,rfl,b0.turn t24 (λe=>hS _ (Nat.le_refl _) (e▸hi0.r.g.1))⟩
  have e2:p.fl≠2:=by simpa using e2
  rw[if_neg e2]at hj
  refine cond_intro (λe5=>?_) (λe5=>?_)
  ·have e5:p.fl=5:=by simpa using e5
   rw[if_pos e5]at hj
   obtain⟨κ,gr,acl,rv,lv,tv,hs,FU,hi0⟩:=h0
   refine withAddr_some ⟨st1_at hi0.b (by show 12 < 14;omega),nm λw26 e26=>?_⟩
   obtain⟨b26,t26⟩:=setE hi0.b e26
   have h26:SAt K A w26 g S bl ({x with s:={x.s with L:=[]}}:St K.U):=⟨κ,gr,acl,rv,nilV,tv,[],FU,⟨b26,hi0.r.none.turn t26⟩⟩
   have bp26:=b0.turn t26 (λe=>hS _ (Nat.le_refl _) (e▸hi0.r.g.1))
   refine nm λw27 e27=>?_
   have g27:=drE e27
   have b27:=b26.grow g27
   refine withAddr_some ⟨_,b27.cell 1,withAddr_some ⟨_,by rw[add_add];exact b27.cell 3,nm λw32 e32=>?_⟩⟩
   obtain rfl:w32=w27:=e32.trans e27.symm
   refine do_c (c:=reset) (dv:=nilV) (h26.grow g27) (hok e5) (Rd.nil _) λv33 w34 S' st h34 ⟨dvr,hv,rdr,nr⟩=>⟨_,_,_,_,_,hv,?_⟩
   have st0:Step S w w26 S :=(Step.of_grow g0).then (t26.step hi0.r.g.1)
   exact hj _ _ ⟨S',(st0.then (Step.of_grow g27)).then st,h34,rfl,(bp26.grow g27).stepS st (hS _ (Nat.le_refl _))⟩
  have e5:p.fl≠5:=by simpa using e5
  rw[if_neg e5]at hj
  exact hj _ _ ⟨S,Step.of_grow g0,h0,rfl,b0⟩
 ·rintro n w3 ⟨S1,st1,h1,rfl,b1⟩
  have hy:(manY K.step x p).1.s.exp=x.s.exp/\(manY K.step x p).1.s.sn=x.s.sn/\(manY K.step x p).1.o=x.o/\0<=(manY K.step x p).2/\(manY K.step x p).2<=255:=by
   unfold manY
   split
   ·split
    ·exact⟨rfl,rfl,rfl,by simp,by simp⟩
    ·exact⟨rfl,rfl,rfl,by simp,by simp⟩
   ·split
    ·exact⟨rfl,rfl,rfl,by simp,by simp⟩
    ·split
     ·exact⟨rfl,rfl,rfl,by simp,by simp⟩
     ·exact⟨rfl,rfl,rfl,by simp,by simp⟩
  obtain⟨y1,y2,y3,y4,y5⟩:=hy
  refine nm λw4 e4=>?_
  have g4:=drE e4
  have b4:=b1.grow g4
  refine⟨_,b4.cell 4,nm λw6 e6=>?_⟩
  obtain rfl:w6=w4:=e6.trans e4.symm
  refine sayer_c λw8 g8 ba bb s8=>⟨⟨_,(b4.grow g8).cell 4,rfl⟩,?_⟩
  have hP:PdFits {zP with tag:=p.tag,st:=(manY K.step x p).2}:=⟨(by decide:Fits .i64 0),(by decide:Fits .i64 0),fits_i (by show _<=(manY K.step x p).2;omega) (by show(manY K.step x p).2 < _;omega),hf.tag,(by decide:Fits .u32 0),(by decide:Fits .u32 0),(by decide:Fits .u32 0),(by decide:Fits .u32 0),(by decide:Fits .u32 0)⟩
  have nS:∀q,w6.heap.size<=q->¬S1 q:=λq hq hs=>by have:=h1.lt q hs;have:=g4.size;omega
  refine sayN_c (p:={zP with tag:=p.tag,st:=(manY K.step x p).2}) (ds:=[]) ((h1.grow g4).grow g8) hP (by decide) (Rd.nil _) (by rw[y1];exact he) (by rw[y2];exact hsn) (by rw[y3];exact ho) ba bb (nS _ (Nat.le_refl _)) (nS _ (by omega)) λw11 S2 st2 h2=>⟨rfl,?_⟩
  exact k w11 S2 ((st1.then (Step.of_grow (g4.then g8))).then st2) h2
end Go.Proofs.YtdpmhkbhlbfbeaaGreatDoor.Ses
end
section
namespace Go.Proofs.YtdpmhkbhlbfbeaaGreatDoor.Ses
open CW RowKit Pdu
variable {W:Wire} {K:Doer} {w w':World} {κ:Col} {S :Fp} {g gr:Nat} {acl rv lv tv:Value} {hs:List Sl} {FU:Fp} {A:List (List UInt8)} {bl:List (Value×List UInt8)}
structure WtOk (v:Wt):Prop where
 tag:Fits .u32 v.tag
 d:v.c.d=[]
 out:v.out<=512
 hv:v.hv.length+v.want<=v.out
structure SOk (s:Ses):Prop where
 exp:Fits .u32 s.exp
 sn:Fits .u32 s.sn
 md:512<=s.p.md/\s.p.md<=1000000000
 bu:s.p.bu<=1000000000
 L:∀v∈s.L,WtOk v
 len:s.L.length<=16
theorem rP_cdb {w0:World} {b:Nat} {p:Pd} {dv:Value} (h:BK w0 b (rP p dv) tP):RdB w0 (.slice (some (Addr.add ⟨b,0,none⟩ 10)) 16 16) p.cdb:=rd_mid h 10 16 (by simp) (by simp [maxLen])
theorem command_c (HW:WireOk W) {x:St K.U} {p:Pd} {dv:Value} {ds:List UInt8} (h:SAt K A w g S bl x) (hm:(dv,ds)∈bl) (hf:PdFits p) (hl:ds.length<=4096) (hs:SOk x.s) (ho:x.o.length<=900000000)
 (hok:(W.cmd p.cdb).2=0->∀c',(W.out (W.cmd p.cdb).1=0->full W (W.cmd p.cdb).1 []=some c'->K.Ok x.u x.s.p.nm c')/\(ds.length=W.out (W.cmd p.cdb).1->full W (W.cmd p.cdb).1 ds=some c'->K.Ok x.u x.s.p.nm c')) {R:KV}
 (k:∀w' S',Step S w w' S'->SAt K A w' g S' bl (command W K.step x p ds)->R (.tuple #[]) w'):Zs 83 #[zA g,vP p dv] w R:=by
 apply q155W
 have hS:∀q,w.heap.size<=q->¬ S q:=λq hq hs=>by have:=h.lt q hs;omega
 have hd:=h.byt hm
 refine nm λw0 e0=>?_
 obtain⟨b0',g0,s0⟩:=alE e0
 have b0:BK w0 w.heap.size (rP p dv) tP:=b0'
 obtain⟨hcd,hck,hcn⟩:=HW.cmd0 p.cdb
 unfold command at k
 refine HW.cmd (rP_cdb b0) (by rfl) λw2 r b g2 c1 c2=>?_
 generalize hQ:W.cmd p.cdb=Q at *
 refine⟨_,_,_,_,_,_,_,_,_,_,_,_,_,_,rfl,nm λw17 e17=>?_⟩
 obtain⟨bc17,g17,s17⟩:=alE e17
 refine nm λw18 e18=>?_
 obtain⟨br18,g18,s18⟩:=alE e18
 have bc18:=bc17.grow g18
 refine⟨bc18.row rfl rfl,nm λw19 e19=>?_⟩
 obtain⟨bc19,t19⟩:=rowE bc18 e19 rfl
 have br19:=br18.turn t19 (by omega)
 refine⟨br19.row rfl rfl,nm λw20 e20=>?_⟩
 obtain⟨br20,t20⟩:=rowE br19 e20 rfl
 have bc20:=bc19.turn t20 (by omega)
 have z0:w.heap.size < w0.heap.size:=b0.lt
 have z2:=g2.size
 have gA:Grow w w20:=Below.turn (Below.turn (g0.then (g2.then (g17.then g18))) t19 (by omega)) t20 (by omega)
 have b20:BK w20 w.heap.size (rP p dv) tP:=((((b0.grow g2).grow g17).grow g18).turn t19 (by omega)).turn t20 (by omega)
 refine⟨_,_,_,_,_,_,_,_,bc20.ld rfl,HW.out (c:=Q.1) rfl λw30 g30=>⟨_,rfl,HW.wrg λw33 g33=>⟨_,_,_,_,_,rfl,nm λw39 e39=>?_⟩⟩⟩
 obtain⟨bf39,g39,s39⟩:=alE e39
 refine⟨bf39.row rfl rfl,nm λw40 e40=>?_⟩
 obtain⟨bf40,t40⟩:=rowE bf39 e40 rfl
 have z33:=(g30.then g33).size
 have z20:w20.heap.size=w2.heap.size+2:=by rw[t20.size,t19.size,s18,s17]
 have gB:Grow w w40:=Below.turn (gA.then (g30.then (g33.then g39))) t40 (by omega)
 have bp:BK w40 w.heap.size (rP p dv) tP:=(((b20.grow g30).grow g33).grow g39).turn t40 (by omega)
 have bc:BK w40 w2.heap.size (rCm Q.1 nilV) tCm:=(((bc20.grow g30).grow g33).grow g39).turn t40 (by omega)
 have br:BK w40 w17.heap.size (rRp r nilV) tRp:=(((br20.grow g30).grow g33).grow g39).turn t40 (by omega)
 have bf:BK w40 w33.heap.size (rRp (wrong 9216) nilV) tRp:=bf40
 have h40:=h.grow gB
 have hd40:=hd.grow gB
 have ol:=HW.outl Q.1
 clear e0 e17 e18 e19 e20 e39 e40
 refine JoinP.unit (λw41=>∃S',Step S w w41 S'/\SAt K A w41 g S' bl (command W K.step x p ds)) (λj hj=>?_) (λw41 ⟨S',st,h'⟩=>k w41 S' st (by unfold command at h';rw[hQ]at h';exact h'))
 have hj:∀w41 S',Step S w w41 S'->SAt K A w41 g S' bl (command W K.step x p ds)->j w41:=λw41 S' a b=>hj _ ⟨S',a,b⟩
 unfold command at hj
 rw[hQ]at hj
 simp only at hj
 refine cond_intro (λeb=>?_) (λeb=>?_)
 ·have hne:Q.2≠0:=λe=>by rw[c1 e]at eb;cases eb
  obtain⟨rfl,rfl⟩:=c2 hne
  rw[if_pos hne]at hj
  refine⟨_,bp.cell 4,_,_,_,_,_,br.ld rfl,?_⟩
  exact respond_c HW (n:=0) (r:=wrong Q.2) h40 ⟨by show(0:Int)<=2;omega,by show(2:Int)<=255;omega⟩ rfl hf.tag hs.exp hs.sn (by omega) λw50 S' st h'=>⟨rfl,hj w50 S' ((Step.of_grow gB).then st) h'⟩
 have hz:Q.2=0:=by
  apply Decidable.byContradiction
  intro hne
  rw[(c2 hne).1]at eb;cases eb
 rw[if_neg (λh=>h hz)]at hj
 have hok:=hok hz
 refine cond_intro (λe0=>?_) (λe0=>?_)
 ·have e0:W.out Q.1=0:=by simp at e0;omega
  rw[if_pos e0]at hj
  refine⟨_,bp.cell 4,_,_,_,_,_,_,_,_,bc.ld rfl,?_⟩
  exact done_c HW h40 (Rd.nil _) (by simp) hcd hf.tag hs.exp hs.sn ho hs.md (λc' hc'=>(hok c').1 e0 hc') λw61 S' st h'=>⟨rfl,hj w61 S' ((Step.of_grow gB).then st) h'⟩
 have e0:W.out Q.1≠0:=by simp at e0;omega
 rw[if_neg e0]at hj
 have hlen:=RdB.len hd40
 refine JoinP.bool (λb ww=>ww=w40/\(b=true↔(ds≠[]/\x.s.p.im=false)\/W.out Q.1 < ds.length)) (λj1 hj1=>?_) ?_
 ·have h1:∀b,(b=true↔(ds≠[]/\x.s.p.im=false)\/W.out Q.1 < ds.length)->j1 b w40:=λb hb=>hj1 _ _ ⟨rfl,hb⟩
  obtain⟨gr,acl,lv,tv,hg⟩:=h40.cells
  have hpos:0 < ds.length↔ds≠[]:=List.length_pos_iff
  refine⟨_,bp.cell 26,_,hlen,cond_intro (λq=>withAddr_some ⟨_,by rw[add_add];exact hg.cell 6,cond_intro (λq2=>h1 _ ?_) (λq2=>⟨_,bp.cell 26,_,hlen,h1 _ ?_⟩)⟩) (λq=>⟨_,bp.cell 26,_,hlen,h1 _ ?_⟩)⟩
  ·have q:0 < ds.length:=by have:=of_decide_eq_true q;omega
   simp only[Bool.not_eq_true']at q2
   exact⟨λ_=>.inl ⟨hpos.1 q,q2⟩,λ_=>rfl⟩
  ·simp only[Bool.not_eq_false']at q2
   simp only[decide_eq_true_eq,q2]
   constructor
   ·intro h;exact .inr (by omega)
   ·rintro(⟨_,h⟩|h)
    ·cases h
    ·omega
  ·have q:¬0 < ds.length:=by have:=of_decide_eq_false q;omega
   simp only[decide_eq_true_eq]
   constructor
   ·intro h;exact .inr (by omega)
   ·rintro(⟨h,_⟩|h)
    ·exact absurd (hpos.2 h) q
    ·omega
 rintro b63 w63 ⟨rfl,hb63⟩
 refine cond_intro (λq=>?_) (λq=>?_)
 ·rw[if_pos (hb63.1 q)]at hj
  refine⟨_,bp.cell 4,_,_,_,_,_,bf.ld rfl,?_⟩
  exact respond_c HW (n:=0) (r:=wrong 9216) h40 ⟨by decide,by decide⟩ rfl hf.tag hs.exp hs.sn (by omega) λw50 S' st h'=>⟨rfl,hj w50 S' ((Step.of_grow gB).then st) h'⟩
 rw[if_neg (λhh=>by rw[hb63.2 hh]at q;cases q)]at hj
 refine⟨_,bp.cell 26,_,hlen,cond_intro (λq=>?_) (λq=>?_)⟩
 ·have q:ds.length=W.out Q.1:=by simp at q;omega
  rw[if_pos q]at hj
  refine⟨_,bp.cell 4,_,_,_,_,_,_,_,_,bc.ld rfl,_,bp.cell 26,?_⟩
  exact done_c HW h40 hd40 (by omega) hcd hf.tag hs.exp hs.sn ho hs.md (λc' hc'=>(hok c').2 q hc') λw61 S' st h'=>⟨rfl,hj w61 S' ((Step.of_grow gB).then st) h'⟩
 have q:ds.length≠W.out Q.1:=by simp at q;omega
 have qlt:ds.length < W.out Q.1:=by
  have:¬W.out Q.1 < ds.length:=λhh=>by
   rename_i q1 _
   have:=hb63.2 (.inr hh)
   simp_all
  omega
 rw[if_neg q]at hj
 refine⟨_,bp.cell 4,at_c h40 λw88 g88=>⟨_,rfl,?_⟩⟩
 have h88:=h40.grow g88
 have bp88:=bp.grow g88
 have bc88:=bc.grow g88
 have bf88:=bf.grow g88
 have gC:=gB.then g88
 cases hp:posOf x.s.L p.tag with
 |some i=>
  obtain⟨hi,hpi⟩:=posOf_some hp
  rw[hpi]
  rw[if_pos (by rw[hp];rfl)]at hj
  refine cond_t (by simp) ⟨_,bp88.cell 4,_,_,_,_,_,bf88.ld rfl,?_⟩
  exact respond_c HW (n:=0) (r:=wrong 9216) h88 ⟨by decide,by decide⟩ rfl hf.tag hs.exp hs.sn (by omega) λw50 S' st h'=>⟨rfl,hj w50 S' ((Step.of_grow gC).then st) h'⟩
 |none=>
  rw[posOf_none hp]
  rw[if_neg (by rw[hp];simp)]at hj
  refine cond_f rfl ?_
  obtain⟨κ,gr,acl,rv,lv,tv,hs',FU,hi⟩:=h88
  have hl':=hi.r.hl
  have hz':(x.s.L.zip hs').length=x.s.L.length:=by simp [hl']
  have hsl:=hi.r.l.rd.len
  rw[hz']at hsl
  refine withAddr_some ⟨lv,hi.b.cell 12,_,hsl,cond_intro (λq6=>?_) (λq6=>?_)⟩
  ·have q6:16<=x.s.L.length:=by simp at q6;omega
   rw[if_pos q6]at hj
   refine⟨_,bp88.cell 4,?_⟩
   exact respond_c HW (n:=0) (r:=⟨8,0,0,[],0⟩) (dv:=nilV) hi.at ⟨by decide,by decide⟩ rfl hf.tag hs.exp hs.sn (by omega) λw50 S' st h'=>⟨rfl,hj w50 S' ((Step.of_grow gC).then st) h'⟩
  have q6:¬16<=x.s.L.length:=by simp at q6;omega
  rw[if_neg q6]at hj
  refine nm λw104 e104=>?_
  have g104:=drE e104
  have h104:=hi.grow g104
  obtain⟨a,rfl⟩:=sl_of hd
  refine withAddr_some ⟨lv,h104.b.cell 12,_,(bp88.grow g104).cell 4,_,_,_,_,_,_,_,_,(bc88.grow g104).ld rfl,_,(bp88.grow g104).cell 26,oneK_of rfl (nm λw117 e117=>?_)⟩
  obtain rfl:w117=w104:=e117.trans e104.symm
  have hE:(#[.int .u32 p.tag,.int .i64 Q.1.kind,.int .i64 (Q.1.pos:Int),.int .i64 (Q.1.n:Int),nilV,.int .u64 Q.1.key,.int .u64 Q.1.new,.int .i64 Q.1.typ,.bool Q.1.fo,sl a,.int .i64 (W.out Q.1:Int),.int .i64 (0:Int)]:Array Value)=(EW.flat [((⟨p.tag,Q.1,ds,W.out Q.1,0⟩:Wt),a)]).toArray:=rfl
  have eA:∀cs:Array Value,cs=(EW.flat [((⟨p.tag,Q.1,ds,W.out Q.1,0⟩:Wt),a)]).toArray->∀wz,wz=World.alloc w117 (.cells cs tWt)->Grow w117 wz/\RdR EW wz (.slice (some ⟨w117.heap.size,0,none⟩) 1 1) [((⟨p.tag,Q.1,ds,W.out Q.1,0⟩:Wt),a)]:=by
   rintro cs rfl wz rfl
   exact⟨Grow.al (Grow.refl _) _,(OwnR.lit w117 (Nat.le_refl _) tWt [((⟨p.tag,Q.1,ds,W.out Q.1,0⟩:Wt),a)] 1 rfl (by simp [maxLen])).rd⟩
  have gz:=(eA _ hE _ rfl).1
  refine⟨⟨lv,(h104.grow gz).b.cell 12,rfl⟩,nm λw119 e119=>nm λw120 e120=>?_⟩
  obtain⟨g120,r120⟩:=eA _ hE w120 e120
  have h120:=h104.grow g120
  have hle:=h120.r.l.rd.le
  obtain⟨v121,w122,k122,o122,n122⟩:=app_ownR tyWt h120.r.l r120 (by simp only[List.length_cons,List.length_nil];omega) (Nat.zero_le _)
  have st:Step (Pt S κ 4) w120 w122 (λq=>v121.ownBlock=some q):=(Step.of_own n122 (S :=Pt S κ 4) (λq hq=>hi.r.lc q hq)).imp (λ_ h=>h) (λq hq=>by
   rcases n122.at_ with e|e
   ·exact .inl (hi.r.lc q (e▸hq))
   ·exact .inr (e q hq))
  have ezip:x.s.L.zip hs'++[((⟨p.tag,Q.1,ds,W.out Q.1,0⟩:Wt),a)]=(x.s.L++[(⟨p.tag,Q.1,ds,W.out Q.1,0⟩:Wt)]).zip (hs'++[a]):=by
   rw[List.zip_append hl'.symm];rfl
  rw[ezip]at o122
  have r122:=h120.r.wait (L':=x.s.L++[⟨p.tag,Q.1,ds,W.out Q.1,0⟩]) (hs':=hs'++[a]) st (λq hq=>(o122.lt q hq).2) o122 (λq hq=>hq) (by simp [hl']) (λj h1 h2=>by
   by_cases hj:j < x.s.L.length
   ·exact .inl ⟨j,hj,by omega,by rw[List.getElem_append_left hj],by rw[List.getElem_append_left (by omega)]⟩
   ·have ej:j=x.s.L.length:=by simp at h1;omega
    subst ej
    right
    rw[List.getElem_append_right (by omega),List.getElem_append_right (by omega)]
    simpa using hm)
  have b122:=h120.b.stepS st (λhh=>hi.r.g.ne (by decide) hh)
  refine⟨v121,w122,k122,withAddr_some (oneK_of (own_isOne o122) ⟨st1_at b122 (by show 12 < 14;omega),nm λw124 e124=>nm λw125 e125=>?_⟩)⟩
  obtain rfl:w125=w124:=e125.trans e124.symm
  obtain⟨b125,t125⟩:=setE b122 e125
  have h125:SIn K w125 (reC κ w120 4) (reS S λq=>v121.ownBlock=some q) g gr acl rv v121 tv (hs'++[a]) FU A bl ({x with s:={x.s with L:=x.s.L++[⟨p.tag,Q.1,ds,W.out Q.1,0⟩]}}:St K.U):=⟨b125,r122.turn t125⟩
  refine nm λw126 e126=>?_
  have g126:=drE e126
  have h126:=h125.grow g126
  have hrl:=h126.r.l.rd
  have hzl:((x.s.L++[(⟨p.tag,Q.1,ds,W.out Q.1,0⟩:Wt)]).zip (hs'++[a])).length=x.s.L.length+1:=by simp [hl']
  have hsl2:=hrl.len
  rw[show(({x with s:={x.s with L:=x.s.L++[⟨p.tag,Q.1,ds,W.out Q.1,0⟩]}}:St K.U).s.L.zip (hs'++[a])).length=x.s.L.length+1 from hzl]at hsl2
  obtain⟨a132,ha132,_⟩:=RdR.at hrl (i:=(x.s.L.length:Int)) (by omega) (by show _ < ((((x.s.L++[(⟨p.tag,Q.1,ds,W.out Q.1,0⟩:Wt)]).zip (hs'++[a])).length:Nat):Int);rw[hzl];omega)
  refine withAddr_some ⟨v121,h126.b.cell 12,withAddr_some ⟨v121,h126.b.cell 12,_,hsl2,a132,?_,nm λw133 e133=>?_⟩⟩
  ·have e:IntKind.wrap .i64 (((x.s.L.length+1:Nat):Int) - 1)=(x.s.L.length:Int):=by rw[wi64_id (by omega) (by omega)];omega
   rw[e];exact ha132
  obtain rfl:w133=w126:=e133.trans e126.symm
  have eL:(({x with s:={x.s with L:=x.s.L++[⟨p.tag,Q.1,ds,W.out Q.1,0⟩]}}:St K.U).s.L[x.s.L.length]'(by simp))=⟨p.tag,Q.1,ds,W.out Q.1,0⟩:=by simp
  refine ready_c h126 (i:=x.s.L.length) (by simp) ha132 (by rw[eL];exact hf.tag) (by rw[eL];exact ol) (by rw[eL];exact Nat.le_of_lt qlt) hs.bu hs.exp (by show x.o.length<=_;omega) λw135 S' st' h'=>⟨rfl,?_⟩
  rw[eL]at h'
  have m:Step S w w133 (reS S λq=>v121.ownBlock=some q):=(((Step.of_grow (gC.then (g104.then g120))).then (Step.whole h120.r.lt st)).then (t125.step (.inl hi.r.g.1))).then (Step.of_grow g126)
  exact hj w135 S' (m.then st') h'
end Go.Proofs.YtdpmhkbhlbfbeaaGreatDoor.Ses
end
