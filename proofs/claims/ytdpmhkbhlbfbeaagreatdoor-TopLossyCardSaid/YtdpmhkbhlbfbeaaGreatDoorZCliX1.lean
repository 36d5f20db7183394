/- A part of the proof. -/
import Derived.Test.YtdpmhkbhlbfbeaaGreatDoorZSesX2
set_option linter.unusedSimpArgs false
set_option linter.unusedVariables false
set_option maxRecDepth 100000
section
namespace Go.Proofs.YtdpmhkbhlbfbeaaGreatDoor.Cli
open CW RowKit Pdu Ses
structure Ak where
 tag:Int
 cdb:List UInt8
 d:List UInt8
 hv:List UInt8
 sent:Bool
structure Cl where
 p:Prm
 rd:List UInt8
 re:Int
 op:Bool
 cl:Bool
 asked:Bool
 sn:Int
 mx:Int
 tag:Int
 L:List Ak
 say:List UInt8
 done:List (Int×Rp)
def gap (a b:Int):Int:=IntKind.wrap .i64 (IntKind.wrap .i32 (IntKind.wrap .u32 (b - a)))
def tell (c:Cl) (p:Pd) (ds:List UInt8):Cl:={c with say:=c.say++encQ p ds}
def cdbP (p:Pd) (l:List UInt8):Pd:={p with
 c0:=l.getD 0 0,c1:=l.getD 1 0,c2:=l.getD 2 0,c3:=l.getD 3 0,c4:=l.getD 4 0,c5:=l.getD 5 0,c6:=l.getD 6 0,c7:=l.getD 7 0,
 c8:=l.getD 8 0,c9:=l.getD 9 0,c10:=l.getD 10 0,c11:=l.getD 11 0,c12:=l.getD 12 0,c13:=l.getD 13 0,c14:=l.getD 14 0,c15:=l.getD 15 0}
def ask (c:Cl) (cdb d:List UInt8):Cl:={c with tag:=m32 (c.tag+1),L:=c.L++[⟨m32 (c.tag+1),cdb,d,[],false⟩]}
def send (c:Cl) (i:Nat):Nat->Cl
 |0=>c
 |n+1=>match c.L[i]? with
  |none=>c
  |some a=>
   if a.sent then send c (i+1) n
   else if gap c.sn c.mx < 0 then c
   else send {tell c (cdbP {zP with op:=1,fin:=true,tag:=a.tag,sn:=c.sn} a.cdb) (if c.p.im then a.d else[])with sn:=m32 (c.sn+1),L:=c.L.set i {a with sent:=true}} (i+1) n
def outC (lt:Prm->List UInt8) (c:Cl):Cl×List UInt8:=
 if c.cl then(c,[])
 else
  let x:=if c.asked=false then tell {c with asked:=true} {zP with op:=3,fin:=true,sn:=1} (lt c.p)else if c.op then send c 0 c.L.length else c
  ({x with say:=[]},x.say)
def clos (c:Cl):Cl:={c with cl:=true,L:=[],say:=[],rd:=[],re:=0}
def fidx (L:List Ak) (tag:Int):Nat:=L.findIdx λw=>w.tag==tag
def posOf (L:List Ak) (tag:Int):Option Nat:=if fidx L tag < L.length then some (fidx L tag)else none
def ready (c:Cl) (a:Ak) (p:Pd):Cl:=
 let f:=min p.off.toNat a.d.length
 let t:=min (f+p.ln.toNat) a.d.length
 if f=t then c else tell c {zP with op:=5,fin:=true,tag:=a.tag,off:=(f:Int)} ((a.d.drop f).take (t - f))
def respond (sen:List UInt8->Int×Int×Int×Int) (c:Cl) (i:Nat) (a:Ak) (p:Pd) (ds:List UInt8):Cl:=
 {c with L:=c.L.eraseIdx i,done:=c.done++[(a.tag,⟨p.st,if p.st=2 then(sen ds).1 else 0,if p.st=2 then(sen ds).2.1 else 0,a.hv,if p.st=2/\(sen ds).1=14 then(sen ds).2.2.1 else 0⟩)]}
variable (sen:List UInt8->Int×Int×Int×Int) (lg:Cl->Pd->List UInt8->Cl)
def take (c:Cl) (p:Pd) (ds:List UInt8):Cl:=
 if c.op=false then lg c p ds
 else
  let x:=if 0 < gap c.mx p.mx then{c with mx:=p.mx} else c
  if p.op=38 then clos x
  else match posOf x.L p.tag with
   |none=>x
   |some i=>match x.L[i]? with
    |none=>x
    |some a=>
     if p.op=49 then ready x a p
     else if p.op=37 then(if p.off=(a.hv.length:Int)/\a.hv.length < 4096 then{x with L:=x.L.set i {a with hv:=a.hv++ds}} else x)
     else if p.op=33 then respond sen x i a p ds
     else x
def loop:Nat->Cl->Cl
 |0,c=>c
 |n+1,c=>
  if c.cl then c
  else if decE c.rd=0 then loop n (take sen lg {c with rd:=c.rd.drop (decN c.rd).toNat} (pdOf c.rd) (decD c.rd))
  else if decE c.rd=3 then c else clos c
def inp (c:Cl) (bs:List UInt8):Cl:=
 if c.cl then c else loop sen lg (c.rd.length+bs.length+1) {c with rd:=c.rd++bs}
end Go.Proofs.YtdpmhkbhlbfbeaaGreatDoor.Cli
end
section
namespace Go.Proofs.YtdpmhkbhlbfbeaaGreatDoor.Cli
open CW RowKit Pdu Ses
abbrev tCl:TypeId:=74
abbrev tAk:TypeId:=76
abbrev tDn:TypeId:=85
abbrev tRr:TypeId:=139
abbrev Sl3:=Sl×Sl×Sl
def EA:Enc (Ak×Sl3):=⟨6,λq=>[.int .u32 q.1.tag,sl q.2.1,sl q.2.2.1,sl q.2.2.2,.bool q.1.sent,.bool false],λ_=>rfl,by omega,λ_=>rfl⟩
def ED:Enc ((Int×Rp)×Sl):=⟨6,λq=>[.int .u32 q.1.1,.int .i64 q.1.2.st,.int .i64 q.1.2.key,.int .i64 q.1.2.code,sl q.2,.int .i64 q.1.2.info],λ_=>rfl,by omega,λ_=>rfl⟩
abbrev rC (c:Cl) (gr:Nat) (lv tv dv:Value):Array Value:= #[.string (textOf c.p.nm),.int .i64 (c.p.md:Int),.int .i64 (c.p.bu:Int),.bool c.p.im,.bool c.p.dg,zA gr,.bool c.op,.bool c.cl,.bool c.asked,.bool false,.bool false,.int .u32 c.sn,.int .u32 c.mx,.int .u32 c.tag,lv,tv,dv]
def BlAt (w:World) (κ:Col) (S :Fp) (v:Value) (bs:List UInt8):Prop:=RdB w v bs/\(bs≠[]->∀k,v.ownBlock=some k->Pt S κ 7 k)
variable {w w':World} {κ:Col} {S T:Fp} {g gr:Nat} {rv lv tv dv:Value} {hs:List Sl3} {ds:List Sl} {bl:List (Value×List UInt8)} {L:List Ak} {rd o:List UInt8} {re:Int} {D:List (Int×Rp)} {v:Value} {bs:List UInt8}
theorem BlAt.up {c:Nat} (h:BlAt w κ S v bs) (hc:7≠c) (hi:InW w S) (st:Step (Pt S κ c) w w' T):BlAt w' (reC κ w c) (reS S T) v bs:=
 ⟨h.1.stepS st (λhx q hq=>(h.2 (λe=>hx (by rw[e];rfl)) q hq).ne hc),λhx q hq=>Pt.up hi (h.2 hx q hq)⟩
theorem BlAt.grow (h:BlAt w κ S v bs) (gg:Grow w w'):BlAt w' κ S v bs:=⟨h.1.grow gg,h.2⟩
theorem BlAt.apart {T T':Fp} (h:BlAt w κ S v bs) (st:Step T w w' T') (hT:∀k, S k->¬T k):BlAt w' κ S v bs:=⟨h.1.stepS st (λhx q hq=>hT q (h.2 (λe=>hx (by rw[e];rfl)) q hq).1),h.2⟩
theorem BlAt.turn (h:BlAt w κ S v bs) (hg:Pt S κ 1 g) (t:Turn g w w'):BlAt w' κ S v bs:=
 ⟨h.1.stepS (t.step (S :=λk=>k=g) rfl) (λhx q hq e=>by
  have:=(h.2 (λe=>hx (by rw[e];rfl)) q hq).2
  rw[e,hg.2]at this
  cases this),h.2⟩
theorem BlAt.nil:BlAt w κ S nilV []:=⟨Rd.nil _,λh=>absurd rfl h⟩
structure AkAt (w:World) (κ:Col) (S :Fp) (q:Sl3) (a:Ak):Prop where
 c:BlAt w κ S (sl q.1) a.cdb
 d:BlAt w κ S (sl q.2.1) a.d
 h:BlAt w κ S (sl q.2.2) a.hv
 n:a.hv=[]->q.2.2=(none,0,0)
variable {q:Sl3} {a:Ak}
theorem AkAt.up {c:Nat} (h:AkAt w κ S q a) (hc:7≠c) (hi:InW w S) (st:Step (Pt S κ c) w w' T):AkAt w' (reC κ w c) (reS S T) q a:=⟨h.c.up hc hi st,h.d.up hc hi st,h.h.up hc hi st,h.n⟩
theorem AkAt.grow (h:AkAt w κ S q a) (gg:Grow w w'):AkAt w' κ S q a:=⟨h.c.grow gg,h.d.grow gg,h.h.grow gg,h.n⟩
theorem AkAt.apart {T T':Fp} (h:AkAt w κ S q a) (st:Step T w w' T') (hT:∀k, S k->¬T k):AkAt w' κ S q a:=⟨h.c.apart st hT,h.d.apart st hT,h.h.apart st hT,h.n⟩
theorem AkAt.turn (h:AkAt w κ S q a) (hg:Pt S κ 1 g) (t:Turn g w w'):AkAt w' κ S q a:=⟨h.c.turn hg t,h.d.turn hg t,h.h.turn hg t,h.n⟩
structure Rest (w:World) (κ:Col) (S :Fp) (g gr:Nat) (rv lv tv dv:Value) (hs:List Sl3) (ds:List Sl) (bl:List (Value×List UInt8)) (L:List Ak) (rd:List UInt8) (re:Int) (o:List UInt8) (D:List (Int×Rp)):Prop where
 lt:InW w S
 g:Pt S κ 1 g
 rb:BK w gr #[rv,.int .i64 re] tRr
 rg:Pt S κ 3 gr
 ro:OwnB w 0 tb rv rd
 rc:∀k,rv.ownBlock=some k->Pt S κ 3 k
 l:OwnR EA w 0 tAk lv (L.zip hs)
 lc:∀k,lv.ownBlock=some k->Pt S κ 4 k
 t:OwnB w 0 tb tv o
 tc:∀k,tv.ownBlock=some k->Pt S κ 5 k
 d:OwnR ED w 0 tDn dv (D.zip ds)
 dc:∀k,dv.ownBlock=some k->Pt S κ 6 k
 hl:hs.length=L.length
 dl:ds.length=D.length
 hv:∀(i:Nat) (h:i < L.length) (h':i < hs.length),AkAt w κ S hs[i] L[i]
 db:∀(i:Nat) (h:i < D.length) (h':i < ds.length),BlAt w κ S (sl ds[i]) D[i].2.d
 bl:∀q∈bl,BlAt w κ S q.1 q.2
theorem Rest.grow (h:Rest w κ S g gr rv lv tv dv hs ds bl L rd re o D) (gg:Grow w w'):Rest w' κ S g gr rv lv tv dv hs ds bl L rd re o D:=
 ⟨λk hk=>Nat.lt_of_lt_of_le (h.lt k hk) gg.size,h.g,h.rb.grow gg,h.rg,h.ro.grow gg,h.rc,h.l.grow gg,h.lc,h.t.grow gg,h.tc,h.d.grow gg,h.dc,h.hl,h.dl,λi h1 h2=>(h.hv i h1 h2).grow gg,λi h1 h2=>(h.db i h1 h2).grow gg,λq hq=>(h.bl q hq).grow gg⟩
theorem Rest.apart {T T':Fp} (h:Rest w κ S g gr rv lv tv dv hs ds bl L rd re o D) (st:Step T w w' T') (hT:∀k, S k->¬T k):Rest w' κ S g gr rv lv tv dv hs ds bl L rd re o D:=
 ⟨λk hk=>Nat.lt_of_lt_of_le (h.lt k hk) st.size,h.g,h.rb.stepS st (hT _ h.rg.1),h.rg,h.ro.stepS st (λq hq=>hT q (h.rc q hq).1),h.rc,OwnR.stepS h.l st (λq hq=>hT q (h.lc q hq).1),h.lc,h.t.stepS st (λq hq=>hT q (h.tc q hq).1),h.tc,OwnR.stepS h.d st (λq hq=>hT q (h.dc q hq).1),h.dc,h.hl,h.dl,λi h1 h2=>(h.hv i h1 h2).apart st hT,λi h1 h2=>(h.db i h1 h2).apart st hT,λq hq=>(h.bl q hq).apart st hT⟩
theorem Rest.turn (h:Rest w κ S g gr rv lv tv dv hs ds bl L rd re o D) (t:Turn g w w'):Rest w' κ S g gr rv lv tv dv hs ds bl L rd re o D:=by
 have st:Step (λk=>k=g) w w' (λk=>k=g):=t.step rfl
 have ne:∀{d k:Nat},d≠1->Pt S κ d k->k≠g:=λhd hk e=>hd (hk.2.symm.trans (e▸h.g.2))
 exact⟨λk hk=>Nat.lt_of_lt_of_le (h.lt k hk) st.size,h.g,h.rb.stepS st (ne (by decide) h.rg),h.rg,h.ro.stepS st (λq hq=>ne (by decide) (h.rc q hq)),h.rc,OwnR.stepS h.l st (λq hq=>ne (by decide) (h.lc q hq)),h.lc,h.t.stepS st (λq hq=>ne (by decide) (h.tc q hq)),h.tc,OwnR.stepS h.d st (λq hq=>ne (by decide) (h.dc q hq)),h.dc,h.hl,h.dl,λi h1 h2=>(h.hv i h1 h2).turn h.g t,λi h1 h2=>(h.db i h1 h2).turn h.g t,λq hq=>(h.bl q hq).turn h.g t⟩
theorem Rest.less {bl':List (Value×List UInt8)} (h:Rest w κ S g gr rv lv tv dv hs ds bl L rd re o D) (hb:∀q∈bl',q∈bl):Rest w κ S g gr rv lv tv dv hs ds bl' L rd re o D:={h with bl:=λq hq=>h.bl q (hb q hq)}
theorem Rest.also (h:Rest w κ S g gr rv lv tv dv hs ds bl L rd re o D) (hb:BlAt w κ S v bs):Rest w κ S g gr rv lv tv dv hs ds ((v,bs)::bl) L rd re o D:=by
 refine{h with bl:=λq hq=>?_}
 rcases List.mem_cons.1 hq with rfl|hq
 ·exact hb
 ·exact h.bl q hq
theorem Step.newB (hw:Grow w w') (hr:RdB w' v bs) (hn:NewV w v):Step (Pt S κ 7) w w' (λk=>v.ownBlock=some k/\bs≠[])/\InW w' (λk=>v.ownBlock=some k/\bs≠[]):=
 ⟨⟨hw.os,hw.tape,hw.output,hw.size,λk hk _=>hw.block k hk,λk hk=>.inr (hn k hk.1)⟩,λk hk=>Rd.lt hr (by simpa using hk.2) k hk.1⟩
theorem Rest.more (h:Rest w κ S g gr rv lv tv dv hs ds bl L rd re o D) (hw:Grow w w') (hr:RdB w' v bs) (hn:NewV w v):
 Rest w' (reC κ w 7) (reS S λk=>v.ownBlock=some k/\bs≠[]) g gr rv lv tv dv hs ds ((v,bs)::bl) L rd re o D:=by
 obtain⟨st,ht⟩:=Step.newB (S := S) (κ:=κ) hw hr hn
 have h':=h.grow hw
 have up:∀{d k:Nat},Pt S κ d k->Pt (reS S λk=>v.ownBlock=some k/\bs≠[]) (reC κ w 7) d k:=λhk=>Pt.up h.lt hk
 have upB:∀{v':Value} {bs':List UInt8},BlAt w' κ S v' bs'->BlAt w' (reC κ w 7) (reS S λk=>v.ownBlock=some k/\bs≠[]) v' bs':=λhb=>⟨hb.1,λhx q hq=>up (hb.2 hx q hq)⟩
 refine⟨reS_in h.lt st ht,up h.g,h'.rb,up h.rg,h'.ro,λk hk=>up (h.rc k hk),h'.l,λk hk=>up (h.lc k hk),h'.t,λk hk=>up (h.tc k hk),h'.d,λk hk=>up (h.dc k hk),h.hl,h.dl,λi h1 h2=>⟨upB (h'.hv i h1 h2).c,upB (h'.hv i h1 h2).d,upB (h'.hv i h1 h2).h,(h'.hv i h1 h2).n⟩,λi h1 h2=>upB (h'.db i h1 h2),λq hq=>?_⟩
 rcases List.mem_cons.1 hq with rfl|hq
 ·exact⟨hr,λhx k hk=>Pt.of_fp h.lt st ⟨hk,hx⟩⟩
 ·exact upB (h'.bl q hq)
theorem Rest.told (h:Rest w κ S g gr rv lv tv dv hs ds bl L rd re o D) (st:Step (Pt S κ 5) w w' T) (ht:InW w' T) {tv':Value} {o':List UInt8} (hn:OwnB w' 0 tb tv' o') (hq:∀k,tv'.ownBlock=some k->T k):
 Rest w' (reC κ w 5) (reS S T) g gr rv lv tv' dv hs ds bl L rd re o' D:=by
 have up:∀{d k:Nat},Pt S κ d k->Pt (reS S T) (reC κ w 5) d k:=λhk=>Pt.up h.lt hk
 have ne:∀{d k:Nat},d≠5->Pt S κ d k->¬Pt S κ 5 k:=λhd hk=>hk.ne hd
 have now:∀{k:Nat},T k->Pt (reS S T) (reC κ w 5) 5 k:=λhk=>Pt.of_fp h.lt st hk
 exact⟨reS_in h.lt st ht,up h.g,h.rb.stepS st (ne (by decide) h.rg),up h.rg,h.ro.stepS st (λq hq=>ne (by decide) (h.rc q hq)),λk hk=>up (h.rc k hk),OwnR.stepS h.l st (λq hq=>ne (by decide) (h.lc q hq)),λk hk=>up (h.lc k hk),hn,λk hk=>now (hq k hk),OwnR.stepS h.d st (λq hq=>ne (by decide) (h.dc q hq)),λk hk=>up (h.dc k hk),h.hl,h.dl,λi h1 h2=>(h.hv i h1 h2).up (by decide) h.lt st,λi h1 h2=>(h.db i h1 h2).up (by decide) h.lt st,λq hq=>(h.bl q hq).up (by decide) h.lt st⟩
theorem Rest.row (h:Rest w κ S g gr rv lv tv dv hs ds bl L rd re o D) (st:Step (Pt S κ 3) w w' T) (ht:InW w' T) {rv':Value} {rd':List UInt8} {re':Int} (hb:BK w' gr #[rv',.int .i64 re'] tRr) (hn:OwnB w' 0 tb rv' rd') (hq:∀k,rv'.ownBlock=some k->T k):
 Rest w' (reC κ w 3) (reS S T) g gr rv' lv tv dv hs ds bl L rd' re' o D:=by
 have up:∀{d k:Nat},Pt S κ d k->Pt (reS S T) (reC κ w 3) d k:=λhk=>Pt.up h.lt hk
 have ne:∀{d k:Nat},d≠3->Pt S κ d k->¬Pt S κ 3 k:=λhd hk=>hk.ne hd
 have now:∀{k:Nat},T k->Pt (reS S T) (reC κ w 3) 3 k:=λhk=>Pt.of_fp h.lt st hk
 exact⟨reS_in h.lt st ht,up h.g,hb,up h.rg,hn,λk hk=>now (hq k hk),OwnR.stepS h.l st (λq hq=>ne (by decide) (h.lc q hq)),λk hk=>up (h.lc k hk),h.t.stepS st (λq hq=>ne (by decide) (h.tc q hq)),λk hk=>up (h.tc k hk),OwnR.stepS h.d st (λq hq=>ne (by decide) (h.dc q hq)),λk hk=>up (h.dc k hk),h.hl,h.dl,λi h1 h2=>(h.hv i h1 h2).up (by decide) h.lt st,λi h1 h2=>(h.db i h1 h2).up (by decide) h.lt st,λq hq=>(h.bl q hq).up (by decide) h.lt st⟩
theorem Rest.wait (h:Rest w κ S g gr rv lv tv dv hs ds bl L rd re o D) (st:Step (Pt S κ 4) w w' T) (ht:InW w' T) {lv':Value} {L':List Ak} {hs':List Sl3} (hn:OwnR EA w' 0 tAk lv' (L'.zip hs')) (hq:∀k,lv'.ownBlock=some k->T k) (hl:hs'.length=L'.length) (hh:∀(i:Nat) (h1:i < L'.length) (h2:i < hs'.length),AkAt w κ S hs'[i] L'[i]):
 Rest w' (reC κ w 4) (reS S T) g gr rv lv' tv dv hs' ds bl L' rd re o D:=by
 have up:∀{d k:Nat},Pt S κ d k->Pt (reS S T) (reC κ w 4) d k:=λhk=>Pt.up h.lt hk
 have ne:∀{d k:Nat},d≠4->Pt S κ d k->¬Pt S κ 4 k:=λhd hk=>hk.ne hd
 have now:∀{k:Nat},T k->Pt (reS S T) (reC κ w 4) 4 k:=λhk=>Pt.of_fp h.lt st hk
 exact⟨reS_in h.lt st ht,up h.g,h.rb.stepS st (ne (by decide) h.rg),up h.rg,h.ro.stepS st (λq hq=>ne (by decide) (h.rc q hq)),λk hk=>up (h.rc k hk),hn,λk hk=>now (hq k hk),h.t.stepS st (λq hq=>ne (by decide) (h.tc q hq)),λk hk=>up (h.tc k hk),OwnR.stepS h.d st (λq hq=>ne (by decide) (h.dc q hq)),λk hk=>up (h.dc k hk),hl,h.dl,λi h1 h2=>(hh i h1 h2).up (by decide) h.lt st,λi h1 h2=>(h.db i h1 h2).up (by decide) h.lt st,λq hq=>(h.bl q hq).up (by decide) h.lt st⟩
theorem Rest.dones (h:Rest w κ S g gr rv lv tv dv hs ds bl L rd re o D) (st:Step (Pt S κ 6) w w' T) (ht:InW w' T) {dv':Value} {D':List (Int×Rp)} {ds':List Sl} (hn:OwnR ED w' 0 tDn dv' (D'.zip ds')) (hq:∀k,dv'.ownBlock=some k->T k) (hl:ds'.length=D'.length) (hh:∀(i:Nat) (h1:i < D'.length) (h2:i < ds'.length),BlAt w κ S (sl ds'[i]) D'[i].2.d):
 Rest w' (reC κ w 6) (reS S T) g gr rv lv tv dv' hs ds' bl L rd re o D':=by
 have up:∀{d k:Nat},Pt S κ d k->Pt (reS S T) (reC κ w 6) d k:=λhk=>Pt.up h.lt hk
 have ne:∀{d k:Nat},d≠6->Pt S κ d k->¬Pt S κ 6 k:=λhd hk=>hk.ne hd
 have now:∀{k:Nat},T k->Pt (reS S T) (reC κ w 6) 6 k:=λhk=>Pt.of_fp h.lt st hk
 exact⟨reS_in h.lt st ht,up h.g,h.rb.stepS st (ne (by decide) h.rg),up h.rg,h.ro.stepS st (λq hq=>ne (by decide) (h.rc q hq)),λk hk=>up (h.rc k hk),OwnR.stepS h.l st (λq hq=>ne (by decide) (h.lc q hq)),λk hk=>up (h.lc k hk),h.t.stepS st (λq hq=>ne (by decide) (h.tc q hq)),λk hk=>up (h.tc k hk),hn,λk hk=>now (hq k hk),h.hl,hl,λi h1 h2=>(h.hv i h1 h2).up (by decide) h.lt st,λi h1 h2=>(hh i h1 h2).up (by decide) h.lt st,λq hq=>(h.bl q hq).up (by decide) h.lt st⟩
structure CIn (w:World) (κ:Col) (S :Fp) (g gr:Nat) (rv lv tv dv:Value) (hs:List Sl3) (ds:List Sl) (bl:List (Value×List UInt8)) (c:Cl):Prop where
 b:BK w g (rC c gr lv tv dv) tCl
 r:Rest w κ S g gr rv lv tv dv hs ds bl c.L c.rd c.re c.say c.done
def CAt (w:World) (g:Nat) (S :Fp) (bl:List (Value×List UInt8)) (c:Cl):Prop:=∃κ gr rv lv tv dv hs ds,CIn w κ S g gr rv lv tv dv hs ds bl c
theorem CIn.at {c:Cl} (h:CIn w κ S g gr rv lv tv dv hs ds bl c):CAt w g S bl c:=⟨κ,gr,rv,lv,tv,dv,hs,ds,h⟩
theorem CIn.grow {c:Cl} (h:CIn w κ S g gr rv lv tv dv hs ds bl c) (gg:Grow w w'):CIn w' κ S g gr rv lv tv dv hs ds bl c:=⟨h.b.grow gg,h.r.grow gg⟩
theorem CAt.lt {c:Cl} (h:CAt w g S bl c):InW w S :=by obtain⟨κ,gr,rv,lv,tv,dv,hs,ds,h⟩:=h;exact h.r.lt
theorem CAt.self {c:Cl} (h:CAt w g S bl c): S g:=by obtain⟨κ,gr,rv,lv,tv,dv,hs,ds,h⟩:=h;exact h.r.g.1
theorem CAt.grow {c:Cl} (h:CAt w g S bl c) (gg:Grow w w'):CAt w' g S bl c:=by obtain⟨κ,gr,rv,lv,tv,dv,hs,ds,h⟩:=h;exact(h.grow gg).at
theorem CAt.apart {T T':Fp} {c:Cl} (h:CAt w g S bl c) (st:Step T w w' T') (hT:Apart S T):CAt w' g S bl c:=by
 obtain⟨κ,gr,rv,lv,tv,dv,hs,ds,h⟩:=h
 exact⟨κ,gr,rv,lv,tv,dv,hs,ds,h.b.stepS st (hT g h.r.g.1),h.r.apart st hT⟩
theorem CAt.less {bl':List (Value×List UInt8)} {c:Cl} (h:CAt w g S bl c) (hb:∀q∈bl',q∈bl):CAt w g S bl' c:=by
 obtain⟨κ,gr,rv,lv,tv,dv,hs,ds,h⟩:=h
 exact⟨κ,gr,rv,lv,tv,dv,hs,ds,h.b,h.r.less hb⟩
theorem CAt.byt {c:Cl} (h:CAt w g S bl c) (hm:(v,bs)∈bl):RdB w v bs:=by
 obtain⟨κ,gr,rv,lv,tv,dv,hs,ds,h⟩:=h
 exact(h.r.bl _ hm).1
theorem CAt.more {c:Cl} (h:CAt w g S bl c) (hw:Grow w w') (hr:RdB w' v bs) (hn:NewV w v):∃S',CAt w' g S' ((v,bs)::bl) c/\Step S w w' S':=by
 obtain⟨κ,gr,rv,lv,tv,dv,hs,ds,h⟩:=h
 exact⟨_,⟨_,gr,rv,lv,tv,dv,hs,ds,h.b.grow hw,h.r.more hw hr hn⟩,hw.os,hw.tape,hw.output,hw.size,λk hk _=>hw.block k hk,λk hk=>hk.elim .inl (λq=>.inr (hn k q.1))⟩
theorem CAt.cells {c:Cl} (h:CAt w g S bl c):∃gr lv tv dv,BK w g (rC c gr lv tv dv) tCl:=by
 obtain⟨κ,gr,rv,lv,tv,dv,hs,ds,h⟩:=h
 exact⟨_,_,_,_,h.b⟩
theorem CIn.turn {b:Nat} {c:Cl} (h:CIn w κ S g gr rv lv tv dv hs ds bl c) (t:Turn b w w') (hb:¬ S b):CIn w' κ S g gr rv lv tv dv hs ds bl c:=
 ⟨h.b.turn t (λe=>hb (e▸h.r.g.1)),h.r.apart (t.step (S :=λk=>k=b) rfl) (λk hk e=>hb (e▸hk))⟩
theorem CAt.turn {b:Nat} {c:Cl} (h:CAt w g S bl c) (t:Turn b w w') (hb:¬ S b):CAt w' g S bl c:=by
 obtain⟨κ,gr,rv,lv,tv,dv,hs,ds,h⟩:=h
 exact(h.turn t hb).at
theorem CIn.set {c c':Cl} {j:Nat} (h:CIn w κ S g gr rv lv tv dv hs ds bl c) (e:w'=World.setCell w (Addr.add ⟨g,0,none⟩ j) v)
 (hc:(rC c gr lv tv dv).setIfInBounds j v=rC c' gr lv tv dv) (hL:c'.L=c.L:=by rfl) (hr:c'.rd=c.rd:=by rfl) (hre:c'.re=c.re:=by rfl) (hs':c'.say=c.say:=by rfl) (hd:c'.done=c.done:=by rfl):CIn w' κ S g gr rv lv tv dv hs ds bl c'/\Step S w w' S :=by
 obtain⟨b,t⟩:=Go.CW.setE h.b e
 have r:=h.r.turn t
 exact⟨⟨by rw[hc]at b;exact b,by rw[hL,hr,hre,hs',hd];exact r⟩,t.step h.r.g.1⟩
end Go.Proofs.YtdpmhkbhlbfbeaaGreatDoor.Cli
end
section
namespace Go.Proofs.YtdpmhkbhlbfbeaaGreatDoor.Cli
open CW RowKit Pdu Ses
abbrev tAks:TypeId:=72
theorem tyAk:SlTyN Tryz.prog tAks tAk EA.s 88:=SlTyN.of (by kernel_rfl)
abbrev tDns:TypeId:=44
theorem tyDn:SlTyN Tryz.prog tDns tDn ED.s 64:=SlTyN.of (by kernel_rfl)
theorem bounds_iiiC {k k' k'':IntKind} {a b c:Int} {len cap:Nat} (h0:0<=a) (h1:a<=b) (h2:b<=c) (h3:c<=cap):boundsOf len cap (some (.int k a)) (some (.int k' b)) (some (.int k'' c))=some (a.toNat,b.toNat,c.toNat):=by
 have h4:(0:Int)<=b:=by omega
 have h5:(0:Int)<=c:=by omega
 have h6:b<=max c 0:=by omega
 have h7:a<=max b 0:=by omega
 simp [boundsOf,boundOf,h0,h3,h4,h5,h6,h7]
theorem delete_c {w:World} {B:Nat} {v:Value} {L:List (Ak×Sl3)} (h:OwnR EA w B tAk v L) {i:Nat} (hi:i < L.length) {R:KV} (k:∀v' w',v'.ownBlock=v.ownBlock->Step (λq=>v.ownBlock=some q) w w' (λq=>v.ownBlock=some q)->OwnR EA w' B tAk v' (L.take i++L.drop (i+1))->R v' w'):
 Zs 96 #[v,.int .i64 (i:Int),.int .i64 ((i:Int)+1)] w R:=by
 have hrd:=h.rd
 have hle:=hrd.le
 rcases h.2 with ⟨rfl,hn⟩|⟨g,cap,cur,rfl,hb,hg,hn,hm,hs,ht⟩
 ·omega
 have hm0:=hm
 simp only[maxLen]at hm
 have hk:BK w g cur tAk:=hg
 have h3:EA.s=6:=rfl
 rw[h3]at hs ht
 apply q130W
 have hb1:∃v1,subSlice (.slice (some ⟨g,0,none⟩) L.length cap) 6 (some (.int .i64 (i:Int))) (some (.int .i64 ((i:Int)+1))) (some (.int .i64 ((L.length:Nat):Int)))=some v1:=by
  simp only[subSlice,bounds_iiiC (a:=(i:Int)) (b:=(i:Int)+1) (c:=((L.length:Nat):Int)) (len:=L.length) (cap:=cap) (by omega) (by omega) (by omega) (by omega)]
  exact⟨_,rfl⟩
 obtain⟨v1,hv1⟩:=hb1
 refine⟨_,rfl,v1,hv1,cond_f (by simp;omega) ⟨_,rfl,nm λw3 e3=>?_⟩⟩
 refine⟨.slice (some ⟨g,0,none⟩) i cap,?_,?_⟩
 ·simp only[subSlice,bounds_ni (b:=(i:Int)) (len:=L.length) (cap:=cap) (by omega) (by omega)]
  simp [add_zero]
 have hcap:cap≠L.length - 1:=by omega
 refine⟨.slice (if cap=i+1 then some ⟨g,0,none⟩else some ⟨g,(i+1)*6,none⟩) (L.length - (i+1)) (cap - (i+1)),?_,nm λw6 e6=>?_⟩
 ·simp only[subSlice,bounds_in (a:=(i:Int)+1) (len:=L.length) (cap:=cap) (by omega) (by omega)]
  have e1:((i:Int)+1).toNat=i+1:=by omega
  rw[e1]
  simp only[Option.map_some,ad0]
 have gd:=drE e6
 have hk6:=hk.grow gd
 obtain⟨ei,z,hinfo,hz,hsz,hby,hzs⟩:=tyAk.info
 rw[h3]at hsz hzs
 have hflat:(EA.flat (L.drop (i+1))).length=(L.length - (i+1))*6:=by rw[Enc.flat_length,List.length_drop];rfl
 have hrun:=run_append_room (P:=Tryz.prog) w6 tAks tAks tAk ei tyAk.und hinfo g i cap cur hk6 (if cap=i+1 then⟨g,0,none⟩else⟨g,(i+1)*6,none⟩) (L.length - (i+1)) (cap - (i+1)) (EA.flat (L.drop (i+1))) (by rw[hsz];exact hflat)
  (λj u hj=>by
   have hj':j < (L.length - (i+1))*6:=by rw[←hflat];exact(List.getElem?_eq_some_iff.1 hj).1
   have hne:cap≠i+1:=by intro e;have:L.length - (i+1)=0:=by omega
                        rw[this]at hj';omega
   rw[if_neg hne]
   have e:Addr.add ⟨g,(i+1)*6,none⟩ j=⟨g,(i+1)*6+j,none⟩:=by
    unfold Addr.add;split
    ·next e=>subst e;rfl
    ·rfl
   rw[e,hk6.at,←Array.getElem?_toList]
   rw[(Enc.flat_split (E:=EA) L (i+1)).2,List.getElem?_drop,←ht,List.getElem?_take]at hj
   split at hj
   ·exact hj
   ·cases hj)
  (Enc.flat_one _) (by omega) (by rw[hsz,hflat];omega)
 rw[hsz,hflat]at hrun
 have hcapL:L.length*6<=cap*6:=Nat.mul_le_mul_right _ hn
 have hv5:(if cap=i+1 then some (⟨g,0,none⟩:Addr)else some ⟨g,(i+1)*6,none⟩)=some (if cap=i+1 then⟨g,0,none⟩else⟨g,(i+1)*6,none⟩):=by split<;>rfl
 rw[hv5]
 refine⟨_,_,hrun,_,rfl,?_⟩
 have hlen1:i+(L.length - (i+1))=L.length - 1:=by omega
 rw[hlen1]
 generalize hnew:(cur.toList.take (i*6)++EA.flat (L.drop (i+1))++cur.toList.drop (i*6+(L.length - (i+1))*6)).toArray=cur'
 have hsize':cur'.size=cap*6:=by
  rw[←hnew];simp [hflat,hs];omega
 have hk8:BK (w6.setRow g cur') g cur' tAk:=setRow_heap w6 g cur cur' tAk _ hk6
 have st8:Step (λq=>q=g) w6 (w6.setRow g cur') (λq=>q=g):=⟨rfl,rfl,rfl,by simp [World.setRow],λq hq hne=>setRow_other w6 g q cur' hne,λ_ hq=>.inl hq⟩
 generalize w6.setRow g cur'=w8 at *
 refine⟨.slice (some ⟨g,(L.length - 1)*6,none⟩) 1 (cap - (L.length - 1)),?_,?_⟩
 ·have e1:((((L.length - 1:Nat):Int)).toNat)=L.length - 1:=by omega
  simp only[subSlice,bounds_ii (a:=((L.length - 1:Nat):Int)) (b:=((L.length:Nat):Int)) (len:=L.length - 1) (cap:=cap) (by omega) (by omega) (by omega)]
  rw[e1,if_neg hcap]
  simp only[Option.map_some,ad0,Int.toNat_natCast]
  congr 2;omega
 have hzl:(Builtin.zeroCells z.cells 1).toList.length=6:=by simp [Builtin.zeroCells,hzs]
 have hone:∀u∈(Builtin.zeroCells z.cells 1).toList,u.oneCell'=true:=by
  have hz':z= .agg #[.int .u32 0,.slice none 0 0,.slice none 0 0,.slice none 0 0,.bool false,.bool false]:=by
   have:(Tryz.prog.info? tAk).bind (·.zero)=some (.agg #[.int .u32 0,.slice none 0 0,.slice none 0 0,.slice none 0 0,.bool false,.bool false]):=by kernel_rfl
   rw[hinfo,Option.bind_some,hz]at this
   exact Option.some.inj this
  subst hz'
  intro u hu
  have e:(Builtin.zeroCells (Value.agg #[.int .u32 0,.slice none 0 0,.slice none 0 0,.slice none 0 0,.bool false,.bool false]).cells 1).toList=[.int .u32 0,.slice none 0 0,.slice none 0 0,.slice none 0 0,.bool false,.bool false]:=by kernel_rfl
  rw[e]at hu
  simp only[List.mem_cons,List.not_mem_nil,or_false]at hu
  rcases hu with rfl|rfl|rfl|rfl|rfl|rfl<;>rfl
 have hst:=run_storeCells_cells (P:=Tryz.prog) g ((L.length - 1)*6) (Builtin.zeroCells z.cells 1).toList 0 w8 (λj hj=>by rw[hk8.at];rw[hzl]at hj;simp [hsize'];omega) (λj _=>hk8.thaw _) hone
 simp only[Nat.add_zero]at hst
 have hclear:(Builtin.clear_ #[tAks] 0 #[.slice (some ⟨g,(L.length - 1)*6,none⟩) 1 (cap - (L.length - 1))]).run Tryz.prog w8= .ok undef (w8.setCells g ((L.length - 1)*6) (Builtin.zeroCells z.cells 1).toList):=by
  simp [Builtin.clear_,run_underlying tyAk.und,zeroValue,typeInfo,hinfo,hz,hst,undef]
 refine⟨_,_,hclear,?_⟩
 have hset:=setCells_set (Builtin.zeroCells z.cells 1).toList ((L.length - 1)*6) w8 cur' hk8 (by rw[hzl,hsize'];omega)
 have st9:Step (λq=>q=g) w8 (w8.setCells g ((L.length - 1)*6) (Builtin.zeroCells z.cells 1).toList) (λq=>q=g):=
  Step.row (S :=λq=>q=g) w8 ⟨g,(L.length - 1)*6,none⟩ (Builtin.zeroCells z.cells 1) rfl
 have hgs:(λq=>(Value.slice (some (⟨g,0,none⟩:Addr)) L.length cap).ownBlock=some q)=(λq=>q=g):=by
  funext q;simp [Value.ownBlock,eq_comm]
 refine k _ _ rfl ?_ ?_
 ·rw[hgs]
  exact(Step.of_grow gd).then (st8.then st9)
 ·have hll:(L.take i++L.drop (i+1)).length=L.length - 1:=by simp;omega
  refine⟨by rw[Enc.flat_length],.inr ⟨g,cap,_,by rw[hll],hb,hset,by rw[hll];omega,hm0,?_,?_⟩⟩
  ·rw[h3];simp [hzl,hsize'];omega
  ·rw[hll,h3,Enc.flat_append,(Enc.flat_split (E:=EA) L i).1,h3]
   simp only
   rw[List.append_assoc,List.take_append_of_le_length (by simp [hsize'];omega),List.take_take,Nat.min_self,←hnew]
   simp only
   rw[List.take_append_of_le_length (by simp [hflat,hs];omega)]
   have ea:(EA.flat L).take (i*6)=cur.toList.take (i*6):=by rw[←ht,List.take_take];congr 1;omega
   rw[ea,List.take_of_length_le (by simp [hflat,hs];omega)]
end Go.Proofs.YtdpmhkbhlbfbeaaGreatDoor.Cli
end
section
namespace Go.Proofs.YtdpmhkbhlbfbeaaGreatDoor.Cli
open CW RowKit Pdu Ses
variable {w w':World} {κ:Col} {S :Fp} {g gr:Nat} {rv lv tv dv:Value} {hs:List Sl3} {ds:List Sl} {bl:List (Value×List UInt8)} {v:Value} {bs:List UInt8}
theorem CIn.more {c:Cl} {tv':Value} {o':List UInt8} (h:CIn w κ S g gr rv lv tv dv hs ds bl c) (n:OwnNext w tv w' tv') (hn:OwnB w' 0 tb tv' o'):
 Rest w' (reC κ w 5) (reS S λk=>tv'.ownBlock=some k) g gr rv lv tv' dv hs ds bl c.L c.rd c.re o' c.done/\BK w' g (rC c gr lv tv dv) tCl/\Step S w w' (reS S λk=>tv'.ownBlock=some k):=by
 have st:Step (Pt S κ 5) w w' (λk=>tv'.ownBlock=some k):=(Step.of_own n (S :=Pt S κ 5) (λq hq=>h.r.tc q hq)).imp (λ_ h=>h) (λk hk=>by
  rcases n.at_ with e|e
  ·exact .inl (h.r.tc k (e▸hk))
  ·exact .inr (e k hk))
 exact⟨h.r.told st (λk hk=>hn.ltS k hk) hn (λk hk=>hk),h.b.stepS st (λhh=>h.r.g.ne (by decide) hh),Step.whole h.r.lt st⟩
theorem tell_i {c:Cl} {p:Pd} {pv:Value} {xs:List UInt8} (h:CIn w κ S g gr rv lv tv dv hs ds bl c) (hf:PdFits p) (hd:RdB w pv xs) (ho:c.say.length<=1000000000) {R:KV}
 (k:∀w' κ' S' tv',Step S w w' S'->CIn w' κ' S' g gr rv lv tv' dv hs ds bl (tell c p xs)->R (.tuple #[]) w'):Zs 48 #[zA g,vP p pv] w R:=by
 apply q34W
 refine nm λw0 e0=>?_
 obtain⟨b0',g0,s0⟩:=alE e0
 have b0:BK w0 w.heap.size (rP p pv) tP:=b0'
 have h0:=h.grow g0
 refine⟨_,_,_,_,_,_,_,_,_,_,_,_,_,_,_,_,_,_,_,_,_,_,_,_,_,_,_,b0.ld rfl,Encode_c hf (hd.grow g0) λv30 n31 w29 g29 c1 c2 c3=>⟨_,_,rfl,?_⟩⟩
 have r30:RdB w29 v30 (encQ p xs):=by
  unfold encQ
  by_cases q1:okP p=true
  ·by_cases q2:xs.length<=4096
   ·rw[if_pos ⟨q1,q2⟩];exact(c3 q1 q2).1
   ·rw[if_neg (λhh=>q2 hh.2),(c2 q1 (by omega)).1];exact Rd.nil _
  ·rw[if_neg (λhh=>q1 hh.1),(c1 (by simpa using q1)).1];exact Rd.nil _
 have h29:=h0.grow g29
 have hl:=encQ_length p xs
 obtain⟨v34,w35,k35,o35,n35⟩:=app_bytes h29.r.t r30 (Nat.zero_le _) (by omega)
 obtain⟨r35,b35,s35⟩:=h29.more n35 o35
 refine withAddr_some ⟨_,h29.b.cell 15,v34,w35,k35,withAddr_some (oneK_of (Rd.isOne o35.rd) ⟨st1_at b35 (by show 15 < 17;omega),nm λw37 e37=>?_⟩)⟩
 obtain⟨b37,t37⟩:=Go.CW.setE b35 e37
 exact k w37 _ _ v34 (((Step.of_grow (g0.then g29)).then s35).then (t37.step (.inl h.r.g.1))) ⟨b37,r35.turn t37⟩
theorem tell_c {c:Cl} {p:Pd} {pv:Value} {xs:List UInt8} (h:CAt w g S bl c) (hf:PdFits p) (hd:RdB w pv xs) (ho:c.say.length<=1000000000) {R:KV}
 (k:∀w' S',Step S w w' S'->CAt w' g S' bl (tell c p xs)->R (.tuple #[]) w'):Zs 48 #[zA g,vP p pv] w R:=by
 obtain⟨κ,gr,rv,lv,tv,dv,hs,ds,h⟩:=h
 exact tell_i h hf hd ho λw' κ' S' tv' st h'=>k w' S' st h'.at
theorem Rest.clos {L:List Ak} {rd o:List UInt8} {re:Int} {D:List (Int×Rp)} {n:Nat} (h:Rest w κ S g gr rv lv tv dv hs ds bl L rd re o D) (hw:Grow w w') (hn:n=w.heap.size) (b:BK w' n #[nilV,.int .i64 0] tRr):
 Rest w' (reC κ w 3) (reS S λk=>k=n) g n nilV nilV nilV dv [] ds bl [] [] 0 [] D:=by
 subst hn
 have h':=h.grow hw
 have up:∀{d k:Nat},Pt S κ d k->Pt (reS S λk=>k=w.heap.size) (reC κ w 3) d k:=λhk=>Pt.up h.lt hk
 have upB:∀{v':Value} {bs':List UInt8},BlAt w' κ S v' bs'->BlAt w' (reC κ w 3) (reS S λk=>k=w.heap.size) v' bs':=λhb=>⟨hb.1,λhx q hq=>up (hb.2 hx q hq)⟩
 exact⟨λk hk=>hk.elim (h'.lt k) (λq=>q▸b.lt),up h.g,b,⟨.inr rfl,by unfold reC;rw[if_neg (by omega)]⟩,Own.nil _ _ _,λk hk=>(by cases hk),OwnR.nil _ _ _,λk hk=>(by cases hk),Own.nil _ _ _,λk hk=>(by cases hk),h'.d,λk hk=>up (h.dc k hk),rfl,h.dl,λi hi=>absurd hi (Nat.not_lt_zero _),λi h1 h2=>upB (h'.db i h1 h2),λq hq=>upB (h'.bl q hq)⟩
theorem close_c {c:Cl} (h:CAt w g S bl c) {R:KV} (k:∀w' S',Step S w w' S'->CAt w' g S' bl (clos c)->R (.tuple #[]) w'):Zs 47 #[zA g] w R:=by
 obtain⟨κ,gr,rv,lv,tv,dv,hs,ds,h⟩:=h
 apply q26W
 refine withAddr_some ⟨st1_at h.b (by show 7 < 17;omega),nm λw1 e1=>?_⟩
 obtain⟨b1,t1⟩:=Go.CW.setE h.b e1
 refine NewReader_f λw3 g3 s3 b3=>⟨_,rfl,withAddr_some ?_⟩
 have b13:=b1.grow g3
 have r3:=(h.r.turn t1).clos g3 rfl b3
 refine⟨st1_at b13 (by show 14 < 17;omega),nm λw6 e6=>withAddr_some ?_⟩
 obtain⟨b6,t6⟩:=Go.CW.setE b13 e6
 refine⟨st1_at b6 (by show 15 < 17;omega),nm λw8 e8=>withAddr_some ?_⟩
 obtain⟨b8,t8⟩:=Go.CW.setE b6 e8
 refine⟨st1_at b8 (by show 5 < 17;omega),nm λw10 e10=>?_⟩
 obtain⟨b10,t10⟩:=Go.CW.setE b8 e10
 refine k w10 _ ?_ ⟨_,w1.heap.size,nilV,nilV,nilV,dv,[],ds,⟨b10,((r3.turn t6).turn t8).turn t10⟩⟩
 have m:Md S w.heap.size w w10:=(((((Md.refl S w.heap.size w).turn t1 (.inl h.r.g.1)).grow g3).turn t6 (.inl h.r.g.1)).turn t8 (.inl h.r.g.1)).turn t10 (.inl h.r.g.1)
 have z1:w1.heap.size=w.heap.size:=t1.size
 exact m.out.imp (λ_ h=>h) (λk hk=>hk.elim .inl (λe=>.inr (by omega)))
def posI (L:List Ak) (tag:Int):Int:=match posOf L tag with|none=> -1|some i=>(i:Int)
theorem posOf_some {L:List Ak} {tag:Int} {i:Nat} (h:posOf L tag=some i):i < L.length/\posI L tag=(i:Int):=by
 refine⟨?_,by unfold posI;rw[h]⟩
 unfold posOf at h
 split at h
 ·next hl=>cases h;exact hl
 ·cases h
theorem posOf_none {L:List Ak} {tag:Int} (h:posOf L tag=none):posI L tag= -1:=by unfold posI;rw[h]
theorem EA_ld {a:Addr} {q:Ak×Sl3} (hc:∀k,k < EA.s->w.cell? (a.add k)=(EA.enc q)[k]?):ldCells w a 6 (EA.enc q).toArray:=ldCells_of rfl hc
theorem index_c {v:Value} {L:List Ak} {hs:List Sl3} {tag:Int} {a:Nat} {R:KV} (h:RdR EA w v (L.zip hs)) (hl:hs.length=L.length) (ha:BK w a #[.int .u32 tag] 28)
 (c:∀w',Grow w w'->R (.int .i64 (posI L tag)) w'):Zs 142 #[v,.func (.func 143) #[] #[zA a]] w R:=by
 apply q133W
 have hle:=h.le
 have hz:(L.zip hs).length=L.length:=by simp [hl]
 have hidx:fidx L tag<=L.length:=List.findIdx_le_length
 refine⟨_,h.len,λ(i:Int) (ww:World)=>Grow w ww/\0<=i/\i<=fidx L tag,λ(i:Int) (_:World)=>(L.length - i).toNat,⟨Grow.refl w,by omega,by omega⟩,?_⟩
 dsimp only[allR,mapR2,eqN,ltN]
 rw[hz]
 rintro m i ww ⟨⟨gw,h0,h1⟩,hm⟩
 refine cond_intro (λhp=>?_) (λhp=>?_)
 ·simp at hp
  obtain⟨ad,had,hc,_⟩:=(h.grow gw).at h0 (by omega)
  refine⟨ad,had,_,_,_,_,_,_,EA_ld hc,callU_of (by kernel_rfl) ?_⟩
  have hx1:((L.zip hs)[i.toNat]'(by omega)).1=L[i.toNat]'(by omega):=by simp
  generalize (L.zip hs)[i.toNat]'(by omega)=q at *
  refine q27W _ _ _ _ _ _ _ _ _ ?_
  refine nm λw0 e0=>?_
  obtain⟨b0,g0,s0⟩:=alE e0
  refine⟨_,b0.cell 0,withAddr_some ⟨_,((ha.grow gw).grow g0).at 0,_,rfl,?_⟩⟩
  rw[hx1]
  generalize hx:L[i.toNat]'(by omega)=y at *
  refine cond_intro (λhq=>?_) (λhq=>?_)
  ·have e:fidx L tag=i.toNat:=by
    refine(List.findIdx_eq (by omega)).2 ⟨by rw[hx];exact hq,λj hj=>?_⟩
    have:=List.not_of_lt_findIdx (p:=λw:Ak=>w.tag==tag) (xs:=L) (i:=j) (by show j < fidx L tag;omega)
    simpa using this
   have hc:=c _ (gw.then g0)
   unfold posI posOf at hc
   rw[e,if_pos (by omega)]at hc
   have e2:((i.toNat:Nat):Int)=i:=by omega
   simp only[e2]at hc
   exact hc
  ·rw[wi64_id (n:=i+1) (by omega) (by omega)]
   refine⟨⟨gw.then g0,by omega,?_⟩,by omega⟩
   have:fidx L tag≠i.toNat:=by
    intro e
    have h3:=List.findIdx_getElem (p:=λw:Ak=>w.tag==tag) (xs:=L) (w:=by show fidx L tag < L.length;omega)
    have h4:L[fidx L tag]'(by omega)=y:=by rw[←hx];simp only[e]
    have h5:((L[fidx L tag]'(by omega)).tag==tag)=true:=h3
    rw[h4,hq]at h5;cases h5
   omega
 ·simp at hp
  have hc:=c _ gw
  unfold posI posOf at hc
  rw[if_neg (by omega)]at hc
  exact hc
theorem find_c {c:Cl} {tag:Int} (h:CAt w g S bl c) {R:KV} (k:∀w',Grow w w'->R (.int .i64 (posI c.L tag)) w'):Zs 93 #[zA g,.int .u32 tag] w R:=by
 obtain⟨κ,gr,rv,lv,tv,dv,hs,ds,h⟩:=h
 apply q28W
 refine nm λw0 e0=>?_
 obtain⟨b0,g0,s0⟩:=alE e0
 have h0:=h.grow g0
 exact withAddr_some ⟨_,h0.b.cell 14,index_c h0.r.l.rd h.r.hl b0 λw' g'=>⟨_,rfl,k w' (g0.then g')⟩⟩
theorem Waiting_c {c:Cl} (h:CAt w g S bl c) (hl:c.L.length<=1000) {R:KV} (k:∀w',Grow w w'->R (.int .i64 (c.L.length:Int)) w'):Zs 11 #[zA g] w R:=by
 obtain⟨κ,gr,rv,lv,tv,dv,hs,ds,h⟩:=h
 apply q25W
 have hrd:=h.r.l.rd
 have hz:(c.L.zip hs).length=c.L.length:=by simp [h.r.hl]
 have hlen:=hrd.len
 rw[hz]at hlen
 refine withAddr_some ⟨lv,h.b.cell 14,_,hlen,λ(n i:Int) (ww:World)=>Grow w ww/\0<=i/\i<=c.L.length/\n=i,λ(_ i:Int) (_:World)=>(c.L.length - i).toNat,⟨Grow.refl w,by omega,by omega,rfl⟩,?_⟩
 dsimp only[allR,mapR2,eqN,ltN]
 rintro m n i ww ⟨⟨gw,h0,h1,rfl⟩,hm⟩
 refine cond_intro (λhp=>?_) (λhp=>?_)
 ·simp at hp
  refine JoinP.int (λn' w8=>Grow w w8/\n'=n+1) (λj hj=>?_) ?_
  ·obtain⟨ad,had,hc,_⟩:=(hrd.grow gw).at h0 (by omega)
   refine⟨ad,had,_,_,_,_,_,_,EA_ld hc,nm λw17 e17=>?_⟩
   obtain⟨b17,g17,s17⟩:=alE e17
   refine⟨b17.row rfl rfl,nm λw18 e18=>?_⟩
   obtain⟨b18,t18⟩:=rowE b17 e18 rfl
   refine⟨_,b18.cell 5,cond_t rfl (hj _ _ ⟨gw.then (Below.turn g17 t18 (Nat.le_refl _)),?_⟩)⟩
   rw[wi64_id (by omega) (by omega)]
  ·rintro n' w8 ⟨g8,rfl⟩
   rw[wi64_id (by omega) (by omega)]
   exact⟨⟨g8,by omega,by omega,rfl⟩,by omega⟩
 ·simp at hp
  have e:n=(c.L.length:Int):=by omega
  rw[e];exact k _ gw
theorem Open_c {c:Cl} (h:CAt w g S bl c) {R:KV} (k:R (.bool (c.op&&!c.cl)) w):Zs 12 #[zA g] w R:=by
 obtain⟨gr,lv,tv,dv,hg⟩:=h.cells
 apply q23W
 refine JoinP.bool (λb w1=>w1=w/\b=(c.op&&!c.cl)) (λj hj=>?_) (by rintro b w1 ⟨rfl,rfl⟩;exact k)
 refine withAddr_some ⟨_,hg.cell 6,cond_intro (λe=>withAddr_some ⟨_,hg.cell 7,hj _ _ ⟨rfl,?_⟩⟩) (λe=>hj _ _ ⟨rfl,?_⟩)⟩
 ·have e:c.op=true:=e
  rw[e];rfl
 ·have e:c.op=false:=e
  rw[e];rfl
theorem CIn.elem {c:Cl} (h:CIn w κ S g gr rv lv tv dv hs ds bl c) {i:Nat} (hi:i < c.L.length):
 ∃(a:Addr) (hi':i < hs.length),sliceAt lv (i:Int) 6=some a/\Pt S κ 4 a.block/\(∀k,k < 6->w.cell? (a.add k)=(EA.enc (c.L[i],hs[i]))[k]?)/\
  ∀k,k < 6->St1 w (a.add k)/\∀(u:Value) (y:Ak) (q:Sl3),EA.enc (y,q)=(EA.enc (c.L[i],hs[i])).set k u->OwnR EA (w.setCell (a.add k) u) 0 tAk lv ((c.L.set i y).zip (hs.set i q)):=by
 have hl:=h.r.hl
 obtain⟨a,h1,h2,_,h4,_,h6⟩:=OwnR.put h.r.l (i:=(i:Int)) (by omega) (by simp;omega)
 have he:(c.L.zip hs)[(i:Int).toNat]'(by simp;omega)=(c.L[i],hs[i]'(by omega)):=by simp
 refine⟨a,by omega,h1,h.r.lc _ h2,λk hk=>by rw[h4 k hk,he],λk hk=>⟨(h6 k hk).1,λu y q e=>?_⟩⟩
 have:=(h6 k hk).2 u (y,q) (by rw[he];exact e)
 rw[←Ses.zip_set]
 exact this
theorem CIn.setA {c:Cl} (h:CIn w κ S g gr rv lv tv dv hs ds bl c) {a:Addr} (hb:Pt S κ 4 a.block) {u:Value} (e:w'=World.setCell w a u) {L':List Ak} {hs':List Sl3} (ho:OwnR EA w' 0 tAk lv (L'.zip hs')) (hl:hs'.length=L'.length)
 (hh:∀(i:Nat) (h1:i < L'.length) (h2:i < hs'.length),AkAt w κ S hs'[i] L'[i]):
 ∃κ' S',CIn w' κ' S' g gr rv lv tv dv hs' ds bl {c with L:=L'}/\Step S w w' S'/\(∀k,S' k↔ S k):=by
 have st:Step (Pt S κ 4) w w' (Pt S κ 4):=by subst e;exact Step.setA w a u hb
 have r:=h.r.wait st (λk hk=>Nat.lt_of_lt_of_le (h.r.lt k hk.1) st.size) ho (λk hk=>h.r.lc k hk) hl hh
 exact⟨_,_,⟨h.b.stepS st (λhh=>h.r.g.ne (by decide) hh),r⟩,Step.whole h.r.lt st,λk=>⟨λq=>q.elim id (λq=>q.1),.inl⟩⟩
theorem CIn.drop {c:Cl} {lv':Value} {i:Nat} (h:CIn w κ S g gr rv lv tv dv hs ds bl c) (hi:i < c.L.length) (hv:lv'.ownBlock=lv.ownBlock) (st:Step (λq=>lv.ownBlock=some q) w w' (λq=>lv.ownBlock=some q))
 (ho:OwnR EA w' 0 tAk lv' ((c.L.zip hs).take i++(c.L.zip hs).drop (i+1))):
 ∃κ' S',Rest w' κ' S' g gr rv lv' tv dv (hs.eraseIdx i) ds bl (c.L.eraseIdx i) c.rd c.re c.say c.done/\BK w' g (rC c gr lv tv dv) tCl/\Step S w w' S'/\(∀k,S' k↔ S k)/\(∀v bs,BlAt w κ S v bs->BlAt w' κ' S' v bs):=by
 have st':Step (Pt S κ 4) w w' (Pt S κ 4):=st.imp (λq hq=>h.r.lc q hq) (λq hq=>.inl hq)
 rw[Ses.zip_erase]at ho
 have hl:=h.r.hl
 have r:=h.r.wait st' (λk hk=>Nat.lt_of_lt_of_le (h.r.lt k hk.1) st.size) ho (λk hk=>h.r.lc k (hv▸hk)) (by rw[List.length_eraseIdx_of_lt (by omega),List.length_eraseIdx_of_lt hi,hl]) (λj h1 h2=>by
  rw[List.length_eraseIdx_of_lt hi]at h1
  by_cases hj:j < i
  ·rw[List.getElem_eraseIdx_of_lt _ hj,List.getElem_eraseIdx_of_lt _ hj];exact h.r.hv j (by omega) (by omega)
  ·rw[List.getElem_eraseIdx_of_ge _ (by omega),List.getElem_eraseIdx_of_ge _ (by omega)];exact h.r.hv (j+1) (by omega) (by omega))
 exact⟨_,_,r,h.b.stepS st' (λhh=>h.r.g.ne (by decide) hh),Step.whole h.r.lt st',λk=>⟨λq=>q.elim id (λq=>q.1),.inl⟩,λv bs hb=>hb.up (by decide) h.r.lt st'⟩
end Go.Proofs.YtdpmhkbhlbfbeaaGreatDoor.Cli
end
section
namespace Go.Proofs.YtdpmhkbhlbfbeaaGreatDoor.Cli
open CW RowKit Pdu Ses
variable {w w':World} {κ:Col} {S :Fp} {g gr:Nat} {rv lv tv dv:Value} {hs:List Sl3} {ds:List Sl} {bl:List (Value×List UInt8)} {v:Value} {bs:List UInt8}
theorem ready_c {c:Cl} {a:Ak} {p:Pd} {vc vd vh pv:Value} (h:CAt w g S bl c) (hd:RdB w vd a.d) (hl:a.d.length<=512) (hmd:512<=c.p.md/\c.p.md<=1000000000) (hf:PdFits p) (htag:Fits .u32 a.tag) (ho:c.say.length<=1000000000) {R:KV}
 (k:∀w' S',Step S w w' S'->CAt w' g S' bl (ready c a p)->R (.tuple #[]) w'):
 Zs 94 #[zA g,.agg #[.int .u32 a.tag,vc,vd,vh,.bool a.sent,.bool false],vP p pv] w R:=by
 apply q30W
 refine nm λw0 e0=>?_
 obtain⟨b0,g0,s0⟩:=alE e0
 refine nm λw1 e1=>?_
 obtain⟨b1',g1,s1⟩:=alE e1
 have b1:BK w1 w0.heap.size (rP p pv) tP:=b1'
 have ba:=b0.grow g1
 have gA:=g0.then g1
 have h1:=h.grow gA
 have hd1:=hd.grow gA
 have hlen:=RdB.len hd1
 have o1:=hf.off.u32
 have o2:=hf.ln.u32
 obtain⟨F,hF⟩:∃F:Nat,F=min p.off.toNat a.d.length:=⟨_,rfl⟩
 obtain⟨E,hE⟩:∃E:Nat,E=min (F+p.ln.toNat) a.d.length:=⟨_,rfl⟩
 have hm:ready c a p=if F=E then c else tell c {zP with op:=5,fin:=true,tag:=a.tag,off:=(F:Int)} ((a.d.drop F).take (E - F)):=by unfold ready;simp only[hE,hF]
 rw[hm]at k
 have eF:(if((a.d.length:Nat):Int) < IntKind.wrap .i64 p.off then((a.d.length:Nat):Int)else IntKind.wrap .i64 p.off)=(F:Int):=by
  rw[wi64_id (by omega) (by omega),hF];split<;>omega
 have eE:(if((a.d.length:Nat):Int) < IntKind.wrap .i64 ((F:Int)+IntKind.wrap .i64 p.ln)then((a.d.length:Nat):Int)else IntKind.wrap .i64 ((F:Int)+IntKind.wrap .i64 p.ln))=(E:Int):=by
  rw[wi64_id (n:=p.ln) (by omega) (by omega),wi64_id (by omega) (by omega),hE];split<;>omega
 refine⟨_,b1.cell 8,vd,ba.cell 2,_,hlen,_,b1.cell 9,vd,ba.cell 2,_,hlen,?_⟩
 rw[eF,eE]
 have hFE:F<=E/\E<=a.d.length:=by omega
 refine JoinP.bool (λb w9=>w9=w1/\b=decide (F=E)) (λj hj=>⟨_,ba.cell 5,cond_f rfl (hj _ _ ⟨rfl,?_⟩)⟩) ?_
 ·rw[Bool.eq_iff_iff];simp only[beq_iff_eq,decide_eq_true_eq];omega
 rintro b w9 ⟨rfl,rfl⟩
 refine cond_intro (λe=>?_) (λe=>?_)
 ·have e:F=E:=of_decide_eq_true e
  rw[if_pos e]at k
  exact k w9 S (Step.of_grow gA) h1
 have e:F≠E:=of_decide_eq_false e
 rw[if_neg e]at k
 refine⟨λ(i:Int) (ww:World)=>i=(F:Int)/\ww=w9,λ_ _=>0,⟨rfl,rfl⟩,?_⟩
 dsimp only[allR,mapR2,eqN,ltN]
 rintro m i ww ⟨⟨rfl,rfl⟩,hm0⟩
 obtain⟨gr,lv,tv,dv,hg⟩:=h1.cells
 have eN:(if(if(4096:Int) < (c.p.md:Int)then(4096:Int)else(c.p.md:Int)) < IntKind.wrap .i64 ((E:Int) - (F:Int))then(if(4096:Int) < (c.p.md:Int)then(4096:Int)else(c.p.md:Int))else IntKind.wrap .i64 ((E:Int) - (F:Int)))=(E:Int) - (F:Int):=by
  rw[wi64_id (by omega) (by omega)];split<;>split<;>omega
 have eS:IntKind.wrap .i64 ((F:Int)+((E:Int) - (F:Int)))=(E:Int):=by rw[wi64_id (by omega) (by omega)];omega
 refine withAddr_some ⟨_,by rw[add_add];exact hg.cell 1,?_⟩
 rw[eN,eS]
 refine nm λw15 e15=>?_
 have g15:=drE e15
 obtain⟨v18,hs18,hr18,_⟩:=Rd.sub (hd1.grow g15) (lo:=some (.int .i64 (F:Int))) (hi:=some (.int .i64 (E:Int))) (l:=F) (r:=E) (λcap hcap=>by rw[bounds_ii (by omega) (by omega) (by simp at hcap;omega)];simp) hFE.1 (by simpa using hFE.2)
 have r18:RdB w15 v18 ((a.d.drop F).take (E - F)):=by simpa[RdB,List.map_take,List.map_drop]using hr18
 refine⟨_,(ba.grow g15).cell 0,vd,(ba.grow g15).cell 2,v18,hs18,oneK_of (Rd.isOne r18) (nm λw19 e19=>?_)⟩
 obtain rfl:w19=w15:=e19.trans e15.symm
 have w1:IntKind.wrap .u32 (F:Int)=(F:Int):=w32_id (by omega) (by omega)
 have eb:((E:Int)==(E:Int))=true:=by simp
 rw[eb,w1]
 have q1:Fits .u32 (F:Int):=fits_32 (by omega) (by omega)
 have hP:PdFits {zP with op:=5,fin:=true,tag:=a.tag,off:=(F:Int)}:=⟨(by decide:Fits .i64 5),(by decide:Fits .i64 0),(by decide:Fits .i64 0),htag,(by decide:Fits .u32 0),(by decide:Fits .u32 0),(by decide:Fits .u32 0),q1,(by decide:Fits .u32 0)⟩
 refine tell_c (p:={zP with op:=5,fin:=true,tag:=a.tag,off:=(F:Int)}) (h1.grow g15) hP r18 ho λw21 S' st h'=>⟨rfl,?_⟩
 refine JoinP.bool (λb w=>b=true/\w=w21) (λj hj=>cond_t rfl (hj _ _ ⟨rfl,rfl⟩)) ?_
 rintro b w23 ⟨rfl,rfl⟩
 exact cond_t rfl (k w23 S' ((Step.of_grow (gA.then g15)).then st) h')
theorem drop_c {c:Cl} {i:Nat} (h:CAt w g S bl c) (hi:i < c.L.length) {R:World->Prop}
 (k:∀w' S',Step S w w' S'->(∀k,S' k↔ S k)->CAt w' g S' bl {c with L:=c.L.eraseIdx i}->R w'):
 ∃(v18:Value),w.cell? (Addr.add ⟨g,0,none⟩ 14)=some v18/\Zs 96 #[v18,.int .i64 (i:Int),.int .i64 (IntKind.wrap .i64 ((i:Int)+1))] w λv19 w20=>
  withAddr (zA g) λa21=>oneK v19 ((St1 w20 (Addr.add a21 14))/\bindW (World.setCell w20 (Addr.add a21 14) v19) λw22=>R w22):=by
 obtain⟨κ,gr,rv,lv,tv,dv,hs,ds,h⟩:=h
 have hl:=h.r.hl
 have hle:=h.r.l.rd.le
 have hz:(c.L.zip hs).length=c.L.length:=by simp [hl]
 rw[wi64_id (by omega) (by omega)]
 refine⟨lv,h.b.cell 14,delete_c h.r.l (by omega) λv19 w20 hob st ho=>?_⟩
 obtain⟨κ',S',r,b,st',hS,_⟩:=h.drop hi hob st ho
 refine withAddr_some (oneK_of (Ses.own_isOne ho) ⟨st1_at b (by show 14 < 17;omega),nm λw22 e22=>?_⟩)
 obtain⟨b22,t22⟩:=Go.CW.setE b e22
 exact k w22 S' (st'.then (t22.step r.g.1)) hS ⟨κ',gr,rv,v19,tv,dv,_,ds,⟨b22,r.turn t22⟩⟩
theorem done_row {c:Cl} {tag:Int} {r:Rp} {a61:Sl} (h:CAt w g S bl c) (hm:(sl a61,r.d)∈bl) (hn:c.done.length<=1000000) {R:KV}
 (k:∀w' S',Step S w w' S'->CAt w' g S' bl {c with done:=c.done++[(tag,r)]}->R (.tuple #[]) w'):
 ∃(v24:Value),w.cell? (Addr.add ⟨g,0,none⟩ 16)=some v24/\∀wz,wz=World.alloc w (.cells #[.int .u32 tag,.int .i64 r.st,.int .i64 r.key,.int .i64 r.code,sl a61,.int .i64 r.info] tDn)->wz.cell? (Addr.add ⟨g,0,none⟩ 16)=some v24/\
  ∃v36 w37,Sem.run Tryz.prog (Builtin.append_ #[tDns,tDns] tDns #[v24,.slice (some ⟨w.heap.size,0,none⟩) 1 1]) wz= .ok v36 w37/\isOne v36=true/\St1 w37 (Addr.add ⟨g,0,none⟩ 16)/\∀w40,w40=World.setCell w37 (Addr.add ⟨g,0,none⟩ 16) v36->R (.tuple #[]) w40:=by
 obtain⟨κ,gr,rv,lv,tv,dv,hs,ds,h⟩:=h
 refine⟨dv,h.b.cell 16,λwz ez=>?_⟩
 have hE:(#[.int .u32 tag,.int .i64 r.st,.int .i64 r.key,.int .i64 r.code,sl a61,.int .i64 r.info]:Array Value)=(ED.flat [((tag,r),a61)]).toArray:=rfl
 have gz:Grow w wz:=by rw[ez];exact Grow.al (Grow.refl _) _
 have rz:RdR ED wz (.slice (some ⟨w.heap.size,0,none⟩) 1 1) [((tag,r),a61)]:=by
  rw[ez,hE]
  exact(OwnR.lit w (Nat.le_refl _) tDn [((tag,r),a61)] 1 rfl (by simp [maxLen])).rd
 have hz:=h.grow gz
 have hdl:=h.r.dl
 have hzl:(c.done.zip ds).length=c.done.length:=by simp [hdl]
 obtain⟨v36,w37,k36,o36,n36⟩:=app_ownR tyDn hz.r.d rz (by simp only[List.length_cons,List.length_nil];omega) (Nat.zero_le _)
 have st:Step (Pt S κ 6) wz w37 (λq=>v36.ownBlock=some q):=(Step.of_own n36 (S :=Pt S κ 6) (λq hq=>h.r.dc q hq)).imp (λ_ h=>h) (λq hq=>by
  rcases n36.at_ with e|e
  ·exact .inl (h.r.dc q (e▸hq))
  ·exact .inr (e q hq))
 have ezip:c.done.zip ds++[((tag,r),a61)]=(c.done++[(tag,r)]).zip (ds++[a61]):=by
  rw[List.zip_append hdl.symm];rfl
 rw[ezip]at o36
 have r37:=hz.r.dones (D':=c.done++[(tag,r)]) (ds':=ds++[a61]) st (λq hq=>(o36.lt q hq).2) o36 (λq hq=>hq) (by simp [hdl]) (λj h1 h2=>by
  by_cases hj:j < c.done.length
  ·rw[List.getElem_append_left hj,List.getElem_append_left (by omega)];exact hz.r.db j hj (by omega)
  ·have ej:j=c.done.length:=by simp at h1;omega
   subst ej
   rw[List.getElem_append_right (by omega),List.getElem_append_right (by omega)]
   simpa[hdl]using hz.r.bl _ hm)
 have b37:=hz.b.stepS st (λhh=>h.r.g.ne (by decide) hh)
 refine⟨hz.b.cell 16,v36,w37,k36,Ses.own_isOne o36,st1_at b37 (by show 16 < 17;omega),λw40 e40=>?_⟩
 obtain⟨b40,t40⟩:=Go.CW.setE b37 e40
 exact k w40 _ (((Step.of_grow gz).then (Step.whole hz.r.lt st)).then (t40.step (.inl h.r.g.1))) ⟨_,gr,rv,lv,tv,v36,hs,_,⟨b40,r37.turn t40⟩⟩
theorem CAt.clip {c:Cl} {vh v61:Value} {xs:List UInt8} (h:CAt w g S bl c) (hm:(vh,xs)∈bl) (r:RdB w v61 xs) (e:v61.ownBlock=vh.ownBlock):CAt w g S ((v61,xs)::bl) c:=by
 obtain⟨κ,gr,rv,lv,tv,dv,hs,ds,h⟩:=h
 exact⟨κ,gr,rv,lv,tv,dv,hs,ds,h.b,h.r.also ⟨r,λhx k hk=>(h.r.bl _ hm).2 hx k (e▸hk)⟩⟩
def SenOk (sen:List UInt8->Int×Int×Int×Int):Prop:=∀{w:World} {v:Value} {bs:List UInt8} {R:KV},RdB w v bs->R (.tuple #[.int .i64 (sen bs).1,.int .i64 (sen bs).2.1,.int .i64 (sen bs).2.2.1,.int .i64 (sen bs).2.2.2]) w->Zs 144 #[v] w R
theorem respond_c {sen:List UInt8->Int×Int×Int×Int} (HS:SenOk sen) {c:Cl} {i:Nat} {p:Pd} {pv:Value} {xs:List UInt8} (h:CAt w g S bl c) (hi:i < c.L.length) (hm:(pv,xs)∈bl) (hn:c.done.length<=1000000) {R:KV}
 (k:∀w' S',Step S w w' S'->CAt w' g S' bl (respond sen c i c.L[i] p xs)->R (.tuple #[]) w'):Zs 95 #[zA g,.int .i64 (i:Int),vP p pv] w R:=by
 apply q31W
 have hS:∀q,w.heap.size<=q->¬ S q:=λq hq hs=>by have:=h.lt q hs;omega
 obtain⟨κ,gr,rv,lv,tv,dv,hs,ds,h⟩:=h
 have hi':i < hs.length:=by rw[h.r.hl];exact hi
 obtain⟨q1,hq1⟩:∃q,q=hs[i]:=⟨_,rfl⟩
 obtain⟨a,ha⟩:∃a,a=c.L[i]:=⟨_,rfl⟩
 have hA:AkAt w κ S q1 a:=by rw[hq1,ha];exact h.r.hv i hi hi'
 rw[←ha]at k
 have h':CIn w κ S g gr rv lv tv dv hs ds ((sl q1.2.2,a.hv)::bl) c:=⟨h.b,h.r.also hA.h⟩
 refine nm λw0 e0=>?_
 obtain⟨b0',g0,s0⟩:=alE e0
 have b0:BK w0 w.heap.size (rP p pv) tP:=b0'
 have h0:=h'.grow g0
 obtain⟨ad,_,had,_,hc,_⟩:=h0.elem hi
 rw[←ha,←hq1]at hc
 refine withAddr_some ⟨lv,h0.b.cell 14,ad,had,_,_,_,_,_,_,EA_ld hc,nm λw10 e10=>?_⟩
 obtain⟨b10,g10,s10⟩:=alE e10
 refine⟨b10.row rfl rfl,nm λw11 e11=>withAddr_some ?_⟩
 obtain⟨b11',t11⟩:=rowE b10 e11 rfl
 have b11:BK w11 w0.heap.size (EA.enc (a,q1)).toArray tAk:=b11'
 have bp11:=(b0.grow g10).turn t11 (by omega)
 have gA:Grow w w11:=Below.turn (g0.then g10) t11 g0.size
 have h11:=h'.grow gA
 clear e0 e10 e11
 refine drop_c h11.at hi λw17 S1 st1 hS1 h17=>?_
 have n0:¬ S w0.heap.size:=hS _ g0.size
 have b17:=b11.stepS st1 n0
 have bp17:=bp11.stepS st1 (hS _ (Nat.le_refl _))
 have rh:=h17.byt (List.mem_cons_self ..)
 have nS1:∀q,w.heap.size<=q->¬S1 q:=λq hq hs=>hS q hq ((hS1 q).1 hs)
 refine⟨_,b17.cell 5,cond_f rfl ?_⟩
 refine JoinP.val (λv19 w20=>∃b v61,v19= zA b/\Grow w17 w20/\BK w20 b #[.int .i64 p.st,.int .i64 0,.int .i64 0,v61,.int .i64 0] tRp/\RdB w20 v61 a.hv/\v61.ownBlock=(sl q1.2.2).ownBlock/\w17.heap.size<=b) (λj hj=>?_) ?_
 ·refine nm λw57 e57=>?_
  have g57:=drE e57
  have bp57:=bp17.grow g57
  have b57:=b17.grow g57
  refine⟨_,bp57.cell 3,_,b57.cell 3,nm λw60 e60=>⟨?_,?_⟩⟩
  ·obtain rfl:w60=w57:=e60.trans e57.symm
   refine slices_Clip_c (rh.grow g57) λv61 r61 e61=>⟨⟨_,bp57.cell 3,rfl⟩,oneK_of (Rd.isOne r61) ?_⟩
   obtain⟨b66,g66,s66⟩:=alE (w:=w60) (cs:= #[(.int .i64 (0:Int)),(.int .i64 (0:Int)),(.int .i64 (0:Int)),(.slice none 0 0),(.int .i64 (0:Int))]) (t:=tRp) rfl
   refine⟨⟨_,(bp57.grow g66).cell 3,rfl⟩,⟨_,(b57.grow g66).cell 3,rfl⟩,nm λw66 e66=>nm λw67 e67=>?_⟩
   obtain rfl:w67=w66:=e67.trans e66.symm
   rw[←e67]at b66 g66
   refine⟨b66.row rfl (by show oneL [_,_,_,v61,_]=true;simp only[oneL,Rd.isOne r61];rfl),nm λw68 e68=>nm λw69 e69=>?_⟩
   obtain rfl:w69=w68:=e69.trans e68.symm
   obtain⟨b69,t69⟩:=rowE b66 e69 rfl
   exact hj _ _ ⟨w60.heap.size,v61,rfl,Below.turn (g57.then g66) t69 g57.size,b69,Rd.turnX (r61.grow g66) t69 (λhx e=>by have:=Rd.lt r61 hx _ e;omega),e61,g57.size⟩
  ·obtain rfl:w60=w57:=e60.trans e57.symm
   obtain⟨b72,g72,s72⟩:=alE (w:=w60) (cs:= #[(.int .i64 (0:Int)),(.int .i64 (0:Int)),(.int .i64 (0:Int)),(.slice none 0 0),(.int .i64 (0:Int))]) (t:=tRp) rfl
   refine⟨⟨_,(bp57.grow g72).cell 3,rfl⟩,⟨_,(b57.grow g72).cell 3,rfl⟩,nm λw72 e72=>nm λw73 e73=>?_⟩
   obtain rfl:w73=w72:=e73.trans e72.symm
   rw[←e73]at b72 g72
   have r60:=rh.grow g57
   refine slices_Clip_c (r60.grow g72) λv74 r74 e74=>⟨⟨_,(bp57.grow g72).cell 3,rfl⟩,oneK_of (Rd.isOne r74) ⟨b72.row rfl (by show oneL [_,_,_,v74,_]=true;simp only[oneL,Rd.isOne r74];rfl),nm λw77 e77=>nm λw78 e78=>?_⟩⟩
   obtain rfl:w78=w77:=e78.trans e77.symm
   obtain⟨b78,t78⟩:=rowE b72 e78 rfl
   exact hj _ _ ⟨w60.heap.size,v74,rfl,Below.turn (g57.then g72) t78 g57.size,b78,Rd.turnX r74 t78 (λhx e=>by have:=Rd.lt r60 hx _ (e74▸e);omega),e74,g57.size⟩
 rintro v19 w20 ⟨b,v61,rfl,g20,bb20,r61,e61,hb⟩
 obtain⟨r,hr⟩:∃r:Rp,r=⟨p.st,if p.st=2 then(sen xs).1 else 0,if p.st=2 then(sen xs).2.1 else 0,a.hv,if p.st=2/\(sen xs).1=14 then(sen xs).2.2.1 else 0⟩:=⟨_,rfl⟩
 have hresp:respond sen c i a p xs={c with L:=c.L.eraseIdx i,done:=c.done++[(a.tag,r)]}:=by rw[hr];rfl
 rw[hresp]at k
 have hwb:w20.heap.size > b:=bb20.lt
 refine JoinP.unit (λw21=>Grow w17 w21/\RdB w21 v61 a.hv/\BK w21 b (rRp r v61) tRp) (λj hj=>?_) ?_
 ·have bp20:=bp17.grow g20
  have hpv:RdB w20 pv xs:=(h17.byt (List.mem_cons_of_mem _ hm)).grow g20
  have kp:∀{wa wb:World},Grow w17 wa->RdB wa v61 a.hv->Turn b wa wb->Grow w17 wb/\RdB wb v61 a.hv:=λga ra ta=>⟨Below.turn ga ta hb,Rd.turnX ra ta (λhx e=>by
   have:=Rd.lt rh hx _ (e61▸e);omega)⟩
  refine⟨_,bp20.cell 3,cond_intro (λe=>?_) (λe=>?_)⟩
  ·have e:p.st=2:=by simpa using e
   refine⟨_,bp20.cell 26,HS hpv ⟨_,_,_,_,rfl,withAddr_some ⟨st1_at bb20 (by show 1 < 5;omega),nm λw51 e51=>withAddr_some ?_⟩⟩⟩
   obtain⟨bb51,t51⟩:=Go.CW.setE bb20 e51
   obtain⟨g51,r51⟩:=kp g20 r61 t51
   refine⟨st1_at bb51 (by show 2 < 5;omega),nm λw53 e53=>?_⟩
   obtain⟨bb53,t53⟩:=Go.CW.setE bb51 e53
   obtain⟨g53,r53⟩:=kp g51 r51 t53
   refine cond_intro (λe14=>withAddr_some ?_) (λe14=>hj _ ⟨g53,r53,?_⟩)
   ·have e14:(sen xs).1=14:=by simpa using e14
    refine⟨st1_at bb53 (by show 4 < 5;omega),nm λw55 e55=>?_⟩
    obtain⟨bb55,t55⟩:=Go.CW.setE bb53 e55
    obtain⟨g55,r55⟩:=kp g53 r53 t55
    refine hj _ ⟨g55,r55,?_⟩
    rw[hr]
    simp only[if_pos e,if_pos (⟨e,e14⟩:p.st=2/\(sen xs).1=14)]
    exact bb55
   ·have e14:(sen xs).1≠14:=by simpa using e14
    rw[hr]
    simp only[if_pos e,if_neg (λhh=>e14 hh.2:¬(p.st=2/\(sen xs).1=14))]
    exact bb53
  ·have e:p.st≠2:=by simpa using e
   refine hj _ ⟨g20,r61,?_⟩
   rw[hr]
   simp only[if_neg e,if_neg (λhh=>e hh.1:¬(p.st=2/\(sen xs).1=14))]
   exact bb20
 rintro w21 ⟨g21,r21,bb21⟩
 refine nm λw22 e22=>?_
 have g22:=drE e22
 obtain⟨a61,rfl⟩:=sl_of r21
 have h22:=(h17.grow (g21.then g22)).clip (List.mem_cons_self ..) (r21.grow g22) e61
 have b22:=b17.grow (g21.then g22)
 have hd:r.d=a.hv:=by rw[hr]
 obtain⟨v24,hv24,hz⟩:=done_row (tag:=a.tag) (r:=r) (a61:=a61) h22 (by rw[hd];exact List.mem_cons_self ..) hn (R:=R) λw' S' st h'=>
  k w' S' (((((Step.of_grow gA).then st1).then (Step.of_grow (g21.then g22)))).then st) (h'.less (λq hq=>List.mem_cons_of_mem _ (List.mem_cons_of_mem _ hq)))
 refine withAddr_some ⟨v24,hv24,_,b22.cell 0,withAddr_some ⟨_,_,_,_,_,(bb21.grow g22).ld rfl,nm λw32 e32=>?_⟩⟩
 obtain rfl:w32=w22:=e32.trans e22.symm
 refine⟨⟨v24,(hz _ rfl).1,rfl⟩,nm λw34 e34=>nm λw35 e35=>?_⟩
 obtain rfl:w35=w34:=e35.trans e34.symm
 obtain⟨_,v36,w37,k36,o36,s36,hfin⟩:=hz w35 e35
 exact⟨v36,w37,k36,withAddr_some (oneK_of o36 ⟨s36,nm λw39 e39=>nm λw40 e40=>hfin w40 e40⟩)⟩
end Go.Proofs.YtdpmhkbhlbfbeaaGreatDoor.Cli
end
section
namespace Go.Proofs.YtdpmhkbhlbfbeaaGreatDoor.Cli
open CW RowKit Pdu Ses
variable {w w':World} {κ:Col} {S :Fp} {g gr:Nat} {rv lv tv dv:Value} {hs:List Sl3} {ds:List Sl} {bl:List (Value×List UInt8)} {v:Value} {bs:List UInt8}
theorem Gap_c {a b:Int} {R:KV} (k:R (.int .i64 (gap a b)) w):Zs 77 #[.int .u32 a,.int .u32 b] w R:=q0W _ _ _ _ k
theorem Less_c {a b:Int} {R:KV} (k:R (.bool (decide (0 < gap a b))) w):Zs 92 #[.int .u32 a,.int .u32 b] w R:=q2W _ _ _ _ (Gap_c ⟨_,rfl,k⟩)
structure AkOk (a:Ak):Prop where
 tag:Fits .u32 a.tag
 d:a.d.length<=512
 cdb:a.cdb.length=16
structure COk (c:Cl):Prop where
 sn:Fits .u32 c.sn
 mx:Fits .u32 c.mx
 md:512<=c.p.md/\c.p.md<=1000000000
 L:∀a∈c.L,AkOk a
 len:c.L.length<=1000
 say:c.say.length<=900000000
 done:c.done.length<=1000000
theorem CAt.new {c:Cl} {v:Value} {bs:List UInt8} (h:CIn w κ S g gr rv lv tv dv hs ds bl c) (hw:Grow w w') (hr:RdB w' v bs) (hn:NewV w v):
 ∃κ' S',CIn w' κ' S' g gr rv lv tv dv hs ds ((v,bs)::bl) c/\Step S w w' S'/\(∀k,Pt S κ 4 k->Pt S' κ' 4 k):=
 ⟨_,_,⟨h.b.grow hw,h.r.more hw hr hn⟩,⟨hw.os,hw.tape,hw.output,hw.size,λk hk _=>hw.block k hk,λk hk=>hk.elim .inl (λq=>.inr (hn k q.1))⟩,λk hk=>Pt.up h.r.lt hk⟩
theorem take_c {sen:List UInt8->Int×Int×Int×Int} (HS:SenOk sen) {lg:Cl->Pd->List UInt8->Cl} {c:Cl} {p:Pd} {pv:Value} {xs:List UInt8} (h:CAt w g S bl c) (hm:(pv,xs)∈bl) (hf:PdFits p) (hl:xs.length<=4096) (hop:c.op=true) (ok:COk c)
 (hin:p.op=37->∀i a,posOf c.L p.tag=some i->c.L[i]? =some a->p.off=(a.hv.length:Int)->a.hv=[]/\xs≠[]) {R:KV}
 (k:∀w' S',Step S w w' S'->CAt w' g S' bl (take sen lg c p xs)->R (.tuple #[]) w'):Zs 62 #[zA g,vP p pv] w R:=by
 apply q33W
 have hS:∀q,w.heap.size<=q->¬ S q:=λq hq hs=>by have:=h.lt q hs;omega
 refine nm λw0 e0=>?_
 obtain⟨b0',g0,s0⟩:=alE e0
 have b0:BK w0 w.heap.size (rP p pv) tP:=b0'
 have h0:=h.grow g0
 obtain⟨gr1,lv1,tv1,dv1,hg⟩:=h0.cells
 obtain⟨x,hx⟩:∃x:Cl,x=if 0 < gap c.mx p.mx then{c with mx:=p.mx} else c:=⟨_,rfl⟩
 have xL:x.L=c.L:=by rw[hx];split<;>rfl
 have xp:x.p=c.p:=by rw[hx];split<;>rfl
 have xs':x.say=c.say:=by rw[hx];split<;>rfl
 have xd:x.done=c.done:=by rw[hx];split<;>rfl
 unfold take at k
 rw[if_neg (by rw[hop];simp)]at k
 simp only[←hx]at k
 refine withAddr_some ⟨_,hg.cell 6,?_⟩
 rw[hop]
 refine cond_f rfl ?_
 refine JoinP.unit (λw32=>Step S w w32 S /\CAt w32 g S bl x/\BK w32 w.heap.size (rP p pv) tP) (λj hj=>?_) ?_
 ·refine nm λw159 e159=>?_
  have g159:=drE e159
  have hg1:=hg.grow g159
  have b1:=b0.grow g159
  refine withAddr_some ⟨_,hg1.cell 12,_,b1.cell 7,nm λw163 e163=>?_⟩
  obtain rfl:w163=w159:=e163.trans e159.symm
  refine Less_c ⟨_,rfl,cond_intro (λe=>?_) (λe=>?_)⟩
  ·have e:0 < gap c.mx p.mx:=of_decide_eq_true e
   rw[if_pos e]at hx
   obtain⟨κ,gr,rv,lv,tv,dv,hs,ds,hn⟩:=h0.grow g159
   refine⟨_,b1.cell 7,withAddr_some ⟨st1_at hn.b (by show 12 < 17;omega),nm λw169 e169=>?_⟩⟩
   obtain⟨h2,s2⟩:=hn.set (c':={c with mx:=p.mx}) e169 rfl
   have t2:=(Go.CW.setE hn.b e169).2
   refine hj _ ⟨(Step.of_grow (g0.then g159)).then s2,by rw[hx];exact h2.at,b1.turn t2 (λe=>hS _ (Nat.le_refl _) (e▸hn.r.g.1))⟩
  ·have e:¬0 < gap c.mx p.mx:=of_decide_eq_false e
   rw[if_neg e]at hx
   exact hj _ ⟨Step.of_grow (g0.then g159),by rw[hx];exact h0.grow g159,b1⟩
 rintro w32 ⟨st32,h32,b32⟩
 refine⟨_,b32.cell 4,find_c h32 λw35 g35=>⟨_,rfl,?_⟩⟩
 have h35:=h32.grow g35
 have b35:=b32.grow g35
 have st35:=st32.then (Step.of_grow (S := S) g35)
 have hpv:=h35.byt hm
 refine⟨_,b35.cell 0,?_⟩
 refine JoinP.unit (λw38=>R (.tuple #[]) w38) (λj hj=>?_) (λ_ h=>h)
 refine cond_intro (λe38=>?_) (λe38=>?_)
 ·have e38:p.op=38:=by simpa using e38
  rw[if_pos e38]at k
  exact close_c h35 λw41 S' st h'=>⟨rfl,hj _ (k w41 S' (st35.then st) h')⟩
 have e38:p.op≠38:=by simpa using e38
 rw[if_neg e38]at k
 cases hp:posOf x.L p.tag with
 |none=>
  rw[hp]at k
  simp only at k
  have done:=hj _ (k w35 S st35 h35)
  rw[posOf_none hp]
  refine cond_intro (λe=>?_) (λe=>cond_intro (λe=>?_) (λe=>cond_intro (λe=>?_) (λe=>cond_intro (λe=>?_) (λe=>done))))
  ·exact cond_f rfl done
  ·refine JoinP.bool (λb w83=>b=false/\Grow w35 w83) (λj1 hj1=>?_) ?_
   ·exact nm λw100 e100=>cond_f rfl (nm λw114 e114=>hj1 _ _ ⟨rfl,drE e114⟩)
   ·rintro b w83 ⟨rfl,g83⟩
    exact cond_f rfl (hj _ (k w83 S (st35.then (Step.of_grow g83)) (h35.grow g83)))
  ·exact cond_f rfl done
  ·refine JoinP.bool (λb w=>b=false/\w=w35) (λj1 hj1=>⟨_,b35.cell 3,cond_intro (λ_=>cond_f rfl (hj1 _ _ ⟨rfl,rfl⟩)) (λ_=>hj1 _ _ ⟨rfl,rfl⟩)⟩) ?_
   rintro b w ⟨rfl,rfl⟩
   exact cond_f rfl done
 |some i=>
  obtain⟨hi,hpi⟩:=posOf_some hp
  have eL:x.L[i]? =some x.L[i]:=List.getElem?_eq_getElem hi
  rw[hp]at k
  simp only[eL]at k
  rw[hpi]
  have ge:decide ((i:Int)≥0)=true:=by simp
  obtain⟨κ,gr,rv,lv,tv,dv,hs,ds,hn⟩:=h35
  have ako:=ok.L x.L[i] (by rw[←xL];exact List.getElem_mem hi)
  obtain⟨ad,hi',had,hpt,hc,_⟩:=hn.elem hi
  have hA:=hn.r.hv i hi hi'
  refine cond_intro (λe49=>?_) (λe49=>?_)
  ·have e49:p.op=49:=by simpa using e49
   rw[if_pos e49]at k
   refine cond_t ge (nm λw42 e42=>?_)
   have g42:=drE e42
   have h42:=hn.grow g42
   obtain⟨ad2,_,had2,_,hc2,_⟩:=h42.elem hi
   obtain rfl:ad2=ad:=by rw[had]at had2;exact(Option.some.inj had2).symm
   refine withAddr_some ⟨lv,h42.b.cell 14,ad2,had,_,_,_,_,_,_,EA_ld hc2,_,_,_,_,_,_,_,_,_,_,_,_,_,_,_,_,_,_,_,_,_,_,_,_,_,_,_,(b35.grow g42).ld rfl,nm λw79 e79=>?_⟩
   obtain rfl:w79=w42:=e79.trans e42.symm
   exact ready_c h42.at (hA.d.1.grow g42) ako.d (by rw[xp];exact ok.md) hf ako.tag (by rw[xs'];have:=ok.say;omega) λw81 S' st h'=>⟨rfl,hj _ (k w81 S' ((st35.then (Step.of_grow g42)).then st) h')⟩
  have e49:p.op≠49:=by simpa using e49
  rw[if_neg e49]at k
  refine cond_intro (λe37=>?_) (λe37=>?_)
  ·have e37:p.op=37:=by simpa using e37
   rw[if_pos e37]at k
   have o1:=hf.off.u32
   have hvl:=RdB.len hA.h.1
   have hvle:=hA.h.1.le
   rw[List.length_map]at hvle
   refine JoinP.bool (λb w83=>Grow w35 w83/\(b=true↔p.off=(x.L[i].hv.length:Int)/\x.L[i].hv.length < 4096)) (λj1 hj1=>?_) ?_
   ·refine nm λw100 e100=>cond_t ge ?_
    have g100:=drE e100
    have h100:=hn.grow g100
    obtain⟨ad2,_,had2,_,hc2,_⟩:=h100.elem hi
    obtain rfl:ad2=ad:=by rw[had]at had2;exact(Option.some.inj had2).symm
    refine⟨_,(b35.grow g100).cell 8,withAddr_some ⟨lv,h100.b.cell 14,ad2,had,_,hc2 3 (by omega),_,hvl,?_⟩⟩
    rw[w64_id (n:=p.off) (by omega) (by omega),w64_id (n:=(x.L[i].hv.length:Int)) (by omega) (by omega)]
    refine cond_intro (λe=>withAddr_some ⟨lv,h100.b.cell 14,ad2,had,_,hc2 3 (by omega),_,hvl,nm λw112 e112=>?_⟩) (λe=>nm λw113 e113=>?_)
    ·obtain rfl:w112=w100:=e112.trans e100.symm
     have e:p.off=(x.L[i].hv.length:Int):=by simpa using e
     refine hj1 _ _ ⟨g100,?_⟩
     simp only[decide_eq_true_eq]
     exact⟨λh=>⟨e,by omega⟩,λh=>by omega⟩
    ·obtain rfl:w113=w100:=e113.trans e100.symm
     have e:p.off≠(x.L[i].hv.length:Int):=by simpa using e
     exact hj1 _ _ ⟨g100,⟨λh=>(by cases h),λh=>absurd h.1 e⟩⟩
   rintro b w83 ⟨g83,hb⟩
   have h83:=hn.grow g83
   have b83:=b35.grow g83
   have st83:=st35.then (Step.of_grow (S := S) g83)
   refine cond_intro (λe=>?_) (λe=>?_)
   ·have e:=hb.1 e
    rw[if_pos e]at k
    obtain⟨hv0,hxs⟩:=hin e37 i x.L[i] (by rw[←xL];exact hp) (by rw[←xL];exact eL) e.1
    have hq:=hA.n hv0
    refine nm λw84 e84=>?_
    have g84:=drE e84
    have h84:=h83.grow g84
    have b84:=b83.grow g84
    obtain⟨ad2,_,had2,_,hc2,_⟩:=h84.elem hi
    obtain rfl:ad2=ad:=by rw[had]at had2;exact(Option.some.inj had2).symm
    refine withAddr_some ⟨lv,h84.b.cell 14,withAddr_some ⟨lv,h84.b.cell 14,ad2,had,_,hc2 3 (by omega),_,b84.cell 26,nm λw92 e92=>?_⟩⟩
    obtain rfl:w92=w84:=e92.trans e84.symm
    have hpv4:=hpv.grow (g83.then g84)
    obtain⟨v93,w94,k93,o93,n93⟩:=app_bytes (B:=w92.heap.size) (bs:=[]) (Own.nil w92 w92.heap.size tb) hpv4 (Nat.le_refl _) (by simp only[List.length_nil];omega)
    have g94:Grow w92 w94:=n93.below (Nat.le_refl _) (λq hq=>by cases hq)
    have esl:sl hs[i].2.2= .slice none 0 0:=by rw[hq]
    obtain⟨κ2,S2,h94,st94,hup⟩:=CAt.new h84 g94 o93.rd o93.blk
    obtain⟨a93,rfl⟩:=sl_of o93.rd
    obtain⟨ad3,hi3,had3,hpt3,hc3,hst3⟩:=h94.elem hi
    obtain rfl:ad3=ad2:=by rw[had]at had3;exact(Option.some.inj had3).symm
    refine⟨sl a93,w94,by rw[show sl hs[i].2.2= .slice none 0 0 from esl];exact k93,⟨lv,h94.b.cell 14,rfl⟩,ad3,had,oneK_of rfl ⟨(hst3 3 (by omega)).1,nm λw97 e97=>nm λw98 e98=>?_⟩⟩
    obtain rfl:w98=w97:=e98.trans e97.symm
    have hso:=(hst3 3 (by omega)).2 (sl a93) {x.L[i]with hv:=x.L[i].hv++xs} (hs[i].1,hs[i].2.1,a93) rfl
    rw[←e97]at hso
    have hA94:=h94.r.hv i hi hi3
    obtain⟨κ5,S5,h98,st98,hS5⟩:=h94.setA (by rw[add_block];exact hpt3) e97 hso (by simp [hn.r.hl]) (λj h1 h2=>by
     by_cases hij:i=j
     ·subst hij
      simp only[List.getElem_set_self]
      refine⟨hA94.c,hA94.d,?_,λhh=>?_⟩
      ·have:=h94.r.bl _ (List.mem_cons_self ..)
       rw[hv0];exact this
      ·exact absurd (List.append_eq_nil_iff.1 hh).2 hxs
     ·rw[List.getElem_set_ne hij,List.getElem_set_ne hij];exact h94.r.hv j (by simpa using h1) (by simpa using h2))
    exact hj _ (k w98 S5 (((st83.then (Step.of_grow g84)).then st94).then st98) (h98.at.less (λq hq=>List.mem_cons_of_mem _ hq)))
   ·have e:¬(p.off=(x.L[i].hv.length:Int)/\x.L[i].hv.length < 4096):=λhh=>by rw[hb.2 hh]at e;cases e
    rw[if_neg e]at k
    exact hj _ (k w83 S st83 h83.at)
  have e37:p.op≠37:=by simpa using e37
  rw[if_neg e37]at k
  refine cond_intro (λe33=>?_) (λe33=>?_)
  ·have e33:p.op=33:=by simpa using e33
   rw[if_pos e33]at k
   exact cond_t ge ⟨_,_,_,_,_,_,_,_,_,_,_,_,_,_,_,_,_,_,_,_,_,_,_,_,_,_,_,b35.ld rfl,respond_c HS hn.at hi hm (by rw[xd];exact ok.done) λw143 S' st h'=>⟨rfl,hj _ (k w143 S' (st35.then st) h')⟩⟩
  have e33:p.op≠33:=by simpa using e33
  rw[if_neg e33]at k
  have done:=hj _ (k w35 S st35 hn.at)
  refine cond_intro (λe34=>?_) (λe34=>done)
  refine JoinP.bool (λb w=>b=false/\w=w35) (λj1 hj1=>⟨_,b35.cell 3,cond_intro (λ_=>cond_t ge (withAddr_some ⟨lv,hn.b.cell 14,ad,had,_,hc 5 (by omega),hj1 _ _ ⟨rfl,rfl⟩⟩)) (λ_=>hj1 _ _ ⟨rfl,rfl⟩)⟩) ?_
  rintro b w ⟨rfl,rfl⟩
  exact cond_f rfl done
end Go.Proofs.YtdpmhkbhlbfbeaaGreatDoor.Cli
end
