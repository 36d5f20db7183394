/- A part of the proof. -/
import Derived.Test.YtdinpgnjnleioaaGreatDoorSRfX1
import Derived.Test.YtdinpgnjnleioaaGreatDoorSGDs
import Derived.Test.YtdinpgnjnleioaaGreatDoorSRsE
set_option linter.unusedSimpArgs false
set_option linter.unusedVariables false
set_option maxRecDepth 100000
section
namespace Go.Proofs.YtdinpgnjnleioaaGreatDoor.Rs
open CW RowKit Pdu
open Ses (St Ses Wt Cm Rp Doer EW ET Sl sl sl_of rCm rRp RpAt RpOk Col Pt reC reS reC_eq Pt.up Pt.of_fp Pt.ne reS_in Step.whole OwnR.stepS RdR.stepS At.stepS nilV m32)
abbrev tSes:TypeId:=41
abbrev tWt:TypeId:=247
abbrev rS (gd:Nat) (acl rv:Value) (s:Ses) (lv tv:Value):Array Value:= #[acl,zA gd,rv,.int .i64 s.re,.bool s.op,.bool s.cl,.string (textOf s.p.nm),.int .i64 (s.p.md:Int),.int .i64 (s.p.bu:Int),.bool s.p.im,.bool s.p.dg,.int .u32 s.exp,.int .u32 s.sn,lv,tv]
structure Rest (K:Doer) (w:World) (κ:Col) (S :Fp) (g:Nat) (acl rv lv tv:Value) (hs:List Sl) (FU:Fp) (A:List (List UInt8)) (bl:List (Value×List UInt8)) (L:List Wt) (rd:List UInt8) (o:List UInt8) (u:K.U):Prop where
 lt:InW w S
 g:Pt S κ 1 g
 ro:RdB w rv rd
 rc:rd≠[]->∀k,rv.ownBlock=some k->Pt S κ 7 k
 l:OwnR EW w 0 tWt lv (L.zip hs)
 lc:∀k,lv.ownBlock=some k->Pt S κ 4 k
 t:OwnB w 0 tb tv o
 tc:∀k,tv.ownBlock=some k->Pt S κ 5 k
 u:K.At w FU u
 uc:∀k,FU k->Pt S κ 6 k
 hl:hs.length=L.length
 hv:∀(i:Nat) (h:i < L.length) (h':i < hs.length),RdB w (sl hs[i]) L[i].hv
 hc:∀(i:Nat) (h:i < L.length) (h':i < hs.length),L[i].hv≠[]->∀k,(sl hs[i]).ownBlock=some k->Pt S κ 7 k
 bl:∀q∈bl,RdB w q.1 q.2/\(q.2≠[]->∀k,q.1.ownBlock=some k->Pt S κ 7 k)
 ac:RdR ET w acl A
 acc:∀k,acl.ownBlock=some k->Pt S κ 7 k
variable {K:Doer} {w w':World} {κ:Col} {S T:Fp} {g:Nat} {acl rv lv tv:Value} {hs:List Sl} {FU:Fp} {A:List (List UInt8)} {bl:List (Value×List UInt8)} {L:List Wt} {rd o:List UInt8} {u:K.U}
theorem Rest.grow (h:Rest K w κ S g acl rv lv tv hs FU A bl L rd o u) (gg:Grow w w'):Rest K w' κ S g acl rv lv tv hs FU A bl L rd o u:=
 ⟨λk hk=>Nat.lt_of_lt_of_le (h.lt k hk) gg.size,h.g,h.ro.grow gg,h.rc,h.l.grow gg,h.lc,h.t.grow gg,h.tc,K.stable h.u gg.size (λk hk=>gg.block k (K.lt h.u k hk)),h.uc,h.hl,
  λi hi hi'=>(h.hv i hi hi').grow gg,h.hc,λq hq=>⟨(h.bl q hq).1.grow gg,(h.bl q hq).2⟩,h.ac.grow gg,h.acc⟩
theorem Rest.apart {T T':Fp} (h:Rest K w κ S g acl rv lv tv hs FU A bl L rd o u) (st:Step T w w' T') (hT:∀k, S k->¬T k):Rest K w' κ S g acl rv lv tv hs FU A bl L rd o u:=
 ⟨λk hk=>Nat.lt_of_lt_of_le (h.lt k hk) st.size,h.g,h.ro.stepS st (λhx q hq=>hT q (h.rc (λe=>hx (by rw[e];rfl)) q hq).1),h.rc,OwnR.stepS h.l st (λq hq=>hT q (h.lc q hq).1),h.lc,h.t.stepS st (λq hq=>hT q (h.tc q hq).1),h.tc,
  At.stepS h.u st (λq hq=>hT q (h.uc q hq).1),h.uc,h.hl,λi hi hi'=>(h.hv i hi hi').stepS st (λhx q hq=>hT q (h.hc i hi hi' (λe=>hx (by rw[e];rfl)) q hq).1),h.hc,
  λq hq=>⟨(h.bl q hq).1.stepS st (λhx k hk=>hT k ((h.bl q hq).2 (λe=>hx (by rw[e];rfl)) k hk).1),(h.bl q hq).2⟩,RdR.stepS h.ac st (λq hq=>hT q (h.acc q hq).1),h.acc⟩
theorem Rest.turn (h:Rest K w κ S g acl rv lv tv hs FU A bl L rd o u) (t:Turn g w w'):Rest K w' κ S g acl rv lv tv hs FU A bl L rd o u:=by
 have st:Step (λk=>k=g) w w' (λk=>k=g):=t.step rfl
 have ne:∀{d k:Nat},d≠1->Pt S κ d k->k≠g:=λhd hk e=>hd (hk.2.symm.trans (e▸h.g.2))
 exact⟨λk hk=>Nat.lt_of_lt_of_le (h.lt k hk) st.size,h.g,h.ro.stepS st (λhx q hq=>ne (by decide) (h.rc (λe=>hx (by rw[e];rfl)) q hq)),h.rc,OwnR.stepS h.l st (λq hq=>ne (by decide) (h.lc q hq)),h.lc,h.t.stepS st (λq hq=>ne (by decide) (h.tc q hq)),h.tc,
  At.stepS h.u st (λq hq=>ne (by decide) (h.uc q hq)),h.uc,h.hl,λi hi hi'=>(h.hv i hi hi').stepS st (λhx q hq=>ne (by decide) (h.hc i hi hi' (λe=>hx (by rw[e];rfl)) q hq)),h.hc,
  λq hq=>⟨(h.bl q hq).1.stepS st (λhx k hk=>ne (by decide) ((h.bl q hq).2 (λe=>hx (by rw[e];rfl)) k hk)),(h.bl q hq).2⟩,RdR.stepS h.ac st (λq hq=>ne (by decide) (h.acc q hq)),h.acc⟩
theorem Rest.less {bl':List (Value×List UInt8)} (h:Rest K w κ S g acl rv lv tv hs FU A bl L rd o u) (hb:∀q∈bl',q∈bl):Rest K w κ S g acl rv lv tv hs FU A bl' L rd o u:={h with bl:=λq hq=>h.bl q (hb q hq)}
theorem Rest.more {v:Value} {bs:List UInt8} {T:Fp} (h:Rest K w κ S g acl rv lv tv hs FU A bl L rd o u) (hw:Grow w w') (hr:RdB w' v bs) (hn:NewV w v) (hT:T=λk=>v.ownBlock=some k/\k < w'.heap.size):
 Rest K w' (reC κ w 7) (reS S T) g acl rv lv tv hs FU A ((v,bs)::bl) L rd o u:=by
 subst hT
 have h':=h.grow hw
 have up:∀{d k:Nat},Pt S κ d k->Pt (reS S λk=>v.ownBlock=some k/\k < w'.heap.size) (reC κ w 7) d k:=λhk=>Pt.up h.lt hk
 refine⟨λk hk=>hk.elim (h'.lt k) (λq=>q.2),up h.g,h'.ro,λhx k hk=>up (h.rc hx k hk),h'.l,λk hk=>up (h.lc k hk),h'.t,λk hk=>up (h.tc k hk),h'.u,λk hk=>up (h.uc k hk),h.hl,h'.hv,λi hi hi' hx k hk=>up (h.hc i hi hi' hx k hk),λq hq=>?_,h'.ac,λk hk=>up (h.acc k hk)⟩
 rcases List.mem_cons.1 hq with rfl|hq
 ·exact⟨hr,λhx k hk=>⟨.inr ⟨hk,Rd.lt hr (by simpa using hx) k hk⟩,by unfold reC;rw[if_neg (by have:=hn k hk;omega)]⟩⟩
 ·exact⟨(h'.bl q hq).1,λhx k hk=>up ((h.bl q hq).2 hx k hk)⟩
theorem Rest.told (h:Rest K w κ S g acl rv lv tv hs FU A bl L rd o u) (st:Step (Pt S κ 5) w w' T) (ht:InW w' T) {tv':Value} {o':List UInt8} (hn:OwnB w' 0 tb tv' o') (hq:∀k,tv'.ownBlock=some k->T k):
 Rest K w' (reC κ w 5) (reS S T) g acl rv lv tv' hs FU A bl L rd o' u:=by
 have up:∀{d k:Nat},Pt S κ d k->Pt (reS S T) (reC κ w 5) d k:=λhk=>Pt.up h.lt hk
 have ne:∀{d k:Nat},d≠5->Pt S κ d k->¬Pt S κ 5 k:=λhd hk=>hk.ne hd
 have now:∀{k:Nat},T k->Pt (reS S T) (reC κ w 5) 5 k:=λhk=>Pt.of_fp h.lt st hk
 exact⟨reS_in h.lt st ht,up h.g,h.ro.stepS st (λhx q hq=>ne (by decide) (h.rc (λe=>hx (by rw[e];rfl)) q hq)),λhx k hk=>up (h.rc hx k hk),OwnR.stepS h.l st (λq hq=>ne (by decide) (h.lc q hq)),λk hk=>up (h.lc k hk),hn,λk hk=>now (hq k hk),At.stepS h.u st (λq hq=>ne (by decide) (h.uc q hq)),λk hk=>up (h.uc k hk),h.hl,λi hi hi'=>(h.hv i hi hi').stepS st (λhx q hq=>ne (by decide) (h.hc i hi hi' (λe=>hx (by rw[e];rfl)) q hq)),λi hi hi' hx k hk=>up (h.hc i hi hi' hx k hk),λq hq=>⟨(h.bl q hq).1.stepS st (λhx k hk=>ne (by decide) ((h.bl q hq).2 (λe=>hx (by rw[e];rfl)) k hk)),λhx k hk=>up ((h.bl q hq).2 hx k hk)⟩,RdR.stepS h.ac st (λq hq=>ne (by decide) (h.acc q hq)),λk hk=>up (h.acc k hk)⟩
theorem Rest.unit (h:Rest K w κ S g acl rv lv tv hs FU A bl L rd o u) (st:Step (Pt S κ 6) w w' T) (ht:InW w' T) {FU':Fp} {u':K.U} (hn:K.At w' FU' u') (hq:∀k,FU' k->T k):
 Rest K w' (reC κ w 6) (reS S T) g acl rv lv tv hs FU' A bl L rd o u':=by
 have up:∀{d k:Nat},Pt S κ d k->Pt (reS S T) (reC κ w 6) d k:=λhk=>Pt.up h.lt hk
 have ne:∀{d k:Nat},d≠6->Pt S κ d k->¬Pt S κ 6 k:=λhd hk=>hk.ne hd
 have now:∀{k:Nat},T k->Pt (reS S T) (reC κ w 6) 6 k:=λhk=>Pt.of_fp h.lt st hk
 exact⟨reS_in h.lt st ht,up h.g,h.ro.stepS st (λhx q hq=>ne (by decide) (h.rc (λe=>hx (by rw[e];rfl)) q hq)),λhx k hk=>up (h.rc hx k hk),OwnR.stepS h.l st (λq hq=>ne (by decide) (h.lc q hq)),λk hk=>up (h.lc k hk),h.t.stepS st (λq hq=>ne (by decide) (h.tc q hq)),λk hk=>up (h.tc k hk),hn,λk hk=>now (hq k hk),h.hl,λi hi hi'=>(h.hv i hi hi').stepS st (λhx q hq=>ne (by decide) (h.hc i hi hi' (λe=>hx (by rw[e];rfl)) q hq)),λi hi hi' hx k hk=>up (h.hc i hi hi' hx k hk),λq hq=>⟨(h.bl q hq).1.stepS st (λhx k hk=>ne (by decide) ((h.bl q hq).2 (λe=>hx (by rw[e];rfl)) k hk)),λhx k hk=>up ((h.bl q hq).2 hx k hk)⟩,RdR.stepS h.ac st (λq hq=>ne (by decide) (h.acc q hq)),λk hk=>up (h.acc k hk)⟩
theorem Rest.wait (h:Rest K w κ S g acl rv lv tv hs FU A bl L rd o u) (st:Step (Pt S κ 4) w w' T) (ht:InW w' T) {lv':Value} {L':List Wt} {hs':List Sl} (hn:OwnR EW w' 0 tWt lv' (L'.zip hs')) (hq:∀k,lv'.ownBlock=some k->T k) (hl:hs'.length=L'.length) (hh:∀(i:Nat) (h1:i < L'.length) (h2:i < hs'.length),(∃(j:Nat) (h3:j < L.length) (h4:j < hs.length),L'[i].hv=L[j].hv/\hs'[i]=hs[j])\/(sl hs'[i],L'[i].hv)∈bl):
 Rest K w' (reC κ w 4) (reS S T) g acl rv lv' tv hs' FU A bl L' rd o u:=by
 have up:∀{d k:Nat},Pt S κ d k->Pt (reS S T) (reC κ w 4) d k:=λhk=>Pt.up h.lt hk
 have ne:∀{d k:Nat},d≠4->Pt S κ d k->¬Pt S κ 4 k:=λhd hk=>hk.ne hd
 have now:∀{k:Nat},T k->Pt (reS S T) (reC κ w 4) 4 k:=λhk=>Pt.of_fp h.lt st hk
 exact⟨reS_in h.lt st ht,up h.g,h.ro.stepS st (λhx q hq=>ne (by decide) (h.rc (λe=>hx (by rw[e];rfl)) q hq)),λhx k hk=>up (h.rc hx k hk),hn,λk hk=>now (hq k hk),h.t.stepS st (λq hq=>ne (by decide) (h.tc q hq)),λk hk=>up (h.tc k hk),At.stepS h.u st (λq hq=>ne (by decide) (h.uc q hq)),λk hk=>up (h.uc k hk),hl,λi h1 h2=>by
  rcases hh i h1 h2 with ⟨j,h3,h4,e1,e2⟩|hm
  ·rw[e1,e2];exact(h.hv j h3 h4).stepS st (λhx q hq=>ne (by decide) (h.hc j h3 h4 (λe=>hx (by rw[e];rfl)) q hq))
  ·exact(h.bl _ hm).1.stepS st (λhx k hk=>ne (by decide) ((h.bl _ hm).2 (λe=>hx (by rw[e];rfl)) k hk)),λi h1 h2 hx k hk=>by
  rcases hh i h1 h2 with ⟨j,h3,h4,e1,e2⟩|hm
  ·rw[e2]at hk;rw[e1]at hx;exact up (h.hc j h3 h4 hx k hk)
  ·exact up ((h.bl _ hm).2 hx k hk),λq hq=>⟨(h.bl q hq).1.stepS st (λhx k hk=>ne (by decide) ((h.bl q hq).2 (λe=>hx (by rw[e];rfl)) k hk)),λhx k hk=>up ((h.bl q hq).2 hx k hk)⟩,RdR.stepS h.ac st (λq hq=>ne (by decide) (h.acc q hq)),λk hk=>up (h.acc k hk)⟩
theorem Rest.row {rv':Value} {rd':List UInt8} (h:Rest K w κ S g acl rv lv tv hs FU A bl L rd o u) (hm:(rv',rd')∈bl):Rest K w κ S g acl rv' lv tv hs FU A bl L rd' o u:=
 {h with ro:=(h.bl _ hm).1,rc:=(h.bl _ hm).2}
theorem Rest.norow (h:Rest K w κ S g acl rv lv tv hs FU A bl L rd o u):Rest K w κ S g acl nilV lv tv hs FU A bl L [] o u:=
 {h with ro:=Rd.nil _,rc:=λhx=>absurd rfl hx}
structure SIn (K:Doer) (gd:Nat) (w:World) (κ:Col) (S :Fp) (g:Nat) (acl rv lv tv:Value) (hs:List Sl) (FU:Fp) (A:List (List UInt8)) (bl:List (Value×List UInt8)) (x:St K.U):Prop where
 b:BK w g (rS gd acl rv x.s lv tv) tSes
 r:Rest K w κ S g acl rv lv tv hs FU A bl x.s.L x.s.rd x.o x.u
def SAt (K:Doer) (gd:Nat) (A:List (List UInt8)) (w:World) (g:Nat) (S :Fp) (bl:List (Value×List UInt8)) (x:St K.U):Prop:=
 ∃κ acl rv lv tv hs FU,SIn K gd w κ S g acl rv lv tv hs FU A bl x
variable {gd:Nat}
theorem SAt.lt {x:St K.U} (h:SAt K gd A w g S bl x):InW w S :=by obtain⟨κ,acl,rv,lv,tv,hs,FU,h⟩:=h;exact h.r.lt
theorem SAt.self {x:St K.U} (h:SAt K gd A w g S bl x): S g:=by obtain⟨κ,acl,rv,lv,tv,hs,FU,h⟩:=h;exact h.r.g.1
theorem SAt.grow {x:St K.U} (h:SAt K gd A w g S bl x) (gg:Grow w w'):SAt K gd A w' g S bl x:=by
 obtain⟨κ,acl,rv,lv,tv,hs,FU,h⟩:=h
 exact⟨κ,acl,rv,lv,tv,hs,FU,h.b.grow gg,h.r.grow gg⟩
theorem SAt.apart {T T':Fp} {x:St K.U} (h:SAt K gd A w g S bl x) (st:Step T w w' T') (hT:Apart S T):SAt K gd A w' g S bl x:=by
 obtain⟨κ,acl,rv,lv,tv,hs,FU,h⟩:=h
 exact⟨κ,acl,rv,lv,tv,hs,FU,h.b.stepS st (hT g h.r.g.1),h.r.apart st hT⟩
theorem SAt.less {bl':List (Value×List UInt8)} {x:St K.U} (h:SAt K gd A w g S bl x) (hb:∀q∈bl',q∈bl):SAt K gd A w g S bl' x:=by
 obtain⟨κ,acl,rv,lv,tv,hs,FU,h⟩:=h
 exact⟨κ,acl,rv,lv,tv,hs,FU,h.b,h.r.less hb⟩
theorem SAt.byt {x:St K.U} {v:Value} {bs:List UInt8} (h:SAt K gd A w g S bl x) (hm:(v,bs)∈bl):RdB w v bs:=by
 obtain⟨κ,acl,rv,lv,tv,hs,FU,h⟩:=h
 exact(h.r.bl _ hm).1
end Go.Proofs.YtdinpgnjnleioaaGreatDoor.Rs
end
section
namespace Go.Proofs.YtdinpgnjnleioaaGreatDoor.Rs
open CW RowKit Pdu
open Ses (St Ses Wt Cm Rp Doer EW ET Sl sl sl_of rCm rRp RpAt RpOk Col Pt reC reS Step.whole OwnR.stepS RdR.stepS At.stepS m32 encQ encQ_length fits_m32 posI posOf fidx EW_ld Rd.sl RdR.sl Rd.turnX)
variable {K:Doer} {gd:Nat} {w w':World} {κ:Col} {S :Fp} {g:Nat} {acl rv lv tv:Value} {hs:List Sl} {FU:Fp} {A:List (List UInt8)} {bl:List (Value×List UInt8)}
theorem SIn.grow {x:St K.U} (h:SIn K gd w κ S g acl rv lv tv hs FU A bl x) (gg:Grow w w'):SIn K gd w' κ S g acl rv lv tv hs FU A bl x:=⟨h.b.grow gg,h.r.grow gg⟩
theorem SIn.at {x:St K.U} (h:SIn K gd w κ S g acl rv lv tv hs FU A bl x):SAt K gd A w g S bl x:=⟨κ,acl,rv,lv,tv,hs,FU,h⟩
theorem SIn.turn {b:Nat} {x:St K.U} (h:SIn K gd w κ S g acl rv lv tv hs FU A bl x) (t:Turn b w w') (hb:¬ S b):SIn K gd w' κ S g acl rv lv tv hs FU A bl x:=
 ⟨h.b.turn t (λe=>hb (e▸h.r.g.1)),h.r.apart (t.step (S :=λk=>k=b) rfl) (λk hk e=>hb (e▸hk))⟩
theorem SAt.turn {b:Nat} {x:St K.U} (h:SAt K gd A w g S bl x) (t:Turn b w w') (hb:¬ S b):SAt K gd A w' g S bl x:=by
 obtain⟨κ,acl,rv,lv,tv,hs,FU,h⟩:=h
 exact(h.turn t hb).at
theorem SIn.set {x:St K.U} {s':Ses} {j:Nat} {v:Value} (h:SIn K gd w κ S g acl rv lv tv hs FU A bl x) (e:w'=World.setCell w (Addr.add ⟨g,0,none⟩ j) v)
 (hc:(rS gd acl rv x.s lv tv).setIfInBounds j v=rS gd acl rv s' lv tv) (hL:s'.L=x.s.L) (hr:s'.rd=x.s.rd):SIn K gd w' κ S g acl rv lv tv hs FU A bl {x with s:=s'}/\Turn g w w':=by
 obtain⟨b,t⟩:=setE h.b e
 have r:=h.r.turn t
 refine⟨⟨by rw[hc]at b;exact b,?_⟩,t⟩
 show Rest K w' κ S g acl rv lv tv hs FU A bl s'.L s'.rd x.o x.u
 rw[hL,hr];exact r
theorem SIn.more {x:St K.U} {tv':Value} {o':List UInt8} (h:SIn K gd w κ S g acl rv lv tv hs FU A bl x) (n:OwnNext w tv w' tv') (hn:OwnB w' 0 tb tv' o'):
 Rest K w' (reC κ w 5) (reS S λk=>tv'.ownBlock=some k) g acl rv lv tv' hs FU A bl x.s.L x.s.rd o' x.u/\BK w' g (rS gd acl rv x.s lv tv) tSes/\Step S w w' (reS S λk=>tv'.ownBlock=some k):=by
 have st:Step (Pt S κ 5) w w' (λk=>tv'.ownBlock=some k):=(Step.of_own n (S :=Pt S κ 5) (λq hq=>h.r.tc q hq)).imp (λ_ h=>h) (λk hk=>by
  rcases n.at_ with e|e
  ·exact .inl (h.r.tc k (e▸hk))
  ·exact .inr (e k hk))
 exact⟨h.r.told st (λk hk=>hn.ltS k hk) hn (λk hk=>hk),h.b.stepS st (λhh=>h.r.g.ne (by decide) hh),Step.whole h.r.lt st⟩
theorem rS_u8 {gd:Nat} {acl rv lv tv:Value} {s:Ses} (ha:∃a n c,acl= .slice a n c) (hr:∃a n c,rv= .slice a n c) (hl:∃a n c,lv= .slice a n c) (ht:∃a n c,tv= .slice a n c) (j:Nat) (n:Int):(rS gd acl rv s lv tv)[j]? ≠some (.int .u8 n):=by
 obtain⟨a1,n1,c1,rfl⟩:=ha
 obtain⟨a2,n2,c2,rfl⟩:=hl
 obtain⟨a3,n3,c3,rfl⟩:=ht
 obtain⟨a4,n4,c4,rfl⟩:=hr
 intro e
 rcases j with _|_|_|_|_|_|_|_|_|_|_|_|_|_|_|j<;>simp at e
theorem SIn.ne_g {x:St K.U} {dv:Value} {ds:List UInt8} (h:SIn K gd w κ S g acl rv lv tv hs FU A bl x) (hd:RdB w dv ds) (hne:ds≠[]):dv.ownBlock≠some g:=by
 intro e
 have ha:=RdR.sl h.r.ac
 obtain⟨a,cap,rfl,h1,h2,h3,h4⟩:=hd
 cases ds with
 |nil=>exact hne rfl
 |cons d ds=>
  obtain⟨y,rfl,hy⟩:=h4 0 (b8 d) rfl
  have eb:y.block=g:=by simpa[Value.ownBlock]using e
  have hb:=h.b
  unfold BK at hb
  rw[add_zero]at hy
  unfold World.cell? at hy
  rw[eb,hb]at hy
  simp only at hy
  split at hy
  ·cases hy
  exact rS_u8 (gd:=gd) ha (Rd.sl h.r.ro) (RdR.sl h.r.l.rd) (Rd.sl h.r.t.rd) y.off (d.toNat:Int) hy
def numbered (op:Int):Bool:=decide (op=33\/op=34\/op=32\/op=38)
def sayD {U:Type} (x:St U) (p:Pd) (ds:List UInt8):St U:=if numbered p.op then Ses.sayN x p.op p ds else Ses.say x p ds
theorem say_c {x:St K.U} {p:Pd} {dv:Value} {ds:List UInt8} (h:SAt K gd A w g S bl x) (hf:PdFits p) (hd:RdB w dv ds) (he:Fits .u32 x.s.exp) (hsn:Fits .u32 x.s.sn) (ho:x.o.length<=1000000000) {R:KV}
 (k:∀w' S',Step S w w' S'->SAt K gd A w' g S' bl (sayD x p ds)->R (.tuple #[]) w'):Zs 120 #[zA g,vP p dv] w R:=by
 obtain⟨κ,acl,rv,lv,tv,hs,FU,h⟩:=h
 apply q75W
 have hdi:=Rd.isOne hd
 refine nm λw0 e0=>?_
 obtain⟨b0',g0,s0⟩:=alE e0
 have b0:BK w0 w.heap.size (rP p dv) tP:=b0'
 have h0:=h.grow g0
 have nS:¬ S w.heap.size:=λhh=>by have:=h.r.lt _ hh;omega
 have hg:g < w.heap.size:=h.b.lt
 have hng:ds≠[]->dv.ownBlock≠some g:=h.ne_g hd
 have hnb:ds≠[]->dv.ownBlock≠some w.heap.size:=λhx e=>by have:=Rd.lt hd (by simpa using hx) _ e;omega
 have keepL:∀{w1 w2:World},RdB w1 dv ds->Turn w.heap.size w1 w2->RdB w2 dv ds:=λhr t=>Rd.turnX hr t (λhx=>hnb (λe=>hx (by rw[e];rfl)))
 have keepG:∀{w1 w2:World},RdB w1 dv ds->Turn g w1 w2->RdB w2 dv ds:=λhr t=>Rd.turnX hr t (λhx=>hng (λe=>hx (by rw[e];rfl)))
 obtain⟨x1,hx1⟩:∃x1:St K.U,x1=if numbered p.op then{x with s:={x.s with sn:=m32 (x.s.sn+1)}} else x:=⟨_,rfl⟩
 obtain⟨p1,hp1⟩:∃p1:Pd,p1=if numbered p.op then{p with sn:=x.s.sn} else p:=⟨_,rfl⟩
 have hsay:sayD x p ds=Ses.say x1 p1 ds:=by
  unfold sayD
  rw[hx1,hp1]
  cases numbered p.op
  ·rfl
  ·rfl
 rw[hsay]at k
 have ex1:x1.s.exp=x.s.exp/\x1.o=x.o:=by rw[hx1];cases numbered p.op<;>exact⟨rfl,rfl⟩
 have fp1:PdFits p1:=by
  rw[hp1]
  cases numbered p.op
  ·exact hf
  ·exact⟨hf.op,hf.fl,hf.st,hf.tag,hsn,hf.exp,hf.mx,hf.off,hf.ln⟩
 refine⟨_,b0.cell 0,?_⟩
 refine JoinP.unit (λw2=>SIn K gd w2 κ S g acl rv lv tv hs FU A bl x1/\BK w2 w.heap.size (rP p1 dv) tP/\RdB w2 dv ds/\Md S w.heap.size w w2) (λj46 hj=>?_) ?_
 ·refine JoinP.bool (λb w'=>b=numbered p.op/\w0=w') (λj hj2=>cond_intro (λc=>hj2 _ _ ⟨?_,rfl⟩) (λc=>cond_intro (λc2=>hj2 _ _ ⟨?_,rfl⟩) (λc2=>cond_intro (λc3=>hj2 _ _ ⟨?_,rfl⟩) (λc3=>hj2 _ _ ⟨?_,rfl⟩)))) ?_
  ·have c:p.op=33:=by simpa using c
   rw[c];rfl
  ·have c:p.op=34:=by simpa using c2
   rw[c];rfl
  ·have c:p.op=32:=by simpa using c3
   rw[c];rfl
  ·have c:¬p.op=33:=by simpa using c
   have c2:¬p.op=34:=by simpa using c2
   have c3:¬p.op=32:=by simpa using c3
   unfold numbered
   rw[Bool.eq_iff_iff];simp [c,c2,c3]
  rintro b w48 ⟨rfl,rfl⟩
  refine cond_intro (λhb=>?_) (λhb=>?_)
  ·refine withAddr_some ⟨_,h0.b.cell 12,st1_at b0 (by show 5 < 27;omega),nm λw51 e51=>?_⟩
   obtain⟨b51,t51⟩:=setE b0 e51
   have h51:=h0.turn t51 nS
   refine withAddr_some ⟨_,h51.b.cell 12,withAddr_some ⟨st1_at h51.b (by show 12 < 15;omega),nm λw55 e55=>?_⟩⟩
   obtain⟨h55,t55⟩:=h51.set (s':={x.s with sn:=m32 (x.s.sn+1)}) e55 rfl rfl rfl
   refine hj w55 ⟨by rw[hx1,if_pos hb];exact h55,by rw[hp1,if_pos hb];exact b51.turn t55 (by omega),keepG (keepL (hd.grow g0) t51) t55,(((Md.refl S w.heap.size w).grow g0).turn t51 (.inr (Nat.le_refl _))).turn t55 (.inl h.r.g.1)⟩
  ·refine hj w0 ⟨by rw[hx1,if_neg (by rw[hb];simp)];exact h0,by rw[hp1,if_neg (by rw[hb];simp)];exact b0,hd.grow g0,(Md.refl S w.heap.size w).grow g0⟩
 rintro w2 ⟨h2,b2,d2,m2⟩
 refine withAddr_some ⟨_,h2.b.cell 11,st1_at b2 (by show 6 < 27;omega),nm λw5 e5=>?_⟩
 obtain⟨b5,t5⟩:=setE b2 e5
 have h5:=h2.turn t5 nS
 refine withAddr_some ⟨_,h5.b.cell 11,st1_at b5 (by show 7 < 27;omega),nm λw8 e8=>?_⟩
 obtain⟨b8',t8⟩:=setE b5 e8
 have h8:=h5.turn t8 nS
 have b8:BK w8 w.heap.size (rP {p1 with exp:=x1.s.exp,mx:=m32 (x1.s.exp+15)} dv) tP:=b8'
 have d8:=keepL (keepL d2 t5) t8
 have hf':PdFits {p1 with exp:=x1.s.exp,mx:=m32 (x1.s.exp+15)}:=⟨fp1.op,fp1.fl,fp1.st,fp1.tag,fp1.sn,by rw[ex1.1];exact he,fits_m32 _,fp1.off,fp1.ln⟩
 refine⟨_,_,_,_,_,_,_,_,_,_,_,_,_,_,_,_,_,_,_,_,_,_,_,_,_,_,_,b8.ld rfl,?_⟩
 refine rEncode_c hf' d8 λv41 n42 w40 g40 c1 c2 c3=>⟨_,_,rfl,?_⟩
 have r41:RdB w40 v41 (encQ {p1 with exp:=x1.s.exp,mx:=m32 (x1.s.exp+15)} ds):=by
  unfold encQ
  by_cases q1:okP {p1 with exp:=x1.s.exp,mx:=m32 (x1.s.exp+15)}=true
  ·by_cases q2:ds.length<=4096
   ·rw[if_pos ⟨q1,q2⟩];exact(c3 q1 q2).1.rd
   ·rw[if_neg (λhh=>q2 hh.2),(c2 q1 (by omega)).1];exact Rd.nil _
  ·rw[if_neg (λhh=>q1 hh.1),(c1 (by simpa using q1)).1];exact Rd.nil _
 have h40:=h8.grow g40
 have hl:=encQ_length {p1 with exp:=x1.s.exp,mx:=m32 (x1.s.exp+15)} ds
 have hxo:x1.o.length<=1000000000:=by rw[ex1.2];exact ho
 obtain⟨v45,w46,k45,o45,n45⟩:=app_bytes h40.r.t r41 (Nat.zero_le _) (by omega)
 obtain⟨r46,b46,s46⟩:=h40.more n45 o45
 refine withAddr_some ⟨_,h40.b.cell 14,v45,w46,k45,withAddr_some (oneK_of (Rd.isOne o45.rd) ⟨st1_at b46 (by show 14 < 15;omega),nm λw48 e48=>?_⟩)⟩
 obtain⟨b48,t48⟩:=setE b46 e48
 have r48:=r46.turn t48
 have m40:=((m2.turn t5 (.inr (Nat.le_refl _))).turn t8 (.inr (Nat.le_refl _))).grow g40
 have z40:w.heap.size<=w40.heap.size:=m40.size
 refine k w48 _ (((m40.stp s46 (λq hq=>.inl hq) (λq hq=>(s46.fp q hq).elim (λh=>.inl (.inl h)) .inr)).turn t48 (.inl h.r.g.1)).out.imp (λ_ h=>h) (λq hq=>(s46.fp q hq).imp id (λh=>by omega))) ⟨_,acl,rv,lv,v45,hs,FU,⟨?_,r48⟩⟩
 exact b48
theorem sayN_of {U:Type} {x:St U} {p:Pd} {ds:List UInt8} (h:numbered p.op=true):sayD x p ds=Ses.sayN x p.op p ds:=by unfold sayD;rw[if_pos h]
theorem say_of {U:Type} {x:St U} {p:Pd} {ds:List UInt8} (h:numbered p.op=false):sayD x p ds=Ses.say x p ds:=by unfold sayD;rw[if_neg (by rw[h];simp)]
theorem Rest.clos {L:List Wt} {rd o:List UInt8} {u:K.U} (h:Rest K w κ S g acl rv lv tv hs FU A bl L rd o u):Rest K w κ S g acl nilV nilV tv [] FU A bl [] [] o u:=
 ⟨h.lt,h.g,Rd.nil _,λhx=>absurd rfl hx,OwnR.nil _ _ _,λk hk=>(by cases hk),h.t,h.tc,h.u,h.uc,rfl,λi hi=>absurd hi (Nat.not_lt_zero _),λi hi=>absurd hi (Nat.not_lt_zero _),h.bl,h.ac,h.acc⟩
theorem part_row {w:World} {b j:Nat} {cs ds:Array Value} {t:TypeId} (h:BK w b cs t) (hn:j+ds.size<=cs.size) (h1:oneL ds.toList=true):StRow w (Addr.add ⟨b,0,none⟩ j) ds:=
 ⟨h1,λi hi=>by rw[add_add,ad0];exact h.st1 (by omega)⟩
theorem row2 {W:World} {b:Nat} {cs:Array Value} {e:TypeId} {u v:Value} {W':World} (h:BK W b cs e) (hs:cs.size=15) (hu:isOne u=true) (hv:isOne v=true) (e':W'=stRow W (Addr.add ⟨b,0,none⟩ 2) #[u,v]):
 BK W' b ((cs.setIfInBounds 2 u).setIfInBounds 3 v) e/\Turn b W W':=by
 have e1:W'=World.setCell (World.setCell W (Addr.add ⟨b,0,none⟩ 2) u) (Addr.add ⟨b,0,none⟩ 3) v:=by rw[e'];rfl
 obtain⟨b1,t1⟩:=setE h (rfl:World.setCell W (Addr.add ⟨b,0,none⟩ 2) u=_)
 obtain⟨b2,t2⟩:=setE b1 e1
 exact⟨b2,⟨t2.os.trans t1.os,t2.tape.trans t1.tape,t2.output.trans t1.output,t2.size.trans t1.size,λq hq=>(t2.block q hq).trans (t1.block q hq)⟩⟩
theorem close_c {x:St K.U} (h:SAt K gd A w g S bl x) {R:KV} (k:∀w' S',Step S w w' S'->SAt K gd A w' g S' bl (Ses.clos x)->R (.tuple #[]) w'):Zs 76 #[zA g] w R:=by
 obtain⟨κ,acl,rv,lv,tv,hs,FU,h⟩:=h
 apply q65W
 refine withAddr_some ⟨st1_at h.b (by show 5 < 15;omega),nm λw1 e1=>withAddr_some ?_⟩
 obtain⟨b1,t1⟩:=setE h.b e1
 refine⟨st1_at b1 (by show 4 < 15;omega),nm λw3 e3=>withAddr_some ?_⟩
 obtain⟨b3,t3⟩:=setE b1 e3
 refine⟨st1_at b3 (by show 13 < 15;omega),nm λw5 e5=>withAddr_some ?_⟩
 obtain⟨b5,t5⟩:=setE b3 e5
 refine⟨part_row b5 (by show 2+2<=15;omega) rfl,nm λw7 e7=>?_⟩
 obtain⟨b7,t7⟩:=row2 b5 rfl rfl rfl e7
 have r7:=(((h.r.turn t1).turn t3).turn t5).turn t7
 refine k w7 S ?_ ⟨κ,acl,nilV,nilV,tv,[],FU,⟨b7,r7.clos⟩⟩
 exact((((Md.refl S w.heap.size w).turn t1 (.inl h.r.g.1)).turn t3 (.inl h.r.g.1)).turn t5 (.inl h.r.g.1)).turn t7 (.inl h.r.g.1) |>.out
theorem at_c {x:St K.U} {tag:Int} (h:SAt K gd A w g S bl x) {R:KV} (k:R (.int .i64 (posI x.s.L tag)) w):Zs 163 #[zA g,.int .u32 tag] w R:=by
 obtain⟨κ,acl,rv,lv,tv,hs,FU,h⟩:=h
 apply q64W
 have hr:=h.r.l.rd
 have hle:=hr.le
 have hz:(x.s.L.zip hs).length=x.s.L.length:=by simp [h.r.hl]
 have hidx:fidx x.s.L tag<=x.s.L.length:=List.findIdx_le_length
 have hhl:=h.r.hl
 refine⟨λ(i:Int) (ww:World)=>∃i':Nat,i=(i':Int)/\ww=w/\i'<=fidx x.s.L tag,λ(i:Int) (_:World)=>(x.s.L.length - i).toNat,⟨0,rfl,rfl,Nat.zero_le _⟩,?_⟩
 dsimp only[allR,mapR2,eqN,ltN]
 rintro m _ ww ⟨⟨i,rfl,rfl,h1⟩,hm⟩
 refine withAddr_some ⟨_,h.b.cell 13,_,hr.len,?_⟩
 rw[hz]
 refine cond_intro (λhp=>?_) (λhp=>?_)
 ·have hp:i < x.s.L.length:=by have:=of_decide_eq_true hp;omega
  obtain⟨ad,had,hc,_⟩:=hr.at (i:=(i:Int)) (by omega) (by omega)
  have hx1:((x.s.L.zip hs)[((i:Int)).toNat]'(by simp;omega)).1=x.s.L[i]'hp:=by simp
  have hc0:=hc 0 (by decide)
  refine withAddr_some ⟨_,h.b.cell 13,ad,had,x.s.L[i].tag,?_,cond_intro (λhq=>?_) (λhq=>?_)⟩
  ·rw[hc0]
   show some (Value.int .u32 ((x.s.L.zip hs)[((i:Int)).toNat]'(by simp;omega)).1.tag)=_
   rw[hx1]
  ·have e:fidx x.s.L tag=i:=by
    refine(List.findIdx_eq hp).2 ⟨hq,λj hj=>?_⟩
    have:=List.not_of_lt_findIdx (p:=λw:Wt=>w.tag==tag) (xs:=x.s.L) (i:=j) (by show j < fidx x.s.L tag;omega)
    simpa using this
   unfold posI posOf at k
   rw[e,if_pos hp]at k
   exact k
  ·rw[wi64_id (n:=(i:Int)+1) (by omega) (by omega)]
   refine⟨⟨i+1,by omega,rfl,?_⟩,by omega⟩
   have:fidx x.s.L tag≠i:=by
    intro e
    have h3:=List.findIdx_getElem (p:=λw:Wt=>w.tag==tag) (xs:=x.s.L) (w:=by show fidx x.s.L tag < x.s.L.length;omega)
    have h5:((x.s.L[fidx x.s.L tag]'(by omega)).tag==tag)=true:=h3
    simp only[e]at h5
    rw[hq]at h5;cases h5
   omega
 ·have hp:¬i < x.s.L.length:=by have:=of_decide_eq_false hp;omega
  unfold posI posOf at k
  rw[if_neg (by omega)]at k
  exact k
end Go.Proofs.YtdinpgnjnleioaaGreatDoor.Rs
end
section
namespace Go.Proofs.YtdinpgnjnleioaaGreatDoor.Rs
open CW RowKit Pdu
open Ses (St Ses Wt Cm Rp Doer Wire EW ET Sl sl sl_of rCm rRp RpAt RpOk Col Pt reC reS Step.whole OwnR.stepS RdR.stepS At.stepS m32 encQ encQ_length fits_m32 posI posOf fidx EW_ld Rd.sl RdR.sl Rd.turnX fits_32 fits_i zip_set zip_erase own_isOne isPr)
structure WireD (W:Wire):Prop where
 sen:∀{w:World} {r:Rp} {d:Value} {R:KV},isOne d=true->(∀v w',Grow w w'->OwnB w' w.heap.size tb v (W.sen r.key r.code r.info)->R v w')->Zs 50 #[.agg (rRp r d)] w R
 two:∀{w:World} {v:Value} {bs:List UInt8} {R:KV},RdB w v bs->(∀w' k o b,Grow w w'->(∀q,W.two bs=some q->b=true/\k=q.1/\o=q.2)->(W.two bs=none->b=false)->R (.tuple #[.int .u64 k,.int .u64 o,.bool b]) w')->Zs 209 #[v] w R
 cmd:∀{w:World} {v:Value} {bs:List UInt8} {R:KV},RdB w v bs->bs.length=16->(∀w' c,Grow w w'->((W.cmd bs).2=0->c=(W.cmd bs).1)->R (.tuple #[.agg (rCm c nilV),.int .i64 (W.cmd bs).2]) w')->Zs 159 #[v] w R
 cmd0:∀bs,(W.cmd bs).1.d=[]/\(W.cmd bs).1.key=0/\(W.cmd bs).1.new=0
 out:∀{w:World} {c:Cm} {d:Value} {R:KV},isOne d=true->(∀w',Grow w w'->R (.int .i64 (W.out c:Int)) w')->Zs 161 #[.agg (rCm c d)] w R
 outl:∀c,W.out c<=512
 of:∀{w:World} {k:Int} {R:KV},(∀w' op one b1 b2 b3 b4 b5 b6,Grow w w'->((op==(95:Int))=isPr k)->R (.tuple #[.agg #[.int .i64 op,.int .i64 one,.bool b1,.bool b2,.bool b3,.bool b4,.bool b5],.bool b6]) w')->Zs 206 #[.int .i64 k] w R
variable {W:Wire} {K:Doer} {gd:Nat} {w w':World} {κ:Col} {S :Fp} {g:Nat} {acl rv lv tv:Value} {hs:List Sl} {FU:Fp} {A:List (List UInt8)} {bl:List (Value×List UInt8)}
abbrev tRp:TypeId:=69
abbrev tCm:TypeId:=64
theorem respond_c (HW:WireD W) {x:St K.U} {tag:Int} {r:Rp} {dv:Value} {n:Nat} (h:SAt K gd A w g S bl x) (hst:0<=r.st/\r.st<=255) (hone:isOne dv=true) (htag:Fits .u32 tag) (he:Fits .u32 x.s.exp) (hsn:Fits .u32 x.s.sn) (ho:x.o.length<=1000000000) {R:KV}
 (k:∀w' S',Step S w w' S'->SAt K gd A w' g S' bl (Ses.respond W x tag r n)->R (.tuple #[]) w'):
 Zs 160 #[zA g,.int .u32 tag,.agg (rRp r dv),.int .i64 (n:Int)] w R:=by
 apply q74W
 refine nm λw0 e0=>?_
 obtain⟨b0,g0,s0⟩:=alE e0
 refine JoinP.val (λv w2=>Grow w w2/\BK w2 w.heap.size (rRp r dv) tRp/\RdB w2 v (if r.st=2 then W.sen r.key r.code r.info else[])) (λj hj=>?_) ?_
 ·refine⟨_,b0.cell 0,cond_intro (λe=>?_) (λe=>?_)⟩
  ·have e:r.st=2:=by simpa using e
   exact⟨_,_,_,_,_,b0.ld rfl,HW.sen hone λv13 w14 g14 o14=>hj _ _ ⟨g0.then g14,b0.grow g14,by rw[if_pos e];exact o14.rd⟩⟩
  ·have e:r.st≠2:=by simpa using e
   exact hj _ _ ⟨g0,b0,by rw[if_neg e];exact Rd.nil _⟩
 rintro v w2 ⟨g2,b2,r2⟩
 refine⟨_,b2.cell 0,oneK_of (Rd.isOne r2) ?_⟩
 have hP:PdFits {zP with op:=33,tag:=tag,st:=r.st,fin:=true,ln:=m32 (n:Int)}:=⟨(by decide:Fits .i64 33),(by decide:Fits .i64 0),fits_i (by show _<=r.st;omega) (by show r.st < _;omega),htag,(by decide:Fits .u32 0),(by decide:Fits .u32 0),(by decide:Fits .u32 0),(by decide:Fits .u32 0),fits_m32 _⟩
 refine say_c (p:={zP with op:=33,tag:=tag,st:=r.st,fin:=true,ln:=m32 (n:Int)}) (h.grow g2) hP r2 he hsn ho λw5 S' st h'=>⟨rfl,k w5 S' ((Step.of_grow g2).then st) ?_⟩
 rw[sayN_of rfl]at h'
 exact h'
theorem reject_c {x:St K.U} {p:Pd} {dv:Value} {ds:List UInt8} (h:SAt K gd A w g S bl x) (hf:PdFits p) (hk:okP p=true) (hl:ds.length<=4096) (hd:RdB w dv ds) (he:Fits .u32 x.s.exp) (hsn:Fits .u32 x.s.sn) (ho:x.o.length<=1000000000) {R:KV}
 (k:∀w' S',Step S w w' S'->SAt K gd A w' g S' bl (Ses.reject x p ds)->R (.tuple #[]) w'):Zs 122 #[zA g,vP p dv] w R:=by
 apply q73W
 have hdi:=Rd.isOne hd
 refine nm λw0 e0=>?_
 obtain⟨b0,g0,s0⟩:=alE e0
 have hb:BK w0 w.heap.size (rP p dv) tP:=b0
 refine⟨_,_,_,_,_,_,_,_,_,_,_,_,_,_,_,_,_,_,_,_,_,_,_,_,_,_,_,hb.ld rfl,rEncode_c hf (hd.grow g0) λv30 n31 w29 g29 c1 c2 c3=>⟨_,_,rfl,nm λw32 e32=>?_⟩⟩
 have g32:=drE e32
 obtain⟨r30,n30⟩:=c3 hk hl
 have r32:=r30.rd.grow g32
 have hll:(encP p ds).length≥52:=by rw[encP_length];omega
 obtain⟨v34,hs34,hr34,_⟩:=Rd.sub r32 (lo:=none) (hi:=some (.int .i64 48)) (l:=0) (r:=48) (λcap hc=>by rw[bounds_ni (by omega) (by simp at hc;omega)];rfl) (by omega) (by simp;omega)
 have r34:RdB w32 v34 ((encQ p ds).take 48):=by
  have:encQ p ds=encP p ds:=by unfold encQ;rw[if_pos ⟨hk,hl⟩]
  rw[this];simpa[RdB,List.map_take]using hr34
 have b32:=(hb.grow g29).grow g32
 refine⟨_,b32.cell 4,v34,hs34,oneK_of (Rd.isOne r34) (nm λw35 e35=>?_)⟩
 obtain rfl:w35=w32:=e35.trans e32.symm
 have hP:PdFits {zP with op:=63,tag:=p.tag}:=⟨(by decide:Fits .i64 63),(by decide:Fits .i64 0),(by decide:Fits .i64 0),hf.tag,(by decide:Fits .u32 0),(by decide:Fits .u32 0),(by decide:Fits .u32 0),(by decide:Fits .u32 0),(by decide:Fits .u32 0)⟩
 have gA:=g0.then (g29.then g32)
 refine say_c (p:={zP with op:=63,tag:=p.tag}) (h.grow gA) hP r34 he hsn ho λw37 S' st h'=>⟨rfl,k w37 S' ((Step.of_grow gA).then st) ?_⟩
 rw[say_of rfl]at h'
 exact h'
theorem SIn.elem {x:St K.U} (h:SIn K gd w κ S g acl rv lv tv hs FU A bl x) {i:Nat} (hi:i < x.s.L.length):
 ∃(a:Addr) (hi':i < hs.length),sliceAt lv (i:Int) 12=some a/\Pt S κ 4 a.block/\(∀k,k < 12->w.cell? (a.add k)=(EW.enc (x.s.L[i],hs[i]))[k]?)/\
  ∀k,k < 12->St1 w (a.add k)/\∀(u:Value) (y:Wt) (q:Sl),EW.enc (y,q)=(EW.enc (x.s.L[i],hs[i])).set k u->OwnR EW (w.setCell (a.add k) u) 0 tWt lv ((x.s.L.set i y).zip (hs.set i q)):=by
 have hl:=h.r.hl
 have hz:(x.s.L.zip hs).length=x.s.L.length:=by simp [hl]
 obtain⟨a,h1,h2,_,h4,_,h6⟩:=OwnR.put h.r.l (i:=(i:Int)) (by omega) (by omega)
 have he:(x.s.L.zip hs)[(i:Int).toNat]'(by simp;omega)=(x.s.L[i],hs[i]'(by omega)):=by simp
 refine⟨a,by omega,h1,h.r.lc _ h2,λk hk=>by rw[h4 k hk,he],λk hk=>⟨(h6 k hk).1,λu y q e=>?_⟩⟩
 have:=(h6 k hk).2 u (y,q) (by rw[he];exact e)
 rw[←zip_set]
 exact this
theorem SIn.putE {x:St K.U} (h:SIn K gd w κ S g acl rv lv tv hs FU A bl x) {a:Addr} (hb:Pt S κ 4 a.block) {u:Value} (e:w'=World.setCell w a u) {L':List Wt} {hs':List Sl} (ho:OwnR EW w' 0 tWt lv (L'.zip hs')) (hl:hs'.length=L'.length)
 (hh:∀(i:Nat) (h1:i < L'.length) (h2:i < hs'.length),(∃(j:Nat) (h3:j < x.s.L.length) (h4:j < hs.length),L'[i].hv=x.s.L[j].hv/\hs'[i]=hs[j])\/(sl hs'[i],L'[i].hv)∈bl):
 ∃κ' S',SIn K gd w' κ' S' g acl rv lv tv hs' FU A bl {x with s:={x.s with L:=L'}}/\Step S w w' S'/\(∀k,S' k↔ S k):=by
 have st:Step (Pt S κ 4) w w' (Pt S κ 4):=by subst e;exact Step.setA w a u hb
 have r:=h.r.wait st (λk hk=>Nat.lt_of_lt_of_le (h.r.lt k hk.1) st.size) ho (λk hk=>h.r.lc k hk) hl hh
 exact⟨_,_,⟨h.b.stepS st (λhh=>h.r.g.ne (by decide) hh),r⟩,Step.whole h.r.lt st,λk=>⟨λq=>q.elim id (λq=>q.1),.inl⟩⟩
theorem SIn.want {x:St K.U} (h:SIn K gd w κ S g acl rv lv tv hs FU A bl x) {i:Nat} (hi:i < x.s.L.length) {a:Addr} (ha:sliceAt lv (i:Int) 12=some a) {n:Nat} (e:w'=World.setCell w (Addr.add a 11) (.int .i64 (n:Int))):
 St1 w (Addr.add a 11)/\∃κ' S',SIn K gd w' κ' S' g acl rv lv tv hs FU A bl {x with s:={x.s with L:=x.s.L.set i {x.s.L[i]with want:=n}}}/\Step S w w' S':=by
 obtain⟨a',hi',ha',hp,hc,hst⟩:=h.elem hi
 obtain rfl:a'=a:=by rw[ha]at ha';exact(Option.some.inj ha').symm
 have hso:=(hst 11 (by omega)).2 (.int .i64 (n:Int)) {x.s.L[i]with want:=n} hs[i] rfl
 rw[List.set_getElem_self]at hso
 rw[←e]at hso
 obtain⟨κ',S',h10,st10,hS⟩:=h.putE (by rw[add_block];exact hp) e hso (by simp [h.r.hl]) (λj h1 h2=>.inl ⟨j,by simpa using h1,h2,by
  by_cases hij:i=j
  ·subst hij;simp
  ·rw[List.getElem_set_ne hij],rfl⟩)
 exact⟨(hst 11 (by omega)).1,κ',S',h10,st10⟩
theorem ready_c {x:St K.U} (h:SIn K gd w κ S g acl rv lv tv hs FU A bl x) {i:Nat} (hi:i < x.s.L.length) (htag:Fits .u32 (x.s.L[i]).tag) (hout:(x.s.L[i]).out<=512) (hhv:(x.s.L[i]).hv.length<=(x.s.L[i]).out) (hbu:x.s.p.bu<=1000000000) (he:Fits .u32 x.s.exp) (hsn:Fits .u32 x.s.sn) (ho:x.o.length<=1000000000) {R:KV}
 (k:∀w' S',Step S w w' S'->SAt K gd A w' g S' bl (Ses.ready x i x.s.L[i])->R (.tuple #[]) w'):Zs 164 #[zA g,.int .i64 (i:Int)] w R:=by
 apply q72W
 obtain⟨a,hi',ha,hp,hc,hst⟩:=h.elem hi
 refine withAddr_some ⟨_,h.b.cell 13,a,ha,nm λw3 e3=>?_⟩
 have g3:=drE e3
 have h3:=h.grow g3
 obtain⟨a',_,ha',_,hc3,_⟩:=h3.elem hi
 obtain rfl:a'=a:=by rw[ha]at ha';exact(Option.some.inj ha').symm
 have hv3:=h3.r.hv i hi hi'
 refine⟨_,hc3 10 (by omega),_,hc3 9 (by omega),_,RdB.len hv3,nm λw7 e7=>?_⟩
 obtain rfl:w7=w3:=e7.trans e3.symm
 have e1:IntKind.wrap .i64 (((x.s.L[i]).out:Int) - ((x.s.L[i]).hv.length:Int))=(((x.s.L[i]).out - (x.s.L[i]).hv.length:Nat):Int):=by rw[wi64_id (by omega) (by omega)];omega
 rw[e1]
 obtain⟨s11,_⟩:=h3.want hi ha (n:=(x.s.L[i]).out - (x.s.L[i]).hv.length) rfl
 refine⟨s11,nm λw8 e8=>nm λw9 e9=>?_⟩
 obtain rfl:w9=w8:=e9.trans e8.symm
 obtain⟨_,κ9,S9,h9,st9⟩:=h3.want hi ha e9
 refine JoinP.unit (λw10=>∃κ' S',SIn K gd w10 κ' S' g acl rv lv tv hs FU A bl {x with s:={x.s with L:=x.s.L.set i {x.s.L[i]with want:=min ((x.s.L[i]).out - (x.s.L[i]).hv.length) x.s.p.bu}}}/\Step S w w10 S') (λj hj=>?_) ?_
 ·refine nm λw20 e20=>?_
  have g20:=drE e20
  have h20:=h9.grow g20
  obtain⟨a2,hi2,ha2,hp2,hc2,_⟩:=h20.elem (i:=i) (by simpa using hi)
  obtain rfl:a2=a':=by rw[ha]at ha2;exact(Option.some.inj ha2).symm
  have eL:(({x with s:={x.s with L:=x.s.L.set i {x.s.L[i]with want:=(x.s.L[i]).out - (x.s.L[i]).hv.length}}}:St K.U).s.L[i]'(by simpa using hi))={x.s.L[i]with want:=(x.s.L[i]).out - (x.s.L[i]).hv.length}:=by simp
  rw[eL]at hc2
  refine⟨_,hc2 11 (by omega),withAddr_some ⟨_,by rw[add_add];exact h20.b.cell 8,nm λw24 e24=>?_⟩⟩
  obtain rfl:w24=w20:=e24.trans e20.symm
  have stA:Step S w w24 S9:=(Step.of_grow g3).then (st9.then (Step.of_grow g20))
  refine cond_intro (λhc=>?_) (λhc=>?_)
  ·have hc:(x.s.p.bu:Int) < (((x.s.L[i]).out - (x.s.L[i]).hv.length:Nat):Int):=of_decide_eq_true hc
   have em:min ((x.s.L[i]).out - (x.s.L[i]).hv.length) x.s.p.bu=x.s.p.bu:=by omega
   obtain⟨s26,_⟩:=h20.want (i:=i) (by simpa using hi) ha (n:=x.s.p.bu) rfl
   refine withAddr_some ⟨_,by rw[add_add];exact h20.b.cell 8,s26,nm λw27 e27=>?_⟩
   obtain⟨_,κ27,S27,h27,st27⟩:=h20.want (i:=i) (by simpa using hi) ha e27
   refine hj _ ⟨κ27,S27,?_,stA.then st27⟩
   rw[em]
   rw[eL]at h27
   have e2:((x.s.L.set i {x.s.L[i]with want:=(x.s.L[i]).out - (x.s.L[i]).hv.length}).set i {x.s.L[i]with want:=x.s.p.bu})=x.s.L.set i {x.s.L[i]with want:=x.s.p.bu}:=List.set_set _
   have h27:SIn K gd w27 κ27 S27 g acl rv lv tv hs FU A bl {x with s:={x.s with L:=(x.s.L.set i {x.s.L[i]with want:=(x.s.L[i]).out - (x.s.L[i]).hv.length}).set i {x.s.L[i]with want:=x.s.p.bu}}}:=h27
   rw[e2]at h27
   exact h27
  ·have hc:¬(x.s.p.bu:Int) < (((x.s.L[i]).out - (x.s.L[i]).hv.length:Nat):Int):=of_decide_eq_false hc
   have em:min ((x.s.L[i]).out - (x.s.L[i]).hv.length) x.s.p.bu=(x.s.L[i]).out - (x.s.L[i]).hv.length:=by omega
   refine hj _ ⟨κ9,S9,?_,stA⟩
   rw[em];exact h20
 rintro w10 ⟨κ10,S10,h10,st10⟩
 refine nm λw11 e11=>?_
 have g11:=drE e11
 have h11:=h10.grow g11
 obtain⟨a2,hi2,ha2,hp2,hc2,_⟩:=h11.elem (i:=i) (by simpa using hi)
 obtain rfl:a2=a':=by rw[ha]at ha2;exact(Option.some.inj ha2).symm
 have hv2:=h11.r.hv i (by simpa using hi) hi2
 have eL:(({x with s:={x.s with L:=x.s.L.set i {x.s.L[i]with want:=min ((x.s.L[i]).out - (x.s.L[i]).hv.length) x.s.p.bu}}}:St K.U).s.L[i]'(by simpa using hi))={x.s.L[i]with want:=min ((x.s.L[i]).out - (x.s.L[i]).hv.length) x.s.p.bu}:=by simp
 rw[eL]at hc2 hv2
 refine⟨_,hc2 0 (by omega),_,hc2 9 (by omega),_,RdB.len hv2,_,hc2 11 (by omega),nm λw16 e16=>?_⟩
 obtain rfl:w16=w11:=e16.trans e11.symm
 have w1:IntKind.wrap .u32 ((x.s.L[i]).hv.length:Int)=((x.s.L[i]).hv.length:Int):=w32_id (by omega) (by omega)
 have w2:IntKind.wrap .u32 ((min ((x.s.L[i]).out - (x.s.L[i]).hv.length) x.s.p.bu:Nat):Int)=((min ((x.s.L[i]).out - (x.s.L[i]).hv.length) x.s.p.bu:Nat):Int):=w32_id (by omega) (by omega)
 show Zs _ #[_,.agg #[.int .i64 49,.bool false,.int .i64 0,.int .i64 0,.int .u32 _,.int .u32 0,.int .u32 0,.int .u32 0,.int .u32 (IntKind.wrap .u32 ((x.s.L[i]).hv.length:Int)),.int .u32 (IntKind.wrap .u32 ((min ((x.s.L[i]).out - (x.s.L[i]).hv.length) x.s.p.bu:Nat):Int)),_,_,_,_,_,_,_,_,_,_,_,_,_,_,_,_,_]] _ _
 rw[w1,w2]
 have q1:Fits .u32 (((x.s.L[i]).hv.length:Nat):Int):=fits_32 (by omega) (by omega)
 have q2:Fits .u32 ((min ((x.s.L[i]).out - (x.s.L[i]).hv.length) x.s.p.bu:Nat):Int):=fits_32 (by omega) (by omega)
 have hP:PdFits {zP with op:=49,tag:=(x.s.L[i]).tag,off:=((x.s.L[i]).hv.length:Int),ln:=((min ((x.s.L[i]).out - (x.s.L[i]).hv.length) x.s.p.bu:Nat):Int)}:=⟨(by decide:Fits .i64 49),(by decide:Fits .i64 0),(by decide:Fits .i64 0),htag,(by decide:Fits .u32 0),(by decide:Fits .u32 0),(by decide:Fits .u32 0),q1,q2⟩
 refine say_c (p:={zP with op:=49,tag:=(x.s.L[i]).tag,off:=((x.s.L[i]).hv.length:Int),ln:=((min ((x.s.L[i]).out - (x.s.L[i]).hv.length) x.s.p.bu:Nat):Int)}) (ds:=[]) h11.at hP (Rd.nil _) he hsn ho λw22 S2 st22 h22=>⟨rfl,?_⟩
 rw[say_of rfl]at h22
 exact k w22 S2 (st10.then ((Step.of_grow g11).then st22)) h22
abbrev tWts:TypeId:=39
theorem tyWt:SlTyN Tryz.prog tWts tWt EW.s 128:=SlTyN.of (by kernel_rfl)
theorem SIn.newL {x:St K.U} {lv':Value} {L':List Wt} {hs':List Sl} (h:SIn K gd w κ S g acl rv lv tv hs FU A bl x) (gg:Grow w w') (ho:OwnR EW w' w.heap.size tWt lv' (L'.zip hs')) (hl:hs'.length=L'.length)
 (hh:∀(i:Nat) (h1:i < L'.length) (h2:i < hs'.length),(∃(j:Nat) (h3:j < x.s.L.length) (h4:j < hs.length),L'[i].hv=x.s.L[j].hv/\hs'[i]=hs[j])\/(sl hs'[i],L'[i].hv)∈bl) {w2:World} (e:w2=World.setCell w' (Addr.add ⟨g,0,none⟩ 13) lv'):
 St1 w' (Addr.add ⟨g,0,none⟩ 13)/\∃κ' S',SIn K gd w2 κ' S' g acl rv lv' tv hs' FU A bl {x with s:={x.s with L:=L'}}/\Step S w w2 S':=by
 have st:Step (Pt S κ 4) w w' (λk=>lv'.ownBlock=some k):=(Step.of_grow (S :=Pt S κ 4) gg).imp (λ_ q=>q) (λk hk=>.inr (ho.lt k hk).1)
 have r:=h.r.wait st (λk hk=>(ho.lt k hk).2) (ho.mono (Nat.zero_le _)) (λk hk=>hk) hl hh
 have b':=h.b.grow gg
 obtain⟨b2,t2⟩:=setE b' e
 exact⟨st1_at b' (by show 13 < 15;omega),reC κ w 4,reS S λk=>lv'.ownBlock=some k,⟨b2,r.turn t2⟩,(Step.whole h.r.lt st).then (t2.step (.inl h.r.g.1))⟩
theorem drop_c {x:St K.U} {i:Nat} (h:SAt K gd A w g S bl x) (hi:i < x.s.L.length) (hL:x.s.L.length<=1000) {R:KV}
 (k:∀w' S',Step S w w' S'->SAt K gd A w' g S' bl (Ses.dropW x i)->R (.tuple #[]) w'):Zs 165 #[zA g,.int .i64 (i:Int)] w R:=by
 obtain⟨κ,acl,rv,lv,tv,hs,FU,h⟩:=h
 apply q69W
 have hl:=h.r.hl
 have hz:(x.s.L.zip hs).length=x.s.L.length:=by simp [hl]
 refine nm λw0 e0=>?_
 obtain⟨_,g0,s0⟩:=alE e0
 have h0:=h.grow g0
 obtain⟨v3,hs3,r3,_⟩:=RdR.sub h0.r.l.rd (lo:=none) (hi:=some (.int .i64 (i:Int))) (l:=0) (r:=i) (λcap hc=>by rw[bounds_ni (by omega) (by omega)];simp) (by omega) (by omega)
 rw[List.drop_zero,Nat.sub_zero]at r3
 have ho:OwnR EW w0 w.heap.size tWt (.slice (some ⟨w.heap.size,0,none⟩) 0 0) []:=by
  rw[e0];exact OwnR.lit w (Nat.le_refl _) tWt [] 0 rfl (by simp [maxLen])
 obtain⟨v4,w5,k4,o4,n4⟩:=app_ownR tyWt ho r3 (by simp only[List.length_nil,List.length_take];omega) g0.size
 rw[List.nil_append]at o4
 have g5:Grow w w5:=g0.trans (n4.below g0.size (λq hq=>(ho.lt q hq).1))
 have h5:=h.grow g5
 have ei:IntKind.wrap .i64 ((i:Int)+1)=((i+1:Nat):Int):=by rw[wi64_id (by omega) (by omega)];omega
 obtain⟨v8,hs8,r8,_⟩:=RdR.sub h5.r.l.rd (lo:=some (.int .i64 ((i+1:Nat):Int))) (hi:=none) (l:=i+1) (r:=(x.s.L.zip hs).length) (λcap hc=>by rw[bounds_in (by omega) (by omega)];simp) (by omega) (by omega)
 have r8:RdR EW w5 v8 ((x.s.L.zip hs).drop (i+1)):=by rw[List.take_of_length_le (by simp)]at r8;exact r8
 obtain⟨v9,w10,k9,o9,n9⟩:=app_ownR tyWt o4 r8 (by simp only[List.length_drop,List.length_take];omega) g5.size
 have g10:Grow w w10:=g5.trans (n9.below g5.size (λq hq=>(o4.lt q hq).1))
 rw[zip_erase]at o9
 rw[ei]
 refine withAddr_some ⟨_,h0.b.cell 13,v3,hs3,v4,w5,k4,withAddr_some ⟨_,h5.b.cell 13,v8,hs8,v9,w10,k9,withAddr_some (oneK_of (own_isOne o9) ?_)⟩⟩
 have hh:∀(j:Nat) (h1:j < (x.s.L.eraseIdx i).length) (h2:j < (hs.eraseIdx i).length),(∃(j':Nat) (h3:j' < x.s.L.length) (h4:j' < hs.length),(x.s.L.eraseIdx i)[j].hv=x.s.L[j'].hv/\(hs.eraseIdx i)[j]=hs[j'])\/(sl (hs.eraseIdx i)[j],(x.s.L.eraseIdx i)[j].hv)∈bl:=λj h1 h2=>.inl (by
  rw[List.length_eraseIdx_of_lt hi]at h1
  by_cases hj:j < i
  ·exact⟨j,by omega,by omega,by rw[List.getElem_eraseIdx_of_lt _ hj],by rw[List.getElem_eraseIdx_of_lt _ hj]⟩
  ·exact⟨j+1,by omega,by omega,by rw[List.getElem_eraseIdx_of_ge _ (by omega)],by rw[List.getElem_eraseIdx_of_ge _ (by omega)]⟩)
 have hle:(hs.eraseIdx i).length=(x.s.L.eraseIdx i).length:=by rw[List.length_eraseIdx_of_lt (by omega),List.length_eraseIdx_of_lt hi,hl]
 refine⟨(h.newL g10 o9 hle hh rfl).1,nm λw12 e12=>?_⟩
 obtain⟨_,κ',S',h12,st⟩:=h.newL g10 o9 hle hh e12
 exact k w12 S' st h12.at
end Go.Proofs.YtdinpgnjnleioaaGreatDoor.Rs
end
section
namespace Go.Proofs.YtdinpgnjnleioaaGreatDoor.Rs
open CW RowKit Pdu
open Ses (St Ses Wt Cm Rp Doer Wire EW ET Sl sl sl_of rCm rRp RpAt RpOk Col Pt reC reS Step.whole OwnR.stepS RdR.stepS At.stepS m32 encQ encQ_length fits_m32 posI posOf fidx EW_ld Rd.sl RdR.sl Rd.turnX fits_32 fits_i zip_set zip_erase own_isOne isPr full)
variable {W:Wire} {K:Doer} {gd:Nat} {w w':World} {κ:Col} {S :Fp} {g:Nat} {acl rv lv tv:Value} {hs:List Sl} {FU:Fp} {A:List (List UInt8)} {bl:List (Value×List UInt8)}
def Direct (K:Doer) (gd:Nat):Prop:=∀{w:World} {F:Fp} {u:K.U} {n:List UInt8} {c:Cm} {dv:Value} {R:KV},K.At w F u->K.Ok u n c->RdB w dv c.d->(∀v w' F',Step F w w' F'->K.At w' F' (K.step u n c).2->RpAt w w' v (K.step u n c).1->R v w')->
 Zs 11 #[zA gd,.string (textOf n),.agg (rCm c dv)] w R
theorem do_c (HK:Direct K gd) {x:St K.U} {c:Cm} {dv:Value} (h:SAt K gd A w g S bl x) (hok:K.Ok x.u x.s.p.nm c) (hd:RdB w dv c.d) {R:KV}
 (k:∀v w' S',Step S w w' S'->SAt K gd A w' g S' bl {x with u:=(K.step x.u x.s.p.nm c).2}->RpAt w w' v (K.step x.u x.s.p.nm c).1->R v w'):
 Zs 11 #[zA gd,.string (textOf x.s.p.nm),.agg (rCm c dv)] w R:=by
 obtain⟨κ,acl,rv,lv,tv,hs,FU,h⟩:=h
 refine HK h.r.u hok hd λv w' F' st hu hr=>?_
 have st':Step (Pt S κ 6) w w' F':=st.imp (λq hq=>h.r.uc q hq) (λq hq=>(st.fp q hq).imp (λq'=>h.r.uc q q') id)
 have r:=h.r.unit st' (K.lt hu) hu (λq hq=>hq)
 exact k v w' _ (Step.whole h.r.lt st') ⟨_,acl,rv,lv,tv,hs,F',⟨h.b.stepS st' (λhh=>h.r.g.ne (by decide) hh),r⟩⟩ hr
theorem SAt.cells {x:St K.U} (h:SAt K gd A w g S bl x):∃acl rv lv tv,BK w g (rS gd acl rv x.s lv tv) tSes:=by
 obtain⟨κ,acl,rv,lv,tv,hs,FU,h⟩:=h
 exact⟨_,_,_,_,h.b⟩
theorem done_c (HW:WireD W) (HK:Direct K gd) {x:St K.U} {tag:Int} {c:Cm} {dv:Value} {ds:List UInt8} (h:SAt K gd A w g S bl x) (hd:RdB w dv ds) (hl:ds.length<=5000) (hc:c.d=[]) (htag:Fits .u32 tag) (he:Fits .u32 x.s.exp) (hsn:Fits .u32 x.s.sn) (ho:x.o.length<=900000000)
 (hmd:512<=x.s.p.md/\x.s.p.md<=1000000000) (hok:∀c',full W c ds=some c'->K.Ok x.u x.s.p.nm c') {R:KV}
 (k:∀w' S',Step S w w' S'->SAt K gd A w' g S' bl (Ses.done W K.step x tag c ds)->R (.tuple #[]) w'):
 Zs 162 #[zA g,.int .u32 tag,.agg (rCm c nilV),dv] w R:=by
 apply q68W
 have hdi:=Rd.isOne hd
 refine nm λw0 e0=>?_
 obtain⟨b0,g0,s0⟩:=alE e0
 have hb0:BK w0 w.heap.size (rCm c nilV) tCm:=b0
 have hS:∀q,w.heap.size<=q->¬ S q:=λq hq hs=>by have:=h.lt q hs;omega
 refine⟨_,hb0.cell 0,HW.of λw3 op one f1 f2 f3 f4 f5 f6 g3 hop=>⟨_,_,_,_,_,_,_,_,rfl,nm λw12 e12=>?_⟩⟩
 obtain⟨b12,g12,s12⟩:=alE e12
 refine⟨b12.row rfl rfl,nm λw13 e13=>?_⟩
 obtain⟨b13,t13⟩:=rowE b12 e13 rfl
 have z3:w.heap.size < w3.heap.size:=Nat.lt_of_lt_of_le hb0.lt g3.size
 have g13:Grow w w13:=Below.turn (g0.then (g3.then g12)) t13 (by omega)
 have hb13:BK w13 w.heap.size (rCm c nilV) tCm:=((hb0.grow g3).grow g12).turn t13 (by omega)
 refine JoinP.unit (λw2=>∃c' dv',Grow w w2/\BK w2 w.heap.size (rCm c' dv') tCm/\RdB w2 dv' c'.d/\full W c ds=some c') (λj hj=>⟨_,b13.cell 0,?_⟩) ?_
 ·refine cond_intro (λhp=>?_) (λhp=>?_)
  ·rw[hop]at hp
   refine HW.two (hd.grow g13) λw95 k1 o1 b1 g95 c1 c2=>⟨_,_,_,rfl,?_⟩
   have hb5:=hb13.grow g95
   have gA:=g13.then g95
   cases hW:W.two ds with
   |none=>
    obtain rfl:=c2 hW
    refine cond_t rfl (Rf.rWrong_c λw114 g114=>⟨_,_,_,_,_,rfl,?_⟩)
    have hfull:full W c ds=none:=by unfold full;rw[if_pos hp,hW]
    refine respond_c HW (n:=0) (r:=Ses.wrong 9728) (h.grow (gA.then g114)) ⟨by decide,by decide⟩ rfl htag he hsn (by omega) λw112 S' st h'=>⟨rfl,?_⟩
    refine k w112 S' ((Step.of_grow (gA.then g114)).then st) ?_
    unfold Ses.done;rw[hfull];exact h'
   |some q=>
    obtain⟨rfl,rfl,rfl⟩:=c1 q hW
    have hfull:full W c ds=some {c with key:=q.1,new:=q.2}:=by unfold full;rw[if_pos hp,hW]
    refine cond_f rfl ⟨st1_at hb5 (by show 4 < 8;omega),nm λw113 e113=>?_⟩
    obtain⟨b113,t113⟩:=setE hb5 e113
    refine⟨st1_at b113 (by show 5 < 8;omega),nm λw114 e114=>?_⟩
    obtain⟨b114,t114⟩:=setE b113 e114
    refine hj _ ⟨{c with key:=q.1,new:=q.2},nilV,Below.turn (Below.turn gA t113 (Nat.le_refl _)) t114 (Nat.le_refl _),b114,?_,hfull⟩
    show RdB _ _ c.d
    rw[hc];exact Rd.nil _
  ·rw[hop]at hp
   refine oneK_of hdi ⟨st1_at hb13 (by show 3 < 8;omega),nm λw117 e117=>?_⟩
   obtain⟨b117,t117⟩:=setE hb13 e117
   have hfull:full W c ds=some {c with d:=ds}:=by unfold full;rw[if_neg (by rw[hp];simp)]
   exact hj _ ⟨{c with d:=ds},dv,Below.turn g13 t117 (Nat.le_refl _),b117,Rd.turnX (hd.grow g13) t117 (λhx e=>by have:=Rd.lt hd hx _ e;omega),hfull⟩
 rintro w2 ⟨c',dv',g2,hb2,rd2,hfull⟩
 have hok':=hok c' hfull
 have hrp:=K.rp hok'
 have hdone:Ses.done W K.step x tag c ds=Ses.fin W K.step x tag c':=by unfold Ses.done;rw[hfull]
 rw[hdone]at k
 refine JoinP.val (λv3 w4=>∃b dvr S',v3= zA b/\Step S w w4 S'/\SAt K gd A w4 g S' bl {x with u:=(K.step x.u x.s.p.nm c').2}/\BK w4 b (rRp (K.step x.u x.s.p.nm c').1 dvr) tRp/\RdB w4 dvr (K.step x.u x.s.p.nm c').1.d/\¬S' b) (λj hj=>?_) ?_
 ·refine nm λw35 e35=>?_
  have g35:=drE e35
  have h35:=h.grow (g2.then g35)
  obtain⟨acl,rv,lv,tv,hg⟩:=h35.cells
  have hb35:=hb2.grow g35
  have rd35:=rd2.grow g35
  refine withAddr_some ⟨_,hg.cell 1,withAddr_some ⟨_,by rw[add_add];exact hg.cell 6,_,_,_,_,_,_,_,_,hb35.ld rfl,nm λw48 e48=>⟨?_,?_⟩⟩⟩
  ·obtain rfl:w48=w35:=e48.trans e35.symm
   have gA:=g2.then g35
   refine do_c HK h35 hok' rd35 λv49 w50 S' st h50 ⟨dvr,hv,rdr,nr⟩=>⟨_,_,_,_,_,hv,?_⟩
   obtain⟨acl',rv',lv',tv',hg50⟩:=h50.cells
   obtain⟨b66,g66,s66⟩:=alE (w:=w50) (cs:= #[(.int .i64 (0:Int)),(.int .i64 (0:Int)),(.int .i64 (0:Int)),(.slice none 0 0),(.int .i64 (0:Int))]) (t:=tRp) rfl
   have hg66:=hg50.grow g66
   have hb50:BK w50 w.heap.size (rCm c' dv') tCm:=hb35.stepS st (hS _ (Nat.le_refl _))
   have hb66:=hb50.grow g66
   refine⟨⟨_,hg66.cell 1,rfl⟩,⟨_,by rw[add_add];exact hg66.cell 6,rfl⟩,⟨_,_,_,_,_,_,_,_,hb66.ld rfl,rfl⟩,nm λw66 e66=>nm λw67 e67=>?_⟩
   obtain rfl:w67=w66:=e67.trans e66.symm
   rw[←e67]at b66 g66 hg66 hb66
   refine⟨b66.row rfl (by show oneL [_,_,_,dvr,_]=true;simp only[oneL,Rd.isOne rdr];rfl),nm λw68 e68=>nm λw69 e69=>?_⟩
   obtain rfl:w69=w68:=e69.trans e68.symm
   obtain⟨b69,t69⟩:=rowE b66 e69 rfl
   have nS:¬S' w50.heap.size:=λhh=>by have:=h50.lt _ hh;omega
   have rdr':RdB w69 dvr (K.step x.u x.s.p.nm c').1.d:=by
    refine Rd.turnX (rdr.grow g66) t69 (λhx e=>?_)
    have:=Rd.lt rdr hx _ e;omega
   have m:Md S w.heap.size w w69:=(((((Md.refl S w.heap.size w).grow gA).stp st (λq hq=>.inl hq) (λq hq=>(st.fp q hq).imp .inl id)).grow g66).turn t69 (.inr (Nat.le_trans gA.size st.size)))
   exact hj _ _ ⟨w50.heap.size,dvr,S',rfl,m.out.imp (λ_ h=>h) (λq hq=>(st.fp q hq).imp id (λz=>Nat.le_trans gA.size z)),(h50.grow g66).turn t69 nS,b69,rdr',nS⟩
  ·obtain rfl:w48=w35:=e48.trans e35.symm
   have gA:=g2.then g35
   obtain⟨b80,g80,s80⟩:=alE (w:=w48) (cs:= #[(.int .i64 (0:Int)),(.int .i64 (0:Int)),(.int .i64 (0:Int)),(.slice none 0 0),(.int .i64 (0:Int))]) (t:=tRp) rfl
   have hg80:=hg.grow g80
   have hb80:=hb35.grow g80
   refine⟨⟨_,hg80.cell 1,rfl⟩,⟨_,by rw[add_add];exact hg80.cell 6,rfl⟩,⟨_,_,_,_,_,_,_,_,hb80.ld rfl,rfl⟩,nm λw80 e80=>nm λw81 e81=>?_⟩
   obtain rfl:w81=w80:=e81.trans e80.symm
   rw[←e81]at b80 g80 hg80 hb80 s80
   have nb:¬ S w48.heap.size:=hS _ gA.size
   refine do_c HK (h35.grow g80) hok' (rd35.grow g80) λv82 w83 S' st h83 ⟨dvr,hv,rdr,nr⟩=>⟨_,_,_,_,_,hv,?_⟩
   have b83:=b80.stepS st nb
   refine⟨b83.row rfl (by show oneL [_,_,_,dvr,_]=true;simp only[oneL,Rd.isOne rdr];rfl),nm λw89 e89=>nm λw90 e90=>?_⟩
   obtain rfl:w90=w89:=e90.trans e89.symm
   obtain⟨b90,t90⟩:=rowE b83 e90 rfl
   have nS:¬S' w48.heap.size:=λhh=>by
    rcases st.fp _ hh with q|q
    ·exact nb q
    ·omega
   have rdr':RdB w90 dvr (K.step x.u x.s.p.nm c').1.d:=by
    refine Rd.turnX rdr t90 (λhx e=>?_)
    have:=nr _ e;omega
   have m:Md S w.heap.size w w90:=(((((Md.refl S w.heap.size w).grow gA).grow g80).stp st (λq hq=>.inl hq) (λq hq=>(st.fp q hq).imp .inl id))).turn t90 (.inr gA.size)
   exact hj _ _ ⟨w48.heap.size,dvr,S',rfl,m.out.imp (λ_ h=>h) (λq hq=>(st.fp q hq).imp id (λz=>Nat.le_trans (gA.then g80).size z)),h83.turn t90 nS,b90,rdr',nS⟩
 generalize hq:K.step x.u x.s.p.nm c'=q at *
 have hfin:Ses.fin W K.step x tag c'=Ses.respond W (if q.1.st=0/\q.1.d≠[] then Ses.say ({x with u:=q.2}:St K.U) {zP with op:=37,tag:=tag,fin:=true} q.1.d else{x with u:=q.2}) tag q.1 (if q.1.st=0 then q.1.d.length else 0):=by
  unfold Ses.fin;simp only[hq]
 rw[hfin]at k
 rintro v3 w4 ⟨b,dvr,S',rfl,st4,h4,b4,r4,nS4⟩
 have hdl:=hrp.d
 obtain⟨y,hy⟩:∃y:St K.U,y=(if q.1.st=0/\q.1.d≠[] then Ses.say ({x with u:=q.2}:St K.U) {zP with op:=37,tag:=tag,fin:=true} q.1.d else{x with u:=q.2}):=⟨_,rfl⟩
 obtain⟨n,hn⟩:∃n:Nat,n=(if q.1.st=0 then q.1.d.length else 0):=⟨_,rfl⟩
 rw[←hy,←hn]at k
 refine JoinP.int (λn' w5=>n'=(n:Int)/\∃S2,Step S w w5 S2/\SAt K gd A w5 g S2 bl y/\BK w5 b (rRp q.1 dvr) tRp/\isOne dvr=true) (λj hj=>?_) ?_
 ·refine withAddr_some ⟨_,b4.cell 0,cond_intro (λe=>?_) (λe=>?_)⟩
  ·have hst:q.1.st=0:=by simpa using e
   rw[if_pos hst]at hn
   refine withAddr_some ⟨_,b4.cell 3,_,RdB.len r4,?_⟩
   rw[←hn]
   have hnl:n<=512:=by omega
   refine⟨λ(i:Int) (ww:World)=>(i=0/\ww=w4)\/(0 < n/\i=(x.s.p.md:Int)/\∃S2,Step S w ww S2/\SAt K gd A ww g S2 bl (Ses.say ({x with u:=q.2}:St K.U) {zP with op:=37,tag:=tag,fin:=true} q.1.d)/\BK ww b (rRp q.1 dvr) tRp/\isOne dvr=true),λ(i:Int) (_:World)=>((n:Int) - i).toNat,.inl ⟨rfl,rfl⟩,?_⟩
   dsimp only[allR,mapR2,eqN,ltN]
   rintro m i ww ⟨hi,hm⟩
   refine cond_intro (λhlt=>?_) (λhge=>?_)
   ·have hlt:i < (n:Int):=by simpa using hlt
    rcases hi with ⟨rfl,rfl⟩|⟨h0,rfl,_⟩
    ·obtain⟨acl,rv,lv,tv,hg⟩:=h4.cells
     have h0:0 < n:=by omega
     have hmdw2:IntKind.wrap .i64 (0+(x.s.p.md:Int))=(x.s.p.md:Int):=by rw[wi64_id (by omega) (by omega)];omega
     refine withAddr_some ⟨_,by rw[add_add];exact hg.cell 7,?_⟩
     refine JoinP.int (λn' w5=>n'=(n:Int)/\w5=ww) (λj2 hj2=>cond_intro (λhc=>hj2 _ _ ⟨rfl,rfl⟩) (λhc=>hj2 _ _ ⟨?_,rfl⟩)) ?_
     ·have hc:=of_decide_eq_false hc
      have hc:¬IntKind.wrap .i64 (0+(x.s.p.md:Int)) > (n:Int):=hc
      show IntKind.wrap .i64 (0+(x.s.p.md:Int))=(n:Int)
      rw[hmdw2]at hc ⊢
      omega
     rintro n' w5 ⟨rfl,rfl⟩
     refine withAddr_some ⟨_,b4.cell 3,?_⟩
     obtain⟨v14,hs14,hr14,_⟩:=Rd.sub r4 (lo:=some (.int .i64 0)) (hi:=some (.int .i64 (n:Int))) (l:=0) (r:=n) (λcap hcap=>by rw[bounds_ii (by omega) (by omega) (by simp at hcap;omega)];rfl) (by omega) (by simp;omega)
     have r14:RdB w5 v14 q.1.d:=by
      have e:((q.1.d.map b8).drop 0).take (n - 0)=q.1.d.map b8:=by rw[List.drop_zero,List.take_of_length_le (by simp;omega)]
      rw[e]at hr14;exact hr14
     refine⟨v14,hs14,oneK_of (Rd.isOne r14) ?_⟩
     have hP:PdFits {zP with op:=37,tag:=tag,fin:=true}:=⟨(by decide:Fits .i64 37),(by decide:Fits .i64 0),(by decide:Fits .i64 0),htag,(by decide:Fits .u32 0),(by decide:Fits .u32 0),(by decide:Fits .u32 0),(by decide:Fits .u32 0),(by decide:Fits .u32 0)⟩
     have e1:((n:Int)==(n:Int))=true:=by simp
     rw[e1]
     refine say_c (p:={zP with op:=37,tag:=tag,fin:=true}) h4 hP r14 he hsn (by show x.o.length<=_;omega) λw16 S2 st16 h16=>⟨rfl,?_⟩
     rw[say_of rfl]at h16
     obtain⟨acl',rv',lv',tv',hg'⟩:=h16.cells
     have b16:=b4.stepS st16 nS4
     refine withAddr_some ⟨_,by rw[add_add];exact hg'.cell 7,?_⟩
     have em:IntKind.wrap .i64 (0+((Ses.say ({x with u:=q.2}:St K.U) {zP with op:=37,tag:=tag,fin:=true} q.1.d).s.p.md:Int))=(x.s.p.md:Int):=hmdw2
     rw[em]
     exact⟨.inr ⟨h0,rfl,S2,st4.then st16,h16,b16,Rd.isOne r4⟩,by omega⟩
    ·omega
   ·have hge:¬i < (n:Int):=by simpa using hge
    rcases hi with ⟨rfl,rfl⟩|⟨h0,rfl,S2,st2,h2',b2',one2⟩
    ·have hz:n=0:=by omega
     have hno:¬(q.1.st=0/\q.1.d≠[]):=by
      rintro⟨e1,e2⟩
      exact e2 (List.eq_nil_of_length_eq_zero (by omega))
     rw[if_neg hno]at hy
     exact hj _ _ ⟨rfl,S',st4,by rw[hy];exact h4,b4,Rd.isOne r4⟩
    ·have hyes:q.1.st=0/\q.1.d≠[]:=⟨hst,λe=>by rw[e]at hn;simp at hn;omega⟩
     rw[if_pos hyes]at hy
     exact hj _ _ ⟨rfl,S2,st2,by rw[hy];exact h2',b2',one2⟩
  ·have hst:q.1.st≠0:=by simpa using e
   rw[if_neg hst]at hn
   rw[if_neg (λhh=>hst hh.1)]at hy
   exact hj _ _ ⟨by rw[hn];rfl,S',st4,by rw[hy];exact h4,b4,Rd.isOne r4⟩
 rintro n' w5 ⟨rfl,S2,st2,h2',b2',one2⟩
 have hys:y.s=x.s:=by rw[hy];split<;>rfl
 have hol:y.o.length<=1000000000:=by
  rw[hy]
  split
  ·show(x.o++_).length<=_
   rw[List.length_append]
   refine Nat.le_trans (Nat.add_le_add_left (encQ_length _ _) _) ?_
   omega
  ·show x.o.length<=_;omega
 refine withAddr_some ⟨_,_,_,_,_,b2'.ld rfl,?_⟩
 exact respond_c HW (n:=n) h2' hrp.st one2 htag (by rw[hys];exact he) (by rw[hys];exact hsn) hol λw26 S3 st3 h3=>⟨rfl,k w26 S3 (st2.then st3) h3⟩
end Go.Proofs.YtdinpgnjnleioaaGreatDoor.Rs
end
section
namespace Go.Proofs.YtdinpgnjnleioaaGreatDoor.Rs
open CW RowKit Pdu
open Ses (St Ses Wt Cm Rp Doer Wire EW ET Sl sl sl_of rCm rRp RpAt RpOk Col Pt reC reS Step.whole OwnR.stepS RdR.stepS At.stepS m32 encQ encQ_length fits_m32 posI posOf fidx EW_ld Rd.sl RdR.sl Rd.turnX fits_32 fits_i zip_set zip_erase own_isOne isPr full posOf_some posOf_none manY)
variable {K:Doer} {gd:Nat} {w w':World} {κ:Col} {S :Fp} {g:Nat} {acl rv lv tv:Value} {hs:List Sl} {FU:Fp} {A:List (List UInt8)} {bl:List (Value×List UInt8)}
theorem Rest.none {L:List Wt} {rd o:List UInt8} {u:K.U} (h:Rest K w κ S g acl rv lv tv hs FU A bl L rd o u):Rest K w κ S g acl rv nilV tv [] FU A bl [] rd o u:=
 ⟨h.lt,h.g,h.ro,h.rc,OwnR.nil _ _ _,λk hk=>(by cases hk),h.t,h.tc,h.u,h.uc,rfl,λi hi=>absurd hi (Nat.not_lt_zero _),λi hi=>absurd hi (Nat.not_lt_zero _),h.bl,h.ac,h.acc⟩
theorem manage_c (HK:Direct K gd) {x:St K.U} {p:Pd} {dv:Value} {ds:List UInt8} (h:SAt K gd A w g S bl x) (hf:PdFits p) (hd:RdB w dv ds) (he:Fits .u32 x.s.exp) (hsn:Fits .u32 x.s.sn) (ho:x.o.length<=1000000000) (hL:x.s.L.length<=1000) (hok:p.fl=5->K.Ok x.u x.s.p.nm Ses.reset) {R:KV}
 (k:∀w' S',Step S w w' S'->SAt K gd A w' g S' bl (Ses.manage K.step x p)->R (.tuple #[]) w'):Zs 121 #[zA g,vP p dv] w R:=by
 apply q71W
 have hS:∀q,w.heap.size<=q->¬ S q:=λq hq hs=>by have:=h.lt q hs;omega
 refine nm λw0 e0=>?_
 obtain⟨b0',g0,s0⟩:=alE e0
 have b0:BK w0 w.heap.size (rP p dv) tP:=b0'
 have h0:=h.grow g0
 refine⟨_,b0.cell 2,?_⟩
 refine JoinP.int (λn ww=>∃S',Step S w ww S'/\SAt K gd A ww g S' bl (manY K.step x p).1/\n=(manY K.step x p).2/\BK ww w.heap.size (rP p dv) tP) (λj hj=>?_) ?_
 ·unfold manY at hj
  refine cond_intro (λe1=>?_) (λe1=>?_)
  ·have e1:p.fl=1:=by simpa using e1
   rw[if_pos e1]at hj
   refine⟨_,b0.cell 8,at_c h0 ⟨_,rfl,?_⟩⟩
   cases hp:posOf x.s.L p.off with
   |none=>
    rw[hp]at hj
    rw[posOf_none hp]
    exact cond_t rfl (hj _ _ ⟨S,Step.of_grow g0,h0,rfl,b0⟩)
   |some i=>
    rw[hp]at hj
    obtain⟨hi,hpi⟩:=posOf_some hp
    rw[hpi]
    refine cond_f (by simp) ?_
    exact drop_c h0 hi hL λw22 S' st h'=>⟨rfl,hj _ _ ⟨S',(Step.of_grow g0).then st,h',rfl,b0.stepS st (hS _ (Nat.le_refl _))⟩⟩
  have e1:p.fl≠1:=by simpa using e1
  rw[if_neg e1]at hj
  refine cond_intro (λe2=>?_) (λe2=>?_)
  ·have e2:p.fl=2:=by simpa using e2
   rw[if_pos e2]at hj
   obtain⟨κ,acl,rv,lv,tv,hs,FU,hi0⟩:=h0
   refine withAddr_some ⟨st1_at hi0.b (by show 13 < 15;omega),nm λw24 e24=>?_⟩
   obtain⟨b24,t24⟩:=setE hi0.b e24
   exact hj _ _ ⟨S,(Step.of_grow g0).then (t24.step hi0.r.g.1),⟨κ,acl,rv,nilV,tv,[],FU,⟨b24,hi0.r.none.turn t24⟩⟩,rfl,b0.turn t24 (λe=>hS _ (Nat.le_refl _) (e▸hi0.r.g.1))⟩
  have e2:p.fl≠2:=by simpa using e2
  rw[if_neg e2]at hj
  refine cond_intro (λe5=>?_) (λe5=>?_)
  ·have e5:p.fl=5:=by simpa using e5
   rw[if_pos e5]at hj
   obtain⟨κ,acl,rv,lv,tv,hs,FU,hi0⟩:=h0
   refine withAddr_some ⟨st1_at hi0.b (by show 13 < 15;omega),nm λw26 e26=>?_⟩
   obtain⟨b26,t26⟩:=setE hi0.b e26
   have h26:SAt K gd A w26 g S bl ({x with s:={x.s with L:=[]}}:St K.U):=⟨κ,acl,rv,nilV,tv,[],FU,⟨b26,hi0.r.none.turn t26⟩⟩
   have bp26:=b0.turn t26 (λe=>hS _ (Nat.le_refl _) (e▸hi0.r.g.1))
   refine nm λw27 e27=>?_
   have g27:=drE e27
   have b27:=b26.grow g27
   refine withAddr_some ⟨_,b27.cell 1,withAddr_some ⟨_,by rw[add_add];exact b27.cell 6,nm λw32 e32=>?_⟩⟩
   obtain rfl:w32=w27:=e32.trans e27.symm
   refine do_c HK (c:=Ses.reset) (dv:=nilV) (h26.grow g27) (hok e5) (Rd.nil _) λv33 w34 S' st h34 ⟨dvr,hv,rdr,nr⟩=>⟨_,_,_,_,_,hv,?_⟩
   have st0:Step S w w26 S :=(Step.of_grow g0).then (t26.step hi0.r.g.1)
   exact hj _ _ ⟨S',(st0.then (Step.of_grow g27)).then st,h34,rfl,(bp26.grow g27).stepS st (hS _ (Nat.le_refl _))⟩
  have e5:p.fl≠5:=by simpa using e5
  rw[if_neg e5]at hj
  exact hj _ _ ⟨S,Step.of_grow g0,h0,rfl,b0⟩
 ·rintro n w3 ⟨S1,st1,h1,rfl,b1⟩
  have hy:(manY K.step x p).1.s.exp=x.s.exp/\(manY K.step x p).1.s.sn=x.s.sn/\(manY K.step x p).1.o=x.o/\0<=(manY K.step x p).2/\(manY K.step x p).2<=255:=by
   unfold manY
   split
   ·split
    ·exact⟨rfl,rfl,rfl,by simp,by simp⟩
    ·exact⟨rfl,rfl,rfl,by simp,by simp⟩
   ·split
    ·exact⟨rfl,rfl,rfl,by simp,by simp⟩
    ·split
     ·exact⟨rfl,rfl,rfl,by simp,by simp⟩
     ·exact⟨rfl,rfl,rfl,by simp,by simp⟩
  obtain⟨y1,y2,y3,y4,y5⟩:=hy
  refine⟨_,b1.cell 4,?_⟩
  have hP:PdFits {zP with op:=34,tag:=p.tag,st:=(manY K.step x p).2}:=⟨(by decide:Fits .i64 34),(by decide:Fits .i64 0),fits_i (by show _<=(manY K.step x p).2;omega) (by show(manY K.step x p).2 < _;omega),hf.tag,(by decide:Fits .u32 0),(by decide:Fits .u32 0),(by decide:Fits .u32 0),(by decide:Fits .u32 0),(by decide:Fits .u32 0)⟩
  refine say_c (p:={zP with op:=34,tag:=p.tag,st:=(manY K.step x p).2}) (ds:=[]) h1 hP (Rd.nil _) (by rw[y1];exact he) (by rw[y2];exact hsn) (by rw[y3];exact ho) λw11 S2 st2 h2=>⟨rfl,?_⟩
  rw[sayN_of rfl]at h2
  exact k w11 S2 (st1.then st2) h2
end Go.Proofs.YtdinpgnjnleioaaGreatDoor.Rs
end
section
namespace Go.Proofs.YtdinpgnjnleioaaGreatDoor.Rs
open CW RowKit Pdu
open Ses (St Ses Wt Cm Rp Doer Wire EW ET Sl sl sl_of rCm rRp RpAt RpOk Col Pt reC reS Step.whole OwnR.stepS RdR.stepS At.stepS m32 encQ encQ_length fits_m32 posI posOf fidx EW_ld Rd.sl RdR.sl Rd.turnX fits_32 fits_i zip_set zip_erase own_isOne isPr full posOf_some posOf_none manY WtOk SOk rP_cdb)
variable {K:Doer} {gd:Nat} {w w':World} {κ:Col} {S :Fp} {g:Nat} {acl rv lv tv:Value} {hs:List Sl} {FU:Fp} {A:List (List UInt8)} {bl:List (Value×List UInt8)}
theorem Rest.push {L:List Wt} {rd o:List UInt8} {u:K.U} {lv':Value} {a:Sl} {t:Wt} (h:Rest K w κ S g acl rv lv tv hs FU A bl L rd o u) (gg:Grow w w') (ho:OwnR EW w' w.heap.size tWt lv' ((L++[t]).zip (hs++[a]))) (hd:RdB w' (sl a) t.hv) (hn:NewV w (sl a))
 (hne:∀k,lv'.ownBlock=some k->(sl a).ownBlock≠some k):∃κ' S',Rest K w' κ' S' g acl rv lv' tv (hs++[a]) FU A bl (L++[t]) rd o u/\Step S w w' S':=by
 have h':=h.grow gg
 have hl:=h.hl
 obtain⟨κ',hκ⟩:∃κ':Col,κ'=λk=>if k < w.heap.size then κ k else if lv'.ownBlock=some k then 4 else 7:=⟨_,rfl⟩
 obtain⟨S',hS'⟩:∃S':Fp,S'=λk=> S k\/lv'.ownBlock=some k\/((sl a).ownBlock=some k/\k < w'.heap.size):=⟨_,rfl⟩
 have up:∀{d k:Nat},Pt S κ d k->Pt S' κ' d k:=λ{d k} hk=>by
  subst hκ hS'
  exact⟨.inl hk.1,by show(if k < w.heap.size then κ k else _)=d;rw[if_pos (h.lt k hk.1)];exact hk.2⟩
 have c4:∀k,lv'.ownBlock=some k->Pt S' κ' 4 k:=λk hk=>by
  subst hκ hS'
  have:=(ho.lt k hk).1
  exact⟨.inr (.inl hk),by show(if k < w.heap.size then κ k else if lv'.ownBlock=some k then 4 else 7)=4;rw[if_neg (by omega),if_pos hk]⟩
 have c7:t.hv≠[]->∀k,(sl a).ownBlock=some k->Pt S' κ' 7 k:=λhx k hk=>by
  subst hκ hS'
  have:=hn k hk
  exact⟨.inr (.inr ⟨hk,Rd.lt hd (by simpa using hx) k hk⟩),by show(if k < w.heap.size then κ k else if lv'.ownBlock=some k then 4 else 7)=7;rw[if_neg (by omega),if_neg (λe=>hne k e hk)]⟩
 have lt':InW w' S':=λk hk=>by
  subst hS'
  rcases hk with hk|hk|hk
  ·exact h'.lt k hk
  ·exact(ho.lt k hk).2
  ·exact hk.2
 refine⟨κ',S',⟨lt',up h.g,h'.ro,λhx k hk=>up (h.rc hx k hk),ho.mono (Nat.zero_le _),c4,h'.t,λk hk=>up (h.tc k hk),h'.u,λk hk=>up (h.uc k hk),by simp [hl],λi h1 h2=>?_,λi h1 h2 hx k hk=>?_,λq hq=>⟨(h'.bl q hq).1,λhx k hk=>up ((h.bl q hq).2 hx k hk)⟩,h'.ac,λk hk=>up (h.acc k hk)⟩,gg.os,gg.tape,gg.output,gg.size,λk hk _=>gg.block k hk,λk hk=>?_⟩
 ·by_cases hj:i < L.length
  ·rw[List.getElem_append_left hj,List.getElem_append_left (by omega)];exact h'.hv i hj (by omega)
  ·have ej:i=L.length:=by simp at h1;omega
   subst ej
   rw[List.getElem_append_right (by omega),List.getElem_append_right (by omega)]
   simpa[hl]using hd
 ·by_cases hj:i < L.length
  ·rw[List.getElem_append_left hj]at hx
   rw[List.getElem_append_left (by omega)]at hk
   exact up (h.hc i hj (by omega) hx k hk)
  ·have ej:i=L.length:=by simp at h1;omega
   subst ej
   rw[List.getElem_append_right (by omega)]at hx hk
   exact c7 (by simpa using hx) k (by simpa[hl]using hk)
 ·subst hS'
  rcases hk with hk|hk|hk
  ·exact .inl hk
  ·exact .inr (ho.lt k hk).1
  ·exact .inr (hn k hk.1)
theorem ownR_ne {α:Type} {E:Enc α} {w:World} {B g:Nat} {e e':TypeId} {v:Value} {L:List α} {cs:Array Value} (h:OwnR E w B e v L) (b:BK w g cs e') (hne:e≠e'):v.ownBlock≠some g:=by
 rcases h.2 with ⟨rfl,_⟩|⟨g',cap,cur,rfl,_,hg,_⟩
 ·intro e;cases e
 ·intro e
  have:g'=g:=by simpa[Value.ownBlock]using e
  subst this
  unfold BK at b
  rw[hg]at b
  injection b with b
  injection b with b1 b2
  exact hne b2
theorem SIn.push {x:St K.U} (h:SIn K gd w κ S g acl rv lv tv hs FU A bl x) {v dv:Value} {t:Wt} (gg:Grow w w') (o:OwnR EW w' w.heap.size tWt v (x.s.L.zip hs)) (d:OwnB w' w.heap.size tb dv t.hv) (hlen:x.s.L.length<=16) {J:World->Prop}
 (hj:∀w3 κ' S' lv' hs',SIn K gd w3 κ' S' g acl rv lv' tv hs' FU A bl ({x with s:={x.s with L:=x.s.L++[t]}}:St K.U)->Step S w w3 S'->J w3) {cs:Array Value} (hcs:∀a:Sl,dv=sl a->cs=(EW.flat [(t,a)]).toArray):
 oneK dv (bindW (World.alloc w' (.cells cs tWt)) λ_=>bindW (World.alloc w' (.cells cs tWt)) λw174=>
  ∃(v175:Value) (w176:World),((Sem.run Tryz.prog (Go.Builtin.append_ #[tWts,tWts] tWts #[v,(.slice (some ⟨w'.heap.size,0,none⟩) 1 1)]) w174)=(.ok v175 w176))/\
  withAddr (zA g) λa177=>oneK v175 ((St1 w176 (Addr.add a177 13))/\bindW (World.setCell w176 (Addr.add a177 13) v175) λ_=>bindW (World.setCell w176 (Addr.add a177 13) v175) λw179=>J w179)):=by
 obtain⟨a,rfl⟩:=sl_of d.rd
 have hcs:=hcs a rfl
 subst hcs
 have hl:=h.r.hl
 have hz:(x.s.L.zip hs).length=x.s.L.length:=by simp [hl]
 refine oneK_of rfl (nm λw173 e173=>nm λw174 e174=>?_)
 obtain rfl:w174=w173:=e174.trans e173.symm
 have g174:Grow w' w174:=by rw[e174];exact Grow.al (Grow.refl _) _
 have r174:RdR EW w174 (.slice (some ⟨w'.heap.size,0,none⟩) 1 1) [(t,a)]:=by rw[e174];exact(OwnR.lit w' (Nat.le_refl _) tWt [(t,a)] 1 rfl (by simp [maxLen])).rd
 have o174:=o.grow g174
 have z:=gg.size
 obtain⟨v175,w176,k176,o176,n176⟩:=app_ownR tyWt o174 r174 (by simp only[List.length_cons,List.length_nil];omega) (Nat.le_trans z g174.size)
 have st:Step (λq=>v.ownBlock=some q) w174 w176 (λq=>v.ownBlock=some q\/v175.ownBlock=some q):=Step.of_own n176 (λ_ hq=>hq)
 have g176:Grow w w176:=(gg.then g174).trans (n176.below (Nat.le_trans z g174.size) (λq hq=>(o174.lt q hq).1))
 have d174:=d.grow g174
 have hvd:∀q,(sl a).ownBlock=some q->v.ownBlock≠some q:=λq hq=>by
  rcases d174.2 with ⟨e,_⟩|⟨g',cap,cur,e,hb,hg,_⟩
  ·rw[e]at hq;cases hq
  ·have eq:g'=q:=by rw[e]at hq;simpa[Value.ownBlock]using hq
   subst eq
   exact ownR_ne o174 (show BK w174 g' cur tb from hg) (by decide)
 have d176:RdB w176 (sl a) t.hv:=d174.rd.stepS st (λ_ q hq=>hvd q hq)
 have hne:∀q,v175.ownBlock=some q->(sl a).ownBlock≠some q:=λq hq e=>by
  rcases n176.at_ with e'|e'
  ·exact hvd q e (e'▸hq)
  ·have h1:=e' q hq
   have h2:=(d174.blk q e)
   have h3:=d174.ltS q e
   omega
 have ezip:x.s.L.zip hs++[(t,a)]=(x.s.L++[t]).zip (hs++[a]):=by rw[List.zip_append hl.symm];rfl
 rw[ezip]at o176
 obtain⟨κ',S',r',st'⟩:=h.r.push g176 o176 d176 (λq hq=>d.blk q hq) hne
 have b176:=h.b.grow g176
 refine⟨v175,w176,k176,withAddr_some (oneK_of (own_isOne o176) ⟨st1_at b176 (by show 13 < 15;omega),nm λw178 e178=>nm λw179 e179=>?_⟩)⟩
 obtain rfl:w179=w178:=e179.trans e178.symm
 obtain⟨b179,t179⟩:=setE b176 e179
 exact hj w179 κ' S' v175 (hs++[a]) ⟨b179,r'.turn t179⟩ (st'.then (t179.step r'.g.1))
end Go.Proofs.YtdinpgnjnleioaaGreatDoor.Rs
end
section
namespace Go.Proofs.YtdinpgnjnleioaaGreatDoor.Rs
open CW RowKit Pdu
open Ses (St Ses Wt Cm Rp Doer Wire EW ET Sl sl sl_of rCm rRp RpAt RpOk Col Pt reC reS Step.whole OwnR.stepS RdR.stepS At.stepS m32 encQ encQ_length fits_m32 posI posOf fidx EW_ld Rd.sl RdR.sl Rd.turnX fits_32 fits_i zip_set zip_erase own_isOne isPr full posOf_some posOf_none manY WtOk SOk)
variable {W:Wire} {K:Doer} {gd:Nat} {w w':World} {κ:Col} {S :Fp} {g:Nat} {acl rv lv tv:Value} {hs:List Sl} {FU:Fp} {A:List (List UInt8)} {bl:List (Value×List UInt8)}
theorem cdb_rd {w0:World} {b:Nat} {p:Pd} {dv:Value} (h:BK w0 b (rP p dv) tP):RdB w0 (.slice (some (Addr.add ⟨b,0,none⟩ 10)) 16 16) p.cdb:=rd_mid h 10 16 (by simp) (by simp [maxLen])
theorem command_c (HW:WireD W) (HK:Direct K gd) {x:St K.U} {p:Pd} {dv:Value} {ds:List UInt8} (h:SAt K gd A w g S bl x) (hm:(dv,ds)∈bl) (hf:PdFits p) (hl:ds.length<=4096) (hs:SOk x.s) (ho:x.o.length<=900000000)
 (hok:(W.cmd p.cdb).2=0->∀c',(W.out (W.cmd p.cdb).1=0->full W (W.cmd p.cdb).1 []=some c'->K.Ok x.u x.s.p.nm c')/\(ds.length=W.out (W.cmd p.cdb).1->full W (W.cmd p.cdb).1 ds=some c'->K.Ok x.u x.s.p.nm c')) {R:KV}
 (k:∀w' S',Step S w w' S'->SAt K gd A w' g S' bl (Ses.command W K.step x p ds)->R (.tuple #[]) w'):Zs 118 #[zA g,vP p dv] w R:=by
 apply q66W
 have hS:∀q,w.heap.size<=q->¬ S q:=λq hq hs=>by have:=h.lt q hs;omega
 have hd:=h.byt hm
 refine nm λw0 e0=>?_
 obtain⟨b0',g0,s0⟩:=alE e0
 have b0:BK w0 w.heap.size (rP p dv) tP:=b0'
 obtain⟨hcd,hck,hcn⟩:=HW.cmd0 p.cdb
 unfold Ses.command at k
 refine HW.cmd (cdb_rd b0) (by rfl) λw2 c g2 c1=>?_
 generalize hQ:W.cmd p.cdb=Q at *
 refine⟨_,_,_,_,_,_,_,_,_,rfl,nm λw12 e12=>?_⟩
 obtain⟨bc12,g12,s12⟩:=alE e12
 refine⟨bc12.row rfl rfl,nm λw13 e13=>?_⟩
 obtain⟨bc13,t13⟩:=rowE bc12 e13 rfl
 have z0:w.heap.size < w0.heap.size:=b0.lt
 have z2:=g2.size
 have gB:Grow w w13:=Below.turn (g0.then (g2.then g12)) t13 (by omega)
 have bp:BK w13 w.heap.size (rP p dv) tP:=((b0.grow g2).grow g12).turn t13 (by omega)
 have bc:BK w13 w2.heap.size (rCm c nilV) tCm:=bc13
 have h13:=h.grow gB
 have hd13:=hd.grow gB
 have ol:=HW.outl Q.1
 clear e0 e12 e13
 have hk:∀w41 S',Step S w w41 S'->SAt K gd A w41 g S' bl (Ses.command W K.step x p ds)->R (.tuple #[]) w41:=λw41 S' st h'=>k w41 S' st (by unfold Ses.command at h';rw[hQ]at h';exact h')
 refine cond_intro (λeb=>?_) (λeb=>?_)
 ·have hne:Q.2≠0:=by simpa using eb
  rw[if_pos hne]at k
  refine nm λw14 e14=>?_
  have g14:=drE e14
  refine⟨_,(bp.grow g14).cell 4,nm λw16 e16=>?_⟩
  obtain rfl:w16=w14:=e16.trans e14.symm
  refine Rf.rWrong_c λw18 g18=>⟨_,_,_,_,_,rfl,⟨_,((bp.grow g14).grow g18).cell 4,rfl⟩,?_⟩
  have gA:=gB.then (g14.then g18)
  exact respond_c HW (n:=0) (r:=Ses.wrong Q.2) (h.grow gA) ⟨by show(0:Int)<=2;omega,by show(2:Int)<=255;omega⟩ rfl hf.tag hs.exp hs.sn (by omega) λw50 S' st h'=>⟨rfl,k w50 S' ((Step.of_grow gA).then st) h'⟩
 have hz:Q.2=0:=by simpa using eb
 obtain rfl:=c1 hz
 rw[if_neg (λh=>h hz)]at k
 have hok:=hok hz
 refine⟨_,_,_,_,_,_,_,_,bc.ld rfl,HW.out (c:=Q.1) rfl λw36 g36=>⟨_,rfl,?_⟩⟩
 have gC:=gB.then g36
 have bp36:=bp.grow g36
 have bc36:=bc.grow g36
 have h36:=h13.grow g36
 have hd36:=hd13.grow g36
 have hlen:=RdB.len hd36
 refine JoinP.unit (λw41=>∃S',Step S w w41 S'/\SAt K gd A w41 g S' bl (Ses.command W K.step x p ds)) (λj hj=>?_) (λw41 ⟨S',st,h'⟩=>hk w41 S' st h')
 have hj:∀w41 S',Step S w w41 S'->SAt K gd A w41 g S' bl (Ses.command W K.step x p ds)->j w41:=λw41 S' a b=>hj _ ⟨S',a,b⟩
 unfold Ses.command at hj
 rw[hQ]at hj
 simp only at hj
 rw[if_neg (λh=>h hz)]at hj
 clear k hk
 have bad:∀{wz:World},Grow w wz->BK wz w.heap.size (rP p dv) tP->(∀w41 S',Step S w w41 S'->SAt K gd A w41 g S' bl (Ses.respond W x p.tag (Ses.wrong 9216) 0)->j w41)->bindW (World.drew wz) λw53=>∃(n54:Int),((World.cell? w53 (Addr.add ⟨w.heap.size,0,none⟩ 4))=(some (.int .u32 n54)))/\bindW (World.drew wz) λw55=>
  Zs 48 #[(.int .i64 (5:Int)),(.int .i64 (9216:Int))] w55 λv56 w57=>∃(n58:Int) (n59:Int) (n60:Int) (v61:Value) (n62:Int),((v56:Value)=(.agg #[.int .i64 n58,.int .i64 n59,.int .i64 n60,v61,.int .i64 n62]))/\
  (∃(n63:Int),((World.cell? w57 (Addr.add ⟨w.heap.size,0,none⟩ 4))=(some (.int .u32 n63)))/\((.int .u32 n63):Value)=(.int .u32 n54))/\
  Zs 160 #[zA g,(.int .u32 n54),(.agg #[.int .i64 n58,.int .i64 n59,.int .i64 n60,v61,.int .i64 n62]),(.int .i64 (0:Int))] w57 λv64 w65=>((v64:Value)=(.tuple #[]))/\j w65:=by
  intro wz gz bz hz
  refine nm λw14 e14=>?_
  have g14:=drE e14
  refine⟨_,(bz.grow g14).cell 4,nm λw16 e16=>?_⟩
  obtain rfl:w16=w14:=e16.trans e14.symm
  refine Rf.rWrong_c λw18 g18=>⟨_,_,_,_,_,rfl,⟨_,((bz.grow g14).grow g18).cell 4,rfl⟩,?_⟩
  have gA:=gz.then (g14.then g18)
  exact respond_c HW (n:=0) (r:=Ses.wrong 9216) (h.grow gA) ⟨by decide,by decide⟩ rfl hf.tag hs.exp hs.sn (by omega) λw50 S' st h'=>⟨rfl,hz w50 S' ((Step.of_grow gA).then st) h'⟩
 refine cond_intro (λe0=>?_) (λe0=>?_)
 ·have e0:W.out Q.1=0:=by simp at e0;omega
  rw[if_pos e0]at hj
  refine⟨_,bp36.cell 4,_,_,_,_,_,_,_,_,bc36.ld rfl,?_⟩
  exact done_c HW HK h36 (Rd.nil _) (by simp) hcd hf.tag hs.exp hs.sn ho hs.md (λc' hc'=>(hok c').1 e0 hc') λw61 S' st h'=>⟨rfl,hj w61 S' ((Step.of_grow gC).then st) h'⟩
 have e0:W.out Q.1≠0:=by simp at e0;omega
 rw[if_neg e0]at hj
 refine JoinP.bool (λb ww=>ww=w36/\(b=true↔(ds≠[]/\x.s.p.im=false)\/W.out Q.1 < ds.length)) (λj1 hj1=>?_) ?_
 ·have h1:∀b,(b=true↔(ds≠[]/\x.s.p.im=false)\/W.out Q.1 < ds.length)->j1 b w36:=λb hb=>hj1 _ _ ⟨rfl,hb⟩
  obtain⟨acl,rv,lv,tv,hg⟩:=h36.cells
  have hpos:0 < ds.length↔ds≠[]:=List.length_pos_iff
  refine⟨_,bp36.cell 26,_,hlen,cond_intro (λq=>withAddr_some ⟨_,by rw[add_add];exact hg.cell 9,cond_intro (λq2=>h1 _ ?_) (λq2=>⟨_,bp36.cell 26,_,hlen,h1 _ ?_⟩)⟩) (λq=>⟨_,bp36.cell 26,_,hlen,h1 _ ?_⟩)⟩
  ·have q:0 < ds.length:=by have:=of_decide_eq_true q;omega
   simp only[Bool.not_eq_true']at q2
   exact⟨λ_=>.inl ⟨hpos.1 q,q2⟩,λ_=>rfl⟩
  ·simp only[Bool.not_eq_false']at q2
   simp only[decide_eq_true_eq,q2]
   constructor
   ·intro h;exact .inr (by omega)
   ·rintro(⟨_,h⟩|h)
    ·cases h
    ·omega
  ·have q:¬0 < ds.length:=by have:=of_decide_eq_false q;omega
   simp only[decide_eq_true_eq]
   constructor
   ·intro h;exact .inr (by omega)
   ·rintro(⟨h,_⟩|h)
    ·exact absurd (hpos.2 h) q
    ·omega
 rintro b63 w63 ⟨rfl,hb63⟩
 refine cond_intro (λq=>?_) (λq=>?_)
 ·rw[if_pos (hb63.1 q)]at hj
  exact bad gC bp36 hj
 have hb63':¬((ds≠[]/\x.s.p.im=false)\/W.out Q.1 < ds.length):=λhh=>by rw[hb63.2 hh]at q;cases q
 rw[if_neg hb63']at hj
 refine⟨_,bp36.cell 26,_,hlen,cond_intro (λq=>?_) (λq=>?_)⟩
 ·have q:ds.length=W.out Q.1:=by simp at q;omega
  rw[if_pos q]at hj
  refine⟨_,bp36.cell 4,_,_,_,_,_,_,_,_,bc36.ld rfl,_,bp36.cell 26,?_⟩
  exact done_c HW HK h36 hd36 (by omega) hcd hf.tag hs.exp hs.sn ho hs.md (λc' hc'=>(hok c').2 q hc') λw61 S' st h'=>⟨rfl,hj w61 S' ((Step.of_grow gC).then st) h'⟩
 have q:ds.length≠W.out Q.1:=by simp at q;omega
 have qlt:ds.length < W.out Q.1:=by
  have:¬W.out Q.1 < ds.length:=λhh=>hb63' (.inr hh)
  omega
 rw[if_neg q]at hj
 refine⟨_,bp36.cell 4,at_c h36 ⟨_,rfl,?_⟩⟩
 cases hp:posOf x.s.L p.tag with
 |some i=>
  obtain⟨hi,hpi⟩:=posOf_some hp
  rw[hpi]
  rw[if_pos (by rw[hp];rfl)]at hj
  exact cond_t (by simp) (bad gC bp36 hj)
 |none=>
  rw[posOf_none hp]
  rw[if_neg (by rw[hp];simp)]at hj
  refine cond_f rfl ?_
  obtain⟨κ,acl,rv,lv,tv,hs',FU,hi⟩:=h36
  have hl':=hi.r.hl
  have hz':(x.s.L.zip hs').length=x.s.L.length:=by simp [hl']
  have hsl:=hi.r.l.rd.len
  rw[hz']at hsl
  refine withAddr_some ⟨lv,hi.b.cell 13,_,hsl,cond_intro (λq6=>?_) (λq6=>?_)⟩
  ·have q6:16<=x.s.L.length:=by simp at q6;omega
   rw[if_pos q6]at hj
   refine⟨_,bp36.cell 4,?_⟩
   exact respond_c HW (n:=0) (r:=⟨8,0,0,[],0⟩) (dv:=nilV) hi.at ⟨by decide,by decide⟩ rfl hf.tag hs.exp hs.sn (by omega) λw50 S' st h'=>⟨rfl,hj w50 S' ((Step.of_grow gC).then st) h'⟩
  have q6:¬16<=x.s.L.length:=by simp at q6;omega
  rw[if_neg q6]at hj
  refine JoinP.unit (λw103=>∃κ' S' lv' hs2,SIn K gd w103 κ' S' g acl rv lv' tv hs2 FU A bl ({x with s:={x.s with L:=x.s.L++[⟨p.tag,Q.1,ds,W.out Q.1,0⟩]}}:St K.U)/\Step S w w103 S') (λj109 hj9=>?_) ?_
  ·refine nm λw110 e110=>?_
   have g110:=drE e110
   have hX:=hi.grow g110
   have bX:=bp36.grow g110
   have cX:=bc36.grow g110
   have dX:=hd36.grow g110
   have gX:=gC.then g110
   refine withAddr_some ⟨lv,hX.b.cell 13,_,bX.cell 4,_,_,_,_,_,_,_,_,cX.ld rfl,_,bX.cell 26,nm λw123 e123=>?_⟩
   obtain rfl:w123=w110:=e123.trans e110.symm
   clear e110 e123
   have k13:∀{wz:World},Grow w123 wz->wz.cell? (Addr.add ⟨g,0,none⟩ 13)=some lv:=λgz=>(hX.b.grow gz).cell 13
   have k4:∀{wz:World},Grow w123 wz->wz.cell? (Addr.add ⟨w.heap.size,0,none⟩ 4)=some (.int .u32 p.tag):=λgz=>(bX.grow gz).cell 4
   have k26:∀{wz:World},Grow w123 wz->wz.cell? (Addr.add ⟨w.heap.size,0,none⟩ 26)=some dv:=λgz=>(bX.grow gz).cell 26
   have k8:∀{wz:World},Grow w123 wz->ldCells wz ⟨w2.heap.size,0,none⟩ 8 (rCm Q.1 nilV):=λgz=>(cX.grow gz).ld rfl
   have aL:∀{wz wy:World},Grow w123 wz->wy=World.alloc wz (.cells #[] tWt)->Grow w123 wy/\OwnR EW wy w123.heap.size tWt (.slice (some ⟨wz.heap.size,0,none⟩) 0 0) ([]:List (Wt×Sl))/\Grow wz wy:=λ{wz wy} gz e=>by
    obtain⟨_,gy,_⟩:=alE e
    exact⟨gz.then gy,by rw[e];exact OwnR.lit wz gz.size tWt [] 0 rfl (by simp [maxLen]),gy⟩
   have aD:∀{wz wy:World},Grow w123 wz->wy=World.alloc wz (.cells #[] tb)->Grow w123 wy/\OwnB wy w123.heap.size tb (.slice (some ⟨wz.heap.size,0,none⟩) 0 0) []/\Grow wz wy:=λ{wz wy} gz e=>by
    obtain⟨_,gy,_⟩:=alE e
    exact⟨gz.then gy,by rw[e];exact Own.lit wz gz.size tb #[] 0 rfl (by simp [maxLen]),gy⟩
   have cL:∀{wz:World} {v:Value},Grow w123 wz->OwnR EW wz w123.heap.size tWt v ([]:List (Wt×Sl))->∃v' w',Sem.run Tryz.prog (Builtin.append_ #[tWts,tWts] tWts #[v,lv]) wz= .ok v' w'/\OwnR EW w' w123.heap.size tWt v' (x.s.L.zip hs')/\OwnNext wz v w' v'/\Grow w123 w':=λ{wz v} gz o=>by
    obtain⟨v',w',k',o',n'⟩:=app_ownR tyWt o (hX.r.l.rd.grow gz) (by simp only[List.length_nil];omega) gz.size
    rw[List.nil_append]at o'
    exact⟨v',w',k',o',n',gz.trans (n'.below gz.size (λq hq=>(o.lt q hq).1))⟩
   have cD:∀{wz:World} {v:Value},Grow w123 wz->OwnB wz w123.heap.size tb v []->∃v' w',Sem.run Tryz.prog (Builtin.append_ #[tB,tB] tB #[v,dv]) wz= .ok v' w'/\OwnB w' w123.heap.size tb v' ds/\OwnNext wz v w' v'/\Grow w123 w':=λ{wz v} gz o=>by
    obtain⟨v',w',k',o',n'⟩:=app_bytes o (dX.grow gz) gz.size (by simp;omega)
    rw[List.nil_append]at o'
    exact⟨v',w',k',o',n',gz.trans (n'.below gz.size o.blk)⟩
   have sD:∀{wz wy:World} {v v' d:Value} {l:List (Wt×Sl)} {xs:List UInt8},OwnR EW wz w123.heap.size tWt v l->OwnNext wz v wy v'->OwnB wz w123.heap.size tb d xs->OwnB wy w123.heap.size tb d xs:=λ{wz wy v v' d l xs} o n od=>by
    refine od.stepS (Step.of_own n (S :=λq=>v.ownBlock=some q) (λ_ h=>h)) (λq hq hv=>?_)
    rcases od.2 with ⟨e,_⟩|⟨g',cap,cur,e,hb,hg,_⟩
    ·rw[e]at hq;cases hq
    ·have eq:g'=q:=by rw[e]at hq;simpa[Value.ownBlock]using hq
     subst eq
     exact ownR_ne o (show BK wz g' cur tb from hg) (by decide) hv
   have sL:∀{wz wy:World} {v d d':Value} {l:List (Wt×Sl)} {xs:List UInt8},OwnB wz w123.heap.size tb d xs->OwnNext wz d wy d'->OwnR EW wz w123.heap.size tWt v l->OwnR EW wy w123.heap.size tWt v l:=λ{wz wy v d d' l xs} od n o=>by
    refine OwnR.stepS o (Step.of_own n (S :=λq=>d.ownBlock=some q) (λ_ h=>h)) (λq hq hv=>?_)
    rcases od.2 with ⟨e,_⟩|⟨g',cap,cur,e,hb,hg,_⟩
    ·rw[e]at hv;cases hv
    ·have eq:g'=q:=by rw[e]at hv;simpa[Value.ownBlock]using hv
     subst eq
     exact ownR_ne o (show BK wz g' cur tb from hg) (by decide) hq
   have end_:∀w3 κ' S' lv' hs2,SIn K gd w3 κ' S' g acl rv lv' tv hs2 FU A bl ({x with s:={x.s with L:=x.s.L++[⟨p.tag,Q.1,ds,W.out Q.1,0⟩]}}:St K.U)->Step S w123 w3 S'->j109 w3:=λw3 κ' S' lv' hs2 h3 st=>hj9 w3 ⟨κ',S',lv',hs2,h3,(Step.of_grow gX).then st⟩
   constructor
   ·obtain⟨g0, -, -⟩:=aL (Grow.refl w123) (rfl:World.alloc w123 (.cells #[] tWt)=_)
    refine⟨⟨_,k13 g0,rfl⟩,⟨_,k4 g0,rfl⟩,⟨_,_,_,_,_,_,_,_,k8 g0,rfl⟩,⟨_,k26 g0,rfl⟩,nm λw135 e135=>nm λw136 e136=>?_⟩
    clear g0
    obtain⟨g136,o136, -⟩:=aL (Grow.refl w123) e136
    constructor
    ·obtain⟨v137,w138,k138,o138,n138,g138⟩:=cL g136 o136
     obtain⟨g0, -, -⟩:=aD g138 (rfl:World.alloc w138 (.cells #[] tb)=_)
     refine⟨v137,w138,k138,⟨_,k4 g138,rfl⟩,⟨_,_,_,_,_,_,_,_,k8 g138,rfl⟩,⟨_,k26 g138,rfl⟩,⟨_,k13 g0,rfl⟩,⟨_,k4 g0,rfl⟩,⟨_,_,_,_,_,_,_,_,k8 g0,rfl⟩,⟨_,k26 g0,rfl⟩,nm λw160 e160=>nm λw161 e161=>?_⟩
     clear g0
     obtain⟨g161,o161,g161'⟩:=aD g138 e161
     obtain⟨v162,w163,k163,o163,n163,g163⟩:=cD g161 o161
     refine⟨v162,w163,k163,⟨_,k4 g163,rfl⟩,⟨_,_,_,_,_,_,_,_,k8 g163,rfl⟩,?_⟩
     exact hX.push (t:=⟨p.tag,Q.1,ds,W.out Q.1,0⟩) g163 (sL o161 n163 (o138.grow g161')) o163 hs.len end_ (λa e=>by subst e;rfl)
    ·obtain⟨g0, -, -⟩:=aD g136 (rfl:World.alloc w136 (.cells #[] tb)=_)
     refine⟨⟨_,k13 g0,rfl⟩,⟨_,k4 g0,rfl⟩,⟨_,_,_,_,_,_,_,_,k8 g0,rfl⟩,⟨_,k26 g0,rfl⟩,nm λw191 e191=>nm λw192 e192=>?_⟩
     clear g0
     obtain⟨g192,o192,g192'⟩:=aD g136 e192
     obtain⟨v193,w194,k194,o194,n194,g194⟩:=cL g192 (o136.grow g192')
     have d194:=sD (o136.grow g192') n194 o192
     obtain⟨v205,w206,k206,o206,n206,g206⟩:=cD g194 d194
     refine⟨v193,w194,k194,⟨_,k4 g194,rfl⟩,⟨_,_,_,_,_,_,_,_,k8 g194,rfl⟩,⟨_,k26 g194,rfl⟩,v205,w206,k206,⟨_,k4 g206,rfl⟩,⟨_,_,_,_,_,_,_,_,k8 g206,rfl⟩,?_⟩
     exact hX.push (t:=⟨p.tag,Q.1,ds,W.out Q.1,0⟩) g206 (sL d194 n206 o194) o206 hs.len end_ (λa e=>by subst e;rfl)
   ·obtain⟨g0, -, -⟩:=aD (Grow.refl w123) (rfl:World.alloc w123 (.cells #[] tb)=_)
    refine⟨⟨_,k13 g0,rfl⟩,⟨_,k4 g0,rfl⟩,⟨_,_,_,_,_,_,_,_,k8 g0,rfl⟩,⟨_,k26 g0,rfl⟩,nm λw234 e234=>nm λw235 e235=>?_⟩
    clear g0
    obtain⟨g235,o235, -⟩:=aD (Grow.refl w123) e235
    obtain⟨g0, -, -⟩:=aL g235 (rfl:World.alloc w235 (.cells #[] tWt)=_)
    refine⟨⟨_,k13 g0,rfl⟩,⟨_,k4 g0,rfl⟩,⟨_,_,_,_,_,_,_,_,k8 g0,rfl⟩,⟨_,k26 g0,rfl⟩,nm λw247 e247=>nm λw248 e248=>?_⟩
    clear g0
    obtain⟨g248,o248,g248'⟩:=aL g235 e248
    obtain⟨v249,w250,k250,o250,n250,g250⟩:=cL g248 o248
    have d250:=sD o248 n250 (o235.grow g248')
    obtain⟨v261,w262,k262,o262,n262,g262⟩:=cD g250 d250
    refine⟨v249,w250,k250,⟨_,k4 g250,rfl⟩,⟨_,_,_,_,_,_,_,_,k8 g250,rfl⟩,⟨_,k26 g250,rfl⟩,v261,w262,k262,⟨_,k4 g262,rfl⟩,⟨_,_,_,_,_,_,_,_,k8 g262,rfl⟩,?_⟩
    exact hX.push (t:=⟨p.tag,Q.1,ds,W.out Q.1,0⟩) g262 (sL d250 n262 o250) o262 hs.len end_ (λa e=>by subst e;rfl)
  rintro w103 ⟨κ',S',lv',hs2,h3,st3⟩
  have hl2:=h3.r.hl
  have hl2:hs2.length=x.s.L.length+1:=by rw[hl2];simp
  have hsl2:=h3.r.l.rd.len
  have hzl:((x.s.L++[(⟨p.tag,Q.1,ds,W.out Q.1,0⟩:Wt)]).zip hs2).length=x.s.L.length+1:=by simp [hl2]
  rw[show(({x with s:={x.s with L:=x.s.L++[⟨p.tag,Q.1,ds,W.out Q.1,0⟩]}}:St K.U).s.L.zip hs2).length=x.s.L.length+1 from hzl]at hsl2
  refine withAddr_some ⟨lv',h3.b.cell 13,_,hsl2,?_⟩
  have e:IntKind.wrap .i64 (((x.s.L.length+1:Nat):Int) - 1)=(x.s.L.length:Int):=by rw[wi64_id (by omega) (by omega)];omega
  rw[e]
  have eL:(({x with s:={x.s with L:=x.s.L++[⟨p.tag,Q.1,ds,W.out Q.1,0⟩]}}:St K.U).s.L[x.s.L.length]'(by simp))=⟨p.tag,Q.1,ds,W.out Q.1,0⟩:=by simp
  refine ready_c h3 (i:=x.s.L.length) (by simp) (by rw[eL];exact hf.tag) (by rw[eL];exact ol) (by rw[eL];exact Nat.le_of_lt qlt) hs.bu hs.exp hs.sn (by show x.o.length<=_;omega) λw135 S2 st' h'=>⟨rfl,?_⟩
  rw[eL]at h'
  exact hj w135 S2 (st3.then st') h'
end Go.Proofs.YtdinpgnjnleioaaGreatDoor.Rs
end
section
namespace Go.Proofs.YtdinpgnjnleioaaGreatDoor.Rs
open CW RowKit Pdu
open Ses (St Ses Wt Cm Rp Doer Wire EW ET Sl sl sl_of rCm rRp RpAt RpOk Col Pt reC reS Step.whole OwnR.stepS RdR.stepS At.stepS m32 encQ encQ_length fits_m32 posI posOf fidx EW_ld Rd.sl RdR.sl Rd.turnX fits_32 fits_i zip_set zip_erase own_isOne isPr full posOf_some posOf_none manY WtOk SOk TkOk setW dropW)
variable {W:Wire} {K:Doer} {gd:Nat} {w w':World} {κ:Col} {S :Fp} {g:Nat} {acl rv lv tv:Value} {hs:List Sl} {FU:Fp} {A:List (List UInt8)} {bl:List (Value×List UInt8)}
theorem SIn.have {x:St K.U} {v:Value} {bs:List UInt8} (h:SIn K gd w κ S g acl rv lv tv hs FU A bl x) (hw:Grow w w') (hr:RdB w' v bs) (hn:NewV w v):
 ∃κ' S',SIn K gd w' κ' S' g acl rv lv tv hs FU A ((v,bs)::bl) x/\Step S w w' S':=
 ⟨_,_,⟨h.b.grow hw,h.r.more hw hr hn rfl⟩,hw.os,hw.tape,hw.output,hw.size,λk hk _=>hw.block k hk,λk hk=>hk.elim .inl (λq=>.inr (hn k q.1))⟩
theorem data_c (HW:WireD W) (HK:Direct K gd) {x:St K.U} {p:Pd} {dv:Value} {ds:List UInt8} (h:SAt K gd A w g S bl x) (hm:(dv,ds)∈bl) (hf:PdFits p) (hk:okP p=true) (hl:ds.length<=4096) (hs:SOk x.s) (ho:x.o.length<=900000000)
 (hok:∀i v,posOf x.s.L p.tag=some i->x.s.L[i]? =some v->∀c',full W v.c (v.hv++ds)=some c'->K.Ok x.u x.s.p.nm c') {R:KV}
 (k:∀w' S',Step S w w' S'->SAt K gd A w' g S' bl (Ses.dataS W K.step x p ds)->R (.tuple #[]) w'):Zs 119 #[zA g,vP p dv] w R:=by
 apply q67W
 have hS:∀q,w.heap.size<=q->¬ S q:=λq hq hs=>by have:=h.lt q hs;omega
 have hd:=h.byt hm
 refine nm λw0 e0=>?_
 obtain⟨b0',g0,s0⟩:=alE e0
 have b0:BK w0 w.heap.size (rP p dv) tP:=b0'
 refine⟨_,b0.cell 4,at_c (h.grow g0) ⟨_,rfl,?_⟩⟩
 unfold Ses.dataS at k
 refine JoinP.bool (λb ww=>Grow w ww/\BK ww w.heap.size (rP p dv) tP/\(b=true->Ses.dataS W K.step x p ds=Ses.reject x p ds)/\(b=false->∃i v,posOf x.s.L p.tag=some i/\x.s.L[i]? =some v/\p.off=(v.hv.length:Int)/\ds.length<=v.want)) (λj hj=>?_) ?_
 ·refine nm λw104 e104=>?_
  have g104:=drE e104
  have gA:=g0.then g104
  have bA:=b0.grow g104
  have hA:=h.grow gA
  cases hp:posOf x.s.L p.tag with
  |none=>
   rw[posOf_none hp]
   refine cond_t rfl (nm λw105 e105=>?_)
   obtain rfl:w105=w104:=e105.trans e104.symm
   exact hj _ _ ⟨gA,bA,λ_=>by unfold Ses.dataS;rw[hp],λe=>by cases e⟩
  |some i=>
   obtain⟨hi,hpi⟩:=posOf_some hp
   rw[hpi]
   obtain⟨κ,acl,rv,lv,tv,hs',FU,hn⟩:=hA
   obtain⟨a,hi',ha,hpt,hc,_⟩:=hn.elem hi
   have hv:=hn.r.hv i hi hi'
   have hvo:=hs.L _ (List.getElem_mem hi)
   have hhv:=hvo.hv
   have hou:=hvo.out
   have hoff:=hf.off.u32
   have eL:x.s.L[i]? =some x.s.L[i]:=List.getElem?_eq_getElem hi
   have hgo:∀b,(b=true↔(p.off≠((x.s.L[i]).hv.length:Int)\/(x.s.L[i]).want < ds.length))->j b w104:=by
    intro b hb
    refine hj _ _ ⟨gA,bA,λe=>?_,λe=>⟨i,_,hp,eL,?_,?_⟩⟩
    ·unfold Ses.dataS;rw[hp];simp only[eL];rw[if_pos (hb.1 e)]
    ·apply Decidable.byContradiction
     intro hh
     rw[hb.2 (.inl hh)]at e;cases e
    ·apply Decidable.byContradiction
     intro hh
     rw[hb.2 (.inr (by omega))]at e;cases e
   refine cond_f (by simp) ⟨_,bA.cell 8,withAddr_some ⟨lv,hn.b.cell 13,a,ha,_,hc 9 (by omega),_,RdB.len hv,?_⟩⟩
   rw[wi64_id (n:=p.off) (by omega) (by omega)]
   refine cond_intro (λq=>nm λw112 e112=>?_) (λq=>⟨_,bA.cell 26,_,RdB.len (hd.grow gA),withAddr_some ⟨lv,hn.b.cell 13,a,ha,_,hc 11 (by omega),nm λw119 e119=>?_⟩⟩)
   ·obtain rfl:w112=w104:=e112.trans e104.symm
    have q:p.off≠((x.s.L[i]).hv.length:Int):=by simpa using q
    exact hgo _ ⟨λ_=>.inl q,λ_=>rfl⟩
   ·obtain rfl:w119=w104:=e119.trans e104.symm
    have q:p.off=((x.s.L[i]).hv.length:Int):=by simpa using q
    refine hgo _ ?_
    simp only[decide_eq_true_eq]
    constructor
    ·intro hh;exact .inr (by omega)
    ·rintro(hh|hh)
     ·exact absurd q hh
     ·omega
 rintro b6 w6 ⟨g6,b6',c1,c2⟩
 have h6:=h.grow g6
 refine cond_intro (λe=>?_) (λe=>?_)
 ·have k':∀w' S',Step S w w' S'->SAt K gd A w' g S' bl (Ses.reject x p ds)->R (.tuple #[]) w':=λw' S' st h'=>by
   rw[←c1 e]at h'
   exact k w' S' st (by unfold Ses.dataS at h';exact h')
  exact⟨_,_,_,_,_,_,_,_,_,_,_,_,_,_,_,_,_,_,_,_,_,_,_,_,_,_,_,b6'.ld rfl,reject_c h6 hf hk hl (hd.grow g6) hs.exp hs.sn (by omega) λw35 S' st h'=>⟨rfl,k' w35 S' ((Step.of_grow g6).then st) h'⟩⟩
 obtain⟨i,v,hp,hv?,hoff,hwant⟩:=c2 e
 obtain⟨hi,hpi⟩:=posOf_some hp
 have hv:x.s.L[i]=v:=by rw[List.getElem?_eq_getElem hi]at hv?;exact Option.some.inj hv?
 have hok':=hok i v hp hv?
 have hvo:=hs.L _ (List.getElem_mem hi)
 rw[hv]at hvo
 rw[hp]at k
 simp only[hv?]at k
 rw[if_neg (by rintro(q|q);exact q hoff;omega)]at k
 rw[hpi]
 obtain⟨κ,acl,rv,lv,tv,hs',FU,hn⟩:=h6
 obtain⟨a,hi',ha,hpt,hc,_⟩:=hn.elem hi
 refine withAddr_some ⟨lv,hn.b.cell 13,a,ha,nm λw39 e39=>?_⟩
 have g39:=drE e39
 have h39:=hn.grow g39
 have b39:=b6'.grow g39
 obtain⟨a2,_,ha2,_,hc2,_⟩:=h39.elem hi
 obtain rfl:a2=a:=by rw[ha]at ha2;exact(Option.some.inj ha2).symm
 refine⟨_,hc2 9 (by omega),_,b39.cell 26,nm λw42 e42=>?_⟩
 obtain rfl:w42=w39:=e42.trans e39.symm
 have rh:=h39.r.hv i hi hi'
 rw[hv]at rh
 have hd39:=hd.grow (g6.then g39)
 have hou:=hvo.out
 have hhv:=hvo.hv
 obtain⟨_,gy,_⟩:=alE (w:=w42) (cs:= #[]) (t:=tb) rfl
 obtain⟨_,_,_,_,hcy,_⟩:=(h39.grow gy).elem hi
 have hay:∀{wz:World},Grow w42 wz->wz.cell? (Addr.add a2 9)=some (sl hs'[i]):=λ{wz} gz=>by
  obtain⟨a7,_,ha7,_,hc7,_⟩:=(h39.grow gz).elem hi
  obtain rfl:a7=a2:=by rw[ha]at ha7;exact(Option.some.inj ha7).symm
  exact hc7 9 (by omega)
 refine⟨⟨_,hay gy,rfl⟩,⟨_,(b39.grow gy).cell 26,rfl⟩,nm λw45 e45=>nm λw46 e46=>?_⟩
 obtain rfl:w46=w45:=e46.trans e45.symm
 clear gy hcy
 obtain⟨_,g46,_⟩:=alE e46
 have o46:OwnB w46 w42.heap.size tb (.slice (some ⟨w42.heap.size,0,none⟩) 0 0) []:=by rw[e46];exact Own.lit w42 (Nat.le_refl _) tb #[] 0 rfl (by simp [maxLen])
 obtain⟨v47,w48,k48,o48,n48⟩:=app_bytes o46 (rh.grow g46) g46.size (by simp;omega)
 rw[List.nil_append]at o48
 have g48:Grow w42 w48:=g46.trans (n48.below g46.size o46.blk)
 obtain⟨v50,w51,k51,o51,n51⟩:=app_bytes o48 (hd39.grow g48) g48.size (by omega)
 have g51:Grow w42 w51:=g48.trans (n51.below g48.size o48.blk)
 refine⟨v47,w48,k48,⟨_,(b39.grow g48).cell 26,rfl⟩,v50,w51,k51,oneK_of (Rd.isOne o51.rd) ?_⟩
 obtain⟨a46,rfl⟩:=sl_of o51.rd
 obtain⟨κ2,S2,h47,st47⟩:=h39.have (bs:=v.hv++ds) g51 o51.rd (λq hq=>o51.blk q hq)
 have b47:=b39.grow g51
 obtain⟨a3,hi3,ha3,hp3,hc3,hst3⟩:=h47.elem hi
 obtain rfl:a3=a2:=by rw[ha]at ha3;exact(Option.some.inj ha3).symm
 have hnS:∀{S3:Fp},(∀q,S3 q-> S q\/w.heap.size < q)->¬S3 w.heap.size:=λhh hq=>by
  rcases hh _ hq with q|q
  ·exact hS _ (Nat.le_refl _) q
  ·omega
 have hS2:∀q,S2 q-> S q\/w.heap.size < q:=λq hq=>(st47.fp q hq).imp id (λz=>by have:=(g6.then g39).size;have:=b6'.lt;have:=g39.size;omega)
 have hne4:a3.block≠w.heap.size:=λe=>hnS hS2 (e▸hp3.1)
 refine⟨(hst3 9 (by omega)).1,nm λw52 e52=>nm λw53 e53=>?_⟩
 obtain rfl:w53=w52:=e53.trans e52.symm
 have hso:=(hst3 9 (by omega)).2 (sl a46) {x.s.L[i]with hv:=v.hv++ds} a46 rfl
 rw[←e52]at hso
 obtain⟨κ3,S3,h48,st48,hS3⟩:=h47.putE (by rw[add_block];exact hp3) e52 hso (by simp [h39.r.hl]) (λj h1 h2=>by
  by_cases hij:i=j
  ·subst hij;right;simp
  ·left
   exact⟨j,by simpa using h1,by simpa using h2,by rw[List.getElem_set_ne hij],by rw[List.getElem_set_ne hij]⟩)
 have t48:Turn a3.block w51 w53:=by rw[e52];have:=Turn.set w51 (a3.add 9) (sl a46);rw[add_block]at this;exact this
 have b48:=b47.turn t48 (λe=>hne4 e.symm)
 refine nm λw54 e54=>?_
 have g54:=drE e54
 have h54:=h48.grow g54
 have b54:=b48.grow g54
 obtain⟨a4,hi4,ha4,hp4,hc4,_⟩:=h54.elem (i:=i) (by simpa using hi)
 obtain rfl:a4=a3:=by rw[ha]at ha4;exact(Option.some.inj ha4).symm
 have eL1:(({x with s:={x.s with L:=x.s.L.set i {x.s.L[i]with hv:=v.hv++ds}}}:St K.U).s.L[i]'(by simpa using hi))={v with hv:=v.hv++ds}:=by simp [hv]
 rw[eL1]at hc4
 have hdl:RdB w54 dv ds:=(h54.r.bl _ (List.mem_cons_of_mem _ hm)).1
 refine⟨_,hc4 11 (by omega),_,b54.cell 26,_,RdB.len hdl,nm λw58 e58=>?_⟩
 obtain rfl:w58=w54:=e58.trans e54.symm
 have ew:IntKind.wrap .i64 ((({v with hv:=v.hv++ds}:Wt).want:Int) - (ds.length:Int))=((v.want - ds.length:Nat):Int):=by
  show IntKind.wrap .i64 ((v.want:Int) - (ds.length:Int))=_
  rw[wi64_id (by omega) (by omega)];omega
 rw[ew]
 refine⟨(h54.want (i:=i) (by simpa using hi) ha (n:=v.want - ds.length) rfl).1,nm λw59 e59=>nm λw60 e60=>?_⟩
 obtain rfl:w60=w59:=e60.trans e59.symm
 obtain⟨_,κ5,S5,h56',st56⟩:=h54.want (i:=i) (by simpa using hi) ha e59
 have t56:Turn a4.block w58 w60:=by rw[e59];have:=Turn.set w58 (a4.add 11) (.int .i64 ((v.want - ds.length:Nat):Int));rw[add_block]at this;exact this
 have b56:=b54.turn t56 (λe=>hne4 e.symm)
 generalize hY:({v with hv:=v.hv++ds,want:=v.want - ds.length}:Wt)=Y at *
 have y1:Y.hv=v.hv++ds/\Y.want=v.want - ds.length/\Y.out=v.out/\Y.tag=v.tag/\Y.c=v.c:=by subst hY;exact⟨rfl,rfl,rfl,rfl,rfl⟩
 obtain⟨yh,yw,yo,yt,yc⟩:=y1
 have h56:SIn K gd w60 κ5 S5 g acl rv lv tv (hs'.set i a46) FU A ((sl a46,v.hv++ds)::bl) (setW x i Y):=by
  rw[eL1]at h56'
  have eX:({({x with s:={x.s with L:=x.s.L.set i {x.s.L[i]with hv:=v.hv++ds}}}:St K.U)with s:={({x with s:={x.s with L:=x.s.L.set i {x.s.L[i]with hv:=v.hv++ds}}}:St K.U).s with L:=(({x with s:={x.s with L:=x.s.L.set i {x.s.L[i]with hv:=v.hv++ds}}}:St K.U).s.L).set i {({v with hv:=v.hv++ds}:Wt)with want:=v.want - ds.length}}}:St K.U)=setW x i Y:=by rw[←hY];simp [setW,List.set_set]
  rw[eX]at h56'
  exact h56'
 clear h56'
 have hiY:i < (setW x i Y).s.L.length:=by simpa[setW]using hi
 have eLY:(setW x i Y).s.L[i]=Y:=by simp [setW]
 have stA:Step S w w60 S5:=((((Step.of_grow (g6.then g39)).then st47).then st48).then (Step.of_grow g54)).then st56
 obtain⟨a5,hi5,ha5,hp5,hc5,_⟩:=h56.elem hiY
 obtain rfl:a5=a4:=by rw[ha]at ha5;exact(Option.some.inj ha5).symm
 rw[eLY]at hc5
 have rY:=h56.r.hv i hiY hi5
 rw[eLY]at rY
 have lessbl:∀q∈bl,q∈((sl a46,v.hv++ds)::bl):=λq hq=>List.mem_cons_of_mem _ hq
 have hj:∀w57 S',Step S w w57 S'->SAt K gd A w57 g S' bl (if p.fin=false/\0 < v.want - ds.length then setW x i Y else if(v.hv++ds).length < v.out then Ses.ready x i Y else Ses.done W K.step (dropW x i) v.tag v.c (v.hv++ds))->R (.tuple #[]) w57:=λw57 S' st h'=>k w57 S' st h'
 clear k
 refine JoinP.bool (λb ww=>ww=w60/\(b=true↔p.fin=false/\0 < v.want - ds.length)) (λj1 hj1=>?_) ?_
 ·refine⟨_,b56.cell 1,cond_intro (λq=>⟨_,hc5 11 (by omega),hj1 _ _ ⟨rfl,?_⟩⟩) (λq=>hj1 _ _ ⟨rfl,?_⟩)⟩
  ·simp only[Bool.not_eq_true']at q
   simp only[decide_eq_true_eq,q,yw]
   constructor
   ·intro hh;exact⟨trivial,by omega⟩
   ·rintro⟨_,hh⟩;omega
  ·simp only[Bool.not_eq_false']at q
   simp [q]
 rintro b60 w62 ⟨rfl,hb60⟩
 refine cond_intro (λq=>?_) (λq=>?_)
 ·refine hj w62 S5 stA ?_
  rw[if_pos (hb60.1 q)]
  exact h56.at.less lessbl
 rw[if_neg (λhh=>by rw[hb60.2 hh]at q;cases q)]at hj
 refine nm λw61 e61=>?_
 have g61:=drE e61
 have h61:=h56.grow g61
 have b61:=b56.grow g61
 obtain⟨a6,hi6,ha6,hp6,hc6,_⟩:=h61.elem hiY
 obtain rfl:a6=a5:=by rw[ha]at ha6;exact(Option.some.inj ha6).symm
 rw[eLY]at hc6
 have r61:=rY.grow g61
 refine⟨_,hc6 9 (by omega),_,RdB.len r61,_,hc6 10 (by omega),nm λw65 e65=>?_⟩
 obtain rfl:w65=w61:=e65.trans e61.symm
 rw[yh,yo]
 refine cond_intro (λq2=>?_) (λq2=>?_)
 ·have q2:(v.hv++ds).length < v.out:=by simp only[decide_eq_true_eq]at q2;omega
  rw[if_pos q2]at hj
  have er:Ses.ready (setW x i Y) i Y=Ses.ready x i Y:=by simp [Ses.ready,setW,List.set_set]
  refine ready_c h61 hiY (by rw[eLY,yt];exact hvo.tag) (by rw[eLY,yo];exact hvo.out) (by rw[eLY,yo,yh];omega) hs.bu hs.exp hs.sn (by show x.o.length<=_;omega) λw67 S' st h'=>⟨rfl,?_⟩
  rw[eLY,er]at h'
  exact hj w67 S' ((stA.then (Step.of_grow g61)).then st) (h'.less lessbl)
 ·have q2:¬(v.hv++ds).length < v.out:=by simp only[decide_eq_false_iff_not]at q2;omega
  rw[if_neg q2]at hj
  refine⟨_,_,_,_,_,_,_,_,_,_,_,_,EW_ld hc6,nm λw80 e80=>?_⟩
  obtain⟨b80,g80,s80⟩:=alE e80
  refine⟨b80.row rfl rfl,nm λw81 e81=>?_⟩
  obtain⟨b81,t81⟩:=rowE b80 e81 rfl
  have g81:Grow w65 w81:=Below.turn g80 t81 (Nat.le_refl _)
  have h81:=h61.grow g81
  refine drop_c h81.at hiY (by show(x.s.L.set i Y).length<=1000;rw[List.length_set];have:=hs.len;omega) λw87 S' st h'=>⟨rfl,?_⟩
  have nb:¬S5 w65.heap.size:=λhq=>by have:=h61.r.lt _ hq;omega
  have b87:=b81.stepS st nb
  have hl8:ldCells w87 (Addr.add ⟨w65.heap.size,0,none⟩ 1) 8 (rCm Y.c nilV):=⟨rfl,λn hn=>by
   rw[add_add,b87.cell]
   have:n=0\/n=1\/n=2\/n=3\/n=4\/n=5\/n=6\/n=7:=by omega
   rcases this with rfl|rfl|rfl|rfl|rfl|rfl|rfl|rfl<;>rfl⟩
  refine⟨_,b87.cell 0,_,_,_,_,_,_,_,_,hl8,_,b87.cell 9,?_⟩
  have e9:(hs'.set i a46)[i]'hi6=a46:=by simp
  have ed:dropW (setW x i Y) i=dropW x i:=by simp [dropW,setW,List.eraseIdx_set_eq]
  rw[ed]at h'
  have hm9:(sl a46,v.hv++ds)∈((sl a46,v.hv++ds)::bl):=List.mem_cons_self ..
  have r87:=h'.byt hm9
  show Zs _ #[_,.int .u32 Y.tag,.agg (rCm Y.c nilV),sl ((hs'.set i a46)[i]'hi6)] _ _
  rw[e9,yt,yc]
  refine done_c HW HK h' r87 (by simp only[List.length_append];omega) hvo.d hvo.tag hs.exp hs.sn ho hs.md (λc' hc'=>hok' c' hc') λw99 S'' st'' h''=>⟨rfl,?_⟩
  exact hj w99 S'' (((stA.then (Step.of_grow (g61.then g81))).then st).then st'') (h''.less lessbl)
theorem take_c (HW:WireD W) (HK:Direct K gd) {x:St K.U} {p:Pd} {dv:Value} {ds:List UInt8} (h:SAt K gd A w g S bl x) (hm:(dv,ds)∈bl) (hf:PdFits p) (hk:okP p=true) (hl:ds.length<=4096) (hs:SOk x.s) (ho:x.o.length<=900000000)
 (hok:TkOk W K x p ds) {R:KV}
 (k:∀w' S',Step S w w' S'->SAt K gd A w' g S' bl (Ses.take W K.step x p ds)->R (.tuple #[]) w'):Zs 77 #[zA g,vP p dv] w R:=by
 apply q76W
 have hS:∀q,w.heap.size<=q->¬ S q:=λq hq hs=>by have:=h.lt q hs;omega
 have hd:=h.byt hm
 refine nm λw0 e0=>?_
 obtain⟨b0',g0,s0⟩:=alE e0
 have b0:BK w0 w.heap.size (rP p dv) tP:=b0'
 have h0:=h.grow g0
 unfold Ses.take at k
 refine⟨_,b0.cell 0,?_⟩
 have hj:∀w2 S',Step S w w2 S'->SAt K gd A w2 g S' bl (Ses.take W K.step x p ds)->R (.tuple #[]) w2:=λw2 S' a b=>k w2 S' a (by unfold Ses.take at b;exact b)
 clear k
 unfold Ses.take at hj
 refine JoinP.unit (λw2=>∃S',Step S w w2 S'/\SAt K gd A w2 g S' bl (Ses.take W K.step x p ds)) (λj hj3=>?_) (λw2 ⟨S',st,h'⟩=>hj w2 S' st (by unfold Ses.take at h';exact h'))
 have hj3:∀w2 S',Step S w w2 S'->SAt K gd A w2 g S' bl (Ses.take W K.step x p ds)->j w2:=λw2 S' a b=>hj3 _ ⟨S',a,b⟩
 unfold Ses.take at hj3
 refine cond_intro (λe1=>?_) (λe1=>?_)
 ·have e1:p.op=1:=by simpa using e1
  rw[if_pos e1]at hj hj3
  refine nm λw4 e4=>?_
  have g4:=drE e4
  obtain⟨κ,acl,rv,lv,tv,hs',FU,hn⟩:=h0.grow g4
  have b4:=b0.grow g4
  refine⟨_,b4.cell 5,withAddr_some ⟨_,hn.b.cell 11,nm λw8 e8=>?_⟩⟩
  obtain rfl:w8=w4:=e8.trans e4.symm
  refine cond_intro (λe=>?_) (λe=>?_)
  ·have e:p.sn≠x.s.exp:=by simpa using e
   rw[if_neg e]at hj
   exact hj w8 S (Step.of_grow (g0.then g4)) hn.at
  ·have e:p.sn=x.s.exp:=by simpa using e
   rw[if_pos e]at hj3
   refine withAddr_some ⟨_,hn.b.cell 11,withAddr_some ⟨st1_at hn.b (by show 11 < 15;omega),nm λw12 e12=>?_⟩⟩
   obtain⟨h12,t12⟩:=hn.set (s':={x.s with exp:=m32 (x.s.exp+1)}) e12 rfl rfl rfl
   have s12:Step S w8 w12 S :=t12.step hn.r.g.1
   have b12:=b4.turn t12 (λe=>hS _ (Nat.le_refl _) (e▸hn.r.g.1))
   refine⟨_,_,_,_,_,_,_,_,_,_,_,_,_,_,_,_,_,_,_,_,_,_,_,_,_,_,_,b12.ld rfl,?_⟩
   refine command_c HW HK h12.at hm hf hl ⟨fits_m32 _,hs.sn,hs.md,hs.bu,hs.L,hs.len⟩ ho (hok.cmd e1) λw41 S' st h'=>⟨rfl,?_⟩
   exact hj3 w41 S' (((Step.of_grow (g0.then g4)).then s12).then st) h'
 have e1:p.op≠1:=by simpa using e1
 rw[if_neg e1]at hj3
 clear hj
 refine cond_intro (λe5=>?_) (λe5=>?_)
 ·have e5:p.op=5:=by simpa using e5
  rw[if_pos e5]at hj3
  refine⟨_,_,_,_,_,_,_,_,_,_,_,_,_,_,_,_,_,_,_,_,_,_,_,_,_,_,_,b0.ld rfl,data_c HW HK h0 hm hf hk hl hs ho (hok.dat e5) λw70 S' st h'=>⟨rfl,hj3 w70 S' ((Step.of_grow g0).then st) h'⟩⟩
 have e5:p.op≠5:=by simpa using e5
 rw[if_neg e5]at hj3
 refine cond_intro (λe2=>?_) (λe2=>?_)
 ·have e2:p.op=0:=by simpa using e2
  rw[if_pos e2]at hj3
  refine⟨_,b0.cell 4,_,b0.cell 26,oneK_of (Rd.isOne hd) ?_⟩
  have hP:PdFits {zP with op:=32,tag:=p.tag}:=⟨(by decide:Fits .i64 32),(by decide:Fits .i64 0),(by decide:Fits .i64 0),hf.tag,(by decide:Fits .u32 0),(by decide:Fits .u32 0),(by decide:Fits .u32 0),(by decide:Fits .u32 0),(by decide:Fits .u32 0)⟩
  refine say_c (p:={zP with op:=32,tag:=p.tag}) h0 hP (hd.grow g0) hs.exp hs.sn (by omega) λw80 S' st h'=>⟨rfl,?_⟩
  rw[sayN_of rfl]at h'
  exact hj3 w80 S' ((Step.of_grow g0).then st) h'
 have e2:p.op≠0:=by simpa using e2
 rw[if_neg e2]at hj3
 refine cond_intro (λe3=>?_) (λe3=>?_)
 ·have e3:p.op=2:=by simpa using e3
  rw[if_pos e3]at hj3
  exact⟨_,_,_,_,_,_,_,_,_,_,_,_,_,_,_,_,_,_,_,_,_,_,_,_,_,_,_,b0.ld rfl,manage_c HK h0 hf (hd.grow g0) hs.exp hs.sn (by omega) (by have:=hs.len;omega) (hok.man e3) λw109 S' st h'=>⟨rfl,hj3 w109 S' ((Step.of_grow g0).then st) h'⟩⟩
 have e3:p.op≠2:=by simpa using e3
 rw[if_neg e3]at hj3
 refine cond_intro (λe6=>?_) (λe6=>?_)
 ·have e6:p.op=6:=by simpa using e6
  rw[if_pos e6]at hj3
  refine⟨_,b0.cell 4,?_⟩
  have hP:PdFits {zP with op:=38,tag:=p.tag}:=⟨(by decide:Fits .i64 38),(by decide:Fits .i64 0),(by decide:Fits .i64 0),hf.tag,(by decide:Fits .u32 0),(by decide:Fits .u32 0),(by decide:Fits .u32 0),(by decide:Fits .u32 0),(by decide:Fits .u32 0)⟩
  refine say_c (p:={zP with op:=38,tag:=p.tag}) (dv:=nilV) (ds:=[]) h0 hP (Rd.nil _) hs.exp hs.sn (by omega) λw117 S' st h'=>⟨rfl,?_⟩
  rw[sayN_of rfl]at h'
  exact close_c h' λw119 S2 st2 h2=>⟨rfl,hj3 w119 S2 (((Step.of_grow g0).then st).then st2) h2⟩
 have e6:p.op≠6:=by simpa using e6
 rw[if_neg e6]at hj3
 exact⟨_,_,_,_,_,_,_,_,_,_,_,_,_,_,_,_,_,_,_,_,_,_,_,_,_,_,_,b0.ld rfl,reject_c h0 hf hk hl (hd.grow g0) hs.exp hs.sn (by omega) λw148 S' st h'=>⟨rfl,hj3 w148 S' ((Step.of_grow g0).then st) h'⟩⟩
end Go.Proofs.YtdinpgnjnleioaaGreatDoor.Rs
end
section
namespace Go.Proofs.YtdinpgnjnleioaaGreatDoor.Rs
open CW RowKit Pdu
open Ses (St Ses Wt Cm Rp Doer Wire EW ET Sl sl sl_of rCm rRp RpAt RpOk Col Pt reC reS Step.whole OwnR.stepS RdR.stepS At.stepS m32 encQ encQ_length fits_m32 posI posOf fidx EW_ld Rd.sl RdR.sl Rd.turnX fits_32 fits_i zip_set zip_erase own_isOne isPr full posOf_some posOf_none manY WtOk SOk TkOk setW dropW LoopP.rank off1 one loop inp clos loop_succ okP_dec)
variable {K:Doer} {gd:Nat} {w w':World} {κ:Col} {S :Fp} {g:Nat} {acl rv lv tv:Value} {hs:List Sl} {FU:Fp} {A:List (List UInt8)} {bl:List (Value×List UInt8)}
theorem put_c {x:St K.U} {src:Value} {bs:List UInt8} (h:SAt K gd A w g S bl x) (hre:x.s.re=0) (hr:RdB w src bs) (hl:x.s.rd.length+bs.length<=1000000000) {R:KV}
 (k:∀w' S',Step S w w' S'->SAt K gd A w' g S' bl ({x with s:={x.s with rd:=x.s.rd++bs}}:St K.U)->R (.tuple #[]) w'):
 Zs 74 #[.pointer (some (Addr.add ⟨g,0,none⟩ 2)),src] w R:=by
 obtain⟨κ,acl,rv,lv,tv,hs,FU,h⟩:=h
 apply q106W
 refine withAddr_some ⟨_,by rw[add_add];exact h.b.cell 3,cond_t (by rw[hre];rfl) (nm λw2 e2=>?_)⟩
 obtain⟨_,g2,_⟩:=alE e2
 have h2:=h.grow g2
 have o2:OwnB w2 w.heap.size tb (.slice (some ⟨w.heap.size,0,none⟩) 0 0) []:=by rw[e2];exact Own.lit w (Nat.le_refl _) tb #[] 0 rfl (by simp [maxLen])
 obtain⟨v5,w6,k6,o6,n6⟩:=app_bytes o2 h2.r.ro g2.size (by simp;omega)
 rw[List.nil_append]at o6
 have g6:Grow w w6:=g2.trans (n6.below g2.size o2.blk)
 obtain⟨v7,w8,k8,o8,n8⟩:=app_bytes o6 (hr.grow g6) g6.size (by omega)
 have g8:Grow w w8:=g6.trans (n8.below g6.size o6.blk)
 have b8:=h.b.grow g8
 refine withAddr_some ⟨_,by rw[add_add];exact h2.b.cell 2,v5,w6,k6,v7,w8,k8,withAddr_some (oneK_of (Rd.isOne o8.rd) ⟨by rw[add_add];exact st1_at b8 (by show 2 < 15;omega),nm λw10 e10=>?_⟩)⟩
 rw[add_add]at e10
 obtain⟨b10,t10⟩:=setE b8 e10
 have r10:=(((h.r.more g8 o8.rd (λq hq=>o8.blk q hq) rfl).row (List.mem_cons_self ..)).turn t10).less (bl':=bl) (λq hq=>List.mem_cons_of_mem _ hq)
 have st1:Step S w w8 (reS S λk=>v7.ownBlock=some k/\k < w8.heap.size):=⟨g8.os,g8.tape,g8.output,g8.size,λk hk _=>g8.block k hk,λq hq=>hq.elim .inl (λz=>.inr (o8.blk q z.1))⟩
 exact k w10 _ (st1.then (t10.step (.inl h.r.g.1))) ⟨_,acl,v7,lv,tv,hs,FU,⟨b10,r10⟩⟩
theorem put27 {w:World} {b:Nat} {cs:Array Value} {p:Pd} {dv:Value} {G:World->Value->Prop} (bk:BK w b cs tP) (hs:cs.size=27) (ho:isOne dv=true) {R:World->Prop}
 (k:∀w',BK w' b (rP p dv) tP->Turn b w w'->R w'):(StRow w ⟨b,0,none⟩ (rP p dv))/\bindW (stRow w ⟨b,0,none⟩ (rP p dv)) R:=
 ⟨bk.row (by rw[hs];rfl) (one_rP ho),nm λw' e=>by
  obtain⟨b',t'⟩:=rowE bk e (by rw[hs];rfl)
  exact k w' b' t'⟩
theorem next_c {x:St K.U} (h:SAt K gd A w g S bl x) (hre:x.s.re=0) (hl:x.s.rd.length<=1000000000) {R:KV}
 (k:∀dv w' S',Step S w w' S'->SAt K gd A w' g S' ((dv,decDs x.s.rd)::bl) ({x with s:={x.s with rd:=nxB x.s.rd,re:=nxE x.s.rd}}:St K.U)->R (.tuple #[vP (if decE x.s.rd=0 then pdOf x.s.rd else zP) dv,.bool (decide (decE x.s.rd=0))]) w'):
 Zs 75 #[.pointer (some (Addr.add ⟨g,0,none⟩ 2))] w R:=by
 obtain⟨κ,acl,rv,lv,tv,hs,FU,h⟩:=h
 apply q105W
 have hgl:=h.b.lt
 have nS:∀q,w.heap.size<=q->¬ S q:=λq hq hh=>by have:=h.r.lt q hh;omega
 refine nm λw0 e0=>?_
 obtain⟨b0',g0,s0⟩:=alE e0
 have b0:BK w0 w.heap.size (rP zP nilV) tP:=b0'
 have h0:=h.grow g0
 refine withAddr_some ⟨_,by rw[add_add];exact h0.b.cell 3,cond_f (by rw[hre];rfl) (withAddr_some ⟨_,by rw[add_add];exact h0.b.cell 2,?_⟩)⟩
 refine rDecode_c h0.r.ro hl λdv n w34 g34 rd34 nd hn=>⟨_,_,_,_,_,_,_,_,_,_,_,_,_,_,_,_,_,_,_,_,_,_,_,_,_,_,_,_,_,rfl,nm λw64 e64=>?_⟩
 obtain⟨b64',g64,s64⟩:=alE e64
 have b64:BK w64 w34.heap.size (rP zP nilV) tP:=b64'
 have rd64:=rd34.grow g64
 have one:=Rd.isOne rd34
 have eDs:(if decE x.s.rd=0 then decD x.s.rd else[])=decDs x.s.rd:=rfl
 rw[eDs]at rd34 rd64
 have z0:w0.heap.size=w.heap.size+1:=s0
 have z34:=g34.size
 refine put27 (G:=λ_ _=>True) b64 rfl one λw65 b65 t65=>?_
 have g65:Grow w w65:=Below.turn (g0.then (g34.then g64)) t65 (by omega)
 have rd65:RdB w65 dv (decDs x.s.rd):=Rd.turnX rd64 t65 (λhx e=>by have:=Rd.lt rd34 hx _ e;omega)
 have b0':BK w65 w.heap.size (rP zP nilV) tP:=((b0.grow g34).grow g64).turn t65 (by omega)
 have nd':NewV w dv:=nd.of g0.size
 have h65:=h.b.grow g65
 have r65:=h.r.more g65 rd65 nd' rfl
 have st65:Step S w w65 (reS S λk=>dv.ownBlock=some k/\k < w65.heap.size):=⟨g65.os,g65.tape,g65.output,g65.size,λk hk _=>g65.block k hk,λq hq=>hq.elim .inl (λz=>.inr (nd' q z.1))⟩
 have nW:¬(reS S λk=>dv.ownBlock=some k/\k < w65.heap.size) w.heap.size:=λhq=>hq.elim (nS _ (Nat.le_refl _)) (λz=>by have:=nd _ z.1;omega)
 have fin:∀{w3 w4:World} {rv':Value} {p:Pd} {d':Value},BK w3 g (rS gd acl rv' {x.s with rd:=nxB x.s.rd,re:=nxE x.s.rd} lv tv) tSes->Rest K w3 (reC κ w 7) (reS S λk=>dv.ownBlock=some k/\k < w65.heap.size) g acl rv' lv tv hs FU A ((dv,decDs x.s.rd)::bl) x.s.L (nxB x.s.rd) x.o x.u->Step S w w3 (reS S λk=>dv.ownBlock=some k/\k < w65.heap.size)->Turn w.heap.size w3 w4->
  Step S w w4 (reS S λk=>dv.ownBlock=some k/\k < w65.heap.size)/\SAt K gd A w4 g (reS S λk=>dv.ownBlock=some k/\k < w65.heap.size) ((dv,decDs x.s.rd)::bl) ({x with s:={x.s with rd:=nxB x.s.rd,re:=nxE x.s.rd}}:St K.U):=by
  intro w3 w4 rv' p d' b3 r3 st3 t4
  refine⟨?_,reC κ w 7,acl,rv',lv,tv,hs,FU,⟨b3.turn t4 (by omega),r3.apart (t4.step (S :=λk=>k=w.heap.size) rfl) (λk hk e=>nW (e▸hk))⟩⟩
  exact⟨t4.os.trans st3.os,t4.tape.trans st3.tape,t4.output.trans st3.output,by have:=st3.size;have:=t4.size;omega,λk hk hs=>(t4.block k (by omega)).trans (st3.block k hk hs),st3.fp⟩
 by_cases h5:decE x.s.rd=0
 ·have hn:=hn h5
  obtain⟨d1,d2⟩:=decN_le h5
  have eB:nxB x.s.rd=x.s.rd.drop (decN x.s.rd).toNat:=by unfold nxB;rw[if_pos h5]
  have eE:nxE x.s.rd=x.s.re:=by unfold nxE;rw[if_pos (.inl h5),hre]
  rw[if_pos h5]at k b65
  rw[decide_eq_true h5]at k
  obtain⟨v68,hs68,hr68,ho68⟩:=Rd.sub r65.ro (lo:=some (.int .i64 (decN x.s.rd))) (hi:=none) (l:=(decN x.s.rd).toNat) (r:=x.s.rd.length) (λcap hc=>by rw[List.length_map,bounds_in (by omega) (by omega)]) (by omega) (by simp)
  have r68:RdB w65 v68 (nxB x.s.rd):=by
   have e:((x.s.rd.map b8).drop (decN x.s.rd).toNat).take (x.s.rd.length - (decN x.s.rd).toNat)=(nxB x.s.rd).map b8:=by rw[eB,List.map_drop,List.take_of_length_le (by simp)]
   rw[e]at hr68;exact hr68
  refine cond_t (by rw[h5];rfl) (withAddr_some ⟨_,by rw[add_add];exact h65.cell 2,v68,by rw[hn];exact hs68,withAddr_some (oneK_of (Rd.isOne r68) ⟨by rw[add_add];exact st1_at h65 (by show 2 < 15;omega),nm λw70 e70=>?_⟩)⟩)
  rw[add_add]at e70
  obtain⟨b70,t70⟩:=setE h65 e70
  have r70:=({r65 with ro:=r68,rc:=λhx q hq=>r65.rc (λe=>hx (by rw[eB,e];rfl)) q (ho68▸hq)}:Rest K w65 (reC κ w 7) (reS S λk=>dv.ownBlock=some k/\k < w65.heap.size) g acl v68 lv tv hs FU A ((dv,decDs x.s.rd)::bl) x.s.L (nxB x.s.rd) x.o x.u).turn t70
  refine⟨_,_,_,_,_,_,_,_,_,_,_,_,_,_,_,_,_,_,_,_,_,_,_,_,_,_,_,(b65.turn t70 (by omega)).ld rfl,put27 (G:=λ_ _=>True) (b0'.turn t70 (by omega)) rfl one λw98 b98 t98=>⟨_,_,_,_,_,_,_,_,_,_,_,_,_,_,_,_,_,_,_,_,_,_,_,_,_,_,_,b98.ld rfl,?_⟩⟩
  obtain⟨f1,f2⟩:=fin (p:=zP) (d':=nilV) (rv':=v68) (by rw[eE];exact b70) r70 (st65.then (t70.step (.inl h.r.g.1))) t98
  exact k dv w98 _ f1 f2
 ·rw[if_neg h5]at k b65
  rw[decide_eq_false h5]at k
  have eD:decDs x.s.rd=[]:=by unfold decDs;rw[if_neg h5]
  have swap:∀{w4:World} {S4:Fp},SAt K gd A w4 g S4 ((dv,decDs x.s.rd)::bl) ({x with s:={x.s with rd:=nxB x.s.rd,re:=nxE x.s.rd}}:St K.U)->SAt K gd A w4 g S4 ((nilV,decDs x.s.rd)::bl) ({x with s:={x.s with rd:=nxB x.s.rd,re:=nxE x.s.rd}}:St K.U):=by
   rintro w4 S4 ⟨κ4,acl4,rv4,lv4,tv4,hs4,FU4,h4⟩
   refine⟨κ4,acl4,rv4,lv4,tv4,hs4,FU4,⟨h4.b,{h4.r with bl:=λq hq=>?_}⟩⟩
   rcases List.mem_cons.1 hq with rfl|hq
   ·exact⟨by show RdB _ nilV (decDs x.s.rd);rw[eD];exact Rd.nil _,λhx=>absurd eD hx⟩
   ·exact h4.r.bl q (List.mem_cons_of_mem _ hq)
  refine cond_f (by simpa using h5) ?_
  by_cases h3:decE x.s.rd=3
  ·have eB:nxB x.s.rd=x.s.rd:=by unfold nxB;rw[if_neg h5,if_pos h3]
   have eE:nxE x.s.rd=x.s.re:=by unfold nxE;rw[if_pos (.inr h3),hre]
   refine cond_t (by rw[h3];rfl) (put27 (p:=zP) (dv:=nilV) (G:=λ_ _=>True) b0' rfl rfl λw98 b98 t98=>⟨_,_,_,_,_,_,_,_,_,_,_,_,_,_,_,_,_,_,_,_,_,_,_,_,_,_,_,b98.ld rfl,?_⟩)
   obtain⟨f1,f2⟩:=fin (p:=zP) (d':=nilV) (rv':=rv) (by rw[eE];exact h65) (by rw[eB];exact r65) st65 t98
   exact k nilV w98 _ f1 (swap f2)
  ·have eB:nxB x.s.rd=[]:=by unfold nxB;rw[if_neg h5,if_neg h3]
   have eE:nxE x.s.rd=decE x.s.rd:=by unfold nxE;rw[if_neg (by rintro(q|q);exact h5 q;exact h3 q)]
   refine cond_f (by simpa using h3) (withAddr_some ⟨by rw[add_add];exact st1_at h65 (by show 3 < 15;omega),nm λw155 e155=>?_⟩)
   rw[add_add]at e155
   obtain⟨b155,t155⟩:=setE h65 e155
   refine withAddr_some ⟨by rw[add_add];exact st1_at b155 (by show 2 < 15;omega),nm λw157 e157=>?_⟩
   rw[add_add]at e157
   obtain⟨b157,t157⟩:=setE b155 e157
   have r157:=((r65.norow.turn t155).turn t157)
   refine put27 (p:=zP) (dv:=nilV) (G:=λ_ _=>True) ((b0'.turn t155 (by omega)).turn t157 (by omega)) rfl rfl λw98 b98 t98=>⟨_,_,_,_,_,_,_,_,_,_,_,_,_,_,_,_,_,_,_,_,_,_,_,_,_,_,_,b98.ld rfl,?_⟩
   obtain⟨f1,f2⟩:=fin (p:=zP) (d':=nilV) (rv':=nilV) (by rw[eE];exact b157) (by rw[eB];exact r157) ((st65.then (t155.step (.inl h.r.g.1))).then (t157.step (.inl h.r.g.1))) t98
   exact k nilV w98 _ f1 (swap f2)
end Go.Proofs.YtdinpgnjnleioaaGreatDoor.Rs
end
section
namespace Go.Proofs.YtdinpgnjnleioaaGreatDoor.Rs
open CW RowKit Pdu
open Ses (St Ses Wt Cm Rp Doer Wire EW ET Sl sl sl_of rCm rRp RpAt RpOk Col Pt reC reS Step.whole OwnR.stepS RdR.stepS At.stepS m32 encQ encQ_length fits_m32 posI posOf fidx EW_ld Rd.sl RdR.sl Rd.turnX fits_32 fits_i zip_set zip_erase own_isOne isPr full posOf_some posOf_none manY WtOk SOk TkOk setW dropW LoopP.rank off1 one loop inp clos loop_succ okP_dec Along)
variable {W:Wire} {K:Doer} {gd:Nat} {w w':World} {κ:Col} {S :Fp} {g:Nat} {acl rv lv tv:Value} {hs:List Sl} {FU:Fp} {A:List (List UInt8)} {bl:List (Value×List UInt8)}
theorem SIn.untold {x:St K.U} (h:SIn K gd w κ S g acl rv lv tv hs FU A bl x) (e:w'=World.setCell w (Addr.add ⟨g,0,none⟩ 14) nilV):
 SAt K gd A w' g S bl ({x with o:=[]}:St K.U)/\Turn g w w':=by
 obtain⟨b,t⟩:=Go.CW.setE h.b e
 have r:=h.r.turn t
 exact⟨⟨κ,acl,rv,lv,nilV,hs,FU,⟨b,{r with t:=Own.nil _ _ _,tc:=λq hq=>by cases hq}⟩⟩,t⟩
def LogD (K:Doer) (gd:Nat) (A:List (List UInt8)) (lg:St K.U->Pd->List UInt8->St K.U) (x:St K.U) (p:Pd) (ds:List UInt8):Prop:=
 ∀{w:World} {g:Nat} {S :Fp} {dv:Value} {R:KV},SAt K gd A w g S [(dv,ds)] x->(∀w' S',Step S w w' S'->SAt K gd A w' g S' [(dv,ds)] (lg x p ds)->R (.tuple #[]) w')->
  Zs 78 #[zA g,vP p dv] w R
structure NxD (W:Wire) (K:Doer) (gd:Nat) (A:List (List UInt8)) (lg:St K.U->Pd->List UInt8->St K.U) (x:St K.U):Prop where
 re:x.s.re=0
 o:x.o.length<=900000000
 tk:decE x.s.rd=0->x.s.op=true->SOk x.s/\TkOk W K (off1 x) (pdOf x.s.rd) (decD x.s.rd)
 lo:decE x.s.rd=0->x.s.op=false->LogD K gd A lg (off1 x) (pdOf x.s.rd) (decD x.s.rd)
 rd:decE x.s.rd=0->(one W K.step lg (off1 x) (pdOf x.s.rd) (decD x.s.rd)).s.cl=false->(one W K.step lg (off1 x) (pdOf x.s.rd) (decD x.s.rd)).s.rd=(off1 x).s.rd
theorem In_c (HW:WireD W) (HK:Direct K gd) {lg:St K.U->Pd->List UInt8->St K.U} {x:St K.U} {src:Value} {bs:List UInt8} (h:SAt K gd A w g S [] x) (hr:RdB w src bs) (hro:bs≠[]->∀q,src.ownBlock=some q->¬ S q) (hl:x.s.rd.length+bs.length<=1000000)
 (hre:x.s.cl=false->x.s.re=0) (hal:x.s.cl=false->Along W K lg (NxD W K gd A lg) (x.s.rd.length+bs.length+1) {x with s:={x.s with rd:=x.s.rd++bs},o:=[]}) {R:KV}
 (k:∀v w' S',Step S w w' S'->SAt K gd A w' g S' [] (inp W K.step lg x bs)->RdB w' v (inp W K.step lg x bs).o->R v w'):
 Zs 30 #[zA g,src] w R:=by
 apply q63W
 have hself:=h.self
 obtain⟨κ,acl,rv,lv,tv,hs,FU,h⟩:=h
 refine withAddr_some ⟨st1_at h.b (by show 14 < 15;omega),nm λw1 e1=>withAddr_some ?_⟩
 obtain⟨h1,t1⟩:=h.untold e1
 have st1:Step S w w1 S :=t1.step hself
 have r1:RdB w1 src bs:=Rd.turnX hr t1 (λhx e=>hro (λe=>hx (by rw[e];rfl)) _ e hself)
 have hu:inp W K.step lg x bs=if x.s.cl then{x with o:=[]} else loop W K.step lg (x.s.rd.length+bs.length+1) {x with s:={x.s with rd:=x.s.rd++bs},o:=[]}:=rfl
 generalize hF:inp W K.step lg x bs=F at *
 obtain⟨acl1,rv1,lv1,tv1,hb1⟩:=h1.cells
 refine⟨_,hb1.cell 5,cond_intro (λhc=>?_) (λhc=>?_)⟩
 ·have hc:x.s.cl=true:=hc
  rw[if_pos hc]at hu
  subst hu
  exact k nilV w1 _ st1 h1 (Rd.nil _)
 have hc:x.s.cl=false:=hc
 rw[if_neg (by rw[hc];simp)]at hu
 have hre:=hre hc
 have hal:=hal hc
 refine withAddr_some (put_c h1 hre r1 (by show x.s.rd.length+bs.length<=_;omega) λw7 S7 st7 h7=>⟨rfl,?_⟩)
 have st07:=st1.then st7
 refine JoinP.unit (λw8=>∃S',Step S w w8 S'/\SAt K gd A w8 g S' [] F) (λj hj=>?_) ?_
 ·have hj:∀w8 S',Step S w w8 S'->SAt K gd A w8 g S' [] F->j w8:=λw8 S' a b=>hj _ ⟨S',a,b⟩
  refine LoopP.rank (λn ww=>∃S' y,Step S w ww S'/\SAt K gd A ww g S' [] y/\(y.s.cl=true->y=F)/\(y.s.cl=false->y.s.rd.length < n/\loop W K.step lg n y=F/\Along W K lg (NxD W K gd A lg) n y/\y.s.rd.length<=1000000)) ?_ ?_
  ·exact⟨x.s.rd.length+bs.length+1,S7,({x with s:={x.s with rd:=x.s.rd++bs},o:=[]}:St K.U),st07,h7,λe=>absurd (hc.symm.trans e) (by simp),λ_=>⟨by show(x.s.rd++bs).length < _;simp,hu.symm,hal,by show(x.s.rd++bs).length<=_;simp;omega⟩⟩
  rintro n ww L ⟨S',y,st,hy,hclo,hopn⟩ hL
  obtain⟨acl0,rv0,lv0,tv0,hb0⟩:=hy.cells
  refine withAddr_some ⟨_,hb0.cell 5,cond_intro (λhcl=>?_) (λhcl=>?_)⟩
  ·have hcl:y.s.cl=false:=by simpa using hcl
   obtain⟨hlen,hloop,hal,hlen2⟩:=hopn hcl
   cases n with
   |zero=>omega
   |succ n=>
    obtain⟨nx,hal⟩:=hal
    rw[loop_succ]at hloop
    refine JoinP.unit (λw52=>∃S3 z,Step S w w52 S3/\SAt K gd A w52 g S3 [] z/\(z.s.cl=true->z=F)/\(z.s.cl=false->z.s.rd.length < n/\loop W K.step lg n z=F/\Along W K lg (NxD W K gd A lg) n z/\z.s.rd.length<=1000000)) (λj1 hj1=>?_) (λw52 ⟨S3,z,a1,a2,a3,a4⟩=>hL w52 n (Nat.lt_succ_self n) ⟨S3,z,a1,a2,a3,a4⟩)
    refine withAddr_some (next_c hy nx.re (by omega) λdv w21 S2 st2 h2=>⟨_,_,_,_,_,_,_,_,_,_,_,_,_,_,_,_,_,_,_,_,_,_,_,_,_,_,_,_,rfl,nm λw50 e50=>?_⟩)
    obtain⟨b50,g50,s50⟩:=alE e50
    have h2:SAt K gd A w21 g S2 [(dv,decDs y.s.rd)] ({y with s:={y.s with rd:=nxB y.s.rd,re:=nxE y.s.rd}}:St K.U):=h2
    have rdv:=h2.byt (List.mem_cons_self ..)
    refine⟨b50.row rfl (one_rP (Rd.isOne rdv)),nm λw51 e51=>?_⟩
    obtain⟨b51,t51⟩:=rowE b50 e51 rfl
    have h51:=(h2.grow g50).turn t51 (λhq=>by have:=h2.lt _ hq;omega)
    have st51:Step S w w51 S2:=by
     have m:Md S2 w21.heap.size w21 w51:=((Md.refl S2 w21.heap.size w21).grow g50).turn t51 (.inr (Nat.le_refl _))
     exact(st.then st2).then m.out
    have bp:BK w51 w21.heap.size (rP (if decE y.s.rd=0 then pdOf y.s.rd else zP) dv) tP:=b51
    clear e50 e51 b50 b51
    by_cases h5:decE y.s.rd=0
    ·rw[decide_eq_true h5]
     rw[if_pos h5]at hloop
     obtain⟨d1,d2⟩:=decN_le h5
     have eB:nxB y.s.rd=y.s.rd.drop (decN y.s.rd).toNat:=by unfold nxB;rw[if_pos h5]
     have eE:nxE y.s.rd=y.s.re:=by unfold nxE;rw[if_pos (.inl h5),nx.re]
     have eD:decDs y.s.rd=decD y.s.rd:=by unfold decDs;rw[if_pos h5]
     have ey:({y with s:={y.s with rd:=nxB y.s.rd,re:=nxE y.s.rd}}:St K.U)=off1 y:=by rw[eB,eE];rfl
     rw[ey,eD]at h51
     have epd:(if decE y.s.rd=0 then pdOf y.s.rd else zP)=pdOf y.s.rd:=if_pos h5
     rw[epd]at bp
     obtain⟨k1,k2,k3⟩:=okP_dec h5
     have fin:∀w95 S3,Step S2 w51 w95 S3->SAt K gd A w95 g S3 [(dv,decD y.s.rd)] (one W K.step lg (off1 y) (pdOf y.s.rd) (decD y.s.rd))->j1 w95:=by
      intro w95 S3 st3 h3
      refine hj1 _ ⟨S3,_,st51.then st3,h3.less (λq hq=>by cases hq),λe=>?_,λe=>?_⟩
      ·rw[if_pos e]at hloop;exact hloop
      ·rw[if_neg (by rw[e];simp)]at hloop
       have er:=nx.rd h5 e
       have el:(one W K.step lg (off1 y) (pdOf y.s.rd) (decD y.s.rd)).s.rd.length=y.s.rd.length - (decN y.s.rd).toNat:=by rw[er];show(y.s.rd.drop _).length=_;rw[List.length_drop]
       exact⟨by omega,hloop,hal h5 e,by omega⟩
     refine cond_f rfl (withAddr_some ?_)
     obtain⟨acl5,rv5,lv5,tv5,hb5⟩:=h51.cells
     refine⟨_,hb5.cell 4,cond_intro (λho=>?_) (λho=>?_)⟩
     ·have ho:y.s.op=true:=ho
      obtain⟨s1,s2⟩:=nx.tk h5 ho
      refine⟨_,_,_,_,_,_,_,_,_,_,_,_,_,_,_,_,_,_,_,_,_,_,_,_,_,_,_,bp.ld rfl,take_c HW HK h51 (List.mem_cons_self ..) k2 k1 k3 ⟨s1.exp,s1.sn,s1.md,s1.bu,s1.L,s1.len⟩ nx.o s2 λw95 S3 st3 h3=>⟨rfl,fin w95 S3 st3 ?_⟩⟩
      have:one W K.step lg (off1 y) (pdOf y.s.rd) (decD y.s.rd)=Ses.take W K.step (off1 y) (pdOf y.s.rd) (decD y.s.rd):=by unfold one;rw[if_pos (by exact ho)]
      rw[this];exact h3
     ·have ho:y.s.op=false:=ho
      refine⟨_,_,_,_,_,_,_,_,_,_,_,_,_,_,_,_,_,_,_,_,_,_,_,_,_,_,_,bp.ld rfl,nx.lo h5 ho h51 λw95 S3 st3 h3=>⟨rfl,fin w95 S3 st3 ?_⟩⟩
      have:one W K.step lg (off1 y) (pdOf y.s.rd) (decD y.s.rd)=lg (off1 y) (pdOf y.s.rd) (decD y.s.rd):=by unfold one;rw[if_neg (by show ¬y.s.op=true;rw[ho];simp)]
      rw[this];exact h3
    ·rw[decide_eq_false h5]
     rw[if_neg h5]at hloop
     refine cond_t rfl (JoinP.go ?_)
     obtain⟨acl5,rv5,lv5,tv5,hb5⟩:=h51.cells
     refine withAddr_some ⟨_,by rw[add_add];exact hb5.cell 3,cond_intro (λhe=>?_) (λhe=>?_)⟩
     ·have he:nxE y.s.rd≠0:=by simpa using he
      have h3:decE y.s.rd≠3:=λe=>he (by unfold nxE;rw[if_pos (.inr e)])
      rw[if_neg h3]at hloop
      refine close_c h51 λw64 S6 st6 h6=>⟨rfl,hj w64 S6 (st51.then st6) ?_⟩
      rw[←hloop]
      exact h6.less (λq hq=>by cases hq)
     ·have he:nxE y.s.rd=0:=by simpa using he
      have h3:decE y.s.rd=3:=by
       unfold nxE at he
       split at he
       ·next hh=>exact hh.resolve_left h5
       ·exact absurd he h5
      rw[if_pos h3]at hloop
      refine hj w51 S2 st51 ?_
      have eB:nxB y.s.rd=y.s.rd:=by unfold nxB;rw[if_neg h5,if_pos h3]
      have ey:({y with s:={y.s with rd:=nxB y.s.rd,re:=nxE y.s.rd}}:St K.U)=y:=by
       rw[eB,he,←nx.re]
      rw[ey,hloop]at h51
      exact h51.less (λq hq=>by cases hq)
  ·have hcl:y.s.cl=true:=by simpa using hcl
   rw[hclo hcl]at hy
   exact hj ww S' st hy
 ·rintro w8 ⟨S8,st8,h8⟩
  obtain⟨κ8,acl8,rv8,lv8,tv8,hs8,FU8,h8⟩:=h8
  exact withAddr_some ⟨_,h8.b.cell 14,k tv8 w8 S8 st8 h8.at h8.r.t.rd⟩
end Go.Proofs.YtdinpgnjnleioaaGreatDoor.Rs
end
