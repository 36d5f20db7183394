/- A part of the proof. -/
import Derived.Test.YtdinpgnjnleioaaGreatDoorSRfX2
import Derived.Test.YtdinpgnjnleioaaGreatDoorSGE
set_option linter.unusedSimpArgs false
set_option linter.unusedVariables false
set_option maxRecDepth 100000
section
namespace Go.Proofs.YtdinpgnjnleioaaGreatDoor.Rs
open CW RowKit Pdu
open Ses (St Ses Wt Cm Rp Doer Wire m32 encQ encQ_length fits_m32 posOf posOf_some isPr full WtOk SOk TkOk wireP cmD wireP_ok)
open Rf (Rv FineV OkV stepV stepV_fine stepV_rp docV)
structure Inv (h:Nat) (x:St Rv):Prop where
 fine:FineV h x.u
 nm:x.s.p.nm.length % 8=h
 nl:x.s.p.nm.length < 4294967296
 ok:SOk x.s
 cw:∀v∈x.s.L,v.c.pos<=4611686018427387904/\v.c.n<=4294967295
 re:x.s.re=0
variable {h:Nat} {x:St Rv}
theorem cmd_rng (bs:List UInt8):(cmD bs).pos<=4611686018427387904/\(cmD bs).n<=4294967295:=by
 unfold cmD
 cases hc:Cdb.codOf bs with
 |none=>exact⟨by show 0<=_;omega,by show 0<=_;omega⟩
 |some y=>
  simp only
  split
  ·next h0=>
   have hw:Cdb.wrongD y bs=false:=by
    unfold Cdb.codeD at h0
    rw[hc]at h0
    cases hw:Cdb.wrongD y bs with
    |false=>rfl
    |true=>simp [hw]at h0
   have hf:Cdb.farD y bs=false:=by
    unfold Cdb.wrongD at hw
    cases hf:Cdb.farD y bs with
    |false=>rfl
    |true=>rw[hf]at hw;simp at hw
   refine⟨?_,?_⟩
   ·show(Cdb.atD y bs).toNat<=_
    unfold Cdb.atD
    split
    ·next ha=>
     unfold Cdb.farD at hf
     rw[ha]at hf
     simp at hf
     omega
    ·simp
   ·show(Cdb.nD y bs).toNat<=_
    have p10:getV bs 10 4 < 4294967296:=(getV_range bs 10 4).2
    have h8:=(bs.getD 13 0).toNat_lt
    unfold Cdb.nD
    split
    ·omega
    ·split<;>omega
  ·exact⟨by show 0<=_;omega,by show 0<=_;omega⟩
structure Nxt (h:Nat) (x y:St Rv) (n:Nat):Prop where
 i:Inv h y
 rd:y.s.rd=x.s.rd
 op:y.s.op=x.s.op
 cl:y.s.cl=x.s.cl
 p:y.s.p=x.s.p
 o:y.o.length<=x.o.length+n
theorem Nxt.refl (i:Inv h x):Nxt h x x 0:=⟨i,rfl,rfl,rfl,rfl,by omega⟩
theorem Nxt.then {y z:St Rv} {m n k:Nat} (a:Nxt h x y m) (b:Nxt h y z n) (hk:m+n<=k):Nxt h x z k:=
 ⟨b.i,b.rd.trans a.rd,b.op.trans a.op,b.cl.trans a.cl,b.p.trans a.p,by have:=a.o;have:=b.o;omega⟩
theorem Nxt.le {y:St Rv} {m k:Nat} (a:Nxt h x y m) (hk:m<=k):Nxt h x y k:=⟨a.i,a.rd,a.op,a.cl,a.p,by have:=a.o;omega⟩
theorem Inv.withL (i:Inv h x) {L:List Wt} (hL:∀v∈L,WtOk v) (hl:L.length<=16) (hc:∀v∈L,v.c.pos<=4611686018427387904/\v.c.n<=4294967295):Inv h {x with s:={x.s with L:=L}}:=
 ⟨i.fine,i.nm,i.nl,⟨i.ok.exp,i.ok.sn,i.ok.md,i.ok.bu,hL,hl⟩,hc,i.re⟩
theorem encQ_le (p:Pd) (ds:List UInt8):(encQ p ds).length<=ds.length+64:=by
 unfold encQ
 split
 ·rw[encP_length]
  split
  ·omega
  ·omega
 ·simp
theorem say_nx (i:Inv h x) (p:Pd) (ds:List UInt8):Nxt h x (Ses.say x p ds) (ds.length+64):=
 ⟨⟨i.fine,i.nm,i.nl,i.ok,i.cw,i.re⟩,rfl,rfl,rfl,rfl,by
  show(x.o++_).length<=_
  rw[List.length_append]
  have:=encQ_le {p with exp:=x.s.exp,mx:=m32 (x.s.exp+15)} ds
  omega⟩
theorem sayN_nx (i:Inv h x) (op:Int) (p:Pd) (ds:List UInt8):Nxt h x (Ses.sayN x op p ds) (ds.length+64):=by
 have i':Inv h ({x with s:={x.s with sn:=m32 (x.s.sn+1)}}:St Rv):=⟨i.fine,i.nm,i.nl,⟨i.ok.exp,fits_m32 _,i.ok.md,i.ok.bu,i.ok.L,i.ok.len⟩,i.cw,i.re⟩
 have:=say_nx i' {p with op:=op,sn:=x.s.sn} ds
 exact⟨this.i,this.rd,this.op,this.cl,this.p,this.o⟩
theorem respond_nx (i:Inv h x) (tag:Int) (r:Rp) (n:Nat):Nxt h x (Ses.respond wireP x tag r n) 100:=by
 unfold Ses.respond
 refine(sayN_nx i 33 _ _).le ?_
 split
 ·show(Sen.encS _ _ _).length+64<=100
  rw[Sen.encS_length];omega
 ·simp
theorem okV (i:Inv h x) {c:Cm} (hc:c.pos<=4611686018427387904/\c.n<=4294967295):OkV h x.u x.s.p.nm c:=⟨i.fine,i.nm,i.nl,hc.1,hc.2⟩
theorem fin_nx (i:Inv h x) (tag:Int) {c:Cm} (hc:c.pos<=4611686018427387904/\c.n<=4294967295):Nxt h x (Ses.fin wireP (λy _ c=>stepV h 64 y c) x tag c) 800:=by
 have hr:=stepV_rp (h:=h) (x:=x.u) (c:=c) hc.2
 have i':Inv h ({x with u:=(stepV h 64 x.u c).2}:St Rv):=⟨stepV_fine i.fine,i.nm,i.nl,i.ok,i.cw,i.re⟩
 have n0:Nxt h x ({x with u:=(stepV h 64 x.u c).2}:St Rv) 0:=⟨i',rfl,rfl,rfl,rfl,by show x.o.length<=_;omega⟩
 unfold Ses.fin
 dsimp only
 split
 ·have a:=say_nx i' {zP with op:=37,tag:=tag,fin:=true} (stepV h 64 x.u c).1.d
  have:=hr.d
  exact(n0.then a (Nat.le_refl _)).then (respond_nx a.i tag _ _) (by omega)
 ·exact n0.then (respond_nx i' tag _ _) (by omega)
theorem full_rng {c c':Cm} {ds:List UInt8} (hf:full wireP c ds=some c'):c'.pos=c.pos/\c'.n=c.n:=by
 unfold full at hf
 split at hf
 ·split at hf
  ·cases hf
  ·cases hf;exact⟨rfl,rfl⟩
 ·cases hf;exact⟨rfl,rfl⟩
theorem done_nx (i:Inv h x) (tag:Int) {c:Cm} (hc:c.pos<=4611686018427387904/\c.n<=4294967295) (ds:List UInt8):Nxt h x (Ses.done wireP (λy _ c=>stepV h 64 y c) x tag c ds) 800:=by
 unfold Ses.done
 cases hf:full wireP c ds with
 |none=>exact(respond_nx i tag _ _).le (by omega)
 |some c'=>
  obtain⟨a,b⟩:=full_rng hf
  exact fin_nx i tag (by rw[a,b];exact hc)
theorem ready_nx (i:Inv h x) {k:Nat} {v:Wt} (hv:WtOk v) (hc:v.c.pos<=4611686018427387904/\v.c.n<=4294967295):Nxt h x (Ses.ready x k v) 100:=by
 unfold Ses.ready
 dsimp only
 have i':Inv h (Ses.setW x k {v with want:=min (v.out - v.hv.length) x.s.p.bu}):=by
  refine i.withL (λy hy=>?_) (by rw[List.length_set];exact i.ok.len) (λy hy=>?_)
  ·rcases List.mem_or_eq_of_mem_set hy with hy|rfl
   ·exact i.ok.L y hy
   ·exact⟨hv.tag,hv.d,hv.out,by have:=hv.hv;show v.hv.length+min (v.out - v.hv.length) x.s.p.bu<=v.out;omega⟩
  ·rcases List.mem_or_eq_of_mem_set hy with hy|rfl
   ·exact i.cw y hy
   ·exact hc
 have n0:Nxt h x (Ses.setW x k {v with want:=min (v.out - v.hv.length) x.s.p.bu}) 0:=⟨i',rfl,rfl,rfl,rfl,by show x.o.length<=_;omega⟩
 exact n0.then (say_nx i' _ _) (by simp)
theorem drop_nx (i:Inv h x) (k:Nat):Nxt h x (Ses.dropW x k) 0:=
 ⟨i.withL (λy hy=>i.ok.L y (List.mem_of_mem_eraseIdx hy)) (by have:=i.ok.len;have:=List.length_eraseIdx_le x.s.L k;omega) (λy hy=>i.cw y (List.mem_of_mem_eraseIdx hy)),rfl,rfl,rfl,rfl,by show x.o.length<=_;omega⟩
theorem reject_nx (i:Inv h x) (p:Pd) (ds:List UInt8):Nxt h x (Ses.reject x p ds) 200:=by
 unfold Ses.reject
 exact(say_nx i _ _).le (by rw[List.length_take];omega)
theorem command_nx (i:Inv h x) {p:Pd} (hf:PdFits p) (ds:List UInt8):Nxt h x (Ses.command wireP (λy _ c=>stepV h 64 y c) x p ds) 1000:=by
 have hcr:(wireP.cmd p.cdb).1.pos<=4611686018427387904/\(wireP.cmd p.cdb).1.n<=4294967295:=cmd_rng p.cdb
 have hc0:=wireP_ok.cmd0 p.cdb
 have ol:=wireP_ok.outl (wireP.cmd p.cdb).1
 unfold Ses.command
 dsimp only
 split
 ·exact(respond_nx i _ _ _).le (by omega)
 split
 ·exact(done_nx i _ hcr _).le (by omega)
 split
 ·exact(respond_nx i _ _ _).le (by omega)
 next hbad=>
 split
 ·exact(done_nx i _ hcr _).le (by omega)
 split
 ·exact(respond_nx i _ _ _).le (by omega)
 split
 ·exact(respond_nx i _ _ _).le (by omega)
 next hlen=>
 have hv:WtOk ⟨p.tag,(wireP.cmd p.cdb).1,ds,wireP.out (wireP.cmd p.cdb).1,0⟩:=⟨hf.tag,hc0.1,ol,by
  show ds.length+0<=wireP.out (wireP.cmd p.cdb).1
  have:¬wireP.out (wireP.cmd p.cdb).1 < ds.length:=λhh=>hbad (.inr hh)
  omega⟩
 have i':Inv h ({x with s:={x.s with L:=x.s.L++[⟨p.tag,(wireP.cmd p.cdb).1,ds,wireP.out (wireP.cmd p.cdb).1,0⟩]}}:St Rv):=by
  refine i.withL (λy hy=>?_) (by simp;omega) (λy hy=>?_)
  ·rcases List.mem_append.1 hy with hy|hy
   ·exact i.ok.L y hy
   ·rw[List.mem_singleton.1 hy];exact hv
  ·rcases List.mem_append.1 hy with hy|hy
   ·exact i.cw y hy
   ·rw[List.mem_singleton.1 hy];exact hcr
 have n0:Nxt h x ({x with s:={x.s with L:=x.s.L++[⟨p.tag,(wireP.cmd p.cdb).1,ds,wireP.out (wireP.cmd p.cdb).1,0⟩]}}:St Rv) 0:=⟨i',rfl,rfl,rfl,rfl,by show x.o.length<=_;omega⟩
 exact n0.then (ready_nx i' hv hcr) (by omega)
theorem data_nx (i:Inv h x) {p:Pd} (hf:PdFits p) (ds:List UInt8):Nxt h x (Ses.dataS wireP (λy _ c=>stepV h 64 y c) x p ds) 1000:=by
 unfold Ses.dataS
 cases hp:posOf x.s.L p.tag with
 |none=>exact(reject_nx i p ds).le (by omega)
 |some k=>
  dsimp only
  cases hv:x.s.L[k]? with
  |none=>exact(Nxt.refl i).le (by omega)
  |some v=>
   dsimp only
   have hm:=List.mem_of_getElem? hv
   have hvo:=i.ok.L v hm
   have hvc:=i.cw v hm
   split
   ·exact(reject_nx i p ds).le (by omega)
   next hbad=>
   have hw:ds.length<=v.want:=by
    apply Decidable.byContradiction
    intro hh;exact hbad (.inr (by omega))
   have hY:WtOk {v with hv:=v.hv++ds,want:=v.want - ds.length}:=⟨hvo.tag,hvo.d,hvo.out,by have:=hvo.hv;show(v.hv++ds).length+(v.want - ds.length)<=v.out;simp;omega⟩
   split
   ·have i':Inv h (Ses.setW x k {v with hv:=v.hv++ds,want:=v.want - ds.length}):=by
     refine i.withL (λy hy=>?_) (by rw[List.length_set];exact i.ok.len) (λy hy=>?_)
     ·rcases List.mem_or_eq_of_mem_set hy with hy|rfl
      ·exact i.ok.L y hy
      ·exact hY
     ·rcases List.mem_or_eq_of_mem_set hy with hy|rfl
      ·exact i.cw y hy
      ·exact hvc
    exact⟨i',rfl,rfl,rfl,rfl,by show x.o.length<=_;omega⟩
   split
   ·exact(ready_nx i hY hvc).le (by omega)
   ·have a:=drop_nx i k
    exact a.then (done_nx a.i _ hvc _) (by omega)
theorem manage_nx (i:Inv h x) (p:Pd):Nxt h x (Ses.manage (λy _ c=>stepV h 64 y c) x p) 1000:=by
 have i0:Inv h ({x with s:={x.s with L:=[]}}:St Rv):=i.withL (λy hy=>by cases hy) (by simp) (λy hy=>by cases hy)
 have a:Nxt h x (Ses.manY (λy _ c=>stepV h 64 y c) x p).1 0:=by
  unfold Ses.manY
  split
  ·split
   ·exact Nxt.refl i
   ·exact drop_nx i _
  split
  ·exact⟨i0,rfl,rfl,rfl,rfl,by show x.o.length<=_;omega⟩
  split
  ·exact⟨⟨stepV_fine i.fine,i.nm,i.nl,i0.ok,i0.cw,i.re⟩,rfl,rfl,rfl,rfl,by show x.o.length<=_;omega⟩
  ·exact Nxt.refl i
 exact a.then (sayN_nx a.i _ _ _) (by simp)
theorem take_nx (i:Inv h x) {p:Pd} (hf:PdFits p) {ds:List UInt8} (hl:ds.length<=4096):
 Nxt h x (Ses.take wireP (λy _ c=>stepV h 64 y c) x p ds) 5000\/∃z:St Rv,Ses.take wireP (λy _ c=>stepV h 64 y c) x p ds=Ses.clos z/\z.o.length<=x.o.length+5000/\Go.CW.Fits .u32 z.s.exp:=by
 unfold Ses.take
 split
 ·split
  ·have i':Inv h ({x with s:={x.s with exp:=m32 (x.s.exp+1)}}:St Rv):=⟨i.fine,i.nm,i.nl,⟨fits_m32 _,i.ok.sn,i.ok.md,i.ok.bu,i.ok.L,i.ok.len⟩,i.cw,i.re⟩
   have n0:Nxt h x ({x with s:={x.s with exp:=m32 (x.s.exp+1)}}:St Rv) 0:=⟨i',rfl,rfl,rfl,rfl,by show x.o.length<=_;omega⟩
   exact .inl (n0.then (command_nx i' hf ds) (by omega))
  ·exact .inl ((Nxt.refl i).le (by omega))
 split
 ·exact .inl ((data_nx i hf ds).le (by omega))
 split
 ·exact .inl ((sayN_nx i _ _ _).le (by omega))
 split
 ·exact .inl ((manage_nx i p).le (by omega))
 split
 ·right
  have a:=sayN_nx i 38 {zP with tag:=p.tag} []
  refine⟨Ses.sayN x 38 {zP with tag:=p.tag} [],rfl,?_,i.ok.exp⟩
  refine Nat.le_trans (show(Ses.sayN x 38 {zP with tag:=p.tag} []).o.length<=x.o.length+(0+64) from a.o) ?_
  omega
 ·exact .inl ((reject_nx i p ds).le (by omega))
theorem take_ok (gd:Nat) (i:Inv h x) (p:Pd) (ds:List UInt8):TkOk wireP (docV gd h) x p ds:=by
 have hcr:(wireP.cmd p.cdb).1.pos<=4611686018427387904/\(wireP.cmd p.cdb).1.n<=4294967295:=cmd_rng p.cdb
 refine⟨λ_ _ c'=>⟨λ_ hf=>?_,λ_ hf=>?_⟩,λ_ k v hp hv c' hf=>?_,λ_ _=>?_⟩
 ·obtain⟨a,b⟩:=full_rng hf
  exact okV i (by rw[a,b];exact hcr)
 ·obtain⟨a,b⟩:=full_rng hf
  exact okV i (by rw[a,b];exact hcr)
 ·obtain⟨a,b⟩:=full_rng hf
  exact okV i (by rw[a,b];exact i.cw v (List.mem_of_getElem? hv))
 ·exact okV i (c:=Ses.reset) ⟨by show 0<=_;omega,by show 0<=_;omega⟩
end Go.Proofs.YtdinpgnjnleioaaGreatDoor.Rs
end
section
namespace Go.Proofs.YtdinpgnjnleioaaGreatDoor.Rs
open CW RowKit Pdu
open Ses (St Ses Wt Cm Rp Doer Wire m32 encQ encQ_length fits_m32 posOf posOf_some isPr full WtOk SOk TkOk wireP cmD wireP_ok NxOk Along off1 one loop inp clos loop_succ okP_dec)
open Rf (Rv FineV OkV stepV stepV_fine stepV_rp docV)
variable {h:Nat} {x:St Rv}
def lgN (x:St Rv) (_:Pd) (_:List UInt8):St Rv:=x
theorem Inv.off (i:Inv h x):Inv h (off1 x):=⟨i.fine,i.nm,i.nl,⟨i.ok.exp,i.ok.sn,i.ok.md,i.ok.bu,i.ok.L,i.ok.len⟩,i.cw,i.re⟩
theorem one_open (ho:x.s.op=true) (p:Pd) (ds:List UInt8):one wireP (λy _ c=>stepV h 64 y c) lgN (off1 x) p ds=Ses.take wireP (λy _ c=>stepV h 64 y c) (off1 x) p ds:=by
 unfold one;rw[if_pos (by exact ho)]
theorem short_le {bs:List UInt8} (hd:decE bs=3):bs.length<=4155:=by
 apply Decidable.byContradiction
 intro hh
 unfold decE at hd
 split at hd
 ·next hf=>
  unfold frontE at hf hd
  rw[if_neg (by omega)]at hd
  split at hd
  ·split at hd
   ·cases hd
   ·split at hd
    ·cases hd
    ·cases hd
  ·cases hd
 ·next hf=>
  have hn:dn bs<=4096:=by
   have hf:frontE bs=0:=by
    apply Decidable.byContradiction
    intro q;exact hf q
   unfold frontE at hf
   rw[if_neg (by omega)]at hf
   split at hf
   ·split at hf
    ·cases hf
    ·split at hf
     ·cases hf
     ·next h4=>unfold dn;have:=num4_range bs 4;omega
   ·cases hf
  split at hd
  ·cases hd
  ·split at hd
   ·next hs=>unfold dw at hs;omega
   ·split at hd
    ·split at hd<;>cases hd
    ·cases hd
theorem nx_rd (i:Inv h x) (ho:x.s.op=true) (h5:decE x.s.rd=0) (hc:(one wireP (λy _ c=>stepV h 64 y c) lgN (off1 x) (pdOf x.s.rd) (decD x.s.rd)).s.cl=false):
 Nxt h (off1 x) (one wireP (λy _ c=>stepV h 64 y c) lgN (off1 x) (pdOf x.s.rd) (decD x.s.rd)) 5000:=by
 rw[one_open ho]at hc ⊢
 obtain⟨k1,k2,k3⟩:=okP_dec h5
 rcases take_nx i.off k2 k3 with a|⟨z,a,_⟩
 ·exact a
 ·rw[a]at hc;cases hc
theorem nx_ok (gd:Nat) (Q:World->Prop) (A:List (List UInt8)) (i:Inv h x) (ho:x.s.op=true) (hb:x.o.length<=900000000):NxOk Q wireP (docV gd h) A lgN x:=
 ⟨i.re,hb,λh5 _=>⟨i.ok,take_ok gd i.off _ _⟩,λ_ h'=>by rw[ho]at h';(cases h'),λh5 hc=>(nx_rd i ho h5 hc).rd⟩
theorem nx_d (gd:Nat) (A:List (List UInt8)) (i:Inv h x) (ho:x.s.op=true) (hb:x.o.length<=900000000):NxD wireP (docV gd h) gd A lgN x:=
 ⟨i.re,hb,λh5 _=>⟨i.ok,take_ok gd i.off _ _⟩,λ_ h'=>by rw[ho]at h';(cases h'),λh5 hc=>(nx_rd i ho h5 hc).rd⟩
theorem off_len {bs:List UInt8} (h5:decE bs=0):(bs.drop (decN bs).toNat).length+52<=bs.length:=by
 obtain⟨d1,d2⟩:=decN_le h5
 rw[List.length_drop];omega
theorem along {P:St Rv->Prop} (gd:Nat) (hP:∀y:St Rv,Inv h y->y.s.op=true->y.o.length<=900000000->P y):∀(n:Nat) (x:St Rv),Inv h x->x.s.op=true->x.o.length+100*x.s.rd.length<=900000000->Along wireP (docV gd h) lgN P n x:=by
 intro n
 induction n with
 |zero=>intro x _ _ _;trivial
 |succ n ih=>
  intro x i ho hb
  refine⟨hP x i ho (by omega),λh5 hc=>?_⟩
  have a:=nx_rd i ho h5 hc
  have ol:=off_len h5
  have eo:(off1 x).o=x.o:=rfl
  have er:(off1 x).s.rd=x.s.rd.drop (decN x.s.rd).toNat:=rfl
  refine ih _ a.i (a.op.trans ho) ?_
  have o1:=a.o
  rw[eo]at o1
  have o2:=a.rd
  rw[er]at o2
  show(one wireP (λy _ c=>stepV h 64 y c) lgN (off1 x) (pdOf x.s.rd) (decD x.s.rd)).o.length+100*(one wireP (λy _ c=>stepV h 64 y c) lgN (off1 x) (pdOf x.s.rd) (decD x.s.rd)).s.rd.length<=_
  rw[o2]
  omega
inductive End (h:Nat) (x y:St Rv) (B:Nat):Prop where
 |shut (z:St Rv) (e:y=clos z) (o:z.o.length<=B) (ex:Go.CW.Fits .u32 z.s.exp)
 |open_ (i:Inv h y) (op:y.s.op=true) (cl:y.s.cl=false) (p:y.s.p=x.s.p) (rd:y.s.rd.length<=4155) (o:y.o.length<=B)
theorem loop_end:∀(n:Nat) (x:St Rv) (B:Nat),Inv h x->x.s.op=true->x.s.cl=false->x.o.length+100*x.s.rd.length<=B->x.s.rd.length < n->End h x (loop wireP (λy _ c=>stepV h 64 y c) lgN n x) B:=by
 intro n
 induction n with
 |zero=>intro x B _ _ _ _ hn;omega
 |succ n ih=>
  intro x B i ho hcl hb hn
  rw[loop_succ]
  by_cases h5:decE x.s.rd=0
  ·rw[if_pos h5]
   have ol:=off_len h5
   obtain⟨k1,k2,k3⟩:=okP_dec h5
   rw[one_open ho]
   have eo:(off1 x).o=x.o:=rfl
   have er:(off1 x).s.rd=x.s.rd.drop (decN x.s.rd).toNat:=rfl
   rcases take_nx i.off k2 k3 with a|⟨z,a,hz,hx⟩
   ·have o1:=a.o
    rw[eo]at o1
    have o2:=a.rd
    rw[er]at o2
    rw[if_neg (by rw[a.cl];show ¬x.s.cl=true;rw[hcl];simp)]
    have:=ih _ B a.i (a.op.trans ho) (a.cl.trans hcl) (by rw[o2];omega) (by rw[o2];omega)
    cases this with
    |shut z e o ex=>exact .shut z e o ex
    |open_ i op cl p rd o=>exact .open_ i op cl (p.trans a.p) rd o
   ·rw[a]
    rw[eo]at hz
    rw[if_pos (show(clos z).s.cl=true from rfl)]
    exact .shut z rfl (by omega) hx
  ·rw[if_neg h5]
   by_cases h3:decE x.s.rd=3
   ·rw[if_pos h3]
    exact .open_ i ho hcl rfl (short_le h3) (by omega)
   ·rw[if_neg h3]
    exact .shut x rfl (by omega) i.ok.exp
theorem inp_end (i:Inv h x) (ho:x.s.op=true) (hcl:x.s.cl=false) (bs:List UInt8):End h x (inp wireP (λy _ c=>stepV h 64 y c) lgN x bs) (100*(x.s.rd.length+bs.length)):=by
 unfold inp
 rw[if_neg (by rw[hcl];simp)]
 have i':Inv h ({x with s:={x.s with rd:=x.s.rd++bs},o:=[]}:St Rv):=⟨i.fine,i.nm,i.nl,⟨i.ok.exp,i.ok.sn,i.ok.md,i.ok.bu,i.ok.L,i.ok.len⟩,i.cw,i.re⟩
 have:=loop_end (x.s.rd.length+bs.length+1) _ (100*(x.s.rd.length+bs.length)) i' ho hcl (by show 0+100*(x.s.rd++bs).length<=_;rw[List.length_append];omega) (by show(x.s.rd++bs).length < _;rw[List.length_append];omega)
 cases this with
 |shut z e o ex=>exact .shut z e o ex
 |open_ i op cl p rd o=>exact .open_ i op cl p rd o
end Go.Proofs.YtdinpgnjnleioaaGreatDoor.Rs
end
section
namespace Go.Proofs.YtdinpgnjnleioaaGreatDoor.Rs
open CW RowKit Pdu
open Ses (St Ses Wt Cm Rp Doer Wire m32 WtOk SOk EW EW_ld sl)
section
variable {K:Doer} {w w':World} {κ:Ses.Col} {S :Fp} {g gr:Nat} {acl rv lv tv:Value} {hs:List Ses.Sl} {FU:Fp} {A:List (List UInt8)} {bl:List (Value×List UInt8)} {x:St K.U}
theorem tName_c (h:Ses.SIn K w κ S g gr acl rv lv tv hs FU A bl x) {R:KV} (k:R (.string (textOf x.s.p.nm)) w):Zs 25 #[zA g] w R:=by
 apply q158W
 exact withAddr_some ⟨_,by rw[add_add];exact h.b.cell 3,k⟩
theorem tExp_c (h:Ses.SIn K w κ S g gr acl rv lv tv hs FU A bl x) {R:KV} (k:R (.int .u32 x.s.exp) w):Zs 26 #[zA g] w R:=by
 apply q155W
 exact withAddr_some ⟨_,h.b.cell 10,k⟩
theorem tClosed_c (h:Ses.SIn K w κ S g gr acl rv lv tv hs FU A bl x) {R:KV} (k:R (.bool x.s.cl) w):Zs 27 #[zA g] w R:=by
 apply q154W
 exact withAddr_some ⟨_,h.b.cell 9,k⟩
def sumHv (L:List Wt):Nat:=(L.map λv=>v.hv.length).sum
theorem sumHv_le:∀(L:List Wt),(∀v∈L,v.hv.length<=512)->sumHv L<=512*L.length:=by
 intro L
 induction L with
 |nil=>intro _;simp [sumHv]
 |cons a L ih=>
  intro hh
  have h1:=hh a (List.mem_cons_self ..)
  have h2:=ih λv hv=>hh v (List.mem_cons_of_mem _ hv)
  simp only[sumHv,List.map_cons,List.sum_cons,List.length_cons]at h2 ⊢
  omega
theorem sumHv_take (L:List Wt) {i:Nat} (hi:i < L.length):sumHv (L.take (i+1))=sumHv (L.take i)+(L[i]).hv.length:=by
 unfold sumHv
 rw[List.take_add_one,List.getElem?_eq_getElem hi,List.map_append,List.sum_append]
 simp
theorem tHeld_c (h:Ses.SIn K w κ S g gr acl rv lv tv hs FU A bl x) (hL:∀v∈x.s.L,v.hv.length<=512) (hlen:x.s.L.length<=16) (hrd:x.s.rd.length<=100000) {R:KV} (k:∀w',Grow w w'->R (.int .i64 ((x.s.rd.length+sumHv x.s.L:Nat):Int)) w'):Zs 79 #[zA g] w R:=by
 apply q156W
 refine withAddr_some ⟨_,h.b.cell 2,?_⟩
 apply q125W
 refine withAddr_some ⟨_,h.r.rb.cell 0,_,RdB.len h.r.ro.rd,⟨_,rfl,withAddr_some ⟨_,h.b.cell 12,_,h.r.l.rd.len,?_⟩⟩⟩
 have hz:(x.s.L.zip hs).length=x.s.L.length:=by simp [h.r.hl]
 rw[hz]
 refine⟨λ(n:Int) (i:Int) (ww:World)=>∃i':Nat,i=(i':Int)/\i'<=x.s.L.length/\n=((x.s.rd.length+sumHv (x.s.L.take i'):Nat):Int)/\Grow w ww,λ(_:Int) (i:Int) (_:World)=>((x.s.L.length:Int) - i).toNat,⟨0,rfl,by omega,by simp [sumHv],Grow.refl _⟩,?_⟩
 dsimp only[allR,mapR2,eqN,ltN]
 rintro m n i ww ⟨⟨i,rfl,hi,rfl,gg⟩,hm⟩
 have hsum:∀j,sumHv (x.s.L.take j)<=8192:=λj=>by
  have:=sumHv_le (x.s.L.take j) λv hv=>hL v (List.mem_of_mem_take hv)
  rw[List.length_take]at this
  omega
 refine cond_intro (λhc=>?_) (λhc=>?_)
 ·have hc:i < x.s.L.length:=by have:=of_decide_eq_true hc;omega
  have hg:Ses.SIn K ww κ S g gr acl rv lv tv hs FU A bl x:=⟨h.b.grow gg,h.r.grow gg⟩
  obtain⟨a,hi',ha,hp,hce,_⟩:=hg.elem hc
  refine⟨a,ha,_,_,_,_,_,_,_,_,_,_,_,_,EW_ld hce,nm λw25 e25=>?_⟩
  obtain⟨b25,g25,_⟩:=alE e25
  refine⟨b25.row rfl rfl,nm λw26 e26=>?_⟩
  obtain⟨b26,t26⟩:=rowE b25 e26 rfl
  have g26:Grow ww w26:=Below.turn g25 t26 (Nat.le_refl _)
  have hv:=hg.r.hv i hc hi'
  refine⟨_,b26.cell 9,_,RdB.len hv,?_⟩
  have h1:=hsum i
  have h2:=hL _ (List.getElem_mem hc)
  rw[wi64_id (n:=((x.s.rd.length+sumHv (x.s.L.take i):Nat):Int)+((x.s.L[i]).hv.length:Int)) (by omega) (by omega),wi64_id (n:=(i:Int)+1) (by omega) (by omega)]
  refine⟨⟨i+1,by omega,by omega,?_,gg.then g26⟩,by omega⟩
  rw[sumHv_take _ hc];omega
 ·have hc:i=x.s.L.length:=by have:=of_decide_eq_false hc;omega
  subst hc
  rw[List.take_of_length_le (Nat.le_refl _)]
  exact k ww gg
end
structure Two (g1 g2 a r h:Nat) (A:List (List UInt8)) (w:World) (S1 S2:Fp) (x:St Rf.Rv):Prop where
 a:Ses.SAt (Rf.docV g1 h) A w a S1 [] ({x with o:=[]}:St Rf.Rv)
 r:∃o2,SAt (Rf.docV g2 h) g2 A w r S2 [] ({x with o:=o2}:St Rf.Rv)
 ap:Apart S1 S2
inductive Fit (h:Nat) (x:St Rf.Rv):Prop where
 |shut (op:x.s.op=false) (cl:x.s.cl=true) (rd:x.s.rd=[]) (L:x.s.L=[]) (ex:Go.CW.Fits .u32 x.s.exp)
 |open_ (i:Inv h x) (op:x.s.op=true) (cl:x.s.cl=false) (rd:x.s.rd.length<=4155)
theorem Fit.held {h:Nat} {x:St Rf.Rv} (f:Fit h x):(∀v∈x.s.L,v.hv.length<=512)/\x.s.L.length<=16/\x.s.rd.length<=4155:=by
 cases f with
 |shut op cl rd L _=>rw[L,rd];exact⟨(λv hv=>by cases hv),by simp,by simp⟩
 |open_ i op cl rd=>exact⟨λv hv=>by have:=i.ok.L v hv;have a:=this.hv;have b:=this.out;omega,i.ok.len,rd⟩
theorem like_c {g1 g2 a r h:Nat} {A:List (List UInt8)} {w:World} {S1 S2:Fp} {x:St Rf.Rv} (t:Two g1 g2 a r h A w S1 S2 x) (f:Fit h x) {R:KV} (k:∀w',Grow w w'->R (.bool true) w'):
 Zs 31 #[zA a,zA r] w R:=by
 obtain⟨ha,⟨o2,hr⟩,ap⟩:=t
 obtain⟨κ,gr,acl,rv,lv,tv,hs,FU,ha⟩:=ha
 obtain⟨acl2,rv2,lv2,tv2,hb⟩:=hr.cells
 obtain⟨f1,f2,f3⟩:=f.held
 have up:∀{wz:World},Grow w wz->Ses.SIn (Rf.docV g1 h) wz κ S1 a gr acl rv lv tv hs FU A [] ({x with o:=[]}:St Rf.Rv):=λg=>⟨ha.b.grow g,ha.r.grow g⟩
 apply q21W
 refine JoinP.bool (λb ww=>b=false/\Grow w ww) (λj hj=>?_) ?_
 ·refine nm λw23 e23=>?_
  have g23:=drE e23
  refine withAddr_some ⟨_,(hb.grow g23).cell 5,nm λw26 e26=>?_⟩
  have g26:=drE e26
  refine tClosed_c (up g26) ⟨_,rfl,⟨_,(hb.grow g26).cell 5,rfl⟩,cond_f (by show(!(x.s.cl==x.s.cl))=false;simp) ?_⟩
  have hsm:=sumHv_le x.s.L f1
  refine tHeld_c (up g26) f1 f2 (by show x.s.rd.length<=_;omega) λw32 g32=>⟨_,rfl,cond_f (by simp;omega) ?_⟩
  refine tHeld_c (up (g26.then g32)) f1 f2 (by show x.s.rd.length<=_;omega) λw35 g35=>⟨_,rfl,hj _ _ ⟨?_,(g26.then g32).then g35⟩⟩
  rw[decide_eq_false_iff_not]
  show ¬(((x.s.rd.length+sumHv x.s.L:Nat):Int) > 12348)
  omega
 rintro b w1 ⟨rfl,g1'⟩
 refine cond_f rfl (JoinP.bool (λb ww=>b=true/\Grow w ww) (λj hj=>?_) ?_)
 ·refine nm λw5 e5=>?_
  have g5:=g1'.then (drE e5)
  refine withAddr_some ⟨_,(hb.grow g5).cell 4,cond_intro (λho=>nm λw8 e8=>hj _ _ ⟨rfl,g1'.then (drE e8)⟩) (λho=>?_)⟩
  refine withAddr_some ⟨_,by rw[add_add];exact(hb.grow g5).cell 6,nm λw11 e11=>?_⟩
  have g11:=g1'.then (drE e11)
  refine tName_c (up g11) ⟨_,rfl,⟨_,by rw[add_add];exact(hb.grow g11).cell 6,rfl⟩,cond_t (by simp) (withAddr_some ⟨_,(hb.grow g11).cell 11,?_⟩)⟩
  refine tExp_c (up g11) ⟨_,rfl,⟨_,(hb.grow g11).cell 11,rfl⟩,hj _ _ ⟨?_,g11⟩⟩
  show(x.s.exp==x.s.exp)=true
  simp
 rintro b w3 ⟨rfl,g3⟩
 exact k w3 g3
end Go.Proofs.YtdinpgnjnleioaaGreatDoor.Rs
end
section
namespace Go.Proofs.YtdinpgnjnleioaaGreatDoor.Rs
open CW RowKit Pdu
open Ses (St Ses Wt Cm Rp Doer Wire m32 WtOk SOk wireP wireP_ok inp Along NxOk)
open Rf (Rv stepV docV)
variable {g1 g2 a r h:Nat} {A:List (List UInt8)} {w:World} {S1 S2:Fp} {x:St Rv}
abbrev inpV (h:Nat) (x:St Rv) (bs:List UInt8):St Rv:=inp wireP (λy _ c=>stepV h 64 y c) lgN x bs
theorem Fit.next (f:Fit h x) (bs:List UInt8) (hb:bs.length<=1000):Fit h (inpV h x bs)/\(inpV h x bs).o.length<=515500:=by
 cases f with
 |shut op cl rd L ex=>
  have e:inpV h x bs={x with o:=[]}:=by unfold inpV inp;rw[if_pos cl]
  rw[e]
  exact⟨.shut op cl rd L ex,by simp⟩
 |open_ i op cl rd=>
  have:=inp_end i op cl bs
  cases this with
  |shut z e o ex=>
   unfold inpV
   rw[e]
   exact⟨.shut rfl rfl rfl rfl ex,by show z.o.length<=_;omega⟩
  |open_ i' op' cl' p' rd' o'=>exact⟨.open_ i' op' cl' rd',by show(inp wireP (λy _ c=>stepV h 64 y c) lgN x bs).o.length<=_;omega⟩
theorem Fit.along (f:Fit h x) (gd:Nat) {P:St Rv->Prop} (hP:∀y:St Rv,Inv h y->y.s.op=true->y.o.length<=900000000->P y) (bs:List UInt8) (hb:bs.length<=1000) (n:Nat):x.s.cl=false->Along wireP (docV gd h) lgN P n ({x with s:={x.s with rd:=x.s.rd++bs},o:=[]}:St Rv):=by
 intro hc
 cases f with
 |shut op cl rd L _=>rw[cl]at hc;cases hc
 |open_ i op cl rd=>
  have i':Inv h ({x with s:={x.s with rd:=x.s.rd++bs},o:=[]}:St Rv):=⟨i.fine,i.nm,i.nl,⟨i.ok.exp,i.ok.sn,i.ok.md,i.ok.bu,i.ok.L,i.ok.len⟩,i.cw,i.re⟩
  exact Rs.along gd hP n _ i' op (by show 0+100*(x.s.rd++bs).length<=_;rw[List.length_append];omega)
theorem Fit.re (f:Fit h x):x.s.cl=false->x.s.re=0:=by
 intro hc
 cases f with
 |shut op cl rd L _=>rw[cl]at hc;cases hc
 |open_ i op cl rd=>exact i.re
structure TwoD (D:St Rv->St Rv) (g1 g2 a r h:Nat) (A:List (List UInt8)) (w:World) (S1 S2:Fp) (x:St Rv):Prop where
 a:Ses.SAt (docV g1 h) A w a S1 [] ({x with o:=[]}:St Rv)
 r:∃o2,SAt (docV g2 h) g2 A w r S2 [] ({D x with o:=o2}:St Rv)
 ap:Apart S1 S2
theorem both_g (D:St Rv->St Rv) {Q:World->Prop} {F:St Rv->List UInt8->Prop} {nx:St Rv->List UInt8->St Rv} {v:Value} {bs:List UInt8} {R:KV}
 (hF:∀x rest n,n=min 999 rest.length->F x rest->rest≠[]->F (nx x (rest.take n)) (rest.drop n)/\(nx x (rest.take n)).o.length<=515500)
 (hD:∀x b,D (nx x b)=nx x b) (hE:∀x,F x []->Fit h x/\D x=x) (hQ:∀w',Md (λq=>S1 q\/S2 q) w.heap.size w w'->Q w')
 (hA:∀{ww:World} {S :Fp} {v:Value} {x:St Rv} {rest:List UInt8} {n:Nat} {R:KV},n=min 999 rest.length->F x rest->rest≠[]->Ses.SAt (docV g1 h) A ww a S [] ({x with o:=[]}:St Rv)->RdB ww v (rest.take n)->(∀q,v.ownBlock=some q->¬ S q)->(∀w' S',Step S ww w' S'->Q w')->
  (∀v' w' S',Step S ww w' S'->Ses.SAt (docV g1 h) A w' a S' [] ({nx x (rest.take n)with o:=[]}:St Rv)->RdB w' v' (nx x (rest.take n)).o->R v' w')->Zs 23 #[zA a,v] ww R)
 (hR:∀{ww:World} {S :Fp} {v:Value} {x:St Rv} {rest o2:List UInt8} {n:Nat} {R:KV},n=min 999 rest.length->F x rest->rest≠[]->SAt (docV g2 h) g2 A ww r S [] ({D x with o:=o2}:St Rv)->RdB ww v (rest.take n)->(∀q,v.ownBlock=some q->¬ S q)->
  (∀v' w' S',Step S ww w' S'->SAt (docV g2 h) g2 A w' r S' [] (nx x (rest.take n))->RdB w' v' (nx x (rest.take n)).o->R v' w')->Zs 30 #[zA r,v] ww R)
 (t:TwoD D g1 g2 a r h A w S1 S2 x) (f:F x bs) (hb:RdB w v bs) (hv:bs≠[]->∀q,v.ownBlock=some q->¬S1 q/\¬S2 q) (hl:bs.length<=5000)
 (k:∀w' S1' S2' x',Step (λq=>S1 q\/S2 q) w w' (λq=>S1' q\/S2' q)->Two g1 g2 a r h A w' S1' S2' x'->Fit h x'->R (.bool true) w'):
 Zs 12 #[zA a,zA r,v,.int .i64 (999:Int)] w R:=by
 apply q18W
 refine⟨λ(v1 v2 v3:Value) (ww:World)=>∃rest S1' S2' x' out,RdB ww v1 rest/\rest.length<=bs.length/\v1.ownBlock=v.ownBlock/\Md (λq=>S1 q\/S2 q) w.heap.size w ww/\(∀q,S1' q\/S2' q->(S1 q\/S2 q)\/w.heap.size<=q)/\TwoD D g1 g2 a r h A ww S1' S2' x'/\F x' rest/\(bs≠[]->∀q,v.ownBlock=some q->¬S1' q/\¬S2' q)/\
  OwnB ww w.heap.size tb v2 out/\OwnB ww w.heap.size tb v3 out/\(∀q,v2.ownBlock=some q->¬S1' q/\¬S2' q/\v3.ownBlock≠some q)/\(∀q,v3.ownBlock=some q->¬S1' q/\¬S2' q)/\out.length<=4000000/\(rest≠[]->out.length+600*rest.length<=600*bs.length),
  λ(v1 _ _:Value) (_:World)=>(sliceLen v1).getD 0,
  ⟨bs,S1,S2,x,[],hb,Nat.le_refl _,rfl,Md.refl _ _ _,λq hq=>.inl hq,t,f,hv,Own.nil _ _ _,Own.nil _ _ _,(λq hq=>by cases hq),(λq hq=>by cases hq),by simp,λ_=>by simp⟩,?_⟩
 dsimp only[allR,mapR2,eqN,ltN]
 rintro m v1 v2 v3 ww ⟨⟨rest,S1',S2',x',out,r1,hrl,hvo,md,fp,tw,ft,hv',o2,o3,n2,n3,hol,hor⟩,hm⟩
 have hlen:=RdB.len r1
 rw[hlen]at hm
 simp only[Option.getD_some]at hm
 refine⟨_,hlen,cond_intro (λhc=>?_) (λhc=>?_)⟩
 ·have hc:0 < rest.length:=by have:=of_decide_eq_true hc;omega
  have hne:rest≠[]:=λe=>by rw[e]at hc;simp at hc
  have hbs:bs≠[]:=λe=>by rw[e]at hrl;exact hne (List.eq_nil_of_length_eq_zero (by simpa using hrl))
  have hvo':=hv' hbs
  have hor:=hor hne
  refine⟨_,hlen,JoinP.int (λn w8=>n=((min 999 rest.length:Nat):Int)/\w8=ww) (λj hj=>cond_intro (λq=>hj _ _ ⟨by have:=of_decide_eq_true q;omega,rfl⟩) (λq=>hj _ _ ⟨by have:=of_decide_eq_false q;omega,rfl⟩)) ?_⟩
  rintro n w8 ⟨rfl,rfl⟩
  obtain⟨n,hn⟩:∃n,n=min 999 rest.length:=⟨_,rfl⟩
  rw[←hn]
  obtain⟨v9,hs9,hr9,ho9⟩:=Rd.sub r1 (lo:=none) (hi:=some (.int .i64 (n:Int))) (l:=0) (r:=n) (λcap hcap=>by rw[bounds_ni (by omega) (by simp at hcap;omega)];simp) (by omega) (by simp;omega)
  obtain⟨bp,hbp⟩:∃bp,bp=rest.take n:=⟨_,rfl⟩
  have r9:RdB w8 v9 bp:=by
   have e:((rest.map b8).drop 0).take (n - 0)=bp.map b8:=by rw[List.drop_zero,Nat.sub_zero,hbp,List.map_take]
   rw[e]at hr9;exact hr9
  have hbl:bp.length=n:=by rw[hbp,List.length_take];omega
  obtain⟨ta,⟨oo,tr⟩,tap⟩:=tw
  have lt1:=ta.lt
  have lt2:=tr.lt
  obtain⟨f',fo⟩:=hF _ _ _ hn ft hne
  rw[←hbp]at f' fo
  have zw:=md.size
  have hv9:bp≠[]->∀q,v9.ownBlock=some q->¬S1' q/\¬S2' q:=λ_ q hq=>hvo' q (hvo▸ho9▸hq)
  have bpne:bp≠[]:=λe=>by rw[e]at hbl;simp at hbl;omega
  refine⟨v9,hs9,hA hn ft hne ta (hbp▸r9) (λq hq=>(hv9 bpne q hq).1) (λw' S' st=>hQ _ (md.stp (T':=S') st (λq hq=>fp q (.inl hq)) (λq hq=>(st.fp q hq).elim (λz=>.inl (fp q (.inl z))) (λz=>.inr z)))) λv10 w11 S1a st1 ha' rd10=>?_⟩
  rw[←hbp]at ha' rd10
  have ha':Ses.SAt (docV g1 h) A w11 a S1a [] ({nx x' bp with o:=[]}:St Rv):=ha'
  have rd10:RdB w11 v10 (nx x' bp).o:=rd10
  have z11:=st1.size
  have S1n:∀q,S1a q->S1' q\/w8.heap.size<=q:=st1.fp
  have tr11:=tr.apart st1 (λq h2 h1=>tap q h1 h2)
  have o2a:=o2.stepS st1 (λq hq=>(n2 q hq).1)
  have o3a:=o3.stepS st1 (λq hq=>(n3 q hq).1)
  have hv1:∀q,v1.ownBlock=some q->q < w.heap.size:=λq hq=>Rd.lt hb (by simpa using hbs) q (hvo▸hq)
  have r1a:RdB w11 v1 rest:=r1.stepS st1 (λ_ q hq=>(hvo' q (hvo▸hq)).1)
  have md11:Md (λq=>S1 q\/S2 q) w.heap.size w w11:=md.stp (T':=S1a) st1 (λq hq=>fp q (.inl hq)) (λq hq=>(S1n q hq).elim (λz=>.inl (fp q (.inl z))) (λz=>.inr z))
  obtain⟨v12,w13,k12,o12,n12⟩:=app_bytes o2a rd10 (Nat.le_trans zw z11) (by omega)
  refine⟨v12,w13,k12,?_⟩
  have st2:Step (λq=>v2.ownBlock=some q) w11 w13 (λq=>v2.ownBlock=some q\/v12.ownBlock=some q):=Step.of_own n12 (λ_ hq=>hq)
  have z13:=st2.size
  have l2:∀q,v2.ownBlock=some q->q < w8.heap.size:=λq hq=>o2.ltS q hq
  have l3:∀q,v3.ownBlock=some q->q < w8.heap.size:=λq hq=>o3.ltS q hq
  have a13:=ha'.apart st2 (λq hS e=>by
   rcases S1n q hS with z|z
   ·exact(n2 q e).1 z
   ·have:=l2 q e;omega)
  have tr13:=tr11.apart st2 (λq hS e=>(n2 q e).2.1 hS)
  have o3b:=o3a.stepS st2 (λq hq e=>(n2 q e).2.2 hq)
  have r1b:RdB w13 v1 rest:=r1a.stepS st2 (λ_ q hq e=>by have:=hv1 q hq;have:=o2.blk q e;omega)
  have md13:Md (λq=>S1 q\/S2 q) w.heap.size w w13:=md11.stp (T':=λq=>v2.ownBlock=some q\/v12.ownBlock=some q) st2 (λq hq=>.inr (o2.blk q hq)) (λq hq=>hq.elim (λz=>.inl (.inr (o2.blk q z))) (λz=>.inl (.inr (o12.blk q z))))
  have q12:∀q,v12.ownBlock=some q->v2.ownBlock=some q\/w11.heap.size<=q:=λq hq=>by
   rcases n12.at_ with e|e
   ·exact .inl (e▸hq)
   ·exact .inr (e q hq)
  obtain⟨v14,hs14,hr14,ho14⟩:=Rd.sub r1b (lo:=none) (hi:=some (.int .i64 (n:Int))) (l:=0) (r:=n) (λcap hcap=>by rw[bounds_ni (by omega) (by simp at hcap;omega)];simp) (by omega) (by simp;omega)
  have r14:RdB w13 v14 bp:=by
   have e:((rest.map b8).drop 0).take (n - 0)=bp.map b8:=by rw[List.drop_zero,Nat.sub_zero,hbp,List.map_take]
   rw[e]at hr14;exact hr14
  refine⟨v14,hs14,hR hn ft hne tr13 (hbp▸r14) (λq hq=>(hvo' q (hvo▸ho14▸hq)).2) λv15 w16 S2a st3 hr' rd15=>?_⟩
  rw[←hbp]at hr' rd15
  have hr':SAt (docV g2 h) g2 A w16 r S2a [] (nx x' bp):=hr'
  have rd15:RdB w16 v15 (nx x' bp).o:=rd15
  have z16:=st3.size
  have S2n:∀q,S2a q->S2' q\/w13.heap.size<=q:=st3.fp
  have ap1:Apart S1a S2':=λq h1 h2=>by
   rcases S1n q h1 with z|z
   ·exact tap q z h2
   ·have:=lt2 q h2;omega
  have a16:=a13.apart st3 ap1
  have o12a:=o12.stepS st3 (λq hq h2=>by
   rcases q12 q hq with z|z
   ·exact(n2 q z).2.1 h2
   ·have:=lt2 q h2;omega)
  have o3c:=o3b.stepS st3 (λq hq=>(n3 q hq).2)
  have r1c:RdB w16 v1 rest:=r1b.stepS st3 (λ_ q hq=>(hvo' q (hvo▸hq)).2)
  have md16:Md (λq=>S1 q\/S2 q) w.heap.size w w16:=md13.stp (T':=S2a) st3 (λq hq=>fp q (.inr hq)) (λq hq=>(S2n q hq).elim (λz=>.inl (fp q (.inr z))) (λz=>.inr z))
  obtain⟨v17,w18,k17,o17,n17⟩:=app_bytes o3c rd15 (by omega) (by omega)
  refine⟨v17,w18,k17,?_⟩
  have st4:Step (λq=>v3.ownBlock=some q) w16 w18 (λq=>v3.ownBlock=some q\/v17.ownBlock=some q):=Step.of_own n17 (λ_ hq=>hq)
  have ls1:=a16.lt
  have ls2:=hr'.lt
  have a18:=a16.apart st4 (λq hS e=>by
   rcases S1n q hS with z|z
   ·exact(n3 q e).1 z
   ·have:=l3 q e;omega)
  have r18:=hr'.apart st4 (λq hS e=>by
   rcases S2n q hS with z|z
   ·exact(n3 q e).2 z
   ·have:=l3 q e;omega)
  have n12':∀q,v12.ownBlock=some q->v3.ownBlock≠some q:=λq hq e=>by
   rcases q12 q hq with z|z
   ·exact(n2 q z).2.2 e
   ·have:=l3 q e;omega
  have o12b:=o12a.stepS st4 (λq hq e=>n12' q hq e)
  have r1d:RdB w18 v1 rest:=r1c.stepS st4 (λ_ q hq e=>by have:=hv1 q hq;have:=o3.blk q e;omega)
  have md18:Md (λq=>S1 q\/S2 q) w.heap.size w w18:=md16.stp (T':=λq=>v3.ownBlock=some q\/v17.ownBlock=some q) st4 (λq hq=>.inr (o3.blk q hq)) (λq hq=>hq.elim (λz=>.inl (.inr (o3.blk q z))) (λz=>.inl (.inr (o17.blk q z))))
  obtain⟨v19,hs19,hr19,ho19⟩:=Rd.sub r1d (lo:=some (.int .i64 (n:Int))) (hi:=none) (l:=n) (r:=rest.length) (λcap hcap=>by rw[List.length_map,bounds_in (by omega) (by omega)];simp) (by omega) (by simp)
  have r19:RdB w18 v19 (rest.drop n):=by
   have e:((rest.map b8).drop n).take (rest.length - n)=(rest.drop n).map b8:=by rw[List.map_drop,List.take_of_length_le (by simp)]
   rw[e]at hr19;exact hr19
  have q17:∀q,v17.ownBlock=some q->v3.ownBlock=some q\/w16.heap.size<=q:=λq hq=>by
   rcases n17.at_ with e|e
   ·exact .inl (e▸hq)
   ·exact .inr (e q hq)
  refine⟨v19,hs19,⟨rest.drop n,S1a,S2a,nx x' bp,out++(nx x' bp).o,r19,by rw[List.length_drop];omega,ho19.trans hvo,md18,?_,⟨a18,⟨(nx x' bp).o,by rw[hD];exact r18⟩,?_⟩,f',?_,o12b,o17,?_,?_,by rw[List.length_append];omega,?_⟩,?_⟩
  ·rintro q (hq|hq)
   ·rcases S1n q hq with z|z
    ·exact fp q (.inl z)
    ·exact .inr (by omega)
   ·rcases S2n q hq with z|z
    ·exact fp q (.inr z)
    ·exact .inr (by omega)
  ·intro q h1 h2
   rcases S2n q h2 with z|z
   ·exact ap1 q h1 z
   ·have:q < w11.heap.size:=ha'.lt q h1
    omega
  ·intro _ q hq
   have hlt:q < w.heap.size:=Rd.lt hb (by simpa using hbs) q hq
   refine⟨λh1=>?_,λh2=>?_⟩
   ·rcases S1n q h1 with z|z
    ·exact(hvo' q hq).1 z
    ·omega
   ·rcases S2n q h2 with z|z
    ·exact(hvo' q hq).2 z
    ·omega
  ·intro q hq
   have hlt:q < w13.heap.size:=o12.ltS q hq
   refine⟨λh1=>?_,λh2=>?_,λe=>?_⟩
   ·rcases q12 q hq with z|z
    ·rcases S1n q h1 with y|y
     ·exact(n2 q z).1 y
     ·have:=l2 q z;omega
    ·have:=ha'.lt q h1;omega
   ·rcases S2n q h2 with y|y
    ·rcases q12 q hq with z|z
     ·exact(n2 q z).2.1 y
     ·have:=lt2 q y;omega
    ·omega
   ·rcases q17 q e with z|z
    ·exact n12' q hq z
    ·omega
  ·intro q hq
   refine⟨λh1=>?_,λh2=>?_⟩
   ·rcases q17 q hq with z|z
    ·rcases S1n q h1 with y|y
     ·exact(n3 q z).1 y
     ·have:=l3 q z;omega
    ·have:=ha'.lt q h1;omega
   ·rcases q17 q hq with z|z
    ·rcases S2n q h2 with y|y
     ·exact(n3 q z).2 y
     ·have:=l3 q z;omega
    ·have:=ls2 q h2;omega
  ·intro hx
   have:n < rest.length:=by
    apply Decidable.byContradiction
    intro hh
    exact hx (List.drop_eq_nil_of_le (by omega))
   rw[List.length_append,List.length_drop]
   omega
  ·rw[RdB.len r19]
   simp only[Option.getD_some,List.length_drop]
   omega
 ·have hc:rest=[]:=List.eq_nil_of_length_eq_zero (by have:=of_decide_eq_false hc;omega)
  obtain⟨hfit,hDx⟩:=hE _ (hc▸ft)
  have tw:Two g1 g2 a r h A ww S1' S2' x':=⟨tw.a,by have:=tw.r;rw[hDx]at this;exact this,tw.ap⟩
  refine JoinP.bool (λb w22=>b=true/\∃g,g=Grow ww w22/\Grow ww w22) (λj hj=>⟨_,to_text o2.rd,_,to_text o3.rd,cond_t (by simp) (like_c tw hfit λw27 g27=>⟨_,rfl,hj _ _ ⟨rfl,_,rfl,g27⟩⟩)⟩) ?_
  rintro b w22 ⟨rfl,_,_,g22⟩
  refine k w22 S1' S2' x' ((md.grow g22).out.imp (λ_ h=>h) fp) ⟨tw.a.grow g22,?_,tw.ap⟩ hfit
  obtain⟨oo,tr⟩:=tw.r
  exact⟨oo,tr.grow g22⟩
theorem both_c (t:Two g1 g2 a r h A w S1 S2 x) (f:Fit h x) {v:Value} {bs:List UInt8} (hb:RdB w v bs) (hv:bs≠[]->∀q,v.ownBlock=some q->¬S1 q/\¬S2 q) (hl:bs.length<=5000) {R:KV}
 (k:∀w' S1' S2' x',Step (λq=>S1 q\/S2 q) w w' (λq=>S1' q\/S2' q)->Two g1 g2 a r h A w' S1' S2' x'->Fit h x'->R (.bool true) w'):
 Zs 12 #[zA a,zA r,v,.int .i64 (999:Int)] w R:=by
 have cut:∀{rest:List UInt8} {n:Nat},n=min 999 rest.length->(rest.take n).length<=999:=λhn=>by rw[List.length_take];omega
 refine both_g (λx=>x) (Q:=λ_=>True) (F:=λx _=>Fit h x) (nx:=λx b=>inpV h x b) (λx rest n hn f _=>f.next _ (by have:=cut hn;omega)) (λ_ _=>rfl) (λx f=>⟨f,rfl⟩) (λ_ _=>trivial)
  (λ{ww S v x rest n R} hn f hne ta r9 hq _ k=>?_) (λ{ww S v x rest o2 n R} hn f hne tr r9 hq k=>?_) ⟨t.a,t.r,t.ap⟩ f hb hv hl k
 ·have c:=cut hn
  obtain⟨_,_,f3⟩:=f.held
  refine Ses.In_c wireP_ok (Q:=λ_=>True) (lg:=lgN) ta r9 (λ_ _ _=>trivial) (λ_=>hq) (by show x.s.rd.length+_<=_;omega) f.re (f.along g1 (λy i o b=>nx_ok g1 _ A i o b) _ (by omega) _) λv w S st a b _=>?_
  have a:Ses.SAt (docV g1 h) A w _ S [] ({inpV h x (rest.take n)with o:=[]}:St Rv):=a
  have b:RdB w v (inpV h x (rest.take n)).o:=b
  exact k v w S st a b
 ·have c:=cut hn
  obtain⟨_,_,f3⟩:=f.held
  refine In_c wireP_d (Rf.docV_direct g2 h) (lg:=lgN) tr r9 (λ_=>hq) (by show x.s.rd.length+_<=_;omega) f.re (f.along g2 (λy i o b=>nx_d g2 A i o b) _ (by omega) _) λv w S st a b=>?_
  have a:SAt (docV g2 h) g2 A w _ S [] (inpV h x (rest.take n)):=a
  have b:RdB w v (inpV h x (rest.take n)).o:=b
  exact k v w S st a b
end Go.Proofs.YtdinpgnjnleioaaGreatDoor.Rs
end
