/- A part of the proof. -/
import Derived.Test.YtdpmhkbhlbfbeaaGreatDoorZLgnX
import Derived.Test.YtdpmhkbhlbfbeaaGreatDoorZWirX
set_option linter.unusedSimpArgs false
set_option linter.unusedVariables false
set_option maxRecDepth 100000
section
namespace Go.Proofs.YtdpmhkbhlbfbeaaGreatDoor.Pdu
open CW RowKit Crc
theorem front_app (p:Pd) (n:Nat) (post:List UInt8) (hf:PdFits p) (hk:okP p=true) (hn:n<=4096):
 pdOf (hdr p n++(le4 (sum (hdr p n))++post))=p/\dn (hdr p n++(le4 (sum (hdr p n))++post))=n/\frontE (hdr p n++(le4 (sum (hdr p n))++post))=0/\(hdr p n++(le4 (sum (hdr p n))++post)).drop 52=post:=by
 obtain⟨r1,r2,r3,r4,r5⟩:=hdr_read p n (le4 (sum (hdr p n))++post) hf hk hn
 have eh:=take48 p n (le4 (sum (hdr p n))++post)
 have hl:=hdr_length p n
 have l4:=le4_length (sum (hdr p n))
 refine⟨r1,r2,?_,?_⟩
 ·unfold frontE
  rw[if_neg (by simp only[List.length_append];omega),eh.1,eh.2]
  have:(le4 (sum (hdr p n))++post).take 4=le4 (sum (hdr p n)):=rfl
  rw[this,if_pos rfl,if_neg (by rw[r3,r4];simp),r5,if_neg (by omega)]
 ·have:(hdr p n++(le4 (sum (hdr p n))++post)).drop 52=((hdr p n++(le4 (sum (hdr p n))++post)).drop 48).drop 4:=by rw[List.drop_drop]
  rw[this,eh.2];rfl
theorem enc_split (p:Pd) (ds rest:List UInt8):encP p ds++rest=hdr p ds.length++(le4 (sum (hdr p ds.length))++((if ds=[] then[] else sealed (pad4 ds))++rest)):=by
 unfold encP sealed;simp only[List.append_assoc]
theorem dec_app (p:Pd) (ds rest:List UInt8) (hf:PdFits p) (hk:okP p=true) (hn:ds.length<=4096):
 decE (encP p ds++rest)=0/\pdOf (encP p ds++rest)=p/\decD (encP p ds++rest)=ds/\decN (encP p ds++rest)=(encP p ds).length:=by
 have hl:=encP_length p ds
 obtain⟨r1,r2,fe,d52⟩:=front_app p ds.length ((if ds=[] then[] else sealed (pad4 ds))++rest) hf hk hn
 rw[←enc_split]at r1 r2 fe d52
 by_cases hds:ds=[]
 ·subst hds
  have r2:dn (encP p []++rest)=0:=r2
  refine⟨?_,r1,?_,?_⟩
  ·unfold decE;rw[if_neg (by rw[fe];simp),if_pos r2]
  ·unfold decD;rw[r2];rfl
  ·unfold decN;rw[if_pos r2,hl];rfl
 ·rw[if_neg hds]at d52 hl
  have h0:dn (encP p ds++rest)≠0:=by rw[r2];exact λh=>hds (List.eq_nil_of_length_eq_zero h)
  have ew:dw (encP p ds++rest)=(pad4 ds).length:=by unfold dw;rw[r2,pad4_length]
  obtain⟨pn1,pn2⟩:=padN4 ds.length
  have pl:=pad4_length ds
  have d52':(encP p ds++rest).drop 52=pad4 ds++(le4 (sum (pad4 ds))++rest):=by rw[d52];unfold sealed;rw[List.append_assoc]
  have t1:((encP p ds++rest).drop 52).take (dw (encP p ds++rest))=pad4 ds:=by
   rw[d52',ew,List.take_append_of_le_length (Nat.le_refl _),List.take_of_length_le (Nat.le_refl _)]
  have t2:(((encP p ds++rest).drop 52).drop (dw (encP p ds++rest))).take 4=le4 (sum (pad4 ds)):=by
   rw[d52',ew,List.drop_append_of_le_length (Nat.le_refl _),List.drop_of_length_le (Nat.le_refl _)];rfl
  refine⟨?_,r1,?_,?_⟩
  ·unfold decE
   rw[if_neg (by rw[fe];simp),if_neg h0,if_neg (by rw[List.length_append];omega),t1,t2,if_pos rfl,if_pos]
   unfold pad4 padS
   rw[r2,List.drop_append_of_le_length (Nat.le_refl _),List.drop_of_length_le (Nat.le_refl _),List.nil_append,pn1]
   congr 1;omega
  ·unfold decD
   rw[d52',r2];unfold pad4 padS
   rw[List.append_assoc,List.take_append_of_le_length (Nat.le_refl _),List.take_of_length_le (Nat.le_refl _)]
  ·unfold decN
   rw[if_neg h0,hl,ew];omega
theorem short_nil:decE []=3:=by unfold decE frontE;simp
end Go.Proofs.YtdpmhkbhlbfbeaaGreatDoor.Pdu
namespace Go.Proofs.YtdpmhkbhlbfbeaaGreatDoor.Ses
open CW RowKit Pdu
variable {W:Wire} {K:Doer} {w w':World} {S :Fp} {g:Nat} {A:List (List UInt8)}
theorem inp_part {U:Type} {W:Wire} {du:U->List UInt8->Cm->Rp×U} {lg:St U->Pd->List UInt8->St U} {x:St U} {bs:List UInt8} (hc:x.s.cl=false) (h:decE (x.s.rd++bs)=3):
 inp W du lg x bs={x with s:={x.s with rd:=x.s.rd++bs},o:=[]}:=by
 unfold inp
 rw[if_neg (by rw[hc];simp),loop_succ]
 show(if decE (x.s.rd++bs)=0 then _ else if decE (x.s.rd++bs)=3 then _ else _)=_
 rw[if_neg (by rw[h];decide),if_pos h]
theorem loop_short {U:Type} {W:Wire} {du:U->List UInt8->Cm->Rp×U} {lg:St U->Pd->List UInt8->St U} {x:St U} (h:decE x.s.rd=3) (n:Nat):loop W du lg n x=x:=by
 cases n with
 |zero=>rfl
 |succ n=>rw[loop_succ,if_neg (by rw[h];decide),if_pos h]
theorem inp_last {U:Type} {W:Wire} {du:U->List UInt8->Cm->Rp×U} {lg:St U->Pd->List UInt8->St U} {x:St U} {bs:List UInt8} {p:Pd} {ds:List UInt8} (hc:x.s.cl=false) (hf:PdFits p) (hk:okP p=true) (hn:ds.length<=4096) (h:x.s.rd++bs=encP p ds)
 (hrd:(one W du lg {x with s:={x.s with rd:=[]},o:=[]} p ds).s.rd=[]):
 inp W du lg x bs=one W du lg {x with s:={x.s with rd:=[]},o:=[]} p ds:=by
 unfold inp
 rw[if_neg (by rw[hc];simp),loop_succ]
 obtain⟨d1,d2,d3,d4,_⟩:=dec_enc p ds hf hk hn
 have eo:off1 ({x with s:={x.s with rd:=x.s.rd++bs},o:=[]}:St U)={x with s:={x.s with rd:=[]},o:=[]}:=by
  unfold off1
  show({x with s:={x.s with rd:=(x.s.rd++bs).drop (decN (x.s.rd++bs)).toNat},o:=[]}:St U)=_
  rw[h,d4];simp
 show(if decE (x.s.rd++bs)=0 then(if(one W du lg (off1 ({x with s:={x.s with rd:=x.s.rd++bs},o:=[]}:St U)) (pdOf (x.s.rd++bs)) (decD (x.s.rd++bs))).s.cl then one W du lg (off1 ({x with s:={x.s with rd:=x.s.rd++bs},o:=[]}:St U)) (pdOf (x.s.rd++bs)) (decD (x.s.rd++bs))else loop W du lg (x.s.rd.length+bs.length) (one W du lg (off1 ({x with s:={x.s with rd:=x.s.rd++bs},o:=[]}:St U)) (pdOf (x.s.rd++bs)) (decD (x.s.rd++bs))))else _)=_
 rw[eo,h,d2,d3,if_pos d1]
 split
 ·rfl
 ·exact loop_short (by rw[hrd];exact short_nil) _
theorem InPart_c (HW:WireOk W) {Q:World->Prop} {lg:St K.U->Pd->List UInt8->St K.U} {x:St K.U} {src:Value} {bs:List UInt8} (h:SAt K A w g S [] x) (hr:RdB w src bs) (hQ:∀w' S',Step S w w' S'->Q w') (hro:bs≠[]->∀q,src.ownBlock=some q->¬ S q) (hl:x.s.rd.length+bs.length<=1000000)
 (hc:x.s.cl=false) (hre:x.s.re=0) (hs:decE (x.s.rd++bs)=3) {R:KV}
 (k:∀v w' S',Step S w w' S'->SAt K A w' g S' [] ({x with s:={x.s with rd:=x.s.rd++bs},o:=[]}:St K.U)->RdB w' v []->(∀q,v.ownBlock=some q->(S q\/w.heap.size<=q)/\¬S' q)->R v w'):
 Zs 30 #[zA g,src] w R:=by
 have e:=inp_part (W:=W) (du:=K.step) (lg:=lg) (x:=x) (bs:=bs) hc hs
 refine In_c HW (Q:=Q) (lg:=lg) h hr hQ hro hl (λ_=>hre) (λ_=>⟨⟨hre,by simp,λh0=>?_,λh0=>?_,λh0=>?_⟩,λh0=>?_⟩) λv w' S' st h' r' o'=>k v w' S' st ?_ ?_ o'
 ·exact absurd (h0.symm.trans hs) (by decide)
 ·exact absurd (h0.symm.trans hs) (by decide)
 ·exact absurd (h0.symm.trans hs) (by decide)
 ·exact absurd (h0.symm.trans hs) (by decide)
 ·rw[e]at h';exact h'
 ·rw[e]at r';exact r'
theorem InLast_c (HW:WireOk W) {Q:World->Prop} {lg:St K.U->Pd->List UInt8->St K.U} {x:St K.U} {src:Value} {bs:List UInt8} {p:Pd} {ds:List UInt8} (h:SAt K A w g S [] x) (hr:RdB w src bs) (hQ:∀w' S',Step S w w' S'->Q w') (hro:bs≠[]->∀q,src.ownBlock=some q->¬ S q) (hl:x.s.rd.length+bs.length<=1000000)
 (hc:x.s.cl=false) (hre:x.s.re=0) (hf:PdFits p) (hk:okP p=true) (hn:ds.length<=4096) (he:x.s.rd++bs=encP p ds)
 (htk:x.s.op=true->SOk x.s/\TkOk W K {x with s:={x.s with rd:=[]},o:=[]} p ds) (hlo:x.s.op=false->LogOk Q K A lg {x with s:={x.s with rd:=[]},o:=[]} p ds)
 {y:St K.U} (hy:y=one W K.step lg {x with s:={x.s with rd:=[]},o:=[]} p ds) (hrd:y.s.rd=[]) (hye:y.s.re=0) (hyo:y.o.length<=900000000) {R:KV}
 (k:∀v w' S',Step S w w' S'->SAt K A w' g S' [] ({y with o:=[]}:St K.U)->RdB w' v y.o->(∀q,v.ownBlock=some q->(S q\/w.heap.size<=q)/\¬S' q)->R v w'):
 Zs 30 #[zA g,src] w R:=by
 subst hy
 have e:=inp_last (W:=W) (du:=K.step) (lg:=lg) hc hf hk hn he hrd
 obtain⟨d1,d2,d3,d4,_⟩:=dec_enc p ds hf hk hn
 have eo:off1 ({x with s:={x.s with rd:=x.s.rd++bs},o:=[]}:St K.U)={x with s:={x.s with rd:=[]},o:=[]}:=by
  unfold off1
  show({x with s:={x.s with rd:=(x.s.rd++bs).drop (decN (x.s.rd++bs)).toNat},o:=[]}:St K.U)=_
  rw[he,d4];simp
 have hs:SOk x.s->SOk ({x with s:={x.s with rd:=x.s.rd++bs},o:=[]}:St K.U).s:=λa=>⟨a.exp,a.sn,a.md,a.bu,a.L,a.len⟩
 refine In_c HW (Q:=Q) (lg:=lg) h hr hQ hro hl (λ_=>hre) (λ_=>⟨⟨hre,by simp,λh0 hop=>?_,λh0 hop=>?_,λh0 hcl=>?_⟩,λh0 hcl=>?_⟩) λv w' S' st h' r' o'=>k v w' S' st ?_ ?_ o'
 ·refine⟨hs (htk hop).1,?_⟩
  rw[eo]
  show TkOk W K _ (pdOf (x.s.rd++bs)) (decD (x.s.rd++bs))
  rw[he,d2,d3];exact(htk hop).2
 ·rw[eo]
  show LogOk Q K A lg _ (pdOf (x.s.rd++bs)) (decD (x.s.rd++bs))
  rw[he,d2,d3];exact hlo hop
 ·rw[eo]
  show(one W K.step lg _ (pdOf (x.s.rd++bs)) (decD (x.s.rd++bs))).s.rd=_
  rw[he,d2,d3,hrd]
 ·have ea:one W K.step lg (off1 ({x with s:={x.s with rd:=x.s.rd++bs},o:=[]}:St K.U)) (pdOf (x.s.rd++bs)) (decD (x.s.rd++bs))=one W K.step lg {x with s:={x.s with rd:=[]},o:=[]} p ds:=by rw[eo,he,d2,d3]
  show Along W K lg (NxOk Q W K A lg) (x.s.rd.length+bs.length) (one W K.step lg (off1 ({x with s:={x.s with rd:=x.s.rd++bs},o:=[]}:St K.U)) (pdOf (x.s.rd++bs)) (decD (x.s.rd++bs)))
  rw[ea]
  generalize one W K.step lg {x with s:={x.s with rd:=[]},o:=[]} p ds=y at *
  have h3:decE y.s.rd=3:=by rw[hrd];exact short_nil
  cases x.s.rd.length+bs.length with
  |zero=>trivial
  |succ n=>exact⟨⟨hye,hyo,λh0=>absurd (h0.symm.trans h3) (by decide),λh0=>absurd (h0.symm.trans h3) (by decide),λh0=>absurd (h0.symm.trans h3) (by decide)⟩,λh0=>absurd (h0.symm.trans h3) (by decide)⟩
 ·rw[e]at h';exact h'
 ·rw[e]at r';exact r'
end Go.Proofs.YtdpmhkbhlbfbeaaGreatDoor.Ses
end
section
namespace Go.Proofs.YtdpmhkbhlbfbeaaGreatDoor.Cli
open CW RowKit Pdu
abbrev Pq:=Pd×List UInt8
def encs (l:List Pq):List UInt8:=l.flatMap λq=>encP q.1 q.2
structure PqOk (q:Pq):Prop where
 f:PdFits q.1
 k:okP q.1=true
 n:q.2.length<=4096
variable {sen:List UInt8->Int×Int×Int×Int} {lg:Cl->Pd->List UInt8->Cl} {Q:World->Prop}
theorem ready_rd (c:Cl) (a:Ak) (p:Pd) (r:List UInt8):ready {c with rd:=r} a p={ready c a p with rd:=r}:=by
 unfold ready
 dsimp only
 split<;>rfl
def mxC (c:Cl) (p:Pd):Cl:=if 0 < gap c.mx p.mx then{c with mx:=p.mx} else c
def act (sen:List UInt8->Int×Int×Int×Int) (x:Cl) (p:Pd) (ds:List UInt8):Cl:=
 match posOf x.L p.tag with
 |none=>x
 |some i=>match x.L[i]? with
  |none=>x
  |some a=>
   if p.op=49 then ready x a p
   else if p.op=37 then(if p.off=(a.hv.length:Int)/\a.hv.length < 4096 then{x with L:=x.L.set i {a with hv:=a.hv++ds}} else x)
   else if p.op=33 then respond sen x i a p ds
   else x
theorem take_act (c:Cl) (p:Pd) (ds:List UInt8):take sen lg c p ds=if c.op=false then lg c p ds else if p.op=38 then clos (mxC c p)else act sen (mxC c p) p ds:=rfl
theorem mxC_rd (c:Cl) (p:Pd) (r:List UInt8):mxC {c with rd:=r} p={mxC c p with rd:=r}:=by
 by_cases h:0 < gap c.mx p.mx
 ·have e1:mxC {c with rd:=r} p={c with rd:=r,mx:=p.mx}:=if_pos h
  have e2:mxC c p={c with mx:=p.mx}:=if_pos h
  rw[e1,e2]
 ·have e1:mxC {c with rd:=r} p={c with rd:=r}:=if_neg h
  have e2:mxC c p=c:=if_neg h
  rw[e1,e2]
theorem act_rd (x:Cl) (p:Pd) (ds r:List UInt8):act sen {x with rd:=r} p ds={act sen x p ds with rd:=r}:=by
 cases h1:posOf x.L p.tag with
 |none=>simp only[act,h1]
 |some i=>
  cases h2:x.L[i]? with
  |none=>simp only[act,h1,h2]
  |some a=>
   have e1:act sen {x with rd:=r} p ds=if p.op=49 then ready {x with rd:=r} a p else if p.op=37 then(if p.off=(a.hv.length:Int)/\a.hv.length < 4096 then{x with rd:=r,L:=x.L.set i {a with hv:=a.hv++ds}} else{x with rd:=r})else if p.op=33 then respond sen {x with rd:=r} i a p ds else{x with rd:=r}:=by
    simp only[act,h1,h2]
   have e2:act sen x p ds=if p.op=49 then ready x a p else if p.op=37 then(if p.off=(a.hv.length:Int)/\a.hv.length < 4096 then{x with L:=x.L.set i {a with hv:=a.hv++ds}} else x)else if p.op=33 then respond sen x i a p ds else x:=by
    simp only[act,h1,h2]
   rw[e1,e2]
   by_cases k1:p.op=49
   ·rw[if_pos k1,if_pos k1];exact ready_rd x a p r
   rw[if_neg k1,if_neg k1]
   by_cases k2:p.op=37
   ·rw[if_pos k2,if_pos k2]
    by_cases k4:p.off=(a.hv.length:Int)/\a.hv.length < 4096
    ·rw[if_pos k4,if_pos k4]
    ·rw[if_neg k4,if_neg k4]
   rw[if_neg k2,if_neg k2]
   by_cases k3:p.op=33
   ·rw[if_pos k3,if_pos k3];rfl
   rw[if_neg k3,if_neg k3]
theorem take_rd (c:Cl) (p:Pd) (ds r:List UInt8) (hlg:lg {c with rd:=r} p ds={lg c p ds with rd:=r}) (h38:p.op≠38):take sen lg {c with rd:=r} p ds={take sen lg c p ds with rd:=r}:=by
 rw[take_act,take_act,if_neg h38,if_neg h38]
 by_cases hop:c.op=false
 ·rw[if_pos (show({c with rd:=r}:Cl).op=false from hop),if_pos hop,hlg]
 ·rw[if_neg (show ¬({c with rd:=r}:Cl).op=false from hop),if_neg hop,mxC_rd,act_rd]
def runC (sen:List UInt8->Int×Int×Int×Int) (lg:Cl->Pd->List UInt8->Cl) (l:List Pq) (c:Cl):Cl:=l.foldl (λc q=>take sen lg c q.1 q.2) c
def Run (Q:World->Prop) (sen:List UInt8->Int×Int×Int×Int) (lg:Cl->Pd->List UInt8->Cl):List Pq->Cl->Prop
 |[],c=>c.cl=false/\c.re=0
 |q::l,c=>c.cl=false/\c.re=0/\PqOk q/\q.1.op≠38/\(c.op=true->COk c/\(q.1.op=37->∀i a,posOf c.L q.1.tag=some i->c.L[i]? =some a->q.1.off=(a.hv.length:Int)->a.hv=[]/\q.2≠[]))/\
   (∀r,lg {c with rd:=r} q.1 q.2={lg c q.1 q.2 with rd:=r})/\(c.op=false->∀r,LogOk Q lg {c with rd:=r} q.1 q.2)/\Run Q sen lg l (take sen lg c q.1 q.2)
theorem run_along:∀(l:List Pq) (c:Cl) (n:Nat),Run Q sen lg l c->Along sen lg (NxOk Q sen lg) n {c with rd:=encs l}/\(l.length < n->loop sen lg n {c with rd:=encs l}={runC sen lg l c with rd:=[]})
 |[],c,n,⟨hc,hre⟩=>by
  have h3:decE ({c with rd:=encs []}:Cl).rd=3:=short_nil
  cases n with
  |zero=>exact⟨trivial,λh=>by simp at h⟩
  |succ n=>
   refine⟨λ_=>⟨⟨hre,λh0=>absurd (h0.symm.trans h3) (by decide),λh0=>absurd (h0.symm.trans h3) (by decide),λh0=>absurd (h0.symm.trans h3) (by decide)⟩,λh0=>absurd (h0.symm.trans h3) (by decide)⟩,λ_=>?_⟩
   rw[loop_succ,if_neg (by show ¬c.cl=true;rw[hc];simp),if_neg (by rw[h3];decide),if_pos h3]
   rfl
 |q::l,c,n,⟨hc,hre,hq,h38,htk,hlg,hlo,hrun⟩=>by
  obtain⟨p,ds⟩:=q
  have ee:encs ((p,ds)::l)=encP p ds++encs l:=by simp [encs]
  obtain⟨d1,d2,d3,d4⟩:=dec_app p ds (encs l) hq.f hq.k hq.n
  rw[←ee]at d1 d2 d3 d4
  have eo:off1 ({c with rd:=encs ((p,ds)::l)}:Cl)={c with rd:=encs l}:=by
   unfold off1
   show({c with rd:=(encs ((p,ds)::l)).drop (decN (encs ((p,ds)::l))).toNat}:Cl)=_
   rw[d4,ee];simp
  have et:take sen lg ({c with rd:=encs l}:Cl) p ds={take sen lg c p ds with rd:=encs l}:=take_rd c p ds _ (hlg _) h38
  cases n with
  |zero=>exact⟨trivial,λh=>by simp at h⟩
  |succ n=>
   obtain⟨i1,i2⟩:=run_along l (take sen lg c p ds) n hrun
   refine⟨λ_=>⟨⟨hre,λ_ hop=>?_,λ_ hop=>?_,λ_ _=>?_⟩,λ_=>?_⟩,λhl=>?_⟩
   ·obtain⟨a,b⟩:=htk hop
    refine⟨⟨a.sn,a.mx,a.md,a.L,a.len,a.say,a.done⟩,?_⟩
    show(pdOf (encs ((p,ds)::l))).op=37->∀i a,posOf c.L (pdOf (encs ((p,ds)::l))).tag=some i->c.L[i]? =some a->(pdOf (encs ((p,ds)::l))).off=(a.hv.length:Int)->a.hv=[]/\decD (encs ((p,ds)::l))≠[]
    rw[d2,d3];exact b
   ·rw[eo]
    show LogOk Q lg _ (pdOf (encs ((p,ds)::l))) (decD (encs ((p,ds)::l)))
    rw[d2,d3];exact hlo hop _
   ·rw[eo]
    show(take sen lg _ (pdOf (encs ((p,ds)::l))) (decD (encs ((p,ds)::l)))).rd=_
    rw[d2,d3,et]
   ·show Along sen lg (NxOk Q sen lg) n (take sen lg (off1 ({c with rd:=encs ((p,ds)::l)}:Cl)) (pdOf (encs ((p,ds)::l))) (decD (encs ((p,ds)::l))))
    rw[eo,d2,d3,et];exact i1
   ·rw[loop_succ,if_neg (by show ¬c.cl=true;rw[hc];simp)]
    show(if decE (encs ((p,ds)::l))=0 then loop sen lg n (take sen lg (off1 ({c with rd:=encs ((p,ds)::l)}:Cl)) (pdOf (encs ((p,ds)::l))) (decD (encs ((p,ds)::l))))else _)=_
    rw[if_pos d1,eo,d2,d3,et,i2 (by simp at hl;omega)]
    rfl
theorem encs_len:∀l:List Pq,52*l.length<=(encs l).length
 |[]=>by simp [encs]
 |q::l=>by
  have:=encs_len l
  have e:encs (q::l)=encP q.1 q.2++encs l:=by simp [encs]
  rw[e,List.length_append,encP_length,List.length_cons];omega
theorem InAll_c {w:World} {g:Nat} {S :Fp} (HS:SenOk sen) {c:Cl} {src:Value} {qs:List Pq} (h:CAt w g S [] c) (hQ:∀w' S',Step S w w' S'->Q w') (hr:RdB w src (encs qs)) (hl:(encs qs).length<=1000000) (hrd:c.rd=[]) (hc:c.cl=false)
 (hrun:Run Q sen lg qs c) {R:KV}
 (k:∀w' S',Step S w w' S'->CAt w' g S' [] ({runC sen lg qs c with rd:=[]}:Cl)->R (.tuple #[]) w'):Zs 32 #[zA g,src] w R:=by
 have hre:c.re=0:=by cases qs with
  |nil=>exact hrun.2
  |cons q l=>exact hrun.2.1
 have ec:({c with rd:=c.rd++encs qs}:Cl)={c with rd:=encs qs}:=by rw[hrd];rfl
 have hlen:=encs_len qs
 obtain⟨a1,a2⟩:=run_along qs c (c.rd.length+(encs qs).length+1) hrun
 refine In_c HS (Q:=Q) (lg:=lg) h hQ hr (by rw[hrd];simpa using hl) (λ_=>hre) (λ_=>by rw[ec];exact a1) λw' S' st h'=>k w' S' st ?_
 have:inp sen lg c (encs qs)={runC sen lg qs c with rd:=[]}:=by
  unfold inp
  rw[if_neg (by rw[hc];simp),ec,a2 (by omega)]
 rw[this]at h';exact h'
end Go.Proofs.YtdpmhkbhlbfbeaaGreatDoor.Cli
end
section
namespace Go.Proofs.YtdpmhkbhlbfbeaaGreatDoor.Cli
open CW RowKit Pdu
open Ses (Cm Rp rCm)
theorem enc_c {cm:Cm} {x:Cdb.Cod} (hx:Cdb.codesL.find? (Cdb.isK cm.kind)=some x) (ha:cm.pos < 4611686018427387904) (hn:cm.n<=255) (ht:0<=cm.typ/\cm.typ<=15):EncOk cm (Cdb.encB x cm.fo cm.typ cm.pos cm.n):=by
 intro w dv R h1 k
 exact Cdb.Encode_c hx (by omega) (by omega) ht k
theorem encN_c {w:World} {k o:Int} {R:KV} (c:∀v w',Grow w w'->RdB w' v (Lst.encB k o)->NewV w v->R v w'):Zs 42 #[.int .u64 k,.int .u64 o] w R:=by
 apply q95W
 refine bin_Put_c (bs:=[]) (Rd.nil w) (by simp) λv1 w1 g1 r1 _=>?_
 refine bin_Put_c r1 (by simp [Lst.put8,putL_length]) λv2 w2 g2 r2 _=>?_
 refine bin_Put_c r2 (by simp [Lst.put8,putL_length]) λv3 w3 g3 r3 n3=>c _ _ (g1.then (g2.then g3)) r3 (n3.of (g1.then g2).size)
def datL (cm:Cm):List UInt8:=if 10<=cm.kind/\cm.kind<=15 then Lst.encB cm.key cm.new else cm.d
theorem dat_c {cm:Cm} (hd:cm.d.length<=1000000) (ho:¬(10<=cm.kind/\cm.kind<=15)->(cm.d.length:Int)=Cdb.outI cm.kind cm.n):DatOk cm (datL cm):=by
 intro w dv R hr k
 apply q36W
 refine nm λw0 e0=>?_
 obtain⟨b0',g0,s0⟩:=alE e0
 have b0:BK w0 w.heap.size (rCm cm dv) Ses.tCm:=b0'
 refine⟨_,b0.cell 0,JoinP.bool (λb w'=>b=decide (10<=cm.kind/\cm.kind<=15)/\w'=w0) (λj hj=>?_) ?_⟩
 ·by_cases h10:cm.kind=10
  ·exact cond_t (by rw[h10];rfl) (hj _ _ ⟨by rw[h10];rfl,rfl⟩)
  refine cond_f (by simpa using h10) ?_
  by_cases h11:cm.kind=11
  ·exact cond_t (by rw[h11];rfl) (hj _ _ ⟨by rw[h11];rfl,rfl⟩)
  refine cond_f (by simpa using h11) ?_
  by_cases h12:cm.kind=12
  ·exact cond_t (by rw[h12];rfl) (hj _ _ ⟨by rw[h12];rfl,rfl⟩)
  refine cond_f (by simpa using h12) ?_
  by_cases h13:cm.kind=13
  ·exact cond_t (by rw[h13];rfl) (hj _ _ ⟨by rw[h13];rfl,rfl⟩)
  refine cond_f (by simpa using h13) ?_
  by_cases h14:cm.kind=14
  ·exact cond_t (by rw[h14];rfl) (hj _ _ ⟨by rw[h14];rfl,rfl⟩)
  refine cond_f (by simpa using h14) ?_
  refine hj _ _ ⟨?_,rfl⟩
  by_cases h15:cm.kind=15
  ·rw[h15];rfl
  ·have:¬(10<=cm.kind/\cm.kind<=15):=by omega
   rw[decide_eq_false this];simpa using h15
 ·rintro b w3 ⟨rfl,rfl⟩
  refine cond_intro (λh=>?_) (λh=>?_)
  ·have h:=of_decide_eq_true h
   refine⟨_,b0.cell 4,_,b0.cell 5,encN_c λv w' g' r' n'=>k v w' (g0.then g') ?_ (n'.of g0.size)⟩
   unfold datL;rw[if_pos h];exact r'
  ·have h:=of_decide_eq_false h
   refine nm λw8 e8=>?_
   have g8:=drE e8
   have b8:=b0.grow g8
   refine⟨_,b8.cell 3,_,b8.cell 3,_,(hr.grow (g0.then g8)).len,_,_,_,_,_,_,_,_,b8.ld rfl,nm λw20 e20=>?_⟩
   obtain rfl:w20=w8:=e20.trans e8.symm
   refine slices_Clone_c (hr.grow (g0.then g8)) (by omega) λv21 w22 g22 o22=>?_
   have b22:=b8.grow g22
   refine⟨⟨_,b22.cell 3,rfl⟩,⟨_,_,_,_,_,_,_,_,b22.ld rfl,rfl⟩,Cdb.Out_c λw33 g33=>⟨_,rfl,⟨_,(b22.grow g33).cell 3,rfl⟩,?_⟩⟩
   have gA:=g0.then (g8.then (g22.then g33))
   have:=k v21 w33 gA (by unfold datL;rw[if_neg h];exact Rd.grow o22.rd g33) (λq hq=>by have:=o22.blk q hq;have:=(g0.then g8).size;omega)
   have e:(((cm.d.length:Nat):Int)==Cdb.outI cm.kind cm.n)=true:=by rw[ho h];simp
   rw[List.length_map,e];exact this
end Go.Proofs.YtdpmhkbhlbfbeaaGreatDoor.Cli
end
