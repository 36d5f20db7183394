/- A part of the proof. -/
import Derived.Test.YtdinpgnjnleioaaGreatDoorSLgnX
import Derived.Test.YtdinpgnjnleioaaGreatDoorSWirX
set_option linter.unusedSimpArgs false
set_option linter.unusedVariables false
set_option maxRecDepth 100000
section
namespace Go.Proofs.YtdinpgnjnleioaaGreatDoor.Pdu
open CW RowKit Crc
theorem short_nil:decE []=3:=by unfold decE frontE;simp
end Go.Proofs.YtdinpgnjnleioaaGreatDoor.Pdu
namespace Go.Proofs.YtdinpgnjnleioaaGreatDoor.Ses
open CW RowKit Pdu
variable {W:Wire} {K:Doer} {w w':World} {S :Fp} {g:Nat} {A:List (List UInt8)}
theorem loop_short {U:Type} {W:Wire} {du:U->List UInt8->Cm->Rp×U} {lg:St U->Pd->List UInt8->St U} {x:St U} (h:decE x.s.rd=3) (n:Nat):loop W du lg n x=x:=by
 cases n with
 |zero=>rfl
 |succ n=>rw[loop_succ,if_neg (by rw[h];decide),if_pos h]
theorem inp_last {U:Type} {W:Wire} {du:U->List UInt8->Cm->Rp×U} {lg:St U->Pd->List UInt8->St U} {x:St U} {bs:List UInt8} {p:Pd} {ds:List UInt8} (hc:x.s.cl=false) (hf:PdFits p) (hk:okP p=true) (hn:ds.length<=4096) (h:x.s.rd++bs=encP p ds)
 (hrd:(one W du lg {x with s:={x.s with rd:=[]},o:=[]} p ds).s.rd=[]):
 inp W du lg x bs=one W du lg {x with s:={x.s with rd:=[]},o:=[]} p ds:=by
 unfold inp
 rw[if_neg (by rw[hc];simp),loop_succ]
 obtain⟨d1,d2,d3,d4,_⟩:=dec_enc p ds hf hk hn
 have eo:off1 ({x with s:={x.s with rd:=x.s.rd++bs},o:=[]}:St U)={x with s:={x.s with rd:=[]},o:=[]}:=by
  unfold off1
  show({x with s:={x.s with rd:=(x.s.rd++bs).drop (decN (x.s.rd++bs)).toNat},o:=[]}:St U)=_
  rw[h,d4];simp
 show(if decE (x.s.rd++bs)=0 then(if(one W du lg (off1 ({x with s:={x.s with rd:=x.s.rd++bs},o:=[]}:St U)) (pdOf (x.s.rd++bs)) (decD (x.s.rd++bs))).s.cl then one W du lg (off1 ({x with s:={x.s with rd:=x.s.rd++bs},o:=[]}:St U)) (pdOf (x.s.rd++bs)) (decD (x.s.rd++bs))else loop W du lg (x.s.rd.length+bs.length) (one W du lg (off1 ({x with s:={x.s with rd:=x.s.rd++bs},o:=[]}:St U)) (pdOf (x.s.rd++bs)) (decD (x.s.rd++bs))))else _)=_
 rw[eo,h,d2,d3,if_pos d1]
 split
 ·rfl
 ·exact loop_short (by rw[hrd];exact short_nil) _
theorem InLast_c (HW:WireOk W) {Q:World->Prop} {lg:St K.U->Pd->List UInt8->St K.U} {x:St K.U} {src:Value} {bs:List UInt8} {p:Pd} {ds:List UInt8} (h:SAt K A w g S [] x) (hr:RdB w src bs) (hQ:∀w' S',Step S w w' S'->Q w') (hro:bs≠[]->∀q,src.ownBlock=some q->¬ S q) (hl:x.s.rd.length+bs.length<=1000000)
 (hc:x.s.cl=false) (hre:x.s.re=0) (hf:PdFits p) (hk:okP p=true) (hn:ds.length<=4096) (he:x.s.rd++bs=encP p ds)
 (htk:x.s.op=true->SOk x.s/\TkOk W K {x with s:={x.s with rd:=[]},o:=[]} p ds) (hlo:x.s.op=false->LogOk Q K A lg {x with s:={x.s with rd:=[]},o:=[]} p ds)
 {y:St K.U} (hy:y=one W K.step lg {x with s:={x.s with rd:=[]},o:=[]} p ds) (hrd:y.s.rd=[]) (hye:y.s.re=0) (hyo:y.o.length<=900000000) {R:KV}
 (k:∀v w' S',Step S w w' S'->SAt K A w' g S' [] ({y with o:=[]}:St K.U)->RdB w' v y.o->(∀q,v.ownBlock=some q->(S q\/w.heap.size<=q)/\¬S' q)->R v w'):
 Zs 23 #[zA g,src] w R:=by
 subst hy
 have e:=inp_last (W:=W) (du:=K.step) (lg:=lg) hc hf hk hn he hrd
 obtain⟨d1,d2,d3,d4,_⟩:=dec_enc p ds hf hk hn
 have eo:off1 ({x with s:={x.s with rd:=x.s.rd++bs},o:=[]}:St K.U)={x with s:={x.s with rd:=[]},o:=[]}:=by
  unfold off1
  show({x with s:={x.s with rd:=(x.s.rd++bs).drop (decN (x.s.rd++bs)).toNat},o:=[]}:St K.U)=_
  rw[he,d4];simp
 have hs:SOk x.s->SOk ({x with s:={x.s with rd:=x.s.rd++bs},o:=[]}:St K.U).s:=λa=>⟨a.exp,a.sn,a.md,a.bu,a.L,a.len⟩
 refine In_c HW (Q:=Q) (lg:=lg) h hr hQ hro hl (λ_=>hre) (λ_=>⟨⟨hre,by simp,λh0 hop=>?_,λh0 hop=>?_,λh0 hcl=>?_⟩,λh0 hcl=>?_⟩) λv w' S' st h' r' o'=>k v w' S' st ?_ ?_ o'
 ·refine⟨hs (htk hop).1,?_⟩
  rw[eo]
  show TkOk W K _ (pdOf (x.s.rd++bs)) (decD (x.s.rd++bs))
  rw[he,d2,d3];exact(htk hop).2
 ·rw[eo]
  show LogOk Q K A lg _ (pdOf (x.s.rd++bs)) (decD (x.s.rd++bs))
  rw[he,d2,d3];exact hlo hop
 ·rw[eo]
  show(one W K.step lg _ (pdOf (x.s.rd++bs)) (decD (x.s.rd++bs))).s.rd=_
  rw[he,d2,d3,hrd]
 ·have ea:one W K.step lg (off1 ({x with s:={x.s with rd:=x.s.rd++bs},o:=[]}:St K.U)) (pdOf (x.s.rd++bs)) (decD (x.s.rd++bs))=one W K.step lg {x with s:={x.s with rd:=[]},o:=[]} p ds:=by rw[eo,he,d2,d3]
  show Along W K lg (NxOk Q W K A lg) (x.s.rd.length+bs.length) (one W K.step lg (off1 ({x with s:={x.s with rd:=x.s.rd++bs},o:=[]}:St K.U)) (pdOf (x.s.rd++bs)) (decD (x.s.rd++bs)))
  rw[ea]
  generalize one W K.step lg {x with s:={x.s with rd:=[]},o:=[]} p ds=y at *
  have h3:decE y.s.rd=3:=by rw[hrd];exact short_nil
  cases x.s.rd.length+bs.length with
  |zero=>trivial
  |succ n=>exact⟨⟨hye,hyo,λh0=>absurd (h0.symm.trans h3) (by decide),λh0=>absurd (h0.symm.trans h3) (by decide),λh0=>absurd (h0.symm.trans h3) (by decide)⟩,λh0=>absurd (h0.symm.trans h3) (by decide)⟩
 ·rw[e]at h';exact h'
 ·rw[e]at r';exact r'
end Go.Proofs.YtdinpgnjnleioaaGreatDoor.Ses
end
