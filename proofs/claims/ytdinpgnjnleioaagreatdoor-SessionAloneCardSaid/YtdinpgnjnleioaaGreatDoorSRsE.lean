/- A part of the proof. -/
import Derived.Test.YtdinpgnjnleioaaGreatDoorSPduX
import Derived.Test.YtdinpgnjnleioaaGreatDoorSGD
set_option linter.unusedSimpArgs false
set_option linter.unusedVariables false
set_option maxRecDepth 100000
namespace Go.Proofs.YtdinpgnjnleioaaGreatDoor.Rs
open CW RowKit Crc Pdu
open Rf (gemelref1_Put_c)
open Rq (gemelref1_Get_c)
abbrev nilV:Value:=.slice none 0 0
abbrev tP:TypeId:=46
variable {w:World}
def kl:List Int:=[0,1,2,3,5,6,32,33,34,35,37,38,49,63]
theorem known_iff (op:Int):known op=true↔op∈kl:=by
 simp only[known,kl,Bool.or_eq_true,beq_iff_eq,List.mem_cons,List.not_mem_nil,or_false,or_assoc]
theorem rKnown_c {op:Int} {R:KV} (k:∀w',Grow w w'->R (.bool (known op)) w'):Zs 33 #[.int .i64 op] w R:=by
 apply q104W
 obtain⟨W0,e0⟩:∃W0,W0=World.alloc w (.cells (kl.map (Value.int .i64)).toArray 3):=⟨_,rfl⟩
 obtain⟨b0,g0,_⟩:=alE e0
 refine⟨λ(i:Int) (ww:World)=>∃i':Nat,i=(i':Int)/\i'<=14/\ww=W0/\∀x∈kl.take i',x≠op,λ(i:Int) (_:World)=>((14:Int) - i).toNat,⟨0,rfl,by omega,e0.symm,by simp⟩,?_⟩
 dsimp only[allR,mapR2,eqN,ltN]
 rintro m _ ww ⟨⟨i,rfl,hi,rfl,hno⟩,hm⟩
 have kll:kl.length=14:=rfl
 refine⟨14,rfl,cond_intro (λh=>?_) (λh=>?_)⟩
 ·have h:i < 14:=by simp at h;omega
  have hik:i < kl.length:=by rw[kll];exact h
  have hc:ww.cell? (⟨w.heap.size,i,none⟩:Addr)=some (.int .i64 (kl[i]'(by omega))):=by
   rw[b0.at i,List.getElem?_toArray,List.getElem?_map,List.getElem?_eq_getElem (by omega)];rfl
  refine⟨⟨w.heap.size,i,none⟩,?_,_,hc,cond_intro (λe=>?_) (λe=>?_)⟩
  ·simp only[sliceAt]
   rw[if_pos (by omega),Nat.mul_one,ad0];rfl
  ·have e:kl[i]'hik=op:=eq_of_beq e
   have:known op=true:=(known_iff op).2 (e▸List.getElem_mem _)
   have k:=k ww g0
   rw[this]at k;exact k
  ·have e:kl[i]'hik≠op:=beq_eq_false_iff_ne.1 e
   rw[wi64_id (by omega) (by omega)]
   refine⟨⟨i+1,by omega,by omega,rfl,λx hx=>?_⟩,by omega⟩
   rw[List.take_add_one,List.getElem?_eq_getElem (by omega)]at hx
   rcases List.mem_append.1 hx with hx|hx
   ·exact hno x hx
   ·have:x=kl[i]'hik:=List.mem_singleton.1 hx
    rw[this];exact e
 ·have h:i=14:=by simp at h;omega
  subst h
  have:known op=false:=by
   rw[Bool.eq_false_iff]
   intro e
   exact hno op (by rw[List.take_of_length_le (by rw[kll];omega)];exact(known_iff op).1 e) rfl
  have k:=k ww g0
  rw[this]at k;exact k
theorem ref_Four_c {x:W} {R:KV} (k:∀v' w',Grow w w'->OwnB w' w.heap.size tb v' (le4 x)->R v' w'):Zs 35 #[.int .u32 (U x)] w R:=by
 apply q77W
 unfold q77F
 rw[four_cells]
 exact k _ _ (Grow.al (Grow.refl w) _) (Own.lit w (Nat.le_refl _) tb ((le4 x).map b8).toArray 4 rfl (by simp [maxLen]))
theorem ref_Pad_c {B:Nat} {v:Value} {bs:List UInt8} {to:Int} {R:KV} (hr:OwnB w B tb v bs) (hB:B<=w.heap.size) (hb:bs.length<=1000000000000)
 (k:∀v' w',OwnNext w v w' v'->OwnB w' B tb v' (padS bs to)->R v' w'):Zs 37 #[v,.int .i64 to] w R:=by
 apply q60W
 refine JoinP.bool (λb w'=>b= !(inP to)/\w=w') (λj hj=>test_pad to j w (λb w' hh=>hj b w' ⟨hh.1,hh.2.symm⟩)) ?_
 rintro b w' ⟨rfl,rfl⟩
 refine cond_intro (λh=>?_) (λh=>?_)
 ·refine k _ _ (OwnNext.refl _ _) ?_
  simp only[Bool.not_eq_true']at h
  have e:padS bs to=bs:=by simp [padS,padN,h]
  rw[e];exact hr
 ·simp at h
  have hn:1<=to/\to<=4096:=by simpa[inP]using h
  have hr1:=Int.emod_lt_of_pos (-(bs.length:Int)) (b:=to) (by omega)
  have hr0:=Int.emod_nonneg (-(bs.length:Int)) (b:=to) (by omega)
  have hp:padN bs.length to=((-(bs.length:Int)) % to).toNat:=by simp [padN,h]
  refine⟨λ(vv:Value) (ww:World)=>∃i:Nat,i<=padN bs.length to/\OwnNext w v ww vv/\OwnB ww B tb vv (bs++List.replicate i 0),λ(vv:Value) (ww:World)=>padN bs.length to+bs.length - (sliceLen vv).getD 0,?_,?_⟩
  ·dsimp only
   exact⟨0,by omega,OwnNext.refl _ _,by simpa using hr⟩
  ·dsimp only[allR,mapR2,eqN,ltN]
   rintro m vv ww ⟨⟨i,h0,g,o⟩,hm⟩
   have hl:=RdB.len o.rd
   have hll:((bs++List.replicate i 0).length:Int)=(bs.length:Int)+(i:Int):=by simp
   refine⟨_,hl,nzK_intro (by omega) (cond_intro (λh2=>?_) (λh2=>?_))⟩
   ·have h3:¬(Int.tmod ((bs.length:Int)+(i:Int)) to=0):=by rw[hll]at h2;simpa using h2
    rw[pad_go hn.1 (by omega)]at h3
    obtain⟨v',w',k1,k2,k3⟩:=app_byte o (Nat.le_trans hB g.by_.size) 0 0 rfl (by simp;omega)
    rw[replicate_snoc]at k2
    refine⟨v',w',k1,⟨i+1,by omega,g.then k3,k2⟩,?_⟩
    rw[RdB.len k2.rd]
    rw[hl]at hm
    simp at hm ⊢
    omega
   ·have h3:(Int.tmod ((bs.length:Int)+(i:Int)) to=0):=by rw[hll]at h2;simpa using h2
    rw[pad_go hn.1 (by omega)]at h3
    refine k _ _ g ?_
    have e:i=padN bs.length to:=by omega
    rw[padS,←e];exact o
theorem num_in {p:Pd} (hf:PdFits p):∀i:Nat,(h:i < 6)->IntKind.wrap .u64 ((nums p)[i]'h)=(nums p)[i]'h/\0<=(nums p)[i]'h:=by
 intro i hi
 have t1:=hf.tag.u32
 have t2:=hf.sn.u32
 have t3:=hf.exp.u32
 have t4:=hf.mx.u32
 have t5:=hf.off.u32
 have t6:=hf.ln.u32
 have:i=0\/i=1\/i=2\/i=3\/i=4\/i=5:=by omega
 rcases this with rfl|rfl|rfl|rfl|rfl|rfl
 ·exact⟨w64_id (n:=p.tag) (by omega) (by omega),t1.1⟩
 ·exact⟨w64_id (n:=p.sn) (by omega) (by omega),t2.1⟩
 ·exact⟨w64_id (n:=p.exp) (by omega) (by omega),t3.1⟩
 ·exact⟨w64_id (n:=p.mx) (by omega) (by omega),t4.1⟩
 ·exact⟨w64_id (n:=p.off) (by omega) (by omega),t5.1⟩
 ·exact⟨w64_id (n:=p.ln) (by omega) (by omega),t6.1⟩
theorem rEncode_c {p:Pd} {dv:Value} {ds:List UInt8} {R:KV} (hf:PdFits p) (hd:RdB w dv ds)
 (k:∀v e w',Grow w w'->(okP p=false->v=nilV/\e=1)->(okP p=true->4096 < ds.length->v=nilV/\e=5)->(okP p=true->ds.length<=4096->OwnB w' w.heap.size tb v (encP p ds)/\e=0)->R (.tuple #[v,.int .i64 e]) w'):
 Zs 14 #[vP p dv] w R:=by
 apply q103W
 have hdi:=Rd.isOne hd
 have hle:=hd.le
 rw[List.length_map]at hle
 refine nm λw0 e0=>?_
 obtain⟨b0',g0,_⟩:=alE e0
 have b0:BK w0 w.heap.size (rP p dv) tP:=b0'
 clear e0
 refine JoinP.bool (λb w'=>Grow w0 w'/\b=!okP p) (λj hj=>?_) ?_
 ·refine⟨_,b0.cell 0,rKnown_c λw1 g1=>?_⟩
  have b1:=b0.grow g1
  refine⟨_,rfl,cond_intro (λe=>hj _ _ ⟨g1,?_⟩) (λe=>⟨_,b1.cell 2,cond_intro (λh=>hj _ _ ⟨g1,?_⟩) (λh=>⟨_,b1.cell 2,cond_intro (λh2=>hj _ _ ⟨g1,?_⟩) (λh2=>⟨_,b1.cell 3,cond_intro (λh3=>hj _ _ ⟨g1,?_⟩) (λh3=>⟨_,b1.cell 3,hj _ _ ⟨g1,?_⟩⟩)⟩)⟩)⟩)⟩
  ·have e:known p.op=false:=by simpa using e
   simp [okP,e]
  ·have h:=of_decide_eq_true h
   have:¬0<=p.fl:=by omega
   simp [okP,this]
  ·have h:=of_decide_eq_true h2
   have:¬p.fl < 128:=by omega
   simp [okP,this]
  ·have h:=of_decide_eq_true h3
   have:¬0<=p.st:=by omega
   simp [okP,this]
  ·have e:known p.op=true:=by simpa using e
   have h:=of_decide_eq_false h
   have h2:=of_decide_eq_false h2
   have h3:=of_decide_eq_false h3
   have q1:0<=p.fl:=by omega
   have q2:p.fl < 128:=by omega
   have q3:0<=p.st:=by omega
   rw[Bool.eq_iff_iff]
   simp only[okP,e,q1,q2,q3,decide_true,Bool.true_and,Bool.not_eq_true',decide_eq_true_eq,decide_eq_false_iff_not]
   omega
 rintro b w2 ⟨g2,rfl⟩
 have b2:=b0.grow g2
 have gA:Grow w w2:=g0.then g2
 have hd2:=hd.grow gA
 refine cond_intro (λh=>?_) (λh=>?_)
 ·have h:okP p=false:=by simpa using h
  exact k _ _ _ gA (λ_=>⟨rfl,rfl⟩) (λe=>by rw[h]at e;cases e) (λe=>by rw[h]at e;cases e)
 have h:okP p=true:=by simpa using h
 refine⟨_,b2.cell 26,_,RdB.len hd2,cond_intro (λh2=>?_) (λh2=>?_)⟩
 ·have h2:=of_decide_eq_true h2
  exact k _ _ _ gA (λe=>by rw[h]at e;cases e) (λ_ _=>⟨rfl,rfl⟩) (λ_ e=>by omega)
 have h2:=of_decide_eq_false h2
 have hk:=h
 simp only[okP,Bool.and_eq_true,decide_eq_true_eq]at hk
 obtain⟨⟨⟨⟨k1,k2⟩,k3⟩,k4⟩,k5⟩:=hk
 have kr:=known_range k1
 refine⟨_,b2.cell 2,?_⟩
 refine JoinP.int (λn w'=>w2=w'/\n=bn (flB p)) (λj hj=>⟨_,b2.cell 1,?_⟩) ?_
 ·have hfl:IntKind.wrap .u8 p.fl=p.fl:=w8_id k2 (by omega)
  rw[hfl]
  refine cond_intro (λhfin=>hj _ _ ⟨rfl,?_⟩) (λhfin=>hj _ _ ⟨rfl,?_⟩)
  ·have:=or128 ⟨p.fl.toNat,by omega⟩
   have ef:(((⟨p.fl.toNat,by omega⟩:Fin 128).val:Nat):Int)=p.fl:=by simp;omega
   rw[ef]at this
   unfold flB;rw[if_pos hfin];exact this
  ·unfold flB;rw[if_neg (by rw[hfin];simp),byt_of k2 (by omega)]
 rintro n6 w7 ⟨rfl,rfl⟩
 refine⟨_,b2.cell 0,_,b2.cell 3,nm λw10 e10=>?_⟩
 have ec:(#[(.int .u8 (IntKind.wrap .u8 p.op)),(.int .u8 (bn (flB p))),(.int .u8 (IntKind.wrap .u8 p.st)),(.int .u8 (0:Int))]:Array Value)=(([byt p.op,flB p,byt p.st,0]:List UInt8).map b8).toArray:=by
  rw[b8_wrap,b8_wrap];rfl
 rw[ec]at e10
 obtain⟨_,g10,_⟩:=alE e10
 have hB:w.heap.size<=w2.heap.size:=gA.size
 have o10:OwnB w10 w.heap.size tb (.slice (some ⟨w2.heap.size,0,none⟩) 4 4) [byt p.op,flB p,byt p.st,0]:=by
  subst e10;exact Own.lit w2 hB tb _ 4 rfl (by simp [maxLen])
 have b10:=b2.grow g10
 have d10:=hd2.grow g10
 have hB10:w.heap.size<=w10.heap.size:=Nat.le_trans hB g10.size
 refine⟨_,b10.cell 26,_,RdB.len d10,?_⟩
 rw[w64_id (n:=(ds.length:Int)) (by omega) (by omega)]
 refine gemelref1_Put_c o10 hB10 (by simp) λv13 w14 n13 o13=>?_
 have g14:Grow w w14:=(gA.then g10).trans (n13.below hB10 o10.blk)
 have e13:putS [byt p.op,flB p,byt p.st,0] (ds.length:Int) 4=h8 p ds.length:=rfl
 rw[e13]at o13
 have tne:(tb:TypeId)≠tP:=by decide
 have b14:BK w14 w.heap.size (rP p dv) tP:=(n13.by_.block _ b10.lt (λe=>own_ne o10 b10 tne e.symm)).trans b10
 refine⟨_,b14.cell 4,_,b14.cell 5,_,b14.cell 6,_,b14.cell 7,_,b14.cell 8,_,b14.cell 9,nm λw21 e21=>?_⟩
 obtain⟨b21,g21,_⟩:=alE e21
 clear e21
 have hne:w.heap.size≠w14.heap.size:=Nat.ne_of_lt b14.lt
 refine⟨λ(v:Value) (i:Int) (ww:World)=>0<=i/\i<=6/\Grow w ww/\OwnB ww w.heap.size tb v (h8 p ds.length++puts ((nums p).take i.toNat))/\BK ww w14.heap.size #[.int .u32 p.tag,.int .u32 p.sn,.int .u32 p.exp,.int .u32 p.mx,.int .u32 p.off,.int .u32 p.ln] 38/\BK ww w.heap.size (rP p dv) tP,λ(_:Value) (i:Int) (_:World)=>(6 - i).toNat,
  ⟨by omega,by omega,g14.then g21,?_,b21,b14.grow g21⟩,?_⟩
 ·have:=o13.grow g21
  simpa[puts]using this
 dsimp only[allR,mapR2,eqN,ltN]
 rintro m v i ww ⟨⟨h0,h1,g,o,bl,bz⟩,hm⟩
 have nl:(nums p).length=6:=rfl
 refine cond_intro (λh3=>?_) (λh3=>?_)
 ·have h3:=of_decide_eq_true h3
  have hcell:ww.cell? (⟨w14.heap.size,i.toNat,none⟩:Addr)=some (.int .u32 ((nums p)[i.toNat]'(by omega))):=by
   rw[bl.at i.toNat]
   have:i.toNat=0\/i.toNat=1\/i.toNat=2\/i.toNat=3\/i.toNat=4\/i.toNat=5:=by omega
   rcases this with e|e|e|e|e|e<;>simp only[e]<;>rfl
  refine⟨⟨w14.heap.size,i.toNat,none⟩,?_,_,hcell,?_⟩
  ·simp only[sliceAt]
   rw[if_pos (by omega),Nat.mul_one,ad0]
  have hpl:=puts_len ((nums p).take i.toNat)
  rw[show IntKind.wrap .u64 ((nums p)[i.toNat]'(by omega))=(nums p)[i.toNat]'(by omega) from (num_in hf i.toNat (by omega)).1]
  refine gemelref1_Put_c o g.size (by simp only[List.length_append,h8,putL_length,hpl,List.length_take,List.length_cons,List.length_nil];omega) λv2 w3 n2 o2=>?_
  have hb2:∀{k:Nat} {cs:Array Value} {e:TypeId},BK ww k cs e->tb≠e->BK w3 k cs e:=λhk he=>(n2.by_.block _ hk.lt (λe=>own_ne o hk he e.symm)).trans hk
  rw[wi64_id (n:=i+1) (by omega) (by omega)]
  have e:(i+1).toNat=i.toNat+1:=by omega
  refine⟨⟨by omega,by omega,g.trans (n2.below g.size o.blk),?_,hb2 bl (by decide),hb2 bz tne⟩,by omega⟩
  rw[e,puts_take _ _ (by omega),←List.append_assoc]
  exact o2
 ·have h3:=of_decide_eq_false h3
  have et:(nums p).take i.toNat=nums p:=List.take_of_length_le (by show 6<=_;omega)
  rw[et]at o
  have rc:RdB ww (.slice (some (Addr.add ⟨w.heap.size,0,none⟩ 10)) 16 16) p.cdb:=rd_mid bz 10 16 (by simp) (by simp [maxLen])
  have hl8:(h8 p ds.length++puts (nums p)).length=32:=by simp [h8,putL_length,puts,nums]
  obtain⟨v30,w31,k30,o30,n30⟩:=app_bytes o rc g.size (by rw[hl8];simp [Pd.cdb])
  have g31:Grow w w31:=g.trans (n30.below g.size o.blk)
  have o30:OwnB w31 w.heap.size tb v30 (hdr p ds.length):=o30
  have bz31:BK w31 w.heap.size (rP p dv) tP:=(n30.by_.block _ bz.lt (λe=>own_ne o bz tne e.symm)).trans bz
  refine⟨v30,w31,k30,ref_Sum_c o30.rd ⟨_,rfl,ref_Four_c λv35 w36 g36 o36=>?_⟩⟩
  have o30':=o30.grow g36
  have hh:=hdr_length p ds.length
  obtain⟨v37,w38,k37,o37,n37⟩:=app_bytes o30' o36.rd (Nat.le_trans g31.size g36.size) (by rw[hh,le4_length];omega)
  have g38:Grow w w38:=(g31.then g36).trans (n37.below (Nat.le_trans g31.size g36.size) o30'.blk)
  have bz36:=bz31.grow g36
  have bz38:BK w38 w.heap.size (rP p dv) tP:=(n37.by_.block _ bz36.lt (λe=>own_ne o30' bz36 tne e.symm)).trans bz36
  have hd38:=hd.grow g38
  have o37:OwnB w38 w.heap.size tb v37 (sealed (hdr p ds.length)):=o37
  have sl:=sealed_length (hdr p ds.length)
  refine⟨v37,w38,k37,?_⟩
  refine JoinP.val (λv ww=>Grow w ww/\OwnB ww w.heap.size tb v (encP p ds)) (λj hj=>⟨_,bz38.cell 26,_,RdB.len hd38,cond_intro (λh4=>?_) (λh4=>?_)⟩) (by rintro v ww ⟨gg,oo⟩;exact k v 0 ww gg (λe=>by rw[h]at e;cases e) (λ_ e=>by omega) (λ_ _=>⟨oo,rfl⟩))
  ·have h4:=of_decide_eq_true h4
   have hne':ds≠[]:=λe=>by subst e;simp at h4
   refine nm λw44 e44=>?_
   obtain⟨_,g44,_⟩:=alE e44
   have ho44:OwnB w44 w38.heap.size tb (.slice (some ⟨w38.heap.size,0,none⟩) 0 0) []:=by
    rw[e44];exact Own.lit w38 (Nat.le_refl _) tb #[] 0 rfl (by simp [maxLen])
   refine⟨_,(bz38.grow g44).cell 26,?_⟩
   obtain⟨v46,w47,k46,o46,n46⟩:=app_bytes ho44 (hd38.grow g44) g44.size (by simp;omega)
   rw[List.nil_append]at o46
   have g47:Grow w38 w47:=g44.trans (n46.below g44.size ho44.blk)
   refine⟨v46,w47,k46,ref_Pad_c o46 g47.size (by omega) λv48 w49 n48 o48=>?_⟩
   have g49:Grow w38 w49:=g47.trans (n48.below g47.size o46.blk)
   have o37b:=o37.grow g49
   have pl:(padS ds 4).length=(ds.length+3) / 4*4:=pad4_length ds
   obtain⟨v50,w51,k50,o50,n50⟩:=app_bytes o37b o48.rd (Nat.le_trans g38.size g49.size) (by rw[sl,hh,pl];omega)
   refine⟨v50,w51,k50,?_⟩
   have g51:Grow w w51:=(g38.then g49).trans (n50.below (Nat.le_trans g38.size g49.size) o37b.blk)
   have o48':RdB w51 v48 (padS ds 4):=Rd.stepS (S :=λq=>v37.ownBlock=some q) o48.rd (Step.of_own n50 (λq hq=>hq)) (λ_ q hq e=>by
    have l1:=o48.blk q hq
    have l2:=o37.ltS q e
    omega)
   refine ref_Sum_c o48' ⟨_,rfl,ref_Four_c λv55 w56 g56 o56=>?_⟩
   have o50':=o50.grow g56
   obtain⟨v57,w58,k57,o57,n57⟩:=app_bytes o50' o56.rd (Nat.le_trans g51.size g56.size) (by rw[List.length_append,sl,hh,pl,le4_length];omega)
   refine⟨v57,w58,k57,hj _ _ ⟨(g51.then g56).trans (n57.below (Nat.le_trans g51.size g56.size) o50'.blk),?_⟩⟩
   have ee:encP p ds=sealed (hdr p ds.length)++padS ds 4++le4 (sum (padS ds 4)):=by
    unfold encP
    rw[if_neg hne',List.append_assoc];rfl
   rw[ee];exact o57
  ·have h4:=of_decide_eq_false h4
   have hz:ds=[]:=List.eq_nil_of_length_eq_zero (by omega)
   refine hj _ _ ⟨g38,?_⟩
   have ee:encP p ds=sealed (hdr p ds.length):=by
    unfold encP
    rw[if_pos hz,List.append_nil]
   rw[ee];exact o37
theorem num_c {v:Value} {bs:List UInt8} {a:Int} {R:KV} (hr:RdB w v bs) (ha:Fits .i64 a) (k:R (.int .u32 (num4 bs a)) w):Zs 73 #[v,.int .i64 a] w R:=by
 apply q107W
 refine gemelref1_Get_c hr ha (by decide) ⟨_,_,rfl,?_⟩
 have hn:=num4_range bs a
 rw[show getV bs a 4=num4 bs a from rfl,w32_id hn.1 hn.2]
 exact k
def cd (bs:List UInt8) (i n:Nat):UInt8:=if n < i then bs.getD (32+n) 0 else 0
def pdC (bs:List UInt8) (i:Nat):Pd:={pdOf bs with c0:=cd bs i 0,c1:=cd bs i 1,c2:=cd bs i 2,c3:=cd bs i 3,c4:=cd bs i 4,c5:=cd bs i 5,c6:=cd bs i 6,c7:=cd bs i 7,c8:=cd bs i 8,c9:=cd bs i 9,c10:=cd bs i 10,c11:=cd bs i 11,c12:=cd bs i 12,c13:=cd bs i 13,c14:=cd bs i 14,c15:=cd bs i 15}
theorem pdC_0 (bs:List UInt8):pdC bs 0={pdOf bs with c0:=0,c1:=0,c2:=0,c3:=0,c4:=0,c5:=0,c6:=0,c7:=0,c8:=0,c9:=0,c10:=0,c11:=0,c12:=0,c13:=0,c14:=0,c15:=0}:=by unfold pdC cd;simp only[Nat.not_lt_zero,if_false]
theorem pdC_16 (bs:List UInt8):pdC bs 16=pdOf bs:=rfl
theorem pdC_next (bs:List UInt8) (d:Value) (i:Nat) (hi:i < 16):(rP (pdC bs i) d).setIfInBounds (10+i) (.int .u8 (bn (bs.getD (32+i) 0)))=rP (pdC bs (i+1)) d:=by
 have:i=0\/i=1\/i=2\/i=3\/i=4\/i=5\/i=6\/i=7\/i=8\/i=9\/i=10\/i=11\/i=12\/i=13\/i=14\/i=15:=by omega
 rcases this with rfl|rfl|rfl|rfl|rfl|rfl|rfl|rfl|rfl|rfl|rfl|rfl|rfl|rfl|rfl|rfl<;>rfl
theorem ge128:∀c:Fin 256,decide (((c.val:Nat):Int)≥128)=decide ((128:UInt8)<=UInt8.ofNat c.val)/\bitsI .and .u8 ((c.val:Nat):Int) 127=bn (UInt8.ofNat c.val&&& 127):=by decide+kernel
theorem fl_ref (c:UInt8):decide (bn c≥128)=decide ((128:UInt8)<=c)/\bitsI .and .u8 (bn c) 127=bn (c&&& 127):=by
 have:=ge128 ⟨c.toNat,c.toNat_lt⟩
 simpa using this
theorem pad_iff {bs:List UInt8} {m n:Nat} (hn:n<=m) (hm:m<=bs.length):(bs.take m).drop n=List.replicate (m - n) 0↔∀j,n<=j->j < m->bs.getD j 0=0:=by
 constructor
 ·intro h j h1 h2
  have e:((bs.take m).drop n)[j - n]? =some (bs.getD j 0):=by
   rw[List.getElem?_drop,List.getElem?_take,if_pos (by omega),List.getD_eq_getElem?_getD,show n+(j - n)=j by omega,List.getElem?_eq_getElem (by omega)];rfl
  rw[h,List.getElem?_replicate,if_pos (by omega)]at e
  exact(Option.some.inj e).symm
 ·intro h
  refine List.ext_getElem? λj=>?_
  rw[List.getElem?_drop,List.getElem?_replicate]
  split
  ·next hj=>
   have:=h (n+j) (by omega) (by omega)
   rw[List.getElem?_take,if_pos (by omega)]
   rw[List.getD_eq_getElem?_getD,List.getElem?_eq_getElem (by omega)]at this
   rw[List.getElem?_eq_getElem (by omega)]
   exact congrArg some this
  ·next hj=>exact List.getElem?_eq_none (by rw[List.length_take];omega)
theorem rDecode_c {v:Value} {bs:List UInt8} {R:KV} (hr:RdB w v bs) (hb:bs.length<=1000000000)
 (k:∀dv n w',Grow w w'->RdB w' dv (if decE bs=0 then decD bs else[])->NewV w dv->(decE bs=0->n=decN bs)->R (.tuple #[vP (if decE bs=0 then pdOf bs else zP) dv,.int .i64 n,.int .i64 (decE bs)]) w'):
 Zs 24 #[v] w R:=by
 have kf:∀e:Int,decE bs=e->e≠0->∀w',Grow w w'->R (.tuple #[vP zP nilV,.int .i64 0,.int .i64 e]) w':=by
  intro e he h0 w' g
  have:=k nilV 0 w' g (by rw[he,if_neg h0];exact Rd.nil _) (λq hq=>by cases hq) (λh=>absurd (he.symm.trans h) h0)
  rw[he,if_neg h0]at this
  exact this
 have fE:∀e:Int,frontE bs=e->e≠0->decE bs=e:=by
  intro e he h0
  unfold decE
  rw[if_pos (by rw[he];exact h0),he]
 apply q102W
 refine nm λw0 e0=>?_
 obtain⟨b0',g0,_⟩:=alE e0
 have b0:BK w0 w.heap.size (rP zP nilV) tP:=b0'
 clear e0
 have hlt:=b0.lt
 have bad:∀(e:Int),decE bs=e->e≠0->∀{w2:World} {cs:Array Value},BK w2 w.heap.size cs tP->cs.size=27->Below w.heap.size w w2->
  (StRow w2 ⟨w.heap.size,0,none⟩ (rP zP nilV))/\bindW (stRow w2 ⟨w.heap.size,0,none⟩ (rP zP nilV)) λw3=>∃(n0:Int) (n1:Bool) (n2:Int) (n3:Int) (n4:Int) (n5:Int) (n6:Int) (n7:Int) (n8:Int) (n9:Int) (n10:Int) (n11:Int) (n12:Int) (n13:Int) (n14:Int) (n15:Int) (n16:Int) (n17:Int) (n18:Int) (n19:Int) (n20:Int) (n21:Int) (n22:Int) (n23:Int) (n24:Int) (n25:Int) (v26:Value),(ldCells w3 ⟨w.heap.size,0,none⟩ 27 #[.int .i64 n0,.bool n1,.int .i64 n2,.int .i64 n3,.int .u32 n4,.int .u32 n5,.int .u32 n6,.int .u32 n7,.int .u32 n8,.int .u32 n9,.int .u8 n10,.int .u8 n11,.int .u8 n12,.int .u8 n13,.int .u8 n14,.int .u8 n15,.int .u8 n16,.int .u8 n17,.int .u8 n18,.int .u8 n19,.int .u8 n20,.int .u8 n21,.int .u8 n22,.int .u8 n23,.int .u8 n24,.int .u8 n25,v26])/\R (.tuple #[.agg #[.int .i64 n0,.bool n1,.int .i64 n2,.int .i64 n3,.int .u32 n4,.int .u32 n5,.int .u32 n6,.int .u32 n7,.int .u32 n8,.int .u32 n9,.int .u8 n10,.int .u8 n11,.int .u8 n12,.int .u8 n13,.int .u8 n14,.int .u8 n15,.int .u8 n16,.int .u8 n17,.int .u8 n18,.int .u8 n19,.int .u8 n20,.int .u8 n21,.int .u8 n22,.int .u8 n23,.int .u8 n24,.int .u8 n25,v26],.int .i64 0,.int .i64 e]) w3:=by
  intro e he h0 w2 cs bk hs g
  refine⟨bk.row (by rw[hs];rfl) rfl,nm λw3 e3=>?_⟩
  obtain⟨b3,t3⟩:=rowE bk e3 (by rw[hs];rfl)
  exact⟨_,_,_,_,_,_,_,_,_,_,_,_,_,_,_,_,_,_,_,_,_,_,_,_,_,_,_,b3.ld rfl,kf e he h0 w3 (Below.turn g t3 (Nat.le_refl _))⟩
 refine⟨_,RdB.len hr,cond_intro (λh=>?_) (λh=>?_)⟩
 ·have h:=of_decide_eq_true h
  exact bad 3 (fE 3 (by unfold frontE;rw[if_pos (by omega)]) (by decide)) (by decide) b0 rfl g0
 have h:=of_decide_eq_false h
 have hl52:52<=bs.length:=by omega
 refine nm λw30 e30=>?_
 have g30:=drE e30
 have hr30:=(hr.grow g0).grow g30
 obtain⟨v31,hs31,hr31,_⟩:=Rd.sub hr30 (lo:=none) (hi:=some (.int .i64 48)) (l:=0) (r:=48) (λcap hc=>by rw[bounds_ni (by omega) (by simp at hc;omega)];rfl) (by omega) (by simp;omega)
 obtain⟨v32,hs32,hr32,_⟩:=Rd.sub hr30 (lo:=some (.int .i64 48)) (hi:=some (.int .i64 52)) (l:=48) (r:=52) (λcap hc=>by rw[bounds_ii (by omega) (by omega) (by simp at hc;omega)];rfl) (by omega) (by simp;omega)
 have q31:RdB w30 v31 (bs.take 48):=by simpa[RdB,List.map_take]using hr31
 have q32:RdB w30 v32 ((bs.drop 48).take 4):=by simpa[RdB,List.map_take,List.map_drop]using hr32
 refine⟨v31,hs31,v32,hs32,_,to_text q32,nm λw34 e34=>?_⟩
 have e34':w34=w30:=e34.trans e30.symm
 subst e34'
 refine ref_Sum_c q31 ⟨_,rfl,⟨_,to_text q32,rfl⟩,ref_Four_c λv39 w40 g40 o39=>⟨⟨_,to_text (q32.grow g40),rfl⟩,_,to_text o39.rd,?_⟩⟩
 rw[text_beq]
 have gA:Grow w0 w40:=g30.then g40
 have b40:=b0.grow gA
 have gB:Grow w w40:=g0.trans (gA.mono (Nat.le_of_lt hlt))
 have hr40:=hr.grow gB
 refine cond_intro (λh2=>?_) (λh2=>?_)
 ·have h2:¬le4 (sum (bs.take 48))=(bs.drop 48).take 4:=by simpa using h2
  exact bad 4 (fE 4 (by unfold frontE;rw[if_neg (by omega),if_neg h2]) (by decide)) (by decide) b40 rfl gB
 have h2:le4 (sum (bs.take 48))=(bs.drop 48).take 4:=by simpa using h2
 refine JoinP.bool (λb w'=>Grow w40 w'/\b=decide (known (bn (bs.getD 0 0))=false\/bs.getD 3 0≠0)) (λj hj=>?_) ?_
 ·obtain⟨a,ha,hc⟩:=byte_at hr40 0 (by omega)
  have w0:IntKind.wrap .i64 (bn (bs.getD 0 0))=bn (bs.getD 0 0):=wi64_id (by have:=(bs.getD 0 0).toNat_lt;unfold bn;omega) (by have:=(bs.getD 0 0).toNat_lt;unfold bn;omega)
  refine⟨a,ha,_,hc,?_⟩
  rw[w0]
  refine rKnown_c λw624 g624=>⟨_,rfl,cond_intro (λh3=>hj _ _ ⟨g624,?_⟩) (λh3=>?_)⟩
  ·have h3:known (bn (bs.getD 0 0))=false:=by simpa using h3
   exact(decide_eq_true (.inl h3)).symm
  ·have h3:known (bn (bs.getD 0 0))=true:=by simpa using h3
   obtain⟨a3,ha3,hc3⟩:=byte_at (hr40.grow g624) 3 (by omega)
   refine⟨a3,ha3,_,hc3,hj _ _ ⟨g624,?_⟩⟩
   rw[Bool.eq_iff_iff]
   simp only[h3,bne_iff_ne,ne_eq,Bool.true_eq_false,false_or,decide_eq_true_eq]
   constructor
   ·intro h5 h6;exact h5 (by rw[h6];rfl)
   ·intro h5 h6;exact h5 (UInt8.toNat_inj.1 (by simpa using h6))
 rintro b w72 ⟨g72,rfl⟩
 have b72:=b40.grow g72
 have g072:Grow w w72:=gB.then g72
 refine cond_intro (λh3=>?_) (λh3=>?_)
 ·have h3:=of_decide_eq_true h3
  exact bad 2 (fE 2 (by unfold frontE;rw[if_neg (by omega),if_pos h2,if_pos h3]) (by decide)) (by decide) b72 rfl g072
 have h3:=of_decide_eq_false h3
 have hr72:=hr.grow g072
 refine num_c hr72 (by decide) ⟨_,rfl,cond_intro (λh4=>?_) (λh4=>?_)⟩
 ·have h4:4096 < num4 bs 4:=of_decide_eq_true h4
  exact bad 5 (fE 5 (by unfold frontE;rw[if_neg (by omega),if_pos h2,if_neg h3,if_pos h4]) (by decide)) (by decide) b72 rfl g072
 have h4:¬4096 < num4 bs 4:=of_decide_eq_false h4
 have fe:frontE bs=0:=by unfold frontE;rw[if_neg (by omega),if_pos h2,if_neg h3,if_neg h4]
 have hn4:=num4_range bs 4
 have hdn:(dn bs:Int)=num4 bs 4:=by unfold dn;omega
 have hdn4:dn bs<=4096:=by omega
 have wb:∀c:UInt8,IntKind.wrap .i64 (bn c)=bn c:=λc=>wi64_id (by have:=c.toNat_lt;unfold bn;omega) (by have:=c.toNat_lt;unfold bn;omega)
 obtain⟨fb1,fb2⟩:=fl_ref (bs.getD 1 0)
 refine JoinP.val (λpv w'=>∃b,pv= zA b/\w.heap.size < b/\Grow w w'/\BK w' b (rP (pdC bs 0) nilV) tP/\BK w' w.heap.size (rP zP nilV) tP) (λj hj=>?_) ?_
 ·refine nm λw365 e365=>?_
  have g365:=drE e365
  have hr5:=hr72.grow g365
  obtain⟨a0,ha0,hc0⟩:=byte_at hr5 0 (by omega)
  obtain⟨a1,ha1,hc1⟩:=byte_at hr5 1 (by omega)
  obtain⟨a2,ha2,hc2⟩:=byte_at hr5 2 (by omega)
  refine⟨a0,ha0,_,hc0,a1,ha1,_,hc1,a1,ha1,_,hc1,a2,ha2,_,hc2,nm λw374 e374=>?_⟩
  obtain rfl:w374=w365:=e374.trans e365.symm
  have b5:=b72.grow g365
  have g5:Grow w w374:=g072.then g365
  have leaf:∀{w4 wz:World},w4=World.alloc w374 (.cells (rP zP nilV) tP)->∀{x0:Int} {x1:Bool} {x2 x3 x4 x5 x6 x7 x8 x9:Int},x0=bn (bs.getD 0 0)->x1=decide ((128:UInt8)<=bs.getD 1 0)->x2=bn (bs.getD 1 0&&& 127)->x3=bn (bs.getD 2 0)->x4=num4 bs 8->x5=num4 bs 12->x6=num4 bs 16->x7=num4 bs 20->x8=num4 bs 24->x9=num4 bs 28->
   (StRow w4 ⟨w374.heap.size,0,none⟩ #[.int .i64 x0,.bool x1,.int .i64 x2,.int .i64 x3,.int .u32 x4,.int .u32 x5,.int .u32 x6,.int .u32 x7,.int .u32 x8,.int .u32 x9,.int .u8 0,.int .u8 0,.int .u8 0,.int .u8 0,.int .u8 0,.int .u8 0,.int .u8 0,.int .u8 0,.int .u8 0,.int .u8 0,.int .u8 0,.int .u8 0,.int .u8 0,.int .u8 0,.int .u8 0,.int .u8 0,nilV])/\
   bindW (stRow w4 ⟨w374.heap.size,0,none⟩ #[.int .i64 x0,.bool x1,.int .i64 x2,.int .i64 x3,.int .u32 x4,.int .u32 x5,.int .u32 x6,.int .u32 x7,.int .u32 x8,.int .u32 x9,.int .u8 0,.int .u8 0,.int .u8 0,.int .u8 0,.int .u8 0,.int .u8 0,.int .u8 0,.int .u8 0,.int .u8 0,.int .u8 0,.int .u8 0,.int .u8 0,.int .u8 0,.int .u8 0,.int .u8 0,.int .u8 0,nilV]) λw5=>
   bindW (stRow w4 ⟨w374.heap.size,0,none⟩ #[.int .i64 x0,.bool x1,.int .i64 x2,.int .i64 x3,.int .u32 x4,.int .u32 x5,.int .u32 x6,.int .u32 x7,.int .u32 x8,.int .u32 x9,.int .u8 0,.int .u8 0,.int .u8 0,.int .u8 0,.int .u8 0,.int .u8 0,.int .u8 0,.int .u8 0,.int .u8 0,.int .u8 0,.int .u8 0,.int .u8 0,.int .u8 0,.int .u8 0,.int .u8 0,.int .u8 0,nilV]) λw6=>
   j (zA w374.heap.size) w6:=by
   intro w4 wz e4 x0 x1 x2 x3 x4 x5 x6 x7 x8 x9 q0 q1 q2 q3 q4 q5 q6 q7 q8 q9
   subst q0 q1 q2 q3 q4 q5 q6 q7 q8 q9
   obtain⟨b4,g4,s4⟩:=alE e4
   refine⟨b4.row rfl rfl,nm λw5 e5=>nm λw6 e6=>hj _ _ ⟨w374.heap.size,rfl,b5.lt,?_,?_,?_⟩⟩
   ·obtain⟨b6,t6⟩:=rowE b4 e6 rfl
    exact Below.turn (g5.then g4) t6 g5.size
   ·obtain⟨b6,t6⟩:=rowE b4 e6 rfl
    rw[pdC_0]
    exact b6
   ·obtain⟨b6,t6⟩:=rowE b4 e6 rfl
    exact(b5.grow g4).turn t6 (by have:=b5.lt;omega)
  have gw:=λo=>Grow.al (Grow.refl w374) o
  have cg:∀{a u} o,w374.cell? a=some u->(w374.alloc o).cell? a=some u:=λo h=>((gw o).cell (World.block_lt_of_cell? _ _ h)).trans h
  have z0:=wb (bs.getD 0 0)
  have z2:IntKind.wrap .i64 (bitsI .and .u8 (bn (bs.getD 1 0)) 127)=bn (bs.getD 1 0&&& 127):=by rw[fb2,wb]
  have z3:=wb (bs.getD 2 0)
  refine⟨num_c hr5 (by decide) ⟨_,rfl,⟨_,hc0,rfl⟩,⟨_,hc1,rfl⟩,⟨_,hc1,rfl⟩,⟨_,hc2,rfl⟩,?_⟩,?_⟩
  ·refine⟨num_c hr5 (by decide) ⟨_,rfl,⟨_,hc0,rfl⟩,⟨_,hc1,rfl⟩,⟨_,hc1,rfl⟩,⟨_,hc2,rfl⟩,?_⟩,?_⟩
   ·refine⟨num_c hr5 (by decide) ⟨_,rfl,⟨_,hc0,rfl⟩,⟨_,hc1,rfl⟩,⟨_,hc1,rfl⟩,⟨_,hc2,rfl⟩,?_⟩,?_⟩
    ·refine⟨num_c hr5 (by decide) ⟨_,rfl,⟨_,hc0,rfl⟩,⟨_,hc1,rfl⟩,⟨_,hc1,rfl⟩,⟨_,hc2,rfl⟩,?_⟩,?_⟩
     ·refine⟨num_c hr5 (by decide) ⟨_,rfl,⟨_,hc0,rfl⟩,⟨_,hc1,rfl⟩,⟨_,hc1,rfl⟩,⟨_,hc2,rfl⟩,?_⟩,?_⟩
      ·refine⟨num_c hr5 (by decide) ⟨_,rfl,⟨_,hc0,rfl⟩,⟨_,hc1,rfl⟩,⟨_,hc1,rfl⟩,⟨_,hc2,rfl⟩,?_⟩,?_⟩
       ·refine⟨⟨_,cg _ hc0,rfl⟩,⟨_,cg _ hc1,rfl⟩,⟨_,cg _ hc1,rfl⟩,⟨_,cg _ hc2,rfl⟩,nm λwa ea=>nm λwb4 eb=>?_⟩
        exact leaf (wz:=wa) eb z0 fb1 z2 z3 rfl rfl rfl rfl rfl rfl
       ·refine⟨⟨_,cg _ hc0,rfl⟩,⟨_,cg _ hc1,rfl⟩,⟨_,cg _ hc1,rfl⟩,⟨_,cg _ hc2,rfl⟩,nm λwa ea=>nm λwb4 eb=>?_⟩
        have aG:∀{a:Addr} {x:Value},w374.cell? a=some x->wb4.cell? a=some x:=λh=>by rw[eb];exact cg _ h
        have hrb:RdB wb4 v bs:=by rw[eb];exact hr5.grow (gw _)
        exact num_c hrb (by decide) ⟨_,rfl,⟨_,aG hc0,rfl⟩,⟨_,aG hc1,rfl⟩,⟨_,aG hc1,rfl⟩,⟨_,aG hc2,rfl⟩,leaf (wz:=wa) eb z0 fb1 z2 z3 rfl rfl rfl rfl rfl rfl⟩
      ·refine⟨⟨_,cg _ hc0,rfl⟩,⟨_,cg _ hc1,rfl⟩,⟨_,cg _ hc1,rfl⟩,⟨_,cg _ hc2,rfl⟩,nm λwa ea=>nm λwb4 eb=>?_⟩
       have aG:∀{a:Addr} {x:Value},w374.cell? a=some x->wb4.cell? a=some x:=λh=>by rw[eb];exact cg _ h
       have hrb:RdB wb4 v bs:=by rw[eb];exact hr5.grow (gw _)
       exact num_c hrb (by decide) ⟨_,rfl,⟨_,aG hc0,rfl⟩,⟨_,aG hc1,rfl⟩,⟨_,aG hc1,rfl⟩,⟨_,aG hc2,rfl⟩,num_c hrb (by decide) ⟨_,rfl,⟨_,aG hc0,rfl⟩,⟨_,aG hc1,rfl⟩,⟨_,aG hc1,rfl⟩,⟨_,aG hc2,rfl⟩,leaf (wz:=wa) eb z0 fb1 z2 z3 rfl rfl rfl rfl rfl rfl⟩⟩
     ·refine⟨⟨_,cg _ hc0,rfl⟩,⟨_,cg _ hc1,rfl⟩,⟨_,cg _ hc1,rfl⟩,⟨_,cg _ hc2,rfl⟩,nm λwa ea=>nm λwb4 eb=>?_⟩
      have aG:∀{a:Addr} {x:Value},w374.cell? a=some x->wb4.cell? a=some x:=λh=>by rw[eb];exact cg _ h
      have hrb:RdB wb4 v bs:=by rw[eb];exact hr5.grow (gw _)
      exact num_c hrb (by decide) ⟨_,rfl,⟨_,aG hc0,rfl⟩,⟨_,aG hc1,rfl⟩,⟨_,aG hc1,rfl⟩,⟨_,aG hc2,rfl⟩,num_c hrb (by decide) ⟨_,rfl,⟨_,aG hc0,rfl⟩,⟨_,aG hc1,rfl⟩,⟨_,aG hc1,rfl⟩,⟨_,aG hc2,rfl⟩,num_c hrb (by decide) ⟨_,rfl,⟨_,aG hc0,rfl⟩,⟨_,aG hc1,rfl⟩,⟨_,aG hc1,rfl⟩,⟨_,aG hc2,rfl⟩,leaf (wz:=wa) eb z0 fb1 z2 z3 rfl rfl rfl rfl rfl rfl⟩⟩⟩
    ·refine⟨⟨_,cg _ hc0,rfl⟩,⟨_,cg _ hc1,rfl⟩,⟨_,cg _ hc1,rfl⟩,⟨_,cg _ hc2,rfl⟩,nm λwa ea=>nm λwb4 eb=>?_⟩
     have aG:∀{a:Addr} {x:Value},w374.cell? a=some x->wb4.cell? a=some x:=λh=>by rw[eb];exact cg _ h
     have hrb:RdB wb4 v bs:=by rw[eb];exact hr5.grow (gw _)
     exact num_c hrb (by decide) ⟨_,rfl,⟨_,aG hc0,rfl⟩,⟨_,aG hc1,rfl⟩,⟨_,aG hc1,rfl⟩,⟨_,aG hc2,rfl⟩,num_c hrb (by decide) ⟨_,rfl,⟨_,aG hc0,rfl⟩,⟨_,aG hc1,rfl⟩,⟨_,aG hc1,rfl⟩,⟨_,aG hc2,rfl⟩,num_c hrb (by decide) ⟨_,rfl,⟨_,aG hc0,rfl⟩,⟨_,aG hc1,rfl⟩,⟨_,aG hc1,rfl⟩,⟨_,aG hc2,rfl⟩,num_c hrb (by decide) ⟨_,rfl,⟨_,aG hc0,rfl⟩,⟨_,aG hc1,rfl⟩,⟨_,aG hc1,rfl⟩,⟨_,aG hc2,rfl⟩,leaf (wz:=wa) eb z0 fb1 z2 z3 rfl rfl rfl rfl rfl rfl⟩⟩⟩⟩
   ·refine⟨⟨_,cg _ hc0,rfl⟩,⟨_,cg _ hc1,rfl⟩,⟨_,cg _ hc1,rfl⟩,⟨_,cg _ hc2,rfl⟩,nm λwa ea=>nm λwb4 eb=>?_⟩
    have aG:∀{a:Addr} {x:Value},w374.cell? a=some x->wb4.cell? a=some x:=λh=>by rw[eb];exact cg _ h
    have hrb:RdB wb4 v bs:=by rw[eb];exact hr5.grow (gw _)
    exact num_c hrb (by decide) ⟨_,rfl,⟨_,aG hc0,rfl⟩,⟨_,aG hc1,rfl⟩,⟨_,aG hc1,rfl⟩,⟨_,aG hc2,rfl⟩,num_c hrb (by decide) ⟨_,rfl,⟨_,aG hc0,rfl⟩,⟨_,aG hc1,rfl⟩,⟨_,aG hc1,rfl⟩,⟨_,aG hc2,rfl⟩,num_c hrb (by decide) ⟨_,rfl,⟨_,aG hc0,rfl⟩,⟨_,aG hc1,rfl⟩,⟨_,aG hc1,rfl⟩,⟨_,aG hc2,rfl⟩,num_c hrb (by decide) ⟨_,rfl,⟨_,aG hc0,rfl⟩,⟨_,aG hc1,rfl⟩,⟨_,aG hc1,rfl⟩,⟨_,aG hc2,rfl⟩,num_c hrb (by decide) ⟨_,rfl,⟨_,aG hc0,rfl⟩,⟨_,aG hc1,rfl⟩,⟨_,aG hc1,rfl⟩,⟨_,aG hc2,rfl⟩,leaf (wz:=wa) eb z0 fb1 z2 z3 rfl rfl rfl rfl rfl rfl⟩⟩⟩⟩⟩
  ·refine⟨⟨_,cg _ hc0,rfl⟩,⟨_,cg _ hc1,rfl⟩,⟨_,cg _ hc1,rfl⟩,⟨_,cg _ hc2,rfl⟩,nm λwa ea=>nm λwb4 eb=>?_⟩
   have aG:∀{a:Addr} {x:Value},w374.cell? a=some x->wb4.cell? a=some x:=λh=>by rw[eb];exact cg _ h
   have hrb:RdB wb4 v bs:=by rw[eb];exact hr5.grow (gw _)
   exact num_c hrb (by decide) ⟨_,rfl,⟨_,aG hc0,rfl⟩,⟨_,aG hc1,rfl⟩,⟨_,aG hc1,rfl⟩,⟨_,aG hc2,rfl⟩,num_c hrb (by decide) ⟨_,rfl,⟨_,aG hc0,rfl⟩,⟨_,aG hc1,rfl⟩,⟨_,aG hc1,rfl⟩,⟨_,aG hc2,rfl⟩,num_c hrb (by decide) ⟨_,rfl,⟨_,aG hc0,rfl⟩,⟨_,aG hc1,rfl⟩,⟨_,aG hc1,rfl⟩,⟨_,aG hc2,rfl⟩,num_c hrb (by decide) ⟨_,rfl,⟨_,aG hc0,rfl⟩,⟨_,aG hc1,rfl⟩,⟨_,aG hc1,rfl⟩,⟨_,aG hc2,rfl⟩,num_c hrb (by decide) ⟨_,rfl,⟨_,aG hc0,rfl⟩,⟨_,aG hc1,rfl⟩,⟨_,aG hc1,rfl⟩,⟨_,aG hc2,rfl⟩,num_c hrb (by decide) ⟨_,rfl,⟨_,aG hc0,rfl⟩,⟨_,aG hc1,rfl⟩,⟨_,aG hc1,rfl⟩,⟨_,aG hc2,rfl⟩,leaf (wz:=wa) eb z0 fb1 z2 z3 rfl rfl rfl rfl rfl rfl⟩⟩⟩⟩⟩⟩
 rintro pv w133 ⟨pb,rfl,hpb,g133,bp0,bz0⟩
 refine⟨λ(i:Int) (ww:World)=>∃i':Nat,i=(i':Int)/\i'<=16/\Grow w ww/\BK ww pb (rP (pdC bs i') nilV) tP/\BK ww w.heap.size (rP zP nilV) tP,λ(i:Int) (_:World)=>((16:Int) - i).toNat,⟨0,rfl,by omega,g133,bp0,bz0⟩,?_⟩
 dsimp only[allR,mapR2,eqN,ltN]
 rintro M _ w136 ⟨⟨i,rfl,hi,g136,bp,bz⟩,hM⟩
 refine cond_intro (λh5=>?_) (λh5=>?_)
 ·have h5:i < 16:=by have:=of_decide_eq_true h5;omega
  rw[wi64_id (n:=(32:Int)+i) (by omega) (by omega)]
  obtain⟨a,ha,hc⟩:=byte_at (hr.grow g136) (32+i) (by omega)
  have ei:((32+i:Nat):Int)=(32:Int)+(i:Int):=by omega
  rw[ei]at ha
  have ea:Addr.add (Addr.add ⟨pb,0,none⟩ 10) (Int.toNat (i:Int)*1)=Addr.add ⟨pb,0,none⟩ (10+i):=by rw[add_add];simp
  refine⟨a,ha,_,hc,withAddr_some ⟨⟨by omega,by omega⟩,by rw[ea];exact st1_at bp (by show 10+i < 27;omega),nm λw140 e140=>?_⟩⟩
  rw[ea]at e140
  obtain⟨b140,t140⟩:=setE bp e140
  rw[pdC_next bs _ i h5]at b140
  rw[wi64_id (n:=(i:Int)+1) (by omega) (by omega)]
  exact⟨⟨i+1,by omega,by omega,Below.turn g136 t140 (Nat.le_of_lt hpb),b140,bz.turn t140 (by omega)⟩,by omega⟩
 have h5:i=16:=by have:=of_decide_eq_false h5;omega
 subst h5
 rw[pdC_16]at bp
 refine cond_intro (λh6=>?_) (λh6=>?_)
 ·have h6:num4 bs 4=0:=by simpa using h6
  have hz:dn bs=0:=by unfold dn;rw[h6];rfl
  have d0:decE bs=0:=by unfold decE;rw[if_neg (by rw[fe];simp),if_pos hz]
  have dD:decD bs=[]:=by unfold decD;rw[hz];simp
  have dN:decN bs=52:=by unfold decN;rw[if_pos hz]
  refine withAddr_some ⟨_,_,_,_,_,_,_,_,_,_,_,_,_,_,_,_,_,_,_,_,_,_,_,_,_,_,_,bp.ld rfl,bz.row rfl rfl,nm λw169 e169=>?_⟩
  obtain⟨b169,t169⟩:=rowE bz e169 rfl
  refine⟨_,_,_,_,_,_,_,_,_,_,_,_,_,_,_,_,_,_,_,_,_,_,_,_,_,_,_,b169.ld rfl,?_⟩
  have:=k nilV 52 w169 (Below.turn g136 t169 (Nat.le_refl _)) (by rw[if_pos d0,dD];exact Rd.nil _) (λq hq=>by cases hq) (λ_=>dN.symm)
  rw[if_pos d0,d0]at this
  exact this
 have h6:¬num4 bs 4=0:=by simpa using h6
 have hz:¬dn bs=0:=by unfold dn;omega
 have hr136:=hr.grow g136
 have edn:IntKind.wrap .i64 (num4 bs 4)=(dn bs:Int):=by rw[wi64_id (by omega) (by omega)];exact hdn.symm
 have edw:IntKind.wrap .i64 ((IntKind.wrap .i64 (Int.tdiv (IntKind.wrap .i64 ((IntKind.wrap .i64 (num4 bs 4))+(3:Int))) (4:Int)))*(4:Int))=(dw bs:Int):=by
  rw[edn,wi64_id (n:=(dn bs:Int)+3) (by omega) (by omega),Int.tdiv_eq_ediv_of_nonneg (by omega),wi64_id (n:=((dn bs:Int)+3) / 4) (by omega) (by omega),wi64_id (by omega) (by omega)]
  unfold dw;omega
 have hdw:dn bs<=dw bs/\dw bs<=4096:=by unfold dw;omega
 refine⟨_,RdB.len hr136,?_⟩
 rw[edw,edn,wi64_id (n:=(56:Int)+dw bs) (by omega) (by omega),wi64_id (n:=(52:Int)+dw bs) (by omega) (by omega)]
 refine cond_intro (λh7=>?_) (λh7=>?_)
 ·have h7:=of_decide_eq_true h7
  exact bad 3 (by unfold decE;rw[if_neg (by rw[fe];simp),if_neg hz,if_pos (by omega)]) (by decide) bz rfl g136
 have h7:=of_decide_eq_false h7
 have hlen:¬bs.length < 52+dw bs+4:=by omega
 obtain⟨v226,hs226,hr226,hb226⟩:=Rd.sub hr136 (lo:=some (.int .i64 52)) (hi:=some (.int .i64 ((52:Int)+dw bs))) (l:=52) (r:=52+dw bs) (λcap hc=>by rw[List.length_map]at hc;rw[bounds_ii (by omega) (by omega) (by omega)];congr 2) (by omega) (by rw[List.length_map];omega)
 have q226:RdB w136 v226 ((bs.drop 52).take (dw bs)):=by
  have e:((bs.map b8).drop 52).take (52+dw bs - 52)=((bs.drop 52).take (dw bs)).map b8:=by rw[show 52+dw bs - 52=dw bs by omega,List.map_take,List.map_drop]
  rw[e]at hr226;exact hr226
 refine⟨v226,hs226,nm λw227 e227=>?_⟩
 have g227:=drE e227
 have hr227:=hr136.grow g227
 obtain⟨v228,hs228,hr228,_⟩:=Rd.sub hr227 (lo:=some (.int .i64 ((52:Int)+dw bs))) (hi:=some (.int .i64 ((56:Int)+dw bs))) (l:=52+dw bs) (r:=56+dw bs) (λcap hc=>by rw[List.length_map]at hc;rw[bounds_ii (by omega) (by omega) (by omega)];congr 2<;>omega) (by omega) (by rw[List.length_map];omega)
 have q228:RdB w227 v228 (((bs.drop 52).drop (dw bs)).take 4):=by
  have e:((bs.map b8).drop (52+dw bs)).take (56+dw bs - (52+dw bs))=(((bs.drop 52).drop (dw bs)).take 4).map b8:=by rw[show 56+dw bs - (52+dw bs)=4 by omega,List.map_take,List.drop_drop,List.map_drop]
  rw[e]at hr228;exact hr228
 refine⟨v228,hs228,_,to_text q228,nm λw230 e230=>?_⟩
 obtain rfl:w230=w227:=e230.trans e227.symm
 refine ref_Sum_c (q226.grow g227) ⟨_,rfl,⟨_,to_text q228,rfl⟩,ref_Four_c λv235 w236 g236 o235=>⟨⟨_,to_text (q228.grow g236),rfl⟩,_,to_text o235.rd,?_⟩⟩
 rw[text_beq]
 have g236':Grow w136 w236:=g227.then g236
 have gC:Grow w w236:=g136.then g236'
 have bz236:=bz.grow g236'
 have bp236:=bp.grow g236'
 refine cond_intro (λh8=>?_) (λh8=>?_)
 ·have h8:¬le4 (sum ((bs.drop 52).take (dw bs)))=((bs.drop 52).drop (dw bs)).take 4:=by simpa using h8
  exact bad 4 (by unfold decE;rw[if_neg (by rw[fe];simp),if_neg hz,if_neg hlen,if_neg h8]) (by decide) bz236 rfl gC
 have h8:le4 (sum ((bs.drop 52).take (dw bs)))=((bs.drop 52).drop (dw bs)).take 4:=by simpa using h8
 have q236:=q226.grow g236'
 have hDl:((bs.drop 52).take (dw bs)).length=dw bs:=by rw[List.length_take,List.length_drop];omega
 refine⟨λ(i:Int) (ww:World)=>∃i':Nat,i=(i':Int)/\dn bs<=i'/\i'<=dw bs/\ww=w236/\∀j,dn bs<=j->j < i'->(bs.drop 52).getD j 0=0,λ(i:Int) (_:World)=>((dw bs:Int) - i).toNat,⟨dn bs,rfl,Nat.le_refl _,hdw.1,rfl,λj h1 h2=>by omega⟩,?_⟩
 dsimp only[allR,mapR2,eqN,ltN]
 rintro M2 _ w269 ⟨⟨i,rfl,hi1,hi2,rfl,hz0⟩,hM2⟩
 have pi:=pad_iff (bs:=bs.drop 52) (m:=dw bs) (n:=dn bs) hdw.1 (by rw[List.length_drop];omega)
 refine cond_intro (λh9=>?_) (λh9=>?_)
 ·have h9:i < dw bs:=by have:=of_decide_eq_true h9;omega
  obtain⟨a,ha,hc⟩:=byte_at q236 i (by rw[hDl];exact h9)
  have eg:((bs.drop 52).take (dw bs)).getD i 0=(bs.drop 52).getD i 0:=by
   rw[List.getD_eq_getElem?_getD,List.getD_eq_getElem?_getD,List.getElem?_take,if_pos h9]
  rw[eg]at hc
  refine⟨a,ha,_,hc,cond_intro (λh10=>?_) (λh10=>?_)⟩
  ·have h10:¬(bs.drop 52).getD i 0=0:=λe=>by rw[e]at h10;simp at h10
   exact bad 2 (by unfold decE;rw[if_neg (by rw[fe];simp),if_neg hz,if_neg hlen,if_pos h8,if_neg (λe=>h10 (pi.1 e i hi1 h9))]) (by decide) bz236 rfl gC
  ·have h10:(bs.drop 52).getD i 0=0:=UInt8.toNat_inj.1 (by simpa using h10)
   rw[wi64_id (n:=(i:Int)+1) (by omega) (by omega)]
   refine⟨⟨i+1,by omega,by omega,by omega,rfl,λj h1 h2=>?_⟩,by omega⟩
   by_cases hj:j=i
   ·rw[hj];exact h10
   ·exact hz0 j h1 (by omega)
 have h9:i=dw bs:=by have:=of_decide_eq_false h9;omega
 subst h9
 have d0:decE bs=0:=by unfold decE;rw[if_neg (by rw[fe];simp),if_neg hz,if_neg hlen,if_pos h8,if_pos (pi.2 hz0)]
 have dN:decN bs=(56:Int)+dw bs:=by unfold decN;rw[if_neg hz]
 refine nm λw300 e300=>?_
 obtain⟨_,g300,_⟩:=alE e300
 obtain⟨v301,hs301,hr301,_⟩:=Rd.sub (q236.grow g300) (lo:=none) (hi:=some (.int .u32 (num4 bs 4))) (l:=0) (r:=dn bs) (λcap hc=>by rw[List.length_map,hDl]at hc;rw[bounds_ni (by omega) (by omega)];rfl) (by omega) (by rw[List.length_map,hDl];omega)
 have q301:RdB w300 v301 (decD bs):=by
  have e:((((bs.drop 52).take (dw bs)).map b8).drop 0).take (dn bs - 0)=(decD bs).map b8:=by
   unfold decD
   rw[List.drop_zero,Nat.sub_zero,←List.map_take,List.take_take,Nat.min_eq_left hdw.1]
  rw[e]at hr301;exact hr301
 have ho300:OwnB w300 w269.heap.size tb (.slice (some ⟨w269.heap.size,0,none⟩) 0 0) []:=by
  rw[e300];exact Own.lit w269 (Nat.le_refl _) tb #[] 0 rfl (by simp [maxLen])
 have hDD:(decD bs).length<=4096:=by unfold decD;rw[List.length_take];omega
 obtain⟨v302,w303,k302,o302,n302⟩:=app_bytes ho300 q301 g300.size (by simp;omega)
 rw[List.nil_append]at o302
 have g303:Grow w269 w303:=g300.trans (n302.below g300.size ho300.blk)
 have bz303:=bz236.grow g303
 have bp303:=bp236.grow g303
 refine⟨v301,hs301,v302,w303,k302,withAddr_some (oneK_of (Rd.isOne o302.rd) ⟨st1_at bp303 (by show 26 < 27;omega),nm λw305 e305=>withAddr_some ?_⟩)⟩
 obtain⟨b305,t305⟩:=setE bp303 e305
 have b305:BK w305 pb (rP (pdOf bs) v302) tP:=b305
 have one:oneL (rP (pdOf bs) v302).toList=true:=by
  have h1:=Rd.isOne o302.rd
  simp only[rP,oneL,h1,Bool.and_true];rfl
 have bz305:=bz303.turn t305 (by omega)
 refine⟨_,_,_,_,_,_,_,_,_,_,_,_,_,_,_,_,_,_,_,_,_,_,_,_,_,_,_,b305.ld rfl,bz305.row rfl one,nm λw334 e334=>?_⟩
 obtain⟨b334,t334⟩:=rowE bz305 e334 rfl
 refine⟨_,_,_,_,_,_,_,_,_,_,_,_,_,_,_,_,_,_,_,_,_,_,_,_,_,_,_,b334.ld rfl,?_⟩
 have gD:Grow w w334:=Below.turn (Below.turn (gC.then g303) t305 (Nat.le_of_lt hpb)) t334 (Nat.le_refl _)
 have lo:∀q,v302.ownBlock=some q->w269.heap.size<=q:=λq hq=>o302.blk q hq
 have l1:=bp236.lt
 have l2:=bz236.lt
 have r334:RdB w334 v302 (decD bs):=Rd.turn (Rd.turn o302.rd t305 (λe=>by have:=lo _ e;omega)) t334 (λe=>by have:=lo _ e;omega)
 have:=k v302 ((56:Int)+dw bs) w334 gD (by rw[if_pos d0];exact r334) (λq hq=>by have:=lo q hq;have:=gC.size;omega) (λ_=>dN.symm)
 rw[if_pos d0,d0]at this
 exact this
end Go.Proofs.YtdinpgnjnleioaaGreatDoor.Rs
