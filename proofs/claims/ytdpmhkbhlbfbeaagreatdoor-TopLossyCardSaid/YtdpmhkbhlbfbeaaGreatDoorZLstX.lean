/- A part of the proof. -/
import Derived.Test.YtdpmhkbhlbfbeaaGreatDoorZBX3
set_option linter.unusedSimpArgs false
set_option linter.unusedVariables false
section
namespace Go.Proofs.YtdpmhkbhlbfbeaaGreatDoor.Lst
open CW RowKit
def EU:Enc Int:=⟨1,λn=>[.int .u64 n],λ_=>rfl,by omega,λ_=>rfl⟩
theorem EU_at {w:World} {v:Value} {L:List Int} (h:RdR EU w v L) {i:Int} (h0:0<=i) (h1:i < L.length):
 ∃a,sliceAt v i 1=some a/\w.cell? a=some (.int .u64 (L[i.toNat]'(by omega))):=by
 obtain⟨a,ha,hc,_⟩:=h.at h0 h1
 have:=hc 0 (by decide)
 rw[add_zero]at this
 exact⟨a,ha,this⟩
def encB (k o:Int):List UInt8:=putL k 8++putL o 8++putL 0 8
def cutK (l:List Int):List Int:=l.take 16
def rowB (l:List Int):List UInt8:=l.flatMap (λx=>putL x 8)
def keysB (g:Int) (l:List Int):List UInt8:=putL g 4++putL (8*((cutK l).length:Int)) 4++rowB (cutK l)
def holdB (g key typ:Int):List UInt8:=
 if typ % 16=0 then putL g 4++putL 0 4 else putL g 4++putL 16 4++putL key 8++putL 0 4++putL (typ % 16) 2++putL 0 2
theorem rowB_length (l:List Int):(rowB l).length=8*l.length:=by
 induction l with
 |nil=>rfl
 |cons x l ih=>
  have e:rowB (x::l)=putL x 8++rowB l:=rfl
  rw[e,List.length_append,putL_length,ih,List.length_cons];omega
theorem rowB_append (a b:List Int):rowB (a++b)=rowB a++rowB b:=by simp [rowB]
theorem cutK_length (l:List Int):(cutK l).length=min 16 l.length:=by simp [cutK]
theorem keysB_length (g:Int) (l:List Int):(keysB g l).length=8+8*min 16 l.length:=by
 simp only[keysB,List.length_append,putL_length,rowB_length,cutK_length]
theorem encB_length (k o:Int):(encB k o).length=24:=by simp [encB,putL_length]
theorem holdB_length (g key typ:Int):(holdB g key typ).length=if typ % 16=0 then 8 else 24:=by
 unfold holdB;split<;>simp [putL_length]
theorem p8 (x:Int) (h0:0<=x) (h1:x < 18446744073709551616):x % (256:Int) ^ 8=x:=by
 have e:(256:Int) ^ 8=18446744073709551616:=rfl
 rw[e];omega
end Go.Proofs.YtdpmhkbhlbfbeaaGreatDoor.Lst
end
section
namespace Go.Proofs.YtdpmhkbhlbfbeaaGreatDoor.Lst
open CW RowKit
abbrev tU:TypeId:=38
abbrev tUs:TypeId:=192
theorem tyU:SlTyN Tryz.prog tUs tU EU.s 8:=SlTyN.of (by kernel_rfl)
theorem u64_of32 {g:Int} (hg:0<=g/\g < 4294967296):IntKind.wrap .u64 g=g:=w64_id (by omega) (by omega)
theorem put4 (bs:List UInt8) (x:Int):putS bs x 4=bs++putL x 4:=rfl
theorem put8 (bs:List UInt8) (x:Int):putS bs x 8=bs++putL x 8:=rfl
theorem put2 (bs:List UInt8) (x:Int):putS bs x 2=bs++putL x 2:=rfl
theorem Keys_c {w:World} {g:Int} {v:Value} {l:List Int} {R:KV} (hg:0<=g/\g < 4294967296) (hr:RdR EU w v l) (c:∀v' w',Grow w w'->RdB w' v' (keysB g l)->NewV w v'->R v' w'):
 Zs 111 #[.int .u32 g,v] w R:=by
 apply q97W
 have hle:=hr.le
 obtain⟨v1,h1,r1,_⟩:=hr.sub (lo:=none) (hi:=some (.int .i64 (if(16:Int) < ((l.length:Nat):Int)then(16:Int)else((l.length:Nat):Int)))) (l:=0) (r:=min 16 l.length) (λcap hc=>by
  rw[bounds_ni (by split<;>omega) (by split<;>omega)]
  have e:(if(16:Int) < ((l.length:Nat):Int)then(16:Int)else((l.length:Nat):Int)).toNat=min 16 l.length:=by split<;>omega
  rw[e]) (by omega) (by omega)
 rw[List.drop_zero,Nat.sub_zero]at r1
 have e0:l.take (min 16 l.length)=cutK l:=by
  unfold cutK
  by_cases h:l.length<=16
  ·rw[List.take_of_length_le (by omega),List.take_of_length_le h]
  ·have:min 16 l.length=16:=by omega
   rw[this]
 rw[e0]at r1
 have hcl:=cutK_length l
 refine⟨_,hr.len,v1,h1,?_⟩
 rw[u64_of32 hg]
 refine bin_Put_c (bs:=[]) (Rd.nil w) (by simp) λv2 w3 g3 r3 _=>⟨_,r1.len,?_⟩
 rw[wi64_id (n:=8*((cutK l).length:Int)) (by omega) (by omega),w64_id (n:=8*((cutK l).length:Int)) (by omega) (by omega)]
 refine bin_Put_c r3 (by simp [put4,putL_length]) λv5 w6 g6 r6 n6=>⟨_,r1.len,?_⟩
 have hd:putS (putS [] g 4) (8*((cutK l).length:Int)) 4=putL g 4++putL (8*((cutK l).length:Int)) 4:=rfl
 rw[hd]at r6
 refine⟨λ(vv:Value) (i:Int) (ww:World)=>0<=i/\i<=(cutK l).length/\Grow w ww/\RdB ww vv (putL g 4++putL (8*((cutK l).length:Int)) 4++rowB ((cutK l).take i.toNat))/\NewV w vv,λ(_:Value) (i:Int) (_:World)=>((cutK l).length - i).toNat,
  ⟨by omega,by omega,g3.then g6,by simpa[rowB]using r6,n6.of g3.size⟩,?_⟩
 dsimp only[allR,mapR2,eqN,ltN]
 rintro m vv i ww ⟨⟨h0,h1',gg,rr,nn⟩,hm⟩
 refine cond_intro (λh=>?_) (λh=>?_)
 ·simp at h
  obtain⟨a,ha,hc⟩:=EU_at (r1.grow gg) h0 h
  refine⟨a,ha,_,hc,bin_Put_c rr (by simp [putL_length,rowB_length];omega) λv14 w15 g15 r15 n15=>?_⟩
  rw[wi64_id (n:=i+1) (by omega) (by omega)]
  refine⟨⟨by omega,by omega,gg.then g15,?_,n15.of gg.size⟩,by omega⟩
  have e:(i+1).toNat=i.toNat+1:=by omega
  rw[e,List.take_add_one,List.getElem?_eq_getElem (by omega),rowB_append]
  rw[put8,List.append_assoc]at r15
  exact r15
 ·simp at h
  have e:(cutK l).take i.toNat=cutK l:=List.take_of_length_le (by omega)
  rw[e]at rr
  exact c _ _ gg rr nn
theorem and15 {t:Int} (ht:Fits .i64 t):bitsI .and .i64 t (15:Int)=t % 16:=by
 have h:=ht.i64
 show IntKind.wrap .i64 (((BitVec.ofInt 64 t&&& BitVec.ofInt 64 15).toNat:Nat):Int)=_
 have e:(BitVec.ofInt 64 t&&& BitVec.ofInt 64 15).toNat=(t % 16).toNat:=by
  have e15:(BitVec.ofInt 64 15)=BitVec.ofNat 64 15:=rfl
  rw[e15,BitVec.toNat_and,BitVec.toNat_ofNat,BitVec.toNat_ofInt]
  have:(15 % 2 ^ 64:Nat)=2 ^ 4 - 1:=rfl
  rw[this,Nat.and_two_pow_sub_one_eq_mod]
  omega
 rw[e,wi64_id (by omega) (by omega)]
 omega
end Go.Proofs.YtdpmhkbhlbfbeaaGreatDoor.Lst
end
section
namespace Go.Proofs.YtdpmhkbhlbfbeaaGreatDoor.Lst
open CW RowKit
abbrev tQ:TypeId:=49
def rep0:Array Value:= #[.int .i64 0,.int .i64 0,.int .i64 0,.slice none 0 0,.int .i64 0]
def repW (k c:Int):Array Value:= #[.int .i64 2,.int .i64 k,.int .i64 c,.slice none 0 0,.int .i64 0]
theorem Wrong_c {w:World} {k c:Int} {R:KV} (h:∀w',Grow w w'->R (.agg (repW k c)) w'):Zs 65 #[.int .i64 k,.int .i64 c] w R:=by
 apply q117W
 unfold q117F
 try simp only[bindW]
 have b0:=BK.new w rep0 tQ
 have b1:=b0.strow (ds:=repW k c) rfl
 exact⟨b0.row (ds:=repW k c) rfl rfl,_,_,_,_,_,b1.ld rfl,h _ (Below.strow (Grow.al (Grow.refl w) (.cells rep0 tQ)) (p:=⟨w.heap.size,0,none⟩) (Nat.le_refl _) (repW k c))⟩
def okD (bs:List UInt8):Bool:=decide (bs.length=24)&&decide (getV bs 16 8=0)
def dK (bs:List UInt8):Int:=if okD bs=true then getV bs 0 8 else 0
def dO (bs:List UInt8):Int:=if okD bs=true then getV bs 8 8 else 0
def dR (bs:List UInt8):Array Value:=if okD bs=true then rep0 else repW 5 9728
theorem Decode_c {w:World} {v:Value} {bs:List UInt8} {R:KV} (hr:RdB w v bs)
 (c:∀w',Grow w w'->R (.tuple #[.int .u64 (dK bs),.int .u64 (dO bs),.agg (dR bs),.bool (okD bs)]) w'):Zs 171 #[v] w R:=by
 apply q94W
 have ga:Grow w (w.alloc (.cells rep0 tQ)):=Grow.al (Grow.refl w) (.cells rep0 tQ)
 have b0:=BK.new w rep0 tQ
 refine Wrong_c λw1 g1=>⟨_,_,_,_,_,rfl,?_⟩
 have b1:=b0.grow g1
 have hlt:=b1.lt
 have g1:=ga.then g1
 have c1:=BK.new w1 rep0 tQ
 have cw:=c1.strow (ds:=repW 5 9728) rfl
 have gc:Grow w1 (stRow (w1.alloc (.cells rep0 tQ)) ⟨w1.heap.size,0,none⟩ (repW 5 9728)):=Below.strow (Grow.al (Grow.refl w1) (.cells rep0 tQ)) (p:=⟨w1.heap.size,0,none⟩) (Nat.le_refl _) (repW 5 9728)
 have b2:=b1.grow gc
 have s1:=c1.row (ds:=repW 5 9728) rfl rfl
 have g2:=g1.then gc
 refine⟨s1,_,RdB.len hr,?_⟩
 generalize hW:stRow (w1.alloc (.cells rep0 tQ)) ⟨w1.heap.size,0,none⟩ (repW 5 9728)=W at *
 have e0:(stRow (w1.alloc (.cells #[.int .i64 0,.int .i64 0,.int .i64 0,.slice none 0 0,.int .i64 0] tQ)) ⟨w1.heap.size,0,none⟩ #[.int .i64 2,.int .i64 5,.int .i64 9728,.slice none 0 0,.int .i64 0])=W:=hW
 rw[e0]
 have bad:okD bs=false->∀X,Grow w X->BK X w.heap.size rep0 tQ->BK X w1.heap.size (repW 5 9728) tQ->
  ldCells X ⟨w1.heap.size,0,none⟩ 5 (repW 5 9728)/\StRow X ⟨w.heap.size,0,none⟩ (repW 5 9728)/\ldCells (stRow X ⟨w.heap.size,0,none⟩ (repW 5 9728)) ⟨w.heap.size,0,none⟩ 5 (repW 5 9728)/\
   R (.tuple #[.int .u64 0,.int .u64 0,.agg (repW 5 9728),.bool false]) (stRow X ⟨w.heap.size,0,none⟩ (repW 5 9728)):=by
  intro ho X gX bX cX
  have hc:=c (stRow X ⟨w.heap.size,0,none⟩ (repW 5 9728)) (Below.strow gX (p:=⟨w.heap.size,0,none⟩) (Nat.le_refl _) _)
  simp only[dK,dO,dR,ho]at hc
  exact⟨cX.ld rfl,bX.row (ds:=repW 5 9728) rfl rfl,(bX.strow (ds:=repW 5 9728) rfl).ld rfl,hc⟩
 refine cond_intro (λh=>?_) (λh=>?_)
 ·have ho:okD bs=false:=by
   simp at h
   have:¬bs.length=24:=by omega
   simp [okD,this]
  have gd:=Grow.dr (Grow.refl W)
  obtain⟨k1,k2,k3,k4⟩:=bad ho _ (g2.then gd) (b2.grow gd) (cw.grow gd)
  exact⟨2,5,9728,.slice none 0 0,0,k1,k2,2,5,9728,.slice none 0 0,0,k3,k4⟩
 ·have hl:bs.length=24:=by simp at h;omega
  have hr2:=hr.grow g2
  refine bin_Get_c hr2 (by decide) (by decide) ⟨_,_,rfl,bin_Get_c hr2 (by decide) (by decide) ⟨_,_,rfl,bin_Get_c hr2 (by decide) (by decide) ⟨_,_,rfl,cond_intro (λh2=>?_) (λh2=>?_)⟩⟩⟩
  ·have ho:okD bs=false:=by
    have:¬getV bs 16 8=0:=by simpa using h2
    simp [okD,this]
   have gd:=Grow.dr (Grow.refl W)
   obtain⟨k1,k2,k3,k4⟩:=bad ho _ (g2.then gd) (b2.grow gd) (cw.grow gd)
   exact⟨2,5,9728,.slice none 0 0,0,k1,k2,2,5,9728,.slice none 0 0,0,k3,k4⟩
  ·have ho:okD bs=true:=by
    have:getV bs 16 8=0:=by simpa using h2
    simp [okD,this,hl]
   have hc:=c (stRow W ⟨w.heap.size,0,none⟩ rep0) (Below.strow g2 (p:=⟨w.heap.size,0,none⟩) (Nat.le_refl _) _)
   simp only[dK,dO,dR,ho]at hc
   exact⟨b2.row (ds:=rep0) rfl rfl,_,_,_,_,_,(b2.strow (ds:=rep0) rfl).ld rfl,hc⟩
theorem Holder_c {w:World} {g k t:Int} {R:KV} (hg:0<=g/\g < 4294967296) (ht:Fits .i64 t) (c:∀v w',Grow w w'->RdB w' v (holdB g k t)->NewV w v->R v w'):
 Zs 115 #[.int .u32 g,.int .u64 k,.int .i64 t] w R:=by
 apply q96W
 unfold q96F
 rw[u64_of32 hg,and15 ht]
 have h16:0<=t % 16/\t % 16 < 16:=by omega
 refine bin_Put_c (bs:=[]) (Rd.nil w) (by simp) λv1 w1 g1 r1 _=>cond_intro (λh=>?_) (λh=>?_)
 ·have h0:t % 16=0:=by simpa using h
  refine bin_Put_c r1 (by simp [put4,putL_length]) λv2 w2 g2 r2 n2=>c _ _ (g1.then g2) ?_ (n2.of g1.size)
  unfold holdB;rw[if_pos h0];exact r2
 ·have h0:¬t % 16=0:=by simpa using h
  rw[w64_id (n:=t % 16) (by omega) (by omega)]
  refine bin_Put_c r1 (by simp [put4,putL_length]) λv2 w2 g2 r2 _=>?_
  refine bin_Put_c r2 (by simp [put4,put8,putL_length]) λv3 w3 g3 r3 _=>?_
  refine bin_Put_c r3 (by simp [put4,put8,putL_length]) λv4 w4 g4 r4 _=>?_
  refine bin_Put_c r4 (by simp [put4,put8,putL_length]) λv5 w5 g5 r5 _=>?_
  refine bin_Put_c r5 (by simp [put4,put8,put2,putL_length]) λv6 w6 g6 r6 n6=>?_
  have gg:=g1.then (g2.then (g3.then (g4.then g5)))
  refine c _ _ (gg.then g6) ?_ (n6.of gg.size)
  unfold holdB;rw[if_neg h0];exact r6
theorem encB_ok {k o:Int} (hk:0<=k/\k < 18446744073709551616) (ho:0<=o/\o < 18446744073709551616):okD (encB k o)=true/\dK (encB k o)=k/\dO (encB k o)=o:=by
 have h1:=getV_at (pre:=[]) (post:=putL o 8++putL 0 8) (n:=8) hk.1 (by omega) (a:=0) rfl
 have h2:=getV_at (pre:=putL k 8) (post:=putL 0 8) (n:=8) ho.1 (by omega) (a:=8) (by rw[putL_length];rfl)
 have h3:=getV_at (pre:=putL k 8++putL o 8) (post:=[]) (x:=0) (n:=8) (by omega) (by omega) (a:=16) (by simp [putL_length])
 rw[List.nil_append,←List.append_assoc,p8 _ hk.1 hk.2]at h1
 rw[p8 _ ho.1 ho.2]at h2
 rw[List.append_nil,p8 _ (by omega) (by omega)]at h3
 have hd:okD (encB k o)=true:=by
  simp only[okD,encB_length,Bool.and_eq_true,decide_eq_true_eq]
  exact⟨trivial,h3⟩
 exact⟨hd,by unfold dK;rw[if_pos hd];exact h1,by unfold dO;rw[if_pos hd];exact h2⟩
end Go.Proofs.YtdpmhkbhlbfbeaaGreatDoor.Lst
end
