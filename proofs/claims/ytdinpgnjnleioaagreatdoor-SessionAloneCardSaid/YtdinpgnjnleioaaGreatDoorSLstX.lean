/- A part of the proof. -/
import Derived.Test.YtdinpgnjnleioaaGreatDoorSBX3
set_option linter.unusedSimpArgs false
set_option linter.unusedVariables false
section
namespace Go.Proofs.YtdinpgnjnleioaaGreatDoor.Lst
open CW RowKit
def EU:Enc Int:=⟨1,λn=>[.int .u64 n],λ_=>rfl,by omega,λ_=>rfl⟩
theorem EU_at {w:World} {v:Value} {L:List Int} (h:RdR EU w v L) {i:Int} (h0:0<=i) (h1:i < L.length):
 ∃a,sliceAt v i 1=some a/\w.cell? a=some (.int .u64 (L[i.toNat]'(by omega))):=by
 obtain⟨a,ha,hc,_⟩:=h.at h0 h1
 have:=hc 0 (by decide)
 rw[add_zero]at this
 exact⟨a,ha,this⟩
def cutK (l:List Int):List Int:=l.take 16
def rowB (l:List Int):List UInt8:=l.flatMap (λx=>putL x 8)
def keysB (g:Int) (l:List Int):List UInt8:=putL g 4++putL (8*((cutK l).length:Int)) 4++rowB (cutK l)
theorem rowB_length (l:List Int):(rowB l).length=8*l.length:=by
 induction l with
 |nil=>rfl
 |cons x l ih=>
  have e:rowB (x::l)=putL x 8++rowB l:=rfl
  rw[e,List.length_append,putL_length,ih,List.length_cons];omega
theorem rowB_append (a b:List Int):rowB (a++b)=rowB a++rowB b:=by simp [rowB]
theorem cutK_length (l:List Int):(cutK l).length=min 16 l.length:=by simp [cutK]
theorem keysB_length (g:Int) (l:List Int):(keysB g l).length=8+8*min 16 l.length:=by
 simp only[keysB,List.length_append,putL_length,rowB_length,cutK_length]
end Go.Proofs.YtdinpgnjnleioaaGreatDoor.Lst
end
section
namespace Go.Proofs.YtdinpgnjnleioaaGreatDoor.Lst
open CW RowKit
abbrev tU:TypeId:=62
abbrev tUs:TypeId:=148
theorem tyU:SlTyN Tryz.prog tUs tU EU.s 8:=SlTyN.of (by kernel_rfl)
theorem u64_of32 {g:Int} (hg:0<=g/\g < 4294967296):IntKind.wrap .u64 g=g:=w64_id (by omega) (by omega)
theorem put4 (bs:List UInt8) (x:Int):putS bs x 4=bs++putL x 4:=rfl
theorem put8 (bs:List UInt8) (x:Int):putS bs x 8=bs++putL x 8:=rfl
end Go.Proofs.YtdinpgnjnleioaaGreatDoor.Lst
end
section
namespace Go.Proofs.YtdinpgnjnleioaaGreatDoor.Lst
open CW RowKit
abbrev tQ:TypeId:=69
def rep0:Array Value:= #[.int .i64 0,.int .i64 0,.int .i64 0,.slice none 0 0,.int .i64 0]
def repW (k c:Int):Array Value:= #[.int .i64 2,.int .i64 k,.int .i64 c,.slice none 0 0,.int .i64 0]
theorem Wrong_c {w:World} {k c:Int} {R:KV} (h:∀w',Grow w w'->R (.agg (repW k c)) w'):Zs 147 #[.int .i64 k,.int .i64 c] w R:=by
 apply q132W
 have b0:=BK.new w rep0 tQ
 have b1:=b0.strow (ds:=repW k c) rfl
 exact⟨b0.row (ds:=repW k c) rfl rfl,_,_,_,_,_,b1.ld rfl,h _ (Below.strow (Grow.al (Grow.refl w) (.cells rep0 tQ)) (p:=⟨w.heap.size,0,none⟩) (Nat.le_refl _) (repW k c))⟩
def okD (bs:List UInt8):Bool:=decide (bs.length=24)&&decide (getV bs 16 8=0)
def dK (bs:List UInt8):Int:=if okD bs=true then getV bs 0 8 else 0
def dO (bs:List UInt8):Int:=if okD bs=true then getV bs 8 8 else 0
def dR (bs:List UInt8):Array Value:=if okD bs=true then rep0 else repW 5 9728
theorem Decode_c {w:World} {v:Value} {bs:List UInt8} {R:KV} (hr:RdB w v bs)
 (c:∀w',Grow w w'->R (.tuple #[.int .u64 (dK bs),.int .u64 (dO bs),.agg (dR bs),.bool (okD bs)]) w'):Zs 191 #[v] w R:=by
 apply q130W
 have ga:Grow w (w.alloc (.cells rep0 tQ)):=Grow.al (Grow.refl w) (.cells rep0 tQ)
 have b0:=BK.new w rep0 tQ
 refine Wrong_c λw1 g1=>⟨_,_,_,_,_,rfl,?_⟩
 have b1:=b0.grow g1
 have hlt:=b1.lt
 have g1:=ga.then g1
 have c1:=BK.new w1 rep0 tQ
 have cw:=c1.strow (ds:=repW 5 9728) rfl
 have gc:Grow w1 (stRow (w1.alloc (.cells rep0 tQ)) ⟨w1.heap.size,0,none⟩ (repW 5 9728)):=Below.strow (Grow.al (Grow.refl w1) (.cells rep0 tQ)) (p:=⟨w1.heap.size,0,none⟩) (Nat.le_refl _) (repW 5 9728)
 have b2:=b1.grow gc
 have s1:=c1.row (ds:=repW 5 9728) rfl rfl
 have g2:=g1.then gc
 refine⟨s1,_,RdB.len hr,?_⟩
 generalize hW:stRow (w1.alloc (.cells rep0 tQ)) ⟨w1.heap.size,0,none⟩ (repW 5 9728)=W at *
 have e0:(stRow (w1.alloc (.cells #[.int .i64 0,.int .i64 0,.int .i64 0,.slice none 0 0,.int .i64 0] tQ)) ⟨w1.heap.size,0,none⟩ #[.int .i64 2,.int .i64 5,.int .i64 9728,.slice none 0 0,.int .i64 0])=W:=hW
 rw[e0]
 have bad:okD bs=false->∀X,Grow w X->BK X w.heap.size rep0 tQ->BK X w1.heap.size (repW 5 9728) tQ->
  ldCells X ⟨w1.heap.size,0,none⟩ 5 (repW 5 9728)/\StRow X ⟨w.heap.size,0,none⟩ (repW 5 9728)/\ldCells (stRow X ⟨w.heap.size,0,none⟩ (repW 5 9728)) ⟨w.heap.size,0,none⟩ 5 (repW 5 9728)/\
   R (.tuple #[.int .u64 0,.int .u64 0,.agg (repW 5 9728),.bool false]) (stRow X ⟨w.heap.size,0,none⟩ (repW 5 9728)):=by
  intro ho X gX bX cX
  have hc:=c (stRow X ⟨w.heap.size,0,none⟩ (repW 5 9728)) (Below.strow gX (p:=⟨w.heap.size,0,none⟩) (Nat.le_refl _) _)
  simp only[dK,dO,dR,ho]at hc
  exact⟨cX.ld rfl,bX.row (ds:=repW 5 9728) rfl rfl,(bX.strow (ds:=repW 5 9728) rfl).ld rfl,hc⟩
 refine cond_intro (λh=>?_) (λh=>?_)
 ·have ho:okD bs=false:=by
   simp at h
   have:¬bs.length=24:=by omega
   simp [okD,this]
  have gd:=Grow.dr (Grow.refl W)
  obtain⟨k1,k2,k3,k4⟩:=bad ho _ (g2.then gd) (b2.grow gd) (cw.grow gd)
  exact⟨2,5,9728,.slice none 0 0,0,k1,k2,2,5,9728,.slice none 0 0,0,k3,k4⟩
 ·have hl:bs.length=24:=by simp at h;omega
  have hr2:=hr.grow g2
  refine bin_Get_c hr2 (by decide) (by decide) ⟨_,_,rfl,bin_Get_c hr2 (by decide) (by decide) ⟨_,_,rfl,bin_Get_c hr2 (by decide) (by decide) ⟨_,_,rfl,cond_intro (λh2=>?_) (λh2=>?_)⟩⟩⟩
  ·have ho:okD bs=false:=by
    have:¬getV bs 16 8=0:=by simpa using h2
    simp [okD,this]
   have gd:=Grow.dr (Grow.refl W)
   obtain⟨k1,k2,k3,k4⟩:=bad ho _ (g2.then gd) (b2.grow gd) (cw.grow gd)
   exact⟨2,5,9728,.slice none 0 0,0,k1,k2,2,5,9728,.slice none 0 0,0,k3,k4⟩
  ·have ho:okD bs=true:=by
    have:getV bs 16 8=0:=by simpa using h2
    simp [okD,this,hl]
   have hc:=c (stRow W ⟨w.heap.size,0,none⟩ rep0) (Below.strow g2 (p:=⟨w.heap.size,0,none⟩) (Nat.le_refl _) _)
   simp only[dK,dO,dR,ho]at hc
   exact⟨b2.row (ds:=rep0) rfl rfl,_,_,_,_,_,(b2.strow (ds:=rep0) rfl).ld rfl,hc⟩
end Go.Proofs.YtdinpgnjnleioaaGreatDoor.Lst
end
