/- A part of the proof. -/
import Derived.Test.YtdinpgnjnleioaaGreatDoorSLinX
import Derived.Test.YtdinpgnjnleioaaGreatDoorSGCr
set_option linter.unusedSimpArgs false
set_option linter.unusedVariables false
set_option maxRecDepth 100000
section
namespace Go.Proofs.YtdinpgnjnleioaaGreatDoor.Rf
open CW RowKit
open Ses (Cm Rp m32)
structure Ru where
 b:List UInt8
 keys:List Int
 holder:Int
 typ:Int
 gen:Int
def allowsR (u:Ru) (h:Nat) (k:Int):Bool:=
 if u.holder < 0\/u.holder=(h:Int)then true
 else if 5<=u.typ/\u.keys.getD h 0≠0 then true
 else if k=1\/k=2 then decide (u.typ=1\/u.typ=5)
 else if k=3\/k=4\/k=5\/k=6 then false
 else true
def listR (u:Ru):List Int:=u.keys.filter λk=>decide (k≠0)
def good:Rp:=⟨0,0,0,[],0⟩
def conf:Rp:=⟨24,0,0,[],0⟩
def isT (t:Int):Bool:=decide (t=1\/t=3\/t=5\/t=6)
def u0:Ru:=⟨List.replicate 512 0,List.replicate 8 0, -1,0,0⟩
abbrev iqA:List UInt8:=[105,113,110,46,97]
abbrev iqB:List UInt8:=[105,113,110,46,98,99]
end Go.Proofs.YtdinpgnjnleioaaGreatDoor.Rf
end
section
namespace Go.Proofs.YtdinpgnjnleioaaGreatDoor.Rf
open CW RowKit
open Ses (Cm Rp RpAt rRp rCm nilV m32)
abbrev tRp:TypeId:=69
abbrev tCm:TypeId:=64
abbrev tTb:TypeId:=76
theorem one_rep {st key code info:Int} {d:Value} (h:isOne d=true):oneL (#[.int .i64 st,.int .i64 key,.int .i64 code,d,.int .i64 info]:Array Value).toList=true:=by
 simp only[oneL,h,Bool.and_true];rfl
theorem ret5 {w:World} {b:Nat} {cs:Array Value} {x0 x1 x2 x4:Int} {x3:Value} {G:Int->Int->Int->Value->Int->World->Prop} (bk:BK w b cs tRp) (hs:cs.size=5) (ho:isOne x3=true)
 (k:∀w',BK w' b #[.int .i64 x0,.int .i64 x1,.int .i64 x2,x3,.int .i64 x4] tRp->Turn b w w'->G x0 x1 x2 x3 x4 w'):
 (StRow w ⟨b,0,none⟩ #[.int .i64 x0,.int .i64 x1,.int .i64 x2,x3,.int .i64 x4])/\
 bindW (stRow w ⟨b,0,none⟩ #[.int .i64 x0,.int .i64 x1,.int .i64 x2,x3,.int .i64 x4]) λw'=>
 ∃(n0:Int) (n1:Int) (n2:Int) (v3:Value) (n4:Int),(ldCells w' ⟨b,0,none⟩ 5 #[.int .i64 n0,.int .i64 n1,.int .i64 n2,v3,.int .i64 n4])/\G n0 n1 n2 v3 n4 w':=by
 refine⟨bk.row (by rw[hs];rfl) (one_rep ho),nm λw' e=>?_⟩
 obtain⟨b',t'⟩:=rowE bk e (by rw[hs];rfl)
 exact⟨_,_,_,_,_,b'.ld rfl,k w' b' t'⟩
theorem ret5d {w:World} {b:Nat} {cs:Array Value} {x0 x1 x2 x4:Int} {x3:Value} {G:Int->Int->Int->Value->Int->World->Prop} (bk:BK w b cs tRp) (hs:cs.size=5) (ho:isOne x3=true)
 (k:∀w',BK w' b #[.int .i64 x0,.int .i64 x1,.int .i64 x2,x3,.int .i64 x4] tRp->Turn b w w'->G x0 x1 x2 x3 x4 w'):
 (StRow w ⟨b,0,none⟩ #[.int .i64 x0,.int .i64 x1,.int .i64 x2,x3,.int .i64 x4])/\
 bindW (stRow w ⟨b,0,none⟩ #[.int .i64 x0,.int .i64 x1,.int .i64 x2,x3,.int .i64 x4]) λw1=>
 bindW (stRow w ⟨b,0,none⟩ #[.int .i64 x0,.int .i64 x1,.int .i64 x2,x3,.int .i64 x4]) λw'=>
 ∃(n0:Int) (n1:Int) (n2:Int) (v3:Value) (n4:Int),(ldCells w' ⟨b,0,none⟩ 5 #[.int .i64 n0,.int .i64 n1,.int .i64 n2,v3,.int .i64 n4])/\G n0 n1 n2 v3 n4 w':=by
 obtain⟨h1,h2⟩:=ret5 (G:=G) bk hs ho k
 exact⟨h1,fun_w h2⟩
where
 fun_w {w1:World} {P:World->Prop} (h:bindW w1 P):bindW w1 λ_=>bindW w1 P:=h
variable {w:World} {t:Nat} {u:Ru}
theorem rWrong_c {key code:Int} {R:KV} (k:∀w',Grow w w'->R (.agg (rRp ⟨2,key,code,[],0⟩ nilV)) w'):Zs 48 #[.int .i64 key,.int .i64 code] w R:=by
 apply q98W
 refine nm λw0 e0=>?_
 obtain⟨b0,g0,_⟩:=alE e0
 exact ret5 b0 rfl rfl λw' _ t=>k _ (Below.turn g0 t (Nat.le_refl _))
theorem wrong_c {code:Int} {R:KV} (k:∀w',Grow w w'->R (.agg (rRp ⟨2,5,code,[],0⟩ nilV)) w'):Zs 101 #[.int .i64 code] w R:=by
 apply q47W
 refine nm λw0 e0=>?_
 obtain⟨b0,g0,_⟩:=alE e0
 exact ret5 b0 rfl rfl λw' _ t=>k _ (Below.turn g0 t (Nat.le_refl _))
theorem conflict_c {R:KV} (k:∀w',Grow w w'->R (.agg (rRp conf nilV)) w'):Zs 102 #[] w R:=by
 apply q43W
 refine nm λw0 e0=>?_
 obtain⟨b0,g0,_⟩:=alE e0
 exact ret5 b0 rfl rfl λw' _ t=>k _ (Below.turn g0 t (Nat.le_refl _))
theorem good_c {R:KV} (k:∀w',Grow w w'->R (.agg (rRp good nilV)) w'):Zs 103 #[] w R:=by
 apply q44W
 refine nm λw0 e0=>?_
 obtain⟨b0,g0,_⟩:=alE e0
 exact ret5 b0 rfl rfl λw' _ t=>k _ (Below.turn g0 t (Nat.le_refl _))
def rTb (u:Ru):Array Value:=(u.keys.map (λk=>Value.int .u64 k)++[Value.int .i64 u.holder,Value.int .i64 u.typ,Value.int .u32 u.gen]).toArray
structure TAt (w:World) (t:Nat) (u:Ru):Prop where
 b:BK w t (rTb u) tTb
 len:u.keys.length=8
theorem TAt.grow {w':World} (h:TAt w t u) (g:Grow w w'):TAt w' t u:=⟨h.b.grow g,h.len⟩
theorem TAt.key (h:TAt w t u) {i:Nat} (hi:i < 8):w.cell? (Addr.add ⟨t,0,none⟩ i)=some (.int .u64 (u.keys.getD i 0)):=by
 have hl:=h.len
 rw[h.b.cell]
 simp only[rTb,List.getElem?_toArray]
 rw[List.getElem?_append_left (by simp;omega),List.getElem?_map,List.getElem?_eq_getElem (by omega),List.getD_eq_getElem?_getD,List.getElem?_eq_getElem (by omega)]
 rfl
theorem TAt.at8 (h:TAt w t u):w.cell? (Addr.add ⟨t,0,none⟩ 8)=some (.int .i64 u.holder):=by
 have hl:=h.len
 rw[h.b.cell]
 simp only[rTb,List.getElem?_toArray]
 rw[List.getElem?_append_right (by simp;omega)]
 simp [hl]
theorem TAt.at9 (h:TAt w t u):w.cell? (Addr.add ⟨t,0,none⟩ 9)=some (.int .i64 u.typ):=by
 have hl:=h.len
 rw[h.b.cell]
 simp only[rTb,List.getElem?_toArray]
 rw[List.getElem?_append_right (by simp;omega)]
 simp [hl]
theorem TAt.at10 (h:TAt w t u):w.cell? (Addr.add ⟨t,0,none⟩ 10)=some (.int .u32 u.gen):=by
 have hl:=h.len
 rw[h.b.cell]
 simp only[rTb,List.getElem?_toArray]
 rw[List.getElem?_append_right (by simp;omega)]
 simp [hl]
theorem adk (t:Nat) (h:Nat):Addr.add (Addr.add ⟨t,0,none⟩ 0) (Int.toNat (h:Int)*1)=Addr.add ⟨t,0,none⟩ h:=by
 rw[add_zero];simp
theorem TAt.keyI (h:TAt w t u) {i:Nat} (hi:i < 8):w.cell? (Addr.add (Addr.add ⟨t,0,none⟩ 0) (Int.toNat (i:Int)*1))=some (.int .u64 (u.keys.getD i 0)):=by rw[adk];exact h.key hi
theorem rTb_size (h:TAt w t u):(rTb u).size=11:=by have:=h.len;simp [rTb];omega
theorem TAt.st (h:TAt w t u) {i:Nat} (hi:i < 11):St1 w (Addr.add ⟨t,0,none⟩ i):=st1_at h.b (by rw[rTb_size h];exact hi)
theorem TAt.setKey (h:TAt w t u) {i:Nat} (hi:i < 8) {x:Int} {w':World} (e:w'=World.setCell w (Addr.add ⟨t,0,none⟩ i) (.int .u64 x)):TAt w' t {u with keys:=u.keys.set i x}/\Turn t w w':=by
 obtain⟨b',t'⟩:=setE h.b e
 refine⟨⟨?_,by simp [h.len]⟩,t'⟩
 have hl:=h.len
 have:(rTb u).setIfInBounds i (.int .u64 x)=rTb {u with keys:=u.keys.set i x}:=by
  simp only[rTb,List.setIfInBounds_toArray]
  congr 1
  rw[List.set_append_left _ _ (by simp;omega),List.map_set]
 rw[←this];exact b'
theorem TAt.set8 (h:TAt w t u) {x:Int} {w':World} (e:w'=World.setCell w (Addr.add ⟨t,0,none⟩ 8) (.int .i64 x)):TAt w' t {u with holder:=x}/\Turn t w w':=by
 obtain⟨b',t'⟩:=setE h.b e
 refine⟨⟨?_,h.len⟩,t'⟩
 have hl:=h.len
 have:(rTb u).setIfInBounds 8 (.int .i64 x)=rTb {u with holder:=x}:=by
  simp only[rTb,List.setIfInBounds_toArray]
  congr 1
  rw[List.set_append_right _ _ (by simp;omega)]
  simp [hl]
 rw[←this];exact b'
theorem TAt.set9 (h:TAt w t u) {x:Int} {w':World} (e:w'=World.setCell w (Addr.add ⟨t,0,none⟩ 9) (.int .i64 x)):TAt w' t {u with typ:=x}/\Turn t w w':=by
 obtain⟨b',t'⟩:=setE h.b e
 refine⟨⟨?_,h.len⟩,t'⟩
 have hl:=h.len
 have:(rTb u).setIfInBounds 9 (.int .i64 x)=rTb {u with typ:=x}:=by
  simp only[rTb,List.setIfInBounds_toArray]
  congr 1
  rw[List.set_append_right _ _ (by simp;omega)]
  simp [hl]
 rw[←this];exact b'
theorem TAt.set10 (h:TAt w t u) {x:Int} {w':World} (e:w'=World.setCell w (Addr.add ⟨t,0,none⟩ 10) (.int .u32 x)):TAt w' t {u with gen:=x}/\Turn t w w':=by
 obtain⟨b',t'⟩:=setE h.b e
 refine⟨⟨?_,h.len⟩,t'⟩
 have hl:=h.len
 have:(rTb u).setIfInBounds 10 (.int .u32 x)=rTb {u with gen:=x}:=by
  simp only[rTb,List.setIfInBounds_toArray]
  congr 1
  rw[List.set_append_right _ _ (by simp;omega)]
  simp [hl]
 rw[←this];exact b'
theorem TAt.turn {b:Nat} {w':World} (h:TAt w t u) (tt:Turn b w w') (hb:t≠b):TAt w' t u:=⟨h.b.turn tt hb,h.len⟩
theorem TAt.eq {u':Ru} (h:TAt w t u) (h1:u'.keys=u.keys) (h2:u'.holder=u.holder) (h3:u'.typ=u.typ) (h4:u'.gen=u.gen):TAt w t u':=by
 obtain⟨a,b⟩:=h
 refine⟨?_,by rw[h1];exact b⟩
 unfold rTb at a ⊢
 rw[h1,h2,h3,h4];exact a
theorem rNew_c {R:KV} (k:∀w',Grow w w'->TAt w' w.heap.size u0->w'.heap.size=w.heap.size+1->R (zA w.heap.size) w'):Zs 47 #[] w R:=by
 apply q31W
 refine nm λw0 e0=>?_
 obtain⟨b0,g0,s0⟩:=alE e0
 exact k _ g0 ⟨b0,rfl⟩ s0
theorem no_c {h:Nat} (hh:h < 8) {R:KV} (k:R (.bool false) w):Zs 95 #[.int .i64 (h:Int)] w R:=by
 apply q46W
 refine JoinP.go (cond_intro (λhc=>by simp at hc;omega) (λ_=>?_))
 have:decide ((h:Int)≥(8:Int))=false:=by simp;omega
 rw[this];exact k
theorem is_c {p:Int} {R:KV} (k:R (.bool (isT p)) w):Zs 106 #[.int .i64 p] w R:=by
 apply q45W
 have e:isT p=(p==1||(p==3||(p==5||p==6))):=by
  unfold isT
  by_cases h1:p=1<;>by_cases h2:p=3<;>by_cases h3:p=5<;>by_cases h4:p=6<;>simp [h1,h2,h3,h4]
 rw[e]at k
 refine JoinP.go (cond_intro (λh1=>?_) (λh1=>cond_intro (λh2=>?_) (λh2=>cond_intro (λh3=>?_) (λh3=>?_))))
 ·simpa[h1]using k
 ·simpa[h1,h2]using k
 ·simpa[h1,h2,h3]using k
 ·simpa[h1,h2,h3]using k
theorem not_c (h:TAt w t u) {i:Nat} (hi:i < 8) {key:Int} {R:KV} (k:R (.bool (decide (u.keys.getD i 0=0\/u.keys.getD i 0≠key))) w):Zs 105 #[zA t,.int .i64 (i:Int),.int .u64 key] w R:=by
 apply q41W
 refine JoinP.go (withAddr_some ⟨⟨by omega,by omega⟩,_,h.keyI hi,cond_intro (λh1=>?_) (λh1=>withAddr_some ⟨⟨by omega,by omega⟩,_,h.keyI hi,?_⟩)⟩)
 ·have h1:u.keys.getD i 0=0:=by simpa using h1
  rw[decide_eq_true (.inl h1)]at k;exact k
 ·have h1:¬u.keys.getD i 0=0:=by simpa using h1
  have e:decide (u.keys.getD i 0=0\/u.keys.getD i 0≠key)=(u.keys.getD i 0 !=key):=by
   generalize u.keys.getD i 0=z at h1
   rw[Bool.eq_iff_iff];simp [h1]
  rw[e]at k;exact k
theorem Allows_c (h:TAt w t u) {i:Nat} (hi:i < 8) {kind:Int} {R:KV} (k:R (.bool (allowsR u i kind)) w):Zs 51 #[zA t,.int .i64 (i:Int),.int .i64 kind] w R:=by
 apply q32W
 unfold allowsR at k
 refine JoinP.bool (λb w'=>b=decide (u.holder < 0\/u.holder=(i:Int))/\w'=w) (λj hj=>withAddr_some ⟨_,h.at8,cond_intro (λh1=>hj _ _ ⟨?_,rfl⟩) (λh1=>withAddr_some ⟨_,h.at8,hj _ _ ⟨?_,rfl⟩⟩)⟩) ?_
 ·simp at h1;simp [h1]
 ·simp at h1
  rw[Bool.eq_iff_iff];simp;omega
 ·rintro b w' ⟨rfl,rfl⟩
  refine cond_intro (λh1=>?_) (λh1=>?_)
  ·rw[if_pos (of_decide_eq_true h1)]at k;exact k
  ·rw[if_neg (of_decide_eq_false h1)]at k
   refine JoinP.bool (λb w''=>b=decide (5<=u.typ/\u.keys.getD i 0≠0)/\w''=w') (λj hj=>withAddr_some ⟨_,h.at9,cond_intro (λh2=>no_c hi ⟨_,rfl,cond_t rfl (withAddr_some ⟨⟨by omega,by omega⟩,_,h.keyI hi,hj _ _ ⟨?_,rfl⟩⟩)⟩) (λh2=>hj _ _ ⟨?_,rfl⟩)⟩) ?_
   ·simp at h2
    rw[Bool.eq_iff_iff];simp [h2]
   ·simp at h2
    exact(decide_eq_false (λq=>by have:=q.1;omega)).symm
   ·rintro b w'' ⟨rfl,rfl⟩
    refine cond_intro (λh2=>?_) (λh2=>?_)
    ·rw[if_pos (of_decide_eq_true h2)]at k;exact k
    ·rw[if_neg (of_decide_eq_false h2)]at k
     refine JoinP.bool (λb w1=>b=decide (kind=1\/kind=2)/\w1=w'') (λj hj=>cond_intro (λh3=>hj _ _ ⟨?_,rfl⟩) (λh3=>hj _ _ ⟨?_,rfl⟩)) ?_
     ·simp at h3;simp [h3]
     ·simp at h3;rw[Bool.eq_iff_iff];simp [h3]
     ·rintro b w1 ⟨rfl,rfl⟩
      refine cond_intro (λh3=>?_) (λh3=>?_)
      ·rw[if_pos (of_decide_eq_true h3)]at k
       refine JoinP.go (withAddr_some ⟨_,h.at9,cond_intro (λh4=>?_) (λh4=>withAddr_some ⟨_,h.at9,?_⟩)⟩)
       ·have h4:u.typ=1:=by simpa using h4
        rw[decide_eq_true (.inl h4)]at k;exact k
       ·have h4:¬u.typ=1:=by simpa using h4
        have e:decide (u.typ=1\/u.typ=5)=(u.typ==5):=by rw[Bool.eq_iff_iff];simp [h4]
        rw[e]at k;exact k
      ·rw[if_neg (of_decide_eq_false h3)]at k
       refine JoinP.bool (λb w2=>b=decide (kind=3\/kind=4\/kind=5\/kind=6)/\w2=w1) (λj hj=>cond_intro (λh3=>hj _ _ ⟨?_,rfl⟩) (λh3=>cond_intro (λh4=>hj _ _ ⟨?_,rfl⟩) (λh4=>cond_intro (λh5=>hj _ _ ⟨?_,rfl⟩) (λh5=>hj _ _ ⟨?_,rfl⟩)))) ?_
       ·simp at h3;simp [h3]
       ·simp at h4;simp [h4]
       ·simp at h5;simp [h5]
       ·simp at h3 h4 h5;rw[Bool.eq_iff_iff];simp [h3,h4,h5]
       ·rintro b w2 ⟨rfl,rfl⟩
        refine cond_intro (λh4=>?_) (λh4=>?_)
        ·rw[if_pos (of_decide_eq_true h4)]at k;exact k
        ·rw[if_neg (of_decide_eq_false h4)]at k;exact k
theorem Reserve_c (h:TAt w t u) {i:Nat} (hi:i < 8) {key y:Int} {r:Rp} {u':Ru}
 (hr:(r,u')=(if u.keys.getD i 0=0\/u.keys.getD i 0≠key then(conf,u)else if isT y=false then(⟨2,5,9216,[],0⟩,u)else if u.holder < 0 then(good,{u with holder:=(i:Int),typ:=y})else if u.holder≠(i:Int)\/u.typ≠y then(conf,u)else(good,u))) {R:KV}
 (k:∀w',Step (λq=>q=t) w w' (λq=>q=t)->TAt w' t u'->R (.agg (rRp r nilV)) w'):Zs 57 #[zA t,.int .i64 (i:Int),.int .u64 key,.int .i64 y] w R:=by
 apply q39W
 refine nm λw0 e0=>?_
 obtain⟨b0,g0,s0⟩:=alE e0
 have h0:=h.grow g0
 have hne:t≠w.heap.size:=by have:=h.b.lt;omega
 refine no_c hi ⟨_,rfl,cond_f rfl (not_c h0 hi ⟨_,rfl,cond_intro (λh1=>?_) (λh1=>?_)⟩)⟩
 ·rw[if_pos (of_decide_eq_true h1)]at hr;cases hr
  refine conflict_c λw2 g2=>⟨_,_,_,_,_,rfl,ret5 (b0.grow g2) rfl rfl λw3 _ t3=>?_⟩
  exact k w3 (Step.of_grow (Below.turn (g0.then g2) t3 (Nat.le_refl _))) ((h0.grow g2).turn t3 hne)
 rw[if_neg (of_decide_eq_false h1)]at hr
 refine is_c ⟨_,rfl,cond_intro (λh2=>?_) (λh2=>?_)⟩
 ·rw[if_pos (by simpa using h2)]at hr;cases hr
  refine wrong_c λw2 g2=>⟨_,_,_,_,_,rfl,ret5 (b0.grow g2) rfl rfl λw3 _ t3=>?_⟩
  exact k w3 (Step.of_grow (Below.turn (g0.then g2) t3 (Nat.le_refl _))) ((h0.grow g2).turn t3 hne)
 rw[if_neg (by simpa using h2)]at hr
 refine withAddr_some ⟨_,h0.at8,cond_intro (λh3=>?_) (λh3=>?_)⟩
 ·rw[if_pos (of_decide_eq_true h3)]at hr;cases hr
  refine withAddr_some ⟨h0.st (by omega),nm λw5 e5=>?_⟩
  obtain⟨h5,t5⟩:=h0.set8 e5
  refine withAddr_some ⟨h5.st (by omega),nm λw6 e6=>?_⟩
  obtain⟨h6,t6⟩:=h5.set9 e6
  refine good_c λw2 g2=>⟨_,_,_,_,_,rfl,ret5 (((b0.turn t5 hne.symm).turn t6 hne.symm).grow g2) rfl rfl λw3 _ t3=>?_⟩
  refine k w3 ?_ ((h6.grow g2).turn t3 hne)
  exact(((((Md.refl (λq=>q=t) w.heap.size w).grow g0).turn t5 (.inl rfl)).turn t6 (.inl rfl)).grow g2 |>.turn t3 (.inr (Nat.le_refl _))).out
 rw[if_neg (of_decide_eq_false h3)]at hr
 refine JoinP.bool (λb w'=>b=decide (u.holder≠(i:Int)\/u.typ≠y)/\w'=w0) (λj hj=>withAddr_some ⟨_,h0.at8,cond_intro (λh4=>hj _ _ ⟨?_,rfl⟩) (λh4=>withAddr_some ⟨_,h0.at9,hj _ _ ⟨?_,rfl⟩⟩)⟩) ?_
 ·have h4:u.holder≠(i:Int):=by simpa using h4
  exact(decide_eq_true (.inl h4)).symm
 ·have h4:u.holder=(i:Int):=by simpa using h4
  rw[Bool.eq_iff_iff];simp [h4]
 ·rintro b w' ⟨rfl,rfl⟩
  refine cond_intro (λh4=>?_) (λh4=>?_)
  ·rw[if_pos (of_decide_eq_true h4)]at hr;cases hr
   refine conflict_c λw2 g2=>⟨_,_,_,_,_,rfl,ret5 (b0.grow g2) rfl rfl λw3 _ t3=>?_⟩
   exact k w3 (Step.of_grow (Below.turn (g0.then g2) t3 (Nat.le_refl _))) ((h0.grow g2).turn t3 hne)
  ·rw[if_neg (of_decide_eq_false h4)]at hr;cases hr
   refine good_c λw2 g2=>⟨_,_,_,_,_,rfl,ret5 (b0.grow g2) rfl rfl λw3 _ t3=>?_⟩
   exact k w3 (Step.of_grow (Below.turn (g0.then g2) t3 (Nat.le_refl _))) ((h0.grow g2).turn t3 hne)
abbrev EU:=Lst.EU
theorem List_c (h:TAt w t u) {R:KV} (k:∀v w',Grow w w'->RdR EU w' v (listR u)->NewV w v->R v w'):Zs 62 #[zA t] w R:=by
 apply q35W
 have flt:∀l:List Int,(l.filter λk=>decide (k≠0)).length<=l.length:=λl=>List.length_filter_le _ _
 refine⟨λ(v:Value) (n:Int) (w':World)=>∃i:Nat,n=(i:Int)/\i<=8/\Grow w w'/\OwnR EU w' w.heap.size Lst.tU v ((u.keys.take i).filter λk=>decide (k≠0)),λ(_:Value) (n:Int) (_:World)=>((8:Int) - n).toNat,
  ⟨0,rfl,by omega,Grow.refl _,OwnR.nil _ _ _⟩,?_⟩
 dsimp only[allR,mapR2,eqN,ltN]
 rintro m v n w' ⟨⟨i,rfl,hi,g,ho⟩,hm⟩
 have hl:=h.len
 refine cond_intro (λhc=>?_) (λhc=>?_)
 ·have hlt:i < 8:=by simp at hc;omega
  have htk:u.keys.take (i+1)=u.keys.take i++[u.keys.getD i 0]:=by
   rw[List.take_add_one,List.getD_eq_getElem?_getD,List.getElem?_eq_getElem (by omega)];rfl
  have h':=h.grow g
  refine JoinP.val (λv' w''=>Grow w w''/\OwnR EU w'' w.heap.size Lst.tU v' ((u.keys.take (i+1)).filter λk=>decide (k≠0))) (λj hj=>?_) ?_
  ·refine withAddr_some ⟨⟨by omega,by omega⟩,_,h'.keyI hlt,cond_intro (λhz=>?_) (λhz=>?_)⟩
   ·have hz:u.keys.getD i 0≠0:=by simpa using hz
    refine withAddr_some ⟨⟨by omega,by omega⟩,_,h'.keyI hlt,nm λw17 e17=>?_⟩
    obtain⟨bk,gr,sz⟩:=alE e17
    have hrd:RdR EU w17 (.slice (some ⟨w'.heap.size,0,none⟩) 1 1) [u.keys.getD i 0]:=by
     refine⟨some ⟨w'.heap.size,0,none⟩,1,rfl,Nat.le_refl _,by simp [maxLen],(λe=>by cases e),λj u hj=>⟨_,rfl,?_⟩⟩
     rw[bk.cell]
     simpa[Enc.flat,Lst.EU]using hj
    have hlen:=flt (u.keys.take i)
    rw[List.length_take]at hlen
    obtain⟨v18,w19,hrun,ho19,hnext⟩:=app_ownR Lst.tyU (ho.grow gr) hrd (by simp only[List.length_cons,List.length_nil];omega) (Nat.le_trans g.size gr.size)
    refine⟨v18,w19,hrun,hj _ _ ⟨(g.then gr).trans (hnext.below (Nat.le_trans g.size gr.size) (λq hq=>(ho.lt q hq).1)),?_⟩⟩
    rw[htk,List.filter_append,List.filter_cons,if_pos (by simpa using hz)];exact ho19
   ·have hz:u.keys.getD i 0=0:=by simpa using hz
    refine hj _ _ ⟨g,?_⟩
    rw[htk,List.filter_append,List.filter_cons,if_neg (by simp only[hz];simp),List.filter_nil,List.append_nil];exact ho
  ·rintro v' w'' ⟨g2,ho2⟩
   rw[wi64_id (by omega) (by omega)]
   exact⟨⟨i+1,by omega,by omega,g2,ho2⟩,by omega⟩
 ·have he:i=8:=by simp at hc;omega
  subst he
  rw[List.take_of_length_le (by omega)]at ho
  exact k v w' g ho.rd (λq hq=>(ho.lt q hq).1)
end Go.Proofs.YtdinpgnjnleioaaGreatDoor.Rf
end
section
namespace Go.Proofs.YtdinpgnjnleioaaGreatDoor.Rf
open CW RowKit
open Ses (nilV)
abbrev tSp:TypeId:=137
variable {w w':World}
theorem row_made {t:TypeId} (ht:Tryz.prog.underlying t=some (.slice tb)) (n:Nat) (hn:n<=1099511627776):
 ∃v w',Sem.run Tryz.prog (Instr.makeSlice t (.int .i64 (n:Int)) (.int .i64 (n:Int))) w= .ok v w'/\RdB w' v (List.replicate n 0)/\NewV w v/\Grow w w'/\(∀q,v.ownBlock=some q->q < w'.heap.size):=by
 have h:=run_make_row' (P:=Tryz.prog) t tb (.int .u8 0) 1 ht (by kernel_rfl) rfl .i64 .i64 n (by omega) (by omega) w
 have e:madeCells #[Value.int .u8 0] n=((List.replicate n (0:UInt8)).map b8).toArray:=by
  apply Array.ext'
  rw[madeCells_one,List.map_replicate]
  rfl
 rw[e]at h
 have bk:=BK.new w ((List.replicate n (0:UInt8)).map b8).toArray tb
 have g:Grow w (w.alloc (.cells ((List.replicate n (0:UInt8)).map b8).toArray tb)):=Grow.al (Grow.refl w) _
 refine⟨_,_,h,?_,?_,g,?_⟩
 ·refine⟨some ⟨w.heap.size,0,none⟩,n,by simp,by simp,by simp only[maxLen];omega,(λe=>by cases e),λj u hj=>⟨_,rfl,?_⟩⟩
  rw[BK.cell bk,List.getElem?_toArray]
  exact hj
 ·intro q hq
  have:w.heap.size=q:=by simpa[Value.ownBlock]using hq
  omega
 ·intro q hq
  have:w.heap.size=q:=by simpa[Value.ownBlock]using hq
  rw[←this];exact bk.lt
theorem bNew_c {N:Nat} (h1:1<=N) (h2:N<=1024) {R:KV} (k:∀v w',Grow w w'->RdB w' v (List.replicate ((N+7) / 8) 0)->NewV w v->(∀q,v.ownBlock=some q->q < w'.heap.size)->R v w'):
 Zs 94 #[.int .i64 (N:Int)] w R:=by
 apply q23W
 have e:IntKind.wrap .i64 (Int.tdiv (IntKind.wrap .i64 ((N:Int)+(7:Int))) (8:Int))=(((N+7) / 8:Nat):Int):=by
  rw[wi64_id (n:=(N:Int)+7) (by omega) (by omega),Int.tdiv_eq_ediv_of_nonneg (by omega),wi64_id (by omega) (by omega)]
  omega
 refine JoinP.go (cond_f (by simp;omega) (cond_f (by simp;omega) ?_))
 rw[e]
 obtain⟨v,w2,hr,r,n,g,l⟩:=row_made (w:=w) (t:=33) (by kernel_rfl) ((N+7) / 8) (by omega)
 exact⟨v,w2,hr,k v w2 g r n l⟩
structure SpAt (w:World) (g N:Nat) (b:List UInt8) (bv mv:Value) (m:List UInt8):Prop where
 o:BK w g #[.int .i64 (N:Int),bv,mv] tSp
 rb:RdB w bv b
 rm:RdB w mv m
 hb:b.length=N*8
 hN:N<=1024
 hm:m.length<=128
 nb:bv.ownBlock≠some g
 nm:mv.ownBlock≠some g
 lb:∀q,bv.ownBlock=some q->q < w.heap.size
 lm:∀q,mv.ownBlock=some q->q < w.heap.size
variable {g N:Nat} {b m:List UInt8} {bv mv:Value}
theorem SpAt.grow (h:SpAt w g N b bv mv m) (gg:Grow w w'):SpAt w' g N b bv mv m:=
 ⟨h.o.grow gg,h.rb.grow gg,h.rm.grow gg,h.hb,h.hN,h.hm,h.nb,h.nm,λq hq=>Nat.lt_of_lt_of_le (h.lb q hq) gg.size,λq hq=>Nat.lt_of_lt_of_le (h.lm q hq) gg.size⟩
theorem sNew_c (h1:1<=N) (h2:N<=1024) {R:KV} (k:∀g bv mv m w',Grow w w'->w.heap.size<=g->NewV w bv->NewV w mv->SpAt w' g N (List.replicate (N*8) 0) bv mv m->R (.tuple #[zA g,.int .i64 (0:Int)]) w'):
 Zs 46 #[.int .i64 (N:Int)] w R:=by
 apply q25W
 have e:IntKind.wrap .i64 ((N:Int)*(8:Int))=((N*8:Nat):Int):=by rw[wi64_id (by omega) (by omega)];omega
 refine JoinP.go (cond_f (by simp;omega) (cond_f (by simp;omega) (JoinP.go ?_)))
 refine nm λw6 e6=>nm λw7 e7=>?_
 have g7:Grow w w7:=drE e7
 rw[e]
 have mk:∀{w8 w9 w10:World} {v1 v2:Value} {m:List UInt8},Grow w w8->w10=World.alloc w8 (.cells #[(.int .i64 (N:Int)),v1,v2] tSp)->RdB w8 v1 (List.replicate (N*8) 0)->RdB w8 v2 m->m.length<=128->NewV w v1->NewV w v2->(∀q,v1.ownBlock=some q->q < w8.heap.size)->(∀q,v2.ownBlock=some q->q < w8.heap.size)->R (.tuple #[zA w8.heap.size,.int .i64 (0:Int)]) w10:=by
  intro w8 w9 w10 v1 v2 m g8 e10 r1 r2 hm n1 n2 l1 l2
  obtain⟨b10,g10,s10⟩:=alE e10
  refine k w8.heap.size v1 v2 m w10 (g8.then g10) g8.size n1 n2 ⟨b10,r1.grow g10,r2.grow g10,by simp,h2,hm,λe=>by have:=l1 _ e;omega,λe=>by have:=l2 _ e;omega,λq hq=>by have:=l1 q hq;have:=g10.size;omega,λq hq=>by have:=l2 q hq;have:=g10.size;omega⟩
 constructor
 ·obtain⟨v,w8,hr,r,n,gg,l⟩:=row_made (w:=w7) (t:=33) (by kernel_rfl) (N*8) (by omega)
  refine⟨v,w8,hr,bNew_c h1 h2 λv10 w11 g11 r11 n11 l11=>oneK_of (Rd.isOne r) (oneK_of (Rd.isOne r11) (nm λw12 e12=>nm λw13 e13=>?_))⟩
  exact mk (w9:=w12) ((g7.then gg).then g11) e13 (r.grow g11) r11 (by simp;omega) (n.of g7.size) (n11.of (g7.then gg).size) (λq hq=>by have:=l q hq;have:=g11.size;omega) l11
 ·refine bNew_c h1 h2 λv14 w15 g15 r15 n15 l15=>?_
  obtain⟨v,w8,hr,r,n,gg,l⟩:=row_made (w:=w15) (t:=33) (by kernel_rfl) (N*8) (by omega)
  refine⟨v,w8,hr,oneK_of (Rd.isOne r) (oneK_of (Rd.isOne r15) (nm λw12 e12=>nm λw13 e13=>?_))⟩
  exact mk (w9:=w12) ((g7.then g15).then gg) e13 r (r15.grow gg) (by simp;omega) (n.of (g7.then g15).size) (n15.of g7.size) l (λq hq=>by have:=l15 q hq;have:=gg.size;omega)
theorem sIn_c (h:SpAt w g N b bv mv m) {p n:Nat} {R:KV} (hp:p<=4611686018427387904) (k:R (.bool (decide (n<=32/\p+n<=N))) w):Zs 96 #[zA g,.int .i64 (p:Int),.int .i64 (n:Int)] w R:=by
 apply q27W
 have hN:=h.hN
 refine JoinP.go (cond_t (by simp) (cond_intro (λh1=>cond_t (by simp) (withAddr_some ⟨_,h.o.cell 0,cond_intro (λh2=>withAddr_some ⟨_,h.o.cell 0,?_⟩) (λh2=>?_)⟩)) (λh1=>?_)))
 ·simp at h1 h2
  rw[wi64_id (by omega) (by omega)]
  have e:decide ((n:Int)<=(N:Int) - (p:Int))=decide (n<=32/\p+n<=N):=by rw[Bool.eq_iff_iff];simp;omega
  rw[e];exact k
 ·simp at h2
  rw[decide_eq_false (by omega)]at k;exact k
 ·simp at h1
  rw[decide_eq_false (by omega)]at k;exact k
theorem sRead_c (h:SpAt w g N b bv mv m) {p n:Nat} (hn:n<=32/\p+n<=N) {R:KV} (k:∀v w',Grow w w'->RdB w' v ((b.drop (p*8)).take (n*8))->NewV w v->R (.tuple #[v,.int .i64 (0:Int)]) w'):
 Zs 97 #[zA g,.int .i64 (p:Int),.int .i64 (n:Int)] w R:=by
 apply q28W
 have hN:=h.hN
 have hb:=h.hb
 refine sIn_c h (by omega) ⟨_,rfl,cond_f (by rw[decide_eq_true hn];rfl) (nm λw3 e3=>?_)⟩
 obtain⟨b3,g3,s3⟩:=alE e3
 refine withAddr_some ⟨_,(h.o.grow g3).cell 1,?_⟩
 rw[wi64_id (n:=(p:Int)*8) (by omega) (by omega),wi64_id (n:=(p:Int)+n) (by omega) (by omega),wi64_id (n:=((p:Int)+n)*8) (by omega) (by omega)]
 obtain⟨v6,q1,q2,q3⟩:=(h.rb.grow g3).sub (lo:=some (.int .i64 ((p:Int)*8))) (hi:=some (.int .i64 (((p:Int)+n)*8))) (l:=p*8) (r:=(p+n)*8) (λcap hc=>by rw[List.length_map]at hc;rw[bounds_ii (by omega) (by omega) (by omega)];congr 2<;>omega) (by omega) (by rw[List.length_map];omega)
 have e:((b.map b8).drop (p*8)).take ((p+n)*8 - p*8)=((b.drop (p*8)).take (n*8)).map b8:=by
  have:(p+n)*8 - p*8=n*8:=by omega
  rw[this,List.map_take,List.map_drop]
 rw[e]at q2
 have ho:OwnB w3 w.heap.size tb (.slice (some ⟨w.heap.size,0,none⟩) 0 0) []:=by
  rw[e3];exact Own.lit w (Nat.le_refl _) tb #[] 0 rfl (by simp [maxLen])
 obtain⟨v7,w8,hr,o8,n8⟩:=app_bytes ho q2 g3.size (by simp;omega)
 rw[List.nil_append]at o8
 exact⟨v6,q1,v7,w8,hr,k v7 w8 (g3.trans (n8.below g3.size ho.blk)) o8.rd (λq hq=>o8.blk q hq)⟩
theorem has_c {v:Value} {m:List UInt8} (h:RdB w v m) {i:Nat} (hi:i < 8*m.length) (hm:m.length<=1000) {R:KV} (k:∀bb,R (.bool bb) w):Zs 184 #[v,.int .i64 (i:Int)] w R:=by
 apply q22W
 have e8:IntKind.wrap .i64 (Int.tdiv (i:Int) (8:Int))=((i / 8:Nat):Int):=by
  rw[Int.tdiv_eq_ediv_of_nonneg (by omega),wi64_id (by omega) (by omega)];omega
 have hmod:(0:Int)<=IntKind.wrap .u64 (Int.tmod (i:Int) (8:Int)):=by
  have:Int.tmod (i:Int) (8:Int)=((i % 8:Nat):Int):=by rw[Int.tmod_eq_emod_of_nonneg (by omega)];omega
  rw[this,w64_id (by omega) (by omega)];omega
 unfold q22F
 rw[e8]
 refine JoinP.go (cond_t (by simp) ⟨_,RdB.len h,cond_t (by simp;omega) ?_⟩)
 obtain⟨a,h1,h2⟩:=RdB.at h (i:=((i / 8:Nat):Int)) (by omega) (by omega)
 exact⟨a,h1,_,h2,leK_intro hmod (k _)⟩
theorem bPut_c {v:Value} {m:List UInt8} (h:RdB w v m) (hm:m.length<=128) {p n:Nat} {s:Bool} (hp:p<=4000) (hn:n<=4000) {R:KV}
 (k:∀v' w' m' c,Grow w w'->RdB w' v' m'->m'.length=m.length->NewV w v'->(∀q,v'.ownBlock=some q->q < w'.heap.size)->R (.tuple #[v',.int .i64 c]) w'):
 Zs 142 #[v,.int .i64 (p:Int),.int .i64 (n:Int),.bool s] w R:=by
 apply q24W
 refine nm λw0 e0=>?_
 obtain⟨b0,g0,s0⟩:=alE e0
 have ho:OwnB w0 w.heap.size tb (.slice (some ⟨w.heap.size,0,none⟩) 0 0) []:=by
  rw[e0];exact Own.lit w (Nat.le_refl _) tb #[] 0 rfl (by simp [maxLen])
 obtain⟨v1,w2,hr,o2,n2⟩:=app_bytes ho (h.grow g0) g0.size (by simp;omega)
 rw[List.nil_append]at o2
 have g2:Grow w w2:=g0.trans (n2.below g0.size ho.blk)
 refine⟨v1,w2,hr,?_⟩
 refine JoinP.bool (λbb w'=>w'=w2) (λj hj=>cond_intro (λ_=>hj _ _ rfl) (λ_=>hj _ _ rfl)) ?_
 rintro bb wz rfl
 refine cond_intro (λ_=>k v1 wz m 0 g2 o2.rd rfl (λq hq=>o2.blk q hq) o2.ltS) (λ_=>?_)
 refine⟨λ(c:Int) (i:Int) (w':World)=>∃(i':Nat) (m':List UInt8),i=(i':Int)/\i'<=4000/\m'.length=m.length/\Grow w w'/\OwnB w' w.heap.size tb v1 m',λ(_:Int) (i:Int) (_:World)=>((4000:Int) - i).toNat,
  ⟨p,m,rfl,by omega,rfl,g2,o2⟩,?_⟩
 dsimp only[allR,mapR2,eqN,ltN]
 rintro M c _ wy ⟨⟨i,m',rfl,hi,hm',g8,o8⟩,hM⟩
 have hl:=RdB.len o8.rd
 have e88:IntKind.wrap .i64 ((8:Int)*((m'.length:Nat):Int))=8*(m'.length:Int):=wi64_id (by omega) (by omega)
 refine JoinP.bool (λbb w'=>w'=wy/\(bb=true->i < 8*m'.length)) (λj hj=>⟨_,hl,cond_intro (λh1=>hj _ _ ⟨rfl,λ_=>?_⟩) (λh1=>hj _ _ ⟨rfl,λe=>by cases e⟩)⟩) ?_
 ·rw[e88]at h1
  simp at h1;omega
 rintro bb wx ⟨rfl,hbb⟩
 refine cond_intro (λh1=>?_) (λh1=>k v1 wx m' c g8 o8.rd hm' (λq hq=>o8.blk q hq) o8.ltS)
 have hlt:=hbb h1
 have e8:IntKind.wrap .i64 (Int.tdiv (i:Int) (8:Int))=((i / 8:Nat):Int):=by
  rw[Int.tdiv_eq_ediv_of_nonneg (by omega),wi64_id (by omega) (by omega)];omega
 have emod:Int.tmod (i:Int) (8:Int)=((i % 8:Nat):Int):=by rw[Int.tmod_eq_emod_of_nonneg (by omega)];omega
 have hmod:(0:Int)<=IntKind.wrap .u64 (Int.tmod (i:Int) (8:Int)):=by rw[emod,w64_id (by omega) (by omega)];omega
 rw[e8]
 refine JoinP.int (λc' w'=>∃m2:List UInt8,m2.length=m.length/\Grow w w'/\OwnB w' w.heap.size tb v1 m2) (λj hj=>?_) ?_
 ·refine has_c o8.rd hlt (by omega) λbb'=>⟨_,rfl,cond_intro (λh2=>?_) (λh2=>hj _ _ ⟨m',hm',g8,o8⟩)⟩
  obtain⟨a,q1,q2,q3,q4,q5,q6⟩:=Own.put o8 (i:=((i / 8:Nat):Int)) (by omega) (by rw[List.length_map];omega)
  refine⟨a,q1,((m'.getD (i / 8) 0).toNat:Int),?_,leK_intro hmod ⟨a,q1,q3,nm λw20 e20=>?_⟩⟩
  ·rw[q2]
   simp only[Int.toNat_natCast,List.getElem_map,List.getD_eq_getElem?_getD]
   rw[List.getElem?_eq_getElem (by omega)];rfl
  ·have hx:∃x:UInt8,Value.int .u8 (bitsI .xor .u8 ((m'.getD (i / 8) 0).toNat:Int) (IntKind.wrap .u8 ((1:Int)*((2:Int) ^ (min (Int.toNat (IntKind.wrap .u64 (Int.tmod (i:Int) (8:Int)))) 8)))))=b8 x:=by
    rw[emod,w64_id (n:=((i % 8:Nat):Int)) (by omega) (by omega)]
    have hj8:i % 8 < 8:=Nat.mod_lt _ (by omega)
    have one_val:∀j:Fin 8,IntKind.wrap .u8 ((1:Int)*((2:Int) ^ (min j.val 8)))=((UInt8.ofNat (2 ^ j.val)).toNat:Int):=by decide+kernel
    have:=one_val ⟨i % 8,hj8⟩
    simp only[Int.toNat_natCast]
    rw[this]
    exact⟨m'.getD (i / 8) 0 ^^^ UInt8.ofNat (2 ^ (i % 8)),by rw[b8_xor];rfl⟩
   obtain⟨x,hx⟩:=hx
   rw[hx]at e20
   have q7:=q6 (b8 x)
   rw[←e20]at q7
   refine hj _ _ ⟨m'.set (i / 8) x,by simp [hm'],?_,?_⟩
   ·rw[e20]
    exact g8.trans (Step.to_below (Step.setA (S :=λq=>q=a.block) wx a (b8 x) rfl) g8.size (λq hq=>by rw[hq];exact q4))
   ·show Own w20 w.heap.size tb v1 ((m'.set (i / 8) x).map b8)
    rw[Int.toNat_natCast]at q7
    rw[List.map_set]
    exact q7
 ·rintro c' w' ⟨m2,hm2,g',o'⟩
  rw[wi64_id (n:=(i:Int)+1) (by omega) (by omega)]
  exact⟨⟨i+1,m2,by omega,by omega,hm2,g',o'⟩,by omega⟩
def over (b:List UInt8) (p:Nat) (d:List UInt8):List UInt8:=b.take p++d++b.drop (p+d.length)
theorem over_step {b d:List UInt8} {p i:Nat} (hp:p+d.length<=b.length) (hi:i < d.length):(over b p (d.take i)).set (p+i) (d[i]'hi)=over b p (d.take (i+1)):=by
 unfold over
 have e1:(d.take i).length=i:=by rw[List.length_take];omega
 have e2:(d.take (i+1)).length=i+1:=by rw[List.length_take];omega
 have e3:(b.take p).length=p:=by rw[List.length_take];omega
 rw[e1,e2,List.append_assoc,List.set_append_right _ _ (by omega),e3,List.set_append_right _ _ (by omega),e1]
 have e4:p+i - p - i=0:=by omega
 rw[e4,List.drop_eq_getElem_cons (l:=b) (i:=p+i) (by omega),List.set_cons_zero]
 have e5:d.take (i+1)=d.take i++[d[i]'hi]:=by rw[List.take_add_one,List.getElem?_eq_getElem hi];rfl
 rw[e5]
 simp only[List.append_assoc,List.cons_append,List.nil_append,Nat.add_assoc]
theorem sWrite_c (h:SpAt w g N b bv mv m) {p n:Nat} (hn:n<=32/\p+n<=N) {v:Value} {d:List UInt8} (hv:RdB w v d) (hd:d.length=n*8) {R:KV}
 (k:∀w' bv' mv' m',Step (λq=>q=g) w w' (λq=>q=g)->SpAt w' g N (over b (p*8) d) bv' mv' m'->NewV w bv'->NewV w mv'->R (.int .i64 (0:Int)) w'):
 Zs 98 #[zA g,.int .i64 (p:Int),v] w R:=by
 apply q30W
 have hN:=h.hN
 have hb:=h.hb
 have hl:=RdB.len hv
 have e8:IntKind.wrap .i64 (Int.tdiv ((d.length:Nat):Int) (8:Int))=(n:Int):=by
  rw[Int.tdiv_eq_ediv_of_nonneg (by omega),wi64_id (by omega) (by omega)];omega
 refine⟨_,hl,?_⟩
 rw[e8]
 refine JoinP.bool (λbb w'=>bb=false/\w=w') (λj hj=>⟨_,hl,cond_f ?_ (sIn_c h (by omega) ⟨_,rfl,hj _ _ ⟨by rw[decide_eq_true hn];rfl,rfl⟩⟩)⟩) ?_
 ·have:Int.tmod ((d.length:Nat):Int) (8:Int)=0:=by rw[Int.tmod_eq_emod_of_nonneg (by omega)];omega
  rw[this];rfl
 rintro _ _ ⟨rfl,rfl⟩
 refine cond_f rfl (nm λw3 e3=>?_)
 obtain⟨b3,g3,s3⟩:=alE e3
 refine withAddr_some ⟨_,(h.o.grow g3).cell 1,?_⟩
 have ho:OwnB w3 w.heap.size tb (.slice (some ⟨w.heap.size,0,none⟩) 0 0) []:=by
  rw[e3];exact Own.lit w (Nat.le_refl _) tb #[] 0 rfl (by simp [maxLen])
 obtain⟨v6,w7,hr,o7,n7⟩:=app_bytes ho (h.rb.grow g3) g3.size (by simp;omega)
 rw[List.nil_append]at o7
 have g7:Grow w w7:=g3.trans (n7.below g3.size ho.blk)
 refine⟨v6,w7,hr,?_⟩
 have ov0:over b (p*8) (d.take 0)=b:=by unfold over;simp
 refine⟨λ(i:Int) (w':World)=>∃i':Nat,i=(i':Int)/\i'<=d.length/\Grow w w'/\OwnB w' w.heap.size tb v6 (over b (p*8) (d.take i')),λ(i:Int) (_:World)=>((d.length:Int) - i).toNat,
  ⟨0,rfl,by omega,g7,by rw[ov0];exact o7⟩,?_⟩
 dsimp only[allR,mapR2,eqN,ltN]
 rintro M _ w10 ⟨⟨i,rfl,hi,g10,o10⟩,hM⟩
 have hol:(over b (p*8) (d.take i)).length=b.length:=by
  unfold over
  simp only[List.length_append,List.length_take,List.length_drop];omega
 refine⟨_,hl,cond_intro (λh1=>?_) (λh1=>?_)⟩
 ·have hlt:i < d.length:=by simp at h1;omega
  obtain⟨a,q1,q2⟩:=RdB.at (hv.grow g10) (i:=(i:Int)) (by omega) (by omega)
  rw[wi64_id (n:=(p:Int)*8) (by omega) (by omega),wi64_id (n:=(p:Int)*8+i) (by omega) (by omega)]
  obtain⟨a',r1,r2,r3,r4,r5,r6⟩:=Own.put o10 (i:=(p:Int)*8+i) (by omega) (by rw[List.length_map,hol];omega)
  refine⟨a,q1,_,q2,a',r1,r3,nm λw15 e15=>?_⟩
  have r7:=r6 (b8 d[i])
  have e15':w15=World.setCell w10 a' (b8 d[i]):=e15
  rw[←e15']at r7
  rw[wi64_id (n:=(i:Int)+1) (by omega) (by omega)]
  refine⟨⟨i+1,by omega,by omega,?_,?_⟩,by omega⟩
  ·rw[e15']
   exact g10.trans (Step.to_below (Step.setA (S :=λq=>q=a'.block) w10 a' (b8 d[i]) rfl) g10.size (λq hq=>by rw[hq];exact r4))
  ·have et:((p:Int)*8+(i:Int)).toNat=p*8+i:=by omega
   rw[et,←List.map_set,over_step (by omega) hlt]at r7
   exact r7
 ·have he:i=d.length:=by simp at h1;omega
  subst he
  rw[List.take_length]at o10
  have h10:=h.grow g10
  refine withAddr_some (oneK_of (Rd.isOne o10.rd) ⟨st1_at h10.o (by show 1 < 3;omega),nm λw17 e17=>?_⟩)
  obtain⟨b17,t17⟩:=setE h10.o e17
  have hgw:g < w.heap.size:=h.o.lt
  refine withAddr_some ⟨mv,b17.cell 2,?_⟩
  have hm17:RdB w17 mv m:=Rd.turn h10.rm t17 h.nm
  refine bPut_c hm17 h.hm (p:=p) (n:=n) (by omega) (by omega) λv22 w21 m' c g21 r21 hm' n21 l21=>⟨_,_,rfl,withAddr_some (oneK_of (Rd.isOne r21) ⟨st1_at (b17.grow g21) (by show 2 < 3;omega),nm λw25 e25=>?_⟩)⟩
  obtain⟨b25,t25⟩:=setE (b17.grow g21) e25
  have z17:w17.heap.size=w10.heap.size:=t17.size
  have z10:=g10.size
  have nv6:∀q,v6.ownBlock=some q->q≠g:=λq hq e=>by have:=o10.blk q hq;omega
  have nv22:∀q,v22.ownBlock=some q->q≠g:=λq hq e=>by have:=n21 q hq;omega
  refine k w25 v6 v22 m' ?_ ⟨b25,?_,?_,?_,hN,by have:=h.hm;omega,λe=>nv6 _ e rfl,λe=>nv22 _ e rfl,λq hq=>?_,λq hq=>?_⟩ (λq hq=>o10.blk q hq) (λq hq=>by have:=n21 q hq;omega)
  ·exact(((((Md.refl (λq=>q=g) w.heap.size w).grow g10).turn t17 (.inl rfl)).grow g21).turn t25 (.inl rfl)).out
  ·exact Rd.turn ((Rd.turn o10.rd t17 (λe=>nv6 _ e rfl)).grow g21) t25 (λe=>nv6 _ e rfl)
  ·exact Rd.turn r21 t25 (λe=>nv22 _ e rfl)
  ·have:=hol
   rw[List.take_length]at this
   rw[this];exact hb
  ·have:=o10.ltS q hq
   have:=g21.size
   have:=t25.size
   omega
  ·have:=l21 q hq
   have:=t25.size
   omega
end Go.Proofs.YtdinpgnjnleioaaGreatDoor.Rf
end
section
namespace Go.Proofs.YtdinpgnjnleioaaGreatDoor.Rf
open CW RowKit
open Lst (cutK cutK_length keysB rowB rowB_append rowB_length put4 put8 EU_at u64_of32)
theorem Keys_c {w:World} {g:Int} {v:Value} {l:List Int} {R:KV} (hg:0<=g/\g < 4294967296) (hr:RdR EU w v l) (c:∀v' w',Grow w w'->RdB w' v' (keysB g l)->NewV w v'->R v' w'):
 Zs 61 #[.int .u32 g,v] w R:=by
 apply q101W
 have hle:=hr.le
 have hcl:=cutK_length l
 refine JoinP.val (λv0 w'=>w'=w/\RdR EU w v0 (cutK l)) (λj hj=>?_) ?_
 ·refine⟨_,hr.len,cond_intro (λh=>?_) (λh=>hj _ _ ⟨rfl,?_⟩)⟩
  ·simp at h
   obtain⟨v1,h1,r1,_⟩:=hr.sub (lo:=none) (hi:=some (.int .i64 (16:Int))) (l:=0) (r:=16) (λcap hc=>by rw[bounds_ni (by omega) (by omega)];rfl) (by omega) (by omega)
   exact⟨v1,h1,hj _ _ ⟨rfl,r1⟩⟩
  ·simp at h
   have e:cutK l=l:=List.take_of_length_le (by omega)
   rw[e];exact hr
 rintro v0 w' ⟨rfl,r1⟩
 rw[u64_of32 hg]
 refine gemelref1_Put_c (B:=w'.heap.size) (bs:=[]) (Own.nil w' _ tb) (Nat.le_refl _) (by simp) λv2 w3 n3 o3=>⟨_,r1.len,?_⟩
 have g3:Grow w' w3:=n3.below (Nat.le_refl _) (λk hk=>by cases hk)
 rw[wi64_id (n:=8*((cutK l).length:Int)) (by omega) (by omega),w64_id (n:=8*((cutK l).length:Int)) (by omega) (by omega)]
 refine gemelref1_Put_c o3 g3.size (by simp [put4,putL_length]) λv5 w6 n6 o6=>?_
 have g6:Grow w' w6:=g3.trans (n6.below g3.size o3.blk)
 have hd:putS (putS [] g 4) (8*((cutK l).length:Int)) 4=putL g 4++putL (8*((cutK l).length:Int)) 4:=rfl
 rw[hd]at o6
 refine⟨λ(vv:Value) (i:Int) (ww:World)=>0<=i/\i<=(cutK l).length/\Grow w' ww/\OwnB ww w'.heap.size tb vv (putL g 4++putL (8*((cutK l).length:Int)) 4++rowB ((cutK l).take i.toNat)),λ(_:Value) (i:Int) (_:World)=>((cutK l).length - i).toNat,
  ⟨by omega,by omega,g6,by simpa[rowB]using o6⟩,?_⟩
 dsimp only[allR,mapR2,eqN,ltN]
 rintro m vv i ww ⟨⟨h0,h1',gg,oo⟩,hm⟩
 refine⟨_,(r1.grow gg).len,cond_intro (λh=>?_) (λh=>?_)⟩
 ·simp at h
  obtain⟨a,ha,hc⟩:=EU_at (r1.grow gg) h0 h
  refine⟨a,ha,_,hc,gemelref1_Put_c oo gg.size (by simp [putL_length,rowB_length];omega) λv14 w15 n15 o15=>?_⟩
  rw[wi64_id (n:=i+1) (by omega) (by omega)]
  refine⟨⟨by omega,by omega,gg.trans (n15.below gg.size oo.blk),?_⟩,by omega⟩
  have e:(i+1).toNat=i.toNat+1:=by omega
  rw[e,List.take_add_one,List.getElem?_eq_getElem (by omega),rowB_append]
  rw[put8,List.append_assoc]at o15
  exact o15
 ·simp at h
  have e:(cutK l).take i.toNat=cutK l:=List.take_of_length_le (by omega)
  rw[e]at oo
  exact c _ _ gg oo.rd (λq hq=>oo.blk q hq)
end Go.Proofs.YtdinpgnjnleioaaGreatDoor.Rf
end
section
namespace Go.Proofs.YtdinpgnjnleioaaGreatDoor.Rf
open CW RowKit
open Ses (Cm Rp RpAt RpOk rRp rCm nilV m32 Doer)
abbrev tUn:TypeId:=83
abbrev tDo:TypeId:=86
abbrev rUn (gs gt:Nat):Array Value:= #[zA gs,zA gt,nilV,nilV,nilV,nilV,nilV,nilV,nilV,nilV,.int .u64 0,.int .u64 0,.int .u64 0,.int .u64 0,.int .u64 0,.int .u64 0,.int .u64 0,.int .u64 0,nilV,nilV,nilV,nilV,nilV,nilV,nilV,nilV]
structure UnIn (w:World) (F:Fp) (gu gs gt N:Nat) (bv mv:Value) (m:List UInt8) (u:Ru):Prop where
 o:BK w gu (rUn gs gt) tUn
 s:SpAt w gs N u.b bv mv m
 t:TAt w gt u
 fu:F gu
 fs:F gs
 ft:F gt
 fb:∀q,bv.ownBlock=some q->F q
 fm:∀q,mv.ownBlock=some q->F q
 n1:gu≠gs
 n2:gu≠gt
 n3:gs≠gt
 nb:∀q,bv.ownBlock=some q->q≠gu/\q≠gt
 nm:∀q,mv.ownBlock=some q->q≠gu/\q≠gt
 lt:InW w F
def UnAt (w:World) (F:Fp) (gu N:Nat) (u:Ru):Prop:=∃gs gt bv mv m,UnIn w F gu gs gt N bv mv m u
variable {w w':World} {F:Fp} {gu gs gt N:Nat} {bv mv:Value} {m:List UInt8} {u:Ru}
theorem UnIn.grow (h:UnIn w F gu gs gt N bv mv m u) (g:Grow w w'):UnIn w' F gu gs gt N bv mv m u:=
 ⟨h.o.grow g,h.s.grow g,h.t.grow g,h.fu,h.fs,h.ft,h.fb,h.fm,h.n1,h.n2,h.n3,h.nb,h.nm,h.lt.grow g⟩
def u0n (N:Nat):Ru:={u0 with b:=List.replicate (N*8) 0}
theorem uNew_c (h1:1<=N) (h2:N<=1024) {R:KV} (k:∀gu F w',Grow w w'->(∀q,F q->w.heap.size<=q)->UnAt w' F gu N (u0n N)->R (.tuple #[zA gu,.int .i64 (0:Int)]) w'):
 Zs 21 #[.int .i64 (N:Int)] w R:=by
 apply q48W
 refine sNew_c h1 h2 λgs bv mv m w1 g1 lg nb nm s1=>⟨_,_,rfl,cond_f rfl ?_⟩
 refine rNew_c λw5 g5 t5 z5=>⟨_,rfl,nm_ λw7 e7=>?_⟩
 obtain⟨b7,g7,s7⟩:=alE e7
 have z1:=g1.size
 have lgs:=s1.o.lt
 refine k w5.heap.size (λq=>q=w5.heap.size\/q=gs\/q=w1.heap.size\/bv.ownBlock=some q\/mv.ownBlock=some q) w7 (g1.then (g5.then g7)) (λq hq=>?_)
  ⟨gs,w1.heap.size,bv,mv,m,b7,(s1.grow g5).grow g7,(t5.grow g7).eq rfl rfl rfl rfl,.inl rfl,.inr (.inl rfl),.inr (.inr (.inl rfl)),λq hq=>.inr (.inr (.inr (.inl hq))),λq hq=>.inr (.inr (.inr (.inr hq))),by omega,by omega,by omega,λq hq=>?_,λq hq=>?_,λq hq=>?_⟩
 ·rcases hq with rfl|rfl|rfl|hq|hq
  ·omega
  ·exact lg
  ·omega
  ·exact nb q hq
  ·exact nm q hq
 ·have:=s1.lb q hq;omega
 ·have:=s1.lm q hq;omega
 ·rcases hq with rfl|rfl|rfl|hq|hq
  ·omega
  ·omega
  ·omega
  ·have:=s1.lb q hq;omega
  ·have:=s1.lm q hq;omega
where
 nm_ {w:World} {K:World->Prop} (h:∀w',w'=w->K w'):bindW w K:=h w rfl
theorem newV_nil (w:World):NewV w nilV:=λq hq=>by cases hq
end Go.Proofs.YtdinpgnjnleioaaGreatDoor.Rf
end
section
namespace Go.Proofs.YtdinpgnjnleioaaGreatDoor.Rf
open CW RowKit
open Ses (Cm Rp RpAt RpOk rRp rCm nilV m32 Doer)
variable {w w':World} {F:Fp}
structure Lo (w w':World) (F:Fp) (c:Cm) (dv:Value):Prop where
 g:Grow w w'
 bc:BK w' w.heap.size (rCm c dv) tCm
 br:BK w' (w.heap.size+1) #[.int .i64 0,.int .i64 0,.int .i64 0,nilV,.int .i64 0] tRp
theorem Lo.grow {w2:World} {c:Cm} {dv:Value} (h:Lo w w' F c dv) (g:Grow w' w2):Lo w w2 F c dv:=⟨h.g.then g,h.bc.grow g,h.br.grow g⟩
end Go.Proofs.YtdinpgnjnleioaaGreatDoor.Rf
end
