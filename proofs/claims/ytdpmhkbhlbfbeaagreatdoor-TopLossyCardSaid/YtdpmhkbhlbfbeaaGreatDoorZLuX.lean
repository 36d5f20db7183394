/- A part of the proof. -/
import Derived.Test.YtdpmhkbhlbfbeaaGreatDoorZSpcX
import Derived.Test.YtdpmhkbhlbfbeaaGreatDoorZLstX
set_option linter.unusedSimpArgs false
set_option linter.unusedVariables false
set_option maxRecDepth 100000
namespace Go.Proofs.YtdpmhkbhlbfbeaaGreatDoor
section
open CW RowKit
abbrev tRep:TypeId:=49
abbrev tTb:TypeId:=137
abbrev rRep (st key code:Int) (d:Value) (info:Int):Array Value:= #[.int .i64 st,.int .i64 key,.int .i64 code,d,.int .i64 info]
abbrev nilV:Value:=.slice none 0 0
theorem one_rep {st key code info:Int} {d:Value} (h:isOne d=true):oneL (rRep st key code d info).toList=true:=by
 simp only[oneL,h,Bool.and_true];rfl
theorem ret5 {w:World} {b:Nat} {cs:Array Value} {x0 x1 x2 x4:Int} {x3:Value} {G:Int->Int->Int->Value->Int->World->Prop} (bk:BK w b cs tRep) (hs:cs.size=5) (ho:isOne x3=true)
 (k:∀w',BK w' b (rRep x0 x1 x2 x3 x4) tRep->Turn b w w'->G x0 x1 x2 x3 x4 w'):
 (StRow w ⟨b,0,none⟩ #[.int .i64 x0,.int .i64 x1,.int .i64 x2,x3,.int .i64 x4])/\
 bindW (stRow w ⟨b,0,none⟩ #[.int .i64 x0,.int .i64 x1,.int .i64 x2,x3,.int .i64 x4]) λw'=>
 ∃(n0:Int) (n1:Int) (n2:Int) (v3:Value) (n4:Int),(ldCells w' ⟨b,0,none⟩ 5 #[.int .i64 n0,.int .i64 n1,.int .i64 n2,v3,.int .i64 n4])/\G n0 n1 n2 v3 n4 w':=by
 refine⟨bk.row (by rw[hs];rfl) (one_rep ho),nm λw' e=>?_⟩
 obtain⟨b',t'⟩:=rowE bk e (by rw[hs];rfl)
 exact⟨_,_,_,_,_,b'.ld rfl,k w' b' t'⟩
theorem Wrong_c {w:World} {key code:Int} {R:KV} (k:∀w',Grow w w'->R (.agg (rRep 2 key code nilV 0)) w'):Zs 65 #[.int .i64 key,.int .i64 code] w R:=by
 apply q117W
 refine nm λw0 e0=>?_
 obtain⟨b0,g0,_⟩:=alE e0
 exact ret5 b0 rfl rfl λw' _ t=>k _ (Below.turn g0 t (Nat.le_refl _))
theorem Good_c {w:World} {v:Value} {bs:List UInt8} {R:KV} (hr:RdB w v bs) (hb:bs.length<=1000000000) (k:∀v' w',Grow w w'->RdB w' v' bs->NewV w v'->R (.agg (rRep 0 0 0 v' 0)) w'):Zs 67 #[v] w R:=by
 apply q116W
 refine nm λw0 e0=>?_
 obtain⟨b0,g0,s0⟩:=alE e0
 refine slices_Clone_c (hr.grow g0) (by omega) λv1 w2 g2 o2=>slices_Clip_c o2.rd λv3 r3 n3=>?_
 have one:isOne v3=true:=Rd.isOne r3
 have b2:=b0.grow g2
 refine oneK_of one (ret5 b2 rfl one λw5 _ t5=>k _ _ (Below.turn (g0.then g2) t5 (Nat.le_refl _)) (Rd.turn r3 t5 ?_) ?_)
 ·intro h
  have:=o2.blk _ (n3▸h)
  omega
 ·intro q hq
  have:=o2.blk _ (n3▸hq)
  omega
theorem field_c {w:World} {R:KV} (k:∀w',Grow w w'->R (.agg (rRep 2 5 9216 nilV 0)) w'):Zs 152 #[] w R:=by
 apply q110W
 refine nm λw0 e0=>?_
 obtain⟨b0,g0,_⟩:=alE e0
 exact Wrong_c λw2 g2=>⟨_,_,_,_,_,rfl,ret5 (b0.grow g2) rfl rfl λw' _ t=>k _ (Below.turn (g0.then g2) t (Nat.le_refl _))⟩
theorem conflict_c {w:World} {R:KV} (k:∀w',Grow w w'->R (.agg (rRep 24 0 0 nilV 0)) w'):Zs 153 #[] w R:=by
 apply q109W
 refine nm λw0 e0=>?_
 obtain⟨b0,g0,_⟩:=alE e0
 exact ret5 b0 rfl rfl λw' _ t=>k _ (Below.turn g0 t (Nat.le_refl _))
theorem good_c {w:World} {R:KV} (k:∀w',Grow w w'->R (.agg (rRep 0 0 0 nilV 0)) w'):Zs 155 #[] w R:=by
 apply q111W
 refine nm λw0 e0=>?_
 obtain⟨b0,g0,_⟩:=alE e0
 exact ret5 b0 rfl rfl λw' _ t=>k _ (Below.turn g0 t (Nat.le_refl _))
structure Tb where
 keys:List Int
 hd:Int
 ty:Int
 gn:Int
def rTb (T:Tb):Array Value:=(T.keys.map (λk=>Value.int .u64 k)++[Value.int .i64 T.hd,Value.int .i64 T.ty,Value.int .u32 T.gn]).toArray
structure TAt (w:World) (t:Nat) (T:Tb):Prop where
 b:BK w t (rTb T) tTb
 len:T.keys.length=8
variable {w:World} {t:Nat} {T:Tb}
theorem TAt.grow {w':World} (h:TAt w t T) (g:Grow w w'):TAt w' t T:=⟨h.b.grow g,h.len⟩
theorem TAt.key (h:TAt w t T) {i:Nat} (hi:i < 8):w.cell? (Addr.add ⟨t,0,none⟩ i)=some (.int .u64 (T.keys.getD i 0)):=by
 have hl:=h.len
 rw[h.b.cell]
 simp only[rTb,List.getElem?_toArray]
 rw[List.getElem?_append_left (by simp;omega),List.getElem?_map,List.getElem?_eq_getElem (by omega),List.getD_eq_getElem?_getD,List.getElem?_eq_getElem (by omega)]
 rfl
theorem TAt.at8 (h:TAt w t T):w.cell? (Addr.add ⟨t,0,none⟩ 8)=some (.int .i64 T.hd):=by
 have hl:=h.len
 rw[h.b.cell]
 simp only[rTb,List.getElem?_toArray]
 rw[List.getElem?_append_right (by simp;omega)]
 simp [hl]
theorem TAt.at9 (h:TAt w t T):w.cell? (Addr.add ⟨t,0,none⟩ 9)=some (.int .i64 T.ty):=by
 have hl:=h.len
 rw[h.b.cell]
 simp only[rTb,List.getElem?_toArray]
 rw[List.getElem?_append_right (by simp;omega)]
 simp [hl]
theorem TAt.at10 (h:TAt w t T):w.cell? (Addr.add ⟨t,0,none⟩ 10)=some (.int .u32 T.gn):=by
 have hl:=h.len
 rw[h.b.cell]
 simp only[rTb,List.getElem?_toArray]
 rw[List.getElem?_append_right (by simp;omega)]
 simp [hl]
theorem adk (t:Nat) (h:Nat):Addr.add (Addr.add ⟨t,0,none⟩ 0) (Int.toNat (h:Int)*1)=Addr.add ⟨t,0,none⟩ h:=by
 rw[add_zero];simp
theorem TAt.keyI (h:TAt w t T) {i:Nat} (hi:i < 8):w.cell? (Addr.add (Addr.add ⟨t,0,none⟩ 0) (Int.toNat (i:Int)*1))=some (.int .u64 (T.keys.getD i 0)):=by rw[adk];exact h.key hi
theorem rTb_size (h:TAt w t T):(rTb T).size=11:=by have:=h.len;simp [rTb];omega
theorem TAt.st (h:TAt w t T) {i:Nat} (hi:i < 11):St1 w (Addr.add ⟨t,0,none⟩ i):=st1_at h.b (by rw[rTb_size h];exact hi)
theorem TAt.setKey (h:TAt w t T) {i:Nat} (hi:i < 8) {x:Int} {w':World} (e:w'=World.setCell w (Addr.add ⟨t,0,none⟩ i) (.int .u64 x)):TAt w' t {T with keys:=T.keys.set i x}/\Turn t w w':=by
 obtain⟨b',t'⟩:=setE h.b e
 refine⟨⟨?_,by simp [h.len]⟩,t'⟩
 have hl:=h.len
 have:(rTb T).setIfInBounds i (.int .u64 x)=rTb {T with keys:=T.keys.set i x}:=by
  simp only[rTb,List.setIfInBounds_toArray]
  congr 1
  rw[List.set_append_left _ _ (by simp;omega),List.map_set]
 rw[←this];exact b'
theorem TAt.set8 (h:TAt w t T) {x:Int} {w':World} (e:w'=World.setCell w (Addr.add ⟨t,0,none⟩ 8) (.int .i64 x)):TAt w' t {T with hd:=x}/\Turn t w w':=by
 obtain⟨b',t'⟩:=setE h.b e
 refine⟨⟨?_,h.len⟩,t'⟩
 have hl:=h.len
 have:(rTb T).setIfInBounds 8 (.int .i64 x)=rTb {T with hd:=x}:=by
  simp only[rTb,List.setIfInBounds_toArray]
  congr 1
  rw[List.set_append_right _ _ (by simp;omega)]
  simp [hl]
 rw[←this];exact b'
theorem TAt.set9 (h:TAt w t T) {x:Int} {w':World} (e:w'=World.setCell w (Addr.add ⟨t,0,none⟩ 9) (.int .i64 x)):TAt w' t {T with ty:=x}/\Turn t w w':=by
 obtain⟨b',t'⟩:=setE h.b e
 refine⟨⟨?_,h.len⟩,t'⟩
 have hl:=h.len
 have:(rTb T).setIfInBounds 9 (.int .i64 x)=rTb {T with ty:=x}:=by
  simp only[rTb,List.setIfInBounds_toArray]
  congr 1
  rw[List.set_append_right _ _ (by simp;omega)]
  simp [hl]
 rw[←this];exact b'
theorem TAt.set10 (h:TAt w t T) {x:Int} {w':World} (e:w'=World.setCell w (Addr.add ⟨t,0,none⟩ 10) (.int .u32 x)):TAt w' t {T with gn:=x}/\Turn t w w':=by
 obtain⟨b',t'⟩:=setE h.b e
 refine⟨⟨?_,h.len⟩,t'⟩
 have hl:=h.len
 have:(rTb T).setIfInBounds 10 (.int .u32 x)=rTb {T with gn:=x}:=by
  simp only[rTb,List.setIfInBounds_toArray]
  congr 1
  rw[List.set_append_right _ _ (by simp;omega)]
  simp [hl]
 rw[←this];exact b'
def newTb:Tb:=⟨List.replicate 8 0, -1,0,0⟩
theorem rNew_c {R:KV} (k:∀t w',Grow w w'->w.heap.size<=t->TAt w' t newTb->R (zA t) w'):Zs 35 #[] w R:=by
 apply q98W
 refine nm λw0 e0=>?_
 obtain⟨b0,g0,_⟩:=alE e0
 exact k _ _ g0 (Nat.le_refl _) ⟨b0,rfl⟩
theorem rhost_c {h:Nat} (hh:h < 8) {R:KV} (k:R (.bool true) w):Zs 100 #[.int .i64 (h:Int)] w R:=by
 apply q112W
 refine JoinP.go (cond_intro (λ_=>?_) (λhc=>by simp at hc))
 have:decide ((h:Int) < (8:Int))=true:=by simp;omega
 rw[this];exact k
theorem host0_c {h:Int} {R:KV} (k:R (.bool (decide (0<=h/\h < 8))) w):Zs 100 #[.int .i64 h] w R:=by
 apply q112W
 refine JoinP.go (cond_intro (λhc=>?_) (λhc=>?_))
 ·simp at hc
  simpa[hc]using k
 ·simp at hc
  have:¬0<=h:=by omega
  simpa[this]using k
def typedB (p:Int):Bool:=p==1||(p==3||(p==5||p==6))
theorem typed_c {p:Int} {R:KV} (k:R (.bool (typedB p)) w):Zs 157 #[.int .i64 p] w R:=by
 apply q113W
 unfold typedB at k
 refine JoinP.go (cond_intro (λh1=>?_) (λh1=>cond_intro (λh2=>?_) (λh2=>cond_intro (λh3=>?_) (λh3=>?_))))
 ·simpa[h1]using k
 ·simpa[h1,h2]using k
 ·simpa[h1,h2,h3]using k
 ·simpa[h1,h2,h3]using k
def regsB (T:Tb):Bool:=T.ty==5||T.ty==6
theorem regs_c (h:TAt w t T) {R:KV} (k:R (.bool (regsB T)) w):Zs 99 #[zA t] w R:=by
 apply q108W
 unfold regsB at k
 refine JoinP.go (withAddr_some ⟨_,h.at9,cond_intro (λh1=>?_) (λh1=>withAddr_some ⟨_,h.at9,?_⟩)⟩)
 ·simpa[h1]using k
 ·simpa[h1]using k
def allowsB (T:Tb) (h:Nat) (kind:Int):Bool:=
 T.hd== -1||T.hd==(h:Int)||(regsB T&&T.keys.getD h 0 !=0)||
  (bif kind==1||kind==2 then T.ty==1||T.ty==5 else !(kind==3||kind==4||kind==5||kind==6))
theorem Allows_c (h:TAt w t T) {i:Nat} (hi:i < 8) {kind:Int} {R:KV} (k:R (.bool (allowsB T i kind)) w):Zs 69 #[zA t,.int .i64 (i:Int),.int .i64 kind] w R:=by
 apply q99W
 unfold allowsB at k
 refine JoinP.bool (λb w'=>b=(T.hd== -1||T.hd==(i:Int)||(regsB T&&T.keys.getD i 0 !=0))/\w'=w) (λj hj=>?_) ?_
 ·refine withAddr_some ⟨_,h.at8,cond_intro (λh1=>hj _ _ ⟨by simp [h1],rfl⟩) (λh1=>withAddr_some ⟨_,h.at8,cond_intro (λh2=>hj _ _ ⟨by simp [h1,h2],rfl⟩) (λh2=>?_)⟩)⟩
  refine regs_c h ⟨_,rfl,cond_intro (λh3=>rhost_c hi ⟨_,rfl,cond_t rfl (withAddr_some ⟨⟨by omega,by omega⟩,_,h.keyI hi,hj _ _ ⟨by simp [h1,h2,h3],rfl⟩⟩)⟩) (λh3=>hj _ _ ⟨by simp [h1,h2,h3],rfl⟩)⟩
 ·rintro b w' ⟨rfl,rfl⟩
  refine cond_intro (λh1=>?_) (λh1=>?_)
  ·rw[h1,Bool.true_or]at k;exact k
  ·rw[h1,Bool.false_or]at k
   refine JoinP.bool (λb w''=>b=(kind==1||kind==2)/\w''=w') (λj hj=>cond_intro (λh2=>hj _ _ ⟨by simp [h2],rfl⟩) (λh2=>hj _ _ ⟨by simp [h2],rfl⟩)) ?_
   rintro b w'' ⟨rfl,rfl⟩
   refine cond_intro (λh2=>?_) (λh2=>?_)
   ·rw[h2,cond_true]at k
    refine JoinP.go (withAddr_some ⟨_,h.at9,cond_intro (λh3=>?_) (λh3=>withAddr_some ⟨_,h.at9,?_⟩)⟩)
    ·simpa[h3]using k
    ·simpa[h3]using k
   ·rw[h2,cond_false]at k
    refine JoinP.bool (λb w'=>b=(kind==3||kind==4||kind==5||kind==6)/\w'=w'') (λj hj=>cond_intro (λh3=>hj _ _ ⟨by simp [h3],rfl⟩) (λh3=>cond_intro (λh4=>hj _ _ ⟨by simp [h3,h4],rfl⟩) (λh4=>cond_intro (λh5=>hj _ _ ⟨by simp [h3,h4,h5],rfl⟩) (λh5=>hj _ _ ⟨by simp [h3,h4,h5],rfl⟩)))) ?_
    rintro b w3 ⟨rfl,rfl⟩
    refine cond_intro (λh3=>?_) (λh3=>?_)
    ·simpa[h3]using k
    ·simpa[h3]using k
theorem Generation_c (h:TAt w t T) {R:KV} (k:R (.int .u32 T.gn) w):Zs 112 #[zA t] w R:=by
 apply q100W
 exact withAddr_some ⟨_,h.at10,k⟩
theorem Key_c (h:TAt w t T) {i:Nat} (hi:i < 8) {R:KV} (k:R (.int .u64 (T.keys.getD i 0)) w):Zs 116 #[zA t,.int .i64 (i:Int)] w R:=by
 apply q102W
 exact rhost_c hi ⟨_,rfl,cond_f rfl (withAddr_some ⟨⟨by omega,by omega⟩,_,h.keyI hi,k⟩)⟩
def keyOf (T:Tb) (i:Int):Int:=if 0<=i/\i < 8 then T.keys.getD i.toNat 0 else 0
theorem Key_any (h:TAt w t T) {i:Int} {R:KV} (k:R (.int .u64 (keyOf T i)) w):Zs 116 #[zA t,.int .i64 i] w R:=by
 unfold keyOf at k
 by_cases hi:0<=i/\i < 8
 ·rw[if_pos hi]at k
  obtain⟨n,rfl⟩:=Int.eq_ofNat_of_zero_le hi.1
  exact Key_c h (by omega) k
 ·rw[if_neg hi]at k
  apply q102W
  exact host0_c ⟨_,rfl,cond_t (by rw[decide_eq_false hi];rfl) k⟩
theorem Holder_c (h:TAt w t T) {R:KV} (k:∀w',Grow w w'->R (.tuple #[.int .i64 T.hd,.int .i64 T.ty]) w'):Zs 114 #[zA t] w R:=by
 apply q101W
 refine nm λw0 e0=>?_
 have h0:=h.grow (drE e0)
 exact withAddr_some ⟨_,h0.at8,withAddr_some ⟨_,h0.at9,nm λw5 e5=>k _ (drE e5)⟩⟩
def regT (T:Tb) (h:Nat) (new:Int):Tb:=
 let T1:Tb:={T with gn:=IntKind.wrap .u32 (T.gn+1)}
 let T2:Tb:=if new=0/\T.hd=(h:Int)then{T1 with hd:= -1,ty:=0} else T1
 {T2 with keys:=T2.keys.set h new}
theorem drop_c (h:TAt w t T) (hr:regsB T=false) {i:Int} {R:KV} (k:∀w',Turn t w w'->TAt w' t {T with hd:= -1,ty:=0}->R nilV w'):Zs 154 #[zA t,.int .i64 i] w R:=by
 apply q106W
 refine JoinP.go (regs_c h ⟨_,rfl,cond_f hr ?_⟩)
 refine withAddr_some ⟨h.st (by omega),nm λw3 e3=>?_⟩
 obtain⟨h3,t3⟩:=h.set8 e3
 refine withAddr_some ⟨h3.st (by omega),nm λw5 e5=>?_⟩
 obtain⟨h5,t5⟩:=h3.set9 e5
 exact k _ (t3.then t5) h5
theorem Register_c (h:TAt w t T) {i:Nat} (hi:i < 8) {key new:Int} (hr:new=0->T.hd=(i:Int)->regsB T=false) {R:KV}
 (k:∀w',Only t w w'->TAt w' t (regT T i new)->R (.tuple #[.agg (rRep 0 0 0 nilV 0),nilV]) w'):
 Zs 106 #[zA t,.int .i64 (i:Int),.int .u64 key,.int .u64 new,.bool true] w R:=by
 apply q104W
 have hlt:=h.b.lt
 refine nm λw0 e0=>?_
 obtain⟨b0,g0,_⟩:=alE e0
 have h0:=h.grow g0
 have m0:Md (λk=>k=t) w.heap.size w w0:=(Md.refl _ _ _).grow g0
 refine rhost_c hi ⟨_,rfl,cond_f rfl (JoinP.go (cond_f rfl (cond_f rfl ?_)))⟩
 refine withAddr_some ⟨_,h0.at10,withAddr_some ⟨h0.st (by omega),nm λw35 e35=>?_⟩⟩
 obtain⟨h35,t35⟩:=h0.set10 e35
 have m35:=m0.turn t35 (.inl rfl)
 have b35:=b0.turn t35 (by omega)
 refine JoinP.val (λv w'=>v=nilV/\Turn t w35 w'/\TAt w' t (if new=0/\T.hd=(i:Int)then{T with gn:=IntKind.wrap .u32 (T.gn+1),hd:= -1,ty:=0} else{T with gn:=IntKind.wrap .u32 (T.gn+1)})) (λj hj=>?_) ?_
 ·refine JoinP.bool (λb w'=>b=decide (new=0/\T.hd=(i:Int))/\w'=w35) (λj2 hj2=>cond_intro (λh1=>withAddr_some ⟨_,h35.at8,hj2 _ _ ⟨?_,rfl⟩⟩) (λh1=>hj2 _ _ ⟨?_,rfl⟩)) ?_
  ·simp at h1
   rw[Bool.eq_iff_iff];simp [h1]
  ·simp at h1;simp [h1]
  ·rintro b w' ⟨rfl,rfl⟩
   refine cond_intro (λh1=>?_) (λh1=>?_)
   ·have h1':=of_decide_eq_true h1
    refine drop_c h35 (hr h1'.1 h1'.2) λw57 t57 h57=>hj _ _ ⟨rfl,t57,?_⟩
    rw[if_pos h1'];exact h57
   ·have h1':=of_decide_eq_false h1
    refine hj _ _ ⟨rfl,⟨rfl,rfl,rfl,rfl,λ_ _=>rfl⟩,?_⟩
    rw[if_neg h1'];exact h35
 ·rintro v w37 ⟨rfl,t37,h37⟩
  have m37:=m35.turn t37 (.inl rfl)
  have b37:=b35.turn t37 (by omega)
  refine withAddr_some ⟨⟨by omega,by omega⟩,by rw[adk];exact h37.st (by omega),?_⟩
  rw[adk]
  refine nm λw39 e39=>?_
  obtain⟨h39,t39⟩:=h37.setKey hi e39
  have m39:=m37.turn t39 (.inl rfl)
  have b39:=b37.turn t39 (by omega)
  refine good_c λw41 g41=>⟨_,_,_,_,_,rfl,ret5 (b39.grow g41) rfl rfl λw47 _ t47=>?_⟩
  have m47:=(m39.grow g41).turn t47 (.inr (Nat.le_refl _))
  refine k _ m47.out ?_
  have h41:=h39.grow g41
  have:regT T i new={(if new=0/\T.hd=(i:Int)then({T with gn:=IntKind.wrap .u32 (T.gn+1),hd:= -1,ty:=0}:Tb)else{T with gn:=IntKind.wrap .u32 (T.gn+1)})with keys:=(if new=0/\T.hd=(i:Int)then({T with gn:=IntKind.wrap .u32 (T.gn+1),hd:= -1,ty:=0}:Tb)else{T with gn:=IntKind.wrap .u32 (T.gn+1)}).keys.set i new}:=rfl
  rw[this]
  exact⟨(t47.block t (by omega)).trans h41.b,h41.len⟩
def mayB (T:Tb) (h:Nat) (key:Int):Bool:= !(T.keys.getD h 0==0||T.keys.getD h 0 !=key)
theorem may_c (h:TAt w t T) {i:Nat} (hi:i < 8) {key:Int} {R:KV}
 (k:∀w',Grow w w'->R (.tuple #[.agg (bif mayB T i key then rRep 0 0 0 nilV 0 else rRep 24 0 0 nilV 0),.bool (mayB T i key)]) w'):
 Zs 156 #[zA t,.int .i64 (i:Int),.int .u64 key] w R:=by
 apply q107W
 refine nm λw0 e0=>?_
 obtain⟨b0,g0,_⟩:=alE e0
 have h0:=h.grow g0
 refine rhost_c hi ⟨_,rfl,cond_f rfl ?_⟩
 refine JoinP.bool (λb w'=>b=!mayB T i key/\w'=w0) (λj hj=>withAddr_some ⟨⟨by omega,by omega⟩,_,h0.keyI hi,cond_intro (λh1=>hj _ _ ⟨?_,rfl⟩) (λh1=>withAddr_some ⟨⟨by omega,by omega⟩,_,h0.keyI hi,hj _ _ ⟨?_,rfl⟩⟩)⟩) ?_
 ·rw[mayB,Bool.not_not,h1];rfl
 ·rw[mayB,Bool.not_not,h1];rfl
 ·rintro b w' ⟨rfl,rfl⟩
  refine cond_intro (λh1=>?_) (λh1=>?_)
  ·have h1':mayB T i key=false:=by simpa using h1
   rw[h1']at k
   exact conflict_c λw2 g2=>⟨_,_,_,_,_,rfl,ret5 (b0.grow g2) rfl rfl λw3 _ t3=>k _ (Below.turn (g0.then g2) t3 (Nat.le_refl _))⟩
  ·have h1':mayB T i key=true:=by simpa using h1
   rw[h1']at k
   exact good_c λw2 g2=>⟨_,_,_,_,_,rfl,ret5 (b0.grow g2) rfl rfl λw3 _ t3=>k _ (Below.turn (g0.then g2) t3 (Nat.le_refl _))⟩
def resT (T:Tb) (h:Nat) (key typ:Int):(Int×Int×Int)×Tb:=
 if mayB T h key=false then((24,0,0),T)
 else if typedB typ=false then((2,5,9216),T)
 else if T.hd= -1 then((0,0,0),{T with hd:=(h:Int),ty:=typ})
 else if T.hd=(h:Int)/\T.ty=typ then((0,0,0),T)
 else((24,0,0),T)
theorem Reserve_c (h:TAt w t T) {i:Nat} (hi:i < 8) {key typ:Int} {R:KV}
 (k:∀w',Only t w w'->TAt w' t (resT T i key typ).2->R (.agg (rRep (resT T i key typ).1.1 (resT T i key typ).1.2.1 (resT T i key typ).1.2.2 nilV 0)) w'):
 Zs 107 #[zA t,.int .i64 (i:Int),.int .u64 key,.int .i64 typ] w R:=by
 apply q105W
 have hlt:=h.b.lt
 unfold resT at k
 refine nm λw0 e0=>?_
 obtain⟨b0,g0,_⟩:=alE e0
 have h0:=h.grow g0
 refine may_c h0 hi λw2 g2=>?_
 have g02:=g0.then g2
 have b2:=b0.grow g2
 have h2:=h0.grow g2
 have hb2:=b2.lt
 have fin:∀{w3:World} {T':Tb} {x0 x1 x2:Int},Md (λk=>k=t) w.heap.size w w3->BK w3 w.heap.size (rRep 0 0 0 nilV 0) tRep->TAt w3 t T'->(∀w',Only t w w'->TAt w' t T'->R (.agg (rRep x0 x1 x2 nilV 0)) w')->
  (StRow w3 ⟨w.heap.size,0,none⟩ #[.int .i64 x0,.int .i64 x1,.int .i64 x2,nilV,.int .i64 0])/\
  bindW (stRow w3 ⟨w.heap.size,0,none⟩ #[.int .i64 x0,.int .i64 x1,.int .i64 x2,nilV,.int .i64 0]) λw'=>
  ∃(n0:Int) (n1:Int) (n2:Int) (v3:Value) (n4:Int),(ldCells w' ⟨w.heap.size,0,none⟩ 5 #[.int .i64 n0,.int .i64 n1,.int .i64 n2,v3,.int .i64 n4])/\R (.agg #[.int .i64 n0,.int .i64 n1,.int .i64 n2,v3,.int .i64 n4]) w':=by
  intro w3 T' x0 x1 x2 m3 b3 h3 k3
  refine ret5 b3 rfl rfl λw' _ t'=>k3 w' (m3.turn t' (.inr (Nat.le_refl _))).out ⟨(t'.block t (by omega)).trans h3.b,h3.len⟩
 have m2:Md (λk=>k=t) w.heap.size w w2:=(Md.refl _ _ _).grow g02
 cases hm:mayB T i key with
 |false=>
  rw[hm,if_pos rfl]at k
  refine⟨_,_,_,_,_,_,rfl,nm λw9 e9=>?_⟩
  obtain⟨b9,g9,_⟩:=alE e9
  refine⟨b9.row rfl rfl,nm λw10 e10=>?_⟩
  obtain⟨b10,t10⟩:=rowE b9 e10 rfl
  have b10':=(b2.grow g9).turn t10 (by omega)
  have h9:=h2.grow g9
  have h10:TAt w10 t T:=⟨(t10.block t (by omega)).trans h9.b,h9.len⟩
  exact cond_t rfl ⟨_,_,_,_,_,b10.ld rfl,fin ((m2.grow g9).turn t10 (.inr (by omega))) b10' h10 k⟩
 |true=>
  rw[hm,if_neg (by simp)]at k
  refine⟨_,_,_,_,_,_,rfl,nm λw9 e9=>?_⟩
  obtain⟨b9,g9,_⟩:=alE e9
  refine⟨b9.row rfl rfl,nm λw10 e10=>?_⟩
  obtain⟨b10,t10⟩:=rowE b9 e10 rfl
  have b10':=(b2.grow g9).turn t10 (by omega)
  have h9:=h2.grow g9
  have h10:TAt w10 t T:=⟨(t10.block t (by omega)).trans h9.b,h9.len⟩
  have m10:=(m2.grow g9).turn t10 (.inr (by omega))
  refine cond_f rfl (typed_c ⟨_,rfl,?_⟩)
  cases hty:typedB typ with
  |false=>
   rw[hty,if_pos rfl]at k
   exact cond_t rfl (field_c λw26 g26=>⟨_,_,_,_,_,rfl,fin (m10.grow g26) (b10'.grow g26) (h10.grow g26) k⟩)
  |true=>
   rw[hty,if_neg (by simp)]at k
   refine cond_f rfl (withAddr_some ⟨_,h10.at8,cond_intro (λh1=>?_) (λh1=>?_)⟩)
   ·have h1':T.hd= -1:=by simpa using h1
    rw[if_pos h1']at k
    refine withAddr_some ⟨h10.st (by omega),nm λw41 e41=>?_⟩
    obtain⟨h41,t41⟩:=h10.set8 e41
    refine withAddr_some ⟨h41.st (by omega),nm λw43 e43=>?_⟩
    obtain⟨h43,t43⟩:=h41.set9 e43
    exact good_c λw45 g45=>⟨_,_,_,_,_,rfl,fin (((m10.turn t41 (.inl rfl)).turn t43 (.inl rfl)).grow g45) (((b10'.turn t41 (by omega)).turn t43 (by omega)).grow g45) (h43.grow g45) k⟩
   ·have h1':T.hd≠ -1:=by simpa using h1
    rw[if_neg h1']at k
    refine JoinP.bool (λb w'=>b=decide (T.hd=(i:Int)/\T.ty=typ)/\w'=w10) (λj hj=>withAddr_some ⟨_,h10.at8,cond_intro (λh2=>withAddr_some ⟨_,h10.at9,hj _ _ ⟨?_,rfl⟩⟩) (λh2=>hj _ _ ⟨?_,rfl⟩)⟩) ?_
    ·have:T.hd=(i:Int):=by simpa using h2
     rw[Bool.eq_iff_iff];simp [this]
    ·have:¬T.hd=(i:Int):=by simpa using h2
     simp [this]
    ·rintro b w' ⟨rfl,rfl⟩
     refine cond_intro (λh2=>?_) (λh2=>?_)
     ·rw[if_pos (of_decide_eq_true h2)]at k
      exact good_c λw26 g26=>⟨_,_,_,_,_,rfl,fin (m10.grow g26) (b10'.grow g26) (h10.grow g26) k⟩
     ·rw[if_neg (of_decide_eq_false h2)]at k
      exact conflict_c λw26 g26=>⟨_,_,_,_,_,rfl,fin (m10.grow g26) (b10'.grow g26) (h10.grow g26) k⟩
end
section
open CW RowKit
variable {w:World} {t:Nat} {T:Tb}
abbrev tA8:TypeId:=135
theorem idx8 {i:Nat} (hi:i < 8) (n0 n1 n2 n3 n4 n5 n6 n7:Int):Sem.run Tryz.prog (Instr.index tA8 (.agg #[.int .u64 n0,.int .u64 n1,.int .u64 n2,.int .u64 n3,.int .u64 n4,.int .u64 n5,.int .u64 n6,.int .u64 n7]) (.int .i64 (i:Int))) w= .ok (.int .u64 ([n0,n1,n2,n3,n4,n5,n6,n7].getD i 0)) w:=by
 have hu:Tryz.prog.underlying tA8=some (.array 8 38):=by kernel_rfl
 have hs:(sizeOf 38).run Tryz.prog w= .ok 1 w:=run_sizeOf' (by kernel_rfl)
 have ha:aggB Tryz.prog 38=false:=by kernel_rfl
 have h0:(0:Int)<=(i:Int)/\(i:Int) < 8:=by omega
 have:i=0\/i=1\/i=2\/i=3\/i=4\/i=5\/i=6\/i=7:=by omega
 rcases this with rfl|rfl|rfl|rfl|rfl|rfl|rfl|rfl<;>simp [Instr.index,asIntOf,run_underlying hu,hs,Go.part,run_isAgg,ha]
theorem keys8 (h:T.keys.length=8):∃n0 n1 n2 n3 n4 n5 n6 n7,T.keys=[n0,n1,n2,n3,n4,n5,n6,n7]:=by
 match hk:T.keys,h with
 |[a,b,c,d,e,f,g,i],_=>exact⟨a,b,c,d,e,f,g,i,rfl⟩
theorem TAt.ld8 (h:TAt w t T) {n0 n1 n2 n3 n4 n5 n6 n7:Int} (hk:T.keys=[n0,n1,n2,n3,n4,n5,n6,n7]):
 ldCells w (Addr.add ⟨t,0,none⟩ 0) 8 #[.int .u64 n0,.int .u64 n1,.int .u64 n2,.int .u64 n3,.int .u64 n4,.int .u64 n5,.int .u64 n6,.int .u64 n7]:=by
 refine⟨rfl,λi hi=>?_⟩
 rw[add_zero,h.key hi,hk]
 have:i=0\/i=1\/i=2\/i=3\/i=4\/i=5\/i=6\/i=7:=by omega
 rcases this with rfl|rfl|rfl|rfl|rfl|rfl|rfl|rfl<;>rfl
abbrev EU:=Lst.EU
def someK (l:List Int):List Int:=l.filter (λk=>k !=0)
theorem clip132_c {v:Value} {L:List Int} {R:KV} (hd:RdR EU w v L) (k:∀v',RdR EU w v' L->v'.ownBlock=v.ownBlock->R v' w):Zs 161 #[v] w R:=by
 apply q121W
 have hle:=hd.le
 refine⟨_,hd.len,_,hd.len,?_⟩
 obtain⟨v',h1,h2,h3⟩:∃v',subSlice v 1 none (some (.int .i64 ((L.length:Nat):Int))) (some (.int .i64 ((L.length:Nat):Int)))=some v'/\RdR EU w v' L/\v'.ownBlock=v.ownBlock:=by
  obtain⟨a,cap,rfl,q1,q2,q3,q4⟩:=hd
  have h0:(0:Int)<=(L.length:Int):=by omega
  have e:(L.length:Int)<=cap:=by omega
  refine⟨.slice a L.length L.length,?_,⟨a,L.length,rfl,Nat.le_refl _,by omega,λhh=>by have:=q3 hh;omega,q4⟩,by cases a<;>rfl⟩
  simp only[subSlice,boundsOf,boundOf,h0,e,and_self,if_true,Int.toNat_natCast,Int.le_refl,Nat.sub_zero,Nat.zero_mul]
  cases a with
  |none=>
   have:=q3 rfl
   split<;>simp
  |some a=>split<;>simp [add_zero]
 exact⟨v',h1,k v' h2 h3⟩
theorem Keys_c (h:TAt w t T) {R:KV} (k:∀v w',Grow w w'->RdR EU w' v (someK T.keys)->NewV w v->R v w'):Zs 113 #[zA t] w R:=by
 apply q103W
 obtain⟨n0,n1,n2,n3,n4,n5,n6,n7,hk⟩:=keys8 h.len
 refine withAddr_some ⟨_,_,_,_,_,_,_,_,h.ld8 hk,?_⟩
 refine⟨λ(v:Value) (n:Int) (w':World)=>∃i:Nat,n=(i:Int)/\i<=8/\Grow w w'/\OwnR EU w' w.heap.size Lst.tU v (someK (T.keys.take i)),λ(_:Value) (n:Int) (_:World)=>((8:Int) - n).toNat,
  ⟨0,rfl,by omega,Grow.refl _,OwnR.nil _ _ _⟩,?_⟩
 dsimp only[allR,mapR2,eqN,ltN]
 rintro m v n w' ⟨⟨i,rfl,hi,g,ho⟩,hm⟩
 have hl:=h.len
 refine cond_intro (λhc=>?_) (λhc=>?_)
 ·have hlt:i < 8:=by simp at hc;omega
  have htk:T.keys.take (i+1)=T.keys.take i++[T.keys.getD i 0]:=by
   rw[List.take_add_one,List.getD_eq_getElem?_getD,List.getElem?_eq_getElem (by omega)];rfl
  refine JoinP.val (λv' w''=>Grow w w''/\OwnR EU w'' w.heap.size Lst.tU v' (someK (T.keys.take (i+1)))) (λj hj=>?_) ?_
  ·have hx:=idx8 (w:=w') hlt n0 n1 n2 n3 n4 n5 n6 n7
   rw[←hk]at hx
   refine⟨_,hx,cond_intro (λhz=>?_) (λhz=>?_)⟩
   ·refine nm λw17 e17=>?_
    obtain⟨bk,gr,sz⟩:=alE e17
    have hrd:RdR EU w17 (.slice (some ⟨w'.heap.size,0,none⟩) 1 1) [T.keys.getD i 0]:=by
     refine⟨some ⟨w'.heap.size,0,none⟩,1,rfl,Nat.le_refl _,by simp [maxLen],(λe=>by cases e),λj u hj=>⟨_,rfl,?_⟩⟩
     rw[bk.cell]
     simpa[Enc.flat,Lst.EU]using hj
    have hlen:(someK (T.keys.take i)).length<=8:=by
     have h1:=List.length_filter_le (λk:Int=>k !=0) (T.keys.take i)
     rw[List.length_take]at h1
     show(List.filter _ _).length<=8
     omega
    obtain⟨v18,w19,hrun,ho19,hnext⟩:=app_ownR Lst.tyU (ho.grow gr) hrd (by simp only[List.length_cons,List.length_nil];omega) (Nat.le_trans g.size gr.size)
    refine⟨v18,w19,hrun,hj _ _ ⟨(g.then gr).trans (hnext.below (Nat.le_trans g.size gr.size) (λq hq=>(ho.lt q hq).1)),?_⟩⟩
    rw[htk]
    have:someK (T.keys.take i++[T.keys.getD i 0])=someK (T.keys.take i)++[T.keys.getD i 0]:=by
     unfold someK
     rw[List.filter_append,List.filter_cons,if_pos hz];rfl
    rw[this];exact ho19
   ·refine hj _ _ ⟨g,?_⟩
    rw[htk]
    have:someK (T.keys.take i++[T.keys.getD i 0])=someK (T.keys.take i):=by
     unfold someK
     rw[List.filter_append,List.filter_cons,if_neg (by rw[hz];simp)];simp
    rw[this];exact ho
  ·rintro v' w'' ⟨g2,ho2⟩
   rw[wi64_id (by omega) (by omega)]
   exact⟨⟨i+1,by omega,by omega,g2,ho2⟩,by omega⟩
 ·have he:i=8:=by simp at hc;omega
  subst he
  rw[List.take_of_length_le (by omega)]at ho
  refine clip132_c ho.rd λv' hr hb=>k v' w' g hr (λq hq=>(ho.lt q (hb▸hq)).1)
end
section
open CW RowKit
structure Rp where
 st:Int
 key:Int
 code:Int
 d:List UInt8
 info:Int
structure Cm where
 kind:Int
 pos:Nat
 n:Nat
 key:Int
 new:Int
 typ:Int
 force:Bool
 d:List UInt8
abbrev tCmd:TypeId:=40
abbrev rCmd (c:Cm) (d:Value):Array Value:= #[.int .i64 c.kind,.int .i64 (c.pos:Int),.int .i64 (c.n:Int),d,.int .u64 c.key,.int .u64 c.new,.int .i64 c.typ,.bool c.force]
def goodR (d:List UInt8):Rp:=⟨0,0,0,d,0⟩
def wrongR (key code:Int):Rp:=⟨2,key,code,[],0⟩
def RpAt (w w':World) (v:Value) (r:Rp):Prop:=∃dv,v= .agg (rRep r.st r.key r.code dv r.info)/\RdB w' dv r.d/\NewV w dv
def dif (xs ys:List UInt8):Option Nat:=(List.range xs.length).find? λi=>xs.getD i 0 !=ys.getD i 0
theorem sRead_c {w:World} {b g1 g2 N:Nat} {D M:List UInt8} (h:SpAt w b g1 g2 N D M) {at_ n:Nat} (hn:n<=32/\at_+n<=N) (ha:at_<=1000000) {R:KV} (k:∀v w',Grow w w'->RdB w' v (part D (at_,n))->R (.tuple #[v,.int .i64 (0:Int)]) w'):
 Zs 148 #[zA b,.int .i64 (at_:Int),.int .i64 (n:Int)] w R:=by
 apply q140W
 refine In_c h ha ⟨_,rfl,cond_f (by rw[decide_eq_true hn];rfl) (part_c h hn.2 ?_)⟩
 refine slices_Clone_c (part_rd h hn.2) ?_ λv5 w6 g6 o6=>slices_Clip_c o6.rd λv7 r7 n7=>k _ _ g6 r7
 simp;omega
theorem dif_some {xs ys:List UInt8} {i:Nat} (hi:i < xs.length) (hd:xs.getD i 0≠ys.getD i 0) (hb:∀j,j < i->xs.getD j 0=ys.getD j 0):dif xs ys=some i:=by
 unfold dif
 rw[List.find?_range_eq_some]
 exact⟨by simpa using hd,by simpa using hi,λj hj=>by simpa using hb j hj⟩
theorem dif_none {xs ys:List UInt8} (hb:∀j,j < xs.length->xs.getD j 0=ys.getD j 0):dif xs ys=none:=by
 unfold dif
 rw[List.find?_eq_none]
 intro j hj
 have:=hb j (by simpa using hj)
 simp only[List.getD_eq_getElem?_getD]at this ⊢
 simp [this]
theorem sCompare_c {w:World} {b g1 g2 N:Nat} {D M:List UInt8} (h:SpAt w b g1 g2 N D M) {at_ n:Nat} (hn:n<=32/\at_+n<=N) (ha:at_<=1000000) {v:Value} {bs:List UInt8} (hv:RdB w v bs) (hl:bs.length=16*n) {R:KV}
 (k1:∀i,dif (part D (at_,n)) bs=some i->R (.tuple #[.int .i64 (i:Int),.int .i64 (0:Int)]) w)
 (k2:dif (part D (at_,n)) bs=none->∀w',Step (FSp g1 g2) w w' (FSp g1 g2)->SpAt w' b g1 g2 N (layB D (8*at_) (bs.drop (8*n))) (turnM M at_ n true)->R (.tuple #[.int .i64 (-1:Int),.int .i64 (0:Int)]) w'):
 Zs 151 #[zA b,.int .i64 (at_:Int),v] w R:=by
 apply q138W
 have hN:=h.most
 have hlen:=RdB.len hv
 have hp:(part D (at_,n)).length=8*n:=part_length h.hD hn.2
 have e1:IntKind.wrap .i64 (Int.tdiv (IntKind.wrap .i64 (Int.tdiv ((bs.length:Nat):Int) (8:Int))) (2:Int))=(n:Int):=by
  have a1:Int.tdiv ((bs.length:Nat):Int) (8:Int)=((2*n:Nat):Int):=by rw[Int.tdiv_eq_ediv_of_nonneg (by omega)];omega
  have a2:Int.tdiv ((2*n:Nat):Int) (2:Int)=(n:Int):=by rw[Int.tdiv_eq_ediv_of_nonneg (by omega)];omega
  rw[a1,wi64_id (n:=((2*n:Nat):Int)) (by omega) (by omega),a2,wi64_id (by omega) (by omega)]
 refine⟨_,hlen,?_⟩
 rw[e1]
 refine JoinP.bool (λq w'=>q=false/\w'=w) (λj hj=>⟨_,hlen,cond_f ?_ (In_c h ha ⟨_,rfl,hj _ _ ⟨by rw[decide_eq_true hn];rfl,rfl⟩⟩)⟩) ?_
 ·rw[Int.tmod_eq_emod_of_nonneg (by omega)]
  have:((bs.length:Nat):Int) % 16=0:=by omega
  rw[this];rfl
 rintro q w' ⟨rfl,rfl⟩
 have hrd:=part_rd h hn.2
 have hrd':RdB w' (partV g1 N at_ n) (part D (at_,n)):=hrd
 refine cond_f rfl (part_c h hn.2 ⟨_,RdB.len hrd',?_⟩)
 rw[hp]
 refine⟨λ(m:Int) (w2:World)=>∃i:Nat,m=(i:Int)/\i<=8*n/\w2=w'/\∀j,j < i->(part D (at_,n)).getD j 0=bs.getD j 0,λ(m:Int) (_:World)=>((8*n:Nat) - m).toNat,⟨0,rfl,by omega,rfl,λj hj=>by omega⟩,?_⟩
 dsimp only[allR,mapR2,eqN,ltN]
 rintro m n7 w2 ⟨⟨i,rfl,hi,rfl,hb⟩,hm⟩
 refine cond_intro (λhc=>?_) (λhc=>?_)
 ·have hlt:i < 8*n:=by simp at hc;omega
  obtain⟨a1,ha1,hc1⟩:=RdB.at hrd' (i:=(i:Int)) (by omega) (by omega)
  obtain⟨a2,ha2,hc2⟩:=RdB.at hv (i:=(i:Int)) (by omega) (by omega)
  have x1:(part D (at_,n))[(i:Int).toNat]'(by omega)=(part D (at_,n)).getD i 0:=by simp [List.getD_eq_getElem?_getD,List.getElem?_eq_getElem (show i < (part D (at_,n)).length by omega)]
  have x2:bs[(i:Int).toNat]'(by omega)=bs.getD i 0:=by simp [List.getD_eq_getElem?_getD,List.getElem?_eq_getElem (show i < bs.length by omega)]
  rw[x1]at hc1
  rw[x2]at hc2
  refine⟨a1,ha1,_,hc1,a2,ha2,_,hc2,cond_intro (λhd=>?_) (λhd=>?_)⟩
  ·refine k1 i (dif_some (by omega) (λe=>?_) hb)
   rw[e]at hd;simp at hd
  ·rw[wi64_id (by omega) (by omega)]
   refine⟨⟨i+1,by omega,by omega,rfl,λj hj=>?_⟩,by omega⟩
   rcases Nat.lt_or_ge j i with h1|h1
   ·exact hb j h1
   ·have:j=i:=by omega
    subst this
    have hd':((part D (at_,n)).getD j 0).toNat=(bs.getD j 0).toNat:=by
     generalize (part D (at_,n)).getD j 0=x at *
     generalize bs.getD j 0=y at *
     simp at hd;omega
    exact UInt8.toNat_inj.1 hd'
 ·have hge:i=8*n:=by simp at hc;omega
  subst hge
  rw[wi64_id (n:=(n:Int)*8) (by omega) (by omega)]
  obtain⟨v13,hs13,hr13⟩:=RdB.from (n:=8*n) hv (by omega)
  refine⟨v13,by rw[←hs13];congr 3;congr 1;omega,?_⟩
  exact write_c (n:=n) h hr13 (by rw[List.length_drop];omega) ha (λhbad=>absurd hn hbad) λ_ _ w15 st sp=>⟨_,rfl,k2 (dif_none (λj hj=>hb j (by omega))) _ st sp⟩
abbrev tUn:TypeId:=97
def EG:Enc (Int×Option Nat):=⟨3,λg=>[nilV,.int .u64 g.1,.map g.2],λ_=>rfl,by omega,λ_=>rfl⟩
def rU (b t:Nat) (G:List (Int×Option Nat)):Array Value:=([Value.pointer (some ⟨b,0,none⟩),Value.pointer (some ⟨t,0,none⟩)]++EG.flat G).toArray
structure Un where
 N:Nat
 D:List UInt8
 M:List UInt8
 T:Tb
structure UAt (w:World) (u b t g1 g2:Nat) (G:List (Int×Option Nat)) (U:Un):Prop where
 o:BK w u (rU b t G) tUn
 gl:G.length=8
 sp:SpAt w b g1 g2 U.N U.D U.M
 tb:TAt w t U.T
 gn:0<=U.T.gn/\U.T.gn < 4294967296
 ty:Fits .i64 U.T.ty
abbrev FU (t g1 g2:Nat):Fp:=λk=>k=t\/k=g1\/k=g2
variable {w:World} {u b t g1 g2:Nat} {G:List (Int×Option Nat)} {U:Un}
theorem bk_ne {w:World} {g g':Nat} {cs cs':Array Value} {e e':TypeId} (b:BK w g cs e) (b':BK w g' cs' e') (hne:e≠e'):g≠g':=by
 intro h
 subst h
 unfold BK at b b'
 rw[b]at b'
 injection b' with b'
 injection b' with _ b'
 exact hne b'
theorem UAt.grow {w':World} (h:UAt w u b t g1 g2 G U) (g:Grow w w'):UAt w' u b t g1 g2 G U:=⟨h.o.grow g,h.gl,h.sp.grow g,h.tb.grow g,h.gn,h.ty⟩
theorem UAt.c0 (h:UAt w u b t g1 g2 G U):w.cell? (Addr.add ⟨u,0,none⟩ 0)=some (zA b):=by rw[h.o.cell];rfl
theorem UAt.c1 (h:UAt w u b t g1 g2 G U):w.cell? (Addr.add ⟨u,0,none⟩ 1)=some (zA t):=by rw[h.o.cell];rfl
theorem UAt.codes (h:UAt w u b t g1 g2 G U) {i:Nat} (hi:i < 8):w.cell? (Addr.add (Addr.add (Addr.add ⟨u,0,none⟩ 2) (Int.toNat (i:Int)*3)) 0)=some nilV:=by
 rw[add_zero,add_add,h.o.cell]
 have hl:=h.gl
 simp only[rU,List.getElem?_toArray,Int.toNat_natCast]
 rw[List.getElem?_append_right (by simp)]
 have:=Enc.flat_at (E:=EG) G i (by omega) 0 (by show 0 < 3;omega)
 have e:(2+i*3) - [Value.pointer (some ⟨b,0,none⟩),Value.pointer (some ⟨t,0,none⟩)].length=i*EG.s+0:=by
  show 2+i*3 - 2=i*3+0;omega
 rw[e,this];rfl
theorem UAt.space {w':World} {D M:List UInt8} (h:UAt w u b t g1 g2 G U) (st:Step (FSp g1 g2) w w' (FSp g1 g2)) (sp:SpAt w' b g1 g2 U.N D M):UAt w' u b t g1 g2 G {U with D:=D,M:=M}:=by
 have n1:=bk_ne h.o h.sp.dat (by decide)
 have n2:=bk_ne h.o h.sp.map (by decide)
 have n3:=bk_ne h.tb.b h.sp.dat (by decide)
 have n4:=bk_ne h.tb.b h.sp.map (by decide)
 exact⟨(st.block u h.o.lt (λhh=>hh.elim n1 n2)).trans h.o,h.gl,sp,⟨(st.block t h.tb.b.lt (λhh=>hh.elim n3 n4)).trans h.tb.b,h.tb.len⟩,h.gn,h.ty⟩
theorem UAt.table {w':World} {T:Tb} (h:UAt w u b t g1 g2 G U) (st:Only t w w') (tb:TAt w' t T) (hg:0<=T.gn/\T.gn < 4294967296) (hy:Fits .i64 T.ty):UAt w' u b t g1 g2 G {U with T:=T}:=by
 have n0:=bk_ne h.o h.tb.b (by decide)
 have n1:=bk_ne h.sp.obj h.tb.b (by decide)
 have n2:=bk_ne h.sp.dat h.tb.b (by decide)
 have n3:=bk_ne h.sp.map h.tb.b (by decide)
 exact⟨(st.block u h.o.lt n0).trans h.o,h.gl,h.sp.step st n1 n2 n3,tb,hg,hy⟩
theorem told_c (h:UAt w u b t g1 g2 G U) {i:Nat} (hi:i < 8) {R:KV} (k:∀w',Grow w w'->R (.tuple #[.agg (rRep 0 0 0 nilV 0),.bool false]) w'):Zs 66 #[zA u,.int .i64 (i:Int)] w R:=by
 apply q83W
 refine nm λw0 e0=>?_
 obtain⟨b0,g0,_⟩:=alE e0
 refine withAddr_some ⟨⟨by omega,by omega⟩,_,(h.grow g0).codes hi,_,rfl,cond_t rfl ?_⟩
 exact ret5 b0 rfl rfl λw' _ t'=>k _ (Below.turn g0 t' (Nat.le_refl _))
theorem noticed_c {p:Option Addr} {x0 x1 x2 x4:Int} {x3:Value} (ho:isOne x3=true) {R:KV} (k:∀w',Grow w w'->R (.agg (rRep x0 x1 x2 x3 x4)) w'):Zs 105 #[.pointer p,.agg (rRep x0 x1 x2 x3 x4),nilV] w R:=by
 apply q81W
 refine nm λw0 e0=>?_
 obtain⟨b0,g0,_⟩:=alE e0
 refine nm λw1 e1=>?_
 obtain⟨b1,g1,_⟩:=alE e1
 refine⟨_,rfl,?_⟩
 refine⟨λ(n:Int) (w':World)=>n=0/\w'=w1,λ(n:Int) (_:World)=>0,⟨rfl,rfl⟩,?_⟩
 dsimp only[allR,mapR2,eqN,ltN]
 rintro m n w' ⟨⟨rfl,rfl⟩,hm⟩
 refine cond_f rfl ⟨_,_,_,_,_,(b0.grow g1).ld rfl,ret5 b1 rfl ho λw2 _ t2=>k _ (Below.turn (g0.then g1) t2 g0.size)⟩
theorem lhost_c {i:Nat} (hh:i < 8) {R:KV} (k:R (.bool true) w):Zs 64 #[.int .i64 (i:Int)] w R:=by
 apply q84W
 refine JoinP.go (cond_intro (λ_=>?_) (λhc=>by simp at hc))
 have:decide ((i:Int) < (8:Int))=true:=by simp;omega
 rw[this];exact k
def runU (U:Un) (c:Cm):Rp×Un:=
 if ¬(c.n<=32/\c.pos+c.n<=U.N)then(wrongR 5 8448,U)
 else if c.kind=2 then(goodR (part U.D (c.pos,c.n)),U)
 else if c.kind=3 then
  if c.d.length≠8*c.n then(wrongR 5 9216,U)else(goodR [],{U with D:=layB U.D (8*c.pos) c.d,M:=turnM U.M c.pos c.n true})
 else if c.kind=5 then(goodR [],{U with D:=layB U.D (8*c.pos) (List.replicate (8*c.n) 0),M:=turnM U.M c.pos c.n false})
 else if c.d.length≠16*c.n then(wrongR 5 9216,U)
 else match dif (part U.D (c.pos,c.n)) c.d with
  |some i=>(⟨2,14,7424,[],(i:Int)⟩,U)
  |none=>(goodR [],{U with D:=layB U.D (8*c.pos) (c.d.drop (8*c.n)),M:=turnM U.M c.pos c.n true})
theorem run_c (h:UAt w u b t g1 g2 G U) {c:Cm} {dv:Value} (hd:RdB w dv c.d) (hp:c.pos<=1000000) (hn:c.n<=1000000) (hk:c.kind=2\/c.kind=3\/c.kind=5\/c.kind=6) {R:KV}
 (k:∀v w',Step (FU t g1 g2) w w' (FU t g1 g2)->UAt w' u b t g1 g2 G (runU U c).2->RpAt w w' v (runU U c).1->R v w'):
 Zs 104 #[zA u,.agg (rCmd c dv)] w R:=by
 apply q82W
 have hu:=h.o.lt
 have hblk:FU t g1 g2=FU t g1 g2:=rfl
 have l1:=h.tb.b.lt
 have l2:=h.sp.dat.lt
 have l3:=h.sp.map.lt
 unfold runU at k
 refine nm λw0 e0=>?_
 obtain⟨b0,g0,_⟩:=alE e0
 refine nm λw1 e1=>?_
 obtain⟨b1,g1',s1⟩:=alE e1
 have b01:=b0.grow g1'
 have g01:=g0.then g1'
 have ne01:w.heap.size≠w0.heap.size:=by have:=b0.lt;omega
 have fin:∀{w3:World} {U':Un} {x0 x1 x2 x4:Int} {x3:Value} {ds:List UInt8},Md (FU t g1 g2) w.heap.size w w3->BK w3 w0.heap.size (rRep 0 0 0 nilV 0) tRep->UAt w3 u b t g1 g2 G U'->RdB w3 x3 ds->NewV w1 x3->
  (∀v w',Step (FU t g1 g2) w w' (FU t g1 g2)->UAt w' u b t g1 g2 G U'->RpAt w w' v ⟨x0,x1,x2,ds,x4⟩->R v w')->
  (StRow w3 ⟨w0.heap.size,0,none⟩ #[.int .i64 x0,.int .i64 x1,.int .i64 x2,x3,.int .i64 x4])/\
  bindW (stRow w3 ⟨w0.heap.size,0,none⟩ #[.int .i64 x0,.int .i64 x1,.int .i64 x2,x3,.int .i64 x4]) λw'=>
  ∃(n0:Int) (n1:Int) (n2:Int) (v3:Value) (n4:Int),(ldCells w' ⟨w0.heap.size,0,none⟩ 5 #[.int .i64 n0,.int .i64 n1,.int .i64 n2,v3,.int .i64 n4])/\R (.agg #[.int .i64 n0,.int .i64 n1,.int .i64 n2,v3,.int .i64 n4]) w':=by
  intro w3 U' x0 x1 x2 x4 x3 ds m3 b3 h3 r3 n3 k3
  refine ret5 b3 rfl (Rd.isOne r3) λw' _ t'=>?_
  have n0:∀k,k < w.heap.size->k≠w0.heap.size:=λk hk=>by have:=g0.size;omega
  refine k3 _ w' (m3.turn t' (.inr g0.size)).out ⟨(t'.block u (n0 u hu)).trans h3.o,h3.gl,h3.sp.step (t'.step (S :=λk=>k=w0.heap.size) rfl) (n0 b h.sp.obj.lt) (n0 g1 l2) (n0 g2 l3),⟨(t'.block t (n0 t l1)).trans h3.tb.b,h3.tb.len⟩,h3.gn,h3.ty⟩ ⟨x3,rfl,Rd.turn r3 t' ?_,n3.of g01.size⟩
  intro hx
  have:=n3 _ hx
  omega
 have m1:Md (FU t g1 g2) w.heap.size w w1:=(Md.refl _ _ _).grow g01
 refine nm λw2 e2=>?_
 have gd2:=drE e2
 have h2:=(h.grow g01).grow gd2
 have b02:=b01.grow gd2
 refine withAddr_some ⟨_,h2.c0,_,by rw[b02.cell];rfl,_,by rw[b02.cell];rfl,nm λw7 e7=>?_⟩
 have gd:=drE e7
 have h7:=(h.grow g01).grow gd
 have b07:=b01.grow gd
 have b17:=b1.grow gd
 have m7:=m1.grow gd
 have hd7:=hd.grow (g01.then gd)
 clear e7 e2 gd2 h2 b02
 have n17:w1.heap.size<=w7.heap.size:=gd.size
 refine In_c h7.sp hp ⟨_,rfl,cond_intro (λhin=>?_) (λhin=>?_)⟩
 ·have hin':¬(c.n<=32/\c.pos+c.n<=U.N):=λhc=>by rw[decide_eq_true hc]at hin;cases hin
  rw[if_pos hin']at k
  exact Wrong_c λw12 g12=>⟨_,_,_,_,_,rfl,fin (m7.grow g12) (b17.grow g12) (h7.grow g12) (Rd.nil _) (λq hq=>by cases hq) k⟩
 ·have hin':c.n<=32/\c.pos+c.n<=U.N:=by
   apply Decidable.byContradiction
   intro hc
   rw[decide_eq_false hc]at hin;cases hin
  rw[if_neg (λx=>x hin')]at k
  refine⟨_,by rw[b07.cell];rfl,_,by rw[b07.cell];rfl,?_⟩
  refine JoinP.unit (λw26=>(∃U',Md (FU t g1 g2) w.heap.size w w26/\BK w26 w0.heap.size (rRep 0 0 0 nilV 0) tRep/\UAt w26 u b t g1 g2 G U'/\∀v w',Step (FU t g1 g2) w w' (FU t g1 g2)->UAt w' u b t g1 g2 G U'->RpAt w w' v (goodR [])->R v w')) (λj hj=>?_) ?_
  ·have hS:∀x,FSp g1 g2 x->FU t g1 g2 x\/w.heap.size<=x:=λx hx=>.inl (hx.elim (λe=>.inr (.inl e)) (λe=>.inr (.inr e)))
   have n0:∀k,k < w.heap.size->w0.heap.size≠k:=λk hk=>by have:=g0.size;omega
   have keep:∀{w9 w':World},Step (FSp g1 g2) w9 w' (FSp g1 g2)->BK w9 w0.heap.size (rRep 0 0 0 nilV 0) tRep->BK w' w0.heap.size (rRep 0 0 0 nilV 0) tRep:=λst hb=>hb.stepS st (λhh=>hh.elim (n0 _ l2) (n0 _ l3))
   rcases hk with hk|hk|hk|hk
   ·rw[if_pos hk]at k
    rw[hk]
    refine cond_t rfl (nm λw34 e34=>?_)
    have gd34:=drE e34
    have b034:=b07.grow gd34
    refine withAddr_some ⟨_,(h7.grow gd34).c0,_,by rw[b034.cell];rfl,_,by rw[b034.cell];rfl,nm λw39 e39=>?_⟩
    have gd39:=drE e39
    have h39:=h7.grow gd39
    refine sRead_c h39.sp hin' hp λv w41 g41 r41=>⟨_,_,rfl,Good_c r41 ?_ λv44 w45 g45 r45 n45=>⟨_,_,_,_,_,rfl,?_⟩⟩
    ·have:=part_length (r:=(c.pos,c.n)) h39.sp.hD hin'.2
     rw[this];show 8*c.n<=1000000000;omega
    ·have gg:=(gd39.then g41).then g45
     exact fin (m7.grow gg) (b17.grow gg) (h7.grow gg) r45 (n45.of (Nat.le_trans n17 (gd39.then g41).size)) k
   ·rw[if_neg (by omega),if_pos hk]at k
    rw[hk]
    refine cond_f rfl (cond_t rfl ⟨_,by rw[b07.cell];rfl,_,RdB.len hd7,?_⟩)
    rw[wi64_id (by omega) (by omega)]
    refine cond_intro (λhl=>?_) (λhl=>?_)
    ·have hl':c.d.length≠8*c.n:=by simp at hl;omega
     rw[if_pos hl']at k
     exact Wrong_c λw12 g12=>⟨_,_,_,_,_,rfl,fin (m7.grow g12) (b17.grow g12) (h7.grow g12) (Rd.nil _) (λq hq=>by cases hq) k⟩
    ·have hl':c.d.length=8*c.n:=by simp at hl;omega
     rw[if_neg (λx=>x hl')]at k
     refine nm λw34 e34=>?_
     have gd34:=drE e34
     have b034:=b07.grow gd34
     refine withAddr_some ⟨_,(h7.grow gd34).c0,_,by rw[b034.cell];rfl,_,by rw[b034.cell];rfl,nm λw39 e39=>?_⟩
     have gd39:=drE e39
     have h39:=h7.grow gd39
     refine write_c (n:=c.n) h39.sp (hd7.grow gd39) hl' hp (λhb=>absurd hin' hb) λ_ _ w79 st sp=>⟨_,rfl,hj _ ⟨_,(m7.grow gd39).stp st hS (λx hx=>.inl (hS x (by assumption) |>.elim .inl .inr)),keep st (b17.grow gd39),h39.space st sp,k⟩⟩
   ·rw[if_neg (by omega),if_neg (by omega),if_pos hk]at k
    rw[hk]
    refine cond_f rfl (cond_f rfl (cond_t rfl (nm λw34 e34=>?_)))
    have gd34:=drE e34
    have b034:=b07.grow gd34
    refine withAddr_some ⟨_,(h7.grow gd34).c0,_,by rw[b034.cell];rfl,_,by rw[b034.cell];rfl,nm λw39 e39=>?_⟩
    have gd39:=drE e39
    have h39:=h7.grow gd39
    refine unmap_c (n:=c.n) h39.sp hp (λhb=>absurd hin' hb) λ_ _ w79 st sp=>⟨_,rfl,hj _ ⟨_,(m7.grow gd39).stp st hS (λx hx=>.inl (hS x (by assumption) |>.elim .inl .inr)),keep st (b17.grow gd39),h39.space st sp,k⟩⟩
   ·rw[if_neg (by omega),if_neg (by omega),if_neg (by omega)]at k
    rw[hk]
    refine cond_f rfl (cond_f rfl (cond_f rfl (cond_t rfl ⟨_,by rw[b07.cell];rfl,_,RdB.len hd7,?_⟩)))
    rw[wi64_id (n:=(c.n:Int)*8) (by omega) (by omega),wi64_id (by omega) (by omega)]
    refine cond_intro (λhl=>?_) (λhl=>?_)
    ·have hl':c.d.length≠16*c.n:=by simp at hl;omega
     rw[if_pos hl']at k
     exact Wrong_c λw12 g12=>⟨_,_,_,_,_,rfl,fin (m7.grow g12) (b17.grow g12) (h7.grow g12) (Rd.nil _) (λq hq=>by cases hq) k⟩
    ·have hl':c.d.length=16*c.n:=by simp at hl;omega
     rw[if_neg (λx=>x hl')]at k
     refine nm λw34 e34=>?_
     have gd34:=drE e34
     have b034:=b07.grow gd34
     refine withAddr_some ⟨_,(h7.grow gd34).c0,_,by rw[b034.cell];rfl,_,by rw[b034.cell];rfl,nm λw39 e39=>?_⟩
     have gd39:=drE e39
     have h39:=h7.grow gd39
     refine sCompare_c h39.sp hin' hp (hd7.grow gd39) hl' (λi hi=>?_) (λhi w112 st sp=>?_)
     ·rw[hi]at k
      refine⟨_,_,rfl,cond_t (by simp) ?_⟩
      refine Wrong_c λw116 g116=>⟨_,_,_,_,_,rfl,nm λw122 e122=>?_⟩
      obtain⟨bx,gx,_⟩:=alE e122
      refine⟨bx.row rfl rfl,nm λw123 e123=>?_⟩
      obtain⟨by1,ty1⟩:=rowE bx e123 rfl
      refine⟨st1_at by1 (by show 4 < 5;omega),nm λw124 e124=>?_⟩
      obtain⟨bz,tz⟩:=setE by1 e124
      have gg:Grow w39 w124:=Below.turn (Below.turn (g116.then gx) ty1 g116.size) tz g116.size
      exact⟨_,_,_,_,_,bz.ld rfl,fin ((m7.grow gd39).grow gg) ((b17.grow gd39).grow gg) (h39.grow gg) (Rd.nil _) (λq hq=>by cases hq) k⟩
     ·rw[hi]at k
      exact⟨_,_,rfl,cond_f rfl (hj _ ⟨_,(m7.grow gd39).stp st hS (λx hx=>.inl (hS x (by assumption) |>.elim .inl .inr)),keep st (b17.grow gd39),h39.space st sp,k⟩)⟩
  ·rintro w26 ⟨U',m26,b26,h26,k26⟩
   exact fin m26 b26 h26 (Rd.nil _) (λq hq=>by cases hq) k26
end
section
open CW RowKit
variable {w:World} {u b t g1 g2:Nat} {G:List (Int×Option Nat)} {U:Un}
def actU (U:Un) (h:Nat) (c:Cm):Rp×Un:=
 if c.kind=11 then(goodR [],{U with T:=regT U.T h c.new})
 else if c.kind=12 then(⟨(resT U.T h c.key c.typ).1.1,(resT U.T h c.key c.typ).1.2.1,(resT U.T h c.key c.typ).1.2.2,[],0⟩,{U with T:=(resT U.T h c.key c.typ).2})
 else if c.kind=16 then(goodR (Lst.keysB U.T.gn (someK U.T.keys)),U)
 else if c.kind=17 then(goodR (Lst.holdB U.T.gn (keyOf U.T U.T.hd) U.T.ty),U)
 else runU U c
def doU (U:Un) (h:Nat) (c:Cm):Rp×Un:=
 if allowsB U.T h c.kind=true then actU U h c else(⟨24,0,0,[],0⟩,U)
structure CmOk (U:Un) (h:Nat) (c:Cm):Prop where
 pos:c.pos<=1000000
 n:c.n<=1000000
 typ:Fits .i64 c.typ
 kind:c.kind=2\/c.kind=3\/c.kind=5\/c.kind=6\/c.kind=11\/c.kind=12\/c.kind=16\/c.kind=17
 reg:c.kind=11->c.new=0->U.T.hd=(h:Int)->regsB U.T=false
theorem only_FU {w w':World} (st:Only t w w'):Step (FU t g1 g2) w w' (FU t g1 g2):=
 st.imp (λk h=>.inl h) (λk h=>.inl h)
theorem FU_md {w w1:World} {B:Nat} (m:Md (FU t g1 g2) B w w1) {w2:World} (st:Step (FU t g1 g2) w1 w2 (FU t g1 g2)):Md (FU t g1 g2) B w w2:=
 m.stp st (λk h=>.inl h) (λk h=>.inl (.inl h))
theorem keysB_short (g:Int) (l:List Int):(Lst.keysB g l).length<=1000000000:=by
 rw[Lst.keysB_length];omega
theorem act_c (h:UAt w u b t g1 g2 G U) {i:Nat} (hi:i < 8) {c:Cm} (ho:CmOk U i c) {dv:Value} (hd:RdB w dv c.d) {R:KV}
 (k:∀v w',Step (FU t g1 g2) w w' (FU t g1 g2)->UAt w' u b t g1 g2 G (actU U i c).2->RpAt w w' v (actU U i c).1->R v w'):
 Zs 70 #[zA u,.int .i64 (i:Int),.agg (rCmd c dv)] w R:=by
 apply q80W
 have hu:=h.o.lt
 have l1:=h.tb.b.lt
 have l2:=h.sp.dat.lt
 have l3:=h.sp.map.lt
 have lb:=h.sp.obj.lt
 unfold actU at k
 refine nm λw0 e0=>?_
 obtain⟨b0,g0,_⟩:=alE e0
 refine nm λw1 e1=>?_
 obtain⟨b1,g1',s1⟩:=alE e1
 have b01:=b0.grow g1'
 have g01:=g0.then g1'
 have h1:=h.grow g01
 have hd1:=hd.grow g01
 have m1:Md (FU t g1 g2) w.heap.size w w1:=(Md.refl _ _ _).grow g01
 have n0:∀k,k < w.heap.size->k≠w0.heap.size:=λk hk=>by have:=g0.size;omega
 have fin:∀{w3:World} {U':Un} {x0 x1 x2 x4:Int} {x3:Value} {ds:List UInt8} {cs:Array Value},Md (FU t g1 g2) w.heap.size w w3->BK w3 w0.heap.size cs tRep->cs.size=5->UAt w3 u b t g1 g2 G U'->RdB w3 x3 ds->NewV w1 x3->
  (∀v w',Step (FU t g1 g2) w w' (FU t g1 g2)->UAt w' u b t g1 g2 G U'->RpAt w w' v ⟨x0,x1,x2,ds,x4⟩->R v w')->
  (StRow w3 ⟨w0.heap.size,0,none⟩ #[.int .i64 x0,.int .i64 x1,.int .i64 x2,x3,.int .i64 x4])/\
  bindW (stRow w3 ⟨w0.heap.size,0,none⟩ #[.int .i64 x0,.int .i64 x1,.int .i64 x2,x3,.int .i64 x4]) λw'=>
  ∃(n0:Int) (n1:Int) (n2:Int) (v3:Value) (n4:Int),(ldCells w' ⟨w0.heap.size,0,none⟩ 5 #[.int .i64 n0,.int .i64 n1,.int .i64 n2,v3,.int .i64 n4])/\R (.agg #[.int .i64 n0,.int .i64 n1,.int .i64 n2,v3,.int .i64 n4]) w':=by
  intro w3 U' x0 x1 x2 x4 x3 ds cs m3 b3 hs h3 r3 n3 k3
  refine ret5 b3 hs (Rd.isOne r3) λw' _ t'=>?_
  refine k3 _ w' (m3.turn t' (.inr g0.size)).out ⟨(t'.block u (n0 u hu)).trans h3.o,h3.gl,h3.sp.step (t'.step (S :=λk=>k=w0.heap.size) rfl) (n0 b lb) (n0 g1 l2) (n0 g2 l3),⟨(t'.block t (n0 t l1)).trans h3.tb.b,h3.tb.len⟩,h3.gn,h3.ty⟩ ⟨x3,rfl,Rd.turn r3 t' ?_,n3.of g01.size⟩
  intro hx
  have:=n3 _ hx
  omega
 have fin2:∀{w3:World} {U':Un} {x0 x1 x2 x4:Int} {x3:Value} {ds:List UInt8} {cs:Array Value},Md (FU t g1 g2) w.heap.size w w3->BK w3 w0.heap.size cs tRep->cs.size=5->UAt w3 u b t g1 g2 G U'->RdB w3 x3 ds->NewV w1 x3->
  (∀v w',Step (FU t g1 g2) w w' (FU t g1 g2)->UAt w' u b t g1 g2 G U'->RpAt w w' v ⟨x0,x1,x2,ds,x4⟩->R v w')->
  (StRow w3 ⟨w0.heap.size,0,none⟩ #[.int .i64 x0,.int .i64 x1,.int .i64 x2,x3,.int .i64 x4])/\
  bindW (stRow w3 ⟨w0.heap.size,0,none⟩ #[.int .i64 x0,.int .i64 x1,.int .i64 x2,x3,.int .i64 x4]) λ_=>
  bindW (stRow w3 ⟨w0.heap.size,0,none⟩ #[.int .i64 x0,.int .i64 x1,.int .i64 x2,x3,.int .i64 x4]) λw'=>
  ∃(n0:Int) (n1:Int) (n2:Int) (v3:Value) (n4:Int),(ldCells w' ⟨w0.heap.size,0,none⟩ 5 #[.int .i64 n0,.int .i64 n1,.int .i64 n2,v3,.int .i64 n4])/\R (.agg #[.int .i64 n0,.int .i64 n1,.int .i64 n2,v3,.int .i64 n4]) w':=
  λm3 b3 hs h3 r3 n3 k3=>fin m3 b3 hs h3 r3 n3 k3
 refine⟨_,by rw[b01.cell];rfl,?_⟩
 refine JoinP.unit (λ_=>False) (λjr hjr=>?_) (λw hf=>hf.elim)
 rcases ho.kind with hk|hk|hk|hk|hk|hk|hk|hk
 case inr.inr.inr.inr.inl=>
  rw[if_pos hk]at k
  refine JoinP.unit (λw17=>w17=w1) (λj hj=>?_) ?_
  ·rw[hk]
   refine cond_f rfl (cond_f rfl (cond_f rfl (JoinP.bool (λb w'=>b=false/\w'=w1) (λj2 hj2=>cond_f rfl (cond_f rfl (cond_f rfl (cond_f rfl (hj2 _ _ ⟨rfl,rfl⟩))))) ?_)))
   rintro b w' ⟨rfl,rfl⟩
   exact cond_f rfl (cond_f rfl (cond_t rfl (hj _ rfl)))
  ·rintro w17 rfl
   refine nm λw18 e18=>?_
   have gd:=drE e18
   have b18:=b01.grow gd
   refine withAddr_some ⟨_,(h1.grow gd).c1,_,by rw[b18.cell];rfl,_,by rw[b18.cell];rfl,_,by rw[b18.cell];rfl,nm λw24 e24=>?_⟩
   have gd4:=drE e24
   have h24:=h1.grow gd4
   rw[hk]
   refine Register_c h24.tb hi (ho.reg hk) λw26 st26 tb26=>⟨_,_,_,_,_,_,rfl,?_⟩
   have hgn:0<=(regT U.T i c.new).gn/\(regT U.T i c.new).gn < 4294967296:=by
    have:(regT U.T i c.new).gn=IntKind.wrap .u32 (U.T.gn+1):=by unfold regT;dsimp only;split<;>rfl
    rw[this,w32];omega
   have hty:Fits .i64 (regT U.T i c.new).ty:=by
    have:(regT U.T i c.new).ty=0\/(regT U.T i c.new).ty=U.T.ty:=by unfold regT;dsimp only;split;exact .inl rfl;exact .inr rfl
    rcases this with e|e<;>rw[e]
    ·decide
    ·exact h.ty
   have h26:=h24.table st26 tb26 hgn hty
   have m26:=FU_md (m1.grow gd4) (only_FU st26)
   have b26:BK w26 w0.heap.size (rRep 0 0 0 nilV 0) tRep:=(b1.grow gd4).stepS st26 (λe=>n0 t l1 e.symm)
   exact noticed_c rfl λw34 g34=>⟨_,_,_,_,_,rfl,fin2 (m26.grow g34) (b26.grow g34) rfl (h26.grow g34) (Rd.nil _) (λq hq=>by cases hq) k⟩
 all_goals refine JoinP.unit (λ_=>False) (λjg hjg=>?_) (λw hf=>hf.elim)
 case inr.inr.inr.inr.inr.inl=>
  rw[if_neg (by omega),if_pos hk]at k
  rw[hk]
  refine cond_f rfl (cond_f rfl (cond_f rfl (JoinP.bool (λb w'=>b=false/\w'=w1) (λj2 hj2=>cond_f rfl (cond_f rfl (cond_f rfl (cond_f rfl (hj2 _ _ ⟨rfl,rfl⟩))))) ?_)))
  rintro bb w' ⟨rfl,rfl⟩
  refine cond_f rfl (cond_f rfl (cond_f rfl (cond_t rfl (nm λw18 e18=>?_))))
  have gd:=drE e18
  have b18:=b01.grow gd
  refine withAddr_some ⟨_,(h1.grow gd).c1,_,by rw[b18.cell];rfl,_,by rw[b18.cell];rfl,nm λw24 e24=>?_⟩
  have gd4:=drE e24
  have h24:=h1.grow gd4
  refine Reserve_c h24.tb hi λw26 st26 tb26=>⟨_,_,_,_,_,rfl,?_⟩
  have hT:(resT U.T i c.key c.typ).2=U.T\/(resT U.T i c.key c.typ).2={U.T with hd:=(i:Int),ty:=c.typ}:=by
   unfold resT
   split
   ·exact .inl rfl
   ·split
    ·exact .inl rfl
    ·split
     ·exact .inr rfl
     ·split<;>exact .inl rfl
  have hgn:0<=(resT U.T i c.key c.typ).2.gn/\(resT U.T i c.key c.typ).2.gn < 4294967296:=by
   rcases hT with e|e<;>rw[e]<;>exact h.gn
  have hty:Fits .i64 (resT U.T i c.key c.typ).2.ty:=by
   rcases hT with e|e<;>rw[e]
   ·exact h.ty
   ·exact ho.typ
  have h26:=h24.table st26 tb26 hgn hty
  have m26:=FU_md (m1.grow gd4) (only_FU st26)
  have b26:BK w26 w0.heap.size (rRep 0 0 0 nilV 0) tRep:=(b1.grow gd4).stepS st26 (λe=>n0 t l1 e.symm)
  exact fin2 m26 b26 rfl h26 (Rd.nil _) (λq hq=>by cases hq) k
 case inr.inr.inr.inr.inr.inr.inl=>
  rw[if_neg (by omega),if_neg (by omega),if_pos hk]at k
  rw[hk]
  refine cond_f rfl (cond_f rfl (cond_f rfl (JoinP.bool (λb w'=>b=false/\w'=w1) (λj2 hj2=>cond_f rfl (cond_f rfl (cond_f rfl (cond_f rfl (hj2 _ _ ⟨rfl,rfl⟩))))) ?_)))
  rintro bb w' ⟨rfl,rfl⟩
  refine cond_f rfl (cond_f rfl (cond_f rfl (cond_f rfl (cond_f rfl (cond_f rfl (cond_f rfl (cond_t rfl (nm λw18 e18=>?_))))))))
  have gd:=drE e18
  refine withAddr_some ⟨_,(h1.grow gd).c1,withAddr_some ⟨_,(h1.grow gd).c1,nm λw24 e24=>?_⟩⟩
  have gd4:=drE e24
  have h24:=h1.grow gd4
  refine Generation_c h24.tb ⟨_,rfl,⟨_,h24.c1,rfl⟩,?_⟩
  refine Keys_c h24.tb λv225 w225 g225 r225 n225=>?_
  refine Lst.Keys_c h.gn r225 λv227 w227 g227 r227 n227=>?_
  refine Good_c r227 (keysB_short _ _) λv229 w229 g229 r229 n229=>⟨_,_,_,_,_,rfl,?_⟩
  have gg:=((gd4.then g225).then g227).then g229
  exact fin2 (m1.grow gg) (b1.grow gg) rfl (h1.grow gg) r229 (n229.of ((gd4.then g225).then g227).size) k
 case inr.inr.inr.inr.inr.inr.inr=>
  rw[if_neg (by omega),if_neg (by omega),if_neg (by omega),if_pos hk]at k
  rw[hk]
  refine cond_f rfl (cond_f rfl (cond_f rfl (JoinP.bool (λb w'=>b=false/\w'=w1) (λj2 hj2=>cond_f rfl (cond_f rfl (cond_f rfl (cond_f rfl (hj2 _ _ ⟨rfl,rfl⟩))))) ?_)))
  rintro bb w' ⟨rfl,rfl⟩
  refine cond_f rfl (cond_f rfl (cond_f rfl (cond_f rfl (cond_f rfl (cond_f rfl (cond_f rfl (cond_f rfl (cond_t rfl ?_))))))))
  refine withAddr_some ⟨_,h1.c1,Holder_c h1.tb λw245 g245=>⟨_,_,rfl,nm λw18 e18=>?_⟩⟩
  have gd:=drE e18
  have h245:=h1.grow g245
  refine withAddr_some ⟨_,(h245.grow gd).c1,withAddr_some ⟨_,(h245.grow gd).c1,nm λw24 e24=>?_⟩⟩
  have gd4:=drE e24
  have h24:=h245.grow gd4
  refine Generation_c h24.tb ⟨_,rfl,⟨_,h24.c1,rfl⟩,?_⟩
  refine Key_any h24.tb ⟨_,rfl,?_⟩
  refine Lst.Holder_c h.gn h.ty λv227 w227 g227 r227 n227=>?_
  refine Good_c r227 (by rw[Lst.holdB_length];split<;>omega) λv229 w229 g229 r229 n229=>⟨_,_,_,_,_,rfl,?_⟩
  have gg:=((g245.then gd4).then g227).then g229
  exact fin2 (m1.grow gg) (b1.grow gg) rfl (h1.grow gg) r229 (n229.of ((g245.then gd4).then g227).size) k
 all_goals
  have hrk:c.kind=2\/c.kind=3\/c.kind=5\/c.kind=6:=by omega
  rw[if_neg (by omega),if_neg (by omega),if_neg (by omega),if_neg (by omega)]at k
  have hbody:∀(w':World),w'=w1->∃(n89:Int) (n90:Int) (n91:Int) (v92:Value) (n93:Int) (n94:Int) (n95:Int) (b96:Bool),(ldCells w' ⟨w.heap.size,0,none⟩ 8 #[(.int .i64 n89),(.int .i64 n90),(.int .i64 n91),v92,(.int .u64 n93),(.int .u64 n94),(.int .i64 n95),(.bool b96)])/\
   Zs 104 #[(zA u),(.agg #[(.int .i64 n89),(.int .i64 n90),(.int .i64 n91),v92,(.int .u64 n93),(.int .u64 n94),(.int .i64 n95),(.bool b96)])] w' λv97 w98=>
   ∃(n99:Int) (n100:Int) (n101:Int) (v102:Value) (n103:Int),((v97:Value)=(.agg #[(.int .i64 n99),(.int .i64 n100),(.int .i64 n101),v102,(.int .i64 n103)]))/\
   (StRow w98 ⟨w0.heap.size,0,none⟩ #[(.int .i64 n99),(.int .i64 n100),(.int .i64 n101),v102,(.int .i64 n103)])/\
   bindW (stRow w98 ⟨w0.heap.size,0,none⟩ #[(.int .i64 n99),(.int .i64 n100),(.int .i64 n101),v102,(.int .i64 n103)]) λw104=>
   ∃(n105:Int) (n106:Int) (n107:Int) (v108:Value) (n109:Int),(ldCells w104 ⟨w0.heap.size,0,none⟩ 5 #[(.int .i64 n105),(.int .i64 n106),(.int .i64 n107),v108,(.int .i64 n109)])/\
   R (.agg #[(.int .i64 n105),(.int .i64 n106),(.int .i64 n107),v108,(.int .i64 n109)]) w104:=by
   rintro w' rfl
   refine⟨_,_,_,_,_,_,_,_,b01.ld rfl,run_c h1 hd1 ho.pos ho.n hrk λv98 w98 st98 h98 rp98=>?_⟩
   obtain⟨dv',rfl,rd',nv'⟩:=rp98
   refine⟨_,_,_,_,_,rfl,fin (FU_md m1 st98) (b1.stepS st98 ?_) rfl h98 rd' nv' k⟩
   rintro(e|e|e)
   ·exact n0 t l1 e.symm
   ·exact n0 g1 l2 e.symm
   ·exact n0 g2 l3 e.symm
  rw[hk]
  refine cond_f rfl (cond_f rfl (cond_f rfl (JoinP.bool (λb w'=>b=true/\w'=w1) (λj2 hj2=>?_) ?_)))
  ·first
    |exact cond_t rfl (hj2 _ _ ⟨rfl,rfl⟩)
    |exact cond_f rfl (cond_t rfl (hj2 _ _ ⟨rfl,rfl⟩))
    |exact cond_f rfl (cond_f rfl (cond_t rfl (hj2 _ _ ⟨rfl,rfl⟩)))
    |exact cond_f rfl (cond_f rfl (cond_f rfl (cond_t rfl (hj2 _ _ ⟨rfl,rfl⟩))))
    |exact cond_f rfl (cond_f rfl (cond_f rfl (cond_f rfl (hj2 _ _ ⟨rfl,rfl⟩))))
  ·rintro bb w' ⟨rfl,e⟩
   exact cond_t rfl (hbody w' e)
end
section
open CW RowKit
variable {w:World} {u b t g1 g2:Nat} {G:List (Int×Option Nat)} {U:Un}
theorem Do_c (h:UAt w u b t g1 g2 G U) {i:Nat} (hi:i < 8) {c:Cm} (ho:CmOk U i c) {dv:Value} (hd:RdB w dv c.d) {R:KV}
 (k:∀v w',Step (FU t g1 g2) w w' (FU t g1 g2)->UAt w' u b t g1 g2 G (doU U i c).2->RpAt w w' v (doU U i c).1->R v w'):
 Zs 38 #[zA u,.int .i64 (i:Int),.agg (rCmd c dv)] w R:=by
 apply q79W
 have hu:=h.o.lt
 have l1:=h.tb.b.lt
 have l2:=h.sp.dat.lt
 have l3:=h.sp.map.lt
 have lb:=h.sp.obj.lt
 have hk:=ho.kind
 unfold doU at k
 refine nm λw0 e0=>?_
 obtain⟨b0,g0,_⟩:=alE e0
 refine nm λw1 e1=>?_
 obtain⟨b1,g1',s1⟩:=alE e1
 have b01:=b0.grow g1'
 have g01:=g0.then g1'
 have h1:=h.grow g01
 have n0:∀k,k < w.heap.size->k≠w0.heap.size:=λk hk=>by have:=g0.size;omega
 have nw:∀k,k < w.heap.size->k≠w.heap.size:=λk hk=>by omega
 have m1:Md (FU t g1 g2) w.heap.size w w1:=(Md.refl _ _ _).grow g01
 have fin:∀{w3:World} {U':Un} {x0 x1 x2 x4:Int} {x3:Value} {ds:List UInt8} {cs:Array Value},Md (FU t g1 g2) w.heap.size w w3->BK w3 w0.heap.size cs tRep->cs.size=5->UAt w3 u b t g1 g2 G U'->RdB w3 x3 ds->NewV w1 x3->
  (∀v w',Step (FU t g1 g2) w w' (FU t g1 g2)->UAt w' u b t g1 g2 G U'->RpAt w w' v ⟨x0,x1,x2,ds,x4⟩->R v w')->
  (StRow w3 ⟨w0.heap.size,0,none⟩ #[.int .i64 x0,.int .i64 x1,.int .i64 x2,x3,.int .i64 x4])/\
  bindW (stRow w3 ⟨w0.heap.size,0,none⟩ #[.int .i64 x0,.int .i64 x1,.int .i64 x2,x3,.int .i64 x4]) λw'=>
  ∃(n0:Int) (n1:Int) (n2:Int) (v3:Value) (n4:Int),(ldCells w' ⟨w0.heap.size,0,none⟩ 5 #[.int .i64 n0,.int .i64 n1,.int .i64 n2,v3,.int .i64 n4])/\R (.agg #[.int .i64 n0,.int .i64 n1,.int .i64 n2,v3,.int .i64 n4]) w':=by
  intro w3 U' x0 x1 x2 x4 x3 ds cs m3 b3 hs h3 r3 n3 k3
  refine ret5 b3 hs (Rd.isOne r3) λw' _ t'=>?_
  refine k3 _ w' (m3.turn t' (.inr g0.size)).out ⟨(t'.block u (n0 u hu)).trans h3.o,h3.gl,h3.sp.step (t'.step (S :=λk=>k=w0.heap.size) rfl) (n0 b lb) (n0 g1 l2) (n0 g2 l3),⟨(t'.block t (n0 t l1)).trans h3.tb.b,h3.tb.len⟩,h3.gn,h3.ty⟩ ⟨x3,rfl,Rd.turn r3 t' ?_,n3.of g01.size⟩
  intro hx
  have:=n3 _ hx
  omega
 refine JoinP.bool (λb w'=>b=false/\w'=w1) (λj hj=>?_) ?_
 ·refine lhost_c hi ⟨_,rfl,cond_f rfl ⟨_,by rw[b01.cell];rfl,cond_f (by simp;omega) ⟨_,by rw[b01.cell];rfl,hj _ _ ⟨by simp;omega,rfl⟩⟩⟩⟩
 rintro bb w3 ⟨rfl,rfl⟩
 refine cond_f rfl ⟨_,by rw[b01.cell];rfl,?_⟩
 refine JoinP.unit (λw'=>Grow w3 w') (λj hj=>?_) ?_
 ·refine cond_f (by simp;omega) (cond_f (by simp;omega) ?_)
  refine told_c h1 hi λw86 g86=>⟨_,_,_,_,_,_,rfl,nm λw93 e93=>?_⟩
  obtain⟨b93,g93,_⟩:=alE e93
  refine⟨b93.row rfl rfl,nm λw94 e94=>?_⟩
  obtain⟨b94,t94⟩:=rowE b93 e94 rfl
  exact cond_f rfl (hj _ (Below.turn (g86.then g93) t94 g86.size))
 ·intro w18 g18
  have h18:=h1.grow g18
  have b018:=b01.grow g18
  have b118:=b1.grow g18
  have m18:=m1.grow g18
  refine nm λw19 e19=>?_
  have gd:=drE e19
  have b19:=b018.grow gd
  refine withAddr_some ⟨_,(h18.grow gd).c1,_,by rw[b19.cell];rfl,nm λw23 e23=>?_⟩
  have gd3:=drE e23
  have h23:=h18.grow gd3
  have b023:=b018.grow gd3
  have b123:=b118.grow gd3
  have m23:=m18.grow gd3
  refine Allows_c h23.tb hi ⟨_,rfl,cond_intro (λha=>?_) (λha=>?_)⟩
  ·rw[if_neg (by simpa using ha)]at k
   exact fin m23 b123 rfl h23 (Rd.nil _) (λq hq=>by cases hq) k
  ·rw[if_pos (by simpa using ha)]at k
   refine⟨_,_,_,_,_,_,_,_,b023.ld rfl,act_c h23 hi ho (hd.grow ((g01.then g18).then gd3)) λv98 w98 st98 h98 rp98=>?_⟩
   obtain⟨dv',rfl,rd',nv'⟩:=rp98
   refine⟨_,_,_,_,_,rfl,fin (FU_md m23 st98) (b123.stepS st98 ?_) rfl h98 rd' (nv'.of (g18.then gd3).size) k⟩
   rintro(e|e|e)
   ·exact n0 t l1 e.symm
   ·exact n0 g1 l2 e.symm
   ·exact n0 g2 l3 e.symm
theorem flat_set2:∀(G:List (Int×Option Nat)) (i:Nat) (hi:i < G.length) (m:Option Nat),(EG.flat G).set (i*3+2) (.map m)=EG.flat (G.set i (G[i].1,m))
 |g::G,0,_,m=>rfl
 |g::G,i+1,hi,m=>by
  have e:(i+1)*3+2=(EG.enc g).length+(i*3+2):=by rw[EG.len];show(i+1)*3+2=3+(i*3+2);omega
  rw[Enc.flat_cons,e,List.set_append_right _ _ (by omega),Nat.add_sub_cancel_left,flat_set2 G i (by simpa using hi) m]
  rfl
theorem rU_set2 {b t:Nat} {G:List (Int×Option Nat)} {i:Nat} (hi:i < G.length) (m:Option Nat):(rU b t G).setIfInBounds (2+i*3+2) (.map m)=rU b t (G.set i (G[i].1,m)):=by
 simp only[rU,List.setIfInBounds_toArray]
 congr 1
 rw[List.set_append_right _ _ (by show 2<=2+i*3+2;omega)]
 have e:2+i*3+2 - [Value.pointer (some ⟨b,0,none⟩),Value.pointer (some ⟨t,0,none⟩)].length=i*3+2:=by show 2+i*3+2 - 2=i*3+2;omega
 rw[e,flat_set2 G i hi m]
def NewG (w:World) (B:Nat) (G:List (Int×Option Nat)):Prop:=∀g∈G,g.1=0/\∃m,g.2=some m/\B<=m/\w.heap[m]? =some (.map #[] 0)
theorem uNew_c {N:Nat} (h1:1<=N) (h2:N<=1024) {R:KV}
 (k:∀u b t g1 g2 G w',Grow w w'->w.heap.size<=u->w.heap.size<=b->w.heap.size<=t->w.heap.size<=g1->w.heap.size<=g2->UAt w' u b t g1 g2 G ⟨N,List.replicate (8*N) 0,List.replicate ((N+7) / 8) 0,newTb⟩->NewG w' w.heap.size G->R (.tuple #[zA u,.int .i64 (0:Int)]) w'):
 Zs 15 #[.int .i64 (N:Int)] w R:=by
 apply q78W
 refine spaceNew_c h1 h2 λb g1 g2 w1 gw1 hb hg1 hg2 sp=>⟨_,_,rfl,cond_f rfl ?_⟩
 refine rNew_c λt w5 g5 ht tb=>⟨_,rfl,nm λw7 e7=>?_⟩
 obtain⟨b7,g7,s7⟩:=alE e7
 have g07:=(gw1.then g5).then g7
 have sp7:=(sp.grow g5).grow g7
 have tb7:=tb.grow g7
 have hw:w.heap.size<=w5.heap.size:=(gw1.then g5).size
 refine⟨λ(n:Int) (w':World)=>∃(i:Nat) (ms:List Nat),n=(i:Int)/\i<=8/\ms.length=i/\Grow w w'/\SpAt w' b g1 g2 N (List.replicate (8*N) 0) (List.replicate ((N+7) / 8) 0)/\TAt w' t newTb/\
  BK w' w5.heap.size (rU b t (ms.map (λm=>((0:Int),some m))++List.replicate (8 - i) ((0:Int),(none:Option Nat)))) tUn/\(∀m∈ms,w5.heap.size < m/\m < w'.heap.size/\w'.heap[m]? =some (.map #[] 0)),
  λ(n:Int) (_:World)=>((8:Int) - n).toNat,⟨0,[],rfl,by omega,rfl,g07,sp7,tb7,b7,λm hm=>by cases hm⟩,?_⟩
 dsimp only[allR,mapR2,eqN,ltN]
 rintro m n w' ⟨⟨i,ms,rfl,hi,hml,g,sp',tb',bu,hms⟩,hm⟩
 have lu:=bu.lt
 have lgl:(ms.map (λm=>((0:Int),some m))++List.replicate (8 - i) ((0:Int),(none:Option Nat))).length=8:=by simp;omega
 refine cond_intro (λhc=>?_) (λhc=>?_)
 ·have hlt:i < 8:=by simp at hc;omega
  have hmk:Sem.run Tryz.prog (Instr.makeMap 92 none) w'= .ok (.map (some w'.heap.size)) (w'.alloc (.map #[] 0)):=rfl
  have ga:=Grow.al (Grow.refl w') (.map #[] 0)
  refine⟨_,_,hmk,⟨by omega,by omega⟩,oneK_of rfl ?_⟩
  have hnew:(w'.alloc (.map #[] 0)).heap[w'.heap.size]? =some (.map #[] 0):=by
   show(w'.heap.push _)[w'.heap.size]? =_
   simp
  have hsz:(w'.alloc (.map #[] 0)).heap.size=w'.heap.size+1:=by simp
  generalize w'.alloc (.map #[] 0)=wa at *
  have ba:=bu.grow ga
  have e:Addr.add (Addr.add (Addr.add ⟨w5.heap.size,0,none⟩ 2) (Int.toNat (i:Int)*3)) 2=Addr.add ⟨w5.heap.size,0,none⟩ (2+i*3+2):=by rw[add_add,add_add];congr 1
  rw[e]
  have hsize:(rU b t (ms.map (λm=>((0:Int),some m))++List.replicate (8 - i) ((0:Int),(none:Option Nat)))).size=26:=by
   simp only[rU,List.size_toArray,List.length_append,Enc.flat_length,lgl];rfl
  refine⟨st1_at ba (by rw[hsize];omega),nm λw13 e13=>?_⟩
  obtain⟨b13,t13⟩:=setE ba e13
  rw[rU_set2 (by rw[lgl];exact hlt)]at b13
  have hG:(ms.map (λm=>((0:Int),some m))++List.replicate (8 - i) ((0:Int),(none:Option Nat))).set i (((ms.map (λm=>((0:Int),some m))++List.replicate (8 - i) ((0:Int),(none:Option Nat)))[i]'(by rw[lgl];exact hlt)).1,some w'.heap.size)=(ms++[w'.heap.size]).map (λm=>((0:Int),some m))++List.replicate (8 - (i+1)) ((0:Int),(none:Option Nat)):=by
   have e8:8 - i=(8 - (i+1))+1:=by omega
   have hx:((ms.map (λm=>((0:Int),some m))++List.replicate (8 - i) ((0:Int),(none:Option Nat)))[i]'(by rw[lgl];exact hlt)).1=0:=by
    rw[List.getElem_append_right (by simp;omega)]
    simp
   rw[hx,List.set_append_right _ _ (by simp;omega),e8,List.replicate_succ]
   simp [hml]
  rw[hG]at b13
  have hu:=b7.lt
  have lt1:w5.heap.size < w'.heap.size:=lu
  have g13:Grow w w13:=Below.turn (g.then ga) t13 hw
  have spa:=sp'.grow ga
  have tba:=tb'.grow ga
  have x1:b≠w5.heap.size:=by have:=sp.obj.lt;have:=g5.size;omega
  have x2:g1≠w5.heap.size:=by have:=sp.dat.lt;have:=g5.size;omega
  have x3:g2≠w5.heap.size:=by have:=sp.map.lt;have:=g5.size;omega
  have x4:t≠w5.heap.size:=by have:=tb.b.lt;omega
  rw[wi64_id (by omega) (by omega)]
  refine⟨⟨i+1,ms++[w'.heap.size],by omega,by omega,by simp;omega,g13,spa.step (t13.step (S :=λk=>k=w5.heap.size) rfl) x1 x2 x3,⟨(t13.block t x4).trans tba.b,tba.len⟩,b13,λm hm=>?_⟩,by omega⟩
  rw[List.mem_append]at hm
  rcases hm with hm|hm
  ·obtain⟨p1,p2,p3⟩:=hms m hm
   exact⟨p1,by rw[t13.size,hsz];omega,(t13.block m (by omega)).trans ((ga.block m p2).trans p3)⟩
  ·have:m=w'.heap.size:=by simpa using hm
   subst this
   exact⟨lt1,by rw[t13.size,hsz];omega,(t13.block _ (by omega)).trans hnew⟩
 ·have he:i=8:=by simp at hc;omega
  subst he
  rw[Nat.sub_self,List.replicate_zero,List.append_nil]at bu lgl
  refine k _ _ _ _ _ _ _ g hw hb (Nat.le_trans gw1.size ht) hg1 hg2 ⟨bu,lgl,sp',tb',(by show 0<=(0:Int)/\(0:Int) < 4294967296;decide),(by show Fits .i64 (0:Int);decide)⟩ (λx hx=>?_)
  obtain⟨m,hm1,rfl⟩:=List.mem_map.1 hx
  obtain⟨p1,p2,p3⟩:=hms m hm1
  exact⟨rfl,m,rfl,by omega,p3⟩
end
end Go.Proofs.YtdpmhkbhlbfbeaaGreatDoor
