/- A part of the proof. -/
import Derived.Test.YtdpmhkbhlbfbeaaGreatDoorZBX3
set_option linter.unusedSimpArgs false
set_option linter.unusedVariables false
set_option maxRecDepth 100000
namespace Go.Proofs.YtdpmhkbhlbfbeaaGreatDoor
open CW RowKit
theorem slices_Clip_f {w:World} {v:Value} {bs:List UInt8} {R:KV} (hr:RdB w v bs) (k:∀v',RdB w v' bs->v'.ownBlock=v.ownBlock->Ful v'->R v' w):Zs 50 #[v] w R:=by
 have hd:=hr
 apply q124W
 refine⟨_,RdB.len hd,_,RdB.len hd,?_⟩
 obtain⟨a,cap,rfl,h1,h2,h3,h4⟩:=hr
 rw[List.length_map]at h1
 have h0:(0:Int)<=(bs.length:Int):=by omega
 have e:(bs.length:Int)<=cap:=by omega
 refine⟨.slice (if bs.length=0 then a else a) bs.length bs.length,?_,k _ ?_ ?_ (Ful.mk _ _)⟩
 ·simp only[List.length_map,subSlice,boundsOf,boundOf,h0,e,and_self,if_true,Int.toNat_natCast,Int.le_refl,Nat.sub_zero,Nat.zero_mul]
  split<;>simp [add_zero]
 ·rw[ite_self]
  exact⟨a,bs.length,by simp,by simp,by omega,λhh=>by have:=h3 hh;omega,h4⟩
 ·rw[ite_self];cases a<;>rfl
theorem bin_Put_w {w:World} {v:Value} {bs:List UInt8} {x n:Int} {R:KV} (hr:RdB w v bs) (hb:bs.length<=1000000000000) (hn:1<=n/\n<=8)
 (k:∀v' w',Grow w w'->Wr w' w.heap.size v' ((bs++putL x n.toNat).map b8)->Ful v'->NewV w v'->R v' w'):Zs 41 #[v,.int .u64 x,.int .i64 n] w R:=by
 apply q4W
 refine slices_Clone_c hr (by omega) λv1 w1 g1 o1=>?_
 refine JoinP.bool (λb w'=>b= !(inW n)/\w'=w1) (λj hj=>test_width n j w1 hj) ?_
 have h:inW n=true:=by simpa[inW]using hn
 rintro b w' ⟨rfl,rfl⟩
 refine cond_f (by rw[h];rfl) ?_
 refine⟨λ(vv:Value) (i:Int) (ww:World)=> -1<=i/\i < n/\Grow w ww/\OwnB ww w.heap.size tb vv (bs++(putL x n.toNat).take (n.toNat - (i+1).toNat)),λ(_:Value) (i:Int) (_:World)=>(i+1).toNat,?_,?_⟩
 ·dsimp only
  rw[wi64_id (n:=n - 1) (by omega) (by omega)]
  refine⟨by omega,by omega,g1,?_⟩
  have e:n.toNat - (n - 1+1).toNat=0:=by omega
  rw[e];simpa using o1
 ·dsimp only[allR,mapR2,eqN,ltN]
  rintro m vv i ww ⟨⟨h0,h1,g,o⟩,hm⟩
  refine cond_intro (λh2=>?_) (λh2=>?_)
  ·simp at h2
   obtain⟨i,rfl⟩:=Int.eq_ofNat_of_zero_le h2
   refine leK_intro (by rw[wi64_id (n:=8*(i:Int)) (by omega) (by omega)];omega) ?_
   obtain⟨v',w',k1,k2,k3⟩:=app_byte o g.size _ _ (shr_byte x i (by omega)) (by simp [putL_length];omega)
   refine⟨v',w',k1,⟨?_,?_,g.trans (k3.below g.size o.blk),?_⟩,?_⟩
   all_goals rw[wi64_id (n:=(i:Int) - 1) (by omega) (by omega)]
   ·omega
   ·omega
   ·have e1:((i:Int) - 1+1).toNat=i:=by omega
    have e2:((i:Int)+1).toNat=i+1:=by omega
    rw[e1]
    rw[e2,List.append_assoc,take_putL x n.toNat i (by omega)]at k2
    exact k2
   ·change ((i:Int) - 1+1).toNat < m
    omega
  ·simp at h2
   have e1:(i+1).toNat=0:=by omega
   rw[e1,Nat.sub_zero,List.take_of_length_le (by rw[putL_length];omega)]at o
   have hd:=o.rd
   apply q124W
   refine⟨_,RdB.len hd,_,RdB.len hd,?_⟩
   rcases o.2 with ⟨rfl,hz⟩|⟨g',cap,cur,rfl,hb',hg,hn',hm',hs,ht⟩
   ·rw[List.length_map,List.length_append,putL_length]at hz;omega
   ·have hlen:(bs++putL x n.toNat).length=bs.length+n.toNat:=by rw[List.length_append,putL_length]
    rw[List.length_map]at hn'
    have h0:(0:Int)<=((bs++putL x n.toNat).length:Int):=by omega
    have e:((bs++putL x n.toNat).length:Int)<=cap:=by omega
    refine⟨.slice (some ⟨g',0,none⟩) (bs++putL x n.toNat).length (bs++putL x n.toNat).length,?_,k _ _ g ?_ (Ful.mk _ _) (λq hq=>by cases hq;exact hb')⟩
    ·simp only[List.length_map,subSlice,boundsOf,boundOf,h0,e,and_self,if_true,Int.toNat_natCast,Int.le_refl,Nat.sub_zero]
     split<;>simp [add_zero]
    ·obtain⟨a',cap',hv,k1,k2,k3,k4⟩:=hd
     cases hv
     refine⟨⟨some ⟨g',0,none⟩,(bs++putL x n.toNat).length,by simp,by simp,by simp at k1;omega,λhh=>(by cases hh),k4⟩,λ_=>⟨g',(bs++putL x n.toNat).length,cur,tb,by simp,hb',hg,by simp at hn' ⊢;omega⟩⟩
end Go.Proofs.YtdpmhkbhlbfbeaaGreatDoor
