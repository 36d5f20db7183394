/- A part of the proof. -/
import Derived.Test.YtdpmhkbhlbfbeaaGreatDoorZBX3
set_option linter.unusedSimpArgs false
set_option linter.unusedVariables false
section
namespace Go.Crc
abbrev W:=BitVec 32
def poly:W:=0x82F63B78#32
def st (v:W):W:=bif v.getLsbD 0 then(v >>> 1) ^^^ poly else v >>> 1
theorem st_xor (a b:W):st (a ^^^ b)=st a ^^^ st b:=by
 unfold st
 rw[BitVec.getLsbD_xor,BitVec.ushiftRight_xor_distrib]
 generalize a >>> 1=x
 generalize b >>> 1=y
 cases a.getLsbD 0<;>cases b.getLsbD 0<;>simp only[Bool.xor_true,Bool.xor_false,Bool.not_true,Bool.not_false,cond_true,cond_false]
 ·rw[BitVec.xor_assoc]
 ·rw[BitVec.xor_assoc,BitVec.xor_comm y poly,BitVec.xor_assoc]
 ·have h:x ^^^ poly ^^^ (y ^^^ poly)=(x ^^^ y) ^^^ (poly ^^^ poly):=by ac_rfl
  rw[h,BitVec.xor_self,BitVec.xor_zero]
def stn:Nat->W->W
 |0,v=>v
 |n+1,v=>stn n (st v)
theorem stn_xor (n:Nat):∀a b:W,stn n (a ^^^ b)=stn n a ^^^ stn n b:=by
 induction n with
 |zero=>intro a b;rfl
 |succ n ih=>intro a b;simp only[stn,st_xor,ih]
theorem stn_add (m n:Nat):∀v:W,stn (m+n) v=stn n (stn m v):=by
 induction m with
 |zero=>intro v;simp [stn]
 |succ m ih=>intro v;rw[Nat.succ_add];simp only[stn];exact ih _
theorem stn_succ (n:Nat) (v:W):stn (n+1) v=st (stn n v):=by
 rw[stn_add];rfl
def wd (c:UInt8):W:=BitVec.ofNat 32 c.toNat
def F (v:W) (bs:List UInt8):W:=bs.foldl (λv c=>stn 8 (v ^^^ wd c)) v
theorem F_nil (v:W):F v []=v:=rfl
theorem F_cons (v:W) (c:UInt8) (bs:List UInt8):F v (c::bs)=F (stn 8 (v ^^^ wd c)) bs:=rfl
theorem F_append (v:W) (a b:List UInt8):F v (a++b)=F (F v a) b:=by simp [F,List.foldl_append]
def more (s:W) (bs:List UInt8):W:= ~~~ F (~~~ s) bs
def sum (bs:List UInt8):W:=more 0#32 bs
def ones:W:=0xFFFFFFFF#32
theorem not_eq (v:W): ~~~ v=ones ^^^ v:=by
 rw[BitVec.xor_comm];exact(BitVec.xor_allOnes (x:=v)).symm
def le4 (x:W):List UInt8:=[UInt8.ofNat x.toNat,UInt8.ofNat (x.toNat / 256),UInt8.ofNat (x.toNat / 65536),UInt8.ofNat (x.toNat / 16777216)]
def sld (bs:List UInt8):List UInt8:=bs++le4 (sum bs)
theorem le4_length (x:W):(le4 x).length=4:=rfl
theorem sld_length (bs:List UInt8):(sld bs).length=bs.length+4:=by simp [sld,le4_length]
end Go.Crc
end
section
namespace Go.Proofs.YtdpmhkbhlbfbeaaGreatDoor
open CW RowKit Crc
theorem byte_word (c:UInt8):IntKind.wrap .u32 (c.toNat:Int)=U (wd c):=by
 have hc:c.toNat < 256:=c.toNat_lt
 rw[w32_id (by omega) (by omega)]
 unfold U wd
 rw[BitVec.toNat_ofNat,Nat.mod_eq_of_lt (by omega)]
theorem and_one (v:W):bitsI .and .u32 (U v) (1:Int)=bif v.getLsbD 0 then 1 else 0:=by
 have h:=U_and v 1#32
 have e:U 1#32=1:=rfl
 rw[e]at h
 rw[h]
 have h1:(v&&& 1#32).toNat=v.toNat % 2:=by rw[BitVec.toNat_and];exact Nat.and_one_is_mod _
 have h2:v.getLsbD 0=decide (v.toNat % 2=1):=by
  show v.toNat.testBit 0=_
  rw[Nat.testBit_zero]
 unfold U
 rw[h1,h2]
 by_cases hb:v.toNat % 2=1
 ·simp [hb]
 ·have:v.toNat % 2=0:=by omega
  simp [this]
theorem ones_U:U ones=4294967295:=rfl
theorem step_tab (v:W):bitsI .xor .u32 (Int.fdiv (U v) (2:Int)) (bitsI .and .u32 (IntKind.wrap .u32 ((0:Int) - (bitsI .and .u32 (U v) (1:Int)))) (2197175160:Int))=U (st v):=by
 rw[and_one]
 have hs:Int.fdiv (U v) (2:Int)=U (v >>> 1):=U_shr v 1
 rw[hs]
 unfold st
 cases v.getLsbD 0
 ·simp only[cond_false]
  have e:bitsI .and .u32 (IntKind.wrap .u32 ((0:Int) - 0)) (2197175160:Int)=U 0#32:=by decide
  rw[e,U_xor,BitVec.xor_zero]
 ·simp only[cond_true]
  have e:bitsI .and .u32 (IntKind.wrap .u32 ((0:Int) - 1)) (2197175160:Int)=U poly:=by decide
  rw[e,U_xor]
def tv (i:Nat):Int:=U (stn 4 (BitVec.ofNat 32 i))
def TT:Array Value:= #[.int .u32 (tv 0),.int .u32 (tv 1),.int .u32 (tv 2),.int .u32 (tv 3),.int .u32 (tv 4),.int .u32 (tv 5),.int .u32 (tv 6),.int .u32 (tv 7),.int .u32 (tv 8),.int .u32 (tv 9),.int .u32 (tv 10),.int .u32 (tv 11),.int .u32 (tv 12),.int .u32 (tv 13),.int .u32 (tv 14),.int .u32 (tv 15)]
def tab0:Array Value:= #[.int .u32 (0:Int),.int .u32 (0:Int),.int .u32 (0:Int),.int .u32 (0:Int),.int .u32 (0:Int),.int .u32 (0:Int),.int .u32 (0:Int),.int .u32 (0:Int),.int .u32 (0:Int),.int .u32 (0:Int),.int .u32 (0:Int),.int .u32 (0:Int),.int .u32 (0:Int),.int .u32 (0:Int),.int .u32 (0:Int),.int .u32 (0:Int)]
def tabA:Nat->Array Value
 |0=>tab0
 |i+1=>(tabA i).setIfInBounds i (.int .u32 (tv i))
theorem tabA_size (i:Nat):(tabA i).size=16:=by
 induction i with
 |zero=>rfl
 |succ i ih=>simp [tabA,ih]
theorem tabA_16:tabA 16=TT:=rfl
theorem TT_at:∀j,j < 16->TT[j]? =some (.int .u32 (tv j))
 |0,_=>rfl
 |1,_=>rfl
 |2,_=>rfl
 |3,_=>rfl
 |4,_=>rfl
 |5,_=>rfl
 |6,_=>rfl
 |7,_=>rfl
 |8,_=>rfl
 |9,_=>rfl
 |10,_=>rfl
 |11,_=>rfl
 |12,_=>rfl
 |13,_=>rfl
 |14,_=>rfl
 |15,_=>rfl
 |n+16,h=>absurd h (by omega)
theorem crc_table_c {w:World} {R:KV} (k:∀w',Grow w w'->R (.agg TT) w'):Zs 168 #[] w R:=by
 apply q51W
 unfold q51F
 simp only[al_size]
 refine⟨λ(i:Int) (ww:World)=>0<=i/\i<=16/\Grow w ww/\BK ww w.heap.size tab0 248/\BK ww (w.heap.size+1) (tabA i.toNat) 248,λ(i:Int) (_:World)=>(16 - i).toNat,?_,?_⟩
 ·refine⟨by omega,by omega,Grow.al (Grow.al (Grow.refl w) _) _,BK.al (BK.new w _ _) _,?_⟩
  have:=BK.new (w.alloc (.cells tab0 248)) tab0 248
  rw[al_size]at this
  exact this
 ·dsimp only[allR,mapR2,eqN,ltN]
  rintro m i ww ⟨⟨h0,h1,g,b1,b2⟩,hm⟩
  refine cond_intro (λh=>?_) (λh=>?_)
  ·simp at h
   obtain⟨i,rfl⟩:=Int.eq_ofNat_of_zero_le h0
   refine⟨λ(n:Int) (j:Int) (w6:World)=>w6=ww/\0<=j/\j<=4/\n=U (stn j.toNat (BitVec.ofNat 32 i)),λ(_:Int) (j:Int) (_:World)=>(4 - j).toNat,?_,?_⟩
   ·refine⟨rfl,by omega,by omega,?_⟩
    show IntKind.wrap .u32 (i:Int)=U (BitVec.ofNat 32 i)
    rw[w32_id (by omega) (by omega)]
    unfold U
    rw[BitVec.toNat_ofNat,Nat.mod_eq_of_lt (by omega)]
   ·dsimp only[allR,mapR2,eqN,ltN]
    rintro m' n j w6 ⟨⟨rfl,k0,k1,rfl⟩,hm'⟩
    refine cond_intro (λh'=>?_) (λh'=>?_)
    ·simp at h'
     rw[wi64_id (n:=j+1) (by omega) (by omega),step_tab]
     refine⟨⟨rfl,by omega,by omega,?_⟩,by omega⟩
     have e:(j+1).toNat=j.toNat+1:=by omega
     rw[e,stn_succ]
    ·simp at h'
     have e:j.toNat=4:=by omega
     rw[e,wi64_id (n:=(i:Int)+1) (by omega) (by omega)]
     simp only[Int.toNat_natCast,Nat.mul_one,ad0]at b2 ⊢
     refine⟨⟨by omega,by omega⟩,b2.st1 (by rw[tabA_size];omega),⟨by omega,by omega,g.setCell (p:=⟨w.heap.size+1,i,none⟩) (by simp) _,b1.other (by omega) _ _,?_⟩,by omega⟩
     have e2:((i:Int)+1).toNat=i+1:=by omega
     rw[e2]
     exact b2.set i _
  ·simp at h
   have e:i.toNat=16:=by omega
   rw[e,tabA_16]at b2
   refine⟨_,_,_,_,_,_,_,_,_,_,_,_,_,_,_,_,b2.ld rfl,b1.row (ds:=TT) rfl rfl,_,_,_,_,_,_,_,_,_,_,_,_,_,_,_,_,?_,k _ (Below.strow g (p:=⟨w.heap.size,0,none⟩) (by simp) TT)⟩
   exact(b1.strow (ds:=TT) rfl).ld rfl
theorem low15 (v:W):(v&&& 15#32).toNat < 16:=by
 rw[BitVec.toNat_and]
 exact Nat.lt_of_le_of_lt Nat.and_le_right (by decide)
theorem half (v:W):v >>> 4 ^^^ stn 4 (v&&& 15#32)=stn 4 v:=by
 have e:v=(v >>> 4) <<< 4 ^^^ (v&&& 15#32):=by
  apply BitVec.eq_of_getLsbD_eq
  intro i hi
  simp only[BitVec.getLsbD_xor,BitVec.getLsbD_shiftLeft,BitVec.getLsbD_ushiftRight,BitVec.getLsbD_and]
  by_cases h:i < 4
  ·have h15:∀j,j < 4->(15#32).getLsbD j=true:=by decide
   simp [h,h15 i h,hi]
  ·have h15:∀j,j < 32->¬(j < 4)->(15#32).getLsbD j=false:=by decide
   have e:4+(i - 4)=i:=by omega
   rw[h15 i hi h,e]
   simp [h,hi]
 have h4:∀x:W,stn 4 ((x >>> 4) <<< 4)=x >>> 4:=by
  intro x
  have s1:∀n,n < 4->∀x:W,st ((x >>> 4) <<< (n+1))=(x >>> 4) <<< n:=by
   intro n hn x
   unfold st
   have h0:((x >>> 4) <<< (n+1)).getLsbD 0=false:=by rw[BitVec.getLsbD_shiftLeft];simp
   rw[h0,cond_false]
   apply BitVec.eq_of_getLsbD_eq
   intro i hi
   rw[BitVec.getLsbD_ushiftRight,BitVec.getLsbD_shiftLeft,BitVec.getLsbD_shiftLeft]
   by_cases h1:i < n
   ·have h2:1+i < n+1:=by omega
    simp [h1,h2]
   ·have h2:¬(1+i < n+1):=by omega
    have e:1+i - (n+1)=i - n:=by omega
    rw[e]
    by_cases h3:i=31
    ·have h4:(x >>> 4).getLsbD (i - n)=false:=by
      rw[BitVec.getLsbD_ushiftRight]
      exact BitVec.getLsbD_of_ge _ _ (by omega)
     simp [h4]
    ·have h4:1+i < 32:=by omega
     simp [h1,h2,h4,hi]
  show st (st (st (st ((x >>> 4) <<< 4))))=_
  rw[s1 3 (by omega),s1 2 (by omega),s1 1 (by omega),s1 0 (by omega)]
  simp
 conv=>rhs;rw[e]
 rw[stn_xor,h4]
theorem crc_run_c {w:World} {v:Value} {bs:List UInt8} {s:W} {R:KV} (hr:RdB w v bs) (k:∀w',Grow w w'->R (.int .u32 (U (more s bs))) w'):
 Zs 167 #[.agg TT,.int .u32 (U s),v] w R:=by
 apply q50W
 have hle:=hr.le
 rw[List.length_map]at hle
 refine⟨_,hr.len,?_⟩
 have g:=Grow.al (Grow.refl w) (.cells TT 248)
 have hT:=BK.new w TT 248
 have hr':=hr.grow g
 refine⟨λ(n:Int) (i:Int) (ww:World)=>ww=w.alloc (.cells TT 248)/\0<=i/\i<=bs.length/\n=U (F (~~~ s) (bs.take i.toNat)),λ(_:Int) (i:Int) (_:World)=>(bs.length - i).toNat,?_,?_⟩
 ·refine⟨rfl,by omega,by omega,?_⟩
  show bitsI .xor .u32 (4294967295:Int) (U s)=U (F (~~~ s) [])
  rw[←ones_U,U_xor,F_nil,not_eq]
 ·dsimp only[allR,mapR2,eqN,ltN]
  rintro m n i ww ⟨⟨rfl,h0,h1,rfl⟩,hm⟩
  refine cond_intro (λh=>?_) (λh=>?_)
  ·simp at h
   obtain⟨a,ha,hc⟩:=RdB.at hr' h0 h
   refine⟨a,ha,_,hc,?_⟩
   have e15:(15:Int)=U 15#32:=rfl
   have e16:∀x:W,Int.fdiv (U x) (16:Int)=U (x >>> 4):=λx=>U_shr x 4
   rw[byte_word,U_xor,e15,U_and]
   generalize hx:F (~~~ s) (bs.take i.toNat) ^^^ wd (bs[i.toNat]'(by omega))=x
   have l1:=low15 x
   have hT1:=(hT.cell (x&&& 15#32).toNat).trans (TT_at _ l1)
   refine⟨⟨by have:=U_range (x&&& 15#32);omega,by unfold U;omega⟩,tv (x&&& 15#32).toNat,?_,?_⟩
   ·have e:Int.toNat (U (x&&& 15#32))*1=(x&&& 15#32).toNat:=by unfold U;omega
    rw[e];exact hT1
   have t1:tv (x&&& 15#32).toNat=U (stn 4 (x&&& 15#32)):=by unfold tv;simp
   rw[t1,e16,U_xor,half,U_and]
   generalize hy:stn 4 x=y
   have l2:=low15 y
   have hT2:=(hT.cell (y&&& 15#32).toNat).trans (TT_at _ l2)
   refine⟨⟨by have:=U_range (y&&& 15#32);omega,by unfold U;omega⟩,tv (y&&& 15#32).toNat,?_,?_⟩
   ·have e:Int.toNat (U (y&&& 15#32))*1=(y&&& 15#32).toNat:=by unfold U;omega
    rw[e];exact hT2
   have t2:tv (y&&& 15#32).toNat=U (stn 4 (y&&& 15#32)):=by unfold tv;simp
   rw[t2,e16,U_xor,half,wi64_id (n:=i+1) (by omega) (by omega)]
   refine⟨⟨rfl,by omega,by omega,?_⟩,by omega⟩
   have e:(i+1).toNat=i.toNat+1:=by omega
   rw[e,List.take_add_one,List.getElem?_eq_getElem (by omega),F_append]
   show U (stn 4 y)=U (F (F (~~~ s) (bs.take i.toNat)) [bs[i.toNat]'(by omega)])
   rw[F_cons,F_nil,hx,←hy,←stn_add]
  ·simp at h
   have e:bs.take i.toNat=bs:=List.take_of_length_le (by omega)
   rw[e,←ones_U,U_xor,←not_eq]
   exact k _ g
theorem crc_More_c {w:World} {v:Value} {bs:List UInt8} {s:W} {R:KV} (hr:RdB w v bs) (k:∀w',Grow w w'->R (.int .u32 (U (more s bs))) w'):
 Zs 127 #[.int .u32 (U s),v] w R:=by
 apply q45W
 refine crc_table_c λw1 g1=>⟨_,_,_,_,_,_,_,_,_,_,_,_,_,_,_,_,rfl,?_⟩
 exact crc_run_c (hr.grow g1) λw2 g2=>⟨_,rfl,k _ (g1.then g2)⟩
theorem crc_Sum_c {w:World} {v:Value} {bs:List UInt8} {R:KV} (hr:RdB w v bs) (k:∀w',Grow w w'->R (.int .u32 (U (sum bs))) w'):
 Zs 81 #[v] w R:=by
 apply q48W
 exact crc_More_c (s:=0#32) hr λw1 g1=>⟨_,rfl,k _ g1⟩
end Go.Proofs.YtdpmhkbhlbfbeaaGreatDoor
end
section
namespace Go.Proofs.YtdpmhkbhlbfbeaaGreatDoor
open CW RowKit Crc
theorem byt_nat (n:Nat):byt (n:Int)=UInt8.ofNat n:=by
 apply UInt8.toNat_inj.1
 simp [byt]
 omega
theorem four_cells (x:W):(#[(.int .u8 (IntKind.wrap .u8 (U x))),(.int .u8 (IntKind.wrap .u8 (Int.fdiv (U x) (256:Int)))),(.int .u8 (IntKind.wrap .u8 (Int.fdiv (U x) (65536:Int)))),(.int .u8 (IntKind.wrap .u8 (Int.fdiv (U x) (16777216:Int))))]:Array Value)=((le4 x).map b8).toArray:=by
 have d:∀k:Nat,Int.fdiv (U x) (k:Int)=((x.toNat / k:Nat):Int):=by
  intro k
  unfold U
  rw[Int.fdiv_eq_ediv_of_nonneg _ (Int.natCast_nonneg _)]
  exact(Int.natCast_ediv _ _).symm
 have d1:=d 256
 have d2:=d 65536
 have d3:=d 16777216
 simp only[Int.cast_ofNat_Int]at d1 d2 d3
 rw[d1,d2,d3,b8_wrap,b8_wrap,b8_wrap,b8_wrap]
 unfold U
 simp only[byt_nat]
 rfl
theorem slices_Equal_c {w:World} {v u:Value} {bs cs:List UInt8} {R:KV} (hv:RdB w v bs) (hu:RdB w u cs) (k:∀w',Grow w w'->R (.bool (decide (bs=cs))) w'):
 Zs 79 #[v,u] w R:=by
 apply q131W
 have hle:=hv.le
 rw[List.length_map]at hle
 refine⟨_,RdB.len hv,_,RdB.len hu,cond_intro (λh=>?_) (λh=>⟨_,RdB.len hv,?_⟩)⟩
 ·have hne:decide (bs=cs)=false:=by
   simp only[bne_iff_ne,ne_eq,Int.natCast_inj]at h
   exact decide_eq_false (λe=>h (by rw[e]))
  have:=k w (Grow.refl w)
  rw[hne]at this;exact this
 ·have hl:bs.length=cs.length:=by simp at h;omega
  refine⟨λ(i:Int) (ww:World)=>Grow w ww/\0<=i/\i<=bs.length/\bs.take i.toNat=cs.take i.toNat,λ(i:Int) (_:World)=>(bs.length - i).toNat,⟨Grow.refl w,by omega,by omega,by simp⟩,?_⟩
  dsimp only[allR,mapR2,eqN,ltN]
  rintro m i ww ⟨⟨g,h0,h1,he⟩,hm⟩
  have gd:=Grow.dr g
  refine cond_intro (λh2=>?_) (λh2=>?_)
  ·simp at h2
   obtain⟨a,ha,hc⟩:=RdB.at (hv.grow gd) h0 h2
   obtain⟨a',ha',hc'⟩:=RdB.at (hu.grow gd) h0 (by omega)
   refine⟨a,ha,_,hc,a',ha',_,hc',cond_intro (λh3=>?_) (λh3=>?_)⟩
   ·have hne:decide (bs=cs)=false:=by
     refine decide_eq_false (λe=>?_)
     subst e
     simp at h3
    have:=k _ gd
    rw[hne]at this;exact this
   ·rw[wi64_id (n:=i+1) (by omega) (by omega)]
    have e:(i+1).toNat=i.toNat+1:=by omega
    have hb:bs[i.toNat]'(by omega)=cs[i.toNat]'(by omega):=by
     apply UInt8.toNat_inj.1
     simp at h3;omega
    refine⟨⟨gd,by omega,by omega,?_⟩,by omega⟩
    rw[e,List.take_add_one,List.take_add_one,he,List.getElem?_eq_getElem (by omega),List.getElem?_eq_getElem (by omega),hb]
  ·simp at h2
   rw[List.take_of_length_le (by omega),List.take_of_length_le (by omega)]at he
   have:=k _ g
   rw[decide_eq_true he]at this;exact this
end Go.Proofs.YtdpmhkbhlbfbeaaGreatDoor
end
section
namespace Go.Proofs.YtdpmhkbhlbfbeaaGreatDoor
open CW RowKit Crc
theorem crc_low_c {w:World} {B:Nat} {v:Value} {bs:List UInt8} {x:W} {R:KV} (ho:OwnB w B tb v bs) (hB:B<=w.heap.size) (hb:bs.length<=1000000000000)
 (k:∀v' w',OwnNext w v w' v'->OwnB w' B tb v' (bs++le4 x)->R v' w'):Zs 80 #[v,.int .u32 (U x)] w R:=by
 apply q49W
 unfold q49F
 rw[four_cells]
 have g:=Grow.al (Grow.refl w) (.cells ((le4 x).map b8).toArray tb)
 have hl:=Own.lit w (Nat.le_refl _) tb ((le4 x).map b8).toArray 4 rfl (by simp [maxLen])
 obtain⟨v',w',h1,h2,h3⟩:=app_bytes (ho.grow g) (cs:=le4 x) hl.rd (Nat.le_trans hB g.size) (by rw[le4_length];omega)
 exact⟨v',w',h1,k _ _ (OwnNext.behind g h3) h2⟩
theorem crc_Seal_c {w:World} {v:Value} {bs:List UInt8} {R:KV} (hr:RdB w v bs) (hb:bs.length<=1000000000000)
 (k:∀v' w',Grow w w'->Wr w' w.heap.size v' ((sld bs).map b8)->R v' w'):Zs 78 #[v] w R:=by
 apply q47W
 refine slices_Clone_c hr (by omega) λv1 w1 g1 o1=>?_
 refine crc_Sum_c (hr.grow g1) λw2 g2=>⟨_,rfl,?_⟩
 refine crc_low_c (o1.grow g2) (Nat.le_trans g1.size g2.size) hb λv3 w3 n3 o3=>?_
 refine slices_Clip_w o3 λv4 r4 _=>?_
 exact k _ _ ((g1.then g2).trans (n3.below (Nat.le_trans g1.size g2.size) (o1.grow g2).blk)) r4
def bodyOf (bs:List UInt8):List UInt8:=bs.take (bs.length - 4)
def tailOf (bs:List UInt8):List UInt8:=bs.drop (bs.length - 4)
def opE (bs:List UInt8):Int:=if bs.length < 4 then 3 else if tailOf bs=le4 (sum (bodyOf bs))then 0 else 4
def opB (bs:List UInt8):List UInt8:=if bs.length < 4 then[] else if tailOf bs=le4 (sum (bodyOf bs))then bodyOf bs else[]
theorem opE_sld (bs:List UInt8):opE (sld bs)=0/\opB (sld bs)=bs:=by
 have h:¬(sld bs).length < 4:=by rw[sld_length];omega
 have hb:bodyOf (sld bs)=bs:=by
  unfold bodyOf
  rw[sld_length,Nat.add_sub_cancel]
  exact List.take_left
 have ht:tailOf (sld bs)=le4 (sum bs):=by
  unfold tailOf
  rw[sld_length,Nat.add_sub_cancel]
  exact List.drop_left
 unfold opE opB
 rw[hb,ht]
 simp [h]
end Go.Proofs.YtdpmhkbhlbfbeaaGreatDoor
end
