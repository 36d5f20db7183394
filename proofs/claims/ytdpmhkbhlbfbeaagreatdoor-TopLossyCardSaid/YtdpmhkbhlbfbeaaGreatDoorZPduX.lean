/- A part of the proof. -/
import Derived.Test.YtdpmhkbhlbfbeaaGreatDoorZCrcX
import Derived.Laws.Cover3
import Derived.Test.YtdpmhkbhlbfbeaaGreatDoorZBX4
set_option linter.unusedSimpArgs false
set_option linter.unusedVariables false
set_option maxRecDepth 100000
section
namespace Go.Proofs.YtdpmhkbhlbfbeaaGreatDoor.Pdu
open CW RowKit Crc
structure Pd where
 op:Int
 fin:Bool
 fl:Int
 st:Int
 tag:Int
 sn:Int
 exp:Int
 mx:Int
 off:Int
 ln:Int
 c0:UInt8
 c1:UInt8
 c2:UInt8
 c3:UInt8
 c4:UInt8
 c5:UInt8
 c6:UInt8
 c7:UInt8
 c8:UInt8
 c9:UInt8
 c10:UInt8
 c11:UInt8
 c12:UInt8
 c13:UInt8
 c14:UInt8
 c15:UInt8
abbrev bn (c:UInt8):Int:=(c.toNat:Int)
abbrev rP (p:Pd) (d:Value):Array Value:= #[.int .i64 p.op,.bool p.fin,.int .i64 p.fl,.int .i64 p.st,.int .u32 p.tag,.int .u32 p.sn,.int .u32 p.exp,.int .u32 p.mx,.int .u32 p.off,.int .u32 p.ln,.int .u8 (bn p.c0),.int .u8 (bn p.c1),.int .u8 (bn p.c2),.int .u8 (bn p.c3),.int .u8 (bn p.c4),.int .u8 (bn p.c5),.int .u8 (bn p.c6),.int .u8 (bn p.c7),.int .u8 (bn p.c8),.int .u8 (bn p.c9),.int .u8 (bn p.c10),.int .u8 (bn p.c11),.int .u8 (bn p.c12),.int .u8 (bn p.c13),.int .u8 (bn p.c14),.int .u8 (bn p.c15),d]
abbrev vP (p:Pd) (d:Value):Value:=.agg (rP p d)
def Pd.cdb (p:Pd):List UInt8:=[p.c0,p.c1,p.c2,p.c3,p.c4,p.c5,p.c6,p.c7,p.c8,p.c9,p.c10,p.c11,p.c12,p.c13,p.c14,p.c15]
def zP:Pd:=⟨0,false,0,0,0,0,0,0,0,0,0,0,0,0,0,0,0,0,0,0,0,0,0,0,0,0⟩
def known (op:Int):Bool:=op==0||op==1||op==2||op==3||op==5||op==6||op==32||op==33||op==34||op==35||op==37||op==38||op==49||op==63
structure PdFits (p:Pd):Prop where
 op:Fits .i64 p.op
 fl:Fits .i64 p.fl
 st:Fits .i64 p.st
 tag:Fits .u32 p.tag
 sn:Fits .u32 p.sn
 exp:Fits .u32 p.exp
 mx:Fits .u32 p.mx
 off:Fits .u32 p.off
 ln:Fits .u32 p.ln
def okP (p:Pd):Bool:=known p.op&&decide (0<=p.fl)&&decide (p.fl < 128)&&decide (0<=p.st)&&decide (p.st<=255)
def flB (p:Pd):UInt8:=if p.fin then byt p.fl|||128 else byt p.fl
def h8 (p:Pd) (n:Nat):List UInt8:=[byt p.op,flB p,byt p.st,0]++putL n 4
def nums (p:Pd):List Int:=[p.tag,p.sn,p.exp,p.mx,p.off,p.ln]
def puts (l:List Int):List UInt8:=l.flatMap λx=>putL x 4
def hdr (p:Pd) (n:Nat):List UInt8:=h8 p n++puts (nums p)++p.cdb
def sealed (bs:List UInt8):List UInt8:=bs++le4 (sum bs)
def pad4 (ds:List UInt8):List UInt8:=padS ds 4
def encP (p:Pd) (ds:List UInt8):List UInt8:=sealed (hdr p ds.length)++if ds=[] then[] else sealed (pad4 ds)
theorem hdr_length (p:Pd) (n:Nat):(hdr p n).length=48:=by simp [hdr,h8,puts,nums,putL_length,Pd.cdb]
theorem sealed_length (bs:List UInt8):(sealed bs).length=bs.length+4:=by simp [sealed,le4_length]
theorem padN4 (l:Nat):padN l 4=(l+3) / 4*4 - l/\l<=(l+3) / 4*4:=by
 have e:inP 4=true:=rfl
 simp only[padN,e,cond_true]
 omega
theorem pad4_length (ds:List UInt8):(pad4 ds).length=(ds.length+3) / 4*4:=by
 obtain⟨h1,h2⟩:=padN4 ds.length
 simp [pad4,padS,h1];omega
theorem encP_length (p:Pd) (ds:List UInt8):(encP p ds).length=52+if ds=[] then 0 else(ds.length+3) / 4*4+4:=by
 unfold encP
 rw[List.length_append,sealed_length,hdr_length]
 split
 ·simp
 ·rw[sealed_length,pad4_length]
def num4 (bs:List UInt8) (a:Int):Int:=getV bs a 4
def frontE (bs:List UInt8):Int:=
 if bs.length < 52 then 3 else if le4 (sum (bs.take 48))=(bs.drop 48).take 4 then(if known (bn (bs.getD 0 0))=false\/bs.getD 3 0≠0 then 2 else if 4096 < num4 bs 4 then 5 else 0)else 4
def pdOf (bs:List UInt8):Pd:=⟨bn (bs.getD 0 0),decide (128<=bs.getD 1 0),bn (bs.getD 1 0&&& 127),bn (bs.getD 2 0),num4 bs 8,num4 bs 12,num4 bs 16,num4 bs 20,num4 bs 24,num4 bs 28,
 bs.getD 32 0,bs.getD 33 0,bs.getD 34 0,bs.getD 35 0,bs.getD 36 0,bs.getD 37 0,bs.getD 38 0,bs.getD 39 0,bs.getD 40 0,bs.getD 41 0,bs.getD 42 0,bs.getD 43 0,bs.getD 44 0,bs.getD 45 0,bs.getD 46 0,bs.getD 47 0⟩
def dn (bs:List UInt8):Nat:=(num4 bs 4).toNat
def dw (bs:List UInt8):Nat:=(dn bs+3) / 4*4
def decE (bs:List UInt8):Int:=
 if frontE bs≠0 then frontE bs else if dn bs=0 then 0 else
 if bs.length < 52+dw bs+4 then 3 else if le4 (sum ((bs.drop 52).take (dw bs)))=((bs.drop 52).drop (dw bs)).take 4 then
  (if((bs.drop 52).take (dw bs)).drop (dn bs)=List.replicate (dw bs - dn bs) 0 then 0 else 2)else 4
def decN (bs:List UInt8):Int:=if dn bs=0 then 52 else 56+dw bs
def decD (bs:List UInt8):List UInt8:=(bs.drop 52).take (dn bs)
theorem byt_of {n:Int} (h0:0<=n) (h1:n < 256):bn (byt n)=n:=by
 have:=byt_toNat n
 show((byt n).toNat:Int)=n
 rw[this];omega
theorem fl_all:∀f:Fin 128,(decide ((128:UInt8)<=byt (f.val:Int))=false/\(byt (f.val:Int)&&& 127)=byt (f.val:Int))/\decide ((128:UInt8)<=(byt (f.val:Int)|||128))=true/\((byt (f.val:Int)|||128)&&& 127)=byt (f.val:Int):=by decide+kernel
theorem known_range {op:Int} (h:known op=true):0<=op/\op < 64:=by
 simp only[known,Bool.or_eq_true,beq_iff_eq]at h;omega
theorem num_at (pre post:List UInt8) (x:Int) (hx:0<=x/\x < 4294967296) (a:Int) (ha:a=(pre.length:Int)):num4 (pre++putL x 4++post) a=x:=by
 have:=getV_at (pre:=pre) (post:=post) (x:=x) (n:=4) hx.1 (by omega) ha
 unfold num4
 rw[show(4:Int)=((4:Nat):Int) from rfl,this]
 exact Int.emod_eq_of_lt hx.1 (by simpa using hx.2)
theorem hdr_read (p:Pd) (n:Nat) (post:List UInt8) (hf:PdFits p) (hk:okP p=true) (hn:n<=4096):pdOf (hdr p n++post)=p/\dn (hdr p n++post)=n/\known (bn ((hdr p n++post).getD 0 0))=true/\(hdr p n++post).getD 3 0=0/\num4 (hdr p n++post) 4=n:=by
 simp only[okP,Bool.and_eq_true,decide_eq_true_eq]at hk
 obtain⟨⟨⟨⟨k1,k2⟩,k3⟩,k4⟩,k5⟩:=hk
 have kr:=known_range k1
 have t1:=hf.tag.u32
 have t2:=hf.sn.u32
 have t3:=hf.exp.u32
 have t4:=hf.mx.u32
 have t5:=hf.off.u32
 have t6:=hf.ln.u32
 have f:=fl_all ⟨p.fl.toNat,by omega⟩
 have ef:(((⟨p.fl.toNat,by omega⟩:Fin 128).val:Nat):Int)=p.fl:=by simp;omega
 rw[ef]at f
 have n4:num4 (hdr p n++post) 4=n:=by
  have:=num_at [byt p.op,flB p,byt p.st,0] (puts (nums p)++p.cdb++post) (n:Int) (by omega) 4 rfl
  rw[←this];simp [hdr,h8]
 have a1:=num_at (h8 p n) (puts [p.sn,p.exp,p.mx,p.off,p.ln]++p.cdb++post) p.tag t1 8 (by simp [h8,putL_length])
 have a2:=num_at (h8 p n++putL p.tag 4) (puts [p.exp,p.mx,p.off,p.ln]++p.cdb++post) p.sn t2 12 (by simp [h8,putL_length])
 have a3:=num_at (h8 p n++putL p.tag 4++putL p.sn 4) (puts [p.mx,p.off,p.ln]++p.cdb++post) p.exp t3 16 (by simp [h8,putL_length])
 have a4:=num_at (h8 p n++putL p.tag 4++putL p.sn 4++putL p.exp 4) (puts [p.off,p.ln]++p.cdb++post) p.mx t4 20 (by simp [h8,putL_length])
 have a5:=num_at (h8 p n++putL p.tag 4++putL p.sn 4++putL p.exp 4++putL p.mx 4) (puts [p.ln]++p.cdb++post) p.off t5 24 (by simp [h8,putL_length])
 have a6:=num_at (h8 p n++putL p.tag 4++putL p.sn 4++putL p.exp 4++putL p.mx 4++putL p.off 4) (p.cdb++post) p.ln t6 28 (by simp [h8,putL_length])
 simp only[puts,List.flatMap_cons,List.flatMap_nil,List.append_nil,List.append_assoc]at a1 a2 a3 a4 a5 a6
 have hs:hdr p n++post=h8 p n++(putL p.tag 4++(putL p.sn 4++(putL p.exp 4++(putL p.mx 4++(putL p.off 4++(putL p.ln 4++(p.cdb++post))))))):=by
  simp only[hdr,nums,puts,List.flatMap_cons,List.flatMap_nil,List.append_nil,List.append_assoc]
 have g0:(hdr p n++post).getD 0 0=byt p.op:=rfl
 have g1:(hdr p n++post).getD 1 0=flB p:=rfl
 have g2:(hdr p n++post).getD 2 0=byt p.st:=rfl
 refine⟨?_,?_,?_,rfl,n4⟩
 ·have e1:decide (128<=flB p)=p.fin/\flB p&&& 127=byt p.fl:=by
   unfold flB
   cases hfin:p.fin
   ·exact⟨f.1.1,f.1.2⟩
   ·exact⟨f.2.1,f.2.2⟩
  have q1:=a1;have q2:=a2;have q3:=a3;have q4:=a4;have q5:=a5;have q6:=a6
  rw[←hs]at q1 q2 q3 q4 q5 q6
  unfold pdOf
  rw[g0,g1,g2,e1.1,e1.2,byt_of kr.1 (by omega),byt_of k2 (by omega),byt_of k4 (by omega),q1,q2,q3,q4,q5,q6]
  rfl
 ·unfold dn;rw[n4];omega
 ·rw[g0,byt_of kr.1 (by omega)];exact k1
theorem take48 (p:Pd) (n:Nat) (post:List UInt8):(hdr p n++post).take 48=hdr p n/\(hdr p n++post).drop 48=post:=by
 have:=hdr_length p n
 exact⟨by rw[List.take_append_of_le_length (by omega),List.take_of_length_le (by omega)],by rw[List.drop_append_of_le_length (by omega),List.drop_of_length_le (by omega)];rfl⟩
theorem dec_enc (p:Pd) (ds:List UInt8) (hf:PdFits p) (hk:okP p=true) (hn:ds.length<=4096):decE (encP p ds)=0/\pdOf (encP p ds)=p/\decD (encP p ds)=ds/\decN (encP p ds)=(encP p ds).length/\frontE (encP p ds)=0:=by
 have es:encP p ds=hdr p ds.length++(le4 (sum (hdr p ds.length))++if ds=[] then[] else sealed (pad4 ds)):=by unfold encP sealed;simp only[List.append_assoc]
 have hl:=encP_length p ds
 have eh:=take48 p ds.length (le4 (sum (hdr p ds.length))++if ds=[] then[] else sealed (pad4 ds))
 obtain⟨r1,r2,r3,r4,r5⟩:=hdr_read p ds.length (le4 (sum (hdr p ds.length))++if ds=[] then[] else sealed (pad4 ds)) hf hk hn
 rw[←es]at r1 r2 r3 r4 r5 eh
 have d52:(encP p ds).drop 52=if ds=[] then[] else sealed (pad4 ds):=by
  have:(encP p ds).drop 52=((encP p ds).drop 48).drop 4:=by rw[List.drop_drop]
  rw[this,eh.2];rfl
 have fe:frontE (encP p ds)=0:=by
  unfold frontE
  rw[if_neg (by omega),eh.1,eh.2]
  have:(le4 (sum (hdr p ds.length))++if ds=[] then[] else sealed (pad4 ds)).take 4=le4 (sum (hdr p ds.length)):=rfl
  rw[this,if_pos rfl,if_neg (by rw[r3,r4];simp),r5,if_neg (by omega)]
 by_cases hds:ds=[]
 ·subst hds
  have r2:dn (encP p [])=0:=r2
  refine⟨?_,r1,?_,?_,fe⟩
  ·unfold decE;rw[if_neg (by rw[fe];simp),if_pos r2]
  ·unfold decD;rw[r2];rfl
  ·unfold decN;rw[if_pos r2,hl];rfl
 ·rw[if_neg hds]at d52 hl
  have h0:dn (encP p ds)≠0:=by rw[r2];exact λh=>hds (List.eq_nil_of_length_eq_zero h)
  have ew:dw (encP p ds)=(pad4 ds).length:=by unfold dw;rw[r2,pad4_length]
  obtain⟨pn1,pn2⟩:=padN4 ds.length
  have pl:=pad4_length ds
  have t1:((encP p ds).drop 52).take (dw (encP p ds))=pad4 ds:=by
   rw[d52,ew];unfold sealed;rw[List.take_append_of_le_length (Nat.le_refl _),List.take_of_length_le (Nat.le_refl _)]
  have t2:(((encP p ds).drop 52).drop (dw (encP p ds))).take 4=le4 (sum (pad4 ds)):=by
   rw[d52,ew];unfold sealed;rw[List.drop_append_of_le_length (Nat.le_refl _),List.drop_of_length_le (Nat.le_refl _)];rfl
  refine⟨?_,r1,?_,?_,fe⟩
  ·unfold decE
   rw[if_neg (by rw[fe];simp),if_neg h0,if_neg (by omega),t1,t2,if_pos rfl,if_pos]
   unfold pad4 padS
   rw[r2,List.drop_append_of_le_length (Nat.le_refl _),List.drop_of_length_le (Nat.le_refl _),List.nil_append,pn1]
   congr 1;omega
  ·unfold decD
   rw[d52,r2];unfold sealed pad4 padS
   rw[List.append_assoc,List.take_append_of_le_length (Nat.le_refl _),List.take_of_length_le (Nat.le_refl _)]
  ·unfold decN
   rw[if_neg h0,hl,ew];omega
end Go.Proofs.YtdpmhkbhlbfbeaaGreatDoor.Pdu
end
section
namespace Go.Proofs.YtdpmhkbhlbfbeaaGreatDoor.Pdu
open CW RowKit Crc
abbrev tP:TypeId:=120
theorem Known_c {w:World} {op:Int} {R:KV} (k:R (.bool (known op)) w):Zs 123 #[.int .i64 op] w R:=by
 apply q87W
 refine JoinP.bool (λb w'=>w'=w/\b=known op) (λj hj=>?_) (by rintro b w' ⟨rfl,rfl⟩;exact cond_intro (λe=>by rw[e]at k;exact k) (λe=>by rw[e]at k;exact k))
 have hq:∀b,b=known op->j b w:=λb hb=>hj _ _ ⟨rfl,hb⟩
 iterate 13 refine cond_intro (λe=>hq _ (by simp only[beq_iff_eq]at e;subst e;rfl)) (λ_=>?_)
 refine hq _ ?_
 simp only[known, *,Bool.false_or]
theorem slices_Clip_f {w:World} {v:Value} {bs:List UInt8} {R:KV} (hr:RdB w v bs) (k:∀v',RdB w v' bs->v'.ownBlock=v.ownBlock->Ful v'->R v' w):Zs 50 #[v] w R:=by
 have hd:=hr
 apply q124W
 refine⟨_,RdB.len hd,_,RdB.len hd,?_⟩
 obtain⟨a,cap,rfl,h1,h2,h3,h4⟩:=hr
 rw[List.length_map]at h1
 have h0:(0:Int)<=(bs.length:Int):=by omega
 have e:(bs.length:Int)<=cap:=by omega
 refine⟨.slice (if bs.length=0 then a else a) bs.length bs.length,?_,k _ ?_ ?_ (Ful.mk _ _)⟩
 ·simp only[List.length_map,subSlice,boundsOf,boundOf,h0,e,and_self,if_true,Int.toNat_natCast,Int.le_refl,Nat.sub_zero,Nat.zero_mul]
  split<;>simp [add_zero]
 ·rw[ite_self]
  exact⟨a,bs.length,by simp,by simp,by omega,λhh=>by have:=h3 hh;omega,h4⟩
 ·rw[ite_self];cases a<;>rfl
theorem bin_Put_w {w:World} {v:Value} {bs:List UInt8} {x n:Int} {R:KV} (hr:RdB w v bs) (hb:bs.length<=1000000000000) (hn:1<=n/\n<=8)
 (k:∀v' w',Grow w w'->Wr w' w.heap.size v' ((bs++putL x n.toNat).map b8)->Ful v'->NewV w v'->R v' w'):Zs 41 #[v,.int .u64 x,.int .i64 n] w R:=by
 apply q4W
 refine slices_Clone_c hr (by omega) λv1 w1 g1 o1=>?_
 refine JoinP.bool (λb w'=>b= !(inW n)/\w'=w1) (λj hj=>test_width n j w1 hj) ?_
 have h:inW n=true:=by simpa[inW]using hn
 rintro b w' ⟨rfl,rfl⟩
 refine cond_f (by rw[h];rfl) ?_
 refine⟨λ(vv:Value) (i:Int) (ww:World)=> -1<=i/\i < n/\Grow w ww/\OwnB ww w.heap.size tb vv (bs++(putL x n.toNat).take (n.toNat - (i+1).toNat)),λ(_:Value) (i:Int) (_:World)=>(i+1).toNat,?_,?_⟩
 ·dsimp only
  rw[wi64_id (n:=n - 1) (by omega) (by omega)]
  refine⟨by omega,by omega,g1,?_⟩
  have e:n.toNat - (n - 1+1).toNat=0:=by omega
  rw[e];simpa using o1
 ·dsimp only[allR,mapR2,eqN,ltN]
  rintro m vv i ww ⟨⟨h0,h1,g,o⟩,hm⟩
  refine cond_intro (λh2=>?_) (λh2=>?_)
  ·simp at h2
   obtain⟨i,rfl⟩:=Int.eq_ofNat_of_zero_le h2
   refine leK_intro (by rw[wi64_id (n:=8*(i:Int)) (by omega) (by omega)];omega) ?_
   obtain⟨v',w',k1,k2,k3⟩:=app_byte o g.size _ _ (shr_byte x i (by omega)) (by simp [putL_length];omega)
   refine⟨v',w',k1,⟨?_,?_,g.trans (k3.below g.size o.blk),?_⟩,?_⟩
   all_goals rw[wi64_id (n:=(i:Int) - 1) (by omega) (by omega)]
   ·omega
   ·omega
   ·have e1:((i:Int) - 1+1).toNat=i:=by omega
    have e2:((i:Int)+1).toNat=i+1:=by omega
    rw[e1]
    rw[e2,List.append_assoc,take_putL x n.toNat i (by omega)]at k2
    exact k2
   ·change ((i:Int) - 1+1).toNat < m
    omega
  ·simp at h2
   have e1:(i+1).toNat=0:=by omega
   rw[e1,Nat.sub_zero,List.take_of_length_le (by rw[putL_length];omega)]at o
   have hd:=o.rd
   apply q124W
   refine⟨_,RdB.len hd,_,RdB.len hd,?_⟩
   rcases o.2 with ⟨rfl,hz⟩|⟨g',cap,cur,rfl,hb',hg,hn',hm',hs,ht⟩
   ·rw[List.length_map,List.length_append,putL_length]at hz;omega
   ·have hlen:(bs++putL x n.toNat).length=bs.length+n.toNat:=by rw[List.length_append,putL_length]
    rw[List.length_map]at hn'
    have h0:(0:Int)<=((bs++putL x n.toNat).length:Int):=by omega
    have e:((bs++putL x n.toNat).length:Int)<=cap:=by omega
    refine⟨.slice (some ⟨g',0,none⟩) (bs++putL x n.toNat).length (bs++putL x n.toNat).length,?_,k _ _ g ?_ (Ful.mk _ _) (λq hq=>by cases hq;exact hb')⟩
    ·simp only[List.length_map,subSlice,boundsOf,boundOf,h0,e,and_self,if_true,Int.toNat_natCast,Int.le_refl,Nat.sub_zero]
     split<;>simp [add_zero]
    ·obtain⟨a',cap',hv,k1,k2,k3,k4⟩:=hd
     cases hv
     refine⟨⟨some ⟨g',0,none⟩,(bs++putL x n.toNat).length,by simp,by simp,by simp at k1;omega,λhh=>(by cases hh),k4⟩,λ_=>⟨g',(bs++putL x n.toNat).length,cur,tb,by simp,hb',hg,by simp at hn' ⊢;omega⟩⟩
theorem Reverse_c {w:World} {B:Nat} {v:Value} {bs:List UInt8} {R:KV} (hr:Wr w B v (bs.map b8)) (hB:B<=w.heap.size) (k:∀w',Below B w w'->Wr w' B v (bs.reverse.map b8)->R (.tuple #[]) w'):Zs 165 #[v] w R:=by
 apply q136W
 have hle:=hr.rd.le
 rw[List.length_map]at hle
 refine⟨_,RdB.len hr.rd,?_⟩
 rw[wi64_id (n:=(bs.length:Int) - 1) (by omega) (by omega)]
 refine⟨λ(i j:Int) (ww:World)=>0<=i/\j=(bs.length:Int) - 1 - i/\i<=j+2/\Below B w ww/\∃ys:List UInt8,Wr ww B v (ys.map b8)/\ys.length=bs.length/\∀n,n < bs.length->ys[n]? =if(n:Int) < i\/(bs.length:Int) - 1 - n < i then bs[bs.length - 1 - n]? else bs[n]?,λ(i _:Int) (_:World)=>((bs.length:Int) - i).toNat,?_,?_⟩
 ·exact⟨by omega,by omega,by omega,Below.refl _ _,bs,hr,rfl,λn hn=>by rw[if_neg (by omega)]⟩
 dsimp only[allR,mapR2,eqN,ltN]
 rintro m i j ww ⟨⟨h0,rfl,h1,g,ys,hy,hyl,hya⟩,hm⟩
 refine cond_intro (λh=>?_) (λh=>?_)
 ·simp only[decide_eq_true_eq]at h
  refine nm λw5 e5=>?_
  have g5:=drE e5
  have hy5:=hy.grow g5
  obtain⟨a6,ha6,hc6⟩:=RdB.at hy5.rd (i:=(bs.length:Int) - 1 - i) (by omega) (by omega)
  obtain⟨a8,ha8,hc8⟩:=RdB.at hy5.rd (i:=i) (by omega) (by omega)
  refine⟨a6,ha6,_,hc6,a8,ha8,_,hc8,a8,ha8,nm λw11 e11=>?_⟩
  obtain rfl:w11=w5:=e11.trans e5.symm
  obtain⟨b8',hb8,_,s8,hB8,ho8,p8⟩:=hy5.put (i:=i) (by omega) (by rw[List.length_map];omega)
  obtain rfl:b8'=a8:=by rw[ha8]at hb8;exact(Option.some.inj hb8).symm
  refine⟨s8,nm λw12 e12=>⟨a6,ha6,nm λw14 e14=>?_⟩⟩
  have p12:=p8 (b8 (ys[((bs.length:Int) - 1 - i).toNat]'(by omega)))
  rw[show(World.setCell w11 b8' (b8 (ys[((bs.length:Int) - 1 - i).toNat]'(by omega))))=w14 from e14.symm,←List.map_set]at p12
  obtain⟨b6',hb6,_,s6,hB6,ho6,p6⟩:=p12.put (i:=(bs.length:Int) - 1 - i) (by omega) (by simp;omega)
  obtain rfl:b6'=a6:=by rw[ha6]at hb6;exact(Option.some.inj hb6).symm
  refine⟨s6,nm λw15 e15=>nm λw16 e16=>?_⟩
  have p16:=p6 (b8 (ys[i.toNat]'(by omega)))
  rw[show(World.setCell w14 b6' (b8 (ys[i.toNat]'(by omega))))=w16 from e16.symm,←List.map_set]at p16
  have t14:Below B w w14:=Below.turn (g.trans (g5.mono (Nat.le_trans hB g.size))) (by rw[e14];exact Turn.set _ _ _) hB8
  have t16:Below B w w16:=Below.turn t14 (by rw[e16];exact Turn.set _ _ _) hB6
  rw[wi64_id (n:=i+1) (by omega) (by omega),wi64_id (n:=(bs.length:Int) - 1 - i - 1) (by omega) (by omega)]
  refine⟨⟨by omega,by omega,by omega,t16,_,p16,by simp [hyl],λn hn=>?_⟩,by omega⟩
  have q1:=hya i.toNat (by omega)
  have q2:=hya ((bs.length:Int) - 1 - i).toNat (by omega)
  rw[if_neg (by omega),List.getElem?_eq_getElem (by omega)]at q1
  rw[if_neg (by omega),List.getElem?_eq_getElem (by omega)]at q2
  by_cases e1:n=((bs.length:Int) - 1 - i).toNat
  ·subst e1
   rw[List.getElem?_set_self (by simp;omega),if_pos (by omega),q1]
   congr 1;omega
  ·rw[List.getElem?_set_ne (λe=>e1 e.symm)]
   by_cases e2:n=i.toNat
   ·subst e2
    rw[List.getElem?_set_self (by omega),if_pos (by omega),q2]
    congr 1;omega
   ·rw[List.getElem?_set_ne (λe=>e2 e.symm),hya n hn]
    by_cases e3:(n:Int) < i\/(bs.length:Int) - 1 - n < i
    ·rw[if_pos e3,if_pos (by omega)]
    ·rw[if_neg e3,if_neg (by omega)]
 ·simp only[decide_eq_false_iff_not]at h
  have e:ys=bs.reverse:=by
   apply List.ext_getElem?
   intro n
   by_cases hn:n < bs.length
   ·rw[hya n hn,List.getElem?_reverse hn]
    by_cases e3:(n:Int) < i\/(bs.length:Int) - 1 - n < i
    ·rw[if_pos e3]
    ·rw[if_neg e3]
     have:bs.length - 1 - n=n:=by omega
     rw[this]
   ·rw[List.getElem?_eq_none (by omega),List.getElem?_eq_none (by simp;omega)]
  subst e
  exact k _ g hy
theorem putL_le4 (x:W):(putL (U x) 4).reverse=le4 x:=by
 have d:∀k:Nat,U x / (k:Int)=((x.toNat / k:Nat):Int):=λk=>(Int.natCast_ediv _ _).symm
 have d1:=d 256
 have d2:=d 65536
 have d3:=d 16777216
 have d0:=d 1
 simp only[Int.cast_ofNat_Int,Nat.div_one]at d0 d1 d2 d3
 show[byt (U x / 1),byt (U x / 256),byt (U x / 65536),byt (U x / 16777216)]=le4 x
 rw[d0,d1,d2,d3,byt_nat,byt_nat,byt_nat,byt_nat]
 rfl
theorem pdu_low_c {w:World} {v:Value} {bs:List UInt8} {R:KV} (hr:RdB w v bs) (k:∀v' w',Grow w w'->RdB w' v' (le4 (sum bs))->NewV w v'->R v' w'):Zs 124 #[v] w R:=by
 apply q93W
 refine crc_Sum_c hr λw1 g1=>⟨_,rfl,?_⟩
 have hu:=U_range (sum bs)
 rw[w64_id (n:=U (sum bs)) hu.1 (by omega)]
 refine bin_Put_w (bs:=[]) (Rd.nil w1) (by simp) (by omega) λv3 w3 g3 o3 _ n3=>?_
 refine Reverse_c o3 g3.size λw6 g6 o6=>⟨rfl,k _ _ (g1.then (g3.trans g6)) ?_ (n3.of g1.size)⟩
 have:=o6.rd
 rw[List.nil_append,show((4:Int)).toNat=4 from rfl,putL_le4]at this
 exact this
theorem Grow0_c {w:World} {n:Nat} {R:KV} (hn:n<=1000000000) (k:∀v' w',Grow w w'->OwnB w' w.heap.size tb v' []->R v' w'):Zs 166 #[.slice none 0 0,.int .i64 (n:Int)] w R:=by
 apply q132W
 refine JoinP.unit (λw'=>w'=w) (λj hj=>cond_f (by simp) (hj _ rfl)) ?_
 rintro w' rfl
 refine JoinP.val (λv ww=>Grow w' ww/\OwnB ww w'.heap.size tb v []) (λj hj=>?_) (λv ww h=>k _ _ h.1 h.2)
 refine⟨0,rfl,0,rfl,?_⟩
 have e:IntKind.wrap .i64 ((n:Int) - IntKind.wrap .i64 ((0:Int) - ((0:Nat):Int)))=(n:Int):=by
  rw[wi64_id (n:=(0:Int) - ((0:Nat):Int)) (by omega) (by omega),wi64_id (by omega) (by omega)];omega
 rw[e]
 refine cond_intro (λh=>⟨0,rfl,.slice none 0 0,rfl,?_⟩) (λh=>hj _ _ ⟨Grow.refl _,Own.nil _ _ _⟩)
 simp only[decide_eq_true_eq,gt_iff_lt]at h
 obtain⟨v',w2,h1,o,g⟩:=app_zeros (P:=Tryz.prog) (t:=tB) (tn:=3) (ts:=9) (e:=tb) (w:=w') (kn:=.i64) (bs:=[]) tyB (by kernel_rfl) (by kernel_rfl) (by kernel_rfl) (Own.nil w' w'.heap.size tb) n (by omega) (by simp only[List.length_nil];omega) (Nat.le_refl _)
 rw[List.nil_append]at o
 have ho:w2.ownsRow w'.heap.size tb 1 v' n ((List.replicate n (0:UInt8)).map b8):=by simpa[OwnB,Own]using o
 rcases ho.2 with ⟨_,hz⟩|⟨gb,cap,cur,rfl,hb,hg,hnc,hm,hs,ht⟩
 ·omega
 ·refine⟨_,w2,h1,0,rfl,.slice (some ⟨gb,0,none⟩) 0 cap,?_,hj _ _ ⟨grownBy.below g (Nat.le_refl _) (λk hk=>by cases hk),?_⟩⟩
  ·have hc:(0:Int)<=cap:=by omega
   simp only[subSlice,boundsOf,boundOf,Int.natCast_zero,Int.le_refl,hc,and_self,if_true,Int.toNat_zero,Nat.sub_zero,Nat.zero_mul]
   split<;>simp [add_zero]
  ·exact⟨by simp,.inr ⟨gb,cap,cur,rfl,hb,hg,by simp,hm,hs,by simp⟩⟩
theorem RdBB.rows {w:World} {v:Value} {bss:List (List UInt8)} (h:RdBB w v bss) {i:Int} (h0:0<=i) (h1:i < bss.length):
 ∃a u,sliceAt v i 1=some a/\w.cell? a=some u/\RdB w u (bss[i.toNat]'(by omega)):=by
 obtain⟨a,u,k1,k2,k3⟩:=h.at h0 h1
 exact⟨a,u,k1,k2 w (Grow.refl w),k3⟩
theorem flat_take (bss:List (List UInt8)) (i:Nat) (hi:i < bss.length):(bss.take (i+1)).flatten=(bss.take i).flatten++bss[i]:=by
 rw[List.take_add_one,List.getElem?_eq_getElem hi];rw[List.flatten_append];simp
theorem flat_le (bss:List (List UInt8)) (i:Nat):(bss.take i).flatten.length<=bss.flatten.length:=by
 conv=>rhs;rw[←List.take_append_drop i bss]
 rw[List.flatten_append,List.length_append];omega
theorem Concat_c {w:World} {v:Value} {bss:List (List UInt8)} {R:KV} (hr:RdBB w v bss) (hb:bss.flatten.length<=1000000000) (k:∀v' w',Grow w w'->OwnB w' w.heap.size tb v' bss.flatten->R v' w'):Zs 126 #[v] w R:=by
 apply q127W
 have hle:bss.length<=9223372036854775807:=by obtain⟨vs,r,e,_⟩:=hr;have:=r.le;omega
 refine⟨_,hr.len,?_⟩
 refine⟨λ(n i:Int) (ww:World)=>ww=w/\0<=i/\i<=bss.length/\n=((bss.take i.toNat).flatten.length:Nat),λ(_ i:Int) (_:World)=>((bss.length:Int) - i).toNat,⟨rfl,by omega,by omega,by simp⟩,?_⟩
 dsimp only[allR,mapR2,eqN,ltN]
 rintro m n i ww ⟨⟨rfl,h0,h1,rfl⟩,hm⟩
 refine cond_intro (λh=>?_) (λh=>?_)
 ·simp only[decide_eq_true_eq]at h
  have ft:=flat_take bss i.toNat (by omega)
  have fl:=flat_le bss (i.toNat+1)
  have fe:=congrArg List.length ft
  rw[List.length_append]at fe
  refine JoinP.int (λn' w'=>w'=ww/\n'=((bss.take (i.toNat+1)).flatten.length:Nat)) (λj hj=>?_) ?_
  ·obtain⟨a,u,ha,hc,hru⟩:=RdBB.rows hr h0 h
   refine⟨a,ha,u,hc,_,RdB.len hru,?_⟩
   have e:IntKind.wrap .i64 (((bss.take i.toNat).flatten.length:Int)+((bss[i.toNat]'(by omega)).length:Int))=(((bss.take (i.toNat+1)).flatten.length:Nat):Int):=by
    rw[wi64_id (by omega) (by omega)];omega
   rw[e]
   exact cond_f (by simp) (hj _ _ ⟨rfl,rfl⟩)
  ·rintro n' w' ⟨rfl,rfl⟩
   rw[wi64_id (n:=i+1) (by omega) (by omega)]
   have e:(i+1).toNat=i.toNat+1:=by omega
   exact⟨⟨rfl,by omega,by omega,by rw[e]⟩,by omega⟩
 ·simp only[decide_eq_false_iff_not]at h
  have e:bss.take i.toNat=bss:=List.take_of_length_le (by omega)
  rw[e]
  refine Grow0_c hb λv12 w13 g13 o13=>⟨_,(hr.grow g13).len,?_⟩
  refine⟨λ(v:Value) (i:Int) (w':World)=>0<=i/\i<=bss.length/\Grow ww w'/\OwnB w' ww.heap.size tb v (bss.take i.toNat).flatten,λ(_:Value) (i:Int) (_:World)=>((bss.length:Int) - i).toNat,⟨by omega,by omega,g13,by simpa using o13⟩,?_⟩
  dsimp only[allR,mapR2,eqN,ltN]
  rintro m2 v16 i w18 ⟨⟨h0,h1,g,o⟩,hm2⟩
  refine cond_intro (λh=>?_) (λh=>?_)
  ·simp only[decide_eq_true_eq]at h
   have ft:=flat_take bss i.toNat (by omega)
   have fl:=flat_le bss (i.toNat+1)
   have fe:=congrArg List.length ft
   rw[List.length_append]at fe
   obtain⟨a,u,ha,hc,hru⟩:=RdBB.rows (hr.grow g) h0 h
   obtain⟨v',w',k1,k2,k3⟩:=app_bytes o hru g.size (by omega)
   refine⟨a,ha,u,hc,v',w',k1,?_⟩
   rw[wi64_id (n:=i+1) (by omega) (by omega)]
   have e:(i+1).toNat=i.toNat+1:=by omega
   refine⟨⟨by omega,by omega,g.trans (k3.below g.size o.blk),?_⟩,by omega⟩
   rw[e,ft];exact k2
  ·simp only[decide_eq_false_iff_not]at h
   have e:bss.take i.toNat=bss:=List.take_of_length_le (by omega)
   rw[e]at o
   exact k _ _ g o
theorem or128:∀f:Fin 128,bitsI .or .u8 (f.val:Int) 128=bn (byt (f.val:Int)|||128):=by decide+kernel
theorem puts_take (l:List Int) (i:Nat) (hi:i < l.length):puts (l.take (i+1))=puts (l.take i)++putL l[i] 4:=by
 rw[List.take_add_one,List.getElem?_eq_getElem hi];unfold puts;rw[List.flatMap_append];simp
theorem puts_len (l:List Int):(puts l).length=4*l.length:=by
 induction l with
 |nil=>rfl
 |cons x l ih=>simp only[puts,List.flatMap_cons,List.length_append,List.length_cons,putL_length]at ih ⊢;omega
theorem Encode_c {w:World} {p:Pd} {dv:Value} {ds:List UInt8} {R:KV} (hf:PdFits p) (hd:RdB w dv ds)
 (k:∀v e w',Grow w w'->(okP p=false->v= .slice none 0 0/\e=1)->(okP p=true->4096 < ds.length->v= .slice none 0 0/\e=5)->
  (okP p=true->ds.length<=4096->RdB w' v (encP p ds)/\e=0/\NewV w v)->R (.tuple #[v,.int .i64 e]) w'):Zs 76 #[vP p dv] w R:=by
 apply q86W
 refine nm λw0 e0=>?_
 obtain⟨b0,g0,_⟩:=alE e0
 clear e0
 generalize w.heap.size=hb at *
 refine JoinP.bool (λb w'=>w'=w0/\b=!okP p) (λj hj=>?_) ?_
 ·refine⟨_,b0.cell 0,Known_c ⟨_,rfl,cond_intro (λe=>hj _ _ ⟨rfl,?_⟩) (λe=>?_)⟩⟩
  ·simp only[Bool.not_eq_true']at e;simp [okP,e]
  ·simp only[Bool.not_eq_false']at e
   refine JoinP.bool (λb w'=>w'=w0/\b= !(decide (0<=p.fl)&&decide (p.fl < 128))) (λj1 hj1=>?_) ?_
   ·refine⟨_,b0.cell 2,cond_intro (λh=>hj1 _ _ ⟨rfl,?_⟩) (λh=>⟨_,b0.cell 2,hj1 _ _ ⟨rfl,?_⟩⟩)⟩
    ·simp only[decide_eq_true_eq]at h
     rw[Bool.eq_iff_iff];simp;omega
    ·simp only[decide_eq_false_iff_not]at h
     rw[Bool.eq_iff_iff];simp;omega
   rintro b w' ⟨rfl,rfl⟩
   refine cond_intro (λh=>hj _ _ ⟨rfl,?_⟩) (λh=>⟨_,b0.cell 3,cond_intro (λh2=>hj _ _ ⟨rfl,?_⟩) (λh2=>⟨_,b0.cell 3,hj _ _ ⟨rfl,?_⟩⟩)⟩)
   ·rw[h];simp only[Bool.not_eq_true']at h;simp [okP,e,h]
   ·simp only[decide_eq_true_eq]at h2
    have:¬(0<=p.st):=by omega
    simp [okP,this]
   ·simp only[decide_eq_false_iff_not]at h2
    simp only[Bool.not_eq_false']at h
    simp only[okP,e,h,Bool.true_and]
    rw[Bool.eq_iff_iff];simp;omega
 rintro b w2 ⟨rfl,rfl⟩
 refine cond_intro (λh=>?_) (λh=>?_)
 ·simp only[Bool.not_eq_true']at h
  exact k _ _ _ g0 (λ_=>⟨rfl,rfl⟩) (λe=>by rw[h]at e;cases e) (λe=>by rw[h]at e;cases e)
 simp only[Bool.not_eq_false']at h
 have hd2:=hd.grow g0
 refine⟨_,b0.cell 26,_,RdB.len hd2,cond_intro (λh2=>?_) (λh2=>?_)⟩
 ·simp only[decide_eq_true_eq,gt_iff_lt]at h2
  exact k _ _ _ g0 (λe=>by rw[h]at e;cases e) (λ_ _=>⟨rfl,rfl⟩) (λ_ e=>by omega)
 simp only[decide_eq_false_iff_not,gt_iff_lt]at h2
 have hk:=h
 simp only[okP,Bool.and_eq_true,decide_eq_true_eq]at hk
 obtain⟨⟨⟨⟨k1,k2⟩,k3⟩,k4⟩,k5⟩:=hk
 have kr:=known_range k1
 refine⟨_,b0.cell 2,?_⟩
 refine JoinP.int (λn w'=>w'=w2/\n=bn (flB p)) (λj hj=>⟨_,b0.cell 1,?_⟩) ?_
 ·have hfl:IntKind.wrap .u8 p.fl=p.fl:=w8_id k2 (by omega)
  rw[hfl]
  refine cond_intro (λhfin=>hj _ _ ⟨rfl,?_⟩) (λhfin=>hj _ _ ⟨rfl,?_⟩)
  ·have:=or128 ⟨p.fl.toNat,by omega⟩
   have ef:(((⟨p.fl.toNat,by omega⟩:Fin 128).val:Nat):Int)=p.fl:=by simp;omega
   rw[ef]at this
   unfold flB;rw[if_pos hfin];exact this
  ·unfold flB;rw[if_neg (by rw[hfin];simp),byt_of k2 (by omega)]
 rintro n6 w7 ⟨rfl,rfl⟩
 refine⟨_,b0.cell 0,_,b0.cell 3,nm λw10 e10=>?_⟩
 have ec:(#[(.int .u8 (IntKind.wrap .u8 p.op)),(.int .u8 (bn (flB p))),(.int .u8 (IntKind.wrap .u8 p.st)),(.int .u8 (0:Int))]:Array Value)=(([byt p.op,flB p,byt p.st,0]:List UInt8).map b8).toArray:=by
  rw[b8_wrap,b8_wrap];rfl
 rw[ec]at e10
 obtain⟨_,g10,_⟩:=alE e10
 have o10:OwnB w10 w7.heap.size tb (.slice (some ⟨w7.heap.size,0,none⟩) 4 4) [byt p.op,flB p,byt p.st,0]:=by
  subst e10;exact Own.lit w7 (Nat.le_refl _) tb _ 4 rfl (by simp [maxLen])
 have b10:=b0.grow g10
 have d10:=hd2.grow g10
 refine⟨_,b10.cell 26,_,RdB.len d10,?_⟩
 rw[w64_id (n:=(ds.length:Int)) (by omega) (by omega)]
 refine bin_Put_w o10.rd (by simp) (by omega) λv13 w14 g14 o14 f14 n14=>?_
 have b14:=b10.grow g14
 refine⟨_,b14.cell 4,_,b14.cell 5,_,b14.cell 6,_,b14.cell 7,_,b14.cell 8,_,b14.cell 9,nm λw21 e21=>?_⟩
 obtain⟨b21,g21,_⟩:=alE e21
 have hin:∀i:Nat,i < 6->IntKind.wrap .u64 ((nums p)[i]?.getD 0)=(nums p)[i]?.getD 0:=by
  intro i hi
  have t1:=hf.tag.u32
  have t2:=hf.sn.u32
  have t3:=hf.exp.u32
  have t4:=hf.mx.u32
  have t5:=hf.off.u32
  have t6:=hf.ln.u32
  have:i=0\/i=1\/i=2\/i=3\/i=4\/i=5:=by omega
  rcases this with rfl|rfl|rfl|rfl|rfl|rfl
  ·exact w64_id (n:=p.tag) (by omega) (by omega)
  ·exact w64_id (n:=p.sn) (by omega) (by omega)
  ·exact w64_id (n:=p.exp) (by omega) (by omega)
  ·exact w64_id (n:=p.mx) (by omega) (by omega)
  ·exact w64_id (n:=p.off) (by omega) (by omega)
  ·exact w64_id (n:=p.ln) (by omega) (by omega)
 have gG:=g0.then (g10.then (g14.then g21))
 have hlt:=g0.size
 refine⟨6,rfl,?_⟩
 refine⟨λ(v:Value) (i:Int) (ww:World)=>0<=i/\i<=6/\Grow w21 ww/\RdB ww v (h8 p ds.length++puts ((nums p).take i.toNat))/\Ful v,λ(_:Value) (i:Int) (_:World)=>(6 - i).toNat,⟨by omega,by omega,Grow.refl _,?_,f14⟩,?_⟩
 ·have:RdB w14 v13 ([byt p.op,flB p,byt p.st,0]++putL (ds.length:Int) 4):=o14.rd
  have:=this.grow g21
  have e:h8 p ds.length++puts ((nums p).take (0:Int).toNat)=[byt p.op,flB p,byt p.st,0]++putL (ds.length:Int) 4:=by simp [h8,puts]
  rw[e];exact this
 dsimp only[allR,mapR2,eqN,ltN]
 rintro m v24 i w26 ⟨⟨h0,h1,g26,r26,f26⟩,hm⟩
 have nl:(nums p).length=6:=rfl
 refine cond_intro (λh3=>?_) (λh3=>?_)
 ·have h3:i < 6:=by simpa using h3
  have hcell:w26.cell? (⟨w14.heap.size,i.toNat,none⟩:Addr)=some (.int .u32 ((nums p)[i.toNat]?.getD 0)):=by
   rw[(b21.grow g26).at i.toNat]
   have:i.toNat=0\/i.toNat=1\/i.toNat=2\/i.toNat=3\/i.toNat=4\/i.toNat=5:=by omega
   rcases this with e|e|e|e|e|e<;>rw[e]<;>rfl
  refine⟨⟨w14.heap.size,i.toNat,none⟩,?_,_,hcell,?_⟩
  ·simp only[sliceAt]
   rw[if_pos (by omega),Nat.mul_one,ad0]
  rw[hin i.toNat (by omega)]
  have hpl:=puts_len ((nums p).take i.toNat)
  refine bin_Put_w r26 (by simp only[List.length_append,h8,putL_length,hpl,List.length_take,List.length_cons,List.length_nil];omega) (by omega) λv29 w30 g30 o30 f30 n30=>?_
  rw[wi64_id (n:=i+1) (by omega) (by omega)]
  have e:(i+1).toNat=i.toNat+1:=by omega
  refine⟨⟨by omega,by omega,g26.then g30,?_,f30⟩,by omega⟩
  have hr:=o30.rd
  rw[e,puts_take _ _ (by omega)]
  rw[List.append_assoc]at hr
  have e2:(nums p)[i.toNat]?.getD 0=(nums p)[i.toNat]'(by omega):=by rw[List.getElem?_eq_getElem (by omega)];rfl
  rw[e2]at hr
  exact hr
 ·have h3:¬i < 6:=by simpa using h3
  have et:(nums p).take i.toNat=nums p:=List.take_of_length_le (by omega)
  rw[et]at r26
  have b26:=b14.grow (g21.then g26)
  have rc:RdB w26 (.slice (some (Addr.add ⟨hb,0,none⟩ 10)) 16 16) p.cdb:=rd_mid b26 10 16 (by simp) (by simp [maxLen])
  have hl8:(h8 p ds.length++puts (nums p)).length=32:=by simp [h8,putL_length,puts,nums]
  obtain⟨v31,w32,k31,o32,g32⟩:=app_ful tyB r26 f26 rc one_b8 (by simp [Pd.cdb]) (by simp only[List.length_map,hl8];simp [Pd.cdb])
  have o32:OwnB w32 w26.heap.size tb v31 (hdr p ds.length):=by
   have:(h8 p ds.length++puts (nums p)).map b8++p.cdb.map b8=(hdr p ds.length).map b8:=by rw[←List.map_append];rfl
   rw[OwnB,←this];exact o32
  have hhl:=hdr_length p ds.length
  refine⟨v31,w32,k31,pdu_low_c o32.rd λv33 w34 g34 r34 _=>?_⟩
  obtain⟨v35,w36,k36,o36,n36⟩:=app_bytes (o32.grow g34) r34 (Nat.le_trans g32.size g34.size) (by rw[hhl,le4_length];omega)
  have g36:Grow w26 w36:=(g32.then g34).trans (n36.below (g32.then g34).size o32.blk)
  refine⟨v35,w36,k36,?_⟩
  have gA:Grow w w36:=gG.then (g26.then g36)
  have b36:=b26.grow g36
  have d36:=d10.grow (g14.then (g21.then (g26.then g36)))
  have o36:OwnB w36 w26.heap.size tb v35 (sealed (hdr p ds.length)):=o36
  have sl:=sealed_length (hdr p ds.length)
  have new:∀v:Value,NewV w26 v->NewV w v:=λv h=>h.of (Nat.le_trans gG.size g26.size)
  refine JoinP.val (λv ww=>Grow w ww/\RdB ww v (encP p ds)/\NewV w v) (λj hj=>⟨_,b36.cell 26,_,RdB.len d36,?_⟩) ?_
  ·refine cond_intro (λh4=>?_) (λh4=>?_)
   ·have h4:0 < ds.length:=by simpa using h4
    have hne:ds≠[]:=λe=>by subst e;simp at h4
    refine⟨_,b36.cell 26,bin_Pad_c d36 (by omega) λv45 w46 g46 r46 n46=>?_⟩
    refine pdu_low_c r46 λv47 w48 g48 r48 n48=>?_
    refine oneK_of (Rd.isOne o36.rd) (oneK_of (Rd.isOne r46) (oneK_of (Rd.isOne r48) (nm λw49 e49=>?_)))
    obtain⟨_,g49,_⟩:=alE e49
    have rw49:Rd w49 (.slice (some ⟨w48.heap.size,0,none⟩) 3 3) [v35,v45,v47]:=by
     subst e49;exact(Own.lit w48 (Nat.le_refl _) 34 #[v35,v45,v47] 3 rfl (by simp [maxLen])).rd
    have rr:RdBB w49 (.slice (some ⟨w48.heap.size,0,none⟩) 3 3) [sealed (hdr p ds.length),pad4 ds,le4 (sum (pad4 ds))]:=by
     refine⟨_,rw49,rfl,λi hi hi'=>?_⟩
     have:i=0\/i=1\/i=2:=by simp at hi';omega
     rcases this with rfl|rfl|rfl
     ·exact o36.rd.grow (g46.then (g48.then g49))
     ·exact r46.grow (g48.then g49)
     ·exact r48.grow g49
    have ef:[sealed (hdr p ds.length),pad4 ds,le4 (sum (pad4 ds))].flatten=encP p ds:=by
     unfold encP;rw[if_neg hne];simp [sealed]
    have pl:=pad4_length ds
    refine Concat_c rr (by rw[ef,encP_length,if_neg hne];omega) λv50 w51 g51 o51=>hj _ _ ⟨gA.then (g46.then (g48.then (g49.then g51))),?_,?_⟩
    ·rw[ef]at o51;exact o51.rd
    ·exact λq hq=>Nat.le_trans (gA.then (g46.then (g48.then g49))).size (o51.blk q hq)
   ·have h4:ds.length=0:=by simpa using h4
    have hne:ds=[]:=List.eq_nil_of_length_eq_zero h4
    refine hj _ _ ⟨gA,?_,new _ o36.blk⟩
    have:encP p ds=sealed (hdr p ds.length):=by unfold encP;rw[if_pos hne,List.append_nil]
    rw[this];exact o36.rd
  ·rintro v37 w38 ⟨g,r,n⟩
   refine slices_Clip_c r λv39 r39 e39=>k _ _ _ g (λe=>by rw[h]at e;cases e) (λ_ e=>by omega) (λ_ _=>⟨r39,rfl,λq hq=>n q (e39▸hq)⟩)
end Go.Proofs.YtdpmhkbhlbfbeaaGreatDoor.Pdu
end
section
namespace Go.Proofs.YtdpmhkbhlbfbeaaGreatDoor.Pdu
open CW RowKit Crc
theorem num4_range (bs:List UInt8) (a:Int):0<=num4 bs a/\num4 bs a < 4294967296:=by
 have:=getV_range bs a 4
 exact⟨this.1,this.2⟩
def pdI (bs:List UInt8) (i:Nat):Pd:={pdOf bs with tag:=if 0 < i then num4 bs 8 else 0,sn:=if 1 < i then num4 bs 12 else 0,exp:=if 2 < i then num4 bs 16 else 0,mx:=if 3 < i then num4 bs 20 else 0,off:=if 4 < i then num4 bs 24 else 0,ln:=if 5 < i then num4 bs 28 else 0}
theorem pdI_next (bs:List UInt8) (d:Value) (i:Nat) (hi:i < 6):(rP (pdI bs i) d).setIfInBounds (4+i) (.int .u32 (num4 bs ((8:Int)+4*(i:Int))))=rP (pdI bs (i+1)) d:=by
 have:i=0\/i=1\/i=2\/i=3\/i=4\/i=5:=by omega
 rcases this with rfl|rfl|rfl|rfl|rfl|rfl<;>rfl
theorem and128:∀c:Fin 256,(bitsI .and .u8 (c.val:Int) 128 !=0)=decide ((128:UInt8)<=UInt8.ofNat c.val)/\bitsI .andNot .u8 (c.val:Int) 128=bn (UInt8.ofNat c.val&&& 127):=by decide+kernel
theorem fl_bits (c:UInt8):(bitsI .and .u8 (c.toNat:Int) 128 !=0)=decide ((128:UInt8)<=c)/\bitsI .andNot .u8 (c.toNat:Int) 128=bn (c&&& 127):=by
 have:=and128 ⟨c.toNat,c.toNat_lt⟩
 simpa using this
theorem byte_at {w:World} {v:Value} {bs:List UInt8} (h:RdB w v bs) (i:Nat) (hi:i < bs.length):∃a,sliceAt v (i:Int) 1=some a/\w.cell? a=some (.int .u8 (bn (bs.getD i 0))):=by
 obtain⟨a,h1,h2⟩:=RdB.at h (i:=(i:Int)) (by omega) (by omega)
 refine⟨a,h1,h2.trans ?_⟩
 have:bs.getD i 0=bs[((i:Int)).toNat]'(by omega):=by
  simp only[Int.toNat_natCast]
  rw[List.getD_eq_getElem?_getD,List.getElem?_eq_getElem hi];rfl
 rw[this]
theorem front_c {w:World} {v:Value} {bs:List UInt8} {R:KV} (hr:RdB w v bs)
 (k:∀w',Grow w w'->R (.tuple #[vP (if frontE bs=0 then pdOf bs else zP) (.slice none 0 0),.int .i64 (if frontE bs=0 then(dn bs:Int)else 0),.int .i64 (frontE bs)]) w'):Zs 128 #[v] w R:=by
 have kf:∀e:Int,frontE bs=e->e≠0->∀w',Grow w w'->R (.tuple #[vP zP (.slice none 0 0),.int .i64 0,.int .i64 e]) w':=by
  intro e he h0 w' g
  have:=k w' g
  rw[he,if_neg h0,if_neg h0]at this
  exact this
 have k0:frontE bs=0->∀w',Grow w w'->R (.tuple #[vP (pdOf bs) (.slice none 0 0),.int .i64 (dn bs:Int),.int .i64 0]) w':=by
  intro he w' g
  have:=k w' g
  rw[he,if_pos rfl,if_pos rfl]at this
  exact this
 have hle:=hr.le
 rw[List.length_map]at hle
 apply q92W
 refine nm λw0 e0=>?_
 obtain⟨b0,g0,_⟩:=alE e0
 clear e0
 have hlt:=b0.lt
 have hr0:=hr.grow g0
 refine bin_Get_c hr0 (by decide) (by decide) ⟨_,_,rfl,_,RdB.len hr,cond_intro (λh=>?_) (λh=>?_)⟩
 ·simp only[decide_eq_true_eq]at h
  refine⟨b0.row rfl rfl,nm λw6 e6=>?_⟩
  obtain⟨b6,t6⟩:=rowE b0 e6 rfl
  exact⟨_,_,_,_,_,_,_,_,_,_,_,_,_,_,_,_,_,_,_,_,_,_,_,_,_,_,_,b6.ld rfl,kf 3 (by unfold frontE;rw[if_pos (by omega)]) (by decide) _ (Below.turn g0 t6 (Nat.le_refl _))⟩
 simp only[decide_eq_false_iff_not]at h
 have hl52:52<=bs.length:=by omega
 refine nm λw34 e34=>?_
 obtain⟨v35,hs35,hr35,_⟩:=Rd.sub hr0 (lo:=none) (hi:=some (.int .i64 48)) (l:=0) (r:=48) (λcap hc=>by rw[bounds_ni (by omega) (by simp at hc;omega)];rfl) (by omega) (by simp;omega)
 obtain⟨v36,hs36,hr36,_⟩:=Rd.sub hr0 (lo:=some (.int .i64 48)) (hi:=some (.int .i64 52)) (l:=48) (r:=52) (λcap hc=>by rw[bounds_ii (by omega) (by omega) (by simp at hc;omega)];rfl) (by omega) (by simp;omega)
 refine⟨v35,hs35,v36,hs36,nm λw37 e37=>?_⟩
 have g37:=drE e37
 have q35:RdB w37 v35 (bs.take 48):=by have:=hr35.grow g37;simpa[RdB,List.map_take]using this
 have q36:RdB w37 v36 ((bs.drop 48).take 4):=by have:=hr36.grow g37;simpa[RdB,List.map_take,List.map_drop]using this
 refine pdu_low_c q35 λv38 w39 g39 r39 _=>?_
 refine slices_Equal_c r39 (q36.grow g39) λw41 g41=>⟨_,rfl,?_⟩
 have gA:=g37.then (g39.then g41)
 have b41:=b0.grow gA
 have g041:Below w.heap.size w w41:=g0.trans (gA.mono (by omega))
 refine cond_intro (λh2=>?_) (λh2=>?_)
 ·simp only[Bool.not_eq_true',decide_eq_false_iff_not]at h2
  refine⟨b41.row rfl rfl,nm λw6 e6=>?_⟩
  obtain⟨b6,t6⟩:=rowE b41 e6 rfl
  exact⟨_,_,_,_,_,_,_,_,_,_,_,_,_,_,_,_,_,_,_,_,_,_,_,_,_,_,_,b6.ld rfl,kf 4 (by unfold frontE;rw[if_neg (by omega),if_neg h2]) (by decide) _ (Below.turn g041 t6 (Nat.le_refl _))⟩
 simp only[Bool.not_eq_false',decide_eq_true_eq]at h2
 have hr41:=hr0.grow gA
 refine JoinP.bool (λb w'=>Grow w41 w'/\b=decide (known (bn (bs.getD 0 0))=false\/bs.getD 3 0≠0)) (λj hj=>?_) ?_
 ·obtain⟨a,ha,hc⟩:=byte_at hr41 0 (by omega)
  have w0:IntKind.wrap .i64 (bn (bs.getD 0 0))=bn (bs.getD 0 0):=wi64_id (by have:=(bs.getD 0 0).toNat_lt;unfold bn;omega) (by have:=(bs.getD 0 0).toNat_lt;unfold bn;omega)
  refine⟨a,ha,_,hc,?_⟩
  rw[w0]
  refine Known_c ⟨_,rfl,cond_intro (λh3=>hj _ _ ⟨Grow.refl _,?_⟩) (λh3=>?_)⟩
  ·simp only[Bool.not_eq_true']at h3
   exact(decide_eq_true (.inl h3)).symm
  ·simp only[Bool.not_eq_false']at h3
   obtain⟨a3,ha3,hc3⟩:=byte_at hr41 3 (by omega)
   refine⟨a3,ha3,_,hc3,hj _ _ ⟨Grow.refl _,?_⟩⟩
   rw[Bool.eq_iff_iff]
   simp only[h3,bne_iff_ne,ne_eq,Bool.true_eq_false,false_or,decide_eq_true_eq]
   constructor
   ·intro h5 h6;exact h5 (by rw[h6];rfl)
   ·intro h5 h6;exact h5 (UInt8.toNat_inj.1 (by simpa using h6))
 rintro b w72 ⟨g72,rfl⟩
 have b72:=b41.grow g72
 have g072:Below w.heap.size w w72:=g041.trans (g72.mono (Nat.le_of_lt b41.lt))
 refine cond_intro (λh3=>?_) (λh3=>?_)
 ·simp only[decide_eq_true_eq]at h3
  refine⟨b72.row rfl rfl,nm λw6 e6=>?_⟩
  obtain⟨b6,t6⟩:=rowE b72 e6 rfl
  exact⟨_,_,_,_,_,_,_,_,_,_,_,_,_,_,_,_,_,_,_,_,_,_,_,_,_,_,_,b6.ld rfl,kf 2 (by unfold frontE;rw[if_neg (by omega),if_pos h2,if_pos h3]) (by decide) _ (Below.turn g072 t6 (Nat.le_refl _))⟩
 simp only[decide_eq_false_iff_not]at h3
 refine cond_intro (λh4=>?_) (λh4=>?_)
 ·simp only[decide_eq_true_eq,gt_iff_lt]at h4
  have h4:4096 < num4 bs 4:=h4
  refine⟨b72.row rfl rfl,nm λw6 e6=>?_⟩
  obtain⟨b6,t6⟩:=rowE b72 e6 rfl
  exact⟨_,_,_,_,_,_,_,_,_,_,_,_,_,_,_,_,_,_,_,_,_,_,_,_,_,_,_,b6.ld rfl,kf 5 (by unfold frontE;rw[if_neg (by omega),if_pos h2,if_neg h3,if_pos h4]) (by decide) _ (Below.turn g072 t6 (Nat.le_refl _))⟩
 simp only[decide_eq_false_iff_not,gt_iff_lt]at h4
 have h4:¬4096 < num4 bs 4:=h4
 have fe:frontE bs=0:=by unfold frontE;rw[if_neg (by omega),if_pos h2,if_neg h3,if_neg h4]
 refine nm λw129 e129=>?_
 have g129:=drE e129
 have hr129:=hr41.grow (g72.then g129)
 obtain⟨a0,ha0,hc0⟩:=byte_at hr129 0 (by omega)
 obtain⟨a1,ha1,hc1⟩:=byte_at hr129 1 (by omega)
 obtain⟨a2,ha2,hc2⟩:=byte_at hr129 2 (by omega)
 refine⟨a0,ha0,_,hc0,a1,ha1,_,hc1,a1,ha1,_,hc1,a2,ha2,_,hc2,?_⟩
 obtain⟨v138,hs138,hr138,_⟩:=Rd.sub hr129 (lo:=some (.int .i64 32)) (hi:=none) (l:=32) (r:=bs.length) (λcap hc=>by rw[bounds_in (by omega) (by simp at hc;simp;omega)];simp) (by omega) (by simp)
 have hr138':RdB w129 v138 (bs.drop 32):=by
  have e:((bs.map b8).drop 32).take (bs.length - 32)=(bs.drop 32).map b8:=by rw[List.map_drop,List.take_of_length_le (by simp)]
  rw[e]at hr138;exact hr138
 obtain⟨a,cap,rfl,c1,c2,c3,c4⟩:=hr138'
 have hdl:((bs.drop 32).map b8).length=bs.length - 32:=by simp
 obtain⟨x,rfl,_⟩:=c4 0 (b8 (bs.getD 32 0)) (by rw[List.getElem?_map,List.getElem?_drop,List.getElem?_eq_getElem (by omega)];simp [List.getElem?_eq_getElem (show 32 < bs.length by omega)])
 have hld:∀w',Grow w129 w'->ldCells w' x 16 #[.int .u8 (bn (bs.getD 32 0)),.int .u8 (bn (bs.getD 33 0)),.int .u8 (bn (bs.getD 34 0)),.int .u8 (bn (bs.getD 35 0)),.int .u8 (bn (bs.getD 36 0)),.int .u8 (bn (bs.getD 37 0)),.int .u8 (bn (bs.getD 38 0)),.int .u8 (bn (bs.getD 39 0)),.int .u8 (bn (bs.getD 40 0)),.int .u8 (bn (bs.getD 41 0)),.int .u8 (bn (bs.getD 42 0)),.int .u8 (bn (bs.getD 43 0)),.int .u8 (bn (bs.getD 44 0)),.int .u8 (bn (bs.getD 45 0)),.int .u8 (bn (bs.getD 46 0)),.int .u8 (bn (bs.getD 47 0))]:=by
  intro w' g
  refine⟨rfl,λi hi=>?_⟩
  obtain⟨y,hy,hyc⟩:=c4 i (b8 (bs.getD (32+i) 0)) (by
   rw[List.getElem?_map,List.getElem?_drop,List.getElem?_eq_getElem (by omega),List.getD_eq_getElem?_getD,List.getElem?_eq_getElem (by omega)];rfl)
  injection hy with hy
  subst hy
  rw[(g.cell (World.block_lt_of_cell? _ _ hyc)).trans hyc]
  have:i=0\/i=1\/i=2\/i=3\/i=4\/i=5\/i=6\/i=7\/i=8\/i=9\/i=10\/i=11\/i=12\/i=13\/i=14\/i=15:=by omega
  rcases this with rfl|rfl|rfl|rfl|rfl|rfl|rfl|rfl|rfl|rfl|rfl|rfl|rfl|rfl|rfl|rfl<;>rfl
 have harr:∀w':World,Sem.run Tryz.prog (Instr.arrayAt 118 (.slice (some x) ((bs.drop 32).map b8).length cap)) w'= .ok (.pointer (some x)) w':=by
  intro w'
  exact run_arrayAt w' 118 tb 16 (some x) _ cap (by kernel_rfl) (by omega)
 refine⟨_,hs138,_,harr w129,withAddr_some ⟨_,_,_,_,_,_,_,_,_,_,_,_,_,_,_,_,hld w129 (Grow.refl _),nm λw157 e157=>?_⟩⟩
 obtain rfl:w157=w129:=e157.trans e129.symm
 have b157:=b72.grow g129
 have g0157:Below w.heap.size w w157:=g072.trans (g129.mono (Nat.le_of_lt b72.lt))
 have gw:=λo=>Grow.al (Grow.refl w157) o
 have cg:∀{a u} o,w157.cell? a=some u->(w157.alloc o).cell? a=some u:=λo h=>((gw o).cell (World.block_lt_of_cell? _ _ h)).trans h
 refine⟨⟨_,cg _ hc0,rfl⟩,⟨_,cg _ hc1,rfl⟩,⟨_,cg _ hc1,rfl⟩,⟨_,cg _ hc2,rfl⟩,⟨_,harr _,rfl⟩,withAddr_some ⟨_,_,_,_,_,_,_,_,_,_,_,_,_,_,_,_,hld _ (gw _),rfl⟩,?_⟩
 refine nm λw180 e180=>nm λw181 e181=>?_
 clear e180 hld
 obtain⟨b181,g181,s181⟩:=alE e181
 clear e181
 have br:=b157.grow g181
 refine⟨b181.row rfl rfl,nm λw182 e182=>nm λw183 e183=>?_⟩
 clear e182
 obtain⟨b183,t183⟩:=rowE b181 e183 rfl
 clear e183
 have hpb:w.heap.size < w157.heap.size:=b157.lt
 have br183:=br.turn t183 (by omega)
 have wb:∀c:UInt8,IntKind.wrap .i64 (bn c)=bn c:=λc=>wi64_id (by have:=c.toNat_lt;unfold bn;omega) (by have:=c.toNat_lt;unfold bn;omega)
 obtain⟨fb1,fb2⟩:=fl_bits (bs.getD 1 0)
 rw[wb,wb,fb1,fb2,wb]at b183
 change BK w183 w157.heap.size (rP (pdI bs 0) (.slice none 0 0)) 120 at b183
 have g0183:Below w.heap.size w w183:=Below.turn (g0157.trans (g181.mono (Nat.le_of_lt hpb))) t183 (Nat.le_of_lt hpb)
 refine nm λw184 e184=>?_
 obtain⟨b184,g184,s184⟩:=alE e184
 clear e184
 refine⟨6,rfl,?_⟩
 have hr183:RdB w183 v bs:=hr.grow g0183
 have hs183:w157.heap.size < w183.heap.size:=b183.lt
 refine⟨λ(i:Int) (ww:World)=>0<=i/\i<=6/\Below w.heap.size w ww/\BK ww w183.heap.size (#[(.pointer (some (Addr.add ⟨w157.heap.size,0,none⟩ 4))),(.pointer (some (Addr.add ⟨w157.heap.size,0,none⟩ 5))),(.pointer (some (Addr.add ⟨w157.heap.size,0,none⟩ 6))),(.pointer (some (Addr.add ⟨w157.heap.size,0,none⟩ 7))),(.pointer (some (Addr.add ⟨w157.heap.size,0,none⟩ 8))),(.pointer (some (Addr.add ⟨w157.heap.size,0,none⟩ 9)))]:Array Value) 250/\BK ww w157.heap.size (rP (pdI bs i.toNat) (.slice none 0 0)) tP/\BK ww w.heap.size (rP zP (.slice none 0 0)) tP,λ(i:Int) (_:World)=>(6 - i).toNat,⟨by omega,by omega,g0183.trans (g184.mono (by omega)),b184,b183.grow g184,br183.grow g184⟩,?_⟩
 dsimp only[allR,mapR2,eqN,ltN]
 rintro m i ww ⟨⟨h0,h1,g,bl,bp,bz⟩,hm⟩
 refine cond_intro (λh5=>?_) (λh5=>?_)
 ·have h5:i < 6:=by simpa using h5
  have hcell:ww.cell? (⟨w183.heap.size,i.toNat,none⟩:Addr)=some (.pointer (some (Addr.add ⟨w157.heap.size,0,none⟩ (4+i.toNat)))):=by
   rw[bl.at i.toNat]
   have:i.toNat=0\/i.toNat=1\/i.toNat=2\/i.toNat=3\/i.toNat=4\/i.toNat=5:=by omega
   rcases this with e|e|e|e|e|e<;>rw[e]<;>rfl
  refine⟨⟨w183.heap.size,i.toNat,none⟩,?_,_,hcell,?_⟩
  ·simp only[sliceAt]
   rw[if_pos (by omega),Nat.mul_one,ad0]
  rw[wi64_id (n:=4*i) (by omega) (by omega),wi64_id (n:=8+4*i) (by omega) (by omega)]
  have hrw:RdB ww v bs:=hr.grow g
  refine bin_Get_c hrw ⟨by simp [IntKind.min,IntKind.bits,IntKind.signed];omega,by simp [IntKind.max,IntKind.bits,IntKind.signed];omega⟩ (by decide) ⟨_,_,rfl,withAddr_some ⟨st1_at bp (by show 4+i.toNat < 27;omega),nm λw196 e196=>?_⟩⟩
  have hn:=num4_range bs (8+4*i)
  rw[show getV bs (8+4*i) 4=num4 bs (8+4*i) from rfl,w32_id hn.1 hn.2]at e196
  obtain⟨b196,t196⟩:=setE bp e196
  rw[wi64_id (n:=i+1) (by omega) (by omega)]
  have e:(i+1).toNat=i.toNat+1:=by omega
  have e2:(8:Int)+4*i=(8:Int)+4*(i.toNat:Int):=by omega
  rw[e2,pdI_next bs _ i.toNat (by omega)]at b196
  refine⟨⟨by omega,by omega,Below.turn g t196 (by omega),bl.turn t196 (by omega),?_,bz.turn t196 (by omega)⟩,by omega⟩
  rw[e];exact b196
 ·have h5:¬i < 6:=by simpa using h5
  obtain rfl:i=6:=by omega
  have bp:BK ww w157.heap.size (rP (pdOf bs) (.slice none 0 0)) tP:=bp
  refine⟨_,_,_,_,_,_,_,_,_,_,_,_,_,_,_,_,_,_,_,_,_,_,_,_,_,_,_,bp.ld rfl,bz.row rfl rfl,nm λw224 e224=>?_⟩
  obtain⟨b224,t224⟩:=rowE bz e224 rfl
  have hn4:=num4_range bs 4
  have hdn:IntKind.wrap .i64 (getV bs 4 4)=(dn bs:Int):=by
   rw[wi64_id (n:=getV bs 4 4) (by have:=hn4.1;unfold num4 at this;omega) (by have:=hn4.2;unfold num4 at this;omega)]
   unfold dn;have:=hn4.1;unfold num4 at *;omega
  refine⟨_,_,_,_,_,_,_,_,_,_,_,_,_,_,_,_,_,_,_,_,_,_,_,_,_,_,_,b224.ld rfl,?_⟩
  rw[hdn]
  exact k0 fe _ (Below.turn g t224 (Nat.le_refl _))
end Go.Proofs.YtdpmhkbhlbfbeaaGreatDoor.Pdu
end
section
namespace Go.Proofs.YtdpmhkbhlbfbeaaGreatDoor.Pdu
open CW RowKit Crc
def decDs (bs:List UInt8):List UInt8:=if decE bs=0 then decD bs else[]
theorem dn_le {bs:List UInt8} (h:frontE bs=0):dn bs<=4096/\52<=bs.length:=by
 unfold frontE at h
 split at h
 ·cases h
 ·split at h
  ·split at h
   ·cases h
   ·split at h
    ·cases h
    ·unfold dn;omega
  ·cases h
theorem wholeW (n:Nat) (h:n<=4096):IntKind.wrap .i64 ((IntKind.wrap .i64 (Int.tdiv (IntKind.wrap .i64 ((n:Int)+(3:Int))) (4:Int)))*(4:Int))=(((n+3) / 4*4:Nat):Int):=by
 rw[wi64_id (n:=(n:Int)+3) (by omega) (by omega),Int.tdiv_eq_ediv_of_nonneg (by omega),wi64_id (n:=((n:Int)+3) / 4) (by omega) (by omega),wi64_id (by omega) (by omega)]
 omega
theorem one_rP {p:Pd} {d:Value} (h:isOne d=true):oneL (rP p d).toList=true:=by
 simp only[oneL,h,show ∀k n,isOne (.int k n)=true from λ_ _=>rfl,show ∀b,isOne (.bool b)=true from λ_=>rfl,Bool.and_true]
theorem Decode_c {w:World} {v:Value} {bs:List UInt8} {R:KV} (hr:RdB w v bs) (hb:bs.length<=1000000000000)
 (k:∀dv w',Grow w w'->RdB w' dv (decDs bs)->NewV w dv->R (.tuple #[vP (if decE bs=0 then pdOf bs else zP) dv,.int .i64 (if decE bs=0 then(decN bs:Int)else 0),.int .i64 (decE bs)]) w'):Zs 82 #[v] w R:=by
 have nilN:NewV w (.slice none 0 0):=λq hq=>by cases hq
 have kf:∀e:Int,decE bs=e->e≠0->∀w',Grow w w'->R (.tuple #[vP zP (.slice none 0 0),.int .i64 0,.int .i64 e]) w':=by
  intro e he h0 w' g
  have:=k (.slice none 0 0) w' g (by unfold decDs;rw[he,if_neg h0];exact Rd.nil _) nilN
  rw[he,if_neg h0,if_neg h0]at this
  exact this
 have k0:decE bs=0->∀dv w',Grow w w'->RdB w' dv (decD bs)->NewV w dv->R (.tuple #[vP (pdOf bs) dv,.int .i64 (decN bs:Int),.int .i64 0]) w':=by
  intro he dv w' g r n
  have:=k dv w' g (by unfold decDs;rw[if_pos he];exact r) n
  rw[he,if_pos rfl,if_pos rfl]at this
  exact this
 have hle:=hr.le
 rw[List.length_map]at hle
 apply q85W
 refine nm λw0 e0=>?_
 obtain⟨b0,g0,_⟩:=alE e0
 clear e0
 have hlt:=b0.lt
 have hgr:∀w',Below w.heap.size w w'->RdB w' v bs:=λw' g=>hr.grow g
 refine front_c (hgr _ g0) λw2 g2=>⟨_,_,_,_,_,_,_,_,_,_,_,_,_,_,_,_,_,_,_,_,_,_,_,_,_,_,_,_,_,rfl,nm λw32 e32=>?_⟩
 obtain⟨b32,g32,_⟩:=alE e32
 clear e32
 refine⟨b32.row rfl rfl,nm λw33 e33=>?_⟩
 obtain⟨b33,t33⟩:=rowE b32 e33 rfl
 clear e33
 have h2s:w.heap.size < w2.heap.size:=Nat.lt_of_lt_of_le hlt g2.size
 have bz33:=((b0.grow g2).grow g32).turn t33 (by omega)
 have g033:Below w.heap.size w w33:=Below.turn ((g0.trans (g2.mono (by omega))).trans (g32.mono (by omega))) t33 (by omega)
 generalize hP:(if frontE bs=0 then pdOf bs else zP)=P at *
 generalize hN:(if frontE bs=0 then(dn bs:Int)else 0)=N at *
 refine JoinP.bool (λb w'=>w'=w33/\b=decide (frontE bs≠0\/N=0)) (λj hj=>cond_intro (λh=>hj _ _ ⟨rfl,?_⟩) (λh=>hj _ _ ⟨rfl,?_⟩)) ?_
 ·exact(decide_eq_true (.inl (by simpa using h))).symm
 ·have h:frontE bs=0:=by simpa using h
  rw[Bool.eq_iff_iff];simp [h]
 rintro b w35 ⟨rfl,rfl⟩
 refine cond_intro (λh=>cond_intro (λh2=>?_) (λh2=>?_)) (λh=>?_)
 ·have h2:frontE bs≠0:=by simpa using h2
  refine⟨bz33.row rfl rfl,nm λw6 e6=>?_⟩
  obtain⟨b6,t6⟩:=rowE bz33 e6 rfl
  exact⟨_,_,_,_,_,_,_,_,_,_,_,_,_,_,_,_,_,_,_,_,_,_,_,_,_,_,_,b6.ld rfl,kf (frontE bs) (by unfold decE;rw[if_pos h2]) h2 _ (Below.turn g033 t6 (Nat.le_refl _))⟩
 ·have h2:frontE bs=0:=by simpa using h2
  simp only[h2,ne_eq,not_true_eq_false,false_or,decide_eq_true_eq]at h
  rw[if_pos h2]at hP hN
  have hd0:dn bs=0:=by omega
  subst hP
  refine⟨_,_,_,_,_,_,_,_,_,_,_,_,_,_,_,_,_,_,_,_,_,_,_,_,_,_,_,b33.ld rfl,bz33.row rfl rfl,nm λw6 e6=>?_⟩
  obtain⟨b6,t6⟩:=rowE bz33 e6 rfl
  refine⟨_,_,_,_,_,_,_,_,_,_,_,_,_,_,_,_,_,_,_,_,_,_,_,_,_,_,_,b6.ld rfl,?_⟩
  have:=k0 (by unfold decE;rw[if_neg (by rw[h2];simp),if_pos hd0]) (.slice none 0 0) w6 (Below.turn g033 t6 (Nat.le_refl _)) (by unfold decD;rw[hd0];exact Rd.nil _) nilN
  rw[show decN bs=52 from by unfold decN;rw[if_pos hd0]]at this
  exact this
 simp only[decide_eq_false_iff_not,not_or,ne_eq,Decidable.not_not]at h
 obtain⟨fe,hN0⟩:=h
 rw[if_pos fe]at hP hN
 obtain⟨hd,hl52⟩:=dn_le fe
 have hd0:dn bs≠0:=by omega
 subst hP
 subst hN
 have eW:=wholeW (dn bs) hd
 rw[eW]
 have hdw:dw bs<=4096/\dn bs<=dw bs:=by unfold dw;omega
 have hrd:=hgr _ g033
 obtain⟨v119,hs119,hr119,hv119⟩:=Rd.sub hrd (lo:=some (.int .i64 52)) (hi:=none) (l:=52) (r:=bs.length) (λcap hc=>by rw[bounds_in (by omega) (by simp;omega)];simp) (by omega) (by simp)
 have r119:RdB w35 v119 (bs.drop 52):=by
  have e:((bs.map b8).drop 52).take (bs.length - 52)=(bs.drop 52).map b8:=by rw[List.map_drop,List.take_of_length_le (by simp)]
  rw[e]at hr119;exact hr119
 have dl:(bs.drop 52).length=bs.length - 52:=by simp
 refine⟨v119,hs119,_,RdB.len r119,?_⟩
 rw[show(((dn bs+3) / 4*4:Nat):Int)=(dw bs:Int) from rfl,wi64_id (n:=(dw bs:Int)+4) (by omega) (by omega)]
 refine cond_intro (λh=>?_) (λh=>?_)
 ·simp only[decide_eq_true_eq,dl]at h
  refine⟨bz33.row rfl rfl,nm λw6 e6=>?_⟩
  obtain⟨b6,t6⟩:=rowE bz33 e6 rfl
  exact⟨_,_,_,_,_,_,_,_,_,_,_,_,_,_,_,_,_,_,_,_,_,_,_,_,_,_,_,b6.ld rfl,kf 3 (by unfold decE;rw[if_neg (by rw[fe];simp),if_neg hd0,if_pos (by omega)]) (by decide) _ (Below.turn g033 t6 (Nat.le_refl _))⟩
 simp only[decide_eq_false_iff_not,dl]at h
 refine nm λw149 e149=>?_
 obtain⟨v150,hs150,hr150,_⟩:=Rd.sub r119 (lo:=none) (hi:=some (.int .i64 (dw bs:Int))) (l:=0) (r:=dw bs) (λcap hc=>by rw[bounds_ni (by omega) (by simp at hc;omega)];rfl) (by omega) (by simp;omega)
 obtain⟨v151,hs151,hr151,_⟩:=Rd.sub r119 (lo:=some (.int .i64 (dw bs:Int))) (hi:=some (.int .i64 ((dw bs:Int)+4))) (l:=dw bs) (r:=dw bs+4) (λcap hc=>by rw[bounds_ii (by omega) (by omega) (by simp at hc;omega)];rfl) (by omega) (by simp;omega)
 refine⟨v150,hs150,v151,hs151,nm λw152 e152=>?_⟩
 have g152:=drE e152
 have q150:RdB w152 v150 ((bs.drop 52).take (dw bs)):=by have:=hr150.grow g152;simpa[RdB,List.map_take]using this
 have q151:RdB w152 v151 (((bs.drop 52).drop (dw bs)).take 4):=by have:=hr151.grow g152;simpa[RdB,List.map_take,List.map_drop]using this
 refine pdu_low_c q150 λv153 w154 g154 r154 _=>?_
 refine slices_Equal_c r154 (q151.grow g154) λw156 g156=>⟨_,rfl,?_⟩
 have gA:=g152.then (g154.then g156)
 have b156:=b33.grow gA
 have bz156:=bz33.grow gA
 have hsz:w.heap.size<=w35.heap.size:=(Nat.le_of_lt bz33.lt)
 have g0156:Below w.heap.size w w156:=g033.trans (gA.mono hsz)
 refine cond_intro (λh2=>?_) (λh2=>?_)
 ·simp only[Bool.not_eq_true',decide_eq_false_iff_not]at h2
  refine⟨bz156.row rfl rfl,nm λw6 e6=>?_⟩
  obtain⟨b6,t6⟩:=rowE bz156 e6 rfl
  exact⟨_,_,_,_,_,_,_,_,_,_,_,_,_,_,_,_,_,_,_,_,_,_,_,_,_,_,_,b6.ld rfl,kf 4 (by unfold decE;rw[if_neg (by rw[fe];simp),if_neg hd0,if_neg (by omega),if_neg h2]) (by decide) _ (Below.turn g0156 t6 (Nat.le_refl _))⟩
 simp only[Bool.not_eq_false',decide_eq_true_eq]at h2
 have hlenD:((bs.drop 52).take (dw bs)).length=dw bs:=by rw[List.length_take];omega
 obtain⟨v186,hs186,hr186,_⟩:=Rd.sub r119 (lo:=some (.int .i64 (dn bs:Int))) (hi:=some (.int .i64 (dw bs:Int))) (l:=dn bs) (r:=dw bs) (λcap hc=>by rw[bounds_ii (by omega) (by omega) (by simp at hc;omega)];rfl) (by omega) (by simp;omega)
 have r186:RdB w35 v186 (((bs.drop 52).take (dw bs)).drop (dn bs)):=by
  have e:(((bs.drop 52).map b8).drop (dn bs)).take (dw bs - dn bs)=(((bs.drop 52).take (dw bs)).drop (dn bs)).map b8:=by simp only[List.map_drop,List.map_take,List.drop_take]
  rw[e]at hr186;exact hr186
 generalize hZ:((bs.drop 52).take (dw bs)).drop (dn bs)=Z at *
 have hZl:Z.length=dw bs - dn bs:=by rw[←hZ,List.length_drop,hlenD]
 refine⟨v186,hs186,_,RdB.len r186,?_⟩
 refine⟨λ(i:Int) (ww:World)=>0<=i/\i<=Z.length/\ww=w156/\∀j:Nat,(j:Int) < i->Z[j]? =some 0,λ(i:Int) (_:World)=>((Z.length:Int) - i).toNat,⟨by omega,by omega,rfl,λj hj=>by omega⟩,?_⟩
 dsimp only[allR,mapR2,eqN,ltN]
 rintro m i ww ⟨⟨h0,h1,rfl,hz⟩,hm⟩
 refine cond_intro (λh3=>?_) (λh3=>?_)
 ·simp only[decide_eq_true_eq]at h3
  obtain⟨i,rfl⟩:=Int.eq_ofNat_of_zero_le h0
  obtain⟨a,ha,hc⟩:=byte_at (r186.grow gA) i (by omega)
  have hgd:Z[i]? =some (Z.getD i 0):=by rw[List.getD_eq_getElem?_getD,List.getElem?_eq_getElem (by omega)];rfl
  refine⟨a,ha,_,hc,cond_intro (λh4=>?_) (λh4=>?_)⟩
  ·simp only[bne_iff_ne,ne_eq]at h4
   refine⟨bz156.row rfl rfl,nm λw6 e6=>?_⟩
   obtain⟨b6,t6⟩:=rowE bz156 e6 rfl
   refine⟨_,_,_,_,_,_,_,_,_,_,_,_,_,_,_,_,_,_,_,_,_,_,_,_,_,_,_,b6.ld rfl,kf 2 ?_ (by decide) _ (Below.turn g0156 t6 (Nat.le_refl _))⟩
   unfold decE
   rw[if_neg (by rw[fe];simp),if_neg hd0,if_neg (by omega),if_pos h2,if_neg]
   rw[hZ]
   intro e
   rw[e,List.getElem?_replicate,if_pos (by omega)]at hgd
   injection hgd with hgd
   rw[e]at h4
   rw[←hgd]at h4
   exact h4 rfl
  ·have h4:bn (Z.getD i 0)=0:=by simpa using h4
   rw[wi64_id (n:=(i:Int)+1) (by omega) (by omega)]
   refine⟨⟨by omega,by omega,rfl,λj hj=>?_⟩,by omega⟩
   by_cases e:j=i
   ·subst e
    rw[hgd]
    have:(Z.getD j 0)=0:=UInt8.toNat_inj.1 (by have:((Z.getD j 0).toNat:Int)=0:=h4;simpa using this)
    rw[this]
   ·exact hz j (by omega)
 ·simp only[decide_eq_false_iff_not]at h3
  have eZ:Z=List.replicate (dw bs - dn bs) 0:=by
   apply List.ext_getElem?
   intro j
   by_cases hj:j < Z.length
   ·rw[hz j (by omega),List.getElem?_replicate,if_pos (by omega)]
   ·rw[List.getElem?_eq_none (by omega),List.getElem?_eq_none (by simp;omega)]
  have de:decE bs=0:=by
   unfold decE
   rw[if_neg (by rw[fe];simp),if_neg hd0,if_neg (by omega),if_pos h2,if_pos (by rw[hZ];exact eZ)]
  obtain⟨v221,hs221,hr221,_⟩:=Rd.sub r119 (lo:=none) (hi:=some (.int .i64 (dn bs:Int))) (l:=0) (r:=dn bs) (λcap hc=>by rw[bounds_ni (by omega) (by simp at hc;omega)];rfl) (by omega) (by simp;omega)
  have q221:RdB ww v221 (decD bs):=by have:=hr221.grow gA;simpa[RdB,List.map_take,decD]using this
  have hdl:(decD bs).length<=4096:=by unfold decD;rw[List.length_take];omega
  refine⟨v221,hs221,slices_Clone_c q221 (by omega) λv222 w223 g223 o223=>?_⟩
  refine slices_Clip_c o223.rd λv224 r224 e224=>?_
  have b225:=b156.grow g223
  have bz225:=bz156.grow g223
  have g0225:Below w.heap.size w w223:=g0156.trans (g223.mono (Nat.le_of_lt bz156.lt))
  have hwb:w2.heap.size < ww.heap.size:=b156.lt
  have n224:∀q,v224.ownBlock=some q->ww.heap.size<=q:=λq hq=>o223.blk q (e224▸hq)
  refine oneK_of (Rd.isOne r224) ⟨st1_at b225 (by show 26 < 27;omega),nm λw226 e226=>?_⟩
  obtain⟨b226,t226⟩:=setE b225 e226
  change BK w226 w2.heap.size (rP (pdOf bs) v224) tP at b226
  have r226:=r224.turn t226 (λhq=>by have:=n224 _ hq;omega)
  have bz226:=bz225.turn t226 (by omega)
  have one:oneL (rP (pdOf bs) v224).toList=true:=by
   exact one_rP (Rd.isOne r224)
  refine⟨_,_,_,_,_,_,_,_,_,_,_,_,_,_,_,_,_,_,_,_,_,_,_,_,_,_,_,b226.ld rfl,bz226.row rfl one,nm λw254 e254=>?_⟩
  obtain⟨b254,t254⟩:=rowE bz226 e254 rfl
  have r254:=r226.turn t254 (λhq=>by have:=n224 _ hq;omega)
  refine⟨_,_,_,_,_,_,_,_,_,_,_,_,_,_,_,_,_,_,_,_,_,_,_,_,_,_,_,b254.ld rfl,?_⟩
  have hcomp:IntKind.wrap .i64 (IntKind.wrap .i64 ((52:Int)+(dw bs:Int))+4)=(decN bs:Int):=by
   rw[wi64_id (n:=52+(dw bs:Int)) (by omega) (by omega),wi64_id (by omega) (by omega)]
   unfold decN;rw[if_neg hd0];omega
  rw[hcomp]
  exact k0 de v224 w254 (Below.turn (Below.turn g0225 t226 (by omega)) t254 (Nat.le_refl _)) r254 (λq hq=>by have:=n224 q hq;omega)
end Go.Proofs.YtdpmhkbhlbfbeaaGreatDoor.Pdu
end
section
namespace Go.Proofs.YtdpmhkbhlbfbeaaGreatDoor.Pdu
open CW RowKit Crc
abbrev tRd:TypeId:=139
def nxB (bs:List UInt8):List UInt8:=if decE bs=0 then bs.drop (decN bs).toNat else if decE bs=3 then bs else[]
def nxE (bs:List UInt8):Int:=if decE bs=0\/decE bs=3 then 0 else decE bs
theorem decN_le {bs:List UInt8} (h:decE bs=0):52<=decN bs/\decN bs<=bs.length:=by
 unfold decE at h
 split at h
 ·next h2=>exact absurd h h2
 ·next h2=>
  have:=dn_le (Decidable.not_not.1 h2)
  split at h
  ·next h3=>unfold decN;rw[if_pos h3];omega
  ·next h3=>
   split at h
   ·cases h
   ·unfold decN;rw[if_neg h3];omega
theorem NewReader_f {w:World} {R:KV} (k:∀w',Grow w w'->w'.heap.size=w.heap.size+1->BK w' w.heap.size #[.slice none 0 0,.int .i64 0] tRd->R (zA w.heap.size) w'):Zs 36 #[] w R:=by
 apply q88W
 refine nm λw0 e0=>?_
 obtain⟨b0,g0,s0⟩:=alE e0
 exact k _ g0 s0 b0
theorem Put_f {w:World} {g:Nat} {v src:Value} {bs cs:List UInt8} {R:KV} (hb:BK w g #[v,.int .i64 0] tRd) (ho:OwnB w 0 tb v bs) (hr:RdB w src cs) (hl:bs.length+cs.length<=1000000000000)
 (k:∀v' w',Step (λq=>q=g\/v.ownBlock=some q) w w' (λq=>q=g\/v'.ownBlock=some q)->BK w' g #[v',.int .i64 0] tRd->OwnB w' 0 tb v' (bs++cs)->R (.tuple #[]) w'):Zs 56 #[zA g,src] w R:=by
 apply q91W
 refine withAddr_some ⟨_,hb.cell 1,cond_t rfl (withAddr_some ⟨_,hb.cell 0,?_⟩)⟩
 obtain⟨v',w',k1,k2,k3⟩:=app_bytes ho hr (Nat.zero_le _) (by omega)
 have hne:=own_ne ho hb (by decide)
 have bk:BK w' g #[v,.int .i64 0] tRd:=(k3.by_.block g hb.lt (λe=>hne e.symm)).trans hb
 refine⟨v',w',k1,withAddr_some (oneK_of (Rd.isOne k2.rd) ⟨st1_at bk (by show 0 < 2;omega),nm λw7 e7=>?_⟩)⟩
 obtain⟨b7,t7⟩:=setE bk e7
 have hne':v'.ownBlock≠some g:=own_ne k2 bk (by decide)
 refine k v' w7 ?_ b7 (k2.turn t7 hne')
 have s1:Step (λq=>q=g\/v.ownBlock=some q) w w' (λq=>(q=g\/v.ownBlock=some q)\/v'.ownBlock=some q):=Step.of_own k3 (λq hq=>.inr hq)
 refine(s1.then (t7.step (.inl (.inl rfl)))).imp (λ_ h=>h) λq hq=>?_
 rcases hq with rfl|hq
 ·exact .inl (.inl rfl)
 ·rcases k3.at_ with e|e
  ·exact .inl (.inr (e▸hq))
  ·exact .inr (e q hq)
theorem Err_f {w:World} {g:Nat} {v:Value} {e:Int} {R:KV} (hb:BK w g #[v,.int .i64 e] tRd) (k:R (.int .i64 e) w):Zs 58 #[zA g] w R:=by
 apply q89W
 exact withAddr_some ⟨_,hb.cell 1,k⟩
theorem Next_f {w:World} {g:Nat} {v:Value} {bs:List UInt8} {R:KV} (hb:BK w g #[v,.int .i64 0] tRd) (ho:OwnB w 0 tb v bs) (hl:bs.length<=1000000000000)
 (k:∀v' dv w',Step (λq=>q=g) w w' (λq=>q=g)->BK w' g #[v',.int .i64 (nxE bs)] tRd->OwnB w' 0 tb v' (nxB bs)->(v'=v\/NewV w v')->RdB w' dv (decDs bs)->NewV w dv->(decDs bs≠[]->∀q,dv.ownBlock=some q->v'.ownBlock≠some q)->
  R (.tuple #[vP (if decE bs=0 then pdOf bs else zP) dv,.bool (decide (decE bs=0))]) w'):Zs 57 #[zA g] w R:=by
 have hg:g < w.heap.size:=hb.lt
 have hne:=own_ne ho hb (by decide)
 apply q90W
 refine nm λw0 e0=>?_
 obtain⟨b0,g0,s0⟩:=alE e0
 clear e0
 have hb0:=hb.grow g0
 have ho0:=ho.grow g0
 refine withAddr_some ⟨_,hb0.cell 1,cond_f (by rfl) (withAddr_some ⟨_,hb0.cell 0,?_⟩)⟩
 refine Decode_c ho0.rd hl λdv w34 g34 r34 n34=>⟨_,_,_,_,_,_,_,_,_,_,_,_,_,_,_,_,_,_,_,_,_,_,_,_,_,_,_,_,_,rfl,nm λw64 e64=>?_⟩
 obtain⟨b64,g64,s64⟩:=alE e64
 clear e64
 have d1':=Rd.isOne r34
 refine⟨b64.row rfl (one_rP d1'),nm λw65 e65=>?_⟩
 obtain⟨b65,t65⟩:=rowE b64 e65 rfl
 clear e65
 have hs34:w.heap.size < w34.heap.size:=Nat.lt_of_lt_of_le b0.lt g34.size
 have gA:Grow w w65:=Below.turn (g0.then (g34.then g64)) t65 (by omega)
 have hb65:=hb.grow gA
 have ho65:=ho.grow gA
 have b0':=((b0.grow g34).grow g64).turn t65 (by omega)
 have g6534:Grow w34 w65:=Below.turn g64 t65 (Nat.le_refl _)
 have mA:Md (λq=>q=g) w.heap.size w w65:=(Md.refl _ _ _).grow gA
 have nil1:isOne (.slice none 0 0)=true:=rfl
 have out:∀{w':World},Md (λq=>q=g) w.heap.size w w'->Step (λq=>q=g) w w' (λq=>q=g):=λm=>m.out
 refine JoinP.unit (λw66=>∃v',Md (λq=>q=g) w.heap.size w w66/\BK w66 w.heap.size (rP zP (.slice none 0 0)) tP/\BK w66 g #[v',.int .i64 (nxE bs)] tRd/\OwnB w66 0 tb v' (nxB bs)/\(v'=v\/NewV w v')/\decE bs≠0) (λj hj=>?_) ?_
 ·refine⟨λ(ww:World)=>ww=w65,λ(_:World)=>0,rfl,?_⟩
  dsimp only[allR,mapR2,eqN,ltN]
  rintro m ww ⟨rfl,hm⟩
  refine cond_intro (λh5=>?_) (λh5=>?_)
  ·have h5:decE bs=0:=by simpa using h5
   obtain⟨d1,d2⟩:=decN_le h5
   have hr:=ho65.rd
   refine withAddr_some ⟨_,hb65.cell 0,?_⟩
   rw[if_pos h5]
   obtain⟨v100,hs,hr100,_⟩:=Rd.sub hr (lo:=some (.int .i64 (decN bs))) (hi:=none) (l:=(decN bs).toNat) (r:=bs.length) (λcap hc=>by rw[bounds_in (by omega) (by simp;omega)];simp) (by omega) (by simp)
   have r100:RdB ww v100 (bs.drop (decN bs).toNat):=by
    have e:((bs.map b8).drop (decN bs).toNat).take (bs.length - (decN bs).toNat)=(bs.drop (decN bs).toNat).map b8:=by rw[List.map_drop,List.take_of_length_le (by simp)]
    rw[e]at hr100;exact hr100
   refine⟨v100,hs,slices_Clone_c r100 (by simp;omega) λv101 w102 g102 o102=>?_⟩
   have hb102:=hb65.grow g102
   have b102:=b65.grow g102
   have bz102:=b0'.grow g102
   have hsz:=b65.lt
   refine withAddr_some (oneK_of (Rd.isOne o102.rd) ⟨st1_at hb102 (by show 0 < 2;omega),nm λw104 e104=>?_⟩)
   obtain⟨b104,t104⟩:=setE hb102 e104
   have bp:=b102.turn t104 (by omega)
   have bz:=bz102.turn t104 (by omega)
   have ho4:OwnB w104 0 tb v101 (bs.drop (decN bs).toNat):=(o102.turn t104 (own_ne o102 hb102 (by decide))).mono (Nat.zero_le _)
   have m104:Md (λq=>q=g) w.heap.size w w104:=(mA.grow g102).turn t104 (.inl rfl)
   have n101:NewV w v101:=λq hq=>Nat.le_trans gA.size (o102.blk q hq)
   have rdv:RdB w104 dv (decDs bs):=by
    have:=(r34.grow g6534).grow g102
    refine this.kept λa u ha hv=>(cell_of_heap (t104.block a.block λe=>?_)).trans ha
    have:=n34 a.block hv
    have:=g0.size
    omega
   refine⟨_,_,_,_,_,_,_,_,_,_,_,_,_,_,_,_,_,_,_,_,_,_,_,_,_,_,_,bp.ld rfl,bz.row rfl (one_rP d1'),nm λw132 e132=>?_⟩
   obtain⟨b132,t132⟩:=rowE bz e132 rfl
   have ht:v101.ownBlock≠some w.heap.size:=own_ne ho4 bz (by decide)
   refine⟨_,_,_,_,_,_,_,_,_,_,_,_,_,_,_,_,_,_,_,_,_,_,_,_,_,_,_,b132.ld rfl,?_⟩
   have hn:nxB bs=bs.drop (decN bs).toNat:=by unfold nxB;rw[if_pos h5]
   have he:nxE bs=0:=by unfold nxE;rw[if_pos (.inl h5)]
   have hdv:decDs bs≠[]->∀q,dv.ownBlock=some q->v101.ownBlock≠some q:=by
    intro hd q hq hq2
    have l1:=Rd.lt r34 (by simpa using hd) q hq
    have l2:=o102.blk q hq2
    have l3:=g6534.size
    omega
   have m132:=m104.turn t132 (.inr (Nat.le_refl _))
   have:=k v101 dv w132 m132.out (by rw[he];exact b104.turn t132 (by omega)) (by rw[hn];exact ho4.turn t132 ht) (.inr n101) (rdv.kept λa u ha hv=>(cell_of_heap (t132.block a.block λe=>by
    have:=n34 a.block hv
    omega)).trans ha) (n34.of g0.size) hdv
   rw[decide_eq_true h5]at this
   exact this
  ·have h5:decE bs≠0:=by simpa using h5
   refine cond_intro (λh6=>?_) (λh6=>?_)
   ·have h6:decE bs=3:=by simpa using h6
    have hn:nxB bs=bs:=by unfold nxB;rw[if_neg h5,if_pos h6]
    have he:nxE bs=0:=by unfold nxE;rw[if_pos (.inr h6)]
    exact hj _ ⟨v,mA,b0',by rw[he];exact hb65,by rw[hn];exact ho65,.inl rfl,h5⟩
   ·have h6:decE bs≠3:=by simpa using h6
    have hn:nxB bs=[]:=by unfold nxB;rw[if_neg h5,if_neg h6]
    have he:nxE bs=decE bs:=by unfold nxE;rw[if_neg (by omega)]
    refine withAddr_some ⟨st1_at hb65 (by show 1 < 2;omega),nm λw161 e161=>?_⟩
    obtain⟨b161,t161⟩:=setE hb65 e161
    refine withAddr_some ⟨st1_at b161 (by show 0 < 2;omega),nm λw163 e163=>?_⟩
    obtain⟨b163,t163⟩:=setE b161 e163
    exact hj _ ⟨.slice none 0 0,(mA.turn t161 (.inl rfl)).turn t163 (.inl rfl),(b0'.turn t161 (by omega)).turn t163 (by omega),by rw[he];exact b163,by rw[hn];exact Own.nil _ _ _,.inr (λq hq=>by cases hq),h5⟩
 ·rintro w66 ⟨v',mq,bz,hq,oq,nq,h5⟩
  refine⟨bz.row rfl rfl,nm λw67 e67=>?_⟩
  obtain⟨b67,t67⟩:=rowE bz e67 rfl
  refine⟨_,_,_,_,_,_,_,_,_,_,_,_,_,_,_,_,_,_,_,_,_,_,_,_,_,_,_,b67.ld rfl,?_⟩
  have ht:v'.ownBlock≠some w.heap.size:=own_ne oq bz (by decide)
  have hds:decDs bs=[]:=by unfold decDs;rw[if_neg h5]
  have m67:=mq.turn t67 (.inr (Nat.le_refl _))
  have:=k v' (.slice none 0 0) w67 m67.out (hq.turn t67 (by omega)) (oq.turn t67 ht) nq (by rw[hds];exact Rd.nil _) (λq hq=>by cases hq) (λ_ q hq=>by cases hq)
  rw[if_neg h5,decide_eq_false h5]at this
  exact this
end Go.Proofs.YtdpmhkbhlbfbeaaGreatDoor.Pdu
end
