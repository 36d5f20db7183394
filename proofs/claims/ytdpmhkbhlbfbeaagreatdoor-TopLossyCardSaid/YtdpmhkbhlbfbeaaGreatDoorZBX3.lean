/- A part of the proof. -/
import Derived.Test.YtdpmhkbhlbfbeaaGreatDoorZGA
set_option linter.unusedSimpArgs false
set_option linter.unusedVariables false
namespace Go.Proofs.YtdpmhkbhlbfbeaaGreatDoor
section
open CW RowKit
abbrev tB:TypeId:=34
abbrev tb:TypeId:=5
theorem tyB:SlTy Tryz.prog tB tb 1:=SlTy.of (by kernel_rfl)
def Law (w:World):KV:=λv w'=>v= .bool true/\Grow w w'
theorem Law.calls {f:FuncId} {args:Array Value} {w:World} (h:Zs f args w (Law w)):Calls Tryz.prog f args w λe w'=>e= .returned (.bool true)/\Below w.heap.size w w':=
 Calls.mono h λe w' ⟨v,he,hv,hg⟩=>⟨by rw[he,hv],hg⟩
theorem b8_xor (a b:UInt8):bitsI .xor .u8 (a.toNat:Int) (b.toNat:Int)=((a ^^^ b).toNat:Int):=by
 have h:∀c:UInt8,BitVec.ofInt 8 (c.toNat:Int)=c.toBitVec:=by
  intro c
  rw[BitVec.ofInt_natCast]
  apply BitVec.eq_of_toNat_eq
  simp
 show IntKind.wrap .u8 (((BitVec.ofInt 8 (a.toNat:Int) ^^^ BitVec.ofInt 8 (b.toNat:Int)).toNat:Nat):Int)=_
 rw[h,h]
 have e:(a.toBitVec ^^^ b.toBitVec).toNat=(a ^^^ b).toNat:=rfl
 rw[e]
 have:=(a ^^^ b).toNat_lt
 exact w8_id (by omega) (by omega)
theorem app_byte {w:World} {B:Nat} {v:Value} {bs:List UInt8} (ho:OwnB w B tb v bs) (hB:B<=w.heap.size) (n:Int) (x:UInt8) (hx:Value.int .u8 n=b8 x) (hb:bs.length<=1099511627776):
 ∃v' w',Sem.run Tryz.prog (Builtin.append_ #[tB,tB] tB #[v,.slice (some ⟨w.heap.size,0,none⟩) 1 1]) (w.alloc (.cells #[.int .u8 n] tb))= .ok v' w'/\OwnB w' B tb v' (bs++[x])/\OwnNext w v w' v':=by
 have ho':OwnB (w.alloc (.cells #[.int .u8 n] tb)) B tb v bs:=Own.grow ho (Grow.al (Grow.refl w) _)
 have hl:=Own.lit w (Nat.le_refl _) tb #[b8 x] 1 rfl (by simp [maxLen])
 rw[hx]
 rw[hx]at ho'
 obtain⟨v',w',h1,h2,h3⟩:=app_own tyB ho' hl.rd (one_b8 (bs:=[x])) (by simp;omega) (by simp;omega)
 exact⟨v',w',h1,by simpa[OwnB]using h2,OwnNext.behind (Grow.al (Grow.refl w) _) h3⟩
theorem app_bytes {w:World} {B:Nat} {v src:Value} {bs cs:List UInt8} (ho:OwnB w B tb v bs) (hr:RdB w src cs) (hB:B<=w.heap.size) (hb:bs.length+cs.length<=1099511627776):
 ∃v' w',Sem.run Tryz.prog (Builtin.append_ #[tB,tB] tB #[v,src]) w= .ok v' w'/\OwnB w' B tb v' (bs++cs)/\OwnNext w v w' v':=by
 obtain⟨v',w',h1,h2,h3⟩:=app_own tyB ho hr one_b8 (by simp;omega) hB
 exact⟨v',w',h1,by simpa[OwnB]using h2,h3⟩
theorem app_copy {w:World} {src:Value} {cs:List UInt8} (hr:RdB w src cs) (hb:cs.length<=1099511627776):
 ∃v' w',Sem.run Tryz.prog (Builtin.append_ #[tB,tB] tB #[.slice (some ⟨w.heap.size,0,none⟩) 0 0,src]) (w.alloc (.cells #[] tb))= .ok v' w'/\OwnB w' w.heap.size tb v' cs/\Grow w w':=by
 have ho:OwnB (w.alloc (.cells #[] tb)) w.heap.size tb (.slice (some ⟨w.heap.size,0,none⟩) 0 0) []:=Own.lit w (Nat.le_refl _) tb #[] 0 rfl (by simp [maxLen])
 obtain⟨v',w',h1,h2,h3⟩:=app_bytes ho (hr.grow (Grow.al (Grow.refl w) _)) (by simp) (by simp;omega)
 exact⟨v',w',h1,h2,(Grow.al (Grow.refl w) _).trans (h3.below (by simp) ho.blk)⟩
theorem slices_Clone_c {w:World} {v:Value} {bs:List UInt8} {R:KV} (hr:RdB w v bs) (hb:bs.length<=1099511627776)
 (k:∀v' w',Grow w w'->OwnB w' w.heap.size tb v' bs->R v' w'):Zs 43 #[v] w R:=by
 apply q126W
 obtain⟨b,hb1,hb2⟩:=Rd.isNil hr
 refine⟨b,hb1,cond_intro (λh=>?_) (λh=>?_)⟩
 ·have:=(hb2 h).1
  simp at this;subst this
  exact k _ _ (Grow.refl _) (Own.nil _ _ _)
 ·obtain⟨v',w',h1,h2,h3⟩:=app_copy hr hb
  exact⟨v',w',h1,k _ _ h3 h2⟩
theorem slices_Clip_c {w:World} {v:Value} {bs:List UInt8} {R:KV} (hr:RdB w v bs) (k:∀v',RdB w v' bs->v'.ownBlock=v.ownBlock->R v' w):Zs 50 #[v] w R:=by
 apply q124W
 refine⟨_,hr.len,_,hr.len,?_⟩
 obtain⟨a,cap,rfl,h1,h2,h3,h4⟩:=hr
 have h0:(0:Int)<=(bs.length:Int):=by omega
 simp only[List.length_map]at h1 h4 ⊢
 refine⟨.slice a bs.length bs.length,?_,k _ ⟨a,bs.length,by simp,by simp,by omega,λh=>by have:=h3 h;omega,h4⟩ (by cases a<;>rfl)⟩
 have e:(bs.length:Int)<=cap:=by omega
 simp only[subSlice,boundsOf,boundOf,h0,e,and_self,if_true,Int.toNat_natCast,Int.le_refl,Nat.sub_zero]
 split
 ·rfl
 ·cases a<;>simp [add_zero]
theorem slices_Clip_w {w:World} {B:Nat} {v:Value} {bs:List UInt8} {R:KV} (hr:OwnB w B tb v bs) (k:∀v',Wr w B v' (bs.map b8)->v'.ownBlock=v.ownBlock->R v' w):Zs 50 #[v] w R:=by
 have hd:=hr.rd
 apply q124W
 refine⟨_,RdB.len hd,_,RdB.len hd,?_⟩
 rcases hr.2 with ⟨rfl,hn⟩|⟨g,cap,cur,rfl,hb,hg,hn,hm,hs,ht⟩
 ·have hb:bs=[]:=by apply List.eq_nil_of_length_eq_zero;simpa using hn
  subst hb
  exact⟨_,rfl,k _ (hr.wr) rfl⟩
 ·have h0:(0:Int)<=(bs.length:Int):=by omega
  rw[List.length_map]at hn
  have e:(bs.length:Int)<=cap:=by omega
  refine⟨.slice (some ⟨g,0,none⟩) bs.length bs.length,?_,k _ ?_ rfl⟩
  ·simp only[subSlice,boundsOf,boundOf,h0,e,and_self,if_true,Int.toNat_natCast,Int.le_refl,Nat.sub_zero]
   split<;>simp [add_zero]
  ·obtain⟨a',cap',hv,k1,k2,k3,k4⟩:=hd
   cases hv
   refine⟨⟨some ⟨g,0,none⟩,bs.length,by simp,by simp,by simp at k1;omega,λhh=>(by cases hh),k4⟩,λ_=>⟨g,bs.length,cur,tb,by simp,hb,hg,by simp;omega⟩⟩
theorem to_text {w:World} {v:Value} {bs:List UInt8} (h:RdB w v bs):Sem.run Tryz.prog (convert tB 9 v) w= .ok (.string (textOf bs)) w:=
 run_text (e:=tb) (by kernel_rfl) (by kernel_rfl) (by kernel_rfl) h
theorem make_bytes {w:World} (n:Nat) (hn:n<=1099511627776):
 ∃v' w',Sem.run Tryz.prog (Instr.makeSlice tB (.int .i64 (n:Int)) (.int .i64 (n:Int))) w= .ok v' w'/\OwnB w' w.heap.size tb v' (List.replicate n 0)/\Grow w w':=by
 obtain⟨v',w',h1,h2,h3⟩:=make_own (w:=w) tyB (u:=.int .u8 0) (by kernel_rfl) rfl n (by omega)
 exact⟨v',w',h1,by rw[OwnB,List.map_replicate];exact h2,h3⟩
end
section
open CW RowKit
def putL (v:Int):Nat->List UInt8
 |0=>[]
 |n+1=>byt (v / (2:Int) ^ (8*n))::putL v n
def inW (n:Int):Bool:=decide (1<=n)&&decide (n<=8)
def putS (bs:List UInt8) (v n:Int):List UInt8:=bif inW n then bs++putL v n.toNat else bs
theorem putL_length (v:Int) (n:Nat):(putL v n).length=n:=by induction n with|zero=>rfl|succ n ih=>simp [putL,ih]
theorem shr_byte (v:Int) (i:Nat) (hi:i < 8):Value.int .u8 (IntKind.wrap .u8 (Int.fdiv v ((2:Int) ^ (min (Int.toNat (IntKind.wrap .i64 ((8:Int)*(i:Int)))) 64))))=b8 (byt (v / (2:Int) ^ (8*i))):=by
 rw[b8_wrap,wi64_id (by omega) (by omega)]
 have e:min (Int.toNat ((8:Int)*(i:Int))) 64=8*i:=by omega
 rw[e,Int.fdiv_eq_ediv_of_nonneg]
 exact Int.pow_nonneg (by omega)
theorem test_width (n:Int) (j:Bool->World->Prop) (w:World) (hj:∀b w',b= !(inW n)/\w'=w->j b w'):
 cond (decide (n < (1:Int))) (j true w) (j (decide (n > (8:Int))) w):=by
 refine cond_intro (λh=>hj _ _ ⟨?_,rfl⟩) (λh=>hj _ _ ⟨?_,rfl⟩)<;>(rw[Bool.eq_iff_iff];simp [inW]at h ⊢;omega)
theorem take_putL (x:Int) (n i:Nat) (h:i < n):(putL x n).take (n - (i+1))++[byt (x / (2:Int) ^ (8*i))]=(putL x n).take (n - i):=by
 induction n with
 |zero=>omega
 |succ n ih=>
  by_cases hi:i=n
  ·subst hi
   have e1:i+1 - (i+1)=0:=by omega
   have e2:i+1 - i=1:=by omega
   rw[e1,e2];simp [putL]
  ·have e1:n+1 - (i+1)=(n - (i+1))+1:=by omega
   have e2:n+1 - i=(n - i)+1:=by omega
   rw[e1,e2]
   simp only[putL,List.take_succ_cons,List.cons_append]
   rw[ih (by omega)]
theorem bin_Put_c {w:World} {v:Value} {bs:List UInt8} {x n:Int} {R:KV} (hr:RdB w v bs) (hb:bs.length<=1000000000000)
 (k:∀v' w',Grow w w'->RdB w' v' (putS bs x n)->NewV w v'->R v' w'):Zs 41 #[v,.int .u64 x,.int .i64 n] w R:=by
 apply q4W
 refine slices_Clone_c hr (by omega) λv1 w1 g1 o1=>?_
 refine JoinP.bool (λb w'=>b= !(inW n)/\w'=w1) (λj hj=>test_width n j w1 hj) ?_
 rintro b w' ⟨rfl,rfl⟩
 refine cond_intro (λh=>?_) (λh=>?_)
 ·refine k _ _ g1 ?_ ?_
  ·simp only[Bool.not_eq_true']at h
   rw[putS,h];exact o1.rd
  ·exact o1.blk
 ·simp at h
  have hn:1<=n/\n<=8:=by simpa[inW]using h
  refine⟨λ(vv:Value) (i:Int) (ww:World)=> -1<=i/\i < n/\Grow w ww/\OwnB ww w.heap.size tb vv (bs++(putL x n.toNat).take (n.toNat - (i+1).toNat)),λ(_:Value) (i:Int) (_:World)=>(i+1).toNat,?_,?_⟩
  ·dsimp only
   rw[wi64_id (n:=n - 1) (by omega) (by omega)]
   refine⟨by omega,by omega,g1,?_⟩
   have e:n.toNat - (n - 1+1).toNat=0:=by omega
   rw[e];simpa using o1
  ·dsimp only[allR,mapR2,eqN,ltN]
   rintro m vv i ww ⟨⟨h0,h1,g,o⟩,hm⟩
   refine cond_intro (λh2=>?_) (λh2=>?_)
   ·simp at h2
    obtain⟨i,rfl⟩:=Int.eq_ofNat_of_zero_le h2
    refine leK_intro (by rw[wi64_id (n:=8*(i:Int)) (by omega) (by omega)];omega) ?_
    obtain⟨v',w',k1,k2,k3⟩:=app_byte o g.size _ _ (shr_byte x i (by omega)) (by simp [putL_length];omega)
    refine⟨v',w',k1,⟨?_,?_,g.trans (k3.below g.size o.blk),?_⟩,?_⟩
    all_goals rw[wi64_id (n:=(i:Int) - 1) (by omega) (by omega)]
    ·omega
    ·omega
    ·have e1:((i:Int) - 1+1).toNat=i:=by omega
     have e2:((i:Int)+1).toNat=i+1:=by omega
     rw[e1]
     rw[e2,List.append_assoc,take_putL x n.toNat i (by omega)]at k2
     exact k2
    ·change ((i:Int) - 1+1).toNat < m
     omega
   ·simp at h2
    have e1:(i+1).toNat=0:=by omega
    rw[e1,Nat.sub_zero,List.take_of_length_le (by rw[putL_length];omega)]at o
    refine slices_Clip_c o.rd λv' r' e'=>k _ _ g ?_ (λq hq=>o.blk q (e'▸hq))
    rw[putS,h];exact r'
def getB (l:Nat) (at_ n:Int):Bool:=inW n&&decide (0<=at_)&&decide (at_+n<=l)
def valL (bs:List UInt8):Int:=bs.foldl (λ(v:Int) c=>v*256+(c.toNat:Int)) 0
def getV (bs:List UInt8) (at_ n:Int):Int:=bif getB bs.length at_ n then valL ((bs.drop at_.toNat).take n.toNat)else 0
theorem valL_snoc (bs:List UInt8) (c:UInt8):valL (bs++[c])=valL bs*256+(c.toNat:Int):=by simp [valL]
theorem fold_range (bs:List UInt8):∀v M:Int,0<=v->v < M->0<=bs.foldl (λ(v:Int) c=>v*256+(c.toNat:Int)) v/\bs.foldl (λ(v:Int) c=>v*256+(c.toNat:Int)) v < M*256 ^ bs.length:=by
 induction bs with
 |nil=>intro v M h0 h1;simp;omega
 |cons c bs ih=>
  intro v M h0 h1
  have hc:c.toNat < 256:=c.toNat_lt
  have h:=ih (v*256+(c.toNat:Int)) (M*256) (by omega) (by omega)
  rw[List.foldl_cons,List.length_cons,Int.pow_succ,Int.mul_comm (256 ^ bs.length),←Int.mul_assoc]
  exact h
theorem valL_range (bs:List UInt8):0<=valL bs/\valL bs < 256 ^ bs.length:=by
 have h:=fold_range bs 0 1 (by omega) (by omega)
 rw[Int.one_mul]at h
 exact h
theorem or_byte {n:Int} {c:UInt8} (h0:0<=n) (h1:n < 72057594037927936):bitsI .or .u64 (IntKind.wrap .u64 (n*(256:Int))) (IntKind.wrap .u64 (c.toNat:Int))=n*256+(c.toNat:Int):=by
 have hc:c.toNat < 256:=c.toNat_lt
 rw[w64_id (n:=n*256) (by omega) (by omega),w64_id (n:=(c.toNat:Int)) (by omega) (by omega)]
 obtain⟨m,rfl⟩:=Int.eq_ofNat_of_zero_le h0
 have hb:IntKind.bits .u64=64:=rfl
 have e:(BitVec.ofInt 64 ((m:Int)*256)|||BitVec.ofInt 64 (c.toNat:Int)).toNat=m*256+c.toNat:=by
  have e1:(BitVec.ofInt 64 ((m:Int)*256))=BitVec.ofNat 64 (m*256):=by rw[←BitVec.ofInt_natCast];rfl
  have e2:(BitVec.ofInt 64 (c.toNat:Int))=BitVec.ofNat 64 c.toNat:=by rw[←BitVec.ofInt_natCast]
  rw[e1,e2,BitVec.toNat_or,BitVec.toNat_ofNat,BitVec.toNat_ofNat,Nat.mod_eq_of_lt (by omega),Nat.mod_eq_of_lt (by omega)]
  have h8:=Nat.two_pow_add_eq_or_of_lt (i:=8) (b:=c.toNat) (by omega) m
  have h9:2 ^ 8*m=m*256:=by omega
  rw[h9]at h8
  omega
 show IntKind.wrap .u64 ((BitVec.ofInt 64 ((m:Int)*256)|||BitVec.ofInt 64 (c.toNat:Int)).toNat:Int)=_
 rw[e,w64_id (by omega) (by omega)]
 omega
theorem take_snoc (bs:List UInt8) (i:Nat) (h:i < bs.length):bs.take (i+1)=bs.take i++[bs[i]]:=by
 rw[List.take_add_one,List.getElem?_eq_getElem h];rfl
theorem pow256 {a b:Nat} (h:a<=b):(256:Int) ^ a<=256 ^ b:=by
 have h1:=Int.ofNat_le.2 (Nat.pow_le_pow_right (n:=256) (by omega) h)
 rw[Int.natCast_pow,Int.natCast_pow]at h1
 exact h1
theorem val_lt7 (bs:List UInt8) (i:Nat) (hi:i < 8) (hl:i<=bs.length):0<=valL (bs.take i)/\valL (bs.take i) < 72057594037927936:=by
 have h:=valL_range (bs.take i)
 have hle:(256:Int) ^ (bs.take i).length<=256 ^ 7:=pow256 (by rw[List.length_take];omega)
 have h7:(256:Int) ^ 7=72057594037927936:=rfl
 rw[h7]at hle
 exact⟨h.1,Int.lt_of_lt_of_le h.2 hle⟩
theorem bin_Get_c {w:World} {v:Value} {bs:List UInt8} {a n:Int} {R:KV} (hr:RdB w v bs) (ha:Fits .i64 a) (hn:Fits .i64 n)
 (k:R (.tuple #[.int .u64 (getV bs a n),.bool (getB bs.length a n)]) w):Zs 54 #[v,.int .i64 a,.int .i64 n] w R:=by
 apply q1W
 have hle:=hr.le
 rw[List.length_map]at hle
 have ha':=ha.i64
 have hn':=hn.i64
 refine JoinP.bool (λb w'=>b= !(getB bs.length a n)/\w'=w) (λj hj=>?_) ?_
 ·refine cond_intro (λh=>hj _ _ ⟨?_,rfl⟩) (λh=>cond_intro (λh'=>hj _ _ ⟨?_,rfl⟩) (λh'=>cond_intro (λh2=>hj _ _ ⟨?_,rfl⟩) (λh2=>⟨_,hr.len,cond_intro (λh3=>hj _ _ ⟨?_,rfl⟩) (λh3=>⟨_,hr.len,hj _ _ ⟨?_,rfl⟩⟩)⟩)))
  all_goals clear hj k hr ha hn
  all_goals rw[Bool.eq_iff_iff];simp only[getB,inW,decide_eq_true_eq,decide_eq_false_iff_not,Bool.not_eq_true',Bool.and_eq_false_iff,Bool.and_eq_true,true_iff]at *
  ·omega
  ·omega
  ·omega
  ·omega
  ·rw[wi64_id (by omega) (by omega)];omega
 ·rintro b w' ⟨rfl,rfl⟩
  refine cond_intro (λh=>?_) (λh=>?_)
  ·simp only[Bool.not_eq_true']at h
   rw[getV,h]at k;exact k
  ·simp only[Bool.not_eq_false']at h
   have hh:(1<=n/\n<=8)/\0<=a/\a+n<=bs.length:=by simpa[getB,inW,and_assoc]using h
   rw[getV,h]at k
   rw[wi64_id (n:=a+n) (by omega) (by omega)]
   obtain⟨v',hs,hr',_⟩:=Rd.sub hr (l:=a.toNat) (r:=(a+n).toNat) (λcap hc=>bounds_ii (k:=.i64) (k':=.i64) hh.2.1 (by omega) (by simp at hc;omega)) (by omega) (by simp;omega)
   have hr2:RdB w' v' ((bs.drop a.toNat).take n.toNat):=by
    have e:(a+n).toNat - a.toNat=n.toNat:=by omega
    rw[e]at hr';simpa[RdB,List.map_take,List.map_drop]using hr'
   generalize hcs:(bs.drop a.toNat).take n.toNat=cs at hr2 k
   have hcl:cs.length=n.toNat:=by rw[←hcs];simp;omega
   refine⟨v',hs,cs.length,hr2.len,?_⟩
   refine⟨λ(x:Int) (i:Int) (ww:World)=>ww=w'/\0<=i/\i<=n/\x=valL (cs.take i.toNat),λ(x:Int) (i:Int) (ww:World)=>(n - i).toNat,?_,?_⟩
   ·dsimp only
    exact⟨rfl,by omega,by omega,by simp [valL]⟩
   ·dsimp only[allR,mapR2,eqN,ltN]
    rintro m x i ww ⟨⟨rfl,h0,h1,hx⟩,hm⟩
    refine cond_intro (λh2=>?_) (λh2=>?_)
    ·simp at h2
     obtain⟨ad,h3,h4⟩:=hr2.at h0 h2
     refine⟨ad,h3,_,h4,?_⟩
     have hv:=val_lt7 cs i.toNat (by omega) (by omega)
     subst hx
     rw[or_byte hv.1 hv.2,wi64_id (n:=i+1) (by omega) (by omega)]
     refine⟨⟨rfl,by omega,by omega,?_⟩,by omega⟩
     have e:(i+1).toNat=i.toNat+1:=by omega
     rw[e,take_snoc cs i.toNat (by omega),valL_snoc]
    ·simp at h2
     rw[List.take_of_length_le (by omega)]at hx
     subst hx;exact k
theorem pow2_256 (n:Nat):(2:Int) ^ (8*n)=256 ^ n:=by rw[Int.pow_mul];rfl
theorem fold_putL (v:Int) (hv:0<=v) (n:Nat):∀acc:Int,(putL v n).foldl (λ(v:Int) c=>v*256+(c.toNat:Int)) acc=acc*256 ^ n+v % 256 ^ n:=by
 obtain⟨m,rfl⟩:=Int.eq_ofNat_of_zero_le hv
 induction n with
 |zero=>intro acc;simp [putL,Int.emod_one]
 |succ n ih=>
  intro acc
  rw[putL,List.foldl_cons,ih,byt_toNat,pow2_256]
  have h1:((m:Int) % 256 ^ (n+1))=(m:Int) % 256 ^ n+256 ^ n*((m:Int) / 256 ^ n % 256):=by
   have h2:=Nat.mod_mul (x:=m) (a:=256 ^ n) (b:=256)
   have h3:=congrArg (Nat.cast:Nat->Int) h2
   simp only[Int.natCast_emod,Int.natCast_mul,Int.natCast_add,Int.natCast_pow,Int.natCast_ediv]at h3
   rw[Int.pow_succ]
   exact h3
  rw[h1,Int.pow_succ,Int.add_mul,Int.mul_assoc,Int.mul_comm 256 (256 ^ n),Int.mul_comm ((m:Int) / 256 ^ n % 256)]
  omega
theorem valL_putL (v:Int) (hv:0<=v) (n:Nat):valL (putL v n)=v % 256 ^ n:=by
 have h:=fold_putL v hv n 0
 rw[Int.zero_mul,Int.zero_add]at h
 exact h
theorem getV_at {pre post:List UInt8} {x:Int} {n:Nat} (hx:0<=x) (hn:1<=n/\n<=8) {a:Int} (ha:a=(pre.length:Int)):getV (pre++putL x n++post) a (n:Int)=x % 256 ^ n:=by
 have hb:getB (pre++putL x n++post).length a (n:Int)=true:=by
  simp only[getB,inW,Bool.and_eq_true,decide_eq_true_eq,List.length_append,putL_length]
  omega
 have e1:(((pre++putL x n++post).drop a.toNat).take ((n:Int).toNat))=putL x n:=by
  have:a.toNat=pre.length:=by omega
  rw[this,Int.toNat_natCast,List.append_assoc,List.drop_left,List.take_left' (putL_length x n)]
 simp only[getV,hb,cond_true]
 rw[e1,valL_putL x hx]
theorem getV_range (bs:List UInt8) (a n:Int):0<=getV bs a n/\getV bs a n < 256 ^ n.toNat:=by
 unfold getV
 cases h:getB bs.length a n
 ·simp only[cond_false]
  exact⟨by omega,Int.pow_pos (by omega)⟩
 ·simp only[cond_true]
  have h1:=valL_range ((bs.drop a.toNat).take n.toNat)
  refine⟨h1.1,Int.lt_of_lt_of_le h1.2 (pow256 ?_)⟩
  rw[List.length_take];omega
end
section
open CW RowKit
def inP (to:Int):Bool:=decide (1<=to)&&decide (to<=4096)
def padN (l:Nat) (to:Int):Nat:=bif inP to then((-(l:Int)) % to).toNat else 0
def padS (bs:List UInt8) (to:Int):List UInt8:=bs++List.replicate (padN bs.length to) 0
theorem test_pad (n:Int) (j:Bool->World->Prop) (w:World) (hj:∀b w',b= !(inP n)/\w'=w->j b w'):
 cond (decide (n < (1:Int))) (j true w) (j (decide (n > (4096:Int))) w):=by
 refine cond_intro (λh=>hj _ _ ⟨?_,rfl⟩) (λh=>hj _ _ ⟨?_,rfl⟩)<;>(rw[Bool.eq_iff_iff];simp [inP]at h ⊢;omega)
theorem pad_go {l k:Nat} {to:Int} (h1:1<=to) (hk:(k:Int)<=(-(l:Int)) % to):(Int.tmod ((l:Int)+(k:Int)) to=0)↔(k:Int)=(-(l:Int)) % to:=by
 rw[Int.tmod_eq_emod_of_nonneg (by omega)]
 have hr0:=Int.emod_nonneg (-(l:Int)) (b:=to) (by omega)
 have hr1:=Int.emod_lt_of_pos (-(l:Int)) (b:=to) (by omega)
 have hd:(-(l:Int)) % to+to*((-(l:Int)) / to)= -(l:Int):=Int.emod_add_mul_ediv _ _
 generalize hr:(-(l:Int)) % to=r at *
 generalize hq:(-(l:Int)) / to=q at *
 constructor
 ·intro h
  obtain⟨c,hc⟩:=Int.dvd_of_emod_eq_zero h
  have e:to*(c+q)=(k:Int) - r:=by rw[Int.mul_add];omega
  have hz:c+q=0:=by
   rcases Int.lt_trichotomy (c+q) 0 with h0|h0|h0
   ·exfalso
    have:to*(c+q)<=to*(-1):=Int.mul_le_mul_of_nonneg_left (by omega) (by omega)
    omega
   ·exact h0
   ·exfalso
    have:to*1<=to*(c+q):=Int.mul_le_mul_of_nonneg_left (by omega) (by omega)
    omega
  rw[hz]at e;omega
 ·intro h
  have e:(l:Int)+(k:Int)=to*(-q):=by rw[Int.mul_neg];omega
  rw[e];exact Int.mul_emod_right _ _
theorem replicate_snoc (n:Nat) (x:UInt8) (bs:List UInt8):(bs++List.replicate n x)++[x]=bs++List.replicate (n+1) x:=by
 rw[List.append_assoc,List.replicate_succ']
theorem bin_Pad_c {w:World} {v:Value} {bs:List UInt8} {to:Int} {R:KV} (hr:RdB w v bs) (hb:bs.length<=1000000000000)
 (k:∀v' w',Grow w w'->RdB w' v' (padS bs to)->NewV w v'->R v' w'):Zs 125 #[v,.int .i64 to] w R:=by
 apply q3W
 refine slices_Clone_c hr (by omega) λv1 w1 g1 o1=>?_
 refine JoinP.bool (λb w'=>b= !(inP to)/\w'=w1) (λj hj=>test_pad to j w1 hj) ?_
 rintro b w' ⟨rfl,rfl⟩
 refine cond_intro (λh=>?_) (λh=>?_)
 ·refine k _ _ g1 ?_ o1.blk
  simp only[Bool.not_eq_true']at h
  have e:padS bs to=bs:=by simp [padS,padN,h]
  rw[e];exact o1.rd
 ·simp at h
  have hn:1<=to/\to<=4096:=by simpa[inP]using h
  have hr1:=Int.emod_lt_of_pos (-(bs.length:Int)) (b:=to) (by omega)
  have hr0:=Int.emod_nonneg (-(bs.length:Int)) (b:=to) (by omega)
  have hp:padN bs.length to=((-(bs.length:Int)) % to).toNat:=by simp [padN,h]
  refine⟨λ(vv:Value) (ww:World)=>∃i:Nat,i<=padN bs.length to/\Grow w ww/\OwnB ww w.heap.size tb vv (bs++List.replicate i 0),λ(vv:Value) (ww:World)=>padN bs.length to+bs.length - (sliceLen vv).getD 0,?_,?_⟩
  ·dsimp only
   exact⟨0,by omega,g1,by simpa using o1⟩
  ·dsimp only[allR,mapR2,eqN,ltN]
   rintro m vv ww ⟨⟨i,h0,g,o⟩,hm⟩
   have hl:=RdB.len o.rd
   refine⟨_,hl,nzK_intro (by omega) (cond_intro (λh2=>?_) (λh2=>?_))⟩
   ·have h3:¬(Int.tmod ((bs.length:Int)+(i:Int)) to=0):=by simpa using h2
    rw[pad_go hn.1 (by omega)]at h3
    obtain⟨v',w',k1,k2,k3⟩:=app_byte o g.size 0 0 rfl (by simp;omega)
    rw[replicate_snoc]at k2
    refine⟨v',w',k1,⟨i+1,by omega,g.trans (k3.below g.size o.blk),k2⟩,?_⟩
    rw[RdB.len k2.rd]
    rw[hl]at hm
    simp at hm ⊢
    omega
   ·have h3:(Int.tmod ((bs.length:Int)+(i:Int)) to=0):=by simpa using h2
    rw[pad_go hn.1 (by omega)]at h3
    refine slices_Clip_c o.rd λv' r' e'=>k _ _ g ?_ (λq hq=>o.blk q (e'▸hq))
    have e:i=padN bs.length to:=by omega
    rw[padS,←e];exact r'
end
end Go.Proofs.YtdpmhkbhlbfbeaaGreatDoor
