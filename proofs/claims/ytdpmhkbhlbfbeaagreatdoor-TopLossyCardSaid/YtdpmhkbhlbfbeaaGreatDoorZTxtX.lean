/- A part of the proof. -/
import Derived.Test.YtdpmhkbhlbfbeaaGreatDoorZItoX
import Derived.Test.YtdpmhkbhlbfbeaaGreatDoorZGB
import Derived.Laws.IdiomStrings
import Derived.Laws.Build
import Derived.Maps.OwnSet
import Derived.Maps.Views
import Derived.Lib.IndexLaws
import Derived.Lib.IndexBytes
import Derived.Lib.IndexMore
import Derived.Lib.SplitLaws
import Derived.Lib.CountLaws
set_option linter.unusedSimpArgs false
set_option linter.unusedVariables false
set_option maxRecDepth 100000
section
namespace Go.Proofs.YtdpmhkbhlbfbeaaGreatDoor.Txt
open CW RowKit
theorem JoinP.go {rs:List Rep} {rest:FunR rs} {body:FunR rs->Prop} (h:body rest):JoinP rs rest body:=h
theorem mk_text (a:Array UInt8):ByteArray.mk a=textOf a.toList:=by simp [textOf]
theorem text_get (l:List UInt8) (i:Nat):(textOf l).get! i=l.getD i 0:=by
 simp [textOf,ByteArray.get!,List.getD,getElem!_def]
 cases l[i]? <;>rfl
theorem text_extract (l:List UInt8) (a b:Nat):(textOf l).extract a b=textOf ((l.drop a).take (b - a)):=by
 apply ByteArray.ext
 apply Array.toList_inj.1
 rw[Lib.extract_data]
 simp [textOf]
theorem text_eqb (a:List UInt8) (b:Array UInt8):((textOf a).toList==(ByteArray.mk b).toList)=decide (a=b.toList):=by rw[mk_text,text_beq']
theorem inside_c {w:World} {c lo hi:Int} {R:KV} (k:R (.bool (decide (c≥lo)&&decide (c<=hi))) w):Zs 119 #[.int .u8 c,.int .u8 lo,.int .u8 hi] w R:=by
 apply q176W
 refine JoinP.go (cond_intro (λh=>?_) (λh=>?_))
 ·rw[h,Bool.true_and]at k;exact k
 ·rw[h,Bool.false_and]at k;exact k
theorem of_c {w:World} {l:List UInt8} {f:Value} {p:UInt8->Bool} {R:KV} (hl:l.length<=1000000000)
 (hf:∀(c:UInt8) (ww:World) (K:KV),Grow w ww->(∀w',Grow ww w'->K (.bool (p c)) w')->callU Tryz.prog f #[.int .u8 (c.toNat:Int)] ww K)
 (k:∀w',Grow w w'->R (.bool (l.all p)) w'):Zs 121 #[.string (textOf l),f] w R:=by
 apply q177W
 unfold q177F
 rw[textOf_size]
 refine⟨λ(i:Int) (ww:World)=>0<=i/\i<=l.length/\Grow w ww/\(l.take i.toNat).all p=true,λ(i:Int) (ww:World)=>(l.length - i).toNat,?_,?_⟩
 ·dsimp only
  exact⟨by omega,by omega,Grow.refl w,by simp⟩
 ·dsimp only[allR,mapR2,eqN,ltN]
  rintro m i ww ⟨⟨h0,h1,g,ha⟩,hm⟩
  refine cond_intro (λh2=>?_) (λh2=>?_)
  ·simp at h2
   have e:l.getD i.toNat 0=l[i.toNat]'(by omega):=by simp [List.getD,show i.toNat < l.length by omega]
   refine⟨⟨h0,h2⟩,?_⟩
   rw[text_get,e]
   refine hf _ ww _ g λw' g'=>⟨_,rfl,cond_intro (λh3=>?_) (λh3=>?_)⟩
   ·have:l.all p=false:=by
     rw[List.all_eq_false]
     exact⟨l[i.toNat]'(by omega),List.getElem_mem _,by simpa using h3⟩
    rw[this]at k
    exact k _ (g.then g')
   ·rw[wi64_id (n:=i+1) (by omega) (by omega)]
    refine⟨⟨by omega,by omega,g.then g',?_⟩,by omega⟩
    have e2:(i+1).toNat=i.toNat+1:=by omega
    rw[e2,take_snoc l i.toNat (by omega),List.all_append,ha]
    simpa using h3
  ·simp at h2
   rw[List.take_of_length_le (by omega)]at ha
   rw[ha]at k
   exact k _ g
def hasP (l p:List UInt8):Bool:=decide (p.length<=l.length)&&decide (l.take p.length=p)
theorem HasPrefix_c {w:World} {l p:List UInt8} {R:KV} (hl:l.length<=1000000000) (hp:p.length<=1000000000) (k:R (.bool (hasP l p)) w):Zs 221 #[.string (textOf l),.string (textOf p)] w R:=by
 apply q149W
 unfold q149F
 rw[textOf_size,textOf_size]
 refine JoinP.go (cond_intro (λh=>?_) (λh=>?_))
 ·simp at h
  refine⟨_,_,_,bounds_ni (k:=.i64) (b:=(p.length:Int)) (by omega) (by omega),?_⟩
  rw[text_extract,text_beq']
  unfold hasP at k
  rw[decide_eq_true (by omega),Bool.true_and]at k
  simpa using k
 ·simp at h
  unfold hasP at k
  rw[decide_eq_false (by omega),Bool.false_and]at k
  exact k
theorem CutPrefix_c {w:World} {l p:List UInt8} {R:KV} (hl:l.length<=1000000000) (hp:p.length<=1000000000)
 (k:R (.tuple #[.string (textOf (bif hasP l p then l.drop p.length else l)),.bool (hasP l p)]) w):Zs 199 #[.string (textOf l),.string (textOf p)] w R:=by
 apply q147W
 apply q148W
 refine HasPrefix_c hl hp ⟨_,rfl,cond_intro (λh=>?_) (λh=>?_)⟩
 ·simp only[Bool.not_eq_true']at h
  rw[h]at k
  exact⟨_,_,rfl,k⟩
 ·simp only[Bool.not_eq_false']at h
  rw[h,cond_true]at k
  have hq:p.length<=l.length:=by unfold hasP at h;simp at h;exact h.1
  rw[textOf_size,textOf_size]
  refine⟨_,_,_,bounds_in (k:=.i64) (a:=(p.length:Int)) (by omega) (by omega),_,_,rfl,?_⟩
  rw[text_extract,List.take_of_length_le (by simp)]
  simpa using k
def digN (c:UInt8):Nat:=bif decide (c.toNat < 58)then c.toNat - 48 else(c.toNat|||32) - 87
def decD (c:UInt8):Bool:=decide (48<=c.toNat)&&decide (c.toNat<=57)
def hexD (c:UInt8):Bool:=(decide (97<=c.toNat)&&decide (c.toNat<=102))||(decide (65<=c.toNat)&&decide (c.toNat<=70))
def okD (b:Int) (c:UInt8):Bool:=decD c||(b==16&&hexD c)
def valD (b:Nat) (l:List UInt8):Nat:=l.foldl (λv c=>v*b+digN c) 0
theorem lower_all:∀n,n < 256->bitsI .or .u8 ((n:Nat):Int) (32:Int)=((n|||32:Nat):Int):=by decide+kernel
theorem hex_facts:∀n,n < 256->((97<=n/\n<=102)\/(65<=n/\n<=70))->97<=(n|||32)/\(n|||32)<=102:=by decide+kernel
theorem digN_lt {b:Nat} {c:UInt8} (hb:b=10\/b=16) (h:okD (b:Int) c=true):digN c < b:=by
 have hc:=c.toNat_lt
 unfold okD decD hexD at h
 unfold digN
 by_cases h1:c.toNat < 58
 ·rw[decide_eq_true h1,cond_true]
  simp at h
  omega
 ·rw[decide_eq_false h1,cond_false]
  simp at h
  have hx:((97<=c.toNat/\c.toNat<=102)\/(65<=c.toNat/\c.toNat<=70)):=by omega
  have:=hex_facts _ hc hx
  omega
theorem valD_snoc (b:Nat) (l:List UInt8) (c:UInt8):valD b (l++[c])=valD b l*b+digN c:=by simp [valD]
theorem valD_lt {b:Nat} (hb:b=10\/b=16) (l:List UInt8) (h:l.all (okD (b:Int))=true):valD b l < b ^ l.length:=by
 have key:∀(l:List UInt8) (v M:Nat),l.all (okD (b:Int))=true->v < M->l.foldl (λv c=>v*b+digN c) v < M*b ^ l.length:=by
  intro l
  induction l with
  |nil=>intro v M _ h;simpa using h
  |cons c l ih=>
   intro v M ha h
   simp only[List.all_cons,Bool.and_eq_true]at ha
   have hd:=digN_lt hb ha.1
   have h2:=ih (v*b+digN c) (M*b) ha.2 (by
    have:(v+1)*b<=M*b:=Nat.mul_le_mul_right _ h
    rw[Nat.add_mul,Nat.one_mul]at this
    omega)
   rw[List.foldl_cons,List.length_cons,Nat.pow_succ,Nat.mul_comm (b ^ l.length),←Nat.mul_assoc]
   exact h2
 have:=key l 0 1 h (by omega)
 simpa[valD]using this
end Go.Proofs.YtdpmhkbhlbfbeaaGreatDoor.Txt
end
section
namespace Go.Proofs.YtdpmhkbhlbfbeaaGreatDoor.Txt
open CW RowKit
abbrev tS:TypeId:=9
theorem bytes_of_text {w:World} (l:List UInt8) (hl:l.length<=1000000):
 ∃v' w',Sem.run Tryz.prog (convert tS tB (.string (textOf l))) w= .ok v' w'/\RdB w' v' l/\Grow w w':=by
 have h:=run_bytes_of_string (P:=Tryz.prog) w tS tB tb (textOf l) (by kernel_rfl) (by kernel_rfl) (by kernel_rfl)
 refine⟨_,_,h,⟨some ⟨w.heap.size,0,none⟩,grownCap w (textOf l).size 0 tb,?_,?_,?_,(λh=>(by cases h)),λi u hi=>⟨_,rfl,?_⟩⟩,Grow.al (Grow.dr (Grow.refl w)) _⟩
 ·simp [textOf_size]
 ·simp only[List.length_map,textOf_size];exact grownCap_ge _ _ _ _
 ·rw[textOf_size];exact grownCap_le_maxLen _ _ _ _ (by simp [maxLen];omega)
 ·rw[ad0]
  refine(World.cell?_alloc_mark w.drew _ _ _ i).trans ?_
  rw[bytesRow_at _ _ _ (by
   have:=(List.getElem?_eq_some_iff.1 hi).1
   simpa[textOf]using this)]
  rw[List.getElem?_map]at hi
  cases hx:l[i]? with
  |none=>rw[hx]at hi;cases hi
  |some x=>
   rw[hx]at hi
   have hlt:=(List.getElem?_eq_some_iff.1 hx).1
   have he:=(List.getElem?_eq_some_iff.1 hx).2
   simp only[Option.map_some,Option.some.injEq]at hi
   subst hi
   simp [textOf,he]
   rfl
theorem JoinP.bi {k:IntKind} {rest:Bool->Int->World->Prop} {body:(Bool->Int->World->Prop)->Prop} (Q:Bool->Int->World->Prop) (hb:∀j:Bool->Int->World->Prop,(∀b n w,Q b n w->j b n w)->body j) (h:∀b n w,Q b n w->rest b n w):JoinP [.bool,.int k] rest body:=hb rest h
theorem ParseUint_c {w:World} {l:List UInt8} {b:Nat} {R:KV} (hb:b=10\/b=16) (h0:l≠[]) (hl:l.length<=9) (ha:l.all (okD (b:Int))=true)
 (k:∀w',Grow w w'->R (.tuple #[.int .u64 (valD b l:Int),.nilIface]) w'):Zs 225 #[.string (textOf l),.int .i64 (b:Int),.int .i64 64] w R:=by
 apply q145W
 unfold q145F
 refine cond_f (by rw[text_eqb];simpa using h0) (JoinP.go ?_)
 refine JoinP.bool (λx w'=>x=true/\w'=w) (λj hj=>cond_t (by simp;omega) (hj _ _ ⟨by simp;omega,rfl⟩)) ?_
 rintro x w6 ⟨rfl,rfl⟩
 refine cond_t rfl ?_
 refine JoinP.int (λn w'=>n=64/\w'=w6) (λj hj=>cond_f rfl (JoinP.go (cond_f rfl (cond_f rfl (hj _ _ ⟨rfl,rfl⟩))))) ?_
 rintro n w7 ⟨rfl,rfl⟩
 refine JoinP.int (λn w'=>1152921504606846976<=n/\w'=w7) (λj hj=>?_) ?_
 ·rcases hb with rfl|rfl
  ·exact cond_t rfl (hj _ _ ⟨by omega,rfl⟩)
  ·exact cond_f rfl (cond_t rfl (hj _ _ ⟨by omega,rfl⟩))
 rintro n6 w8 ⟨hn6,rfl⟩
 obtain⟨v8,w9,hc,r9,g9⟩:=bytes_of_text (w:=w8) l (by omega)
 refine leK_intro (by decide) ⟨v8,w9,hc,l.length,r9.len,?_⟩
 refine⟨λ(x:Bool) (n:Int) (i:Int) (ww:World)=>x=false/\0<=i/\i<=l.length/\n=(valD b (l.take i.toNat):Int)/\Grow w8 ww/\Grow w9 ww,λ(x:Bool) (n:Int) (i:Int) (ww:World)=>(l.length - i).toNat,?_,?_⟩
 ·dsimp only
  exact⟨rfl,by omega,by omega,by simp [valD],g9,Grow.refl _⟩
 ·dsimp only[allR,mapR2,eqN,ltN]
  rintro m x n i ww ⟨⟨rfl,h1,h2,rfl,g,gw⟩,hm⟩
  refine cond_intro (λh3=>?_) (λh3=>?_)
  ·simp at h3
   refine JoinP.go ?_
   obtain⟨a,ha1,ha2⟩:=RdB.at (r9.grow gw) h1 (by omega)
   have hlt:i.toNat < l.length:=by omega
   have hok:okD (b:Int) (l[i.toNat]'hlt)=true:=List.all_eq_true.1 ha _ (List.getElem_mem _)
   have ht:(l.take i.toNat).all (okD (b:Int))=true:=List.all_eq_true.2 λc hc=>List.all_eq_true.1 ha _ (List.mem_of_mem_take hc)
   have hv:=valD_lt hb _ ht
   have hvb:valD b (l.take i.toNat) < 68719476736:=by
    refine Nat.lt_of_lt_of_le hv ?_
    rw[List.length_take]
    have q1:b<=16:=by rcases hb with rfl|rfl<;>decide
    have q2:min i.toNat l.length<=9:=by omega
    have q3:b ^ min i.toNat l.length<=16 ^ min i.toNat l.length:=Nat.pow_le_pow_left q1 _
    have q4:16 ^ min i.toNat l.length<=16 ^ 9:=Nat.pow_le_pow_right (by decide) q2
    exact Nat.le_trans q3 q4
   generalize hcq:l[i.toNat]'hlt=c at *
   have hdl:=digN_lt hb hok
   have hc256:=c.toNat_lt
   refine⟨a,ha1,_,ha2,?_⟩
   generalize hvq:valD b (l.take i.toNat)=v at *
   refine JoinP.bi (λx n w'=>x=false/\n=(digN c:Int)/\w'=ww) (λj hj=>JoinP.go ?_) ?_
   ·have hn95:((c.toNat:Int)==95)=false:=by
     have hx:c.toNat≠95:=λe=>by
      unfold okD decD hexD at hok
      rw[e]at hok
      simp at hok
     simp;omega
    refine cond_f hn95 (cond_f rfl (JoinP.go ?_))
    by_cases hd:decD c=true
    ·have hq:48<=c.toNat/\c.toNat<=57:=by simpa[decD]using hd
     refine cond_t (by simp;omega) (cond_t (by simp;omega) (hj _ _ _ ⟨rfl,?_,rfl⟩))
     unfold digN
     rw[decide_eq_true (by omega),cond_true,w8_id (by omega) (by omega)]
     omega
    ·have hh:((97<=c.toNat/\c.toNat<=102)\/(65<=c.toNat/\c.toNat<=70)):=by
      have:decD c=false:=by simpa using hd
      unfold okD at hok
      rw[this]at hok
      simp [hexD]at hok
      exact hok.2
     have hl2:=hex_facts _ hc256 hh
     have fin:j false (IntKind.wrap .u8 ((IntKind.wrap .u8 (((c.toNat|||32:Nat):Int) - 97))+10)) ww:=by
      refine hj _ _ _ ⟨rfl,?_,rfl⟩
      unfold digN
      rw[decide_eq_false (by omega),cond_false,w8_id (n:=((c.toNat|||32:Nat):Int) - 97) (by omega) (by omega),w8_id (by omega) (by omega)]
      omega
     have low:∀{K:KV},K (.int .u8 ((c.toNat|||32:Nat):Int)) ww->Zs 234 #[.int .u8 (c.toNat:Int)] ww K:=λ{K} kk=>by
      apply q146W
      unfold q146F
      rw[lower_all _ hc256]
      exact kk
     have tail:(Zs 234 #[.int .u8 (c.toNat:Int)] ww λv43 w44=>∃(n45:Int),((v43:Value)=(.int .u8 n45))/\
      cond (decide ((97:Int)<=n45)) (Zs 234 #[.int .u8 (c.toNat:Int)] w44 λv46 w47=>∃(n48:Int),((v46:Value)=(.int .u8 n48))/\w47=ww/\decide (n48<=(122:Int))=true) False):=
      low ⟨_,rfl,cond_t (by simp;omega) (low ⟨_,rfl,rfl,by simp;omega⟩)⟩
     refine cond_intro (λhq=>?_) (λhq=>?_)
     ·refine cond_f (by simp at hq ⊢;omega) (JoinP.go ?_)
      exact low ⟨_,rfl,cond_t (by simp;omega) (low ⟨_,rfl,cond_t (by simp;omega) (low ⟨_,rfl,fin⟩)⟩)⟩
     ·simp at hq;omega
   rintro x n w24 ⟨rfl,rfl,rfl⟩
   have hvb2:valD b (l.take i.toNat)*b<=68719476736*16:=Nat.mul_le_mul (by omega) (by omega)
   rw[hvq]at hvb2
   have eb:IntKind.wrap .u8 (b:Int)=(b:Int):=w8_id (by omega) (by omega)
   have eb2:IntKind.wrap .u64 (b:Int)=(b:Int):=w64_id (by omega) (by omega)
   have em:IntKind.wrap .u64 ((v:Int)*(b:Int))=((v*b:Nat):Int):=by
    rw[w64_id (by rw[←Int.natCast_mul];omega) (by rw[←Int.natCast_mul];omega),Int.natCast_mul]
   have ed:IntKind.wrap .u64 ((digN c:Nat):Int)=(digN c:Int):=w64_id (by omega) (by omega)
   have es:IntKind.wrap .u64 (((v*b:Nat):Int)+((digN c:Nat):Int))=((v*b+digN c:Nat):Int):=by
    rw[w64_id (by omega) (by omega)];omega
   rw[eb,eb2,em,ed,es]
   refine cond_f (by simp;omega) (cond_f (by simp;omega) (JoinP.go ?_))
   refine cond_f (by simp;omega) (cond_f ?_ ?_)
   ·have e64:(IntKind.wrap .u64 ((IntKind.wrap .u64 ((1:Int)*((2:Int) ^ (min (Int.toNat (IntKind.wrap .u64 64)) 64)))) - (1:Int)))=18446744073709551615:=by decide+kernel
    rw[e64]
    simp;omega
   ·rw[wi64_id (n:=i+1) (by omega) (by omega)]
    refine⟨⟨rfl,by omega,by omega,?_,g,gw⟩,by omega⟩
    have e2:(i+1).toNat=i.toNat+1:=by omega
    rw[e2,take_snoc l i.toNat hlt,valD_snoc,hvq,hcq]
  ·simp at h3
   rw[List.take_of_length_le (by omega)]
   refine JoinP.bool (λx w'=>x=false/\w'=ww) (λj hj=>cond_f rfl (hj _ _ ⟨rfl,rfl⟩)) ?_
   rintro x w52 ⟨rfl,rfl⟩
   exact cond_f rfl (k _ g)
end Go.Proofs.YtdpmhkbhlbfbeaaGreatDoor.Txt
end
section
namespace Go.Proofs.YtdpmhkbhlbfbeaaGreatDoor.Txt
open CW RowKit
theorem okD_pos {b:Int} {c:UInt8} (h:okD b c=true):48<=c.toNat:=by
 unfold okD decD hexD at h
 simp at h
 omega
theorem nil_neq (w:World):Sem.run Tryz.prog (binOp BinOp.neq 278 .nilIface .nilIface) w= .ok (.bool false) w:=by rfl
theorem nil_guard (w:World) (a:Operand) (v:Value):Sem.run Tryz.prog (eqGuard BinOp.neq 278 a (.const v) .nilIface .nilIface) w= .ok PUnit.unit w:=by
 simp [eqGuard]
theorem val_small {b:Nat} (hb:b=10\/b=16) {l:List UInt8} (hl:l.length<=9) (ha:l.all (okD (b:Int))=true):valD b l < 68719476736:=by
 have q1:b<=16:=by rcases hb with rfl|rfl<;>decide
 have q3:b ^ l.length<=16 ^ l.length:=Nat.pow_le_pow_left q1 _
 have q4:16 ^ l.length<=16 ^ 9:=Nat.pow_le_pow_right (by decide) hl
 exact Nat.lt_of_lt_of_le (valD_lt hb l ha) (Nat.le_trans q3 q4)
theorem iParseInt_c {w:World} {l:List UInt8} {b:Nat} {R:KV} (hb:b=10\/b=16) (h0:l≠[]) (hl:l.length<=9) (ha:l.all (okD (b:Int))=true)
 (k:∀w',Grow w w'->R (.tuple #[.int .i64 (valD b l:Int),.nilIface]) w'):Zs 215 #[.string (textOf l),.int .i64 (b:Int),.int .i64 64] w R:=by
 apply q64W
 unfold q64F
 have hlen:0 < l.length:=List.length_pos_iff.2 h0
 refine cond_f (by rw[text_eqb];simpa using h0) ⟨⟨by omega,by rw[textOf_size];omega⟩,JoinP.go ?_⟩
 have hg:(textOf l).get! (Int.toNat 0)=l[0]'hlen:=by rw[text_get];simp [List.getD,hlen]
 have h48:=okD_pos (List.all_eq_true.1 ha _ (List.getElem_mem hlen))
 rw[hg]
 refine cond_f (by simp;omega) (cond_f (by simp;omega) ?_)
 refine ParseUint_c hb h0 hl ha λw5 g5=>⟨_,_,rfl,?_⟩
 have hs:=val_small hb hl ha
 generalize hv:valD b l=v at *
 refine JoinP.bool (λx w'=>x=false/\w'=w5) (λj hj=>⟨false,nil_neq w5,nil_guard w5,cond_f rfl (hj _ _ ⟨rfl,rfl⟩)⟩) ?_
 rintro x w9 ⟨rfl,rfl⟩
 refine cond_f rfl (JoinP.int (λn w'=>n=64/\w'=w9) (λj hj=>cond_f rfl (hj _ _ ⟨rfl,rfl⟩)) ?_)
 rintro n w11 ⟨rfl,rfl⟩
 have e63:(IntKind.wrap .u64 ((1:Int)*((2:Int) ^ (min (Int.toNat (IntKind.wrap .u64 (IntKind.wrap .i64 ((64:Int) - (1:Int))))) 64))))=9223372036854775808:=by decide+kernel
 refine leK_intro (by decide+kernel) (JoinP.bool (λx w'=>x=false/\w'=w11) (λj hj=>cond_t rfl (hj _ _ ⟨by rw[e63];simp;omega,rfl⟩)) ?_)
 rintro x w13 ⟨rfl,rfl⟩
 refine cond_f rfl (JoinP.bool (λx w'=>x=false/\w'=w13) (λj hj=>cond_f rfl (hj _ _ ⟨rfl,rfl⟩)) ?_)
 rintro x w16 ⟨rfl,rfl⟩
 refine cond_f rfl (JoinP.go (cond_f rfl ?_))
 have e:IntKind.wrap .i64 (v:Int)=(v:Int):=wi64_id (by omega) (by omega)
 rw[e]
 exact k _ g5
theorem ParseInt_c {w:World} {l:List UInt8} {b:Nat} {R:KV} (hb:b=10\/b=16) (h0:l≠[]) (hl:l.length<=9) (ha:l.all (okD (b:Int))=true)
 (k:∀w',Grow w w'->R (.tuple #[.int .i64 (valD b l:Int),.nilIface]) w'):Zs 203 #[.string (textOf l),.int .i64 (b:Int),.int .i64 64] w R:=by
 apply q144W
 refine iParseInt_c hb h0 hl ha λw1 g1=>⟨_,_,rfl,false,nil_neq w1,nil_guard w1,cond_f rfl (k _ g1)⟩
def hexL (l:List UInt8):Bool:=hasP l [48,120]
def tailL (l:List UInt8):List UInt8:=bif hexL l then l.drop 2 else l
def baseL (l:List UInt8):Nat:=bif hexL l then 16 else 10
def mostL (l:List UInt8):Nat:=bif hexL l then 7 else 9
def isN (l:List UInt8):Bool:=
 !(!hexL l&&(decide (1 < l.length)&&l.getD 0 0==48))&&(!(tailL l).isEmpty&&(decide ((tailL l).length<=mostL l)&&(tailL l).all (okD (baseL l:Int))))
def numN (l:List UInt8):Nat:=bif isN l then valD (baseL l) (tailL l)else 0
theorem digit_c {w:World} {g:Nat} {b:Int} {c:UInt8} {K:KV} (hg:BK w g #[.int .i64 b] 3) (k:K (.bool (okD b c)) w):
 callU Tryz.prog (.func (.func 202) #[] #[zA g]) #[.int .u8 (c.toNat:Int)] w K:=by
 refine callU_of (by kernel_rfl) ?_
 apply q175W
 have ed:(decide ((c.toNat:Int)≥48)&&decide ((c.toNat:Int)<=57))=decD c:=by
  unfold decD;congr 1<;>(rw[decide_eq_decide];omega)
 have el:(decide ((c.toNat:Int)≥97)&&decide ((c.toNat:Int)<=102))=(decide (97<=c.toNat)&&decide (c.toNat<=102)):=by
  congr 1<;>(rw[decide_eq_decide];omega)
 have eu:(decide ((c.toNat:Int)≥65)&&decide ((c.toNat:Int)<=70))=(decide (65<=c.toNat)&&decide (c.toNat<=70)):=by
  congr 1<;>(rw[decide_eq_decide];omega)
 refine JoinP.go (inside_c ⟨_,rfl,cond_intro (λh=>?_) (λh=>?_)⟩)
 ·rw[ed]at h
  unfold okD at k
  rw[h]at k
  exact k
 ·rw[ed]at h
  unfold okD hexD at k
  rw[h,Bool.false_or]at k
  refine withAddr_some ⟨b,hg.at 0,cond_intro (λh2=>?_) (λh2=>?_)⟩
  ·rw[h2,Bool.true_and]at k
   refine inside_c ⟨_,rfl,cond_intro (λh3=>?_) (λh3=>inside_c ⟨_,rfl,?_⟩)⟩
   ·rw[el]at h3;rw[h3]at k;exact k
   ·rw[el]at h3;rw[h3,Bool.false_or]at k;rw[eu];exact k
  ·rw[h2,Bool.false_and]at k
   exact k
theorem Number_c {w:World} {l:List UInt8} {R:KV} (hl:l.length<=1000000) (k:∀w',Grow w w'->R (.tuple #[.int .i64 (numN l:Int),.bool (isN l)]) w'):
 Zs 186 #[.string (textOf l)] w R:=by
 apply q174W
 unfold q174F
 refine nm λw0 e0=>?_
 obtain⟨b0,g0,_⟩:=alE e0
 refine⟨b0.st1 (j:=0) (by decide),nm λw1 e1=>?_⟩
 have e1':w1=World.setCell w0 (Addr.add ⟨w.heap.size,0,none⟩ 0) (.int .i64 10):=by rw[ad0];exact e1
 obtain⟨b1,t1⟩:=setE b0 e1'
 have g1:Grow w w1:=Below.turn g0 t1 (Nat.le_refl _)
 have fin:∀(w4:World) (hB:(BK w4 w.heap.size #[.int .i64 (baseL l:Int)] 3)) (g4:Grow w w4) (hz:(!hexL l&&(decide (1 < l.length)&&l.getD 0 0==48))=false),
  JoinP [.bool]
  (λ(b5:Bool)=>λ(w6:World)=>
   cond b5 (R (.tuple #[(.int .i64 (0:Int)),(.bool false)]) w6)
   (∃(n7:Int),((Go.World.cell? w6 ⟨w.heap.size,0,none⟩)=(some (.int .i64 n7)))/\
    Zs 203 #[(.string (textOf (tailL l))),(.int .i64 n7),(.int .i64 (64:Int))] w6 λv8 w9=>
    ∃(n10:Int) (v11:Value),((v8:Value)=(.tuple #[(.int .i64 n10),v11]))/\R (.tuple #[(.int .i64 n10),(.bool true)]) w9))
  (λj12=>
   cond (ByteArray.toList (textOf (tailL l))==ByteArray.toList (ByteArray.mk #[])) (j12 true w4)
   (cond (decide ((((ByteArray.size (textOf (tailL l))):Nat):Int) > (mostL l:Int))) (j12 true w4)
    (Zs 121 #[(.string (textOf (tailL l))),(.func (.func 202) #[] #[(zA w.heap.size)])] w4 λv13 w14=>
     ∃(b15:Bool),((v13:Value)=(.bool b15))/\j12 (!b15) w14))):=by
  intro w4 hB g4 hz
  have hbase:baseL l=10\/baseL l=16:=by unfold baseL;cases hexL l<;>simp
  have hmost:mostL l<=9:=by unfold mostL;cases hexL l<;>simp
  have htl:(tailL l).length<=l.length:=by unfold tailL;cases hexL l<;>simp
  refine JoinP.bool (λx w'=>x= !(isN l)/\Grow w4 w') (λj hj=>?_) ?_
  ·refine cond_intro (λh=>hj _ _ ⟨?_,Grow.refl _⟩) (λh=>cond_intro (λh2=>hj _ _ ⟨?_,Grow.refl _⟩) (λh2=>?_))
   ·rw[text_eqb]at h
    have:(tailL l).isEmpty=true:=by simpa using h
    unfold isN;rw[hz,this];simp
   ·rw[textOf_size]at h2
    have:decide ((tailL l).length<=mostL l)=false:=by simp at h2 ⊢;omega
    unfold isN;rw[hz,this];simp
   ·rw[text_eqb]at h
    rw[textOf_size]at h2
    have i1:(tailL l).isEmpty=false:=by simpa using h
    have i2:decide ((tailL l).length<=mostL l)=true:=by simp at h2 ⊢;omega
    refine of_c (p:=okD (baseL l:Int)) (by omega) (λc ww K gw kk=>digit_c (hB.grow gw) (kk _ (Grow.refl _))) λw' g'=>⟨_,rfl,hj _ _ ⟨?_,g'⟩⟩
    unfold isN;rw[hz,i1,i2];simp
  rintro x w6 ⟨rfl,g6⟩
  refine cond_intro (λh=>?_) (λh=>?_)
  ·simp only[Bool.not_eq_true']at h
   have:=k _ (g4.then g6)
   unfold numN at this
   rw[h]at this
   exact this
  ·simp only[Bool.not_eq_false']at h
   have hq:=h
   unfold isN at hq
   simp only[Bool.and_eq_true,decide_eq_true_eq,Bool.not_eq_true']at hq
   refine⟨_,(hB.grow g6).at 0,ParseInt_c hbase (λe=>?_) (by omega) hq.2.2.2 λw9 g9=>⟨_,_,rfl,?_⟩⟩
   ·rw[e]at hq;simp at hq
   ·have:=k _ ((g4.then g6).then g9)
    unfold numN at this
    rw[h]at this
    exact this
 refine JoinP.go (CutPrefix_c (p:=[48,120]) (by omega) (by simp) ⟨_,_,rfl,cond_intro (λh=>?_) (λh=>?_)⟩)
 ·refine⟨b1.st1 (j:=0) (by decide),nm λw21 e21=>?_⟩
  have e21':w21=World.setCell w1 (Addr.add ⟨w.heap.size,0,none⟩ 0) (.int .i64 16):=by rw[ad0];exact e21
  obtain⟨b21,t21⟩:=setE b1 e21'
  have hx:hexL l=true:=h
  have e1:tailL l=l.drop 2:=by unfold tailL;rw[hx];rfl
  have e2:baseL l=16:=by unfold baseL;rw[hx];rfl
  have e3:mostL l=7:=by unfold mostL;rw[hx];rfl
  have:=fin w21 (by rw[e2];exact b21) (Below.turn g1 t21 (Nat.le_refl _)) (by rw[hx];rfl)
  rw[e1,e3]at this
  rw[h,cond_true]
  exact this
 ·have hx:hexL l=false:=h
  have q1:tailL l=l:=by unfold tailL;rw[hx];rfl
  have q2:baseL l=10:=by unfold baseL;rw[hx];rfl
  have q3:mostL l=9:=by unfold mostL;rw[hx];rfl
  refine JoinP.bool (λx w'=>x=(decide (1 < l.length)&&l.getD 0 0==48)/\w'=w1) (λj hj=>?_) ?_
  ·rw[textOf_size]
   refine cond_intro (λh2=>⟨⟨by omega,?_⟩,hj _ _ ⟨?_,rfl⟩⟩) (λh2=>hj _ _ ⟨?_,rfl⟩)
   ·simp at h2;omega
   ·rw[text_get]
    have:decide (1 < l.length)=true:=by simp at h2 ⊢;omega
    rw[this,Bool.true_and,Bool.eq_iff_iff]
    simp only[beq_iff_eq]
    constructor
    ·intro hh
     apply UInt8.toNat_inj.1
     have:(Int.toNat 0)=0:=rfl
     rw[this]at hh
     show _=48
     omega
    ·intro hh
     have:(Int.toNat 0)=0:=rfl
     rw[this,hh];rfl
   ·have:decide (1 < l.length)=false:=by simp at h2 ⊢;omega
    rw[this,Bool.false_and]
  rintro x w23 ⟨rfl,rfl⟩
  refine cond_intro (λh2=>?_) (λh2=>?_)
  ·have:=k _ g1
   have hn:isN l=false:=by unfold isN;rw[hx,h2];simp
   unfold numN at this
   rw[hn]at this
   exact this
  ·have:=fin w23 (by rw[q2];exact b1) g1 (by rw[h2];simp)
   rw[q1,q3]at this
   exact this
end Go.Proofs.YtdpmhkbhlbfbeaaGreatDoor.Txt
end
section
namespace Go.Proofs.YtdpmhkbhlbfbeaaGreatDoor.Txt
open CW RowKit
abbrev tM:TypeId:=149
abbrev tBo:TypeId:=4
def Had (w:World) (b n:Nat) (ks:List (List UInt8)):Prop:=
 ∃D:DataW Unit,w.ownsMap Tryz.prog tS (plainElem Tryz.prog tBo) b n D/\∀k,D.atKey (.string k) (.lit (.bool false))= .lit (.bool (decide (k∈ks)))
theorem keyS:Maps.Keyed Tryz.prog tS:=Maps.string_keyed (by kernel_rfl)
theorem undM:Tryz.prog.underlying tM=some (.map tS tBo):=by kernel_rfl
theorem undBo:Tryz.prog.underlying tBo=some .bool:=by kernel_rfl
theorem undS:Tryz.prog.underlying tS=some .string:=by kernel_rfl
theorem keyOfS (k:List UInt8) (hk:k.length<=1000000):keyOf Tryz.prog tS (.string (textOf k))=some (.string k):=by
 unfold keyOf mapKey
 rw[undS]
 have:(textOf k).size<=maxLen:=by rw[textOf_size];simp [maxLen];omega
 simp only[if_pos this];simp [textOf]
theorem had_make (w:World):∃w',Sem.run Tryz.prog (Instr.makeMap tM none) w= .ok (.map (some w.heap.size)) w'/\Had w' w.heap.size 0 []/\Grow w w':=
 ⟨_,rfl,⟨.map [],World.ownsMap_made w _ _ _,λk=>by simp;rfl⟩,Grow.al (Grow.refl w) _⟩
theorem Had.grow {w w':World} {b n:Nat} {ks:List (List UInt8)} (h:Had w b n ks) (g:Grow w w'):Had w' b n ks:=by
 obtain⟨D,h1,h2⟩:=h
 exact⟨D,h1.kept (g.by_ none) (by simp),h2⟩
theorem Had.at {w w':World} {b n:Nat} {ks:List (List UInt8)} (h:Had w b n ks) (e:w'.heap[b]? =w.heap[b]?):Had w' b n ks:=by
 obtain⟨D,⟨es,clock,hb,F,hs,hD⟩,h2⟩:=h
 exact⟨D,⟨es,clock,e.trans hb,F,hs,hD⟩,h2⟩
theorem Had.lt {w:World} {b n:Nat} {ks:List (List UInt8)} (h:Had w b n ks):b < w.heap.size:=let ⟨_,h1,_⟩:=h;h1.lt
theorem had_look {w:World} {b n:Nat} {ks:List (List UInt8)} (h:Had w b n ks) (k:List UInt8) (hk:k.length<=1000000):
 Sem.run Tryz.prog (Instr.lookup tM (.map (some b)) (.string (textOf k)) false) w= .ok (.bool (decide (k∈ks))) w:=by
 obtain⟨D,h1,h2⟩:=h
 obtain⟨v,ps,hrun,hv⟩:=h1.lookup keyS undM (z:=.bool false) (by kernel_rfl) (zd:=.lit (.bool false)) (zp:=[]) (by simp [plainElem,undBo]) (key:=.string (textOf k)) (kl:=.string k) (keyOfS k hk)
 rw[h2 k]at hv
 unfold plainElem at hv
 rw[undBo]at hv
 cases v<;>simp at hv
 rw[hrun,hv.1]
theorem had_put {w:World} {b n:Nat} {ks:List (List UInt8)} (h:Had w b n ks) (hn:n < 1000000) (k:List UInt8) (hk:k.length<=1000000):
 ∃w',Sem.run Tryz.prog (Instr.mapUpdate tM (.map (some b)) (.string (textOf k)) (.bool true)) w= .ok PUnit.unit w'/\Had w' b (n+1) (k::ks)/\w.grownBy w' (some b):=by
 obtain⟨D,h1,h2⟩:=h
 obtain⟨w',hrun,r1,r2⟩:=h1.update keyS undM (by simp [maxLen];omega) (key:=.string (textOf k)) (kl:=.string k) (val:=.bool true) (d:=.lit (.bool true)) (ps:=[]) (keyOfS k hk) (by simp [plainElem,undBo])
 refine⟨w',hrun,⟨_,r1,λk'=>?_⟩,r2⟩
 by_cases e:k'=k
 ·subst e
  rw[Maps.atKey_put_same h1.isMap (show WideAt.IsKeyLit (.string k') from trivial)]
  simp
 ·rw[Maps.atKey_put_other (by simpa using e),h2 k']
  simp [e]
abbrev Pr:=List UInt8×List UInt8
def EP:Enc Pr:=⟨2,λp=>[.string (textOf p.1),.string (textOf p.2)],λ_=>rfl,by omega,λ_=>rfl⟩
abbrev tP:TypeId:=151
abbrev tPs:TypeId:=115
theorem tyP:SlTyN Tryz.prog tPs tP EP.s 32:=SlTyN.of (by kernel_rfl)
def markL:List UInt8:=[46,45,43,64,95]
def signB (c:UInt8):Bool:=(decide ((c.toNat:Int)≥65)&&decide ((c.toNat:Int)<=90))||((decide ((c.toNat:Int)≥97)&&decide ((c.toNat:Int)<=122))||((decide ((c.toNat:Int)≥48)&&decide ((c.toNat:Int)<=57))||decide (Lib.indexByte markL c≥0)))
def rightB (p:Pr):Bool:=!decide (p.1=[])&&(decide ((p.1.length:Int)<=63)&&(p.1.all signB&&(decide ((p.2.length:Int)<=255)&&decide (Lib.indexByte p.2 0 < 0))))
theorem IndexByte_c {w:World} {l:List UInt8} {c:UInt8} {R:KV} (k:R (.int .i64 (Lib.indexByte l c)) w):Zs 120 #[.string (textOf l),.int .u8 (c.toNat:Int)] w R:=
 (Go.Proofs.Tryz.strings_IndexByte (textOf l) (c.toNat:Int) w).mono λe w' ⟨he,hw⟩=>⟨_,he,by
  subst hw
  have:((c.toNat:Int)).toNat.toUInt8=c:=by simp
  rw[this]
  exact k⟩
theorem right_1_c {w:World} {c:UInt8} {R:KV} (k:R (.bool (signB c)) w):Zs 118 #[.int .u8 (c.toNat:Int)] w R:=by
 apply q179W
 unfold signB at k
 refine JoinP.go (inside_c ⟨_,rfl,cond_intro (λh=>?_) (λh=>inside_c ⟨_,rfl,cond_intro (λh2=>?_) (λh2=>inside_c ⟨_,rfl,cond_intro (λh3=>?_) (λh3=>?_)⟩)⟩)⟩)
 ·rw[h]at k;exact k
 ·rw[h,h2]at k;exact k
 ·rw[h,h2,h3]at k;exact k
 ·rw[h,h2,h3]at k
  rw[mk_text]
  exact IndexByte_c (l:=markL) ⟨_,rfl,k⟩
theorem right_c {w:World} {p:Pr} {R:KV} (h1:p.1.length<=1000000) (k:∀w',Grow w w'->R (.bool (rightB p)) w'):Zs 73 #[.agg #[.string (textOf p.1),.string (textOf p.2)]] w R:=by
 apply q178W
 unfold rightB at k
 refine nm λw0 e0=>?_
 obtain⟨b0,g0,_⟩:=alE e0
 refine JoinP.go ⟨_,b0.cell 0,cond_intro (λh=>?_) (λh=>?_)⟩
 ·rw[text_eqb]at h
  have h':decide (p.1=[])=false:=by simpa using h
  rw[h']at k
  refine⟨_,b0.cell 0,cond_intro (λh2=>?_) (λh2=>?_)⟩
  ·rw[textOf_size]at h2
   rw[h2]at k
   refine⟨_,b0.cell 0,of_c (p:=signB) (by omega) (λc ww K gw kk=>callU_of (by kernel_rfl) (right_1_c (kk _ (Grow.refl _)))) λw8 g8=>⟨_,rfl,cond_intro (λh3=>?_) (λh3=>?_)⟩⟩
   ·rw[h3]at k
    refine⟨_,(b0.grow g8).cell 1,cond_intro (λh4=>?_) (λh4=>?_)⟩
    ·rw[textOf_size]at h4
     rw[h4]at k
     exact⟨_,(b0.grow g8).cell 1,IndexByte_c (c:=0) ⟨_,rfl,k _ (g0.then g8)⟩⟩
    ·rw[textOf_size]at h4
     rw[h4]at k
     exact k _ (g0.then g8)
   ·rw[h3]at k
    exact k _ (g0.then g8)
  ·rw[textOf_size]at h2
   rw[h2]at k
   exact k _ g0
 ·rw[text_eqb]at h
  have h':decide (p.1=[])=true:=by simpa using h
  rw[h']at k
  exact k _ g0
end Go.Proofs.YtdpmhkbhlbfbeaaGreatDoor.Txt
end
section
namespace Go.Proofs.YtdpmhkbhlbfbeaaGreatDoor.Txt
open CW RowKit
def encP (p:Pr):List UInt8:=p.1++[61]++p.2++[0]
def encB (L:List Pr):List UInt8:=L.flatMap encP
def wrongA:List (List UInt8)->List Pr->Bool
 |_,[]=>false
 |ks,p::r=>!rightB p||(decide (p.1∈ks)||wrongA (p.1::ks) r)
theorem app_textO {w:World} {B:Nat} {v:Value} {bs l:List UInt8} (ho:OwnB w B tb v bs) (hb:bs.length+l.length<=1000000000) (hB:B<=w.heap.size):
 ∃v' w',Sem.run Tryz.prog (Builtin.append_ #[tB,tS] tB #[v,.string (textOf l)]) w= .ok v' w'/\OwnB w' B tb v' (bs++l)/\Below B w w':=by
 obtain⟨i,z,hi,hz,hs,hby,hzs⟩:=tyB.info
 have hz0:i.zero=some (.int .u8 0):=by
  have:(Tryz.prog.info? tb).bind (·.zero)=some (.int .u8 0):=by kernel_rfl
  rw[hi]at this;exact this
 obtain⟨v',w',k1,k2,k3,_⟩:=Lib.run_append_own_string (P:=Tryz.prog) w B tB tS tB tb i tyB.und undS hi hz0 hs hby v _ _ ho (textOf l) (by rw[textOf_size,List.length_map];simp [maxLen];omega) (by rw[textOf_size,List.length_map];omega) hB
 refine⟨v',w',k1,?_,(Below.refl B w).grown k3 hB ho.blk⟩
 have e:bs.map b8++Lib.strCells (textOf l)=(bs++l).map b8:=by
  simp [Lib.strCells,textOf]
  intros;rfl
 have el:(bs.map b8).length+(textOf l).size=((bs++l).map b8).length:=by simp [textOf_size]
 unfold OwnB Own
 rw[←e,List.length_append,Lib.strCells_length]
 exact k2
structure SmP (L:List Pr):Prop where
 len:L.length<=1000000
 fst:∀p∈L,p.1.length<=100000
 snd:∀p∈L,p.2.length<=100000
 tot:(encB L).length<=4096
theorem encB_take (L:List Pr) (i:Nat) (hi:i < L.length):encB (L.take (i+1))=encB (L.take i)++encP L[i]:=by
 unfold encB
 rw[List.take_add_one,List.getElem?_eq_getElem hi,List.flatMap_append];simp
theorem encB_le (L:List Pr) (i:Nat):(encB (L.take i)).length<=(encB L).length:=by
 conv=>rhs;rw[←List.take_append_drop i L]
 unfold encB
 rw[List.flatMap_append,List.length_append];omega
theorem Encode_c {w:World} {v:Value} {L:List Pr} {R:KV} (hr:RdR EP w v L) (sm:SmP L)
 (k0:wrongA [] L=true->∀w',Grow w w'->R (.tuple #[.slice none 0 0,.int .i64 1]) w')
 (k1:wrongA [] L=false->∀v' w',Grow w w'->RdB w' v' (encB L)->R (.tuple #[v',.int .i64 0]) w'):
 Zs 45 #[v] w R:=by
 apply q171W
 obtain⟨w1,hm1,had1,g1⟩:=had_make w
 have hs1:w.heap.size < w1.heap.size:=had1.lt
 have hlen:=sm.len
 refine⟨_,w1,hm1,L.length,hr.len,?_⟩
 refine⟨λ(o:Value) (b:Bool) (i:Int) (ww:World)=>0<=i/\i<=L.length/\Grow w ww/\w1.heap.size<=ww.heap.size/\OwnB ww w1.heap.size tb o (encB (L.take i.toNat))/\∃ks,Had ww w.heap.size i.toNat ks/\(b||wrongA ks (L.drop i.toNat))=wrongA [] L,
  λ(o:Value) (b:Bool) (i:Int) (ww:World)=>(L.length - i).toNat,?_,?_⟩
 ·dsimp only
  exact⟨by omega,by omega,g1,Nat.le_refl _,Own.nil _ _ _,[],had1,by simp⟩
 ·dsimp only[allR,mapR2,eqN,ltN]
  rintro m o b i ww ⟨⟨h0,h1,g,hsz,ow,ks,had,hw⟩,hm⟩
  refine cond_intro (λh2=>JoinP.go ?_) (λh2=>?_)
  ·simp at h2
   have hi:i.toNat < L.length:=by omega
   obtain⟨a,ha,hc⟩:=(hr.grow g).at h0 (by omega)
   have hmem:L[i.toNat]'hi∈L:=List.getElem_mem _
   have f1:=sm.fst _ hmem
   have f2:=sm.snd _ hmem
   generalize hp:L[i.toNat]'hi=p at *
   have hdrop:L.drop i.toNat=p::L.drop (i.toNat+1):=by rw[List.drop_eq_getElem_cons hi,hp]
   refine⟨a,ha,textOf p.1,textOf p.2,⟨rfl,λj hj=>by rw[hc.1 j hj];simp [EP]⟩,nm λw15 e15=>?_⟩
   obtain⟨b15,g15,s15⟩:=alE e15
   refine⟨b15.row rfl rfl,nm λw16 e16=>?_⟩
   obtain⟨b16,t16⟩:=rowE b15 e16 rfl
   have g16:Grow ww w16:=Below.turn g15 t16 (Nat.le_refl _)
   refine JoinP.bool (λx w'=>x=(b||(!rightB p||decide (p.1∈ks)))/\Grow ww w'/\BK w' ww.heap.size #[.string (textOf p.1),.string (textOf p.2)] tP) (λj hj=>?_) ?_
   ·refine cond_intro (λh=>hj _ _ ⟨by rw[h];rfl,g16,b16⟩) (λh=>?_)
    refine⟨_,_,b16.ld rfl,right_c (by omega) λw30 g30=>⟨_,rfl,cond_intro (λh3=>hj _ _ ⟨?_,g16.then g30,b16.grow g30⟩) (λh3=>?_)⟩⟩
    ·simp only[Bool.not_eq_true']at h3
     rw[h,h3];rfl
    ·simp only[Bool.not_eq_false']at h3
     refine⟨_,(b16.grow g30).cell 0,_,had_look (had.grow (g16.then g30)) p.1 (by omega),hj _ _ ⟨?_,g16.then g30,b16.grow g30⟩⟩
     rw[h,h3];rfl
   rintro x w18 ⟨rfl,g18,b18⟩
   obtain⟨w20,k20,had20,by20⟩:=had_put (had.grow g18) (by omega) p.1 (by omega)
   have hbk:ww.heap.size≠w.heap.size:=by omega
   have b20:BK w20 ww.heap.size #[.string (textOf p.1),.string (textOf p.2)] tP:=(by20.block _ b18.lt (by simpa using hbk)).trans b18
   have gw20:Grow w w20:=by
    have gx:=g.then g18
    exact⟨by20.os.trans gx.os,by20.tape.trans gx.tape,by20.output.trans gx.output,Nat.le_trans gx.size by20.size,λq hq=>(by20.block q (Nat.lt_of_lt_of_le hq gx.size) (by simp;omega)).trans (gx.block q hq)⟩
   have ow20:OwnB w20 w1.heap.size tb o (encB (L.take i.toNat)):=by
    refine World.ownsRow.kept (Own.grow ow g18) by20 (.inr λe=>?_)
    have:=ow.blk _ e
    omega
   have hsz20:w1.heap.size<=w20.heap.size:=Nat.le_trans (Nat.le_trans hsz g18.size) by20.size
   have hle:=encB_le L i.toNat
   have htot:=sm.tot
   refine⟨_,b18.cell 0,w20,k20,_,RdB.len ow20.rd,cond_t (by simp;omega) ?_⟩
   refine⟨_,b20.cell 0,by rw[textOf_size];omega,_,b20.cell 1,?_⟩
   rw[mk_text #[61],mk_text #[0],textOf_app,textOf_app,textOf_app]
   have hpe:((p.1++[61])++p.2)++[0]=encP p:=rfl
   refine⟨by simp only[textOf_size,List.length_append];simp;omega,by simp only[textOf_size,List.length_append];simp;omega,?_⟩
   show ∃v24 w25,Sem.run Tryz.prog (Builtin.append_ #[tB,tS] tB #[o,.string (textOf (encP p))]) w20= .ok v24 w25/\_
   have hle2:=encB_le L (i.toNat+1)
   rw[encB_take L _ hi,hp,List.length_append]at hle2
   obtain⟨v24,w25,k25,o25,g25⟩:=app_textO (l:=encP p) ow20 (by omega) hsz20
   refine⟨v24,w25,k25,?_⟩
   rw[wi64_id (n:=i+1) (by omega) (by omega)]
   have e2:(i+1).toNat=i.toNat+1:=by omega
   have had25:Had w25 w.heap.size (i.toNat+1) (p.1::ks):=had20.at (g25.block _ hs1)
   refine⟨⟨by omega,by omega,gw20.trans (g25.mono (by omega)),Nat.le_trans hsz20 g25.size,?_,p.1::ks,?_,?_⟩,by omega⟩
   ·rw[e2,encB_take L _ hi,hp];exact o25
   ·rw[e2];exact had25
   ·rw[e2,←hw,hdrop]
    simp only[wrongA]
    cases b<;>cases rightB p<;>cases decide (p.1∈ks)<;>rfl
  ·simp at h2
   have hT:L.take i.toNat=L:=List.take_of_length_le (by omega)
   have hD:L.drop i.toNat=[]:=List.drop_of_length_le (by omega)
   rw[hD]at hw
   simp only[wrongA,Bool.or_false]at hw
   rw[hT]at ow
   have htot:=sm.tot
   refine cond_intro (λh=>k0 (by rw[←hw];exact h) _ g) (λh=>?_)
   refine⟨_,RdB.len ow.rd,cond_f (by simp;omega) ?_⟩
   exact slices_Clip_c ow.rd λv' r' _=>k1 (by rw[←hw];exact h) _ _ g r'
end Go.Proofs.YtdpmhkbhlbfbeaaGreatDoor.Txt
end
section
namespace Go.Proofs.YtdpmhkbhlbfbeaaGreatDoor.Txt
open CW RowKit
structure Env (w:World):Prop where
 tab:Tab w
 mx:∃m,w.cell? ⟨0,0,none⟩=some (.int .i64 m)
theorem Env.grow {w w':World} (h:Env w) (g:Grow w w'):Env w':=by
 obtain⟨m,hm⟩:=h.mx
 refine⟨h.tab.grow g,m,?_⟩
 have hlt:0 < w.heap.size:=by
  refine Nat.lt_of_not_le λhge=>?_
  have h2:w.heap[(0:Nat)]? =none:=Array.getElem?_eq_none hge
  simp [World.cell?,h2]at hm
 exact(cell_of_heap (a:=⟨0,0,none⟩) (g.block _ hlt)).trans hm
theorem indexByte_hit:∀(a b:List UInt8) (c:UInt8),c∉a->Lib.indexByte (a++c::b) c=a.length
 |[],b,c,_=>by simp [Lib.indexByte]
 |x::a,b,c,h=>by
  have hx:(x==c)=false:=by simp;intro e;exact h (by simp [e])
  have ih:=indexByte_hit a b c (λhm=>h (by simp [hm]))
  have hne:((a.length:Int)== -1)=false:=by simp
  rw[List.cons_append]
  unfold Lib.indexByte
  rw[hx,ih,hne]
  simp
theorem indexByte_miss:∀(a:List UInt8) (c:UInt8),c∉a->Lib.indexByte a c= -1
 |[],c,_=>rfl
 |x::a,c,h=>by
  have hx:(x==c)=false:=by simp;intro e;exact h (by simp [e])
  have ih:=indexByte_miss a c (λhm=>h (by simp [hm]))
  unfold Lib.indexByte
  rw[hx,ih]
  rfl
theorem cut_hit (a b:List UInt8) (c:UInt8) (h:c∉a):Lib.cut (a++c::b) [c]=(a,b,true):=by
 unfold Lib.cut
 rw[Lib.index_one,indexByte_hit a b c h,if_pos (by omega)]
 have e:((a.length:Nat):Int).toNat=a.length:=by omega
 rw[e]
 simp
theorem Cut_c {w:World} {a b:List UInt8} {c:UInt8} {R:KV} (h:c∉a) (hl:a.length+b.length<=1000000) (hE:Env w)
 (k:∀w',Grow w w'->R (.tuple #[.string (textOf a),.string (textOf b),.bool true]) w'):Zs 137 #[.string (textOf (a++c::b)),.string (textOf [c])] w R:=by
 obtain⟨m,hm⟩:=hE.mx
 refine(Go.Proofs.Tryz.strings_Cut (textOf (a++c::b)) (textOf [c]) m w (by rw[textOf_size];simp;omega) hm).mono λe w' ⟨he,n,hw⟩=>⟨_,he,?_⟩
 subst hw
 have e1:Lib.cut (textOf (a++c::b)).data.toList (textOf [c]).data.toList=(a,b,true):=by
  have:=cut_hit a b c h
  simpa[textOf]using this
 rw[e1]
 refine k _ ?_
 have h1:=Lib.below_grow w.heap.size w (Nat.le_refl _) n #[]
 have h2:Go.Sort.grow (w.drewN n) #[]=w.drewN n:=by
  generalize w.drewN n=u
  cases u
  simp [Go.Sort.grow]
 rw[h2]at h1
 exact h1
theorem sign_not {c:UInt8} (h:signB c=true):c≠0/\c≠61:=by
 constructor<;>(rintro rfl;revert h;decide)
theorem neg_miss:∀{l:List UInt8} {c:UInt8},Lib.indexByte l c < 0->c∉l:=by
 intro l c h hm
 induction l with
 |nil=>simp at hm
 |cons x l ih=>
  unfold Lib.indexByte at h
  by_cases hx:x=c
  ·subst hx;simp at h
  ·have hx':(x==c)=false:=by simpa using hx
   rw[hx']at h
   have hge:=Lib.indexByte_ge l c
   have hml:c∈l:=by
    rcases List.mem_cons.1 hm with e|e
    ·exact absurd e.symm hx
    ·exact e
   by_cases hq:Lib.indexByte l c= -1
   ·exact ih (by omega) hml
   ·simp [hq]at h
    omega
theorem right_facts {p:Pr} (h:rightB p=true):(0:UInt8)∉p.1/\(61:UInt8)∉p.1/\(0:UInt8)∉p.2/\p.1≠[]:=by
 unfold rightB at h
 simp only[Bool.and_eq_true,decide_eq_true_eq,Bool.not_eq_true',decide_eq_false_iff_not]at h
 obtain⟨h1,_,h3,_,h5⟩:=h
 exact⟨λhm=>(sign_not (List.all_eq_true.1 h3 _ hm)).1 rfl,λhm=>(sign_not (List.all_eq_true.1 h3 _ hm)).2 rfl,neg_miss h5,h1⟩
theorem clipP_c {w:World} {B:Nat} {v:Value} {L:List Pr} {R:KV} (ho:OwnR EP w B tP v L) (k:∀v',RdR EP w v' L->R v' w):Zs 138 #[v] w R:=by
 have hd:=ho.rd
 apply q120W
 have hle:=hd.le
 refine⟨_,hd.len,_,hd.len,?_⟩
 obtain⟨v',h1,h2⟩:∃v',subSlice v 2 none (some (.int .i64 ((L.length:Nat):Int))) (some (.int .i64 ((L.length:Nat):Int)))=some v'/\RdR EP w v' L:=by
  obtain⟨a,cap,rfl,q1,q2,q3,q4⟩:=hd
  have h0:(0:Int)<=(L.length:Int):=by omega
  have e:(L.length:Int)<=cap:=by omega
  refine⟨.slice a L.length L.length,?_,⟨a,L.length,rfl,Nat.le_refl _,by omega,λhh=>by have:=q3 hh;omega,q4⟩⟩
  simp only[subSlice,boundsOf,boundOf,h0,e,and_self,if_true,Int.toNat_natCast,Int.le_refl,Nat.sub_zero,Nat.zero_mul]
  cases a with
  |none=>
   have:=q3 rfl
   split<;>simp
  |some a=>split<;>simp [add_zero]
 exact⟨v',h1,k v' h2⟩
theorem Decode_c {w:World} {v:Value} {L:List Pr} {R:KV} (hE:Env w) (hr:RdB w v (encB L)) (sm:SmP L) (hright:∀p∈L,rightB p=true)
 (k0:wrongA [] L=true->∀w',Grow w w'->R (.tuple #[.slice none 0 0,.int .i64 2]) w')
 (k1:wrongA [] L=false->∀v' w',Grow w w'->RdR EP w' v' L->R (.tuple #[v',.int .i64 0]) w'):
 Zs 88 #[v] w R:=by
 apply q170W
 have htot:=sm.tot
 have hlen:=sm.len
 refine⟨_,hr.len,cond_f (by simp;omega) ?_⟩
 obtain⟨w1,hm1,had1,g1⟩:=had_make w
 have hs1:w.heap.size < w1.heap.size:=had1.lt
 refine⟨_,w1,hm1,_,to_text (hr.grow g1),?_⟩
 refine⟨λ(o:Value) (s:ByteArray) (ww:World)=>∃i:Nat,i<=L.length/\s=textOf (encB (L.drop i))/\Grow w ww/\w1.heap.size<=ww.heap.size/\OwnR EP ww w1.heap.size tP o (L.take i)/\∃ks,Had ww w.heap.size i ks/\wrongA ks (L.drop i)=wrongA [] L,
  λ(o:Value) (s:ByteArray) (ww:World)=>s.size,?_,?_⟩
 ·dsimp only
  exact⟨0,by omega,by simp,g1,Nat.le_refl _,OwnR.nil _ _ _,[],had1,by simp⟩
 ·dsimp only[allR,mapR2,eqN,ltN]
  rintro m o s ww ⟨⟨i,h1,rfl,g,hsz,ow,ks,had,hw⟩,hm⟩
  by_cases hi:i < L.length
  ·have hmem:L[i]'hi∈L:=List.getElem_mem _
   have f1:=sm.fst _ hmem
   have f2:=sm.snd _ hmem
   have fr:=hright _ hmem
   generalize hp:L[i]'hi=p at *
   obtain⟨r1,r2,r3,r4⟩:=right_facts fr
   have hdrop:L.drop i=p::L.drop (i+1):=by rw[List.drop_eq_getElem_cons hi,hp]
   have henc:encB (L.drop i)=(p.1++[61]++p.2)++0::encB (L.drop (i+1)):=by rw[hdrop];simp [encB,encP]
   have hne:encB (L.drop i)≠[]:=by rw[henc];simp
   have hszB:(encB (L.drop i)).length<=4096:=by
    have:(encB L).length=(encB (L.take i)).length+(encB (L.drop i)).length:=by
     conv=>lhs;rw[←List.take_append_drop i L]
     unfold encB
     rw[List.flatMap_append,List.length_append]
    omega
   refine cond_t (by rw[text_eqb];simpa using hne) ?_
   rw[henc]at hszB hm ⊢
   rw[mk_text #[0],mk_text #[61]]
   simp only[List.length_append,List.length_cons,List.length_nil]at hszB
   refine Cut_c (c:=0) (by simp;exact⟨r1,r3⟩) (by simp only[List.length_append,List.length_cons,List.length_nil];omega) (hE.grow g) λw9 g9=>⟨_,_,_,rfl,?_⟩
   have e61:p.1++[61]++p.2=p.1++61::p.2:=by simp
   rw[e61]
   refine Cut_c (c:=61) r2 (by omega) (hE.grow (g.then g9)) λw14 g14=>⟨_,_,_,rfl,nm λw18 e18=>?_⟩
   obtain⟨b18,g18,_⟩:=alE e18
   refine⟨b18.row rfl rfl,nm λw19 e19=>?_⟩
   obtain⟨b19,t19⟩:=rowE b18 e19 rfl
   have g19:Grow ww w19:=(g9.then g14).then (Below.turn g18 t19 (Nat.le_refl _))
   refine JoinP.bool (λx w'=>x=decide (p.1∈ks)/\Grow ww w'/\BK w' w14.heap.size #[.string (textOf p.1),.string (textOf p.2)] tP) (λj hj=>?_) ?_
   ·refine cond_f rfl (cond_f rfl ⟨_,_,b19.ld rfl,right_c (by omega) λw32 g32=>⟨_,rfl,cond_f (by rw[fr];rfl) ⟨_,had_look (had.grow (g19.then g32)) p.1 (by omega),hj _ _ ⟨rfl,g19.then g32,b19.grow g32⟩⟩⟩⟩)
   rintro x w21 ⟨rfl,g21,b21⟩
   refine cond_intro (λh3=>?_) (λh3=>?_)
   ·refine k0 ?_ _ (g.then g21)
    rw[←hw,hdrop]
    simp only[wrongA,fr,h3]
    rfl
   ·obtain⟨w22,k22,had22,by22⟩:=had_put (had.grow g21) (by omega) p.1 (by omega)
    have hszw:w.heap.size < ww.heap.size:=Nat.lt_of_lt_of_le hs1 hsz
    have h14:ww.heap.size<=w14.heap.size:=(g9.then g14).size
    have b22:BK w22 w14.heap.size #[.string (textOf p.1),.string (textOf p.2)] tP:=(by22.block _ b21.lt (by simp;omega)).trans b21
    have gw22:Grow w w22:=by
     have gx:=g.then g21
     exact⟨by22.os.trans gx.os,by22.tape.trans gx.tape,by22.output.trans gx.output,Nat.le_trans gx.size by22.size,λq hq=>(by22.block q (Nat.lt_of_lt_of_le hq gx.size) (by simp;omega)).trans (gx.block q hq)⟩
    have ow22:OwnR EP w22 w1.heap.size tP o (L.take i):=by
     refine(ow.grow g21).stable λq hq=>by22.block q ((ow.grow g21).lt q hq).2 ?_
     have:=(ow.lt q hq).1
     simp;omega
    have hsz22:w1.heap.size<=w22.heap.size:=Nat.le_trans (Nat.le_trans hsz g21.size) by22.size
    refine⟨w22,k22,_,_,b22.ld rfl,nm λw25 e25=>?_⟩
    obtain⟨b25,g25,_⟩:=alE e25
    have rd25:RdR EP w25 (.slice (some ⟨w22.heap.size,0,none⟩) 1 1) [p]:=by
     refine⟨some ⟨w22.heap.size,0,none⟩,1,rfl,by simp,by simp [maxLen],(λh=>(by cases h)),λq u hq=>⟨_,rfl,?_⟩⟩
     rw[b25.cell]
     have:EP.flat [p]=[.string (textOf p.1),.string (textOf p.2)]:=by simp [Enc.flat,EP]
     rw[this]at hq
     rw[←hq]
     simp
    have tl:(L.take i).length=i:=by rw[List.length_take];omega
    obtain⟨v26,w27,k27,o27,n27⟩:=app_ownR (E:=EP) tyP (ow22.grow g25) rd25 (by rw[tl];simp;omega) (Nat.le_trans hsz22 g25.size)
    have g27:Below w1.heap.size w25 w27:=n27.below (Nat.le_trans hsz22 g25.size) λq hq=>((ow22.grow g25).lt q hq).1
    refine⟨v26,w27,k27,⟨i+1,by omega,rfl,?_,?_,?_,p.1::ks,?_,?_⟩,?_⟩
    ·exact(gw22.then g25).trans (g27.mono (by omega))
    ·exact Nat.le_trans (Nat.le_trans hsz22 g25.size) g27.size
    ·rw[List.take_add_one,List.getElem?_eq_getElem hi,hp];exact o27
    ·exact(had22.grow g25).at (g27.block _ hs1)
    ·rw[←hw,hdrop]
     simp only[wrongA,fr,h3]
     rfl
    ·rw[textOf_size]at hm ⊢
     rw[hm.symm]
     simp only[List.length_append,List.length_cons];omega
  ·have hi':i=L.length:=by omega
   have hD:L.drop i=[]:=List.drop_of_length_le (by omega)
   have hT:L.take i=L:=List.take_of_length_le (by omega)
   rw[hD]at hw ⊢
   rw[hT]at ow
   refine cond_f (by rw[text_eqb];rfl) ?_
   exact clipP_c ow λv' r'=>k1 (by rw[←hw];rfl) _ _ g r'
end Go.Proofs.YtdpmhkbhlbfbeaaGreatDoor.Txt
end
section
namespace Go.Proofs.YtdpmhkbhlbfbeaaGreatDoor.Txt
open CW RowKit
def nameB (c:UInt8):Bool:=(decide ((c.toNat:Int)≥97)&&decide ((c.toNat:Int)<=122))||((decide ((c.toNat:Int)≥48)&&decide ((c.toNat:Int)<=57))||(((c.toNat:Int)==46)||(((c.toNat:Int)==45)||((c.toNat:Int)==58))))
def iqnL:List UInt8:=[105,113,110,46]
def nameT (l:List UInt8):Bool:=hasP l iqnL&&(!decide (l.drop 4=[])&&(decide (((l.drop 4).length:Int)<=219)&&(l.drop 4).all nameB))
theorem name_1_c {w:World} {c:UInt8} {R:KV} (k:R (.bool (nameB c)) w):Zs 200 #[.int .u8 (c.toNat:Int)] w R:=by
 apply q173W
 unfold nameB at k
 refine JoinP.go (inside_c ⟨_,rfl,cond_intro (λh=>?_) (λh=>inside_c ⟨_,rfl,cond_intro (λh2=>?_) (λh2=>cond_intro (λh3=>?_) (λh3=>cond_intro (λh4=>?_) (λh4=>?_)))⟩)⟩)
 ·rw[h]at k;exact k
 ·rw[h,h2]at k;exact k
 ·rw[h,h2,h3]at k;exact k
 ·rw[h,h2,h3,h4]at k;exact k
 ·rw[h,h2,h3,h4]at k;exact k
theorem Name_c {w:World} {l:List UInt8} {R:KV} (hl:l.length<=1000000) (k:∀w',Grow w w'->R (.bool (nameT l)) w'):Zs 176 #[.string (textOf l)] w R:=by
 apply q172W
 unfold nameT at k
 unfold q172F
 rw[mk_text]
 refine CutPrefix_c (p:=iqnL) (by omega) (by simp [iqnL]) ⟨_,_,rfl,JoinP.go (cond_intro (λh=>?_) (λh=>?_))⟩
 ·rw[h]at k
  rw[h,cond_true]
  have e4:iqnL.length=4:=rfl
  rw[e4]
  refine cond_intro (λh2=>?_) (λh2=>?_)
  ·rw[text_eqb]at h2
   have h2':decide (l.drop 4=[])=false:=by simpa using h2
   rw[h2']at k
   refine cond_intro (λh3=>?_) (λh3=>?_)
   ·rw[textOf_size]at h3
    rw[h3]at k
    exact of_c (p:=nameB) (by simp;omega) (λc ww K gw kk=>callU_of (by kernel_rfl) (name_1_c (kk _ (Grow.refl _)))) λw8 g8=>⟨_,rfl,k _ g8⟩
   ·rw[textOf_size]at h3
    rw[h3]at k
    exact k _ (Grow.refl _)
  ·rw[text_eqb]at h2
   have h2':decide (l.drop 4=[])=true:=by simpa using h2
   rw[h2']at k
   exact k _ (Grow.refl _)
 ·rw[h]at k
  exact k _ (Grow.refl _)
end Go.Proofs.YtdpmhkbhlbfbeaaGreatDoor.Txt
end
section
namespace Go.Proofs.YtdpmhkbhlbfbeaaGreatDoor.Txt
open CW RowKit
theorem digits_head (u:Nat) (h:10<=u):∃c r,Lib.decDigits u=c::r/\c≠48/\r≠[]:=by
 induction u using Nat.strongRecOn with
 |_ u ih=>
  rw[Lib.decDigits,dif_neg (by omega)]
  by_cases h2:u / 10 < 10
  ·refine⟨UInt8.ofNat (48+u / 10),[UInt8.ofNat (48+u % 10)],by rw[Lib.decDigits,dif_pos h2];rfl,λe=>?_,by simp⟩
   have:=congrArg UInt8.toNat e
   rw[u8of _ (by omega)]at this
   have h48:(48:UInt8).toNat=48:=rfl
   omega
  ·obtain⟨c,r,h3,h4,h5⟩:=ih (u / 10) (by omega) (by omega)
   exact⟨c,r++[UInt8.ofNat (48+u % 10)],by rw[h3];rfl,h4,by simp⟩
theorem digits_len_le (u k:Nat) (hk:1<=k) (h:u < 10 ^ k):(Lib.decDigits u).length<=k:=by
 induction k generalizing u with
 |zero=>omega
 |succ k ih=>
  rw[Lib.decDigits]
  by_cases h2:u < 10
  ·rw[dif_pos h2];simp
  ·rw[dif_neg h2,List.length_append]
   cases k with
   |zero=>simp at h;omega
   |succ k=>
    have:=ih (u / 10) (by omega) (by rw[Nat.pow_succ]at h;omega)
    simp;omega
theorem digits_not_x (u:Nat):∀c∈Lib.decDigits u,decD c=true:=λc hc=>by
 have:=digits_dig u c hc
 unfold decD;simp;omega
theorem valD_digits (u:Nat):valD 10 (Lib.decDigits u)=u:=by
 conv=>rhs;rw[←decV_digits u]
 unfold valD decV
 have key:∀(l:List UInt8) (v:Nat),(∀c∈l,decD c=true)->l.foldl (λv c=>v*10+digN c) v=l.foldl (λv c=>v*10+(c.toNat - 48)) v:=by
  intro l
  induction l with
  |nil=>intros;rfl
  |cons c l ih=>
   intro v h
   have hc:=h c (by simp)
   unfold decD at hc
   simp at hc
   simp only[List.foldl_cons]
   have e:digN c=c.toNat - 48:=by unfold digN;rw[decide_eq_true (by omega),cond_true]
   rw[e]
   exact ih _ λx hx=>h x (by simp [hx])
 exact key _ 0 (digits_not_x u)
theorem hexL_not {l:List UInt8} (h:l.getD 0 0≠48\/l.getD 1 0≠120):hexL l=false:=by
 unfold hexL hasP
 cases l with
 |nil=>rfl
 |cons a l=>
  cases l with
  |nil=>rfl
  |cons b l=>
   simp at h ⊢
   intro e1 e2
   rcases h with h|h
   ·exact h e1
   ·exact h e2
theorem dec_getD (u i:Nat) (hi:i < (Lib.decDigits u).length):decD ((Lib.decDigits u).getD i 0)=true:=by
 have:(Lib.decDigits u).getD i 0=(Lib.decDigits u)[i]'hi:=by simp [List.getD,hi]
 rw[this]
 exact digits_not_x u _ (List.getElem_mem _)
theorem isN_digits {n:Nat} (hn:n<=999999999):isN (Lib.decDigits n)=true/\numN (Lib.decDigits n)=n:=by
 have hne:=digits_nil_not n
 have hx:hexL (Lib.decDigits n)=false:=by
  refine hexL_not ?_
  by_cases h:1 < (Lib.decDigits n).length
  ·right
   intro e
   have:=dec_getD n 1 h
   rw[e]at this
   exact absurd this (by decide)
  ·right
   intro e
   have hq:(Lib.decDigits n).getD 1 0=0:=by simp [List.getD,List.getElem?_eq_none (show(Lib.decDigits n).length<=1 by omega)]
   rw[hq]at e
   exact absurd e (by decide)
 have h9:=digits_len_le n 9 (by omega) (by omega)
 have e1:tailL (Lib.decDigits n)=Lib.decDigits n:=by unfold tailL;rw[hx];rfl
 have e2:baseL (Lib.decDigits n)=10:=by unfold baseL;rw[hx];rfl
 have e3:mostL (Lib.decDigits n)=9:=by unfold mostL;rw[hx];rfl
 have hz:(decide (1 < (Lib.decDigits n).length)&&(Lib.decDigits n).getD 0 0==48)=false:=by
  by_cases h:10<=n
  ·obtain⟨c,r,h3,h4,_⟩:=digits_head n h
   rw[h3]
   simp [h4]
  ·have:(Lib.decDigits n).length=1:=by rw[Lib.decDigits,dif_pos (by omega)];rfl
   rw[this];rfl
 have ha:(Lib.decDigits n).all (okD ((10:Nat):Int))=true:=List.all_eq_true.2 λc hc=>by
  unfold okD;rw[digits_not_x n c hc];rfl
 have hN:isN (Lib.decDigits n)=true:=by
  unfold isN
  rw[hx,hz,e1,e2,e3,ha]
  have:(Lib.decDigits n).isEmpty=false:=by simpa using hne
  rw[this,decide_eq_true h9]
  rfl
 exact⟨hN,by unfold numN;rw[hN,e1,e2,cond_true];exact valD_digits n⟩
end Go.Proofs.YtdpmhkbhlbfbeaaGreatDoor.Txt
end
section
namespace Go.Proofs.YtdpmhkbhlbfbeaaGreatDoor.Txt
open CW RowKit
def consH (c:UInt8):List (List UInt8)->List (List UInt8)
 |[]=>[[c]]
 |h::t=>(c::h)::t
def splitC:List UInt8->List (List UInt8)
 |[]=>[[]]
 |c::l=>bif c==44 then[]::splitC l else consH c (splitC l)
theorem splitC_hit:∀(a b:List UInt8),(44:UInt8)∉a->splitC (a++44::b)=a::splitC b
 |[],b,_=>rfl
 |x::a,b,h=>by
  have hx:(x==44)=false:=by simp;intro e;exact h (by simp [e])
  have ih:=splitC_hit a b (λhm=>h (by simp [hm]))
  have e:splitC (x::(a++44::b))=bif x==44 then[]::splitC (a++44::b)else consH x (splitC (a++44::b)):=rfl
  rw[List.cons_append,e,hx,ih];rfl
theorem splitC_miss:∀(a:List UInt8),(44:UInt8)∉a->splitC a=[a]
 |[],_=>rfl
 |x::a,h=>by
  have hx:(x==44)=false:=by simp;intro e;exact h (by simp [e])
  have ih:=splitC_miss a (λhm=>h (by simp [hm]))
  unfold splitC
  rw[hx,ih];rfl
theorem comma_split:∀(l:List UInt8),(44:UInt8)∈l->∃a b,l=a++44::b/\(44:UInt8)∉a
 |[],h=>by simp at h
 |x::l,h=>by
  by_cases hx:x=44
  ·exact⟨[],l,by rw[hx];rfl,by simp⟩
  ·obtain⟨a,b,h1,h2⟩:=comma_split l (by rcases List.mem_cons.1 h with e|e;exact absurd e.symm hx;exact e)
   exact⟨x::a,b,by rw[h1];rfl,by simp;exact⟨λe=>hx e.symm,h2⟩⟩
theorem idxB (l:List UInt8):Lib.indexB (textOf l) (textOf [44])=Lib.indexByte l 44:=by
 have:Lib.indexB (textOf l) (textOf [44])=Lib.index l [44]:=by simp [Lib.indexB,textOf]
 rw[this,Lib.index_one]
theorem splitB_eq:∀(n:Nat) (l:List UInt8),l.length<=n->Lib.splitB (textOf [44]) 0 (Lib.countB (textOf l) (textOf [44])) (textOf l)=(splitC l).map textOf:=by
 intro n
 induction n with
 |zero=>
  intro l hl
  have:l=[]:=List.eq_nil_of_length_eq_zero (by omega)
  subst this
  rw[Lib.splitB_miss _ _ _ _ (by rw[idxB];rfl)];rfl
 |succ n ih=>
  intro l hl
  by_cases h:(44:UInt8)∈l
  ·obtain⟨a,b,rfl,ha⟩:=comma_split l h
   have hi:Lib.indexB (textOf (a++44::b)) (textOf [44])=(a.length:Nat):=by rw[idxB,indexByte_hit a b 44 ha]
   have hs:(textOf [44]).size=1:=rfl
   rw[Lib.countB_hit _ _ a.length (by rw[hs];omega) hi,Nat.add_comm 1,Lib.splitB_hit _ _ _ _ a.length hi,splitC_hit a b ha]
   have e1:(textOf (a++44::b)).extract 0 (a.length+0)=textOf a:=by rw[text_extract];simp
   have e2:(textOf (a++44::b)).extract (a.length+(textOf [44]).size) (textOf (a++44::b)).size=textOf b:=by
    rw[hs,text_extract,textOf_size]
    congr 1
    rw[List.take_of_length_le (by simp;omega)]
    simp
   rw[e1,e2,ih b (by simp at hl;omega)]
   rfl
  ·rw[Lib.splitB_miss _ _ _ _ (by rw[idxB];exact indexByte_miss l 44 h),splitC_miss l h];rfl
def ES:Enc (List UInt8):=⟨1,λl=>[.string (textOf l)],λ_=>rfl,by omega,λ_=>rfl⟩
theorem ES_flat (L:List (List UInt8)):ES.flat L=L.map λl=>.string (textOf l):=by
 induction L with
 |nil=>rfl
 |cons x L ih=>rw[Enc.flat_cons,ih];rfl
theorem Split_c {w:World} {l:List UInt8} {R:KV} (hE:Env w) (hl:l.length<=1000000) (k:∀v w',Grow w w'->RdR ES w' v (splitC l)->R v w'):
 Zs 201 #[.string (textOf l),.string (textOf [44])] w R:=by
 obtain⟨m,hm⟩:=hE.mx
 refine(Go.Proofs.Tryz.strings_Split (textOf l) (textOf [44]) m w (by rw[textOf_size];omega) hm (by show 1<=1;omega)).mono λe w' ⟨he,hw⟩=>⟨_,he,?_⟩
 have hs:(textOf [44]).size=1:=rfl
 have hn:=Lib.splitB_all (textOf [44]) (by rw[hs];omega) 0 _ (textOf l) rfl
 have hc:=Lib.countB_le (textOf [44]) (by rw[hs];omega) _ (textOf l) (Nat.le_refl _)
 rw[textOf_size]at hc
 rw[splitB_eq _ l (Nat.le_refl _)]at hw hn
 rw[List.length_map]at hn
 obtain⟨b,g,_⟩:=alE hw
 rw[←hn]
 refine k _ _ g ⟨some ⟨w.heap.size,0,none⟩,(splitC l).length,rfl,Nat.le_refl _,?_,(λh=>(by cases h)),λi u hi=>⟨_,rfl,?_⟩⟩
 ·rw[hn];simp only[maxLen];omega
 ·rw[b.cell]
  rw[ES_flat]at hi
  simpa using hi
theorem ES_cell {w:World} {v:Value} {L:List (List UInt8)} (h:RdR ES w v L) {i:Int} (h0:0<=i) (h1:i < L.length):∃a,sliceAt v i 1=some a/\w.cell? a=some (.string (textOf (L[i.toNat]'(by omega)))):=by
 obtain⟨a,ha,hc⟩:=h.at h0 h1
 refine⟨a,ha,?_⟩
 have:=hc.1 0 (by show 0 < 1;omega)
 rw[add_zero]at this
 rw[this];rfl
theorem Contains_c {w:World} {v:Value} {L:List (List UInt8)} {x:List UInt8} {R:KV} (h:RdR ES w v L) (k:R (.bool (decide (x∈L))) w):
 Zs 140 #[v,.string (textOf x)] w R:=by
 apply q128W
 apply q135W
 have hle:=h.le
 refine⟨_,h.len,?_⟩
 refine⟨λ(i:Int) (ww:World)=>0<=i/\i<=L.length/\ww=w/\x∉L.take i.toNat,λ(i:Int) (ww:World)=>(L.length - i).toNat,?_,?_⟩
 ·dsimp only
  exact⟨by omega,by omega,rfl,by simp⟩
 ·dsimp only[allR,mapR2,eqN,ltN]
  rintro m i ww ⟨⟨h0,h1,rfl,hn⟩,hm⟩
  refine cond_intro (λh2=>?_) (λh2=>?_)
  ·simp at h2
   obtain⟨a,ha,hc⟩:=ES_cell h h0 (by omega)
   refine⟨a,ha,_,hc,?_⟩
   rw[text_beq']
   refine cond_intro (λh3=>⟨_,rfl,?_⟩) (λh3=>?_)
   ·have hx:x∈L:=by
     have:=of_decide_eq_true h3
     rw[this];exact List.getElem_mem _
    rw[decide_eq_true hx]at k
    rw[decide_eq_true (by omega)]
    exact k
   ·have h3':=of_decide_eq_false h3
    rw[wi64_id (n:=i+1) (by omega) (by omega)]
    refine⟨⟨by omega,by omega,rfl,?_⟩,by omega⟩
    have e2:(i+1).toNat=i.toNat+1:=by omega
    rw[e2,List.take_add_one,List.getElem?_eq_getElem (by omega)]
    simp only[Option.toList_some,List.mem_append,List.mem_singleton,not_or]
    exact⟨hn,h3'⟩
  ·simp at h2
   rw[List.take_of_length_le (by omega)]at hn
   rw[decide_eq_false hn]at k
   exact⟨_,rfl,k⟩
def chO (a b:List UInt8):Option (List UInt8):=(splitC a).find? λs=>decide (s∈splitC b)
def chT (a b:List UInt8):List UInt8:=(chO a b).getD []
def chB (a b:List UInt8):Bool:=(chO a b).isSome
theorem find_here {α:Type} {p:α->Bool} {L:List α} {i:Nat} (hi:i < L.length) (h:(L.take i).find? p=none) (h2:p L[i]=true):L.find? p=some L[i]:=by
 have e:L=L.take i++L[i]::L.drop (i+1):=by rw[List.getElem_cons_drop,List.take_append_drop]
 conv=>lhs;rw[e]
 rw[List.find?_append,h,Option.none_or,List.find?_cons_of_pos h2]
theorem find_step {α:Type} {p:α->Bool} {L:List α} {i:Nat} (hi:i < L.length) (h:(L.take i).find? p=none) (h2:p L[i]=false):(L.take (i+1)).find? p=none:=by
 rw[List.take_add_one,List.getElem?_eq_getElem hi,List.find?_append,h,Option.none_or]
 simp [h2]
theorem Choose_c {w:World} {a b:List UInt8} {R:KV} (hE:Env w) (ha:a.length<=1000000) (hb:b.length<=1000000) (k:∀w',Grow w w'->R (.tuple #[.string (textOf (chT a b)),.bool (chB a b)]) w'):
 Zs 183 #[.string (textOf a),.string (textOf b)] w R:=by
 apply q169W
 refine Split_c hE hb λv0 w1 g1 r1=>Split_c (hE.grow g1) ha λv2 w3 g3 r3=>⟨_,r3.len,?_⟩
 have hle:=r3.le
 have r1':=RdR.grow r1 g3
 refine⟨λ(i:Int) (ww:World)=>0<=i/\i<=(splitC a).length/\ww=w3/\((splitC a).take i.toNat).find? (λs=>decide (s∈splitC b))=none,λ(i:Int) (ww:World)=>((splitC a).length - i).toNat,?_,?_⟩
 ·dsimp only
  exact⟨by omega,by omega,rfl,by simp⟩
 ·dsimp only[allR,mapR2,eqN,ltN]
  rintro m i ww ⟨⟨h0,h1,rfl,hn⟩,hm⟩
  refine cond_intro (λh2=>?_) (λh2=>?_)
  ·simp at h2
   obtain⟨ad,had,hc⟩:=ES_cell r3 h0 (by omega)
   refine⟨ad,had,_,hc,Contains_c r1' ⟨_,rfl,cond_intro (λh3=>?_) (λh3=>?_)⟩⟩
   ·have hf:=find_here (p:=λs=>decide (s∈splitC b)) (by omega) hn h3
    have:=k _ (g1.then g3)
    unfold chT chB chO at this
    rw[hf]at this
    exact this
   ·rw[wi64_id (n:=i+1) (by omega) (by omega)]
    refine⟨⟨by omega,by omega,rfl,?_⟩,by omega⟩
    have e2:(i+1).toNat=i.toNat+1:=by omega
    rw[e2]
    exact find_step (p:=λs=>decide (s∈splitC b)) (by omega) hn h3
  ·simp at h2
   rw[List.take_of_length_le (by omega)]at hn
   have:=k _ (g1.then g3)
   unfold chT chB chO at this
   rw[hn]at this
   exact this
end Go.Proofs.YtdpmhkbhlbfbeaaGreatDoor.Txt
end
