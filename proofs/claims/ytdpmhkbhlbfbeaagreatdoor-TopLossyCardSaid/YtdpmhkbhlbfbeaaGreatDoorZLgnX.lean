/- A part of the proof. -/
import Derived.Test.YtdpmhkbhlbfbeaaGreatDoorZTxtX
import Derived.Test.YtdpmhkbhlbfbeaaGreatDoorZCliX2
set_option linter.unusedSimpArgs false
set_option linter.unusedVariables false
set_option maxRecDepth 100000
section
namespace Go.CW
open Go.RowKit
def Ms (P:Program) (k:TypeId) (w:World) (b n:Nat) (f:List UInt8->Option Value):Prop:=
 ∃D:DataW Value,w.ownsMap P k heldR b n D/\∀x zd,D.atKey (.string x) zd=elD (f x) zd
variable {P:Program} {k t e:TypeId} {w:World} {b n:Nat} {f:List UInt8->Option Value}
theorem keyOfT (hk:P.underlying k=some .string) (x:List UInt8) (hx:x.length<=1000000):keyOf P k (.string (textOf x))=some (.string x):=by
 unfold keyOf mapKey
 rw[hk]
 have:(textOf x).size<=maxLen:=by
  have:(textOf x).size=x.length:=by simp [textOf,ByteArray.size]
  rw[this];simp [maxLen];omega
 simp only[if_pos this];simp [textOf]
theorem Ms.lt (h:Ms P k w b n f):b < w.heap.size:=let ⟨_,h1,_⟩:=h;h1.lt
theorem Ms.at {w':World} (h:Ms P k w b n f) (e:w'.heap[b]? =w.heap[b]?):Ms P k w' b n f:=by
 obtain⟨D,⟨es,clock,hb,F,hs,hD⟩,h2⟩:=h
 exact⟨D,⟨es,clock,e.trans hb,F,hs,hD⟩,h2⟩
theorem Ms.grow {w':World} (h:Ms P k w b n f) (g:Grow w w'):Ms P k w' b n f:=h.at (g.block b h.lt)
theorem Ms.made (w:World):Ms P k (w.alloc (.map #[] 0)) w.heap.size 0 (λ_=>none):=
 ⟨.map [],World.ownsMap_made w _ _ _,λ_ _=>rfl⟩
theorem Ms.has {D:DataW Value} (h2:∀x zd,D.atKey (.string x) zd=elD (f x) zd) (x:List UInt8):Maps.has D (.string x)=(f x).isSome:=by
 cases hf:f x with
 |none=>exact Maps.has_false_of_atKey λz=>by rw[h2,hf];rfl
 |some v=>exact Maps.has_true_of_atKey (y:=.held v) λz=>by rw[h2,hf];rfl
theorem Ms.look_ok (h:Ms P k w b n f) (hk:P.underlying k=some .string) (hK:Maps.Keyed P k) (ht:P.underlying t=some (.map k e)) {z:Value} (hz:(zeroValue e).run P w= .ok z w) {x:List UInt8} (hx:x.length<=1000000):
 Sem.run P (Instr.lookup t (.map (some b)) (.string (textOf x)) true) w= .ok (.tuple #[(f x).getD z,.bool (f x).isSome]) w:=by
 obtain⟨D,h1,h2⟩:=h
 obtain⟨v,ps,hrun,hv⟩:=h1.look_ok hK ht hz (zd:=.held z) (zp:=[]) rfl (keyOfT hk x hx)
 rw[h2]at hv
 simp only[heldR,Option.some.injEq,Prod.mk.injEq]at hv
 rw[hrun,elD_held hv.1.symm,Ms.has h2]
def putS (f:List UInt8->Option Value) (x:List UInt8) (v:Value):List UInt8->Option Value:=λy=>if y=x then some v else f y
theorem Ms.put (h:Ms P k w b n f) (hk:P.underlying k=some .string) (hK:Maps.Keyed P k) (ht:P.underlying t=some (.map k e)) (hn:n < 1000000) {x:List UInt8} (hx:x.length<=1000000) (v:Value):
 ∃w',Sem.run P (Instr.mapUpdate t (.map (some b)) (.string (textOf x)) v) w= .ok () w'/\Ms P k w' b (n+1) (putS f x v)/\w.grownBy w' (some b):=by
 obtain⟨D,h1,h2⟩:=h
 obtain⟨w',hrun,r1,r2⟩:=h1.update hK ht (by simp [maxLen];omega) (val:=v) (d:=.held v) (ps:=[]) (keyOfT hk x hx) rfl
 refine⟨w',hrun,⟨_,r1,λy zd=>?_⟩,r2⟩
 unfold putS
 by_cases e:y=x
 ·subst e
  rw[Maps.atKey_put_same h1.isMap (show WideAt.IsKeyLit (.string y) from trivial),if_pos rfl];rfl
 ·rw[Maps.atKey_put_other (by simpa using e),h2 y,if_neg e]
end Go.CW
end
section
namespace Go.Proofs.YtdpmhkbhlbfbeaaGreatDoor.Lgn
open CW RowKit Txt
open Ses (Prm)
abbrev tPm:TypeId:=60
abbrev pC (p:Prm):Array Value:= #[.string (textOf p.nm),.int .i64 (p.md:Int),.int .i64 (p.bu:Int),.bool p.im,.bool p.dg]
abbrev PAt (w:World) (g:Nat) (p:Prm):Prop:=BK w g (pC p) tPm
abbrev yesL:List UInt8:=[89,101,115]
abbrev noL:List UInt8:=[78,111]
abbrev crcL:List UInt8:=[67,82,67,51,50,67]
abbrev digL:List UInt8:=[67,82,67,51,50,67,44,78,111,110,101]
abbrev rejL:List UInt8:=[82,101,106,101,99,116]
abbrev notL:List UInt8:=[78,111,116,85,110,100,101,114,115,116,111,111,100]
abbrev inL:List UInt8:=[73,110,105,116,105,97,116,111,114,78,97,109,101]
abbrev mrL:List UInt8:=[77,97,120,82,101,99,118,68,97,116,97,83,101,103,109,101,110,116,76,101,110,103,116,104]
abbrev mbL:List UInt8:=[77,97,120,66,117,114,115,116,76,101,110,103,116,104]
abbrev idL:List UInt8:=[73,109,109,101,100,105,97,116,101,68,97,116,97]
abbrev hdL:List UInt8:=[72,101,97,100,101,114,68,105,103,101,115,116]
abbrev tnL:List UInt8:=[84,97,114,103,101,116,78,97,109,101]
def wordL (b:Bool):List UInt8:=bif b then yesL else noL
theorem word_c {w:World} {b:Bool} {R:KV} (k:R (.string (textOf (wordL b))) w):Zs 75 #[.bool b] w R:=by
 apply q77W
 unfold q77F
 cases b<;>exact k
def boolV (l:List UInt8):Bool:=decide (l=yesL)
def boolO (l:List UInt8):Bool:=decide (l=yesL)||decide (l=noL)
theorem Bool_c {w:World} {l:List UInt8} {R:KV} (k:R (.tuple #[.bool (boolV l),.bool (boolO l)]) w):Zs 187 #[.string (textOf l)] w R:=by
 apply q168W
 unfold q168F
 refine CW.JoinP.go ?_
 rw[text_eqb,text_eqb]
 unfold boolV boolO at k
 have e1:(#[89,101,115]:Array UInt8).toList=yesL:=rfl
 have e2:(#[78,111]:Array UInt8).toList=noL:=rfl
 rw[e1,e2]
 by_cases h:l=yesL
 ·rw[decide_eq_true h]at k ⊢;exact k
 ·rw[decide_eq_false h]at k ⊢;exact k
def andT (a b:List UInt8):List UInt8:=bif boolO a&&boolO b then wordL (boolV a&&boolV b)else[]
def andO (a b:List UInt8):Bool:=boolO a&&boolO b
theorem And_c {w:World} {a b:List UInt8} {R:KV} (k:R (.tuple #[.string (textOf (andT a b)),.bool (andO a b)]) w):Zs 181 #[.string (textOf a),.string (textOf b)] w R:=by
 apply q167W
 refine Bool_c ⟨_,_,rfl,Bool_c ⟨_,_,rfl,?_⟩⟩
 refine CW.JoinP.go ?_
 unfold andT andO at k
 cases h1:boolO a<;>cases h2:boolO b<;>simp only[h1,h2]at k ⊢ <;>try exact k
 refine cond_f rfl (cond_f rfl (CW.JoinP.go ?_))
 cases h3:boolV a<;>cases h4:boolV b<;>simp only[h3,h4]at k ⊢ <;>exact k
def sizeO (l:List UInt8):Bool:=isN l&&(decide (512<=numN l)&&decide (numN l<=16777215))
def sizeN (n:Nat) (l:List UInt8):Nat:=bif sizeO l then min n (numN l)else n
theorem size_c {w:World} {g j n:Nat} {cs:Array Value} {l:List UInt8} {R:KV} (hb:BK w g cs tPm) (hj:cs[j]? =some (.int .i64 (n:Int))) (hl:l.length<=1000000)
 (k:∀w',BK w' g (cs.setIfInBounds j (.int .i64 (sizeN n l:Int))) tPm->Md (λq=>q=g) w.heap.size w w'->R (.bool (sizeO l)) w'):
 Zs 178 #[.pointer (some (Addr.add ⟨g,0,none⟩ j)),.string (textOf l)] w R:=by
 have hj':j < cs.size:=by
  refine Nat.lt_of_not_le λhge=>?_
  rw[Array.getElem?_eq_none hge]at hj;cases hj
 have hsame:cs.setIfInBounds j (.int .i64 (n:Int))=cs:=by
  apply Array.ext_getElem?
  intro i
  rw[Array.getElem?_setIfInBounds]
  split
  ·next h=>subst h;first|(rw[if_pos hj',hj])|exact hj.symm
  ·rfl
 apply q76W
 refine Number_c hl λw1 g1=>⟨_,_,rfl,?_⟩
 have hb1:=hb.grow g1
 refine JoinP.bool (λb w'=>b=!sizeO l/\w'=w1) (λjj hjj=>?_) ?_
 ·unfold sizeO at hjj
  cases h1:isN l with
  |false=>exact hjj _ _ ⟨by simp [h1],rfl⟩
  |true=>
   refine cond_f rfl (cond_intro (λh2=>?_) (λh2=>?_))
   ·have h2:=of_decide_eq_true h2
    exact hjj _ _ ⟨by rw[h1,decide_eq_false (show ¬512<=numN l by omega)];rfl,rfl⟩
   ·have h2:=of_decide_eq_false h2
    refine hjj _ _ ⟨?_,rfl⟩
    rw[h1,decide_eq_true (show 512<=numN l by omega)]
    by_cases h3:numN l<=16777215
    ·rw[decide_eq_true h3,decide_eq_false (by omega)];rfl
    ·rw[decide_eq_false h3,decide_eq_true (by omega)];rfl
 ·rintro b w5 ⟨rfl,rfl⟩
  refine cond_intro (λh=>?_) (λh=>?_)
  ·have h:sizeO l=false:=by simpa using h
   have:=k w5 (by unfold sizeN;rw[h,cond_false,hsame];exact hb1) ((Md.refl (λq=>q=g) _ _).grow g1)
   rw[h]at this;exact this
  ·have h:sizeO l=true:=by simpa using h
   refine withAddr_some ⟨_,(hb1.cell j).trans hj,withAddr_some ⟨st1_at hb1 hj',nm λw9 e9=>?_⟩⟩
   obtain⟨b9,t9⟩:=setE hb1 e9
   have e:(if(numN l:Int) < (n:Int)then(numN l:Int)else(n:Int))=(sizeN n l:Int):=by
    unfold sizeN;rw[h,cond_true]
    split<;>omega
   rw[e]at b9
   have:=k w9 b9 (((Md.refl (λq=>q=g) _ _).grow g1).turn t9 (.inl rfl))
   rw[h]at this;exact this
def K1 (p:Prm) (v:List UInt8):List UInt8×Bool×Bool×Prm:=([],false,nameT v,{p with nm:=v})
def K2 (p:Prm) (v:List UInt8):List UInt8×Bool×Bool×Prm:=([],false,sizeO v,{p with md:=sizeN p.md v})
def K3 (p:Prm) (v:List UInt8):List UInt8×Bool×Bool×Prm:=(Lib.itoa (sizeN p.bu v:Nat),true,sizeO v,{p with bu:=sizeN p.bu v})
def K4 (p:Prm) (v:List UInt8):List UInt8×Bool×Bool×Prm:=(andT (wordL p.im) v,true,andO (wordL p.im) v,{p with im:=decide (andT (wordL p.im) v=yesL)})
def digO (v:List UInt8):List UInt8:=bif chB v digL then chT v digL else rejL
def K5 (p:Prm) (v:List UInt8):List UInt8×Bool×Bool×Prm:=(digO v,true,true,{p with dg:=decide (digO v=crcL)})
def K6 (p:Prm) (v:List UInt8):List UInt8×Bool×Bool×Prm:=([],false,true,p)
def KeyIs (f:Value) (K:Prm->List UInt8->List UInt8×Bool×Bool×Prm):Prop:=
 ∀{w:World} {g:Nat} {p:Prm} {v:List UInt8} {R:KV},(∀w',Md (λq=>q=g) w.heap.size w w'->Env w')->PAt w g p->p.bu<=16777215->v.length<=1000000->
  (∀w',PAt w' g (K p v).2.2.2->Md (λq=>q=g) w.heap.size w w'->R (.tuple #[.string (textOf (K p v).1),.bool (K p v).2.1,.bool (K p v).2.2.1]) w')->
  callU Tryz.prog f #[zA g,.string (textOf v)] w R
theorem k1_c:KeyIs (.func (.func 175) #[] #[]) K1:=by
 intro w g p v R hE hb hbu hv k
 refine callU_of (by kernel_rfl) (q70W _ _ _ _ ?_)
 refine withAddr_some ⟨st1_at hb (by simp [pC]),nm λw1 e1=>?_⟩
 obtain⟨b1,t1⟩:=setE hb e1
 refine Name_c hv λw3 g3=>⟨_,rfl,?_⟩
 exact k _ (BK.grow b1 g3) (((Md.refl (λq=>q=g) _ _).turn t1 (.inl rfl)).grow g3)
theorem k2_c:KeyIs (.func (.func 177) #[] #[]) K2:=by
 intro w g p v R hE hb hbu hv k
 refine callU_of (by kernel_rfl) (q71W _ _ _ _ ?_)
 refine withAddr_some (size_c hb (j:=1) rfl hv λw' b' m'=>⟨_,rfl,?_⟩)
 exact k _ b' m'
theorem sizeN_le {n:Nat} (l:List UInt8):sizeN n l<=n:=by unfold sizeN;cases sizeO l<;>simp<;>omega
theorem k3_c:KeyIs (.func (.func 179) #[] #[]) K3:=by
 intro w g p v R hE hb hbu hv k
 refine callU_of (by kernel_rfl) (q72W _ _ _ _ ?_)
 refine withAddr_some (size_c hb (j:=2) rfl hv λw' b' m'=>⟨_,rfl,withAddr_some ⟨_,b'.cell 2,?_⟩⟩)
 have hE':Tab w':=(hE _ m').tab
 have:=sizeN_le (n:=p.bu) v
 refine itoa_c hE' (show Fits .i64 _ by constructor<;>simp [IntKind.min,IntKind.max,IntKind.bits]<;>omega) λw7 g7=>⟨_,rfl,?_⟩
 exact k _ (BK.grow b' g7) (m'.grow g7)
theorem k4_c:KeyIs (.func (.func 180) #[] #[]) K4:=by
 intro w g p v R hE hb hbu hv k
 refine callU_of (by kernel_rfl) (q73W _ _ _ _ ?_)
 refine withAddr_some ⟨_,hb.cell 3,word_c ⟨_,rfl,And_c ⟨_,_,rfl,withAddr_some ⟨st1_at hb (by simp [pC]),nm λw1 e1=>?_⟩⟩⟩⟩
 rw[text_eqb]at e1
 obtain⟨b1,t1⟩:=setE hb e1
 exact k _ b1 ((Md.refl (λq=>q=g) _ _).turn t1 (.inl rfl))
theorem k5_c:KeyIs (.func (.func 182) #[] #[]) K5:=by
 intro w g p v R hE hb hbu hv k
 refine callU_of (by kernel_rfl) (q74W _ _ _ _ ?_)
 have e:ByteArray.mk #[67,82,67,51,50,67,44,78,111,110,101]=textOf digL:=by rw[mk_text]
 have e2:ByteArray.mk #[82,101,106,101,99,116]=textOf rejL:=by rw[mk_text]
 unfold q74F
 rw[e,e2]
 refine Choose_c (hE _ (Md.refl _ _ _)) hv (by decide) λw1 g1=>⟨_,_,rfl,?_⟩
 have hb1:=BK.grow hb g1
 refine CW.JoinP.go ?_
 have fin:∀t:List UInt8,t=digO v->withAddr (zA g) λa6=>(St1 w1 (Addr.add a6 4))/\bindW (World.setCell w1 (Addr.add a6 4) (.bool (ByteArray.toList (textOf t)==ByteArray.toList (ByteArray.mk #[67,82,67,51,50,67])))) λw7=>R (.tuple #[(.string (textOf t)),(.bool true),(.bool true)]) w7:=by
  rintro t rfl
  refine withAddr_some ⟨st1_at hb1 (by simp [pC]),nm λw7 e7=>?_⟩
  rw[text_eqb]at e7
  obtain⟨b7,t7⟩:=setE hb1 e7
  exact k _ b7 (((Md.refl (λq=>q=g) _ _).grow g1).turn t7 (.inl rfl))
 cases h:chB v digL with
 |false=>exact fin _ (by unfold digO;rw[h];rfl)
 |true=>exact fin _ (by unfold digO;rw[h];rfl)
theorem k6_c:KeyIs (.func (.func 184) #[] #[]) K6:=by
 intro w g p v R hE hb hbu hv k
 refine callU_of (by kernel_rfl) (q75W _ _ _ _ ?_)
 exact k _ hb (Md.refl _ _ _)
end Go.Proofs.YtdpmhkbhlbfbeaaGreatDoor.Lgn
end
section
namespace Go.Proofs.YtdpmhkbhlbfbeaaGreatDoor.Lgn
open CW RowKit Txt
open Ses (Prm)
theorem Md.under {S :Fp} {B C:Nat} {w w1:World} (a:Md S B w w1) (hB:C<=B) (hC:C<=w.heap.size) (h:∀k, S k->C<=k):Below C w w1:=
 ⟨a.os,a.tape,a.output,a.size,λk hk=>a.block k (by omega) (λhh=>hh.elim (λh1=>by have:=h k h1;omega) (λh1=>by omega))⟩
theorem grownBy.under {w0 w w':World} {b:Nat} (g:Grow w0 w) (y:w.grownBy w' (some b)) (hb:w0.heap.size<=b):Grow w0 w':=
 ⟨y.os.trans g.os,y.tape.trans g.tape,y.output.trans g.output,Nat.le_trans g.size y.size,λq hq=>(y.block q (Nat.lt_of_lt_of_le hq g.size) (by simp;omega)).trans (g.block q hq)⟩
abbrev tKm:TypeId:=218
abbrev tKy:TypeId:=221
theorem undKm:Tryz.prog.underlying tKm=some (.map tS tKy):=by kernel_rfl
abbrev f1:Value:=.func (.func 175) #[] #[]
abbrev f2:Value:=.func (.func 177) #[] #[]
abbrev f3:Value:=.func (.func 179) #[] #[]
abbrev f4:Value:=.func (.func 180) #[] #[]
abbrev f5:Value:=.func (.func 182) #[] #[]
abbrev f6:Value:=.func (.func 184) #[] #[]
def tabF:List UInt8->Option Value:=CW.putS (CW.putS (CW.putS (CW.putS (CW.putS (CW.putS (λ_=>none) inL f1) mrL f2) mbL f3) idL f4) hdL f5) tnL f6
theorem keys_c {w:World} {R:KV} (k:∀b w',Grow w w'->w.heap.size<=b->Ms Tryz.prog tS w' b 6 tabF->R (.map (some b)) w'):Zs 139 #[] w R:=by
 apply q69W
 have m0:Ms Tryz.prog tS (w.alloc (.map #[] 0)) w.heap.size 0 (λ_=>none):=Ms.made w
 have g0:Grow w (w.alloc (.map #[] 0)):=Grow.al (Grow.refl w) _
 obtain⟨w2,r2,m2,y2⟩:=m0.put undS keyS undKm (by omega) (x:=inL) (by decide) f1
 obtain⟨w3,r3,m3,y3⟩:=m2.put undS keyS undKm (by omega) (x:=mrL) (by decide) f2
 obtain⟨w4,r4,m4,y4⟩:=m3.put undS keyS undKm (by omega) (x:=mbL) (by decide) f3
 obtain⟨w5,r5,m5,y5⟩:=m4.put undS keyS undKm (by omega) (x:=idL) (by decide) f4
 obtain⟨w6,r6,m6,y6⟩:=m5.put undS keyS undKm (by omega) (x:=hdL) (by decide) f5
 obtain⟨w7,r7,m7,y7⟩:=m6.put undS keyS undKm (by omega) (x:=tnL) (by decide) f6
 have l:=Nat.le_refl w.heap.size
 have g7:=grownBy.under (grownBy.under (grownBy.under (grownBy.under (grownBy.under (grownBy.under g0 y2 l) y3 l) y4 l) y5 l) y6 l) y7 l
 exact⟨_,_,rfl,w2,r2,w3,r3,w4,r4,w5,r5,w6,r6,w7,r7,k _ _ g7 l m7⟩
def keyR (p:Prm) (k v:List UInt8):Option (List UInt8×Bool×Bool×Prm):=
 if k=tnL then some (K6 p v)else if k=hdL then some (K5 p v)else if k=idL then some (K4 p v)else if k=mbL then some (K3 p v)else if k=mrL then some (K2 p v)else if k=inL then some (K1 p v)else none
theorem tab_cases (x:List UInt8):(tabF x=none/\∀p v,keyR p x v=none)\/∃f K,tabF x=some f/\KeyIs f K/\(∀p v,keyR p x v=some (K p v))/\∀p v,(K p v).2.2.2.bu<=p.bu:=by
 unfold tabF keyR CW.putS
 by_cases h6:x=tnL
 ·exact .inr ⟨_,K6,by simp only[h6,if_true],k6_c,λp v=>by simp only[h6,if_true],λp v=>Nat.le_refl _⟩
 by_cases h5:x=hdL
 ·exact .inr ⟨_,K5,by simp only[if_neg h6,if_pos h5],k5_c,λp v=>by simp only[if_neg h6,if_pos h5],λp v=>Nat.le_refl _⟩
 by_cases h4:x=idL
 ·exact .inr ⟨_,K4,by simp only[if_neg h6,if_neg h5,if_pos h4],k4_c,λp v=>by simp only[if_neg h6,if_neg h5,if_pos h4],λp v=>Nat.le_refl _⟩
 by_cases h3:x=mbL
 ·exact .inr ⟨_,K3,by simp only[if_neg h6,if_neg h5,if_neg h4,if_pos h3],k3_c,λp v=>by simp only[if_neg h6,if_neg h5,if_neg h4,if_pos h3],λp v=>sizeN_le v⟩
 by_cases h2:x=mrL
 ·exact .inr ⟨_,K2,by simp only[if_neg h6,if_neg h5,if_neg h4,if_neg h3,if_pos h2],k2_c,λp v=>by simp only[if_neg h6,if_neg h5,if_neg h4,if_neg h3,if_pos h2],λp v=>Nat.le_refl _⟩
 by_cases h1:x=inL
 ·exact .inr ⟨_,K1,by simp only[if_neg h6,if_neg h5,if_neg h4,if_neg h3,if_neg h2,if_pos h1],k1_c,λp v=>by simp only[if_neg h6,if_neg h5,if_neg h4,if_neg h3,if_neg h2,if_pos h1],λp v=>Nat.le_refl _⟩
 exact .inl ⟨by simp only[if_neg h6,if_neg h5,if_neg h4,if_neg h3,if_neg h2,if_neg h1],λp v=>by simp only[if_neg h6,if_neg h5,if_neg h4,if_neg h3,if_neg h2,if_neg h1]⟩
def negGo (o:List Pr) (p:Prm):List Pr->List Pr×Prm×Bool
 |[]=>(o,p,false)
 |x::l=>match keyR p x.1 x.2 with
  |none=>negGo (o++[(x.1,notL)]) p l
  |some (a,told,ok,q)=>bif ok then negGo (bif told then o++[(x.1,a)] else o) q l else(o,q,true)
def zPm:Prm:=⟨[],0,0,false,false⟩
def negF (A:List (List UInt8)) (r:List Pr×Prm×Bool):List Pr×Prm×Int:=
 bif r.2.2 then([],zPm,1)else if r.2.1.nm=[] then([],zPm,3)else if r.2.1.nm∈A then(r.1,r.2.1,0)else([],zPm,2)
def negN (p:Prm) (A:List (List UInt8)) (L:List Pr):List Pr×Prm×Int:=negF A (negGo [] {p with nm:=[],dg:=false} L)
theorem JoinP.vi {k:IntKind} {rest:Value->Int->World->Prop} {body:(Value->Int->World->Prop)->Prop} (Q:Value->Int->World->Prop) (hb:∀j:Value->Int->World->Prop,(∀a b w,Q a b w->j a b w)->body j) (h:∀a b w,Q a b w->rest a b w):JoinP [.val,.int k] rest body:=hb rest h
theorem JoinP.int {k:IntKind} {rest:Int->World->Prop} {body:(Int->World->Prop)->Prop} (Q:Int->World->Prop) (hb:∀j:Int->World->Prop,(∀b w,Q b w->j b w)->body j) (h:∀b w,Q b w->rest b w):JoinP [.int k] rest body:=hb rest h
abbrev vPm (p:Prm):Value:=.agg (pC p)
theorem apP {w:World} {B:Nat} {v src:Value} {L M:List Pr} (ho:OwnR EP w B tP v L) (hr:RdR EP w src M) (hl:L.length+M.length<=1000) (hB:B<=w.heap.size):
 ∃v' w',Sem.run Tryz.prog (Builtin.append_ #[tPs,tPs] tPs #[v,src]) w= .ok v' w'/\OwnR EP w' B tP v' (L++M)/\OwnNext w v w' v'/\Below B w w':=by
 obtain⟨v',w',k1,k2,k3⟩:=app_ownR (E:=EP) tyP ho hr (by omega) hB
 exact⟨v',w',k1,k2,k3,k3.below hB λq hq=>(ho.lt q hq).1⟩
theorem cell_pair {w:World} {v:Value} {L:List Pr} (h:RdR EP w v L) {i:Int} (h0:0<=i) (h1:i < L.length):∃a,sliceAt v i 2=some a/\∀w',Grow w w'->ldCells w' a 2 #[.string (textOf (L[i.toNat]'(by omega)).1),.string (textOf (L[i.toNat]'(by omega)).2)]:=by
 obtain⟨a,ha,hc⟩:=h.at h0 h1
 refine⟨a,ha,λw' g=>?_⟩
 obtain⟨a',ha',hc'⟩:=(h.grow g).at h0 h1
 have ea:a'=a:=by
  have h1:sliceAt v i 2=some a:=ha
  have h2:sliceAt v i 2=some a':=ha'
  rw[h1]at h2;exact(Option.some.inj h2).symm
 subst ea
 exact⟨rfl,λj hj=>by rw[hc'.1 j hj];simp [EP]⟩
theorem clip2 {B:Nat} {v:Value} {L:List Pr} {n:Nat} {w:World} (ho:OwnR EP w B tP v L) (hn:n=L.length):∃v',subSlice v 2 none (some (.int .i64 ((n:Nat):Int))) (some (.int .i64 ((n:Nat):Int)))=some v'/\v'.ownBlock=v.ownBlock/\∀w',OwnR EP w' B tP v L->RdR EP w' v' L:=by
 subst hn
 have hd:=ho.rd
 obtain⟨a,cap,rfl,q1,q2,q3,q4⟩:=hd
 have h0:(0:Int)<=(L.length:Int):=by omega
 have e:(L.length:Int)<=cap:=by omega
 refine⟨.slice a L.length L.length,?_,by cases a<;>rfl,λw' ho'=>?_⟩
 ·simp only[subSlice,boundsOf,boundOf,h0,e,and_self,if_true,Int.toNat_natCast,Int.le_refl,Nat.sub_zero,Nat.zero_mul]
  cases a with
  |none=>
   have:=q3 rfl
   split<;>simp
  |some a=>split<;>simp [add_zero]
 ·obtain⟨a',cap',e',k1,k2,k3,k4⟩:=ho'.rd
  cases e'
  exact⟨a,L.length,rfl,Nat.le_refl _,by omega,λhh=>by have:=q3 hh;omega,k4⟩
theorem clipS_c {w:World} {B:Nat} {v:Value} {L:List Pr} {R:KV} (ho:OwnR EP w B tP v L) (k:∀v',v'.ownBlock=v.ownBlock->(∀w',OwnR EP w' B tP v L->RdR EP w' v' L)->R v' w):Zs 138 #[v] w R:=by
 have hd:=ho.rd
 apply q120W
 refine⟨_,hd.len,_,hd.len,?_⟩
 obtain⟨v',h1,h0,h2⟩:=clip2 ho rfl
 exact⟨v',h1,k v' h0 h2⟩
theorem one_pr {w w':World} (p:Pr) (e:w'=World.alloc w (.cells #[.string (textOf p.1),.string (textOf p.2)] tP)):RdR EP w' (.slice (some ⟨w.heap.size,0,none⟩) 1 1) [p]/\Grow w w':=by
 obtain⟨b,g,_⟩:=alE e
 refine⟨⟨some ⟨w.heap.size,0,none⟩,1,rfl,by simp,by simp [maxLen],(λh=>(by cases h)),λq u hq=>⟨_,rfl,?_⟩⟩,g⟩
 rw[b.cell]
 have:EP.flat [p]=[.string (textOf p.1),.string (textOf p.2)]:=by simp [Enc.flat,EP]
 rw[this]at hq
 rw[←hq]
 simp
theorem Negotiate_c {w:World} {p:Prm} {av qv:Value} {A:List (List UInt8)} {L:List Pr} {R:KV} (hE:Env w) (ha:RdR ES w av A) (hq:RdR EP w qv L) (hbu:p.bu<=16777215)
 (hn:L.length<=1000) (h1:∀x∈L,x.1.length<=100000) (h2:∀x∈L,x.2.length<=100000)
 (k:∀v w',Grow w w'->RdR EP w' v (negN p A L).1->NewV w v->R (.tuple #[v,vPm (negN p A L).2.1,.int .i64 (negN p A L).2.2]) w'):
 Zs 89 #[vPm p,av,qv] w R:=by
 apply q66W
 refine nm λw0 e0=>nm λw1 e1=>?_
 obtain⟨b0,g0,z0⟩:=alE e0
 obtain⟨b1,g1,z1⟩:=alE e1
 refine⟨_,_,_,_,_,(b0.grow g1).ld rfl,nm λw7 e7=>?_⟩
 obtain⟨b7,g7,z7⟩:=alE e7
 refine⟨b7.row rfl rfl,nm λw8 e8=>?_⟩
 obtain⟨b8,t8⟩:=rowE b7 e8 rfl
 refine⟨st1_at b8 (by simp),nm λw9 e9=>?_⟩
 obtain⟨b9,t9⟩:=setE b8 e9
 refine⟨st1_at b9 (by simp),nm λw10 e10=>?_⟩
 obtain⟨b10,t10⟩:=setE b9 e10
 have l1:=Nat.le_refl w1.heap.size
 have G1:Grow w1 w10:=Below.turn (Below.turn (Below.turn g7 t8 l1) t9 l1) t10 l1
 have G10:Grow w w10:=(g0.then g1).then G1
 have P10:PAt w10 w1.heap.size {p with nm:=[],dg:=false}:=b10
 refine keys_c λbm w12 g12 hbm M12=>⟨_,hq.len,?_⟩
 have Pz:PAt w12 w1.heap.size {p with nm:=[],dg:=false}:=BK.grow P10 g12
 have bz:BK w12 w0.heap.size (pC zPm) tPm:=(b1.grow G1).grow g12
 have G12:=G10.then g12
 generalize hg:w1.heap.size=g at *
 generalize hr:w0.heap.size=r at *
 have hgr:r < g:=by omega
 have hwr:w.heap.size<=r:=by rw[←hr];exact g0.size
 have hgB:g < w12.heap.size:=Pz.lt
 have hbB:bm < w12.heap.size:=M12.lt
 have hwB:w.heap.size<=w12.heap.size:=G12.size
 have hgm:g < bm:=by
  have:=b10.lt
  omega
 generalize hB:w12.heap.size=B at *
 refine JoinP.vi (λv st ww=>∃o q,Grow w ww/\B<=ww.heap.size/\BK ww r (pC zPm) tPm/\PAt ww g q/\OwnR EP ww B tP v o/\((st=1/\negGo [] {p with nm:=[],dg:=false} L=(o,q,true))\/(st=0/\negGo [] {p with nm:=[],dg:=false} L=(o,q,false)))) (λj52 hj=>?_) ?_
 ·refine⟨λ(v:Value) (st i:Int) (ww:World)=>0<=i/\i<=L.length/\st=0/\∃o q,Grow w ww/\B<=ww.heap.size/\BK ww r (pC zPm) tPm/\PAt ww g q/\q.bu<=16777215/\OwnR EP ww B tP v o/\o.length<=i.toNat/\Ms Tryz.prog tS ww bm 6 tabF/\negGo [] {p with nm:=[],dg:=false} L=negGo o q (L.drop i.toNat),
   λ(v:Value) (st i:Int) (ww:World)=>(L.length - i).toNat,?_,?_⟩
  ·dsimp only
   exact⟨by omega,by omega,rfl,[],_,G12,by omega,bz,Pz,hbu,OwnR.nil _ _ _,by simp,M12,by simp⟩
  ·dsimp only[allR,mapR2,eqN,ltN]
   rintro m v st i ww ⟨⟨hi0,hi1,rfl,o,q,G,hsz,bZ,P,hqb,ow,hol,M,hneg⟩,hm⟩
   refine cond_intro (λhc=>?_) (λhc=>?_)
   ·have hc:=of_decide_eq_true hc
    have hi:i.toNat < L.length:=by omega
    have hmem:L[i.toNat]'hi∈L:=List.getElem_mem _
    have hx1:=h1 _ hmem
    have hx2:=h2 _ hmem
    have hdrop:L.drop i.toNat=L[i.toNat]'hi::L.drop (i.toNat+1):=List.drop_eq_getElem_cons hi
    obtain⟨ad,had,hld⟩:=cell_pair hq hi0 (by omega)
    rw[hdrop]at hneg
    generalize hx:L[i.toNat]'hi=x at *
    refine JoinP.vi (λv' st' ww'=>st'=0/\∃o' q',Grow w ww'/\B<=ww'.heap.size/\BK ww' r (pC zPm) tPm/\PAt ww' g q'/\q'.bu<=16777215/\OwnR EP ww' B tP v' o'/\o'.length<=i.toNat+1/\Ms Tryz.prog tS ww' bm 6 tabF/\negGo [] {p with nm:=[],dg:=false} L=negGo o' q' (L.drop (i.toNat+1))) (λj61 hj61=>?_) ?_
    ·refine⟨ad,had,_,_,hld ww G,nm λw65 e65=>?_⟩
     obtain⟨b65,g65,z65⟩:=alE e65
     refine⟨b65.row rfl rfl,nm λw66 e66=>?_⟩
     obtain⟨b66,t66⟩:=rowE b65 e66 rfl
     have g66:Grow ww w66:=Below.turn g65 t66 (Nat.le_refl _)
     have M66:=M.grow g66
     refine⟨_,b66.cell 0,?_⟩
     have app:∀(y:Pr) (w67:World) (q':Prm),Grow w w67->ww.heap.size<=w67.heap.size->BK w67 r (pC zPm) tPm->PAt w67 g q'->q'.bu<=16777215->OwnR EP w67 B tP v o->Ms Tryz.prog tS w67 bm 6 tabF->negGo [] {p with nm:=[],dg:=false} L=negGo (o++[y]) q' (L.drop (i.toNat+1))->∀w71,w71=World.alloc w67 (.cells #[.string (textOf y.1),.string (textOf y.2)] tP)->
      ∃v72 w73,Sem.run Tryz.prog (Go.Builtin.append_ #[tPs,tPs] tPs #[v,.slice (some ⟨w67.heap.size,0,none⟩) 1 1]) w71= .ok v72 w73/\j61 v72 (0:Int) w73:=by
      intro y w67 q' G67 hs67 bZ' P' hqb' ow' M' hneg' w71 e71
      obtain⟨r71,g71⟩:=one_pr y e71
      have hsB:B<=w71.heap.size:=by have:=g71.size;omega
      obtain⟨v72,w73,k73,o73,_,n73⟩:=apP (ow'.grow g71) r71 (by simp;omega) hsB
      refine⟨v72,w73,k73,hj61 _ _ _ ⟨rfl,o++[y],q',(G67.then g71).trans (n73.mono (by omega)),by have:=n73.size;omega,?_,?_,hqb',o73,by simp;omega,?_,hneg'⟩⟩
      ·exact(n73.block _ (by omega)).trans (bZ'.grow g71)
      ·exact(n73.block _ (by omega)).trans (BK.grow P' g71)
      ·exact(M'.grow g71).at (n73.block _ (by omega))
     rcases tab_cases x.1 with ⟨ht,hk⟩|⟨f,K,ht,hf,hk,hKb⟩
     ·refine⟨_,_,M66.look_ok undS keyS undKm rfl (by omega),?_⟩
      rw[ht]
      refine cond_t rfl ⟨_,b66.cell 0,nm λw71 e71=>?_⟩
      have:=app (x.1,notL) w66 q (G.then g66) g66.size (bZ.grow g66) (BK.grow P g66) hqb (ow.grow g66) M66 (by rw[hneg];simp only[negGo,hk]) w71 (by rw[e71,mk_text])
      exact this
     ·refine⟨_,_,M66.look_ok undS keyS undKm rfl (by omega),?_⟩
      rw[ht]
      have hsw:=g66.size
      have hE66:∀w',Md (λk=>k=g) w66.heap.size w66 w'->Grow w w':=λw' m=>(G.then g66).trans (Md.under m (by omega) (by omega) (by intro k hk;omega))
      refine cond_f rfl ⟨_,b66.cell 1,hf (λw' m=>hE.grow (hE66 w' m)) (BK.grow P g66) hqb (by omega) λw76 P76 m76=>⟨_,_,_,rfl,?_⟩⟩
      have hk':=hk q x.2
      have hKb':=hKb q x.2
      generalize hK:K q x.2=kr at *
      obtain⟨a,told,ok,q'⟩:=kr
      dsimp only at *
      have G76:=hE66 _ m76
      have hs76:w66.heap.size<=w76.heap.size:=m76.size
      have bZ76:BK w76 r (pC zPm) tPm:=(m76.block _ (bZ.grow g66).lt (λhh=>hh.elim (λe=>by omega) (λh=>by have:=(bZ.grow g66).lt;omega))).trans (bZ.grow g66)
      have M76:Ms Tryz.prog tS w76 bm 6 tabF:=M66.at (m76.block _ M66.lt (λhh=>hh.elim (λe=>by omega) (λh=>by have:=M66.lt;omega)))
      have ow76:OwnR EP w76 B tP v o:=(ow.grow g66).stable λy hy=>m76.block _ ((ow.grow g66).lt y hy).2 (λhh=>hh.elim (λe=>by have:=((ow.grow g66).lt y hy).1;omega) (λh=>by have:=((ow.grow g66).lt y hy).2;omega))
      have b76:BK w76 ww.heap.size #[.string (textOf x.1),.string (textOf x.2)] tP:=(m76.block _ b66.lt (λhh=>hh.elim (λe=>by omega) (λh=>by have:=b66.lt;omega))).trans b66
      cases ok with
      |false=>exact cond_t rfl (hj _ _ _ ⟨o,q',G76,by omega,bZ76,P76,ow76,.inl ⟨rfl,by rw[hneg];simp only[negGo,hk',cond_false]⟩⟩)
      |true=>
       refine cond_f rfl ?_
       cases told with
       |true=>
        refine cond_t rfl ⟨_,b76.cell 0,nm λw81 e81=>?_⟩
        exact app (x.1,a) w76 q' G76 (by omega) bZ76 P76 (by omega) ow76 M76 (by rw[hneg];simp only[negGo,hk',cond_true]) w81 e81
       |false=>
        exact cond_f rfl (hj61 _ _ _ ⟨rfl,o,q',G76,by omega,bZ76,P76,by omega,ow76,by omega,M76,by rw[hneg];simp only[negGo,hk',cond_true,cond_false]⟩)
    ·rintro v' st' ww' ⟨rfl,o',q',c1,c2,c3,c4,c5,c6,c7,c8,c9⟩
     rw[wi64_id (n:=i+1) (by omega) (by omega)]
     have e2:(i+1).toNat=i.toNat+1:=by omega
     exact⟨⟨by omega,by omega,rfl,o',q',c1,c2,c3,c4,c5,c6,by omega,c8,by rw[e2];exact c9⟩,by omega⟩
   ·have hc:=of_decide_eq_false hc
    rw[List.drop_of_length_le (by omega)]at hneg
    exact hj _ _ _ ⟨o,q,G,hsz,bZ,P,ow,.inr ⟨rfl,hneg⟩⟩
 ·rintro v st ww ⟨o,q,G,hsz,bZ,P,ow,hst⟩
  refine JoinP.int (λn w18=>Grow ww w18/\((n≠0/\negN p A L=([],zPm,n))\/(n=0/\negN p A L=(o,q,0)))) (λj46 hj=>?_) ?_
  ·rcases hst with ⟨rfl,hn1⟩|⟨rfl,hn1⟩
   ·exact cond_t rfl (hj _ _ ⟨Grow.refl _,.inl ⟨by decide,by unfold negN;rw[hn1];rfl⟩⟩)
   ·refine cond_f rfl ⟨_,P.cell 0,?_⟩
    rw[text_eqb]
    refine cond_intro (λh=>?_) (λh=>?_)
    ·have h:=of_decide_eq_true h
     exact hj _ _ ⟨Grow.refl _,.inl ⟨by decide,by unfold negN negF;rw[hn1];simp only[cond_false,if_pos h]⟩⟩
    ·have h:=of_decide_eq_false h
     refine⟨_,P.cell 0,Contains_c (ha.grow G) ⟨_,rfl,cond_intro (λh'=>?_) (λh'=>?_)⟩⟩
     ·have h':q.nm∉A:=by simpa using h'
      exact hj _ _ ⟨Grow.refl _,.inl ⟨by decide,by unfold negN negF;rw[hn1];simp only[cond_false,if_neg h,if_neg h']⟩⟩
     ·have h':q.nm∈A:=by simpa using h'
      exact hj _ _ ⟨Grow.refl _,.inr ⟨rfl,by unfold negN negF;rw[hn1];simp only[cond_false,if_neg h,if_pos h']⟩⟩
  ·rintro n w18 ⟨g18,hcase⟩
   have bZ18:=bZ.grow g18
   have P18:=BK.grow P g18
   have G18:=G.then g18
   rcases hcase with ⟨hn0,hneg⟩|⟨rfl,hneg⟩
   ·refine cond_t (by simpa using hn0) ⟨bZ18.row rfl rfl,nm λw19 e19=>?_⟩
    obtain⟨b19,t19⟩:=rowE bZ18 e19 rfl
    refine⟨_,_,_,_,_,b19.ld rfl,?_⟩
    have:=k (.slice none 0 0) w19 (Below.turn G18 t19 hwr) (by rw[hneg];exact RdR.nil _) (λq hq=>by cases hq)
    rw[hneg]at this
    exact this
   ·refine cond_f rfl (nm λw25 e25=>?_)
    have g25:Grow w18 w25:=by rw[e25];exact(Grow.refl _).dr
    refine⟨_,_,_,_,_,(BK.grow P18 g25).ld rfl,nm λw31 e31=>?_⟩
    have g31:Grow w18 w31:=by rw[e31];exact(Grow.refl _).dr
    have P31:=BK.grow P18 g31
    have bZ31:=bZ18.grow g31
    refine clipS_c ((ow.grow g18).grow g31) λv32 o32 r32=>?_
    refine⟨⟨_,_,_,_,_,P31.ld rfl,rfl⟩,bZ31.row rfl rfl,nm λw39 e39=>nm λw40 e40=>?_⟩
    obtain⟨b40,t40⟩:=rowE bZ31 e40 rfl
    refine⟨_,_,_,_,_,b40.ld rfl,?_⟩
    have:=k v32 w40 (Below.turn (G18.then g31) t40 hwr) (by rw[hneg];exact r32 _ (((ow.grow g18).grow g31).stable λy hy=>t40.block _ (by have:=(ow.lt y hy).1;omega))) (λy hy=>by have:=(ow.lt y (o32▸hy)).1;omega)
    rw[hneg]at this
    exact this
end Go.Proofs.YtdpmhkbhlbfbeaaGreatDoor.Lgn
end
section
namespace Go.Proofs.YtdpmhkbhlbfbeaaGreatDoor.Lgn
open CW RowKit Txt
open Ses (Prm)
def oursP:Prm:=⟨[],4096,8192,true,true⟩
theorem Ours_c {w:World} {R:KV} (k:∀w',Grow w w'->R (vPm oursP) w'):Zs 90 #[] w R:=by
 apply q67W
 refine nm λw0 e0=>?_
 obtain⟨b0,g0,_⟩:=alE e0
 refine⟨b0.row rfl rfl,nm λw1 e1=>?_⟩
 obtain⟨b1,t1⟩:=rowE b0 e1 rfl
 exact⟨_,_,_,_,_,b1.ld rfl,k _ (Below.turn g0 t1 (Nat.le_refl _))⟩
abbrev nonL:List UInt8:=[78,111,110,101]
def askL (p:Prm):List Pr:=[(inL,p.nm),(mrL,Lib.itoa (p.md:Int)),(mbL,Lib.itoa (p.bu:Int)),(idL,wordL p.im),(hdL,bif p.dg then digL else nonL)]
theorem rd_lit {w:World} {b n:Nat} {L:List Pr} {cs:Array Value} (h:BK w b cs tP) (hc:cs.toList=EP.flat L) (hn:n=L.length) (hl:L.length<=1000):RdR EP w (.slice (some ⟨b,0,none⟩) n n) L:=by
 subst hn
 refine⟨some ⟨b,0,none⟩,L.length,rfl,Nat.le_refl _,by simp only[maxLen];omega,(λh=>(by cases h)),λq u hq=>⟨_,rfl,?_⟩⟩
 rw[h.cell,←hq,←hc]
 simp
theorem Ask_c {w:World} {p:Prm} {R:KV} (hE:Env w) (h1:p.md<=1000000000000) (h2:p.bu<=1000000000000) (k:∀v w',Grow w w'->RdR EP w' v (askL p)->R v w'):Zs 46 #[vPm p] w R:=by
 apply q65W
 refine nm λw0 e0=>?_
 obtain⟨b0,g0,_⟩:=alE e0
 refine CW.JoinP.go ⟨_,b0.cell 4,?_⟩
 have fin:∀t:List UInt8,t=(bif p.dg then digL else nonL)->∀ S :ByteArray, S =textOf t->
  bindW (World.drew w0) λw3=>
  ∃(s4:ByteArray),((Go.World.cell? w3 (Addr.add ⟨w.heap.size,0,none⟩ 0))=(some (.string s4)))/\
  ∃(n5:Int),((Go.World.cell? w3 (Addr.add ⟨w.heap.size,0,none⟩ 1))=(some (.int .i64 n5)))/\
  ∃(n6:Int),((Go.World.cell? w3 (Addr.add ⟨w.heap.size,0,none⟩ 2))=(some (.int .i64 n6)))/\
  ∃(b7:Bool),((Go.World.cell? w3 (Addr.add ⟨w.heap.size,0,none⟩ 3))=(some (.bool b7)))/\
  bindW (World.drew w0) λw8=>
  Zs 74 #[(.int .i64 n5)] w8 λv9 w10=>
  ∃(s11:ByteArray),((v9:Value)=(.string s11))/\
  (∃(s12:ByteArray),((Go.World.cell? w10 (Addr.add ⟨w.heap.size,0,none⟩ 0))=(some (.string s12)))/\
  ((.string s12):Value)=(.string s4))/\
  (∃(n13:Int),((Go.World.cell? w10 (Addr.add ⟨w.heap.size,0,none⟩ 2))=(some (.int .i64 n13)))/\
  ((.int .i64 n13):Value)=(.int .i64 n6))/\
  (∃(b14:Bool),((Go.World.cell? w10 (Addr.add ⟨w.heap.size,0,none⟩ 3))=(some (.bool b14)))/\
  ((.bool b14):Value)=(.bool b7))/\
  Zs 74 #[(.int .i64 n6)] w10 λv15 w16=>
  ∃(s17:ByteArray),((v15:Value)=(.string s17))/\
  (∃(s18:ByteArray),((Go.World.cell? w16 (Addr.add ⟨w.heap.size,0,none⟩ 0))=(some (.string s18)))/\
  ((.string s18):Value)=(.string s4))/\
  (∃(b19:Bool),((Go.World.cell? w16 (Addr.add ⟨w.heap.size,0,none⟩ 3))=(some (.bool b19)))/\
  ((.bool b19):Value)=(.bool b7))/\
  Zs 75 #[(.bool b7)] w16 λv20 w21=>
  ∃(s22:ByteArray),((v20:Value)=(.string s22))/\
  (∃(s23:ByteArray),((Go.World.cell? w21 (Addr.add ⟨w.heap.size,0,none⟩ 0))=(some (.string s23)))/\
  ((.string s23):Value)=(.string s4))/\
  bindW (World.alloc w21 (.cells #[(.string (textOf inL)),(.string s4),(.string (textOf mrL)),(.string s11),(.string (textOf mbL)),(.string s17),(.string (textOf idL)),(.string s22),(.string (textOf hdL)),(.string S)] tP)) λw24=>
  bindW (World.alloc w21 (.cells #[(.string (textOf inL)),(.string s4),(.string (textOf mrL)),(.string s11),(.string (textOf mbL)),(.string s17),(.string (textOf idL)),(.string s22),(.string (textOf hdL)),(.string S)] tP)) λw25=>
  R (.slice (some ⟨w21.heap.size,0,none⟩) 5 5) w25:=by
  rintro t ht S rfl
  refine nm λw3 e3=>?_
  have g3:Grow w0 w3:=by rw[e3];exact(Grow.refl _).dr
  have b3:=b0.grow g3
  refine⟨_,b3.cell 0,_,b3.cell 1,_,b3.cell 2,_,b3.cell 3,nm λw8 e8=>?_⟩
  have g8:Grow w0 w8:=by rw[e8];exact(Grow.refl _).dr
  refine itoa_c (hE.grow (g0.then g8)).tab (by constructor<;>simp [IntKind.min,IntKind.max,IntKind.bits,IntKind.signed]<;>omega) λw10 g10=>?_
  have b10:=b0.grow (g8.then g10)
  refine⟨_,rfl,⟨_,b10.cell 0,rfl⟩,⟨_,b10.cell 2,rfl⟩,⟨_,b10.cell 3,rfl⟩,?_⟩
  refine itoa_c (hE.grow (g0.then (g8.then g10))).tab (by constructor<;>simp [IntKind.min,IntKind.max,IntKind.bits,IntKind.signed]<;>omega) λw16 g16=>?_
  have b16:=b10.grow g16
  refine⟨_,rfl,⟨_,b16.cell 0,rfl⟩,⟨_,b16.cell 3,rfl⟩,word_c ⟨_,rfl,⟨_,b16.cell 0,rfl⟩,nm λw24 e24=>nm λw25 e25=>?_⟩⟩
  obtain⟨b25,g25,_⟩:=alE e25
  refine k _ _ ((g0.then (g8.then g10)).then (g16.then g25)) (rd_lit (n:=5) b25 ?_ rfl (by simp [askL]))
  simp [Enc.flat,EP,askL,←ht]
 cases h:p.dg with
 |true=>exact fin digL (by rw[h];rfl) _ (mk_text _)
 |false=>exact fin nonL (by rw[h];rfl) _ (mk_text _)
def takS (ours q:Prm) (x:Pr):Prm×Bool:=
 if x.1=mbL then({q with bu:=min (numN x.2) q.bu},isN x.2)
 else if x.1=idL then({q with im:=q.im&&boolV x.2},boolO x.2)
 else if x.1=hdL then({q with dg:=ours.dg&&decide (x.2=crcL)},true)
 else(q,true)
def takGo (ours q:Prm):List Pr->Prm×Int
 |[]=>(q,0)
 |x::l=>bif (takS ours q x).2 then takGo ours (takS ours q x).1 l else(zPm,2)
def takN (p:Prm) (L:List Pr):Prm×Int:=takGo p {p with dg:=false} L
theorem Take_c {w:World} {p:Prm} {qv:Value} {L:List Pr} {R:KV} (hq:RdR EP w qv L) (hn:L.length<=1000) (h1:∀x∈L,x.1.length<=100000) (h2:∀x∈L,x.2.length<=100000)
 (k:∀w',Grow w w'->R (.tuple #[vPm (takN p L).1,.int .i64 (takN p L).2]) w'):
 Zs 141 #[vPm p,qv] w R:=by
 apply q68W
 refine nm λw0 e0=>nm λw1 e1=>?_
 obtain⟨b0,g0,z0⟩:=alE e0
 obtain⟨b1,g1,z1⟩:=alE e1
 refine⟨_,_,_,_,_,(b0.grow g1).ld rfl,nm λw7 e7=>?_⟩
 obtain⟨b7,g7,z7⟩:=alE e7
 refine⟨b7.row rfl rfl,nm λw8 e8=>?_⟩
 obtain⟨b8,t8⟩:=rowE b7 e8 rfl
 refine⟨st1_at b8 (by simp),nm λw9 e9=>?_⟩
 obtain⟨b9,t9⟩:=setE b8 e9
 have l1:=Nat.le_refl w1.heap.size
 have G1:Grow w1 w9:=Below.turn (Below.turn g7 t8 l1) t9 l1
 have G9:Grow w w9:=(g0.then g1).then G1
 have P9:PAt w9 w1.heap.size {p with dg:=false}:=b9
 have bz:BK w9 w0.heap.size (pC zPm) tPm:=b1.grow G1
 have bo:BK w9 w.heap.size (pC p) tPm:=(b0.grow g1).grow G1
 generalize hg:w1.heap.size=g at *
 generalize hr:w0.heap.size=r at *
 have hgr:r < g:=by omega
 have hwr:w.heap.size < r:=by omega
 refine⟨_,hq.len,?_⟩
 refine⟨λ(i:Int) (ww:World)=>0<=i/\i<=L.length/\∃q,Grow w ww/\BK ww r (pC zPm) tPm/\BK ww w.heap.size (pC p) tPm/\PAt ww g q/\takN p L=takGo p q (L.drop i.toNat),
  λ(i:Int) (ww:World)=>(L.length - i).toNat,?_,?_⟩
 ·dsimp only
  exact⟨by omega,by omega,_,G9,bz,bo,P9,by simp [takN]⟩
 ·dsimp only[allR,mapR2,eqN,ltN]
  rintro m i ww ⟨⟨hi0,hi1,q,G,bZ,bO,P,htak⟩,hm⟩
  refine cond_intro (λhc=>?_) (λhc=>?_)
  ·have hc:=of_decide_eq_true hc
   have hi:i.toNat < L.length:=by omega
   have hmem:L[i.toNat]'hi∈L:=List.getElem_mem _
   have hx1:=h1 _ hmem
   have hx2:=h2 _ hmem
   have hdrop:L.drop i.toNat=L[i.toNat]'hi::L.drop (i.toNat+1):=List.drop_eq_getElem_cons hi
   obtain⟨ad,had,hld⟩:=cell_pair hq hi0 (by omega)
   rw[hdrop]at htak
   generalize hx:L[i.toNat]'hi=x at *
   refine⟨ad,had,_,_,hld ww G,nm λw17 e17=>?_⟩
   obtain⟨b17,g17,z17⟩:=alE e17
   refine⟨b17.row rfl rfl,nm λw18 e18=>?_⟩
   obtain⟨b18,t18⟩:=rowE b17 e18 rfl
   have g18:Grow ww w18:=Below.turn g17 t18 (Nat.le_refl _)
   have G18:=G.then g18
   have hgw:g < ww.heap.size:=P.lt
   have bZ18:=bZ.grow g18
   have bO18:=bO.grow g18
   have P18:=BK.grow P g18
   refine⟨_,b18.cell 0,?_⟩
   rw[text_eqb,text_eqb,text_eqb]
   have put:∀(wa wb:World) (q':Prm) (j:Nat) (u:Value),Grow w18 wa->((pC q).setIfInBounds j u=pC q')->wb=World.setCell wa (Addr.add ⟨g,0,none⟩ j) u->Grow w wb/\BK wb r (pC zPm) tPm/\BK wb w.heap.size (pC p) tPm/\PAt wb g q':=by
    intro wa wb q' j u ga hu eb
    obtain⟨bb,tb⟩:=setE (BK.grow P18 ga) eb
    rw[hu]at bb
    exact⟨Below.turn (G18.then ga) tb (by omega),(tb.block _ (by omega)).trans (bZ18.grow ga),(tb.block _ (by omega)).trans (bO18.grow ga),bb⟩
   refine JoinP.bool (λb w'=>b=(takS p q x).2/\Grow w w'/\BK w' r (pC zPm) tPm/\BK w' w.heap.size (pC p) tPm/\PAt w' g (takS p q x).1) (λj hj=>?_) ?_
   ·refine cond_intro (λh=>?_) (λh=>?_)
    ·have h:x.1=mbL:=of_decide_eq_true h
     refine⟨_,b18.cell 1,Number_c (by omega) λw31 g31=>⟨_,_,rfl,_,(BK.grow P18 g31).cell 2,st1_at (BK.grow P18 g31) (by simp [pC]),nm λw35 e35=>?_⟩⟩
     refine hj _ _ ⟨by unfold takS;rw[if_pos h],?_⟩
     unfold takS
     rw[if_pos h]
     refine put _ _ _ 2 _ g31 ?_ e35
     simp
     split<;>omega
    have n1:x.1≠mbL:=of_decide_eq_false h
    refine cond_intro (λh=>?_) (λh=>?_)
    ·have h:x.1=idL:=of_decide_eq_true h
     refine⟨_,b18.cell 1,Bool_c ⟨_,_,rfl,_,P18.cell 3,?_⟩⟩
     have e2:(takS p q x)=({q with im:=q.im&&boolV x.2},boolO x.2):=by unfold takS;rw[if_neg n1,if_pos h]
     rw[e2]at hj
     refine cond_intro (λh3=>?_) (λh3=>?_)
     ·refine⟨st1_at P18 (by simp [pC]),nm λw42 e42=>hj _ _ ⟨rfl,put _ _ _ 3 _ (Grow.refl _) ?_ e42⟩⟩
      simp [h3]
     ·refine⟨st1_at P18 (by simp [pC]),nm λw42 e42=>hj _ _ ⟨rfl,put _ _ _ 3 _ (Grow.refl _) ?_ e42⟩⟩
      simp [h3]
    have n2:x.1≠idL:=of_decide_eq_false h
    refine cond_intro (λh=>?_) (λh=>?_)
    ·have h:x.1=hdL:=of_decide_eq_true h
     have e2:(takS p q x)=({q with dg:=p.dg&&decide (x.2=crcL)},true):=by unfold takS;rw[if_neg n1,if_neg n2,if_pos h]
     rw[e2]at hj
     refine⟨_,bO18.cell 4,cond_intro (λh3=>?_) (λh3=>?_)⟩
     ·refine⟨_,b18.cell 1,st1_at P18 (by simp [pC]),nm λw42 e42=>?_⟩
      rw[text_eqb]at e42
      refine hj _ _ ⟨rfl,put _ _ _ 4 _ (Grow.refl _) ?_ e42⟩
      simp [h3]
     ·refine⟨st1_at P18 (by simp [pC]),nm λw42 e42=>hj _ _ ⟨rfl,put _ _ _ 4 _ (Grow.refl _) ?_ e42⟩⟩
      simp [h3]
    have n3:x.1≠hdL:=of_decide_eq_false h
    have e2:(takS p q x)=(q,true):=by unfold takS;rw[if_neg n1,if_neg n2,if_neg n3]
    rw[e2]at hj
    exact hj _ _ ⟨rfl,G18,bZ18,bO18,P18⟩
   ·rintro b w21 ⟨rfl,G21,bZ21,bO21,P21⟩
    refine cond_intro (λh=>?_) (λh=>?_)
    ·have h:(takS p q x).2=false:=by simpa using h
     refine⟨bZ21.row rfl rfl,nm λw22 e22=>?_⟩
     obtain⟨b22,t22⟩:=rowE bZ21 e22 rfl
     refine⟨_,_,_,_,_,b22.ld rfl,?_⟩
     have:=k w22 (Below.turn G21 t22 (by omega))
     rw[htak]at this
     simp only[takGo,h,cond_false]at this
     exact this
    ·have h:(takS p q x).2=true:=by simpa using h
     rw[wi64_id (n:=i+1) (by omega) (by omega)]
     have e2:(i+1).toNat=i.toNat+1:=by omega
     exact⟨⟨by omega,by omega,_,G21,bZ21,bO21,P21,by rw[e2,htak];simp only[takGo,h,cond_true]⟩,by omega⟩
  ·have hc:=of_decide_eq_false hc
   rw[List.drop_of_length_le (by omega)]at htak
   refine⟨_,_,_,_,_,P.ld rfl,bZ.row rfl rfl,nm λw53 e53=>?_⟩
   obtain⟨b53,t53⟩:=rowE bZ e53 rfl
   refine⟨_,_,_,_,_,b53.ld rfl,?_⟩
   have:=k w53 (Below.turn G t53 (by omega))
   rw[htak]at this
   exact this
end Go.Proofs.YtdpmhkbhlbfbeaaGreatDoor.Lgn
end
section
namespace Go.Proofs.YtdpmhkbhlbfbeaaGreatDoor.Ses
open CW RowKit Pdu
open Lgn (negN oursP zPm vPm pC Ours_c Negotiate_c JoinP.vi)
variable {K:Doer} {w w':World} {κ:Col} {S :Fp} {g gr:Nat} {acl rv lv tv:Value} {hs:List Sl} {FU:Fp} {A:List (List UInt8)}
theorem partE {w w':World} {b j:Nat} {cs ds:Array Value} {t:TypeId} (h:BK w b cs t) (e:w'=stRow w (Addr.add ⟨b,0,none⟩ j) ds) (hn:j+ds.size<=cs.size):
 BK w' b (cs.toList.take j++ds.toList++cs.toList.drop (j+ds.toList.length)).toArray t/\Turn b w w':=by
 subst e;rw[ad0]
 exact⟨setCells_set ds.toList j w cs h (by simpa using hn),Turn.row w ⟨b,j,none⟩ ds⟩
theorem part_row {w:World} {b j:Nat} {cs ds:Array Value} {t:TypeId} (h:BK w b cs t) (hn:j+ds.size<=cs.size) (h1:oneL ds.toList=true):StRow w (Addr.add ⟨b,0,none⟩ j) ds:=
 ⟨h1,λi hi=>by rw[add_add,ad0];exact h.st1 (by omega)⟩
theorem JoinP.iv {k:IntKind} {rest:Int->Value->World->Prop} {body:(Int->Value->World->Prop)->Prop} (Q:Int->Value->World->Prop) (hb:∀j:Int->Value->World->Prop,(∀a b w,Q a b w->j a b w)->body j) (h:∀a b w,Q a b w->rest a b w):JoinP [.int k,.val] rest body:=hb rest h
theorem negF_cases (A:List (List UInt8)) (r:List Txt.Pr×Prm×Bool):((Lgn.negF A r).1=[]\/(Lgn.negF A r).2.2=0)/\0<=(Lgn.negF A r).2.2/\(Lgn.negF A r).2.2<=3:=by
 obtain⟨o,q,b⟩:=r
 unfold Lgn.negF
 cases b with
 |true=>exact⟨.inl rfl,by simp,by simp⟩
 |false=>
  simp only[cond_false]
  split
  ·exact⟨.inl rfl,by simp,by simp⟩
  ·split
   ·exact⟨.inr rfl,by simp,by simp⟩
   ·exact⟨.inl rfl,by simp,by simp⟩
theorem neg_nil {p:Prm} {A:List (List UInt8)} {L:List Txt.Pr} (h:(negN p A L).2.2≠0):(negN p A L).1=[]:=(negF_cases A _).1.resolve_right h
theorem neg_st (p:Prm) (A:List (List UInt8)) (L:List Txt.Pr):0<=(negN p A L).2.2/\(negN p A L).2.2<=3:=(negF_cases A _).2
def lgT {U:Type} (A:List (List UInt8)) (L:List Txt.Pr) (x:St U) (p:Pd) (_:List UInt8):St U:=
 if(negN oursP A L).2.2=0 then
  {sayN {x with s:={x.s with p:=(negN oursP A L).2.1,exp:=m32 (p.sn+1)}} 35 {zP with fin:=true,st:=(negN oursP A L).2.2,tag:=p.tag} (Txt.encB (negN oursP A L).1)with s:={(sayN {x with s:={x.s with p:=(negN oursP A L).2.1,exp:=m32 (p.sn+1)}} 35 {zP with fin:=true,st:=(negN oursP A L).2.2,tag:=p.tag} (Txt.encB (negN oursP A L).1)).s with op:=true}}
 else clos {sayN {x with s:={x.s with p:=(negN oursP A L).2.1,exp:=m32 (p.sn+1)}} 35 {zP with fin:=true,st:=(negN oursP A L).2.2,tag:=p.tag} (Txt.encB (negN oursP A L).1)with s:={(sayN {x with s:={x.s with p:=(negN oursP A L).2.1,exp:=m32 (p.sn+1)}} 35 {zP with fin:=true,st:=(negN oursP A L).2.2,tag:=p.tag} (Txt.encB (negN oursP A L).1)).s with op:=false,p:=zPm}}
theorem Login_c {x:St K.U} {p:Pd} {ds:List UInt8} {L:List Txt.Pr} (hop:p.op=3) (hds:ds=Txt.encB L) (hright:∀q∈L,Txt.rightB q=true) (sm:Txt.SmP L) (hno:Txt.wrongA [] L=false) (hlen:L.length<=1000)
 (sa:Txt.SmP (negN oursP A L).1) (na:Txt.wrongA [] (negN oursP A L).1=false) (htag:Fits .u32 p.tag) (hsn:Fits .u32 x.s.sn) (ho:x.o.length<=1000000000):LogOk Txt.Env K A (lgT A L) x p ds:=by
 intro w g S dv R hE h k
 apply q158W
 refine nm λw0 e0=>?_
 obtain⟨b0,g0,s0⟩:=alE e0
 have hb:BK w0 w.heap.size (rP p dv) tP:=b0
 have hlt:=h.lt
 have hself:=h.self
 refine⟨_,hb.cell 0,cond_f (by rw[hop];rfl) ?_⟩
 refine JoinP.iv (λn v w6=>n=(negN oursP A L).2.2/\∃S6,SAt K A w6 g S6 [(dv,ds)] ({x with s:={x.s with p:=(negN oursP A L).2.1}}:St K.U)/\Step S w w6 S6/\BK w6 w.heap.size (rP p dv) tP/\RdR Txt.EP w6 v (negN oursP A L).1) (λj34 hj=>?_) ?_
 ·have hd0:RdB w0 dv (Txt.encB L):=hds▸(h.grow g0).byt (by simp)
  refine⟨_,hb.cell 26,Txt.Decode_c (hE.grow g0) hd0 sm hright (λhh=>by rw[hno]at hh;cases hh) λ_ v38 w37 g37 r38=>⟨_,_,rfl,cond_t rfl (nm λw40 e40=>withAddr_some ?_)⟩⟩
  obtain⟨κ,gr,acl,rv,lv,tv,hs,FU,h⟩:=h
  have g40:=drE e40
  have h40:=h.grow (g0.then (g37.then g40))
  refine⟨_,h40.b.cell 0,nm λw43 e43=>?_⟩
  obtain rfl:w43=w40:=e43.trans e40.symm
  refine Ours_c λw45 g45=>⟨_,_,_,_,_,rfl,⟨_,(h40.grow g45).b.cell 0,rfl⟩,?_⟩
  have gA:=g0.then (g37.then (g40.then g45))
  have h45:=h.grow gA
  refine Negotiate_c (hE.grow gA) (show RdR Txt.ES w45 acl A from h45.r.ac) (RdR.grow r38 (g40.then g45)) (by decide) hlen sm.fst sm.snd λv54 w53 g53 r54 n54=>⟨_,_,_,_,_,_,_,rfl,withAddr_some ?_⟩
  have h53:=h45.grow g53
  refine⟨part_row h53.b (by show 3+5<=14;omega) rfl,nm λw62 e62=>nm λw63 e63=>?_⟩
  obtain rfl:w63=w62:=e63.trans e62.symm
  obtain⟨b62,t62⟩:=partE h53.b e62 (by show 3+5<=14;omega)
  have r62:=h53.r.turn t62
  have hg:g < w.heap.size:=h.b.lt
  have hgA:=gA.size
  refine hj _ _ _ ⟨rfl, S,⟨κ,gr,acl,rv,lv,tv,hs,FU,b62,r62⟩,(Step.of_grow (gA.then g53)).then (t62.step hself),?_,?_⟩
  ·exact(hb.grow (g37.then (g40.then (g45.then g53)))).turn t62 (by omega)
  ·exact RdR.stepS r54 (t62.step (S :=λq=>q=g) rfl) (λq hq e=>by have:=n54 q hq;omega)
 ·rintro n v w6 ⟨rfl,S6,h6,st6,hb6,rv6⟩
  refine JoinP.iv (λn7 v8 w9=>n7=(negN oursP A L).2.2/\Grow w6 w9/\RdB w9 v8 (Txt.encB (negN oursP A L).1)) (λj29 hj=>?_) ?_
  ·refine cond_intro (λh=>?_) (λh=>?_)
   ·exact Txt.Encode_c rv6 sa (λhh=>by rw[na]at hh;cases hh) λ_ v32 w31 g31 r32=>⟨_,_,rfl,cond_f rfl (hj _ _ _ ⟨rfl,g31,r32⟩)⟩
   ·have hz:(negN oursP A L).2.2≠0:=by simpa using h
    exact hj _ _ _ ⟨rfl,Grow.refl _,by rw[neg_nil hz];exact Rd.nil _⟩
  ·rintro n7 v8 w9 ⟨rfl,g9,r8⟩
   have h9':=h6.grow g9
   have hb9:=hb6.grow g9
   have hlt9:=h9'.lt
   obtain⟨κ,gr,acl,rv,lv,tv,hs,FU,h9⟩:=h9'
   have hsz:=st6.size
   have hg9:g < w9.heap.size:=h9.b.lt
   have hgw:g≠w.heap.size:=λe=>by have:=hlt _ hself;omega
   refine⟨_,hb9.cell 5,withAddr_some ⟨st1_at h9.b (by show 10 < 14;omega),nm λw12 e12=>nm λw13 e13=>?_⟩⟩
   obtain⟨h12,s12⟩:=h9.set (s':={x.s with p:=(negN oursP A L).2.1,exp:=m32 (p.sn+1)}) e12 rfl rfl rfl
   have t12:Turn g w9 w12:=(setE h9.b e12).2
   have hb12:=hb9.turn t12 (Ne.symm hgw)
   have r12:RdB w12 v8 (Txt.encB (negN oursP A L).1):=Rd.turnX r8 t12 (λhx e=>h9.ne_g r8 (by simpa using hx) e)
   have g13:=drE e13
   refine⟨_,(hb12.grow g13).cell 4,oneK_of (Rd.isOne r8) (nm λw15 e15=>?_)⟩
   obtain rfl:w15=w13:=e15.trans e13.symm
   refine sayer_c λw17 g17 a17 b17 s17=>⟨⟨_,((hb12.grow g13).grow g17).cell 4,rfl⟩,?_⟩
   have h17:=h12.grow (g13.then g17)
   have nst:=neg_st oursP A L
   have sz15:w9.heap.size<=w15.heap.size:=Nat.le_trans s12.size g13.size
   refine sayN_c (p:={zP with fin:=true,st:=(negN oursP A L).2.2,tag:=p.tag}) (ds:=Txt.encB (negN oursP A L).1) h17.at ⟨(by decide:Fits .i64 0),(by decide:Fits .i64 0),(by constructor<;>simp [IntKind.min,IntKind.max,IntKind.bits,IntKind.signed]<;>omega:Fits .i64 (negN oursP A L).2.2),htag,(by decide:Fits .u32 0),(by decide:Fits .u32 0),(by decide:Fits .u32 0),(by decide:Fits .u32 0),(by decide:Fits .u32 0)⟩ (by decide) (Rd.grow r12 (g13.then g17)) (fits_m32 _) hsn ho a17 b17 (λhh=>by have:=hlt9 _ hh;omega) (λhh=>by have:=hlt9 _ hh;omega) λw20 S20 st20 h20'=>⟨rfl,withAddr_some ?_⟩
   obtain⟨κ',gr',acl',rv',lv',tv',hs',FU',h20⟩:=h20'
   refine⟨st1_at h20.b (by show 8 < 14;omega),nm λw22 e22=>withAddr_some ?_⟩
   have sA:Step S w w20 S20:=(((st6.then (Step.of_grow g9)).then s12).then (Step.of_grow (g13.then g17))).then st20
   by_cases hz:(negN oursP A L).2.2=0
   ·have ez:((negN oursP A L).2.2==(0:Int))=true:=by rw[hz];rfl
    rw[ez]at e22
    obtain⟨h22,s22⟩:=h20.set (s':={(sayN ({x with s:={x.s with p:=(negN oursP A L).2.1,exp:=m32 (p.sn+1)}}:St K.U) 35 {zP with fin:=true,st:=(negN oursP A L).2.2,tag:=p.tag} (Txt.encB (negN oursP A L).1)).s with op:=true}) e22 rfl rfl rfl
    refine⟨_,h22.b.cell 8,cond_f rfl ?_⟩
    refine k w22 S20 (sA.then s22) ?_
    unfold lgT
    rw[if_pos hz]
    exact h22.at
   ·have ez:((negN oursP A L).2.2==(0:Int))=false:=by simpa using hz
    rw[ez]at e22
    obtain⟨h22,s22⟩:=h20.set (s':={(sayN ({x with s:={x.s with p:=(negN oursP A L).2.1,exp:=m32 (p.sn+1)}}:St K.U) 35 {zP with fin:=true,st:=(negN oursP A L).2.2,tag:=p.tag} (Txt.encB (negN oursP A L).1)).s with op:=false}) e22 rfl rfl rfl
    refine⟨_,h22.b.cell 8,cond_t rfl (withAddr_some ⟨part_row h22.b (by show 3+5<=14;omega) rfl,nm λw26 e26=>?_⟩)⟩
    obtain⟨b26,t26⟩:=partE h22.b e26 (by show 3+5<=14;omega)
    have h26:SIn K w26 κ' S20 g gr' acl' rv' lv' tv' hs' FU' A [(dv,ds)] {sayN ({x with s:={x.s with p:=(negN oursP A L).2.1,exp:=m32 (p.sn+1)}}:St K.U) 35 {zP with fin:=true,st:=(negN oursP A L).2.2,tag:=p.tag} (Txt.encB (negN oursP A L).1)with s:={(sayN ({x with s:={x.s with p:=(negN oursP A L).2.1,exp:=m32 (p.sn+1)}}:St K.U) 35 {zP with fin:=true,st:=(negN oursP A L).2.2,tag:=p.tag} (Txt.encB (negN oursP A L).1)).s with op:=false,p:=zPm}}:=⟨b26,h22.r.turn t26⟩
    refine close_c h26.at λw28 S28 st28 h28=>⟨rfl,k w28 S28 ((sA.then (s22.then (t26.step h22.r.g.1))).then st28) ?_⟩
    unfold lgT
    rw[if_neg hz]
    exact h28
end Go.Proofs.YtdpmhkbhlbfbeaaGreatDoor.Ses
end
section
namespace Go.Proofs.YtdpmhkbhlbfbeaaGreatDoor.Cli
open CW RowKit Pdu
open Ses (Prm partE part_row m32)
open Lgn (takN pC Take_c Ask_c askL)
def lgC (L:List Txt.Pr) (c:Cl) (p:Pd) (_:List UInt8):Cl:={c with p:=(takN c.p L).1,op:=true,sn:=p.exp,mx:=p.mx}
theorem Login_c {c:Cl} {p:Pd} {xs:List UInt8} {L:List Txt.Pr} (hop:p.op=35) (hst:p.st=0) (hds:xs=Txt.encB L) (hright:∀q∈L,Txt.rightB q=true) (sm:Txt.SmP L) (hno:Txt.wrongA [] L=false) (hlen:L.length<=1000)
 (ht:(takN c.p L).2=0):LogOk Txt.Env (lgC L) c p xs:=by
 intro w g S dv R hE h k
 apply q29W
 refine nm λw0 e0=>?_
 obtain⟨b0,g0,s0⟩:=alE e0
 have hb:BK w0 w.heap.size (rP p dv) tP:=b0
 have hlt:=h.lt
 have hself:=h.self
 have hgw:g≠w.heap.size:=λe=>by have:=hlt _ hself;omega
 have hd0:RdB w0 dv (Txt.encB L):=hds▸(h.grow g0).byt (by simp)
 refine⟨_,hb.cell 26,Txt.Decode_c (hE.grow g0) hd0 sm hright (λhh=>by rw[hno]at hh;cases hh) λ_ v4 w3 g3 r4=>⟨_,_,rfl,?_⟩⟩
 have hb3:=hb.grow g3
 refine JoinP.bool (λb w'=>b=false/\w'=w3) (λj hj=>?_) ?_
 ·refine⟨_,hb3.cell 0,cond_f (by rw[hop];rfl) ⟨_,hb3.cell 3,cond_f (by rw[hst];rfl) (hj _ _ ⟨rfl,rfl⟩)⟩⟩
 rintro b w7 ⟨rfl,rfl⟩
 obtain⟨κ,gr,rv,lv,tv,dv',hs,ds,h⟩:=h
 have h7:=h.grow (g0.then g3)
 refine cond_f rfl (withAddr_some ⟨_,_,_,_,_,(?_:ldCells w7 (Addr.add ⟨g,0,none⟩ 0) 5 (pC c.p)),?_⟩)
 ·refine⟨rfl,λi hi=>?_⟩
  rw[add_add,h7.b.cell]
  rcases i with _|_|_|_|_|i
  ·rfl
  ·rfl
  ·rfl
  ·rfl
  ·rfl
  ·omega
 refine Take_c r4 hlen sm.fst sm.snd λw17 g17=>⟨_,_,_,_,_,_,rfl,withAddr_some ?_⟩
 have h17:=h7.grow g17
 refine⟨part_row h17.b (by show 0+5<=17;omega) rfl,nm λw25 e25=>?_⟩
 obtain⟨b25,t25⟩:=partE h17.b e25 (by show 0+5<=17;omega)
 have h25:CIn w25 κ S g gr rv lv tv dv' hs ds [(dv,xs)] {c with p:=(takN c.p L).1}:=⟨b25,h17.r.turn t25⟩
 have hb25:=(hb3.grow g17).turn t25 (Ne.symm hgw)
 refine cond_f (by rw[ht];rfl) (nm λw28 e28=>?_)
 have g28:=drE e28
 have hb28:=hb25.grow g28
 refine⟨_,hb28.cell 6,_,hb28.cell 7,withAddr_some (nm λw32 e32=>?_)⟩
 obtain rfl:w32=w28:=e32.trans e28.symm
 have h28:=h25.grow g28
 obtain⟨h35,s35⟩:=h28.set (c':={c with p:=(takN c.p L).1,op:=true}) (j:=6) (v:=.bool true) rfl rfl rfl rfl
 have t35:=(setE (j:=6) (v:=.bool true) h28.b rfl).2
 have hb35:=hb28.turn t35 (Ne.symm hgw)
 refine⟨st1_at h28.b (by show 6 < 17;omega),⟨_,hb35.cell 6,rfl⟩,⟨_,hb35.cell 7,rfl⟩,nm λw35 e35=>withAddr_some (nm λw37 e37=>?_)⟩
 obtain rfl:w37=w35:=e37.trans e35.symm
 rw[←e35]at h35 s35 t35 hb35
 obtain⟨h39,s39⟩:=h35.set (c':={c with p:=(takN c.p L).1,op:=true,sn:=p.exp}) (j:=11) (v:=.int .u32 p.exp) rfl rfl rfl rfl
 have t39:=(setE (j:=11) (v:=.int .u32 p.exp) h35.b rfl).2
 have hb39:=hb35.turn t39 (Ne.symm hgw)
 refine⟨st1_at h35.b (by show 11 < 17;omega),⟨_,hb39.cell 7,rfl⟩,nm λw39 e39=>withAddr_some (nm λw41 e41=>?_)⟩
 obtain rfl:w41=w39:=e41.trans e39.symm
 rw[←e39]at h39 s39 t39 hb39
 refine⟨st1_at h39.b (by show 12 < 17;omega),nm λw42 e42=>nm λw43 e43=>?_⟩
 obtain rfl:w43=w42:=e43.trans e42.symm
 obtain⟨h42,s42⟩:=h39.set (c':=lgC L c p xs) (j:=12) e42 rfl rfl rfl
 exact k w43 S ((((((Step.of_grow (g0.then (g3.then g17))).then (t25.step hself)).then (Step.of_grow g28)).then s35).then s39).then s42) h42.at
def askB (p:Prm):List UInt8:=Txt.encB (askL p)
theorem AskOk_c {p:Prm} (h1:p.md<=1000000000000) (h2:p.bu<=1000000000000) (sm:Txt.SmP (askL p)) (hno:Txt.wrongA [] (askL p)=false):AskOk Txt.Env askB p:=by
 intro w R hE k
 refine Ask_c hE h1 h2 λv w' g' r'=>Txt.Encode_c r' sm (λhh=>by rw[hno]at hh;cases hh) λ_ v2 w2 g2 r2=>k v2 w2 (g'.then g2) r2
end Go.Proofs.YtdpmhkbhlbfbeaaGreatDoor.Cli
end
