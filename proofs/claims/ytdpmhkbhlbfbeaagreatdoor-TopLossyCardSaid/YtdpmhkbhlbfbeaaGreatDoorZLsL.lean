/- A part of the proof. -/
import Derived.Test.YtdpmhkbhlbfbeaaGreatDoorZLsX2
set_option linter.unusedSimpArgs false
set_option linter.unusedVariables false
set_option maxRecDepth 100000
namespace Go.Proofs.YtdpmhkbhlbfbeaaGreatDoor.Los
open CW RowKit Con Pdu
open Ses (St newS)
open Cli (Cl encs)
variable {B gd:Nat} {w w':World} {X:Nat->Prop} {b:Bt} {l:List Ask} {c t s q:Nat} {ka kb mb:Bool} {ba bb:Nat} {gl:Nat} {k:Int}
theorem LS.zero (H:LS B gd X b q w gl k c t s ka kb mb ba bb):St1 w (Addr.add ⟨gl,0,none⟩ 4)/\∀w',w'=World.setCell w (Addr.add ⟨gl,0,none⟩ 4) (.int .i64 0)->LS B gd X b q w' gl 0 c t s ka kb mb ba bb/\Below B w w':=by
 obtain⟨f,vw,vv,n,cl,sA,yA,sB,yB,h,hc,tw,tv,hy,hx⟩:=H.ex
 refine⟨st1_at h.b (by show 4 < 8;omega),λw' e=>?_⟩
 obtain⟨h',a',st⟩:=h.cell e (k':=0) (n':=n) rfl
 exact⟨⟨⟨f,vw,vv,n,cl,sA,yA,sB,yB,h',hc,tw.stepS st (h.fr.apart (i:=5) (j:=2) (by decide)),tv.stepS st (h.fr.apart (i:=6) (j:=2) (by decide)),hy,λp hp=>⟨(hx p hp).1,Nat.lt_of_lt_of_le (hx p hp).2 a'.size⟩⟩,H.sg,H.hq⟩,h.all a'⟩
theorem topLossy_s {W:World} (hT:Txt.Env W) {pv:Value} (hv:RdR Ea W pv l) {r:Int} (hk:Fits .i64 k) (hr:Fits .i64 r):
 Zs 3 #[pv,.int .i64 k,.int .i64 r] W (Law W):=by
 apply q52W
 refine known_c hT λw1 g1=>⟨_,rfl,cond_f rfl ?_⟩
 refine JoinP.bool (λb w'=>w1=w'/\(b=false->l.length<=8/\2<=k/\k<=20/\0<=r/\r<=100)) (λj hj=>⟨_,hv.len,?_⟩) ?_
 ·refine cond_intro (λ_=>hj _ _ ⟨rfl,λe=>by cases e⟩) λc1=>cond_intro (λ_=>hj _ _ ⟨rfl,λe=>by cases e⟩) λc2=>cond_intro (λ_=>hj _ _ ⟨rfl,λe=>by cases e⟩) λc3=>cond_intro (λ_=>hj _ _ ⟨rfl,λe=>by cases e⟩) λc4=>hj _ _ ⟨rfl,λc5=>?_⟩
  simp only[decide_eq_false_iff_not]at c1 c2 c3 c4 c5
  omega
 rintro b _ ⟨rfl,hh⟩
 refine cond_intro (λ_=>⟨rfl,g1⟩) (λhb=>?_)
 obtain⟨h8,k2,k20,r0,r100⟩:=hh hb
 clear hh hb
 refine newDesk_c (N:=32) (by omega) (by omega) λgd F w6 g6 hF hd=>⟨_,rfl,?_⟩
 have z1:=g1.size
 have z6:=g6.size
 refine newLine_c (B:=W.heap.size) (by omega) (λw' bel=>hT.grow ((g1.then g6).trans bel)) hd (λq hq=>by have:=hF q hq;omega) λgl f w9 h9 b9=>⟨_,rfl,?_⟩
 have g9:Grow W w9:=(g1.then g6).trans b9
 clear g1 g6 hd hF b9 hT
 refine⟨λ(a i:Int) (ww:World)=>a=i/\0<=i/\i<=l.length/\Grow W ww/\∃f,LAt W.heap.size gd AL ww gl f (.slice none 0 0) (.slice none 0 0) k 0 (cD l i.toNat) (newS (u0 32)) (newC 1 true) (newC 2 false),
  λ(_ i:Int) (_:World)=>((l.length:Int) - i).toNat,⟨rfl,by omega,by omega,g9,f,h9⟩,?_⟩
 clear h9 g9
 dsimp only[allR,mapR2,eqN,ltN]
 rintro m a i ww ⟨⟨rfl,i0,i1,gW,f,h⟩,hm⟩
 refine⟨_,hv.len,cond_intro (λd=>?_) (λd=>?_)⟩
 ·simp only[decide_eq_true_eq]at d
  obtain⟨n,rfl⟩:=Int.eq_ofNat_of_zero_le i0
  have hn:n < l.length:=by omega
  refine JoinP.int (λn2 w2=>n2=(n:Int)+1/\Grow W w2/\∃f,LAt W.heap.size gd AL w2 gl f (.slice none 0 0) (.slice none 0 0) k 0 (cD l (n+1)) (newS (u0 32)) (newC 1 true) (newC 2 false)) (λj hj=>?_) ?_
  ·refine nm λw19 e19=>?_
   have g19:=drE e19
   have h19:=h.grow g19
   obtain⟨a,ha,c0,c1,c2⟩:=ea_at (hv.grow (gW.then g19)) (i:=(n:Int)) rfl hn
   refine withAddr_some ⟨_,h19.b.cell 0,a,ha,_,c0,a,ha,_,c1,a,ha,_,c2,nm λw28 e28=>?_⟩
   have g28:=drE e28
   refine plain_c λdv w30 g30 r30 n30=>⟨_,_,_,_,_,_,_,_,rfl,?_⟩
   have h30:=(h.grow g28).grow g30
   refine⟨⟨_,h30.b.cell 0,rfl⟩,?_⟩
   obtain⟨cmR,Wx⟩:=plain_wr l[n]
   refine Pip.cDo_c h30.p (cm:=cmX l[n]) (cb:=cbX l[n]) (xs:=dsX l[n]) rfl r30 Wx.enc Wx.dat ?_ λw41 Sc' st h'=>⟨_,_,rfl,cond_t rfl (hj _ _ ?_)⟩
   ·show(asksL false 1 (l.take n)).length < 16
    rw[asksL_len,List.length_take];omega
   ·obtain⟨f',h41,a41⟩:=h30.cl st h'
    have e:Cli.ask (cD l ((n:Int)).toNat) (cbX l[n]) (dsX l[n])=cD l (n+1):=cD_next hn h8
    rw[e]at h41
    exact⟨wi64_id (by omega) (by omega),((gW.then g28).then g30).trans (h30.all a41),f',h41⟩
  ·rintro n2 w2 ⟨rfl,g2,f2,h2⟩
   rw[wi64_id (n:=(n:Int)+1) (by omega) (by omega)]
   exact⟨⟨rfl,by omega,by omega,g2,f2,h2⟩,by omega⟩
 simp only[decide_eq_false_iff_not]at d
 have ei:a.toNat=l.length:=by omega
 have ea:a=(l.length:Int):=by omega
 rw[ei]at h
 subst ea
 have H0:LS W.heap.size gd (λ_=>False) (b1 (u0 32) (u0_ty 32) l h8) 0 ww gl k 0 0 0 false false false 0 0:=h.start (λ_ h=>h.elim)
 clear h ei hm d i0 i1
 refine⟨λ(i:Int) (ww:World)=>0<=i/\i<=r/\Grow W ww/\∃c t s ka kb mb ba bb,LS W.heap.size gd (λ_=>False) (b1 (u0 32) (u0_ty 32) l h8) 0 ww gl k c t s ka kb mb ba bb,
  λ(i:Int) (_:World)=>(r - i).toNat,⟨by omega,by omega,gW,_,_,_,_,_,_,_,_,H0⟩,?_⟩
 clear H0 gW
 dsimp only[allR,mapR2,eqN,ltN]
 rintro m i ww ⟨⟨i0,i1,gW,c,t,s,ka,kb,mb,ba,bb,H⟩,hm⟩
 refine cond_intro (λd=>?_) (λd=>?_)
 ·simp only[decide_eq_true_eq]at d
  refine stage_c H (by omega) λw' c' t' ka' kb' mb' ba' bb' H' bel _ _=>⟨rfl,?_⟩
  rw[wi64_id (n:=i+1) (by omega) (by omega)]
  exact⟨⟨by omega,by omega,gW.trans bel,_,_,_,_,_,_,_,_,H'⟩,by omega⟩
 clear d i0 i1 hm
 obtain⟨s4,hz⟩:=H.zero
 refine withAddr_some ⟨s4,nm λw50 e50=>?_⟩
 obtain⟨H50,b50⟩:=hz w50 e50
 refine H50.done λv53 w54 d1 hd1 _ H54 b54 _ q4 q3=>⟨d1,hd1,?_⟩
 have g54:Grow W w54:=(gW.trans b50).trans b54
 rw[Nat.zero_add]at H54
 clear H50 H hz b50 b54 gW s4 q3 q4
 refine⟨λ(i:Int) (ww:World)=>0<=i/\i<=400/\Grow W ww/\∃c t s ka kb mb ba bb,LS W.heap.size gd (λ_=>False) (b1 (u0 32) (u0_ty 32) l h8) d1 ww gl 0 c t s ka kb mb ba bb/\Lv (YB (b1 (u0 32) (u0_ty 32) l h8)) i.toNat c t ka kb,
  λ(i:Int) (_:World)=>((400:Int) - i).toNat,⟨by omega,by omega,g54,_,_,_,_,_,_,_,_,H54,⟨by omega,by omega,by omega,by omega,by omega,by omega⟩⟩,?_⟩
 clear H54 g54
 dsimp only[allR,mapR2,eqN,ltN]
 rintro m i ww ⟨⟨i0,i1,gW,c,t,s,ka,kb,mb,ba,bb,H,lv⟩,hm⟩
 refine cond_intro (λd=>?_) (λd=>?_)
 ·simp only[decide_eq_true_eq]at d
  refine stage_c H (Int.le_refl _) λw' c' t' ka' kb' mb' ba' bb' H' bel _ up=>⟨rfl,?_⟩
  rw[wi64_id (n:=i+1) (by omega) (by omega)]
  have lv':=up rfl _ lv
  rw[show i.toNat+1=(i+1).toNat by omega]at lv'
  exact⟨⟨by omega,by omega,gW.trans bel,_,_,_,_,_,_,_,_,H',lv'⟩,by omega⟩
 simp only[decide_eq_false_iff_not]at d
 obtain⟨h3,h4⟩:=lv.l6 (by omega)
 have h4:l=[]\/c=4:=by
  rcases h4 with e|e
  ·left
   have:=(cmds_len l 2 1).1
   have e:encs (cmdsP 2 1 l)=[]:=e
   rw[e]at this
   exact List.eq_nil_of_length_eq_zero (by simpa using this)
  ·exact .inr e
 refine JoinP.bool (λb w'=>b=true/\Grow W w') (λj hj=>?_) (λb w' hh=>by rw[hh.1];exact⟨rfl,hh.2⟩)
 have hq:=H.hq
 refine H.done λv66 w67 d2 hd2 _ H67 b67 _ q4 q3=>⟨d2,hd2,cond_t ?_ ?_⟩
 ·have e:d1+d2=l.length:=by
   have hc4:=H.sg.c4
   by_cases e4:c=4
   ·exact q4 e4
   ·have l0:=h4.resolve_right e4
    have:=hq (by omega)
    have:=q3 (by omega)
    rw[l0];simp;omega
  rw[show((d1:Nat):Int)+((d2:Nat):Int)=(l.length:Int) by omega,wi64_id (by omega) (by omega)]
  simp
 ·have g67:=gW.trans b67
  refine H67.wait h3 h4 λw72 g72=>⟨_,rfl,cond_t rfl ?_⟩
  exact(H67.grow g72).open_ h3 ⟨_,rfl,hj _ _ ⟨rfl,Grow.then g67 g72⟩⟩
end Go.Proofs.YtdpmhkbhlbfbeaaGreatDoor.Los
