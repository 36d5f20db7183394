/- A part of the proof. -/
import Derived.Test.YtdinpgnjnleioaaGreatDoorSRsX1
set_option linter.unusedSimpArgs false
set_option linter.unusedVariables false
set_option maxRecDepth 100000
section
namespace Go.Proofs.YtdinpgnjnleioaaGreatDoor.Rs
open CW RowKit Pdu
open Ses (Cm Rp Wire rCm rRp isPr wireP cmD zCm outI_le)
open Rf (gemelref1_Put_c)
open Rq (gemelref1_Get_c)
open Cdb (Cod codesL isK isD zC outI runI)
variable {w w':World}
theorem putB {w ww:World} {v:Value} {bs:List UInt8} (g:Grow w ww) {B:Nat} (hB:w.heap.size<=B) (o:OwnB ww B tb v bs) {i:Int} {i':Nat} (e:i=(i':Int)) (hi:i' < bs.length):
 ∃a,sliceAt v i 1=some a/\St1 ww a/\∀(y:UInt8) (wz:World),wz=World.setCell ww a (b8 y)->Grow w wz/\OwnB wz B tb v (bs.set i' y)/\Turn a.block ww wz/\B<=a.block:=by
 subst e
 obtain⟨a,q1,q2,q3,q4,q5,q6⟩:=Own.put o (i:=(i':Int)) (by omega) (by rw[List.length_map];omega)
 refine⟨a,q1,q3,λy wz e=>⟨?_,?_,by rw[e];exact Turn.set ww a (b8 y),q4⟩⟩
 ·rw[e];exact g.trans (Step.to_below (Step.setA (S :=λq=>q=a.block) ww a (b8 y) rfl) g.size (λq hq=>by rw[hq];omega))
 ·have q7:=q6 (b8 y)
  rw[←e,Int.toNat_natCast]at q7
  show Own wz B tb v ((bs.set i' y).map b8)
  rw[List.map_set];exact q7
theorem two_c {v:Value} {bs:List UInt8} {R:KV} (hr:RdB w v bs) (k:∀k o b,(Lst.okD bs=true->b=true/\k=Lst.dK bs/\o=Lst.dO bs)->(Lst.okD bs=false->b=false)->R (.tuple #[.int .u64 k,.int .u64 o,.bool b]) w):
 Zs 209 #[v] w R:=by
 apply q99W
 refine⟨_,RdB.len hr,cond_intro (λh=>?_) (λh=>?_)⟩
 ·have h:bs.length≠24:=by simp at h;omega
  have e:Lst.okD bs=false:=by unfold Lst.okD;simp [h]
  exact k _ _ _ (λh'=>by rw[e]at h';cases h') (λ_=>rfl)
 ·have h:bs.length=24:=by simp at h;omega
  refine gemelref1_Get_c hr (by decide) (by decide) ⟨_,_,rfl,gemelref1_Get_c hr (by decide) (by decide) ⟨_,_,rfl,gemelref1_Get_c hr (by decide) (by decide) ⟨_,_,rfl,cond_intro (λh2=>?_) (λh2=>?_)⟩⟩⟩
  ·have h2:getV bs 16 8≠0:=by simpa using h2
   have e:Lst.okD bs=false:=by unfold Lst.okD;simp [h,h2]
   exact k _ _ _ (λh'=>by rw[e]at h';cases h') (λ_=>rfl)
  ·have h2:getV bs 16 8=0:=by simpa using h2
   have e:Lst.okD bs=true:=by unfold Lst.okD;simp [h,h2]
   exact k _ _ _ (λ_=>⟨rfl,by unfold Lst.dK;rw[if_pos e],by unfold Lst.dO;rw[if_pos e]⟩) (λh'=>by rw[e]at h';cases h')
abbrev tF:TypeId:=279
abbrev rF (x:Cod):Array Value:= #[.int .i64 (x.op.toNat:Int),.int .i64 (x.sub.toNat:Int),.bool x.n,.bool x.sh,.bool x.fo,.bool x.ty,.bool x.pa]
theorem ret7 {w:World} {b:Nat} {cs:Array Value} {x:Cod} {G:Int->Int->Bool->Bool->Bool->Bool->Bool->World->Prop} (bk:BK w b cs tF) (hs:cs.size=7)
 (k:∀w',Turn b w w'->G (x.op.toNat:Int) (x.sub.toNat:Int) x.n x.sh x.fo x.ty x.pa w'):
 (StRow w ⟨b,0,none⟩ (rF x))/\bindW (stRow w ⟨b,0,none⟩ (rF x)) λw'=>
 ∃(n2:Int) (n3:Int) (b4:Bool) (b5:Bool) (b6:Bool) (b7:Bool) (b8:Bool),(ldCells w' ⟨b,0,none⟩ 7 #[(.int .i64 n2),(.int .i64 n3),(.bool b4),(.bool b5),(.bool b6),(.bool b7),(.bool b8)])/\G n2 n3 b4 b5 b6 b7 b8 w':=by
 refine⟨bk.row (by rw[hs];rfl) rfl,nm λw' e=>?_⟩
 obtain⟨b',t'⟩:=rowE bk e (by rw[hs];rfl)
 exact⟨_,_,_,_,_,_,_,b'.ld rfl,k w' t'⟩
def fmK (k:Int):Cod:=(codesL.find? (isK k)).getD zC
theorem of_c {k:Int} {R:KV} (q:∀w',Grow w w'->R (.tuple #[.agg (rF (fmK k)),.bool (codesL.find? (isK k)).isSome]) w'):Zs 206 #[.int .i64 k] w R:=by
 apply q91W
 refine nm λw0 e0=>?_
 obtain⟨b0,g0,_⟩:=alE e0
 refine cond_intro (λh=>?_) (λh1=>?_)
 ·obtain rfl:k=1:=eq_of_beq h
  have e:codesL.find? (isK 1)=some ⟨1,0,0,false,false,false,false,false,false⟩:=rfl
  unfold fmK at q
  rw[e]at q
  exact ret7 (x:=⟨1,0,0,false,false,false,false,false,false⟩) b0 rfl λw' t'=>q w' (Below.turn g0 t' (Nat.le_refl _))
 refine cond_intro (λh=>?_) (λh9=>?_)
 ·obtain rfl:k=9:=eq_of_beq h
  have e:codesL.find? (isK 9)=some ⟨9,3,0,false,false,false,false,false,false⟩:=rfl
  unfold fmK at q
  rw[e]at q
  exact ret7 (x:=⟨9,3,0,false,false,false,false,false,false⟩) b0 rfl λw' t'=>q w' (Below.turn g0 t' (Nat.le_refl _))
 refine cond_intro (λh=>?_) (λh8=>?_)
 ·obtain rfl:k=8:=eq_of_beq h
  have e:codesL.find? (isK 8)=some ⟨8,18,0,false,false,false,false,false,false⟩:=rfl
  unfold fmK at q
  rw[e]at q
  exact ret7 (x:=⟨8,18,0,false,false,false,false,false,false⟩) b0 rfl λw' t'=>q w' (Below.turn g0 t' (Nat.le_refl _))
 refine cond_intro (λh=>?_) (λh7=>?_)
 ·obtain rfl:k=7:=eq_of_beq h
  have e:codesL.find? (isK 7)=some ⟨7,37,0,false,false,false,false,false,false⟩:=rfl
  unfold fmK at q
  rw[e]at q
  exact ret7 (x:=⟨7,37,0,false,false,false,false,false,false⟩) b0 rfl λw' t'=>q w' (Below.turn g0 t' (Nat.le_refl _))
 refine cond_intro (λh=>?_) (λh2=>?_)
 ·obtain rfl:k=2:=eq_of_beq h
  have e:codesL.find? (isK 2)=some ⟨2,136,0,true,true,false,false,false,false⟩:=rfl
  unfold fmK at q
  rw[e]at q
  exact ret7 (x:=⟨2,136,0,true,true,false,false,false,false⟩) b0 rfl λw' t'=>q w' (Below.turn g0 t' (Nat.le_refl _))
 refine cond_intro (λh=>?_) (λh3=>?_)
 ·obtain rfl:k=3:=eq_of_beq h
  have e:codesL.find? (isK 3)=some ⟨3,138,0,true,true,false,true,false,false⟩:=rfl
  unfold fmK at q
  rw[e]at q
  exact ret7 (x:=⟨3,138,0,true,true,false,true,false,false⟩) b0 rfl λw' t'=>q w' (Below.turn g0 t' (Nat.le_refl _))
 refine cond_intro (λh=>?_) (λh4=>?_)
 ·obtain rfl:k=4:=eq_of_beq h
  have e:codesL.find? (isK 4)=some ⟨4,145,0,true,true,false,false,false,false⟩:=rfl
  unfold fmK at q
  rw[e]at q
  exact ret7 (x:=⟨4,145,0,true,true,false,false,false,false⟩) b0 rfl λw' t'=>q w' (Below.turn g0 t' (Nat.le_refl _))
 refine cond_intro (λh=>?_) (λh5=>?_)
 ·obtain rfl:k=5:=eq_of_beq h
  have e:codesL.find? (isK 5)=some ⟨5,66,0,true,true,false,false,false,false⟩:=rfl
  unfold fmK at q
  rw[e]at q
  exact ret7 (x:=⟨5,66,0,true,true,false,false,false,false⟩) b0 rfl λw' t'=>q w' (Below.turn g0 t' (Nat.le_refl _))
 refine cond_intro (λh=>?_) (λh6=>?_)
 ·obtain rfl:k=6:=eq_of_beq h
  have e:codesL.find? (isK 6)=some ⟨6,137,0,true,false,true,true,false,false⟩:=rfl
  unfold fmK at q
  rw[e]at q
  exact ret7 (x:=⟨6,137,0,true,false,true,true,false,false⟩) b0 rfl λw' t'=>q w' (Below.turn g0 t' (Nat.le_refl _))
 refine cond_intro (λh=>?_) (λh10=>?_)
 ·obtain rfl:k=10:=eq_of_beq h
  have e:codesL.find? (isK 10)=some ⟨10,95,0,false,false,false,false,false,true⟩:=rfl
  unfold fmK at q
  rw[e]at q
  exact ret7 (x:=⟨10,95,0,false,false,false,false,false,true⟩) b0 rfl λw' t'=>q w' (Below.turn g0 t' (Nat.le_refl _))
 refine cond_intro (λh=>?_) (λh12=>?_)
 ·obtain rfl:k=12:=eq_of_beq h
  have e:codesL.find? (isK 12)=some ⟨12,95,1,false,false,false,false,true,true⟩:=rfl
  unfold fmK at q
  rw[e]at q
  exact ret7 (x:=⟨12,95,1,false,false,false,false,true,true⟩) b0 rfl λw' t'=>q w' (Below.turn g0 t' (Nat.le_refl _))
 refine cond_intro (λh=>?_) (λh13=>?_)
 ·obtain rfl:k=13:=eq_of_beq h
  have e:codesL.find? (isK 13)=some ⟨13,95,2,false,false,false,false,true,true⟩:=rfl
  unfold fmK at q
  rw[e]at q
  exact ret7 (x:=⟨13,95,2,false,false,false,false,true,true⟩) b0 rfl λw' t'=>q w' (Below.turn g0 t' (Nat.le_refl _))
 refine cond_intro (λh=>?_) (λh14=>?_)
 ·obtain rfl:k=14:=eq_of_beq h
  have e:codesL.find? (isK 14)=some ⟨14,95,3,false,false,false,false,false,true⟩:=rfl
  unfold fmK at q
  rw[e]at q
  exact ret7 (x:=⟨14,95,3,false,false,false,false,false,true⟩) b0 rfl λw' t'=>q w' (Below.turn g0 t' (Nat.le_refl _))
 refine cond_intro (λh=>?_) (λh15=>?_)
 ·obtain rfl:k=15:=eq_of_beq h
  have e:codesL.find? (isK 15)=some ⟨15,95,4,false,false,false,false,true,true⟩:=rfl
  unfold fmK at q
  rw[e]at q
  exact ret7 (x:=⟨15,95,4,false,false,false,false,true,true⟩) b0 rfl λw' t'=>q w' (Below.turn g0 t' (Nat.le_refl _))
 refine cond_intro (λh=>?_) (λh11=>?_)
 ·obtain rfl:k=11:=eq_of_beq h
  have e:codesL.find? (isK 11)=some ⟨11,95,6,false,false,false,false,false,true⟩:=rfl
  unfold fmK at q
  rw[e]at q
  exact ret7 (x:=⟨11,95,6,false,false,false,false,false,true⟩) b0 rfl λw' t'=>q w' (Below.turn g0 t' (Nat.le_refl _))
 refine cond_intro (λh=>?_) (λh16=>?_)
 ·obtain rfl:k=16:=eq_of_beq h
  have e:codesL.find? (isK 16)=some ⟨16,94,0,false,false,false,false,false,true⟩:=rfl
  unfold fmK at q
  rw[e]at q
  exact ret7 (x:=⟨16,94,0,false,false,false,false,false,true⟩) b0 rfl λw' t'=>q w' (Below.turn g0 t' (Nat.le_refl _))
 refine cond_intro (λh=>?_) (λh17=>?_)
 ·obtain rfl:k=17:=eq_of_beq h
  have e:codesL.find? (isK 17)=some ⟨17,94,1,false,false,false,false,false,true⟩:=rfl
  unfold fmK at q
  rw[e]at q
  exact ret7 (x:=⟨17,94,1,false,false,false,false,false,true⟩) b0 rfl λw' t'=>q w' (Below.turn g0 t' (Nat.le_refl _))
 have h1:¬k=1:=by simpa using h1
 have h9:¬k=9:=by simpa using h9
 have h8:¬k=8:=by simpa using h8
 have h7:¬k=7:=by simpa using h7
 have h2:¬k=2:=by simpa using h2
 have h3:¬k=3:=by simpa using h3
 have h4:¬k=4:=by simpa using h4
 have h5:¬k=5:=by simpa using h5
 have h6:¬k=6:=by simpa using h6
 have h10:¬k=10:=by simpa using h10
 have h12:¬k=12:=by simpa using h12
 have h13:¬k=13:=by simpa using h13
 have h14:¬k=14:=by simpa using h14
 have h15:¬k=15:=by simpa using h15
 have h11:¬k=11:=by simpa using h11
 have h16:¬k=16:=by simpa using h16
 have h17:¬k=17:=by simpa using h17
 have hn:codesL.find? (isK k)=none:=by
  rw[List.find?_eq_none]
  intro x hx
  simp only[codesL,List.mem_cons,List.not_mem_nil,or_false]at hx
  simp only[isK,beq_iff_eq]
  rcases hx with rfl|rfl|rfl|rfl|rfl|rfl|rfl|rfl|rfl|rfl|rfl|rfl|rfl|rfl|rfl|rfl|rfl<;>(intro e;dsimp only at e;omega)
 unfold fmK at q
 rw[hn]at q
 exact ret7 (x:=zC) b0 rfl λw' t'=>q w' (Below.turn g0 t' (Nat.le_refl _))
theorem fmK_pr (k:Int):(((fmK k).op.toNat:Int)==(95:Int))=isPr k:=by
 by_cases h1:k=1
 ·subst h1;rfl
 by_cases h9:k=9
 ·subst h9;rfl
 by_cases h8:k=8
 ·subst h8;rfl
 by_cases h7:k=7
 ·subst h7;rfl
 by_cases h2:k=2
 ·subst h2;rfl
 by_cases h3:k=3
 ·subst h3;rfl
 by_cases h4:k=4
 ·subst h4;rfl
 by_cases h5:k=5
 ·subst h5;rfl
 by_cases h6:k=6
 ·subst h6;rfl
 by_cases h10:k=10
 ·subst h10;rfl
 by_cases h12:k=12
 ·subst h12;rfl
 by_cases h13:k=13
 ·subst h13;rfl
 by_cases h14:k=14
 ·subst h14;rfl
 by_cases h15:k=15
 ·subst h15;rfl
 by_cases h11:k=11
 ·subst h11;rfl
 by_cases h16:k=16
 ·subst h16;rfl
 by_cases h17:k=17
 ·subst h17;rfl
 have hn:codesL.find? (isK k)=none:=by
  rw[List.find?_eq_none]
  intro x hx
  simp only[codesL,List.mem_cons,List.not_mem_nil,or_false]at hx
  simp only[isK,beq_iff_eq]
  rcases hx with rfl|rfl|rfl|rfl|rfl|rfl|rfl|rfl|rfl|rfl|rfl|rfl|rfl|rfl|rfl|rfl|rfl<;>(intro e;dsimp only at e;omega)
 unfold fmK
 rw[hn]
 unfold isPr
 have:(decide (10<=k)&&decide (k<=15))=false:=by
  rw[Bool.eq_false_iff];simp only[ne_eq,Bool.and_eq_true,decide_eq_true_eq];omega
 rw[this];rfl
theorem isSome_pr (k:Int) (h:isPr k=true):(codesL.find? (isK k)).isSome=true:=by
 unfold isPr at h
 simp only[Bool.and_eq_true,decide_eq_true_eq]at h
 have:k=10\/k=11\/k=12\/k=13\/k=14\/k=15:=by omega
 rcases this with rfl|rfl|rfl|rfl|rfl|rfl<;>rfl
theorem out_c {c:Cm} {d:Value} (hd:isOne d=true) {R:KV} (q:∀w',Grow w w'->R (.int .i64 (outI c.kind (c.n:Int))) w'):Zs 161 #[.agg (rCm c d)] w R:=by
 apply q92W
 refine nm λw0 e0=>?_
 obtain⟨b0',g0,_⟩:=alE e0
 have b0:BK w0 w.heap.size (rCm c d) tCm:=b0'
 have q0:=q
 unfold outI at q
 have hr:=Cdb.runI_range (c.n:Int)
 have bk:∀{ww:World} {R:KV},R (.int .i64 (runI (c.n:Int))) ww->Zs 208 #[.int .i64 (c.n:Int)] ww R:=by
  intro ww R q
  apply q94W
  refine JoinP.bool (λb w'=>b=decide ((c.n:Int) < 0\/32 < (c.n:Int))/\ww=w') (λj hj=>cond_intro (λh=>hj _ _ ⟨?_,rfl⟩) (λh=>hj _ _ ⟨?_,rfl⟩)) ?_
  ·have h:=of_decide_eq_true h
   exact(decide_eq_true (.inl h)).symm
  ·have h:=of_decide_eq_false h
   rw[Bool.eq_iff_iff];simp only[decide_eq_true_eq];omega
  rintro b w' ⟨rfl,rfl⟩
  unfold runI at q
  refine cond_intro (λh=>?_) (λh=>?_)
  ·rw[if_pos (of_decide_eq_true h)]at q;exact q
  ·have h:=of_decide_eq_false h
   rw[if_neg h]at q
   rw[wi64_id (by omega) (by omega)];exact q
 refine⟨_,b0.cell 0,cond_intro (λh=>?_) (λh3=>cond_intro (λh=>?_) (λh6=>?_))⟩
 ·have h:c.kind=3:=by simpa using h
  rw[if_pos h]at q
  exact⟨_,b0.cell 2,bk ⟨_,rfl,q _ g0⟩⟩
 ·have h:c.kind=6:=by simpa using h
  rw[if_neg (by omega),if_pos h]at q
  refine⟨_,b0.cell 2,bk ⟨_,rfl,?_⟩⟩
  rw[wi64_id (by omega) (by omega)]
  exact q _ g0
 ·have h3:¬c.kind=3:=by simpa using h3
  have h6:¬c.kind=6:=by simpa using h6
  rw[if_neg h3,if_neg h6]at q
  refine⟨_,b0.cell 0,of_c λw12 g12=>⟨_,_,_,_,_,_,_,_,rfl,nm λw21 e21=>?_⟩⟩
  obtain⟨b21,g21,_⟩:=alE e21
  refine⟨b21.row rfl rfl,nm λw22 e22=>?_⟩
  obtain⟨b22,t22⟩:=rowE b21 e22 rfl
  have g22:Grow w w22:=Below.turn (g0.then (g12.then g21)) t22 (g0.then g12).size
  refine JoinP.bool (λb w'=>b=isPr c.kind/\w22=w') (λj hj=>cond_intro (λh=>⟨_,b22.cell 0,hj _ _ ⟨fmK_pr _,rfl⟩⟩) (λh=>hj _ _ ⟨?_,rfl⟩)) ?_
  ·cases hp:isPr c.kind with
   |false=>rfl
   |true=>rw[isSome_pr _ hp]at h;cases h
  rintro b w' ⟨rfl,rfl⟩
  have hk:(c.kind=10\/c.kind=11\/c.kind=12\/c.kind=13\/c.kind=14\/c.kind=15)↔isPr c.kind=true:=by
   unfold isPr;simp only[Bool.and_eq_true,decide_eq_true_eq];omega
  refine cond_intro (λh=>?_) (λh=>?_)
  ·rw[if_pos (hk.2 h)]at q;exact q _ g22
  ·rw[if_neg (λhh=>by rw[hk.1 hh]at h;cases h)]at q;exact q _ g22
end Go.Proofs.YtdinpgnjnleioaaGreatDoor.Rs
end
section
namespace Go.Proofs.YtdinpgnjnleioaaGreatDoor.Rs
open CW RowKit Pdu
open Ses (Cm Rp Wire rCm rRp isPr wireP cmD zCm outI_le)
open Rf (gemelref1_Put_c over over_step)
open Rq (gemelref1_Get_c)
variable {w w':World}
abbrev Bks:=List (Nat×Array Value×TypeId)
structure EB (w:World) (B:Nat) (L:Bks) (v:Value) (ww:World) (bs:List UInt8):Prop where
 g:Grow w ww
 o:OwnB ww B tb v bs
 k:∀q∈L,BK ww q.1 q.2.1 q.2.2/\q.1 < B
 hB:w.heap.size<=B
variable {B b:Nat} {C:Array Value} {t:TypeId} {L:Bks} {v:Value} {ww:World} {bs:List UInt8}
theorem EB.k0 (h:EB w B ((b,C,t)::L) v ww bs):BK ww b C t:=(h.k _ (List.mem_cons_self ..)).1
theorem EB.k1 {q:Nat×Array Value×TypeId} (h:EB w B (q::(b,C,t)::L) v ww bs):BK ww b C t:=(h.k _ (List.mem_cons_of_mem _ (List.mem_cons_self ..))).1
theorem EB.grow (h:EB w B L v ww bs) (g:Grow ww w'):EB w B L v w' bs:=⟨h.g.then g,h.o.grow g,λq hq=>⟨(h.k q hq).1.grow g,(h.k q hq).2⟩,h.hB⟩
theorem EB.put (h:EB w B L v ww bs) {i:Int} {i':Nat} (e:i=(i':Int)) (hi:i' < bs.length):
 ∃a,sliceAt v i 1=some a/\St1 ww a/\v.ownBlock=some a.block/\∀(y:UInt8) (wz:World),wz=World.setCell ww a (b8 y)->EB w B L v wz (bs.set i' y)/\Turn a.block ww wz:=by
 obtain⟨a,q1,q2,q3⟩:=putB h.g h.hB h.o e hi
 have hob:v.ownBlock=some a.block:=by
  subst e
  obtain⟨a',r1,r2,r3,r4,r5,r6⟩:=Own.put h.o (i:=(i':Int)) (by omega) (by rw[List.length_map];omega)
  rw[q1]at r1
  rw[Option.some.inj r1];exact r5
 refine⟨a,q1,q2,hob,λy wz e=>?_⟩
 obtain⟨g',o',t',hb'⟩:=q3 y wz e
 exact⟨⟨g',o',λq hq=>⟨(h.k q hq).1.turn t' (by have:=(h.k q hq).2;omega),(h.k q hq).2⟩,h.hB⟩,t'⟩
theorem over_nil (bs:List UInt8) (K:Nat):over bs K []=bs:=by simp [over]
theorem over_length {bs p:List UInt8} {K:Nat} (h:K+p.length<=bs.length):(over bs K p).length=bs.length:=by simp [over];omega
theorem copy_c {w11:World} {v10:Value} {p:List UInt8} {B10 N K:Nat} {N' K':Int} (h:EB w B L v w11 bs) (o10:OwnB w11 B10 tb v10 p) (hne:∀q,v.ownBlock=some q->q < B10) (hp:p.length=N) (hK:K+N<=bs.length) (hs:bs.length<=1000) (eN:N'=(N:Int)) (eK:K'=(K:Int))
 {rest:World->Prop} (hr:∀ww,EB w B L v ww (over bs K p)->rest ww):
 LoopP [.int .i64] (λj0=>λ(n1:Int)=>λ(w14:World)=>cond (decide (n1 < N'))
  (∃(a15:Addr),((sliceAt v10 n1 1)=(some a15))/\∃(n16:Int),((World.cell? w14 a15)=(some (.int .u8 n16)))/\
   ∃(a17:Addr),((sliceAt v (IntKind.wrap .i64 (K'+n1)) 1)=(some a17))/\(St1 w14 a17)/\bindW (World.setCell w14 a17 (.int .u8 n16)) λw18=>j0 (IntKind.wrap .i64 (n1+(1:Int))) w18)
  (rest w14)) (λs27=>s27 (0:Int) w11):=by
 subst eN eK
 refine⟨λ(i:Int) (ww:World)=>∃i':Nat,i=(i':Int)/\i'<=N/\EB w B L v ww (over bs K (p.take i'))/\OwnB ww B10 tb v10 p,λ(i:Int) (_:World)=>((N:Int) - i).toNat,⟨0,rfl,by omega,by rw[List.take_zero,over_nil];exact h,o10⟩,?_⟩
 dsimp only[allR,mapR2,eqN,ltN]
 rintro m _ ww ⟨⟨i,rfl,hi,he,ho⟩,hm⟩
 refine cond_intro (λhc=>?_) (λhc=>?_)
 ·have hc:i < N:=by have:=of_decide_eq_true hc;omega
  obtain⟨a15,q1,q2⟩:=RdB.at ho.rd (i:=(i:Int)) (by omega) (by omega)
  have hol:(over bs K (p.take i)).length=bs.length:=over_length (by rw[List.length_take];omega)
  obtain⟨a17,q3,q4,q5,q6⟩:=he.put (i:=IntKind.wrap .i64 ((K:Int)+(i:Int))) (i':=K+i) (by rw[wi64_id (by omega) (by omega)];omega) (by rw[hol];omega)
  refine⟨a15,q1,_,q2,a17,q3,q4,nm λw18 e18=>?_⟩
  obtain⟨he',t'⟩:=q6 (p[i]'(by omega)) w18 e18
  rw[over_step (by omega) (by omega)]at he'
  rw[wi64_id (n:=(i:Int)+1) (by omega) (by omega)]
  refine⟨⟨i+1,by omega,by omega,he',?_⟩,by omega⟩
  refine ho.stepS (t'.step (S :=λq=>q=a17.block) rfl) (λq hq e=>?_)
  have:=ho.blk q hq
  have:=hne a17.block q5
  omega
 ·have hc:i=N:=by have:=of_decide_eq_false hc;omega
  subst hc
  rw[List.take_of_length_le (by omega)]at he
  exact hr ww he
theorem put4_c {w8:World} {x:Int} {n:Nat} (hn:1<=n/\n<=8) {R:KV} (k:∀v' w',Grow w8 w'->OwnB w' w8.heap.size tb v' (putL x n)->R v' w'):Zs 34 #[.slice none 0 0,.int .u64 x,.int .i64 (n:Int)] w8 R:=by
 refine gemelref1_Put_c (bs:=[]) (Own.nil w8 w8.heap.size tb) (Nat.le_refl _) (by simp) λv' w' n' o'=>k v' w' ((Grow.refl w8).trans (n'.below (Nat.le_refl _) (Own.nil w8 w8.heap.size tb).blk)) ?_
 have e:putS [] x (n:Int)=putL x n:=by
  unfold putS inW
  have:(decide ((1:Int)<=(n:Int))&&decide ((n:Int)<=8))=true:=by simp;omega
  rw[this];simp
 rw[e]at o'
 exact o'
theorem sEnc_c {r:Rp} {d:Value} (hd:isOne d=true) {R:KV} (k:∀v w',Grow w w'->OwnB w' w.heap.size tb v (Sen.encS r.key r.code r.info)->R v w'):Zs 50 #[.agg (rRp r d)] w R:=by
 apply q96W
 refine nm λw0 e0=>?_
 obtain⟨b0',g0,s0⟩:=alE e0
 have b0:BK w0 w.heap.size (rRp r d) tRp:=b0'
 obtain⟨v1,w2,k2,o2,g2⟩:=make_bytes (w:=w0) 18 (by omega)
 have h2:EB w w0.heap.size [(w.heap.size,rRp r d,tRp)] v1 w2 (List.replicate 18 0):=⟨g0.then g2,o2,λq hq=>by rw[List.mem_singleton.1 hq];exact⟨b0.grow g2,b0.lt⟩,g0.size⟩
 obtain⟨a3,q1,q2,_,q3⟩:=h2.put (i:=0) (i':=0) rfl (by simp)
 refine⟨v1,w2,k2,a3,q1,q2,nm λw4 e4=>?_⟩
 obtain⟨h4,_⟩:=q3 112 w4 e4
 refine JoinP.unit (λww=>EB w w0.heap.size [(w.heap.size,rRp r d,tRp)] v1 ww ((List.replicate 18 (0:UInt8)).set 0 (byt (Sen.headB r.info)))) (λj hj=>⟨_,h4.k0.cell 4,cond_intro (λh=>?_) (λh=>?_)⟩) ?_
 ·obtain⟨a30,q1,q2,_,q3⟩:=h4.put (i:=0) (i':=0) rfl (by simp)
  refine⟨a30,q1,q2,nm λw31 e31=>hj _ ?_⟩
  obtain⟨h31,_⟩:=q3 240 w31 e31
  have e:byt (Sen.headB r.info)=240:=by unfold Sen.headB;rw[h];rfl
  rw[e];rw[List.set_set]at h31;exact h31
 ·have e:byt (Sen.headB r.info)=112:=by unfold Sen.headB;rw[h];rfl
  rw[e]at hj
  exact hj _ h4
 intro w5 h5
 obtain⟨a7,q1,q2,_,q3⟩:=h5.put (i:=2) (i':=2) rfl (by simp)
 refine⟨_,h5.k0.cell 1,a7,q1,q2,nm λw8 e8=>?_⟩
 rw[b8_wrap]at e8
 obtain⟨h8,_⟩:=q3 _ w8 e8
 refine⟨_,h8.k0.cell 4,put4_c (n:=4) (by omega) λv10 w11 g11 o11=>?_⟩
 have h11:=h8.grow g11
 refine copy_c (N:=4) (K:=3) h11 o11 (λq hq=>h8.o.ltS q hq) (putL_length _ _) (by simp) (by simp) rfl rfl λw14 h14=>?_
 obtain⟨a19,q1,q2,_,q3⟩:=h14.put (i:=7) (i':=7) rfl (by simp [over,putL_length])
 refine⟨a19,q1,q2,nm λw20 e20=>?_⟩
 obtain⟨h20,_⟩:=q3 10 w20 e20
 obtain⟨a22,q1,q2,_,q3⟩:=h20.put (i:=12) (i':=12) rfl (by simp [over,putL_length])
 refine⟨_,h20.k0.cell 2,a22,q1,q2,nm λw23 e23=>?_⟩
 rw[b8_wrap]at e23
 obtain⟨h23,_⟩:=q3 _ w23 e23
 obtain⟨a25,q1,q2,_,q3⟩:=h23.put (i:=13) (i':=13) rfl (by simp [over,putL_length])
 refine⟨_,h23.k0.cell 2,a25,q1,q2,nm λw26 e26=>?_⟩
 rw[b8_wrap]at e26
 obtain⟨h26,_⟩:=q3 _ w26 e26
 refine k v1 w26 h26.g ?_
 have hp:∃p0 p1 p2 p3,putL (IntKind.wrap .u64 r.info) 4=[p0,p1,p2,p3]:=⟨_,_,_,_,rfl⟩
 obtain⟨p0,p1,p2,p3,hp⟩:=hp
 have e:Sen.encS r.key r.code r.info=((((over (((List.replicate 18 (0:UInt8)).set 0 (byt (Sen.headB r.info))).set 2 (byt (bitsI .and .i64 r.key 15))) 3 (putL (IntKind.wrap .u64 r.info) 4)).set 7 10).set 12 (byt (Int.fdiv r.code 256))).set 13 (byt r.code)):=by
  have c1:byt (Int.fdiv r.code 256)=byt ((IntKind.wrap .u64 r.code) / 2 ^ 8):=by
   unfold byt;congr 2;rw[w64,Int.fdiv_eq_ediv_of_nonneg _ (by omega)];omega
  have c2:byt r.code=byt ((IntKind.wrap .u64 r.code) / 2 ^ 0):=by
   unfold byt;congr 2;rw[w64];omega
  have c3:byt (IntKind.wrap .u8 (bitsI .and .i64 r.key 15))=byt (bitsI .and .i64 r.key 15):=by
   unfold byt;congr 2;rw[IntKind.wrap_u8];omega
  unfold Sen.encS
  rw[hp,c1,c2,c3]
  rfl
 rw[e]
 exact h26.o.mono g0.size
end Go.Proofs.YtdinpgnjnleioaaGreatDoor.Rs
end
section
namespace Go.Proofs.YtdinpgnjnleioaaGreatDoor.Rs
open CW RowKit Pdu
open Ses (Cm Rp Wire rCm rRp isPr wireP cmD zCm outI_le)
open Rf (over over_step)
open Cdb (Cod codesL isK isD zC outI runI)
variable {w w':World}
theorem right_c {x:Cod} {c:Cm} {d:Value} (hx:codesL.find? (isK c.kind)=some x) (hn:x.n=true->c.n<=4294967295) (hs:x.sh=true->c.n<=255) (ht:x.ty=true->0<=c.typ/\c.typ<=15) {R:KV} (q:∀w',Grow w w'->R (.bool true) w'):
 Zs 223 #[.agg (rCm c d)] w R:=by
 apply q93W
 refine nm λw0 e0=>?_
 obtain⟨b0',g0,_⟩:=alE e0
 have b0:BK w0 w.heap.size (rCm c d) tCm:=b0'
 refine⟨_,b0.cell 0,of_c λw3 g3=>⟨_,_,_,_,_,_,_,_,rfl,nm λw12 e12=>?_⟩⟩
 have ef:fmK c.kind=x:=by unfold fmK;rw[hx];rfl
 rw[ef,hx]at *
 obtain⟨b12,g12,_⟩:=alE e12
 refine⟨b12.row rfl rfl,nm λw13 e13=>?_⟩
 obtain⟨bf',t13⟩:=rowE b12 e13 rfl
 have bf:BK w13 w3.heap.size (rF x) tF:=bf'
 have z0:=b0.lt
 have z3:=g3.size
 have g13:Grow w w13:=Below.turn (g0.then (g3.then g12)) t13 (by omega)
 have bc:BK w13 w.heap.size (rCm c d) tCm:=((b0.grow g3).grow g12).turn t13 (by omega)
 have c1:∀{n:Nat},w13.cell? (Addr.add ⟨w.heap.size,0,none⟩ 1)=some (.int .i64 (c.pos:Int)):=λ{_}=>bc.cell 1
 refine cond_f rfl ?_
 refine JoinP.bool (λb w'=>b=false/\w13=w') (λj hj=>?_) ?_
 ·have pos:∀n:Nat,decide ((n:Int) < (0:Int))=false:=λn=>by simp
  refine⟨_,bf.cell 2,cond_intro (λ_=>⟨_,bc.cell 1,cond_f (pos _) ⟨_,bc.cell 2,hj _ _ ⟨pos _,rfl⟩⟩⟩) (λ_=>⟨_,bf.cell 3,cond_intro (λ_=>⟨_,bc.cell 1,cond_f (pos _) ⟨_,bc.cell 2,hj _ _ ⟨pos _,rfl⟩⟩⟩) (λ_=>hj _ _ ⟨rfl,rfl⟩)⟩)⟩
 rintro b w' ⟨rfl,rfl⟩
 refine cond_f rfl ?_
 refine JoinP.bool (λb w'=>b=false/\w13=w') (λj hj=>?_) ?_
 ·have big:x.sh=true->decide ((c.n:Int) > (255:Int))=false:=λe=>by have:=hs e;simp;omega
  refine⟨_,bf.cell 2,cond_intro (λe=>⟨_,bc.cell 2,cond_f (by have:=hn e;simp;omega) ⟨_,bf.cell 3,cond_intro (λe=>⟨_,bc.cell 2,hj _ _ ⟨big e,rfl⟩⟩) (λ_=>hj _ _ ⟨rfl,rfl⟩)⟩⟩) (λ_=>⟨_,bf.cell 3,cond_intro (λe=>⟨_,bc.cell 2,hj _ _ ⟨big e,rfl⟩⟩) (λ_=>hj _ _ ⟨rfl,rfl⟩)⟩)⟩
 rintro b w' ⟨rfl,rfl⟩
 refine cond_f rfl ?_
 refine JoinP.bool (λb w'=>b=true/\w13=w') (λj hj=>?_) ?_
 ·refine⟨_,bf.cell 5,cond_intro (λ_=>hj _ _ ⟨rfl,rfl⟩) (λe=>⟨_,bc.cell 6,cond_t ?_ ⟨_,bc.cell 6,hj _ _ ⟨?_,rfl⟩⟩⟩)⟩
  ·have:=ht (by simpa using e);simp;omega
  ·have:=ht (by simpa using e);simp;omega
 rintro b w' ⟨rfl,rfl⟩
 exact q _ g13
def encD (x:Cod) (f:Bool) (a n:Nat) (t:Int):List UInt8:=
 let l1:=((List.replicate 16 (0:UInt8)).set 0 x.op).set 1 x.sub
 let l2:=if x.fo&&f then l1.set 1 8 else l1
 let l3:=if x.n||x.sh then over l2 2 (putL (a:Int) 8)else l2
 let l4:=if x.n then over l3 10 (putL (n:Int) 4)else l3
 let l5:=if x.sh then l4.set 13 (byt (n:Int))else l4
 if x.ty then l5.set 2 (byt t)else l5
theorem byt_id (y:UInt8):byt (y.toNat:Int)=y:=by
 have h:=y.toNat_lt
 apply UInt8.toNat.inj
 have:=byt_toNat (y.toNat:Int)
 omega
theorem enc_c {x:Cod} {c:Cm} {d:Value} (hx:codesL.find? (isK c.kind)=some x) (hn:x.n=true->c.n<=4294967295) (hs:x.sh=true->c.n<=255) (ht:x.ty=true->0<=c.typ/\c.typ<=15) (ha:c.pos<=4611686018427387904) {R:KV}
 (q:∀v w',Grow w w'->OwnB w' w.heap.size tb v (encD x c.fo c.pos c.n c.typ)->R (.tuple #[v,.bool true]) w'):
 Zs 207 #[.agg (rCm c d)] w R:=by
 apply q90W
 refine nm λw0 e0=>?_
 obtain⟨b0',g0,_⟩:=alE e0
 have b0:BK w0 w.heap.size (rCm c d) tCm:=b0'
 refine⟨_,_,_,_,_,_,_,_,b0.ld rfl,right_c hx hn hs ht λw10 g10=>⟨_,rfl,cond_f rfl ?_⟩⟩
 have b10:=b0.grow g10
 refine⟨_,b10.cell 0,of_c λw14 g14=>⟨_,_,_,_,_,_,_,_,rfl,nm λw23 e23=>?_⟩⟩
 have ef:fmK c.kind=x:=by unfold fmK;rw[hx];rfl
 rw[ef]at *
 obtain⟨b23,g23,_⟩:=alE e23
 refine⟨b23.row rfl rfl,nm λw24 e24=>?_⟩
 obtain⟨bf',t24⟩:=rowE b23 e24 rfl
 have bf:BK w24 w14.heap.size (rF x) tF:=bf'
 have z0:=b0.lt
 have z10:=g10.size
 have z14:=g14.size
 have g24:Grow w w24:=Below.turn (g0.then (g10.then (g14.then g23))) t24 (by omega)
 have bc:BK w24 w.heap.size (rCm c d) tCm:=((b10.grow g14).grow g23).turn t24 (by omega)
 obtain⟨v25,w26,k26,o26,g26⟩:=make_bytes (w:=w24) 16 (by omega)
 have h26:EB w w24.heap.size [(w14.heap.size,rF x,tF),(w.heap.size,rCm c d,tCm)] v25 w26 (List.replicate 16 0):=⟨g24.then g26,o26,λq hq=>by
  simp only[List.mem_cons,List.not_mem_nil,or_false]at hq
  rcases hq with rfl|rfl
  ·exact⟨bf.grow g26,bf.lt⟩
  ·exact⟨bc.grow g26,bc.lt⟩,g24.size⟩
 have hv:∀q,v25.ownBlock=some q->q < w26.heap.size:=λq hq=>o26.ltS q hq
 obtain⟨a28,q1,q2,_,q3⟩:=h26.put (i:=0) (i':=0) rfl (by simp)
 refine⟨v25,w26,k26,_,h26.k0.cell 0,a28,q1,q2,nm λw29 e29=>?_⟩
 rw[b8_wrap,byt_id]at e29
 obtain⟨h29,_⟩:=q3 _ w29 e29
 obtain⟨a31,q1,q2,_,q3⟩:=h29.put (i:=1) (i':=1) rfl (by simp)
 refine⟨_,h29.k0.cell 1,a31,q1,q2,nm λw32 e32=>?_⟩
 rw[b8_wrap,byt_id]at e32
 obtain⟨h32,_⟩:=q3 _ w32 e32
 clear e29 e32
 generalize hl1:((List.replicate 16 (0:UInt8)).set 0 x.op).set 1 x.sub=l1 at *
 have n1:l1.length=16:=by rw[←hl1];simp
 refine JoinP.unit (λww=>EB w w24.heap.size [(w14.heap.size,rF x,tF),(w.heap.size,rCm c d,tCm)] v25 ww (if x.fo&&c.fo then l1.set 1 8 else l1)) (λj hj=>?_) ?_
 ·refine JoinP.bool (λb w'=>b=(x.fo&&c.fo)/\w32=w') (λj2 hj2=>⟨_,h32.k0.cell 4,cond_intro (λe=>⟨_,h32.k1.cell 7,hj2 _ _ ⟨by rw[show x.fo=true from e];rfl,rfl⟩⟩) (λe=>hj2 _ _ ⟨by rw[show x.fo=false from e];rfl,rfl⟩)⟩) ?_
  rintro b w' ⟨rfl,rfl⟩
  refine cond_intro (λe=>?_) (λe=>?_)
  ·obtain⟨a81,q1,q2,_,q3⟩:=h32.put (i:=1) (i':=1) rfl (by omega)
   refine⟨a81,q1,q2,nm λw82 e82=>hj _ ?_⟩
   obtain⟨h82,_⟩:=q3 8 w82 e82
   rw[if_pos e];exact h82
  ·rw[if_neg (by rw[e];simp)]at hj
   exact hj _ h32
 intro w33 h33
 generalize hl2:(if x.fo&&c.fo then l1.set 1 8 else l1)=l2 at *
 have n2:l2.length=16:=by rw[←hl2];split<;>simp [n1]
 refine JoinP.unit (λww=>EB w w24.heap.size [(w14.heap.size,rF x,tF),(w.heap.size,rCm c d,tCm)] v25 ww (if x.n||x.sh then over l2 2 (putL (c.pos:Int) 8)else l2)) (λj hj=>?_) ?_
 ·refine JoinP.bool (λb w'=>b=(x.n||x.sh)/\w33=w') (λj2 hj2=>⟨_,h33.k0.cell 2,cond_intro (λe=>hj2 _ _ ⟨by rw[show x.n=true from e];rfl,rfl⟩) (λe=>⟨_,h33.k0.cell 3,hj2 _ _ ⟨by rw[show x.n=false from e];rfl,rfl⟩⟩)⟩) ?_
  rintro b w' ⟨rfl,rfl⟩
  refine cond_intro (λe=>?_) (λe=>?_)
  ·rw[if_pos e]at hj
   refine⟨_,h33.k1.cell 1,?_⟩
   rw[w64_id (n:=(c.pos:Int)) (by omega) (by omega)]
   refine put4_c (n:=8) (by omega) λv65 w66 g66 o66=>?_
   exact copy_c (N:=8) (K:=2) (h33.grow g66) o66 (λq hq=>h33.o.ltS q hq) (putL_length _ _) (by omega) (by omega) rfl rfl λww hw=>hj ww hw
  ·rw[if_neg (by rw[e];simp)]at hj
   exact hj _ h33
 intro w34 h34
 generalize hl3:(if x.n||x.sh then over l2 2 (putL (c.pos:Int) 8)else l2)=l3 at *
 have n3:l3.length=16:=by
  rw[←hl3];split
  ·rw[over_length (by rw[putL_length];omega)];exact n2
  ·exact n2
 refine JoinP.unit (λww=>EB w w24.heap.size [(w14.heap.size,rF x,tF),(w.heap.size,rCm c d,tCm)] v25 ww (if x.n then over l3 10 (putL (c.n:Int) 4)else l3)) (λj hj=>⟨_,h34.k0.cell 2,cond_intro (λe=>?_) (λe=>?_)⟩) ?_
 ·have e:x.n=true:=e
  have hn:=hn e
  rw[if_pos e]at hj
  refine⟨_,h34.k1.cell 2,?_⟩
  rw[w64_id (n:=(c.n:Int)) (by omega) (by omega)]
  refine put4_c (n:=4) (by omega) λv51 w52 g52 o52=>?_
  exact copy_c (N:=4) (K:=10) (h34.grow g52) o52 (λq hq=>h34.o.ltS q hq) (putL_length _ _) (by omega) (by omega) rfl rfl λww hw=>hj ww hw
 ·have e:x.n=false:=e
  rw[if_neg (by rw[e];simp)]at hj
  exact hj _ h34
 intro w35 h35
 generalize hl4:(if x.n then over l3 10 (putL (c.n:Int) 4)else l3)=l4 at *
 have n4:l4.length=16:=by
  rw[←hl4];split
  ·rw[over_length (by rw[putL_length];omega)];exact n3
  ·exact n3
 refine JoinP.unit (λww=>EB w w24.heap.size [(w14.heap.size,rF x,tF),(w.heap.size,rCm c d,tCm)] v25 ww (if x.sh then l4.set 13 (byt (c.n:Int))else l4)) (λj hj=>⟨_,h35.k0.cell 3,cond_intro (λe=>?_) (λe=>?_)⟩) ?_
 ·have e:x.sh=true:=e
  rw[if_pos e]at hj
  obtain⟨a46,q1,q2,_,q3⟩:=h35.put (i:=13) (i':=13) rfl (by omega)
  refine⟨_,h35.k1.cell 2,a46,q1,q2,nm λw47 e47=>?_⟩
  rw[b8_wrap]at e47
  exact hj _ (q3 _ w47 e47).1
 ·have e:x.sh=false:=e
  rw[if_neg (by rw[e];simp)]at hj
  exact hj _ h35
 intro w36 h36
 generalize hl5:(if x.sh then l4.set 13 (byt (c.n:Int))else l4)=l5 at *
 have n5:l5.length=16:=by rw[←hl5];split<;>simp [n4]
 have ed:encD x c.fo c.pos c.n c.typ=if x.ty then l5.set 2 (byt c.typ)else l5:=by
  unfold encD
  simp only[hl1,hl2,hl3,hl4,hl5]
 rw[ed]at q
 refine JoinP.unit (λww=>EB w w24.heap.size [(w14.heap.size,rF x,tF),(w.heap.size,rCm c d,tCm)] v25 ww (if x.ty then l5.set 2 (byt c.typ)else l5)) (λj hj=>⟨_,h36.k0.cell 5,cond_intro (λe=>?_) (λe=>?_)⟩) ?_
 ·have e:x.ty=true:=e
  rw[if_pos e]at hj
  obtain⟨a41,q1,q2,_,q3⟩:=h36.put (i:=2) (i':=2) rfl (by omega)
  refine⟨_,h36.k1.cell 6,a41,q1,q2,nm λw42 e42=>?_⟩
  rw[b8_wrap]at e42
  exact hj _ (q3 _ w42 e42).1
 ·have e:x.ty=false:=e
  rw[if_neg (by rw[e];simp)]at hj
  exact hj _ h36
 intro w37 h37
 exact q v25 w37 h37.g (h37.o.mono g24.size)
end Go.Proofs.YtdinpgnjnleioaaGreatDoor.Rs
end
section
namespace Go.Proofs.YtdinpgnjnleioaaGreatDoor.Rs
open CW RowKit Pdu
open Ses (Cm Rp Wire rCm rRp isPr wireP cmD zCm outI_le)
open Rf (over over_step)
open Cdb (Cod codesL isK isD zC outI runI codOf codeD wrongD anyBad badI farD atD nD tD foD named)
theorem fmK_of:∀x∈codesL,codesL.find? (isK x.k)=some x:=by
 intro x hx
 simp only[codesL,List.mem_cons,List.not_mem_nil,or_false]at hx
 rcases hx with rfl|rfl|rfl|rfl|rfl|rfl|rfl|rfl|rfl|rfl|rfl|rfl|rfl|rfl|rfl|rfl|rfl<;>rfl
theorem kind_in:∀x∈codesL,1<=x.k/\x.k<=17:=by decide
theorem kinds:∀i:Fin 17,∃x,codesL.find? (isK ((i.val:Int)+1))=some x/\x∈codesL/\x.k=(i.val:Int)+1:=by
 intro i
 have h:=Cdb.findK i
 obtain⟨x,hx⟩:=Option.isSome_iff_exists.1 h
 have hk:isK ((i.val:Int)+1) x=true:=List.find?_some hx
 exact⟨x,hx,List.mem_of_find?_eq_some hx,by unfold isK at hk;exact eq_of_beq hk⟩
theorem uniq0:∀x∈codesL,∀y∈codesL,x.op=y.op->(x.pa=false\/y.pa=false\/x.sub=y.sub)->x.k=y.k:=by decide
theorem uniq {o s:UInt8} {x y:Cod} (hx:x∈codesL) (hy:y∈codesL) (h1:isD o s x=true) (h2:isD o s y=true):x=y:=by
 unfold isD at h1 h2
 simp only[Bool.and_eq_true,Bool.or_eq_true,decide_eq_true_eq,Bool.not_eq_true']at h1 h2
 have hk:=uniq0 x hx y hy (h1.1.trans h2.1.symm) (by
  rcases h1.2 with a|a
  ·exact .inl a
  ·rcases h2.2 with b|b
   ·exact .inr (.inl b)
   ·exact .inr (.inr (a.trans b.symm)))
 have a:=fmK_of x hx
 have b:=fmK_of y hy
 rw[hk,b]at a
 exact(Option.some.inj a).symm
theorem codOf_some {bs:List UInt8} {x:Cod} (hx:x∈codesL) (h:isD (bs.getD 0 0) (bs.getD 1 0) x=true):codOf bs=some x:=by
 cases hf:codOf bs with
 |none=>
  have:=(List.find?_eq_none.1 hf) x hx
  exact absurd h this
 |some y=>
  have h1:isD (bs.getD 0 0) (bs.getD 1 0) y=true:=List.find?_some hf
  rw[uniq hx (List.mem_of_find?_eq_some hf) h h1]
theorem codOf_none {bs:List UInt8} (h:∀i:Nat,1<=i->i < 18->∀x,codesL.find? (isK (i:Int))=some x->isD (bs.getD 0 0) (bs.getD 1 0) x=false):codOf bs=none:=by
 refine List.find?_eq_none.2 λx hx=>?_
 obtain⟨k1,k2⟩:=kind_in x hx
 have:=h x.k.toNat (by omega) (by omega) x (by rw[Int.toNat_of_nonneg (by omega)];exact fmK_of x hx)
 rw[this];simp
def finD (x:Cod) (bs:List UInt8):List UInt8:=
 let l:=encD x (x.fo&&decide (bs.getD 1 0=8)) (atD x bs).toNat (nD x bs).toNat 0
 if x.ty then l.set 2 (bs.getD 2 0)else l
theorem at_flag:∀x∈codesL,x.at_=(x.n||x.sh):=by decide
theorem fin_iff {x:Cod} (hx:x∈codesL) {bs:List UInt8} (hl:bs.length=16) (h:isD (bs.getD 0 0) (bs.getD 1 0) x=true):finD x bs=bs↔anyBad x bs 16=false:=by
 have e2:putL (getV bs 2 8) 8=(bs.drop 2).take 8:=putL_get (a:=2) (n:=8) (by omega) (by omega)
 have e10:putL (getV bs 10 4) 4=(bs.drop 10).take 4:=putL_get (a:=10) (n:=4) (by omega) (by omega)
 have p2:=(getV_range bs 2 8).1
 have p10:=(getV_range bs 10 4).1
 have t2:(((getV bs 2 8).toNat:Nat):Int)=getV bs 2 8:=Int.toNat_of_nonneg p2
 have t10:(((getV bs 10 4).toNat:Nat):Int)=getV bs 10 4:=Int.toNat_of_nonneg p10
 match bs,hl with
 |[b0,b1,b2,b3,b4,b5,b6,b7,b8,b9,b10,b11,b12,b13,b14,b15],_=>
  simp only[List.drop_succ_cons,List.drop_zero,List.take_succ_cons,List.take_zero]at e2 e10
  simp only[List.getD_cons_zero,List.getD_cons_succ]at h
  have ea:∀y:Cod,atD y [b0,b1,b2,b3,b4,b5,b6,b7,b8,b9,b10,b11,b12,b13,b14,b15]=if y.at_ then getV [b0,b1,b2,b3,b4,b5,b6,b7,b8,b9,b10,b11,b12,b13,b14,b15] 2 8 else 0:=λy=>rfl
  have en:∀y:Cod,nD y [b0,b1,b2,b3,b4,b5,b6,b7,b8,b9,b10,b11,b12,b13,b14,b15]=if y.n then getV [b0,b1,b2,b3,b4,b5,b6,b7,b8,b9,b10,b11,b12,b13,b14,b15] 10 4 else if y.sh then(b13.toNat:Int)else 0:=λy=>rfl
  unfold finD
  rw[ea,en]
  generalize getV [b0,b1,b2,b3,b4,b5,b6,b7,b8,b9,b10,b11,b12,b13,b14,b15] 2 8=g2 at *
  generalize getV [b0,b1,b2,b3,b4,b5,b6,b7,b8,b9,b10,b11,b12,b13,b14,b15] 10 4=g10 at *
  clear ea en
  have er:List.range 16=[0,1,2,3,4,5,6,7,8,9,10,11,12,13,14,15]:=rfl
  have eN:∀n:Nat,((n:Int)).toNat=n:=λn=>Int.toNat_natCast n
  simp only[codesL,List.mem_cons,List.not_mem_nil,or_false]at hx
  clear hl
  rcases hx with rfl|rfl|rfl|rfl|rfl|rfl|rfl|rfl|rfl|rfl|rfl|rfl|rfl|rfl|rfl|rfl|rfl
  case' inr.inr.inr.inr.inr.inl=>by_cases h8:b1=8
  case' inr.inr.inr.inr.inr.inr.inr.inr.inl=>by_cases h8:b1=8
  all_goals
   simp [encD,over,t2,t10,e2,e10,byt_id,eN,anyBad,badI,named,isD,er,List.replicate, *]at h ⊢
   try clear p2 p10 t2 t10 e2 e10 er eN
   try grind
end Go.Proofs.YtdinpgnjnleioaaGreatDoor.Rs
end
section
namespace Go.Proofs.YtdinpgnjnleioaaGreatDoor.Rs
open CW RowKit Pdu
open Ses (Cm Rp Wire rCm rRp isPr wireP cmD zCm outI_le)
open Rf (over over_step)
open Rq (gemelref1_Get_c)
open Cdb (Cod codesL isK isD zC outI runI codOf codeD wrongD anyBad badI farD atD nD tD foD named)
variable {w w':World}
structure DS (w:World) (hf hc:Nat) (x:Cod) (c:Cm) (ww:World):Prop where
 g:Grow w ww
 r:BK ww w.heap.size (rCm zCm nilV) tCm
 f:BK ww hf (rF x) tF
 c:BK ww hc (rCm c nilV) tCm
 lf:w.heap.size < hf
 lc:hf < hc
variable {hf hc:Nat} {x:Cod} {c:Cm} {ww:World}
theorem DS.grow (h:DS w hf hc x c ww) (g:Grow ww w'):DS w hf hc x c w':=⟨h.g.then g,h.r.grow g,h.f.grow g,h.c.grow g,h.lf,h.lc⟩
theorem DS.set (h:DS w hf hc x c ww) {j:Nat} {v:Value} {c':Cm} (hj:j < 8) (e:(rCm c nilV).setIfInBounds j v=rCm c' nilV) {wz:World} (ez:wz=World.setCell ww (Addr.add ⟨hc,0,none⟩ j) v):DS w hf hc x c' wz:=by
 obtain⟨b,t⟩:=setE h.c ez
 have:=h.lf
 have:=h.lc
 exact⟨Below.turn h.g t (by omega),h.r.turn t (by omega),h.f.turn t (by omega),by rw[e]at b;exact b,h.lf,h.lc⟩
theorem DS.st (h:DS w hf hc x c ww) {j:Nat} (hj:j < 8):St1 ww (Addr.add ⟨hc,0,none⟩ j):=st1_at h.c (by show j < 8;exact hj)
theorem ret8 {w:World} {b:Nat} {cs:Array Value} {c:Cm} {G:Cm->World->Prop} {K:Int->Int->Int->Value->Int->Int->Int->Bool->World->Prop} (bk:BK w b cs tCm) (hs:cs.size=8)
 (k:∀w',Turn b w w'->K c.kind (c.pos:Int) (c.n:Int) nilV c.key c.new c.typ c.fo w'):
 (StRow w ⟨b,0,none⟩ (rCm c nilV))/\bindW (stRow w ⟨b,0,none⟩ (rCm c nilV)) λw'=>
 ∃(n3:Int) (n4:Int) (n5:Int) (v6:Value) (n7:Int) (n8:Int) (n9:Int) (b10:Bool),(ldCells w' ⟨b,0,none⟩ 8 #[(.int .i64 n3),(.int .i64 n4),(.int .i64 n5),v6,(.int .u64 n7),(.int .u64 n8),(.int .i64 n9),(.bool b10)])/\K n3 n4 n5 v6 n7 n8 n9 b10 w':=by
 refine⟨bk.row (by rw[hs];rfl) rfl,nm λw' e=>?_⟩
 obtain⟨b',t'⟩:=rowE bk e (by rw[hs];rfl)
 exact⟨_,_,_,_,_,_,_,_,b'.ld rfl,k w' t'⟩
theorem by_at {v:Value} {bs:List UInt8} (h:RdB w v bs) {i:Nat} (hi:i < bs.length):∃a,sliceAt v (i:Int) 1=some a/\w.cell? a=some (.int .u8 ((bs.getD i 0).toNat:Int)):=by
 obtain⟨a,q1,q2⟩:=RdB.at h (i:=(i:Int)) (by omega) (by omega)
 refine⟨a,q1,?_⟩
 rw[q2]
 simp only[Int.toNat_natCast,List.getD_eq_getElem?_getD]
 rw[List.getElem?_eq_getElem hi];rfl
theorem u8i (b:UInt8):IntKind.wrap .i64 (b.toNat:Int)=(b.toNat:Int):=wi64_id (by have:=b.toNat_lt;omega) (by have:=b.toNat_lt;omega)
theorem u8b (a b:UInt8):((a.toNat:Int) !=(b.toNat:Int))=!decide (b=a):=by
 by_cases h:b=a
 ·subst h;simp
 ·have:(a.toNat:Int)≠(b.toNat:Int):=λe=>h (UInt8.toNat.inj (by omega))
  simp [h,this]
theorem nsh:∀x∈codesL,x.n=true->x.sh=false:=by decide
theorem nty:∀x∈codesL,x.ty=true->x.n=false/\x.sh=false/\x.at_=false:=by decide
theorem fop:∀x∈codesL,x.fo=true->x.pa=false:=by decide
theorem dec_c {v:Value} {bs:List UInt8} {R:KV} (hr:RdB w v bs) (hl:bs.length=16)
 (k:∀w' c',Grow w w'->(codeD bs=0->c'=cmD bs)->R (.tuple #[.agg (rCm c' nilV),.int .i64 (codeD bs)]) w'):
 Zs 159 #[v] w R:=by
 apply q89W
 refine nm λw0 e0=>?_
 obtain⟨b0',g0,s0⟩:=alE e0
 have b0:BK w0 w.heap.size (rCm zCm nilV) tCm:=b0'
 obtain⟨v11,hs11,hr11,_⟩:=Rd.sub hr (lo:=none) (hi:=some (.int .i64 16)) (l:=0) (r:=16) (λcap hc=>by rw[bounds_ni (by omega) (by simp at hc;omega)];rfl) (by omega) (by simp;omega)
 have r11:RdB w v11 bs:=by
  have e:((bs.map b8).drop 0).take (16 - 0)=bs.map b8:=by rw[List.drop_zero,List.take_of_length_le (by simp;omega)]
  rw[e]at hr11;exact hr11
 refine⟨_,RdB.len hr,cond_f (by rw[hl];rfl) ⟨v11,hs11,?_⟩⟩
 have hk:∀i:Nat,1<=i->i < 18->∃x,codesL.find? (isK (i:Int))=some x/\x∈codesL/\x.k=(i:Int):=λi h1 h2=>by
  obtain⟨x,a,b,c⟩:=kinds ⟨i - 1,by omega⟩
  have e:(((i - 1:Nat):Int)+1)=(i:Int):=by omega
  simp only[e]at a c
  exact⟨x,a,b,c⟩
 refine⟨λ(n:Int) (ww:World)=>∃i:Nat,n=(i:Int)/\1<=i/\i<=18/\Grow w ww/\BK ww w.heap.size (rCm zCm nilV) tCm/\∀j:Nat,1<=j->j < i->∀x,codesL.find? (isK (j:Int))=some x->isD (bs.getD 0 0) (bs.getD 1 0) x=false,λ(n:Int) (_:World)=>((18:Int) - n).toNat,⟨1,rfl,by omega,by omega,g0,b0,λj h1 h2=>by omega⟩,?_⟩
 dsimp only[allR,mapR2,eqN,ltN]
 rintro m _ w14 ⟨⟨i,rfl,hi1,hi2,g14,b14,hno⟩,hm⟩
 refine cond_intro (λhc=>?_) (λhc=>?_)
 rotate_left
 ·
  have hc:i=18:=by have:=of_decide_eq_false hc;omega
  subst hc
  have hcod:codOf bs=none:=codOf_none λj h1 h2 x hx=>hno j h1 h2 x hx
  have hcd:codeD bs=8192:=by unfold codeD;rw[hcod]
  refine ret8 (c:=zCm) (G:=λ_ _=>True) b14 rfl λw' t'=>?_
  have:=k w' zCm (Below.turn g14 t' (Nat.le_refl _)) (λh=>by rw[hcd]at h;cases h)
  rw[hcd]at this
  exact this
 have hc:i < 18:=by have:=of_decide_eq_true hc;omega
 obtain⟨x,hx,hxm,hxk⟩:=hk i hi1 hc
 have ef:fmK (i:Int)=x:=by unfold fmK;rw[hx];rfl
 refine of_c λw16 g16=>⟨_,_,_,_,_,_,_,_,rfl,nm λw25 e25=>?_⟩
 rw[ef]at *
 obtain⟨b25,g25,_⟩:=alE e25
 refine⟨b25.row rfl rfl,nm λw26 e26=>?_⟩
 obtain⟨bf',t26⟩:=rowE b25 e26 rfl
 have bf:BK w26 w16.heap.size (rF x) tF:=bf'
 have l14:=b14.lt
 have z16:=g16.size
 have g26:Grow w w26:=Below.turn (g14.then (g16.then g25)) t26 (by omega)
 have b26:BK w26 w.heap.size (rCm zCm nilV) tCm:=((b14.grow g16).grow g25).turn t26 (by omega)
 clear e25 e26
 refine JoinP.bool (λb ww=>b= !(isD (bs.getD 0 0) (bs.getD 1 0) x)/\Grow w26 ww) (λj hj=>?_) ?_
 ·refine nm λw143 e143=>?_
  have g143:=drE e143
  have rr:=r11.grow (g26.then g143)
  obtain⟨a144,q1,q2⟩:=by_at rr (i:=0) (by omega)
  obtain⟨a149,q3,q4⟩:=by_at rr (i:=1) (by omega)
  refine⟨a144,q1,_,q2,_,(bf.grow g143).cell 0,?_⟩
  rw[u8i,u8b]
  refine cond_intro (λh=>nm λw147 e147=>hj _ _ ⟨?_,drE e147⟩) (λh=>⟨_,(bf.grow g143).cell 6,cond_intro (λh2=>⟨a149,q3,_,q4,_,(bf.grow g143).cell 1,nm λw152 e152=>?_⟩) (λh2=>nm λw153 e153=>hj _ _ ⟨?_,drE e153⟩)⟩)
  ·have h:decide (x.op=bs.getD 0 0)=false:=by simpa using h
   unfold isD;rw[h];rfl
  ·have h:decide (x.op=bs.getD 0 0)=true:=by simpa using h
   rw[u8i,u8b]
   refine hj _ _ ⟨?_,drE e152⟩
   unfold isD;rw[h,show x.pa=true from h2];simp
  ·have h:decide (x.op=bs.getD 0 0)=true:=by simpa using h
   unfold isD;rw[h,show x.pa=false from h2];simp
 rintro b w28 ⟨rfl,g28⟩
 refine cond_intro (λh=>?_) (λh=>?_)
 ·
  have h:isD (bs.getD 0 0) (bs.getD 1 0) x=false:=by simpa using h
  rw[wi64_id (by omega) (by omega)]
  refine⟨⟨i+1,by omega,by omega,by omega,g26.then g28,b26.grow g28,λj h1 h2 y hy=>?_⟩,by omega⟩
  by_cases hj:j=i
  ·subst hj
   rw[hx]at hy
   rw[←Option.some.inj hy];exact h
  ·exact hno j h1 (by omega) y hy
 have hD:isD (bs.getD 0 0) (bs.getD 1 0) x=true:=by simpa using h
 have hcod:codOf bs=some x:=codOf_some hxm hD
 have hcd:codeD bs=if wrongD x bs then 9216 else 0:=by unfold codeD;rw[hcod]
 refine nm λw29 e29=>?_
 obtain⟨b29,g29,_⟩:=alE e29
 refine⟨b29.row rfl rfl,nm λw30 e30=>?_⟩
 obtain⟨bc',t30⟩:=rowE b29 e30 rfl
 obtain⟨fo0,hfo0⟩:∃fo0,fo0=(x.fo&&decide (bs.getD 1 0=8)):=⟨_,rfl⟩
 have z28:=g28.size
 have hlf:=bf.lt
 have D0:DS w w16.heap.size w28.heap.size x ⟨(i:Int),0,0,0,0,0,false,[]⟩ w30:=⟨Below.turn (g26.then (g28.then g29)) t30 (by have:=g26.size;omega),((b26.grow g28).grow g29).turn t30 (by omega),((bf.grow g28).grow g29).turn t30 (by omega),bc',by omega,by omega⟩
 clear e29 e30
 generalize w28.heap.size=hc' at *
 generalize hhf:w16.heap.size=hf' at *
 have bad:codeD bs=9216->∀{wz:World} {c:Cm},DS w hf' hc' x c wz->(StRow wz ⟨w.heap.size,0,none⟩ (rCm zCm nilV))/\bindW (stRow wz ⟨w.heap.size,0,none⟩ (rCm zCm nilV)) λw'=>
  ∃(n3:Int) (n4:Int) (n5:Int) (v6:Value) (n7:Int) (n8:Int) (n9:Int) (b10:Bool),(ldCells w' ⟨w.heap.size,0,none⟩ 8 #[(.int .i64 n3),(.int .i64 n4),(.int .i64 n5),v6,(.int .u64 n7),(.int .u64 n8),(.int .i64 n9),(.bool b10)])/\R (.tuple #[(.agg #[(.int .i64 n3),(.int .i64 n4),(.int .i64 n5),v6,(.int .u64 n7),(.int .u64 n8),(.int .i64 n9),(.bool b10)]),(.int .i64 (9216:Int))]) w':=by
  intro hcd wz c D
  refine ret8 (c:=zCm) (G:=λ_ _=>True) D.r rfl λw' t'=>?_
  have:=k w' zCm (Below.turn D.g t' (Nat.le_refl _)) (λh=>by rw[hcd]at h;cases h)
  rw[hcd]at this
  exact this
 have haf:=at_flag x hxm
 refine JoinP.unit (λww=>(x.at_=true->getV bs 2 8<=4611686018427387904)/\DS w hf' hc' x ⟨(i:Int),(atD x bs).toNat,0,0,0,0,false,[]⟩ ww) (λj hj=>?_) ?_
 ·refine JoinP.bool (λb ww=>b=x.at_/\w30=ww) (λj2 hj2=>⟨_,D0.f.cell 2,cond_intro (λe=>hj2 _ _ ⟨by rw[haf,show x.n=true from e];rfl,rfl⟩) (λe=>⟨_,D0.f.cell 3,hj2 _ _ ⟨by rw[haf,show x.n=false from e];rfl,rfl⟩⟩)⟩) ?_
  rintro b w124 ⟨rfl,rfl⟩
  refine cond_intro (λe=>?_) (λe=>?_)
  ·refine gemelref1_Get_c (r11.grow D0.g) (by decide) (by decide) ⟨_,_,rfl,cond_intro (λh=>?_) (λh=>?_)⟩
   ·have h:4611686018427387904 < getV bs 2 8:=by simpa using h
    have hw:wrongD x bs=true:=by unfold wrongD farD;rw[e,decide_eq_true h];simp
    exact bad (by rw[hcd,if_pos hw]) D0
   ·have h:¬4611686018427387904 < getV bs 2 8:=by simpa using h
    have p2:=(getV_range bs 2 8).1
    have ea:atD x bs=getV bs 2 8:=by unfold atD;rw[if_pos e]
    rw[wi64_id (n:=getV bs 2 8) (by omega) (by omega)]
    refine⟨D0.st (by omega),nm λw138 e138=>hj _ ⟨λ_=>by omega,D0.set (by omega) ?_ e138⟩⟩
    rw[ea]
    show _=rCm ⟨(i:Int),(getV bs 2 8).toNat,0,0,0,0,false,[]⟩ nilV
    dsimp only[rCm]
    rw[Int.toNat_of_nonneg p2]
    rfl
  ·have ea:atD x bs=0:=by unfold atD;rw[if_neg (by rw[e];simp)]
   rw[ea]at hj
   exact hj _ ⟨λh=>absurd (h.symm.trans e) (by simp),D0⟩
 rintro w31 ⟨hfar,D1⟩
 refine JoinP.unit (λww=>DS w hf' hc' x ⟨(i:Int),(atD x bs).toNat,if x.n then(getV bs 10 4).toNat else 0,0,0,0,false,[]⟩ ww) (λj hj=>⟨_,D1.f.cell 2,cond_intro (λe=>?_) (λe=>?_)⟩) ?_
 ·have e:x.n=true:=e
  rw[if_pos e]at hj
  have p10:=getV_range bs 10 4
  have p10':getV bs 10 4 < 4294967296:=p10.2
  refine gemelref1_Get_c (r11.grow D1.g) (by decide) (by decide) ⟨_,_,rfl,D1.st (by omega),nm λw121 e121=>hj _ ?_⟩
  rw[wi64_id (n:=getV bs 10 4) (by omega) (by omega)]at e121
  refine D1.set (by omega) ?_ e121
  dsimp only[rCm]
  rw[Int.toNat_of_nonneg p10.1]
  rfl
 ·have e:x.n=false:=e
  rw[if_neg (by rw[e];simp)]at hj
  exact hj _ D1
 intro w32 D2
 refine JoinP.unit (λww=>DS w hf' hc' x ⟨(i:Int),(atD x bs).toNat,(nD x bs).toNat,0,0,0,false,[]⟩ ww) (λj hj=>⟨_,D2.f.cell 3,cond_intro (λe=>?_) (λe=>?_)⟩) ?_
 ·have e:x.sh=true:=e
  have en:x.n=false:=by
   cases hn:x.n with
   |false=>rfl
   |true=>rw[nsh x hxm hn]at e;cases e
  obtain⟨a112,q1,q2⟩:=by_at (r11.grow D2.g) (i:=13) (by omega)
  refine⟨a112,q1,_,q2,D2.st (by omega),nm λw114 e114=>hj _ ?_⟩
  rw[u8i]at e114
  refine D2.set (by omega) ?_ e114
  have:nD x bs=((bs.getD 13 0).toNat:Int):=by unfold nD;rw[if_neg (by rw[en];simp),if_pos e]
  rw[this]
  dsimp only[rCm]
  rw[Int.toNat_natCast]
  rfl
 ·have e:x.sh=false:=e
  have:(nD x bs).toNat=if x.n then(getV bs 10 4).toNat else 0:=by
   unfold nD
   rw[if_neg (c:=x.sh=true) (by rw[e];simp)]
   split<;>rfl
  rw[this]at hj
  exact hj _ D2
 intro w33 D3
 refine JoinP.unit (λww=>DS w hf' hc' x ⟨(i:Int),(atD x bs).toNat,(nD x bs).toNat,0,0,0,fo0,[]⟩ ww) (λj hj=>⟨_,D3.f.cell 4,cond_intro (λe=>?_) (λe=>?_)⟩) ?_
 ·have e:x.fo=true:=e
  obtain⟨a106,q1,q2⟩:=by_at (r11.grow D3.g) (i:=1) (by omega)
  refine⟨a106,q1,_,q2,D3.st (by omega),nm λw108 e108=>hj _ ?_⟩
  refine D3.set (by omega) ?_ e108
  have e8:(((bs.getD 1 0).toNat:Int)==(8:Int))=decide (bs.getD 1 0=8):=by
   rw[Bool.eq_iff_iff]
   simp only[beq_iff_eq,decide_eq_true_eq]
   constructor
   ·intro h;exact UInt8.toNat.inj (by show _=8;omega)
   ·intro h;rw[h];rfl
  rw[e8,hfo0,e]
  rfl
 ·have e:x.fo=false:=e
  have:fo0=false:=by rw[hfo0,e];rfl
  rw[this]at hj
  refine⟨D3.st (by omega),nm λw109 e109=>hj _ (D3.set (by omega) rfl e109)⟩
 intro w34 D4
 obtain⟨ty0,hty0⟩:∃ty0:Int,ty0=(if x.ty then((bs.getD 2 0).toNat:Int)else 0):=⟨_,rfl⟩
 refine JoinP.unit (λww=>DS w hf' hc' x ⟨(i:Int),(atD x bs).toNat,(nD x bs).toNat,0,0,ty0,fo0,[]⟩ ww) (λj hj=>⟨_,D4.f.cell 5,cond_intro (λe=>?_) (λe=>?_)⟩) ?_
 ·have e:x.ty=true:=e
  rw[if_pos e]at hty0
  obtain⟨a101,q1,q2⟩:=by_at (r11.grow D4.g) (i:=2) (by omega)
  refine⟨a101,q1,_,q2,D4.st (by omega),nm λw103 e103=>hj _ ?_⟩
  rw[u8i]at e103
  refine D4.set (by omega) ?_ e103
  rw[hty0];rfl
 ·have e:x.ty=false:=e
  rw[if_neg (by rw[e];simp)]at hty0
  rw[hty0]at hj
  exact hj _ D4
 intro w35 D5
 refine⟨_,_,_,_,_,_,_,_,D5.c.ld rfl,nm λw44 e44=>?_⟩
 obtain⟨b44,g44,_⟩:=alE e44
 have D44:=D5.grow g44
 refine⟨b44.row rfl rfl,nm λw45 e45=>?_⟩
 obtain⟨b45,t45⟩:=rowE b44 e45 rfl
 have l5:=D5.c.lt
 have l1:=D5.lf
 have l2:=D5.lc
 have z5:=D5.g.size
 have up:∀{wa wb:World},DS w hf' hc' x ⟨(i:Int),(atD x bs).toNat,(nD x bs).toNat,0,0,ty0,fo0,[]⟩ wa->Turn w35.heap.size wa wb->DS w hf' hc' x ⟨(i:Int),(atD x bs).toNat,(nD x bs).toNat,0,0,ty0,fo0,[]⟩ wb:=λD t=>⟨Below.turn D.g t (by omega),D.r.turn t (by omega),D.f.turn t (by omega),D.c.turn t (by omega),D.lf,D.lc⟩
 have D45:=up D44 t45
 refine⟨st1_at b45 (by show 6 < 8;omega),nm λw46 e46=>?_⟩
 obtain⟨b46',t46⟩:=setE b45 e46
 have D46:=up D45 t46
 have b46:BK w46 w35.heap.size (rCm ⟨(i:Int),(atD x bs).toNat,(nD x bs).toNat,0,0,0,fo0,[]⟩ nilV) tCm:=b46'
 have pa:=Ses.atD_nn x bs
 have pn:=Ses.nD_nn x bs
 have ha:(atD x bs).toNat<=4611686018427387904:=by
  cases e:x.at_ with
  |true=>
   have:=hfar e
   have ea:atD x bs=getV bs 2 8:=by unfold atD;rw[if_pos e]
   rw[ea];omega
  |false=>
   have ea:atD x bs=0:=by unfold atD;rw[if_neg (by rw[e];simp)]
   rw[ea];decide
 have hn1:x.n=true->(nD x bs).toNat<=4294967295:=λe=>by
  have p10:getV bs 10 4 < 4294967296:=(getV_range bs 10 4).2
  have:nD x bs=getV bs 10 4:=by unfold nD;rw[if_pos e]
  rw[this];omega
 have hn2:x.sh=true->(nD x bs).toNat<=255:=λe=>by
  have en:x.n=false:=by
   cases hn:x.n with
   |false=>rfl
   |true=>rw[nsh x hxm hn]at e;cases e
  have:nD x bs=((bs.getD 13 0).toNat:Int):=by unfold nD;rw[if_neg (by rw[en];simp),if_pos e]
  have h8:=(bs.getD 13 0).toNat_lt
  rw[this];omega
 refine⟨_,_,_,_,_,_,_,_,b46.ld rfl,enc_c (x:=x) (c:=⟨(i:Int),(atD x bs).toNat,(nD x bs).toNat,0,0,0,fo0,[]⟩) (d:=nilV) hx hn1 hn2 (λ_=>by simp) ha λv57 w56 g56 o57=>⟨_,_,rfl,?_⟩⟩
 have D56:=D46.grow g56
 have z46:=D46.g.size
 refine JoinP.unit (λww=>DS w hf' hc' x ⟨(i:Int),(atD x bs).toNat,(nD x bs).toNat,0,0,ty0,fo0,[]⟩ ww/\RdB ww v57 (finD x bs)) (λj hj=>?_) ?_
 ·refine JoinP.bool (λb ww=>b=x.ty/\w56=ww) (λj2 hj2=>cond_t rfl ⟨_,D56.f.cell 5,hj2 _ _ ⟨rfl,rfl⟩⟩) ?_
  rintro b w93 ⟨rfl,rfl⟩
  refine cond_intro (λe=>?_) (λe=>?_)
  ·rw[if_pos e]at hty0
   have E56:EB w46 w46.heap.size [] v57 w56 (encD x fo0 (atD x bs).toNat (nD x bs).toNat 0):=⟨g56,o57,(λq hq=>by cases hq),Nat.le_refl _⟩
   have hel:2 < (encD x fo0 (atD x bs).toNat (nD x bs).toNat 0).length:=by
    obtain⟨n1,n2,_⟩:=nty x hxm e
    unfold encD
    rw[n1,n2,e]
    simp
    split<;>simp
   obtain⟨a95,q1,q2,qo,q3⟩:=E56.put (i:=2) (i':=2) rfl hel
   refine⟨_,D56.c.cell 6,a95,q1,q2,nm λw96 e96=>?_⟩
   rw[hty0,b8_wrap,byt_id]at e96
   obtain⟨E96,t96⟩:=q3 _ w96 e96
   have lb:=o57.blk _ qo
   have lc46:=D46.c.lt
   have D96:DS w hf' hc' x ⟨(i:Int),(atD x bs).toNat,(nD x bs).toNat,0,0,ty0,fo0,[]⟩ w96:=⟨D46.g.then E96.g,D56.r.turn t96 (by omega),D56.f.turn t96 (by omega),D56.c.turn t96 (by omega),D56.lf,D56.lc⟩
   refine hj _ ⟨D96,?_⟩
   have:finD x bs=(encD x fo0 (atD x bs).toNat (nD x bs).toNat 0).set 2 (bs.getD 2 0):=by unfold finD;rw[if_pos e,hfo0]
   rw[this];exact E96.o.rd
  ·refine hj _ ⟨D56,?_⟩
   have:finD x bs=encD x fo0 (atD x bs).toNat (nD x bs).toNat 0:=by unfold finD;rw[if_neg (by rw[e];simp),hfo0]
   rw[this];exact o57.rd
 rintro w59 ⟨D59,r59⟩
 refine JoinP.bool (λb ww=>b=!decide (finD x bs=bs)/\w59=ww) (λj2 hj2=>cond_f rfl ⟨_,to_text r59,_,to_text (r11.grow D59.g),hj2 _ _ ⟨by rw[text_beq],rfl⟩⟩) ?_
 rintro b w61 ⟨rfl,rfl⟩
 have hff:farD x bs=false:=by
  unfold farD
  cases e:x.at_ with
  |true=>have:=hfar e;simp;omega
  |false=>rfl
 have hiff:=fin_iff hxm hl hD
 refine cond_intro (λh=>?_) (λh=>?_)
 ·have h:¬finD x bs=bs:=by simpa using h
  have hw:wrongD x bs=true:=by
   unfold wrongD
   cases hb:anyBad x bs 16 with
   |true=>rfl
   |false=>exact absurd (hiff.2 hb) h
  exact bad (by rw[hcd,if_pos hw]) D59
 ·have h:finD x bs=bs:=by simpa using h
  have hb:=hiff.1 h
  have hw:wrongD x bs=false:=by unfold wrongD;rw[hb,hff];rfl
  have hc0:codeD bs=0:=by rw[hcd,hw];rfl
  refine⟨_,_,_,_,_,_,_,_,D59.c.ld rfl,ret8 (c:=⟨(i:Int),(atD x bs).toNat,(nD x bs).toNat,0,0,ty0,fo0,[]⟩) (G:=λ_ _=>True) D59.r rfl λw' t'=>?_⟩
  have:=k w' ⟨(i:Int),(atD x bs).toNat,(nD x bs).toNat,0,0,ty0,fo0,[]⟩ (Below.turn D59.g t' (Nat.le_refl _)) (λ_=>?_)
  ·rw[hc0]at this
   exact this
  ·unfold cmD
   rw[hcod]
   simp only[if_pos hc0]
   have e1:tD x bs=ty0:=by
    unfold tD
    rw[hty0]
    cases e:x.ty with
    |true=>
     obtain⟨n1,n2,_⟩:=nty x hxm e
     rw[n1,n2];rfl
    |false=>simp
   have e2:foD x bs 16=fo0:=by
    unfold foD
    rw[hfo0]
    cases e:x.fo with
    |true=>
     have:=fop x hxm e
     have hn:named x 1=false:=by unfold named;rw[this];simp
     rw[hn];rfl
    |false=>simp
   rw[e1,e2,hxk]
theorem wireP_d:WireD wireP where
 sen:=λhd k=>sEnc_c hd k
 two:=λ{w v bs R} hr k=>two_c hr λk1 o1 b1 c1 c2=>k w k1 o1 b1 (Grow.refl w) (λq hq=>by
    have hq:(if Lst.okD bs=true then some (Lst.dK bs,Lst.dO bs)else none)=some q:=hq
    by_cases ho:Lst.okD bs=true
    ·rw[if_pos ho]at hq
     obtain⟨a,b,c⟩:=c1 ho
     cases hq
     exact⟨a,b,c⟩
    ·rw[if_neg ho]at hq;cases hq) (λhn=>by
    have hn:(if Lst.okD bs=true then some (Lst.dK bs,Lst.dO bs)else none)=none:=hn
    by_cases ho:Lst.okD bs=true
    ·rw[if_pos ho]at hn;cases hn
    ·exact c2 (by simpa using ho))
 cmd:=λhr hl k=>dec_c hr hl λw' c' g h=>k w' c' g h
 cmd0:=Ses.wireP_ok.cmd0
 out:=λ{w c d R} hd k=>out_c hd λw' g=>by
  have:=k w' g
  have e:((wireP.out c:Nat):Int)=outI c.kind (c.n:Int):=Int.toNat_of_nonneg (outI_le _ _).1
  rw[e]at this
  exact this
 outl:=Ses.wireP_ok.outl
 of:=λ{w k R} q=>of_c λw' g=>q w' _ _ _ _ _ _ _ _ g (fmK_pr k)
end Go.Proofs.YtdinpgnjnleioaaGreatDoor.Rs
end
