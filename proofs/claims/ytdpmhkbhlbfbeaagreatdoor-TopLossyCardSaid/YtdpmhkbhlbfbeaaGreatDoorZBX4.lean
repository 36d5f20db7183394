/- A part of the proof. -/
import Derived.Test.YtdpmhkbhlbfbeaaGreatDoorZBX3
import Derived.Maps.Range
import Derived.Maps.RangeWalk
import Derived.Maps.OwnSet
import Derived.Maps.Views
set_option linter.unusedSimpArgs false
set_option linter.unusedVariables false
set_option maxRecDepth 100000
section
namespace Go.CW
open Go.RowKit
def RdX (S :Fp) (w:World) (v:Value) (xs:List Value):Prop:=Rd w v xs/\(xs≠[]->∀q,v.ownBlock=some q->¬ S q)
theorem Rd.lt {w:World} {v:Value} {xs:List Value} (h:Rd w v xs) (hne:xs≠[]):∀q,v.ownBlock=some q->q < w.heap.size:=by
 obtain⟨a,cap,rfl,h1,h2,h3,h4⟩:=h
 intro q hq
 cases xs with
 |nil=>exact absurd rfl hne
 |cons x xs=>
  obtain⟨y,rfl,hy⟩:=h4 0 x rfl
  have hlt:=World.block_lt_of_cell? w _ hy
  rw[add_block]at hlt
  have:y.block=q:=by simpa[Value.ownBlock]using hq
  omega
theorem Rd.stepS {S S':Fp} {w w':World} {v:Value} {xs:List Value} (h:Rd w v xs) (st:Step S w w' S') (hs:xs≠[]->∀q,v.ownBlock=some q->¬ S q):Rd w' v xs:=by
 by_cases hne:xs=[]
 ·subst hne
  obtain⟨a,cap,rfl,h1,h2,h3,h4⟩:=h
  exact⟨a,cap,rfl,h1,h2,h3,λj u hj=>by simp at hj⟩
 ·exact h.kept λa u ha hv=>(cell_of_heap (st.block a.block (World.block_lt_of_cell? w a ha) (hs hne _ hv))).trans ha
theorem RdX.step {S S':Fp} {w w':World} {v:Value} {xs:List Value} (h:RdX S w v xs) (st:Step S w w' S'):RdX S' w' v xs:=
 ⟨h.1.stepS st h.2,λhne q hq hs=>by
  rcases st.fp q hs with k|k
  ·exact h.2 hne q hq k
  ·have:=h.1.lt hne q hq;omega⟩
theorem RdX.grow {S :Fp} {w w':World} {v:Value} {xs:List Value} (h:RdX S w v xs) (g:Grow w w'):RdX S w' v xs:=⟨h.1.grow g,h.2⟩
theorem RdX.imp {S T:Fp} {w:World} {v:Value} {xs:List Value} (h:RdX S w v xs) (k:∀q,T q-> S q):RdX T w v xs:=⟨h.1,λhne q hq ht=>h.2 hne q hq (k q ht)⟩
theorem RdX.new {S :Fp} {w w':World} {v:Value} {xs:List Value} (h:Rd w' v xs) (n:NewV w v) (hs:∀q, S q->q < w.heap.size):RdX S w' v xs:=⟨h,λ_ q hq k=>by have:=hs q k;have:=n q hq;omega⟩
theorem RdX.nil (S :Fp) (w:World):RdX S w (.slice none 0 0) []:=⟨Rd.nil w,λh=>absurd rfl h⟩
theorem RdX.part {S :Fp} {w:World} {v v':Value} {xs ys:List Value} (h:RdX S w v xs) (hr:Rd w v' ys) (hb:v'.ownBlock=v.ownBlock) (hn:ys≠[]->xs≠[]):RdX S w v' ys:=⟨hr,λhy q hq=>h.2 (hn hy) q (hb▸hq)⟩
def RowsX (S :Fp) (w:World) (v:Value) (l:List (List UInt8)):Prop:=
 ∃vs:List Value,RdX S w v vs/\vs.length=l.length/\∀(i:Nat) (h:i < vs.length) (h':i < l.length),RdX S w vs[i] (l[i].map b8)
theorem RowsX.step {S S':Fp} {w w':World} {v:Value} {l:List (List UInt8)} (h:RowsX S w v l) (st:Step S w w' S'):RowsX S' w' v l:=by
 obtain⟨vs,h1,h2,h3⟩:=h
 exact⟨vs,h1.step st,h2,λi hi hi'=>(h3 i hi hi').step st⟩
theorem RowsX.grow {S :Fp} {w w':World} {v:Value} {l:List (List UInt8)} (h:RowsX S w v l) (g:Grow w w'):RowsX S w' v l:=by
 obtain⟨vs,h1,h2,h3⟩:=h
 exact⟨vs,h1.grow g,h2,λi hi hi'=>(h3 i hi hi').grow g⟩
theorem RowsX.imp {S T:Fp} {w:World} {v:Value} {l:List (List UInt8)} (h:RowsX S w v l) (k:∀q,T q-> S q):RowsX T w v l:=by
 obtain⟨vs,h1,h2,h3⟩:=h
 exact⟨vs,h1.imp k,h2,λi hi hi'=>(h3 i hi hi').imp k⟩
theorem RowsX.len {S :Fp} {w:World} {v:Value} {l:List (List UInt8)} (h:RowsX S w v l):sliceLen v=some l.length:=by
 obtain⟨vs,h1,h2,_⟩:=h
 rw[←h2];exact h1.1.len
theorem RowsX.at {S :Fp} {w:World} {v:Value} {l:List (List UInt8)} (h:RowsX S w v l) {i:Int} (h0:0<=i) (h1:i < l.length):∃a u,sliceAt v i 1=some a/\w.cell? a=some u/\RdX S w u ((l[i.toNat]'(by omega)).map b8):=by
 obtain⟨vs,k1,k2,k3⟩:=h
 obtain⟨a,ha,hc⟩:=k1.1.at (i:=i) (u:=vs[i.toNat]'(by omega)) h0 (List.getElem?_eq_getElem (by omega))
 exact⟨a,_,ha,hc,k3 i.toNat (by omega) (by omega)⟩
def InW (w:World) (S :Fp):Prop:=∀k, S k->k < w.heap.size
def Apart (S T:Fp):Prop:=∀k, S k->¬T k
theorem BK.stepS {S S':Fp} {w w':World} {b:Nat} {cs:Array Value} {e:TypeId} (h:BK w b cs e) (st:Step S w w' S') (hs:¬ S b):BK w' b cs e:=(st.block b h.lt hs).trans h
theorem Own.stepS {S S':Fp} {w w':World} {B:Nat} {e:TypeId} {v:Value} {xs:List Value} (h:Own w B e v xs) (st:Step S w w' S') (hs:∀q,v.ownBlock=some q->¬ S q):Own w' B e v xs:=by
 refine⟨h.1,?_⟩
 rcases h.2 with hn|⟨b,cap,cur,rfl,hb,hg,r⟩
 ·exact .inl hn
 ·exact .inr ⟨b,cap,cur,rfl,hb,(st.block b (Array.getElem?_eq_some_iff.1 hg).1 (hs b rfl)).trans hg,r⟩
theorem Own.ltS {w:World} {B:Nat} {e:TypeId} {v:Value} {xs:List Value} (h:Own w B e v xs):∀q,v.ownBlock=some q->q < w.heap.size:=λq hq=>(World.ownsRow.lt h q hq).2
theorem own_ne {w:World} {B g:Nat} {e e':TypeId} {v:Value} {xs:List Value} {cs:Array Value} (h:Own w B e v xs) (b:BK w g cs e') (hne:e≠e'):v.ownBlock≠some g:=by
 rcases h.2 with ⟨rfl,_⟩|⟨g',cap,cur,rfl,_,hg,_⟩
 ·intro e;cases e
 ·intro e
  have:g'=g:=by simpa[Value.ownBlock]using e
  subst this
  unfold BK at b
  rw[hg]at b
  injection b with b
  injection b with _ b
  exact hne b
theorem app_none {P:Program} {t e:TypeId} {b:Nat} (T:SlTy P t e b) {w:World} {v u:Value} {xs:List Value} (h:Rd w v xs) (hu:Rd w u []):Sem.run P (Builtin.append_ #[t,t] t #[v,u]) w= .ok v w:=by
 obtain⟨i,z,hi,hz,hs,hby,hzs⟩:=T.info
 obtain⟨a,cap,rfl,k1,k2,k3,k4⟩:=h
 obtain⟨a',cap',rfl,l1,l2,l3,l4⟩:=hu
 cases a'<;>cases a<;>simp [Builtin.append_,run_und T.und,sizeOf,typeInfo,hi,Builtin.lenOf,Builtin.firstCells,k1,storeCells,loadCells,loadCellsFrom]
end Go.CW
end
section
namespace Go.CW
open Go.RowKit
theorem JoinP.go {rs:List Rep} {rest:FunR rs} {body:FunR rs->Prop} (h:body rest):JoinP rs rest body:=h
theorem Turn.step {S :Fp} {b:Nat} {w w':World} (t:Turn b w w') (h: S b):Step S w w' S :=
 ⟨t.os,t.tape,t.output,Nat.le_of_eq t.size.symm,λk _ hs=>t.block k (λe=>hs (e▸h)),λ_ h=>.inl h⟩
def Md (S :Fp) (B:Nat) (w w':World):Prop:=Step (λk=> S k\/B<=k) w w' (λk=> S k\/B<=k)
variable {S :Fp} {B:Nat} {w w1 w2:World}
theorem Md.refl (S :Fp) (B:Nat) (w:World):Md S B w w:=Step.refl _ _
theorem Md.grow (a:Md S B w w1) (g:Grow w1 w2):Md S B w w2:=Step.then a (Step.of_grow g)
theorem Md.turn {b:Nat} (a:Md S B w w1) (t:Turn b w1 w2) (h: S b\/B<=b):Md S B w w2:=Step.then a (t.step h)
theorem Md.stp {T T':Fp} (a:Md S B w w1) (st:Step T w1 w2 T') (h:∀k,T k-> S k\/B<=k) (h':∀k,T' k->(S k\/B<=k)\/w1.heap.size<=k:=by intro k hk;exact .inl (by assumption)):Md S B w w2:=
 ⟨st.os.trans a.os,st.tape.trans a.tape,st.output.trans a.output,Nat.le_trans a.size st.size,λk hk hs=>(st.block k (Nat.lt_of_lt_of_le hk a.size) (λht=>hs (h k ht))).trans (a.block k hk hs),λk hk=>.inl hk⟩
theorem Md.size (a:Md S B w w1):w.heap.size<=w1.heap.size:=Step.size a
theorem Md.out (a:Md S w.heap.size w w1):Step S w w1 S :=
 ⟨a.os,a.tape,a.output,Step.size a,λk hk hs=>a.block k hk (λh=>h.elim hs (λh=>by omega)),λ_ h=>.inl h⟩
end Go.CW
end
section
namespace Go.CW
open Go.RowKit
def heldR:Value->Option (DataW Value×List MemPlace):=λv=>some (.held v,[])
def elD (o:Option Value) (zd:DataW Value):DataW Value:=match o with|some v=>.held v|none=>zd
theorem elD_held {o:Option Value} {z v:Value} (h:elD o (.held z)= .held v):v=o.getD z:=by
 cases o with
 |none=>simp only[elD,DataW.held.injEq]at h;exact h.symm
 |some u=>simp only[elD,DataW.held.injEq]at h;exact h.symm
end Go.CW
end
