/- A part of the proof. -/
import Derived.Test.YtdpmhkbhlbfbeaaGreatDoorZBX2
import Derived.Test.YtdpmhkbhlbfbeaaGreatDoorZFacts
set_option linter.unusedVariables false
namespace Go.CW
open Go.RowKit
def bindW (w:World) (K:World->Prop):Prop:=K w
theorem nm {w:World} {K:World->Prop} (h:∀w',w'=w->K w'):bindW w K:=h w rfl
structure Turn (b:Nat) (w w':World):Prop where
 os:w'.os=w.os
 tape:w'.tape=w.tape
 output:w'.output=w.output
 size:w'.heap.size=w.heap.size
 block:∀k,k≠b->w'.heap[k]? =w.heap[k]?
theorem Turn.set (w:World) (a:Addr) (v:Value):Turn a.block w (w.setCell a v):=
 ⟨rfl,rfl,rfl,by simp [World.setCell],λk hk=>Below.heap_setCell w a v k hk⟩
theorem Turn.row (w:World) (a:Addr) (cs:Array Value):Turn a.block w (stRow w a cs):=by
 obtain⟨h1,h2,h3,h4⟩:=setCells_fields a.block cs.toList a.off w
 exact⟨h1,h2,h3,h4,λk hk=>heap_setCells_ne a.block k hk _ _ _⟩
theorem Turn.then {b:Nat} {w w1 w2:World} (h:Turn b w w1) (k:Turn b w1 w2):Turn b w w2:=
 ⟨k.os.trans h.os,k.tape.trans h.tape,k.output.trans h.output,k.size.trans h.size,λj hj=>(k.block j hj).trans (h.block j hj)⟩
theorem BK.turn {b k:Nat} {w w':World} {cs:Array Value} {e:TypeId} (h:BK w k cs e) (t:Turn b w w') (hk:k≠b):BK w' k cs e:=(t.block k hk).trans h
theorem Below.turn {B b:Nat} {w0 w w':World} (g:Below B w0 w) (t:Turn b w w') (hb:B<=b):Below B w0 w':=
 ⟨t.os.trans g.os,t.tape.trans g.tape,t.output.trans g.output,by rw[t.size];exact g.size,λk hk=>(t.block k (by omega)).trans (g.block k hk)⟩
theorem Rd.turn {b:Nat} {w w':World} {v:Value} {xs:List Value} (h:Rd w v xs) (t:Turn b w w') (hne:v.ownBlock≠some b):Rd w' v xs:=
 h.kept λa u ha hv=>(cell_of_heap (t.block a.block λe=>hne (by rw[hv,e]))).trans ha
theorem Own.turn {b:Nat} {w w':World} {B:Nat} {e:TypeId} {v:Value} {xs:List Value} (h:Own w B e v xs) (t:Turn b w w') (hne:v.ownBlock≠some b):Own w' B e v xs:=by
 refine⟨h.1,?_⟩
 rcases h.2 with hn|⟨g,cap,cur,rfl,hb,hg,r⟩
 ·exact .inl hn
 ·exact .inr ⟨g,cap,cur,rfl,hb,(t.block g (λe=>hne (by rw[←e];rfl))).trans hg,r⟩
theorem alE {w w':World} {cs:Array Value} {t:TypeId} (e:w'=World.alloc w (.cells cs t)):BK w' w.heap.size cs t/\Grow w w'/\w'.heap.size=w.heap.size+1:=by
 subst e;exact⟨BK.new w cs t,Grow.al (Grow.refl w) _,al_size _ _⟩
theorem drE {w w':World} (e:w'=World.drew w):Grow w w':=by subst e;exact Grow.dr (Grow.refl w)
theorem rowE {w w':World} {b:Nat} {cs ds:Array Value} {t:TypeId} (h:BK w b cs t) (e:w'=stRow w ⟨b,0,none⟩ ds) (hn:ds.size=cs.size):BK w' b ds t/\Turn b w w':=by
 subst e;exact⟨h.strow hn,Turn.row w ⟨b,0,none⟩ ds⟩
theorem setE {w w':World} {b j:Nat} {v:Value} {cs:Array Value} {t:TypeId} (h:BK w b cs t) (e:w'=World.setCell w (Addr.add ⟨b,0,none⟩ j) v):BK w' b (cs.setIfInBounds j v) t/\Turn b w w':=by
 subst e;rw[ad0];exact⟨h.set j v,Turn.set w ⟨b,j,none⟩ v⟩
theorem st1_at {w:World} {b:Nat} {cs:Array Value} {e:TypeId} (h:BK w b cs e) {j:Nat} (hj:j < cs.size):St1 w (Addr.add ⟨b,0,none⟩ j):=by rw[ad0];exact h.st1 hj
theorem oneK_of {v:Value} {A:Prop} (h:isOne v=true) (a:A):oneK v A:=by
 unfold oneK;split<;>first|exact a|exact⟨h,a⟩
theorem Rd.isOne {w:World} {v:Value} {xs:List Value} (h:Rd w v xs):isOne v=true:=by obtain⟨a,cap,rfl,_⟩:=h;rfl
@[reducible] def nw (w:World):Addr:=⟨w.heap.size,0,none⟩
@[reducible] def ad (w:World) (k:Nat):Addr:=Addr.add ⟨w.heap.size,0,none⟩ k
@[reducible] def Zs (f:FuncId) (a:Array Value) (w:World) (R:KV):Prop:=Go.CW.Spec Go.Proofs.Tryz.prog f a w R
@[reducible] def wA (p:Option Addr) (K:Addr->Prop):Prop:=withAddr (.pointer p) K
@[reducible] def cV (w:World) (a:Addr) (v:Value):Prop:=World.cell? w a=some v
@[reducible] def cI (k:IntKind) (w:World) (a:Addr) (n:Int):Prop:=World.cell? w a=some (.int k n)
@[reducible] def cB (w:World) (a:Addr) (n:Bool):Prop:=World.cell? w a=some (.bool n)
@[reducible] def cT (w:World) (a:Addr) (n:ByteArray):Prop:=World.cell? w a=some (.string n)
@[reducible] def cP (w:World) (a:Addr) (n:Option Addr):Prop:=World.cell? w a=some (.pointer n)
@[reducible] def xA (v:Value) (i:Int) (n:Nat) (a:Addr):Prop:=sliceAt v i n=some a
@[reducible] def xL (v:Value) (m:Nat):Prop:=sliceLen v=some m
@[reducible] def aP (a b c:TypeId) (x y:Value) (w:World) (v:Value) (w':World):Prop:=Sem.run Go.Proofs.Tryz.prog (Builtin.append_ #[a,b] c #[x,y]) w= .ok v w'
@[reducible] def al (w:World) (cs:Array Value) (t:TypeId) (K:World->Prop):Prop:=bindW (World.alloc w (.cells cs t)) K
@[reducible] def sR (w:World) (a:Addr) (r:Array Value) (K:World->Prop):Prop:=StRow w a r/\bindW (stRow w a r) K
@[reducible] def sC (w:World) (a:Addr) (v:Value) (K:World->Prop):Prop:=St1 w a/\bindW (World.setCell w a v) K
@[reducible] def V6 (n:Int):Value:=.int .i64 n
@[reducible] def V3 (n:Int):Value:=.int .u32 n
@[reducible] def V8 (n:Int):Value:=.int .u8 n
@[reducible] def V7 (n:Int):Value:=.int .u64 n
@[reducible] def dW (w:World) (K:World->Prop):Prop:=bindW (World.drew w) K
@[reducible] def zA (g:Nat):Value:=.pointer (some ⟨g,0,none⟩)
end Go.CW
