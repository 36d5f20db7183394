/- Worlds by name: for the formulas that are printed with names. For every program. -/
import Derived.Test.YtdinpgnjnleioaaGreatDoorKFul
import Derived.Test.YtdinpgnjnleioaaGreatDoorKFacts
set_option linter.unusedVariables false
namespace Go.CW
open Go.RowKit
def bindW (w : World) (K : World → Prop) : Prop := K w
theorem nm {w : World} {K : World → Prop} (h : ∀ w', w' = w → K w') : bindW w K := h w rfl
structure Turn (b : Nat) (w w' : World) : Prop where
 os : w'.os = w.os
 tape : w'.tape = w.tape
 output : w'.output = w.output
 size : w'.heap.size = w.heap.size
 block : ∀ k, k ≠ b → w'.heap[k]? = w.heap[k]?
theorem Turn.set (w : World) (a : Addr) (v : Value) : Turn a.block w (w.setCell a v) :=
 ⟨rfl, rfl, rfl, by simp [World.setCell], fun k hk => Below.heap_setCell w a v k hk⟩
theorem Turn.row (w : World) (a : Addr) (cs : Array Value) : Turn a.block w (stRow w a cs) := by
 obtain ⟨h1, h2, h3, h4⟩ := setCells_fields a.block cs.toList a.off w
 exact ⟨h1, h2, h3, h4, fun k hk => heap_setCells_ne a.block k hk _ _ _⟩
theorem Turn.then {b : Nat} {w w1 w2 : World} (h : Turn b w w1) (k : Turn b w1 w2) : Turn b w w2 :=
 ⟨k.os.trans h.os, k.tape.trans h.tape, k.output.trans h.output, k.size.trans h.size, fun j hj => (k.block j hj).trans (h.block j hj)⟩
theorem BK.turn {b k : Nat} {w w' : World} {cs : Array Value} {e : TypeId} (h : BK w k cs e) (t : Turn b w w') (hk : k ≠ b) : BK w' k cs e := (t.block k hk).trans h
theorem Below.turn {B b : Nat} {w0 w w' : World} (g : Below B w0 w) (t : Turn b w w') (hb : B ≤ b) : Below B w0 w' :=
 ⟨t.os.trans g.os, t.tape.trans g.tape, t.output.trans g.output, by rw [t.size]; exact g.size, fun k hk => (t.block k (by omega)).trans (g.block k hk)⟩
theorem Rd.turn {b : Nat} {w w' : World} {v : Value} {xs : List Value} (h : Rd w v xs) (t : Turn b w w') (hne : v.ownBlock ≠ some b) : Rd w' v xs :=
 h.kept fun a u ha hv => (cell_of_heap (t.block a.block fun e => hne (by rw [hv, e]))).trans ha
theorem Own.turn {b : Nat} {w w' : World} {B : Nat} {e : TypeId} {v : Value} {xs : List Value} (h : Own w B e v xs) (t : Turn b w w') (hne : v.ownBlock ≠ some b) : Own w' B e v xs := by
 refine ⟨h.1, ?_⟩
 rcases h.2 with hn | ⟨g, cap, cur, rfl, hb, hg, r⟩
 · exact .inl hn
 · exact .inr ⟨g, cap, cur, rfl, hb, (t.block g (fun e => hne (by rw [← e]; rfl))).trans hg, r⟩
theorem alE {w w' : World} {cs : Array Value} {t : TypeId} (e : w' = World.alloc w (.cells cs t)) : BK w' w.heap.size cs t ∧ Grow w w' ∧ w'.heap.size = w.heap.size + 1 := by
 subst e; exact ⟨BK.new w cs t, Grow.al (Grow.refl w) _, al_size _ _⟩
theorem drE {w w' : World} (e : w' = World.drew w) : Grow w w' := by subst e; exact Grow.dr (Grow.refl w)
theorem rowE {w w' : World} {b : Nat} {cs ds : Array Value} {t : TypeId} (h : BK w b cs t) (e : w' = stRow w ⟨b, 0, none⟩ ds) (hn : ds.size = cs.size) : BK w' b ds t ∧ Turn b w w' := by
 subst e; exact ⟨h.strow hn, Turn.row w ⟨b, 0, none⟩ ds⟩
theorem setE {w w' : World} {b j : Nat} {v : Value} {cs : Array Value} {t : TypeId} (h : BK w b cs t) (e : w' = World.setCell w (Addr.add ⟨b, 0, none⟩ j) v) : BK w' b (cs.setIfInBounds j v) t ∧ Turn b w w' := by
 subst e; rw [ad0]; exact ⟨h.set j v, Turn.set w ⟨b, j, none⟩ v⟩
theorem st1_at {w : World} {b : Nat} {cs : Array Value} {e : TypeId} (h : BK w b cs e) {j : Nat} (hj : j < cs.size) : St1 w (Addr.add ⟨b, 0, none⟩ j) := by rw [ad0]; exact h.st1 hj
theorem oneK_of {v : Value} {A : Prop} (h : isOne v = true) (a : A) : oneK v A := by
 unfold oneK; split <;> first | exact a | exact ⟨h, a⟩
theorem Rd.isOne {w : World} {v : Value} {xs : List Value} (h : Rd w v xs) : isOne v = true := by obtain ⟨a, cap, rfl, _⟩ := h; rfl
end Go.CW
