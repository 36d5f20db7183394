/- Maps keyed by integers: a function on the keys; look, put, length, a range under way. For every program. -/
import Derived.Test.YtdinpgnjnleioaaGreatDoorKNam
import Derived.Maps.Range
import Derived.Maps.RangeWalk
import Derived.Maps.OwnSet
import Derived.Maps.Views
set_option linter.unusedSimpArgs false
set_option linter.unusedVariables false
namespace Go.CW
open Go.RowKit
def heldR : Value → Option (DataW Value × List MemPlace) := fun v => some (.held v, [])
def elD (o : Option Value) (zd : DataW Value) : DataW Value := match o with | some v => .held v | none => zd
def Mp (P : Program) (k : TypeId) (q : IntKind) (w : World) (b n : Nat) (f : Int → Option Value) : Prop :=
 ∃ D : DataW Value, w.ownsMap P k heldR b n D ∧ ∀ x zd, D.atKey (.int q x) zd = elD (f x) zd
variable {P : Program} {k t e : TypeId} {q : IntKind} {w : World} {b n r : Nat} {f : Int → Option Value} {left : Int → Bool} {cnt : Nat}
theorem elD_held {o : Option Value} {z v : Value} (h : elD o (.held z) = .held v) : v = o.getD z := by
 cases o with
 | none => simp only [elD, DataW.held.injEq] at h; exact h.symm
 | some u => simp only [elD, DataW.held.injEq] at h; exact h.symm
theorem Mp.lt (h : Mp P k q w b n f) : b < w.heap.size := let ⟨_, h1, _⟩ := h; h1.lt
theorem Mp.at {w' : World} (h : Mp P k q w b n f) (e : w'.heap[b]? = w.heap[b]?) : Mp P k q w' b n f := by
 obtain ⟨D, ⟨es, clock, hb, F, hs, hD⟩, h2⟩ := h
 exact ⟨D, ⟨es, clock, e.trans hb, F, hs, hD⟩, h2⟩
theorem Mp.grow {w' : World} (h : Mp P k q w b n f) (g : Grow w w') : Mp P k q w' b n f := h.at (g.block b h.lt)
theorem Mp.map (h : Mp P k q w b n f) : ∃ es clock, w.heap[b]? = some (.map es clock) := by
 obtain ⟨D, ⟨es, clock, hb, _⟩, _⟩ := h; exact ⟨es, clock, hb⟩
theorem Mp.has {D : DataW Value} (h2 : ∀ x zd, D.atKey (.int q x) zd = elD (f x) zd) (x : Int) : Maps.has D (.int q x) = (f x).isSome := by
 cases hf : f x with
 | none => exact Maps.has_false_of_atKey fun z => by rw [h2, hf]; rfl
 | some v => exact Maps.has_true_of_atKey (y := .held v) fun z => by rw [h2, hf]; rfl
theorem Mp.size_le {D : DataW Value} (h : w.ownsMap P k heldR b n D) : Maps.size D ≤ n := by
 obtain ⟨es, clock, hb, F, hs, rfl⟩ := h
 have e1 : Maps.size (DataW.map ((es.toList.map (Go.WideElems.rg P k heldR)).foldr DataW.insert [])) = es.size := by simp [Maps.size, length_sorted]
 rw [e1]; exact hs
theorem Mp.len (h : Mp P k q w b n f) (ht : P.underlying t = some (.map k e)) (ty : TypeId) : ∃ s : Nat, s ≤ n ∧ Sem.run P (Builtin.len_ #[t] ty #[.map (some b)]) w = .ok (.int .i64 (s : Int)) w := by
 obtain ⟨D, h1, h2⟩ := h
 exact ⟨Maps.size D, Mp.size_le h1, h1.len ht ty⟩
def Mr (P : Program) (k : TypeId) (q : IntKind) (w : World) (b r n : Nat) (f : Int → Option Value) (left : Int → Bool) (cnt : Nat) : Prop :=
 ∃ (D : DataW Value) (lf : Lit → Bool), w.ranges P k heldR b r n D lf cnt ∧ (∀ x zd, D.atKey (.int q x) zd = elD (f x) zd) ∧ ∀ x, lf (.int q x) = left x
theorem Mr.lt (h : Mr P k q w b r n f left cnt) : r < w.heap.size := by
 obtain ⟨D, lf, h1, h2, h3⟩ := h; exact h1.lt
theorem Mr.at {w' : World} (h : Mr P k q w b r n f left cnt) (e : w'.heap[b]? = w.heap[b]?) (e' : w'.heap[r]? = w.heap[r]?) : Mr P k q w' b r n f left cnt := by
 obtain ⟨D, lf, ⟨es, clock, since, seen, c0, hb, F, hs, hD, hr, rest⟩, h2, h3⟩ := h
 exact ⟨D, lf, ⟨es, clock, since, seen, c0, e.trans hb, F, hs, hD, e'.trans hr, rest⟩, h2, h3⟩
theorem Mp.range (h : Mp P k q w b n f) (hk : P.underlying k = some (.int q)) (ht : P.underlying t = some (.map k e)) :
 ∃ w' cnt, Sem.run P (Instr.range t (.map (some b))) w = .ok (.pointer (some ⟨w.heap.size, 0, none⟩)) w' ∧ Mr P k q w' b w.heap.size n f (fun x => (f x).isSome) cnt ∧ Grow w w' ∧ w'.heap.size = w.heap.size + 1 ∧ cnt ≤ n := by
 obtain ⟨D, h1, h2⟩ := h
 have hle := Mp.size_le h1
 obtain ⟨w', r1, r2, r3, r4⟩ := h1.range (Maps.int_keyed hk) ht
 exact ⟨w', _, r1, ⟨D, _, r2, h2, fun x => Mp.has h2 x⟩, grownBy.below r3 (Nat.le_refl _) (fun j hj => by cases hj), r4, hle⟩
end Go.CW
