/- Maps keyed by integers: a function on the keys; look, put, length, a range under way. For every program. -/
import Derived.Test.YtghineciiljeoaaGreatDoorQNam
import Derived.Maps.Range
import Derived.Maps.RangeWalk
import Derived.Maps.OwnSet
import Derived.Maps.Views
set_option linter.unusedSimpArgs false
set_option linter.unusedVariables false
namespace Go.CW
open Go.RowKit
def heldR : Value → Option (DataW Value × List MemPlace) := fun v => some (.held v, [])
def elD (o : Option Value) (zd : DataW Value) : DataW Value := match o with | some v => .held v | none => zd
def Mp (P : Program) (k : TypeId) (q : IntKind) (w : World) (b n : Nat) (f : Int → Option Value) : Prop :=
 ∃ D : DataW Value, w.ownsMap P k heldR b n D ∧ ∀ x zd, D.atKey (.int q x) zd = elD (f x) zd
variable {P : Program} {k t e : TypeId} {q : IntKind} {w : World} {b n r : Nat} {f : Int → Option Value} {left : Int → Bool} {cnt : Nat}
theorem elD_held {o : Option Value} {z v : Value} (h : elD o (.held z) = .held v) : v = o.getD z := by
 cases o with
 | none => simp only [elD, DataW.held.injEq] at h; exact h.symm
 | some u => simp only [elD, DataW.held.injEq] at h; exact h.symm
theorem Mp.lt (h : Mp P k q w b n f) : b < w.heap.size := let ⟨_, h1, _⟩ := h; h1.lt
theorem Mp.kept {w' : World} {row : Option Nat} (h : Mp P k q w b n f) (g : w.grownBy w' row) (hne : some b ≠ row) : Mp P k q w' b n f := by
 obtain ⟨D, h1, h2⟩ := h; exact ⟨D, h1.kept g hne, h2⟩
theorem Mp.at {w' : World} (h : Mp P k q w b n f) (e : w'.heap[b]? = w.heap[b]?) : Mp P k q w' b n f := by
 obtain ⟨D, ⟨es, clock, hb, F, hs, hD⟩, h2⟩ := h
 exact ⟨D, ⟨es, clock, e.trans hb, F, hs, hD⟩, h2⟩
theorem Mp.grow {w' : World} (h : Mp P k q w b n f) (g : Grow w w') : Mp P k q w' b n f := h.at (g.block b h.lt)
theorem Mp.le {n' : Nat} (h : Mp P k q w b n f) (hn : n ≤ n') : Mp P k q w b n' f := by
 obtain ⟨D, ⟨es, clock, hb, F, hs, hD⟩, h2⟩ := h
 exact ⟨D, ⟨es, clock, hb, F, Nat.le_trans hs hn, hD⟩, h2⟩
theorem Mp.map (h : Mp P k q w b n f) : ∃ es clock, w.heap[b]? = some (.map es clock) := by
 obtain ⟨D, ⟨es, clock, hb, _⟩, _⟩ := h; exact ⟨es, clock, hb⟩
theorem Mp.ne {g : Nat} {cs : Array Value} {ty : TypeId} (h : Mp P k q w b n f) (h' : BK w g cs ty) : b ≠ g := by
 obtain ⟨es, clock, hb⟩ := h.map
 intro e; subst e
 unfold BK at h'
 rw [hb] at h'; cases h'
theorem Mp.made (w : World) : Mp P k q (w.alloc (.map #[] 0)) w.heap.size 0 (fun _ => none) :=
 ⟨.map [], World.ownsMap_made w _ _ _, fun _ _ => rfl⟩
theorem Mp.look (h : Mp P k q w b n f) (hk : P.underlying k = some (.int q)) (ht : P.underlying t = some (.map k e)) {z : Value} (hz : (zeroValue e).run P w = .ok z w) {x : Int} (hx : (Lit.int q x).wf = true) :
 Sem.run P (Instr.lookup t (.map (some b)) (.int q x) false) w = .ok ((f x).getD z) w := by
 obtain ⟨D, h1, h2⟩ := h
 obtain ⟨v, ps, hrun, hv⟩ := h1.lookup (Maps.int_keyed hk) ht hz (zd := .held z) (zp := []) rfl (Maps.keyOf_int_mk hk hx)
 rw [h2] at hv
 simp only [heldR, Option.some.injEq, Prod.mk.injEq] at hv
 rw [hrun, elD_held hv.1.symm]
theorem Mp.has {D : DataW Value} (h2 : ∀ x zd, D.atKey (.int q x) zd = elD (f x) zd) (x : Int) : Maps.has D (.int q x) = (f x).isSome := by
 cases hf : f x with
 | none => exact Maps.has_false_of_atKey fun z => by rw [h2, hf]; rfl
 | some v => exact Maps.has_true_of_atKey (y := .held v) fun z => by rw [h2, hf]; rfl
theorem Mp.look_ok (h : Mp P k q w b n f) (hk : P.underlying k = some (.int q)) (ht : P.underlying t = some (.map k e)) {z : Value} (hz : (zeroValue e).run P w = .ok z w) {x : Int} (hx : (Lit.int q x).wf = true) :
 Sem.run P (Instr.lookup t (.map (some b)) (.int q x) true) w = .ok (.tuple #[(f x).getD z, .bool (f x).isSome]) w := by
 obtain ⟨D, h1, h2⟩ := h
 obtain ⟨v, ps, hrun, hv⟩ := h1.look_ok (Maps.int_keyed hk) ht hz (zd := .held z) (zp := []) rfl (Maps.keyOf_int_mk hk hx)
 rw [h2] at hv
 simp only [heldR, Option.some.injEq, Prod.mk.injEq] at hv
 rw [hrun, elD_held hv.1.symm, Mp.has h2]
theorem Mp.size_le {D : DataW Value} (h : w.ownsMap P k heldR b n D) : Maps.size D ≤ n := by
 obtain ⟨es, clock, hb, F, hs, rfl⟩ := h
 have e1 : Maps.size (DataW.map ((es.toList.map (Go.WideElems.rg P k heldR)).foldr DataW.insert [])) = es.size := by simp [Maps.size, length_sorted]
 rw [e1]; exact hs
theorem Mp.len (h : Mp P k q w b n f) (ht : P.underlying t = some (.map k e)) (ty : TypeId) : ∃ s : Nat, s ≤ n ∧ Sem.run P (Builtin.len_ #[t] ty #[.map (some b)]) w = .ok (.int .i64 (s : Int)) w := by
 obtain ⟨D, h1, h2⟩ := h
 exact ⟨Maps.size D, Mp.size_le h1, h1.len ht ty⟩
def putM (f : Int → Option Value) (x : Int) (v : Value) : Int → Option Value := fun y => if y = x then some v else f y
theorem Mp.put (h : Mp P k q w b n f) (hk : P.underlying k = some (.int q)) (ht : P.underlying t = some (.map k e)) (hn : n < 1000000) {x : Int} (hx : (Lit.int q x).wf = true) (v : Value) :
 ∃ w', Sem.run P (Instr.mapUpdate t (.map (some b)) (.int q x) v) w = .ok () w' ∧ Mp P k q w' b (n + 1) (putM f x v) ∧ w.grownBy w' (some b) := by
 obtain ⟨D, h1, h2⟩ := h
 obtain ⟨w', hrun, r1, r2⟩ := h1.update (Maps.int_keyed hk) ht (by simp [maxLen]; omega) (val := v) (d := .held v) (ps := []) (Maps.keyOf_int_mk hk hx) rfl
 refine ⟨w', hrun, ⟨_, r1, fun y zd => ?_⟩, r2⟩
 unfold putM
 by_cases e : y = x
 · subst e
   rw [Maps.atKey_put_same h1.isMap (show WideAt.IsKeyLit (.int q y) from trivial), if_pos rfl]; rfl
 · rw [Maps.atKey_put_other (by simpa using e), h2 y, if_neg e]
def Mr (P : Program) (k : TypeId) (q : IntKind) (w : World) (b r n : Nat) (f : Int → Option Value) (left : Int → Bool) (cnt : Nat) : Prop :=
 ∃ (D : DataW Value) (lf : Lit → Bool), w.ranges P k heldR b r n D lf cnt ∧ (∀ x zd, D.atKey (.int q x) zd = elD (f x) zd) ∧ ∀ x, lf (.int q x) = left x
theorem Mr.owns (h : Mr P k q w b r n f left cnt) : Mp P k q w b n f := by
 obtain ⟨D, lf, h1, h2, h3⟩ := h; exact ⟨D, h1.owns, h2⟩
theorem Mr.left_eq (h : Mr P k q w b r n f left cnt) : w.rangeLeft b r = cnt := by
 obtain ⟨D, lf, h1, h2, h3⟩ := h; exact h1.left_eq
theorem Mr.lt (h : Mr P k q w b r n f left cnt) : r < w.heap.size := by
 obtain ⟨D, lf, h1, h2, h3⟩ := h; exact h1.lt
theorem Mr.at {w' : World} (h : Mr P k q w b r n f left cnt) (e : w'.heap[b]? = w.heap[b]?) (e' : w'.heap[r]? = w.heap[r]?) : Mr P k q w' b r n f left cnt := by
 obtain ⟨D, lf, ⟨es, clock, since, seen, c0, hb, F, hs, hD, hr, rest⟩, h2, h3⟩ := h
 exact ⟨D, lf, ⟨es, clock, since, seen, c0, e.trans hb, F, hs, hD, e'.trans hr, rest⟩, h2, h3⟩
theorem Mr.iter (h : Mr P k q w b r n f left cnt) : ∃ a b' c e, w.heap[r]? = some (.mapIter a b' c e) := by
 obtain ⟨D, lf, ⟨es, clock, since, seen, c0, hb, F, hs, hD, hr, rest⟩, h2, h3⟩ := h
 exact ⟨_, _, _, _, hr⟩
theorem Mp.range (h : Mp P k q w b n f) (hk : P.underlying k = some (.int q)) (ht : P.underlying t = some (.map k e)) :
 ∃ w' cnt, Sem.run P (Instr.range t (.map (some b))) w = .ok (.pointer (some ⟨w.heap.size, 0, none⟩)) w' ∧ Mr P k q w' b w.heap.size n f (fun x => (f x).isSome) cnt ∧ Grow w w' ∧ w'.heap.size = w.heap.size + 1 ∧ cnt ≤ n := by
 obtain ⟨D, h1, h2⟩ := h
 have hle := Mp.size_le h1
 obtain ⟨w', r1, r2, r3, r4⟩ := h1.range (Maps.int_keyed hk) ht
 exact ⟨w', _, r1, ⟨D, _, r2, h2, fun x => Mp.has h2 x⟩, grownBy.below r3 (Nat.le_refl _) (fun j hj => by cases hj), r4, hle⟩
theorem Mr.next (h : Mr P k q w b r n f left cnt) (hk : P.underlying k = some (.int q)) (ty : TypeId) :
 ((∀ x, left x = false) ∧ Sem.run P (Instr.next (.pointer (some ⟨r, 0, none⟩)) false ty) w = .ok (.tuple #[.bool false]) w) ∨
 ∃ x v w' cnt', (Lit.int q x).wf = true ∧ left x = true ∧ f x = some v ∧ Sem.run P (Instr.next (.pointer (some ⟨r, 0, none⟩)) false ty) w = .ok (.tuple #[.bool true, .int q x, v]) w' ∧
   Mr P k q w' b r n f (fun y => left y && !(decide (y = x))) cnt' ∧ cnt' < cnt ∧ w.grownBy w' (some r) ∧ w'.heap.size = w.heap.size ∧ Sem.run P (Instr.entry (.pointer (some ⟨r, 0, none⟩))) w' = .ok (.tuple #[.int q x, v]) w' := by
 obtain ⟨D, lf, h1, h2, h3⟩ := h
 rcases h1.next (Maps.int_keyed hk) ty with ⟨_, h4, h5⟩ | ⟨key, v, kl, y, w', cnt', k1, k2, k3, k4, k5, k6, k7, k8, k9, k10⟩
 · exact .inl ⟨fun x => by rw [← h3]; exact h4 _, h5⟩
 · obtain ⟨x, rfl, rfl, hw⟩ := Maps.keyOf_int_inv hk k1
   have hv : f x = some v := by
    have a := k4 .nil
    rw [h2] at a
    simp only [heldR, Option.some.injEq] at k3
    subst k3
    cases hf : f x with
    | none => rw [hf] at a; simp [elD] at a
    | some u => rw [hf] at a; simp [elD] at a; rw [a]
   refine .inr ⟨x, v, w', cnt', hw, by rw [← h3]; exact k2, hv, k5, ⟨D, _, k6, h2, fun y => ?_⟩, k7, k8, k9, k10⟩
   dsimp only
   rw [h3]
   simp [Lit.sameKey]
end Go.CW
