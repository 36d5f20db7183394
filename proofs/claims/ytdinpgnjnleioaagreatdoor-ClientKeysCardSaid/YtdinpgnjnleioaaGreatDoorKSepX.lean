/- Things that lie apart: what a call with a footprint leaves alone. For every program. -/
import Derived.Test.YtdinpgnjnleioaaGreatDoorKNam
set_option linter.unusedVariables false
namespace Go.CW
open Go.RowKit
def RdX (S : Fp) (w : World) (v : Value) (xs : List Value) : Prop := Rd w v xs ∧ (xs ≠ [] → ∀ q, v.ownBlock = some q → ¬ S q)
theorem Rd.lt {w : World} {v : Value} {xs : List Value} (h : Rd w v xs) (hne : xs ≠ []) : ∀ q, v.ownBlock = some q → q < w.heap.size := by
 obtain ⟨a, cap, rfl, h1, h2, h3, h4⟩ := h
 intro q hq
 cases xs with
 | nil => exact absurd rfl hne
 | cons x xs =>
   obtain ⟨y, rfl, hy⟩ := h4 0 x rfl
   have hlt := World.block_lt_of_cell? w _ hy
   rw [add_block] at hlt
   have : y.block = q := by simpa [Value.ownBlock] using hq
   omega
theorem Rd.stepS {S S' : Fp} {w w' : World} {v : Value} {xs : List Value} (h : Rd w v xs) (st : Step S w w' S') (hs : xs ≠ [] → ∀ q, v.ownBlock = some q → ¬ S q) : Rd w' v xs := by
 by_cases hne : xs = []
 · subst hne
   obtain ⟨a, cap, rfl, h1, h2, h3, h4⟩ := h
   exact ⟨a, cap, rfl, h1, h2, h3, fun j u hj => by simp at hj⟩
 · exact h.kept fun a u ha hv => (cell_of_heap (st.block a.block (World.block_lt_of_cell? w a ha) (hs hne _ hv))).trans ha
theorem RdX.step {S S' : Fp} {w w' : World} {v : Value} {xs : List Value} (h : RdX S w v xs) (st : Step S w w' S') : RdX S' w' v xs :=
 ⟨h.1.stepS st h.2, fun hne q hq hs => by
  rcases st.fp q hs with k | k
  · exact h.2 hne q hq k
  · have := h.1.lt hne q hq; omega⟩
theorem RdX.grow {S : Fp} {w w' : World} {v : Value} {xs : List Value} (h : RdX S w v xs) (g : Grow w w') : RdX S w' v xs := ⟨h.1.grow g, h.2⟩
theorem RdX.new {S : Fp} {w w' : World} {v : Value} {xs : List Value} (h : Rd w' v xs) (n : NewV w v) (hs : ∀ q, S q → q < w.heap.size) : RdX S w' v xs := ⟨h, fun _ q hq k => by have := hs q k; have := n q hq; omega⟩
theorem RdX.nil (S : Fp) (w : World) : RdX S w (.slice none 0 0) [] := ⟨Rd.nil w, fun h => absurd rfl h⟩
theorem RdX.part {S : Fp} {w : World} {v v' : Value} {xs ys : List Value} (h : RdX S w v xs) (hr : Rd w v' ys) (hb : v'.ownBlock = v.ownBlock) (hn : ys ≠ [] → xs ≠ []) : RdX S w v' ys := ⟨hr, fun hy q hq => h.2 (hn hy) q (hb ▸ hq)⟩
def RowsX (S : Fp) (w : World) (v : Value) (l : List (List UInt8)) : Prop :=
 ∃ vs : List Value, RdX S w v vs ∧ vs.length = l.length ∧ ∀ (i : Nat) (h : i < vs.length) (h' : i < l.length), RdX S w vs[i] (l[i].map b8)
theorem RowsX.grow {S : Fp} {w w' : World} {v : Value} {l : List (List UInt8)} (h : RowsX S w v l) (g : Grow w w') : RowsX S w' v l := by
 obtain ⟨vs, h1, h2, h3⟩ := h
 exact ⟨vs, h1.grow g, h2, fun i hi hi' => (h3 i hi hi').grow g⟩
theorem RowsX.len {S : Fp} {w : World} {v : Value} {l : List (List UInt8)} (h : RowsX S w v l) : sliceLen v = some l.length := by
 obtain ⟨vs, h1, h2, _⟩ := h
 rw [← h2]; exact h1.1.len
theorem RowsX.at {S : Fp} {w : World} {v : Value} {l : List (List UInt8)} (h : RowsX S w v l) {i : Int} (h0 : 0 ≤ i) (h1 : i < l.length) : ∃ a u, sliceAt v i 1 = some a ∧ w.cell? a = some u ∧ RdX S w u ((l[i.toNat]'(by omega)).map b8) := by
 obtain ⟨vs, k1, k2, k3⟩ := h
 obtain ⟨a, ha, hc⟩ := k1.1.at (i := i) (u := vs[i.toNat]'(by omega)) h0 (List.getElem?_eq_getElem (by omega))
 exact ⟨a, _, ha, hc, k3 i.toNat (by omega) (by omega)⟩
def InW (w : World) (S : Fp) : Prop := ∀ k, S k → k < w.heap.size
def Apart (S T : Fp) : Prop := ∀ k, S k → ¬ T k
theorem Apart.symm {S T : Fp} (h : Apart S T) : Apart T S := fun k h1 h2 => h k h2 h1
theorem InW.grow {S : Fp} {w w' : World} (h : InW w S) (g : Grow w w') : InW w' S := fun k hk => Nat.lt_of_lt_of_le (h k hk) g.size
def Both (S T : Fp) : Fp := fun k => S k ∨ T k
theorem Step.left {S S' T : Fp} {w w' : World} (st : Step S w w' S') : Step (Both S T) w w' (Both S' T) :=
 ⟨st.os, st.tape, st.output, st.size, fun k hk hs => st.block k hk (fun h => hs (.inl h)), fun k hk => by
  rcases hk with h | h
  · exact (st.fp k h).imp .inl id
  · exact .inl (.inr h)⟩
theorem Step.right {S S' T : Fp} {w w' : World} (st : Step S w w' S') : Step (Both T S) w w' (Both T S') :=
 ⟨st.os, st.tape, st.output, st.size, fun k hk hs => st.block k hk (fun h => hs (.inr h)), fun k hk => by
  rcases hk with h | h
  · exact .inl (.inl h)
  · exact (st.fp k h).imp .inr id⟩
theorem BK.stepS {S S' : Fp} {w w' : World} {b : Nat} {cs : Array Value} {e : TypeId} (h : BK w b cs e) (st : Step S w w' S') (hs : ¬ S b) : BK w' b cs e := (st.block b h.lt hs).trans h
theorem Own.stepS {S S' : Fp} {w w' : World} {B : Nat} {e : TypeId} {v : Value} {xs : List Value} (h : Own w B e v xs) (st : Step S w w' S') (hs : ∀ q, v.ownBlock = some q → ¬ S q) : Own w' B e v xs := by
 refine ⟨h.1, ?_⟩
 rcases h.2 with hn | ⟨b, cap, cur, rfl, hb, hg, r⟩
 · exact .inl hn
 · exact .inr ⟨b, cap, cur, rfl, hb, (st.block b (Array.getElem?_eq_some_iff.1 hg).1 (hs b rfl)).trans hg, r⟩
theorem Own.ltS {w : World} {B : Nat} {e : TypeId} {v : Value} {xs : List Value} (h : Own w B e v xs) : ∀ q, v.ownBlock = some q → q < w.heap.size := fun q hq => (World.ownsRow.lt h q hq).2
theorem own_ne {w : World} {B g : Nat} {e e' : TypeId} {v : Value} {xs : List Value} {cs : Array Value} (h : Own w B e v xs) (b : BK w g cs e') (hne : e ≠ e') : v.ownBlock ≠ some g := by
 rcases h.2 with ⟨rfl, _⟩ | ⟨g', cap, cur, rfl, _, hg, _⟩
 · intro e; cases e
 · intro e
   have : g' = g := by simpa [Value.ownBlock] using e
   subst this
   unfold BK at b
   rw [hg] at b
   injection b with b
   injection b with _ b
   exact hne b
theorem app_none {P : Program} {t e : TypeId} {b : Nat} (T : SlTy P t e b) {w : World} {v u : Value} {xs : List Value} (h : Rd w v xs) (hu : Rd w u []) : Sem.run P (Builtin.append_ #[t, t] t #[v, u]) w = .ok v w := by
 obtain ⟨i, z, hi, hz, hs, hby, hzs⟩ := T.info
 obtain ⟨a, cap, rfl, k1, k2, k3, k4⟩ := h
 obtain ⟨a', cap', rfl, l1, l2, l3, l4⟩ := hu
 cases a' <;> cases a <;> simp [Builtin.append_, run_und T.und, sizeOf, typeInfo, hi, Builtin.lenOf, Builtin.firstCells, k1, storeCells, loadCells, loadCellsFrom]
end Go.CW
