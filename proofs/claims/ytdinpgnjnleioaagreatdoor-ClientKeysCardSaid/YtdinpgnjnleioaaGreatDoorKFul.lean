/- Slices without room: append to one makes a new row. For every program. -/
import Derived.Test.YtdinpgnjnleioaaGreatDoorKRec
set_option linter.unusedVariables false
namespace Go.CW
open Go.RowKit
def Ful (v : Value) : Prop := ∀ a n c, v = .slice a n c → c = n
theorem Ful.nil : Ful (.slice none 0 0) := by intro a n c h; cases h; rfl
theorem Ful.mk (a : Option Addr) (n : Nat) : Ful (.slice a n n) := by intro a' n' c h; cases h; rfl
theorem app_ful {P : Program} {t e : TypeId} {b : Nat} (T : SlTy P t e b) {w : World} {v src : Value} {xs news : List Value} (hv : Rd w v xs) (hf : Ful v) (hr : Rd w src news)
 (h1 : ∀ u ∈ news, u.oneCell' = true) (hne : news ≠ []) (hb : (xs.length + news.length) * (b + 1) ≤ 140737488355328) :
 ∃ v' w', Sem.run P (Builtin.append_ #[t, t] t #[v, src]) w = .ok v' w' ∧ Own w' w.heap.size e v' (xs ++ news) ∧ Grow w w' := by
 obtain ⟨av, cv, rfl, l1, l2, l3, l4⟩ := hv
 obtain rfl : cv = xs.length := hf _ _ _ rfl
 cases av with
 | none =>
   have hc := l3 rfl
   obtain rfl : xs = [] := List.eq_nil_of_length_eq_zero hc
   obtain ⟨v', w', k1, k2, k3⟩ := app_own T (Own.nil w w.heap.size e) hr h1 hb (Nat.le_refl _)
   exact ⟨v', w', k1, k2, k3.below (Nat.le_refl _) (fun k hk => by cases hk)⟩
 | some av =>
   obtain ⟨i, z, hi, hz, hs, hby, hzs⟩ := T.info
   obtain ⟨a, cap, rfl, k1, k2, k3, k4⟩ := hr
   have hm : 0 < news.length := List.length_pos_iff.2 hne
   have hb' : xs.length + news.length ≤ 140737488355328 := Nat.le_trans (Nat.le_mul_of_pos_right _ (by omega)) hb
   have hb2 : (xs.length + news.length) * b ≤ 140737488355328 := Nat.le_trans (Nat.mul_le_mul_left _ (by omega)) hb
   cases a with
   | none => have := k3 rfl; omega
   | some a =>
     have hr := run_append_grow (P := P) (w := w) t t e i z T.und hi hz av xs.length xs.length xs (by rw [hs]; omega) (fun j u hj => by obtain ⟨x, hx, hc⟩ := l4 j u hj; cases hx; exact hc)
      a news.length cap news (by rw [hs]; omega) (fun j u hj => by obtain ⟨x, hx, hc⟩ := k4 j u hj; cases hx; exact hc) (by omega) (by omega)
      (by rw [hby]; exact growslice_fits (by omega) hb2)
     refine ⟨_, _, hr, ?_, Grow.al (Grow.dr (Grow.refl w)) _⟩
     have hge := grownCap_ge w (xs.length + news.length) xs.length e
     have hcm := grownCap_le_maxLen w (xs.length + news.length) xs.length e (by simp only [maxLen]; omega)
     refine ⟨by simp, .inr ⟨w.heap.size, _, _, by rw [List.length_append], Nat.le_refl _, heap_alloc_new w.drew _, by rw [List.length_append]; exact hge, hcm, ?_, ?_⟩⟩
     · simp only [Array.size_append, List.size_toArray, size_zeroCells, hzs]; omega
     · simp only [Array.toList_append, List.append_assoc, Nat.mul_one]
       rw [← List.append_assoc, List.take_left]
theorem rd_mid {w : World} {b : Nat} {cs : Array Value} {e : TypeId} (h : BK w b cs e) (o n : Nat) (ho : o + n ≤ cs.size) (hm : n ≤ maxLen) : Rd w (.slice (some (Addr.add ⟨b, 0, none⟩ o)) n n) ((cs.toList.drop o).take n) := by
 have hl : ((cs.toList.drop o).take n).length = n := by simp; omega
 refine ⟨some (Addr.add ⟨b, 0, none⟩ o), n, by rw [hl], by rw [hl]; exact Nat.le_refl _, hm, fun hh => (by cases hh), fun j u hj => ⟨_, rfl, ?_⟩⟩
 rw [add_add, h.cell]
 rw [List.getElem?_take] at hj
 split at hj
 · rw [List.getElem?_drop] at hj
   simpa using hj
 · cases hj
end Go.CW
