/- The maps: rows of set ones cover just these, and are as many. -/
import Derived.Test.YtnclgknfccliiaaGreatDoorBitQ
set_option linter.unusedVariables false
set_option linter.unusedSimpArgs false
namespace Go.Proofs.YtnclgknfccliiaaGreatDoor
open Go Go.CW Go.RowKit

def cnt (M : List UInt8) : Nat → Nat → Nat
  | _, 0 => 0
  | a, n + 1 => tb01 (has M a) + cnt M (a + 1) n

theorem cnt_add (M : List UInt8) : ∀ n a m, cnt M a (n + m) = cnt M a n + cnt M (a + n) m
  | 0, a, m => by simp [cnt]
  | n + 1, a, m => by
    have e : n + 1 + m = (n + m) + 1 := by omega
    rw [e]
    simp only [cnt]
    rw [cnt_add M n (a + 1) m]
    have e2 : a + 1 + n = a + (n + 1) := by omega
    rw [e2]; omega

theorem cnt_none {M : List UInt8} : ∀ {n a : Nat}, (∀ i, a ≤ i → i < a + n → has M i = false) → cnt M a n = 0
  | 0, a, h => rfl
  | n + 1, a, h => by
    simp only [cnt]
    rw [h a (Nat.le_refl _) (by omega), cnt_none (fun i h1 h2 => h i (by omega) (by omega))]
    rfl

theorem cnt_all {M : List UInt8} : ∀ {n a : Nat}, (∀ i, a ≤ i → i < a + n → has M i = true) → cnt M a n = n
  | 0, a, h => rfl
  | n + 1, a, h => by
    simp only [cnt]
    rw [h a (Nat.le_refl _) (by omega), cnt_all (fun i h1 h2 => h i (by omega) (by omega))]
    simp [tb01]; omega

theorem cnt_pop (M : List UInt8) : ∀ n q, q + n = M.length → cnt M (8 * q) (8 * n) = popL (M.drop q)
  | 0, q, h => by
    rw [List.drop_of_length_le (by omega)]; rfl
  | n + 1, q, h => by
    have e : 8 * (n + 1) = 8 + 8 * n := by omega
    have e2 : 8 * q + 8 = 8 * (q + 1) := by omega
    rw [e, cnt_add, e2, cnt_pop M n (q + 1) (by omega)]
    have hd : M.drop q = M.getD q 0 :: M.drop (q + 1) := by
      rw [List.getD_eq_getElem?_getD, List.getElem?_eq_getElem (by omega), Option.getD_some, ← List.drop_eq_getElem_cons]
    rw [hd]
    have hb : ∀ j, j < 8 → has M (8 * q + j) = (M.getD q 0).toNat.testBit j := by
      intro j hj
      unfold has bitOf
      have e1 : (8 * q + j) / 8 = q := by omega
      have e2 : (8 * q + j) % 8 = j := by omega
      rw [e1, e2, decide_eq_true (by omega), Bool.true_and]
    have h0 := hb 0 (by omega); have h1 := hb 1 (by omega); have h2 := hb 2 (by omega); have h3 := hb 3 (by omega)
    have h4 := hb 4 (by omega); have h5 := hb 5 (by omega); have h6 := hb 6 (by omega); have h7 := hb 7 (by omega)
    simp only [Nat.add_zero] at h0
    have hp : cnt M (8 * q) 8 = popc (M.getD q 0) := by
      simp only [cnt, popc]
      rw [← h0, ← h1, ← h2, ← h3, ← h4, ← h5, ← h6, ← h7]
      simp only [Nat.add_assoc, Nat.add_zero]
    rw [hp]
    simp [popL]

theorem popL_cnt (M : List UInt8) : popL M = cnt M 0 (8 * M.length) := by
  have := cnt_pop M M.length 0 (by omega)
  rw [Nat.mul_zero] at this
  rw [this]; rfl

theorem runEnd_is {M : List UInt8} {b : Nat} : (∀ i, b ≤ i → i < runEnd M b → has M i = true) ∧ (runEnd M b < 8 * M.length → has M (runEnd M b) = false) := by
  unfold runEnd
  cases he : nextM M b false with
  | none =>
    refine ⟨fun i h1 h2 => ?_, fun h => by simp at h⟩
    have := nextM_none.1 he i h1 (by simpa using h2)
    simpa using this
  | some e =>
    obtain ⟨k1, k2, k3, k4⟩ := nextM_some.1 he
    refine ⟨fun i h1 h2 => ?_, fun h => k2⟩
    have := k4 i h1 (by simpa using h2)
    simpa using this

theorem runsG_cover (M : List UInt8) : ∀ f a, a ≤ 8 * M.length → 8 * M.length + 1 - a ≤ f → ∀ i, ((∃ r ∈ runsG M f a, r.1 ≤ i ∧ i < r.1 + r.2) ↔ (a ≤ i ∧ has M i = true))
  | 0, a, h1, h2, i => by omega
  | f + 1, a, h1, h2, i => by
    have hlt : has M i = true → i < 8 * M.length := fun h => by
      unfold has at h; simp at h; exact h.1
    cases hn : nextM M a true with
    | none =>
      simp only [runsG, hn]
      have := nextM_none.1 hn
      constructor
      · rintro ⟨r, hr, _⟩; cases hr
      · rintro ⟨q1, q2⟩; exact absurd q2 (this i q1 (hlt q2))
    | some b =>
      obtain ⟨q1, q2, q3, q4⟩ := nextM_some.1 hn
      obtain ⟨hgt, hend⟩ := runEnd_gt hn
      have ih := runsG_cover M f (runEnd M b) hend (by omega) i
      obtain ⟨e1, e2⟩ := runEnd_is (M := M) (b := b)
      simp only [runsG, hn, List.mem_cons]
      constructor
      · rintro ⟨r, rfl | hr, k1, k2⟩
        · simp only at k1 k2
          exact ⟨by omega, e1 i k1 (by omega)⟩
        · have := ih.1 ⟨r, hr, k1, k2⟩
          exact ⟨by omega, this.2⟩
      · rintro ⟨k1, k2⟩
        by_cases c1 : i < b
        · exact absurd k2 (q4 i k1 c1)
        · by_cases c2 : i < runEnd M b
          · exact ⟨_, .inl rfl, by simp only; omega, by simp only; omega⟩
          · obtain ⟨r, hr, p⟩ := ih.2 ⟨by omega, k2⟩
            exact ⟨r, .inr hr, p⟩

theorem runsG_sum (M : List UInt8) : ∀ f a, a ≤ 8 * M.length → 8 * M.length + 1 - a ≤ f → ((runsG M f a).map (·.2)).sum = cnt M a (8 * M.length - a)
  | 0, a, h1, h2 => by omega
  | f + 1, a, h1, h2 => by
    cases hn : nextM M a true with
    | none =>
      simp only [runsG, hn]
      have := nextM_none.1 hn
      rw [cnt_none fun i k1 k2 => by have := this i k1 (by omega); simpa using this]
      rfl
    | some b =>
      obtain ⟨q1, q2, q3, q4⟩ := nextM_some.1 hn
      obtain ⟨hgt, hend⟩ := runEnd_gt hn
      have ih := runsG_sum M f (runEnd M b) hend (by omega)
      obtain ⟨e1, e2⟩ := runEnd_is (M := M) (b := b)
      simp only [runsG, hn, List.map_cons, List.sum_cons, ih]
      have s1 : 8 * M.length - a = (b - a) + ((runEnd M b - b) + (8 * M.length - runEnd M b)) := by omega
      rw [s1, cnt_add, cnt_add, cnt_none (n := b - a) (fun i k1 k2 => by have := q4 i k1 (by omega); simpa using this)]
      have s2 : a + (b - a) = b := by omega
      have s3 : b + (runEnd M b - b) = runEnd M b := by omega
      rw [s2, s3, cnt_all (n := runEnd M b - b) (fun i k1 k2 => e1 i k1 (by omega))]
      omega

theorem runsL_cover (M : List UInt8) (i : Nat) : (∃ r ∈ runsL M, r.1 ≤ i ∧ i < r.1 + r.2) ↔ has M i = true := by
  have := runsG_cover M (8 * M.length + 1) 0 (Nat.zero_le _) (by omega) i
  simpa [runsL] using this

theorem runsL_sum (M : List UInt8) : ((runsL M).map (·.2)).sum = popL M := by
  rw [popL_cnt]
  exact runsG_sum M (8 * M.length + 1) 0 (Nat.zero_le _) (by omega)

theorem runsG_pos (M : List UInt8) : ∀ f a, ∀ r ∈ runsG M f a, 0 < r.2
  | 0, a, r, h => by cases h
  | f + 1, a, r, h => by
    cases hn : nextM M a true with
    | none => simp only [runsG, hn] at h; cases h
    | some b =>
      simp only [runsG, hn, List.mem_cons] at h
      rcases h with rfl | h
      · have := runEnd_gt hn; simp only; omega
      · exact runsG_pos M f _ r h

/-- no bit behind N -/
def Under (N : Nat) (M : List UInt8) : Prop := ∀ i, N ≤ i → has M i = false

theorem runsL_le {N : Nat} {M : List UInt8} (h : Under N M) : ∀ r ∈ runsL M, 0 < r.2 ∧ r.1 + r.2 ≤ N := by
  intro r hr
  have hp : 0 < r.2 := runsG_pos M _ _ r hr
  refine ⟨hp, ?_⟩
  have := (runsL_cover M (r.1 + r.2 - 1)).1 ⟨r, hr, by omega, by omega⟩
  rcases Nat.lt_or_ge (r.1 + r.2 - 1) N with h1 | h1
  · omega
  · rw [h _ h1] at this; cases this

end Go.Proofs.YtnclgknfccliiaaGreatDoor
