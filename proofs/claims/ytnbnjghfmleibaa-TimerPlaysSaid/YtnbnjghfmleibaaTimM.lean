/- The law of the heap: what rises and sinks keeps the order; what goes off goes off in order. No program in sight. -/
import Derived.Test.YtnbnjghfmleibaaTimQ
set_option linter.unusedVariables false
set_option linter.unusedSimpArgs false
namespace Go.Proofs.Ytnbnjghfmleibaa
open Go Go.CW Go.RowKit

/-- not later -/
def le (x y : Int × Int) : Prop := lt y x = false

theorem lt_iff (x y : Int × Int) : lt x y = true ↔ x.2 < y.2 ∨ (x.2 = y.2 ∧ x.1 < y.1) := by simp [lt]
theorem le_iff (x y : Int × Int) : le x y ↔ x.2 < y.2 ∨ (x.2 = y.2 ∧ x.1 ≤ y.1) := by
  unfold le
  rw [← Bool.not_eq_true, lt_iff]; omega
theorem le_refl (x : Int × Int) : le x x := by rw [le_iff]; omega
theorem le_trans {x y z : Int × Int} (h : le x y) (k : le y z) : le x z := by rw [le_iff] at *; omega
theorem le_of_lt {x y : Int × Int} (h : lt x y = true) : le x y := by rw [le_iff]; rw [lt_iff] at h; omega
theorem le_of_not {x y : Int × Int} (h : ¬ lt x y = true) : le y x := by rw [le_iff]; rw [lt_iff] at h; omega
theorem lt_of_le {x y : Int × Int} (h : le x y) (hne : x.1 ≠ y.1) : lt x y = true := by rw [le_iff] at h; rw [lt_iff]; omega

def HeapOk (H : List (Int × Int)) : Prop := ∀ k, 0 < k → k < H.length → le (nth H ((k - 1) / 2)) (nth H k)
/-- but for i, which may be too far below -/
def HeapUp (H : List (Int × Int)) (i : Nat) : Prop :=
  (∀ k, 0 < k → k < H.length → k ≠ i → le (nth H ((k - 1) / 2)) (nth H k)) ∧ (∀ k, 0 < k → k < H.length → (k - 1) / 2 = i → 0 < i → le (nth H ((i - 1) / 2)) (nth H k))
/-- but for i, which may be too far above -/
def HeapDn (H : List (Int × Int)) (i : Nat) : Prop :=
  (∀ k, 0 < k → k < H.length → (k - 1) / 2 ≠ i → le (nth H ((k - 1) / 2)) (nth H k)) ∧ (∀ k, 0 < k → k < H.length → (k - 1) / 2 = i → 0 < i → le (nth H ((i - 1) / 2)) (nth H k))

theorem nth_set (H : List (Int × Int)) (i j : Nat) (x : Int × Int) (hi : i < H.length) : nth (H.set i x) j = if j = i then x else nth H j := by
  unfold nth
  rw [List.getD_eq_getElem?_getD, List.getD_eq_getElem?_getD]
  by_cases e : j = i
  · subst e; rw [List.getElem?_set_self hi]; simp
  · rw [List.getElem?_set_ne (fun h => e h.symm), if_neg e]

theorem nth_swp (H : List (Int × Int)) {i k : Nat} (j : Nat) (hi : i < H.length) (hk : k < H.length) : nth (swp H i k) j = if j = k then nth H i else if j = i then nth H k else nth H j := by
  unfold swp
  rw [nth_set _ _ _ _ (by simpa using hk), nth_set _ _ _ _ hi]

theorem swp_perm (H : List (Int × Int)) {i k : Nat} (hi : i < H.length) (hk : k < H.length) : (swp H i k).Perm H := by
  unfold swp
  rw [nth_get H i hi, nth_get H k hk]
  exact List.set_set_perm hi hk

theorem upF_ok (H : List (Int × Int)) (i : Nat) : i < H.length → HeapUp H i → HeapOk (upF H i) ∧ (upF H i).Perm H := by
  induction H, i using upF.induct with
  | case1 H i h ih =>
    intro hi hu
    unfold upF; rw [dif_pos h]
    obtain ⟨h0, hlt⟩ := h
    have hp : (i - 1) / 2 < H.length := by omega
    have hpi : (i - 1) / 2 < i := by omega
    obtain ⟨h1, h2⟩ := hu
    generalize hpe : (i - 1) / 2 = p at *
    have hN := fun j => nth_swp H j hi hp
    have key : _ ∧ _ := ih (by rw [swp_length]; omega) (by
      refine ⟨fun k k0 kl kne => ?_, fun k k0 kl kp p0 => ?_⟩
      · rw [swp_length] at kl
        rw [hN, hN, if_neg kne]
        by_cases e : k = i
        · subst e
          rw [if_pos hpe, if_pos rfl]; exact le_of_lt hlt
        · rw [if_neg e]
          by_cases e2 : (k - 1) / 2 = p
          · rw [if_pos e2]
            exact le_trans (le_of_lt hlt) (e2 ▸ h1 k k0 kl e)
          · rw [if_neg e2]
            by_cases e3 : (k - 1) / 2 = i
            · rw [if_pos e3]
              exact h2 k k0 kl e3 h0
            · rw [if_neg e3]
              exact h1 k k0 kl e
      · rw [swp_length] at kl
        rw [hN, hN]
        have e1 : ¬ (p - 1) / 2 = p := by omega
        have e2 : ¬ (p - 1) / 2 = i := by omega
        have e3 : ¬ k = p := by omega
        rw [if_neg e1, if_neg e2, if_neg e3]
        have hpp := h1 p p0 hp (by omega)
        by_cases e : k = i
        · rw [if_pos e]; exact hpp
        · rw [if_neg e]
          exact le_trans hpp (kp ▸ h1 k k0 kl e))
    obtain ⟨k1, k2⟩ := key
    exact ⟨k1, k2.trans (swp_perm H hi hp)⟩
  | case2 H i h =>
    intro hi hu
    unfold upF; rw [dif_neg h]
    refine ⟨fun k k0 kl => ?_, List.Perm.refl _⟩
    by_cases e : k = i
    · subst e
      exact le_of_not (fun hh => h ⟨k0, hh⟩)
    · exact hu.1 k k0 kl e

theorem kid_min (H : List (Int × Int)) (i k : Nat) (k0 : 0 < k) (kl : k < H.length) (kp : (k - 1) / 2 = i) : kid H i < H.length ∧ le (nth H (kid H i)) (nth H k) ∧ (kid H i - 1) / 2 = i := by
  have hk : k = 2 * i + 1 ∨ k = 2 * i + 2 := by omega
  unfold kid
  by_cases h : 2 * i + 2 < H.length ∧ lt (nth H (2 * i + 2)) (nth H (2 * i + 1)) = true
  · rw [if_pos h]
    refine ⟨h.1, ?_, by omega⟩
    rcases hk with rfl | rfl
    · exact le_of_lt h.2
    · exact le_refl _
  · rw [if_neg h]
    refine ⟨by omega, ?_, by omega⟩
    rcases hk with rfl | rfl
    · exact le_refl _
    · exact le_of_not (fun hh => h ⟨kl, hh⟩)

theorem downF_ok (H : List (Int × Int)) (i : Nat) : i < H.length → HeapDn H i → HeapOk (downF H i) ∧ (downF H i).Perm H := by
  induction H, i using downF.induct with
  | case1 H i h ih =>
    intro hi hu
    unfold downF; rw [dif_pos h]
    obtain ⟨hq, hlt⟩ := h
    have hgt := kid_gt H i
    have hpar : (kid H i - 1) / 2 = i := by unfold kid; split <;> omega
    obtain ⟨h1, h2⟩ := hu
    have hmin := kid_min H i
    generalize kid H i = q at *
    have hN := fun j => nth_swp H j hi hq
    have key : _ ∧ _ := ih (by rw [swp_length]; exact hq) (by
      refine ⟨fun k k0 kl kne => ?_, fun k k0 kl kp p0 => ?_⟩
      · rw [swp_length] at kl
        rw [hN, hN, if_neg kne]
        by_cases e : (k - 1) / 2 = i
        · rw [if_pos e]
          by_cases e2 : k = q
          · rw [if_pos e2]; exact le_of_lt hlt
          · rw [if_neg e2]
            have e3 : ¬ k = i := by omega
            rw [if_neg e3]
            exact (hmin k k0 kl e).2.1
        · rw [if_neg e]
          have e2 : ¬ k = q := by intro h; subst h; exact e hpar
          rw [if_neg e2]
          by_cases e3 : k = i
          · rw [if_pos e3]
            subst e3
            exact h2 q (by omega) hq hpar k0
          · rw [if_neg e3]
            exact h1 k k0 kl e
      · rw [swp_length] at kl
        rw [hN, hN]
        have e1 : ¬ (q - 1) / 2 = q := by omega
        have e3 : ¬ k = q := by omega
        have e4 : ¬ k = i := by omega
        rw [if_neg e1, if_pos hpar, if_neg e3, if_neg e4]
        have := h1 k k0 kl (by omega)
        rw [kp] at this; exact this)
    obtain ⟨k1, k2⟩ := key
    exact ⟨k1, k2.trans (swp_perm H hi hq)⟩
  | case2 H i h =>
    intro hi hu
    unfold downF; rw [dif_neg h]
    refine ⟨fun k k0 kl => ?_, List.Perm.refl _⟩
    by_cases e : (k - 1) / 2 = i
    · obtain ⟨q1, q2, q3⟩ := kid_min H i k k0 kl e
      rw [e]
      exact le_trans (le_of_not (fun hh => h ⟨q1, hh⟩)) q2
    · exact hu.1 k k0 kl e

theorem addF_ok {H : List (Int × Int)} (h : HeapOk H) (x : Int × Int) : HeapOk (addF H x) ∧ (addF H x).Perm (x :: H) := by
  unfold addF
  have hl : (H ++ [x]).length = H.length + 1 := by simp
  have hn : ∀ j, j < H.length → nth (H ++ [x]) j = nth H j := by
    intro j hj
    unfold nth
    rw [List.getD_eq_getElem?_getD, List.getD_eq_getElem?_getD, List.getElem?_append_left hj]
  have key : _ ∧ _ := upF_ok (H ++ [x]) H.length (by omega) (by
    refine ⟨fun k k0 kl kne => ?_, fun k k0 kl kp p0 => ?_⟩
    · rw [hl] at kl
      rw [hn k (by omega), hn _ (by omega)]
      exact h k k0 (by omega)
    · rw [hl] at kl; omega)
  obtain ⟨h1, h2⟩ := key
  exact ⟨h1, h2.trans (List.perm_append_comm)⟩

theorem remF_ok {H : List (Int × Int)} (h : HeapOk H) (i : Nat) (hi : i < H.length) : HeapOk (remF H i) ∧ H.Perm (nth H i :: remF H i) := by
  have hlast : H = H.take (H.length - 1) ++ [nth H (H.length - 1)] := by
    rw [nth_get H _ (by omega)]
    have h1 := List.take_append_drop (H.length - 1) H
    have h2 : H.drop (H.length - 1) = [H[H.length - 1]'(by omega)] := by
      rw [List.drop_eq_getElem_cons (by omega)]
      have : H.length - 1 + 1 = H.length := by omega
      rw [this, List.drop_length]
    rw [h2] at h1; exact h1.symm
  generalize hx : nth H (H.length - 1) = x at *
  generalize hT : H.take (H.length - 1) = T at *
  have hTl : T.length = H.length - 1 := by rw [← hT]; simp
  have hTn : ∀ j, j < T.length → nth T j = nth H j := by
    intro j hj
    rw [← hT]
    unfold nth
    rw [List.getD_eq_getElem?_getD, List.getD_eq_getElem?_getD, List.getElem?_take_of_lt (by omega)]
  have hst : (H.set i x).take (H.length - 1) = T.set i x := by rw [List.take_set, hT]
  unfold remF
  rw [hx, hst]
  by_cases hlt : i < H.length - 1
  · rw [if_pos hlt]
    have hiT : i < T.length := by omega
    have hS := fun j => nth_set T i j x hiT
    have hSl : (T.set i x).length = T.length := by simp
    -- the order holds away from i
    have away : ∀ k, 0 < k → k < T.length → k ≠ i → (k - 1) / 2 ≠ i → le (nth (T.set i x) ((k - 1) / 2)) (nth (T.set i x) k) := by
      intro k k0 kl e1 e2
      rw [hS, hS, if_neg e1, if_neg e2, hTn _ kl, hTn _ (by omega)]
      exact h k k0 (by omega)
    have over : ∀ k, 0 < k → k < T.length → (k - 1) / 2 = i → 0 < i → le (nth (T.set i x) ((i - 1) / 2)) (nth (T.set i x) k) := by
      intro k k0 kl kp i0
      have e1 : ¬ (i - 1) / 2 = i := by omega
      have e2 : ¬ k = i := by omega
      rw [hS, hS, if_neg e1, if_neg e2, hTn _ (by omega), hTn _ kl]
      have a := h i i0 (by omega)
      have b := h k k0 (by omega)
      rw [kp] at b
      exact le_trans a b
    have perm : H.Perm (nth H i :: T.set i x) := by
      have hset : T.set i x = T.take i ++ x :: T.drop (i + 1) := List.set_eq_take_append_cons_drop.trans (if_pos hiT)
      have hTi : T = T.take i ++ nth H i :: T.drop (i + 1) := by
        rw [← hTn i hiT, nth_get T i hiT]; simp
      rw [hset]
      have h3 : H.Perm (x :: T) := by
        have h4 : (T ++ [x]).Perm (x :: T) := List.perm_append_comm
        rw [← hlast] at h4; exact h4
      refine h3.trans ?_
      have h5 : T.Perm (nth H i :: (T.take i ++ T.drop (i + 1))) := by
        have h6 : (T.take i ++ nth H i :: T.drop (i + 1)).Perm (nth H i :: (T.take i ++ T.drop (i + 1))) := List.perm_middle
        rw [← hTi] at h6; exact h6
      refine (h5.cons x).trans ((List.Perm.swap _ _ _).trans (List.Perm.cons _ ?_))
      exact (List.perm_middle (a := x)).symm
    by_cases hup : 0 < i ∧ lt (nth (T.set i x) i) (nth (T.set i x) ((i - 1) / 2)) = true
    · have key : HeapUp (T.set i x) i := by
        refine ⟨fun k k0 kl kne => ?_, fun k k0 kl kp i0 => over k k0 (by rw [hSl] at kl; exact kl) kp i0⟩
        rw [hSl] at kl
        by_cases e : (k - 1) / 2 = i
        · rw [e]
          exact le_trans (le_of_lt hup.2) (over k k0 kl e hup.1)
        · exact away k k0 kl kne e
      obtain ⟨u1, u2⟩ := upF_ok (T.set i x) i (by rw [hSl]; exact hiT) key
      obtain ⟨d1, d2⟩ := downF_ok (upF (T.set i x) i) i (by rw [upF_length, hSl]; exact hiT) ⟨fun k k0 kl _ => u1 k k0 kl, fun k k0 kl kp i0 => le_trans (u1 i i0 (by omega)) (kp ▸ u1 k k0 kl)⟩
      exact ⟨d1, perm.trans ((d2.trans u2).symm.cons _)⟩
    · have e : upF (T.set i x) i = T.set i x := by unfold upF; rw [dif_neg hup]
      rw [e]
      have key : _ ∧ _ := downF_ok (T.set i x) i (by rw [hSl]; exact hiT) (by
        refine ⟨fun k k0 kl kne => ?_, fun k k0 kl kp i0 => over k k0 (by rw [hSl] at kl; exact kl) kp i0⟩
        · rw [hSl] at kl
          by_cases e : k = i
          · subst e
            exact le_of_not (fun hh => hup ⟨k0, hh⟩)
          · exact away k k0 kl e kne)
      obtain ⟨d1, d2⟩ := key
      exact ⟨d1, perm.trans (d2.symm.cons _)⟩
  · rw [if_neg hlt]
    have e : T.set i x = T := by apply List.set_eq_of_length_le; omega
    have ei : i = H.length - 1 := by omega
    rw [e]
    constructor
    · intro k k0 kl
      rw [hTn _ kl, hTn _ (by omega)]
      exact h k k0 (by omega)
    · rw [ei, hx]
      have h4 : (T ++ [x]).Perm (x :: T) := List.perm_append_comm
      rw [← hlast] at h4; exact h4

/-- at the top the earliest -/
theorem top_min {H : List (Int × Int)} (h : HeapOk H) : ∀ k, k < H.length → le (nth H 0) (nth H k) := by
  intro k
  induction k using Nat.strongRecOn with
  | _ k ih =>
    intro hk
    by_cases k0 : 0 < k
    · exact le_trans (ih ((k - 1) / 2) (by omega) (by omega)) (h k k0 hk)
    · have : k = 0 := by omega
      subst this; exact le_refl _

theorem top_mem {H : List (Int × Int)} (h : HeapOk H) : ∀ x ∈ H, le (nth H 0) x := by
  intro x hx
  obtain ⟨k, hk, rfl⟩ := List.mem_iff_getElem.1 hx
  rw [← nth_get H k hk]
  exact top_min h k hk

/-! ### a tick -/
def popF (H : List (Int × Int)) (now : Int) : List Int × List (Int × Int) :=
  if h : 0 < H.length ∧ (nth H 0).2 ≤ now then ((nth H 0).1 :: (popF (remF H 0) now).1, (popF (remF H 0) now).2) else ([], H)
termination_by H.length
decreasing_by all_goals (rw [remF_length]; omega)

/-- what goes off: in order, each once; the others stay -/
theorem popF_ok (H : List (Int × Int)) (now : Int) : HeapOk H → (H.map (·.1)).Nodup →
    ∃ P, (popF H now).1 = P.map (·.1) ∧ P.Pairwise (fun a b => lt a b = true) ∧ (∀ x ∈ P, x.2 ≤ now) ∧ H.Perm (P ++ (popF H now).2) ∧ HeapOk (popF H now).2 ∧ ∀ x ∈ (popF H now).2, now < x.2 := by
  induction H using popF.induct (now := now) with
  | case1 H h ih =>
    intro ho hn
    obtain ⟨r1, r2⟩ := remF_ok ho 0 h.1
    have hn2 : ((nth H 0 :: remF H 0).map (·.1)).Nodup := (r2.map (·.1)).nodup_iff.1 hn
    rw [List.map_cons, List.nodup_cons] at hn2
    obtain ⟨P, p1, p2, p3, p4, p5, p6⟩ := ih r1 hn2.2
    have e : popF H now = ((nth H 0).1 :: (popF (remF H 0) now).1, (popF (remF H 0) now).2) := by rw [popF, dif_pos h]
    rw [e]
    refine ⟨nth H 0 :: P, by rw [p1]; rfl, ?_, ?_, ?_, p5, p6⟩
    · refine List.pairwise_cons.2 ⟨fun x hx => ?_, p2⟩
      have hm : x ∈ remF H 0 := p4.mem_iff.2 (List.mem_append_left _ hx)
      have hm2 : x ∈ H := r2.mem_iff.2 (List.mem_cons_of_mem _ hm)
      refine lt_of_le (top_mem ho x hm2) (fun he => hn2.1 ?_)
      rw [he]; exact List.mem_map_of_mem hm
    · intro x hx
      rcases List.mem_cons.1 hx with rfl | hx
      · exact h.2
      · exact p3 x hx
    · exact r2.trans (p4.cons _)
  | case2 H h =>
    intro ho hn
    have e : popF H now = ([], H) := by rw [popF, dif_neg h]
    rw [e]
    refine ⟨[], rfl, List.Pairwise.nil, by simp, List.Perm.refl _, ho, fun x hx => ?_⟩
    have hl : 0 < H.length := List.length_pos_of_mem hx
    have h1 : ¬ (nth H 0).2 ≤ now := fun hh => h ⟨hl, hh⟩
    have := top_mem ho x hx
    rw [le_iff] at this
    omega

theorem fidx_lt {H : List (Int × Int)} {id : Int} : fidx H id < H.length ↔ ∃ x ∈ H, x.1 = id := by
  unfold fidx
  rw [List.findIdx_lt_length]
  simp
theorem fidx_id {H : List (Int × Int)} {id : Int} (h : fidx H id < H.length) : (nth H (fidx H id)).1 = id := by
  rw [nth_get H _ h]
  have := List.findIdx_getElem (p := fun p : Int × Int => p.1 == id) (xs := H) (w := h)
  exact eq_of_beq this

end Go.Proofs.Ytnbnjghfmleibaa
