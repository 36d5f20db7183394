/- The document's tick; both timers beside each other; the law of plays. -/
import Derived.Test.YtnbnjghfmleibaaTimR
set_option linter.unusedVariables false
set_option linter.unusedSimpArgs false
namespace Go.Proofs.Ytnbnjghfmleibaa
open Go Go.CW Go.RowKit

def offs (L : List (Int × Int)) : List Int := (L.filter (fun x => x.2 - 1 == 0)).map (·.1)
def rest (L : List (Int × Int)) : List (Int × Int) := (L.filter (fun x => !(x.2 - 1 == 0))).map (fun x => (x.1, x.2 - 1))

theorem take_snoc' (L : List (Int × Int)) (i : Nat) (h : i < L.length) : L.take (i + 1) = L.take i ++ [nth L i] := by
  rw [List.take_add_one, List.getElem?_eq_getElem h, nth_get L i h]; rfl

theorem offs_len (L : List (Int × Int)) : (offs L).length ≤ L.length := by
  unfold offs; rw [List.length_map]; exact List.length_filter_le _ _
theorem rest_len (L : List (Int × Int)) : (rest L).length ≤ L.length := by
  unfold rest; rw [List.length_map]; exact List.length_filter_le _ _

theorem TickR_c {w : World} {b : Nat} {v : Value} {L : List (Int × Int)} {now : Int} {R : KV} (h : RS w b v L now) (hs : L.length ≤ 1000000) (hw : 0 ≤ now ∧ now ≤ 1000000000000) (hL : ∀ x ∈ L, 1 ≤ x.2 ∧ x.2 ≤ 1073741824)
    (c : ∀ v' vo w', Step (FT b v) w w' (FT b v') → RS w' b v' (rest L) (now + 1) → RdR E1 w' vo (offs L) → R vo w') :
    Go.CW.Spec Try.prog 18 #[.pointer (some ⟨b, 0, none⟩)] w R := by
  apply gemelref10_Timers_Tick_m_wp
  refine withAddr_some ⟨now, h.c1, withAddr_some ?_⟩
  rw [wi64_id (n := now + 1) (by omega) (by omega)]
  obtain ⟨s1, t1⟩ := h.setNow (now + 1)
  have st1 : Step (FT b v) w (w.setCell (Addr.add ⟨b, 0, none⟩ 1) (.int .i64 (now + 1))) (FT b v) := Step.setA w _ _ (.inl (add_block _ _))
  generalize w.setCell (Addr.add ⟨b, 0, none⟩ 1) (.int .i64 (now + 1)) = w1 at *
  generalize now + 1 = n1 at *
  refine ⟨s1, fun (v4 v5 : Value) (i : Int) (ww : World) => 0 ≤ i ∧ i ≤ L.length ∧ Grow w1 ww ∧ OwnR E1 ww w1.heap.size tI v4 (offs (L.take i.toNat)) ∧ OwnR E2 ww w1.heap.size tE v5 (rest (L.take i.toNat)) ∧ (∀ k, v4.ownBlock = some k → v5.ownBlock ≠ some k),
    fun (_ _ : Value) (i : Int) (_ : World) => (L.length - i).toNat, ⟨by omega, by omega, Grow.refl _, OwnR.nil _ _ _, OwnR.nil _ _ _, (fun k hk => by cases hk)⟩, ?_⟩
  dsimp only [allR, mapR2, eqN, ltN]
  rintro m v4 v5 i ww ⟨⟨h0, h1, g, o4, o5, hdis⟩, hm⟩
  have t := t1.grow g
  refine withAddr_some ⟨_, t.c0, _, t.row.rd.len, cond_intro (fun h2 => ?_) (fun h2 => ?_)⟩
  · simp at h2
    have ep : (i + 1).toNat = i.toNat + 1 := by omega
    have htk := take_snoc' L i.toNat (by omega)
    have hx := hL (nth L i.toNat) (by rw [nth_get L _ (by omega)]; exact List.getElem_mem _)
    refine JoinP.val2 (fun v11 v12 w' => Grow w1 w' ∧ OwnR E1 w' w1.heap.size tI v11 (offs (L.take (i.toNat + 1))) ∧ OwnR E2 w' w1.heap.size tE v12 (rest (L.take (i.toNat + 1))) ∧ (∀ k, v11.ownBlock = some k → v12.ownBlock ≠ some k)) (fun j hj => ?_) ?_
    · obtain ⟨a, ha, _, la, _, _, _, _⟩ := t.elt h0 h2
      generalize nth L i.toNat = x at *
      refine withAddr_some ⟨_, t.c0, a, ha, _, _, la, ?_⟩
      -- the local copy
      have b0 := BK.new ww #[.int .i64 0, .int .i64 0] tE
      have ga : Grow ww _ := Grow.al (Grow.refl ww) (.cells #[.int .i64 0, .int .i64 0] tE)
      have r0 := b0.row (ds := #[.int .i64 x.1, .int .i64 x.2]) rfl rfl
      have b1 := b0.strow (ds := #[.int .i64 x.1, .int .i64 x.2]) rfl
      have gb := Below.strow ga (p := ⟨ww.heap.size, 0, none⟩) (Nat.le_refl _) #[.int .i64 x.1, .int .i64 x.2]
      generalize stRow _ ⟨ww.heap.size, 0, none⟩ #[.int .i64 x.1, .int .i64 x.2] = W1 at *
      have c1 := b1.cell 1
      have s2 := b1.st1 (j := 1) (by simp)
      rw [← ad0] at s2
      have b2 := b1.set 1 (.int .i64 (x.2 - 1))
      rw [← ad0] at b2
      have gc : Grow ww (W1.setCell (Addr.add ⟨ww.heap.size, 0, none⟩ 1) (.int .i64 (x.2 - 1))) := Below.setCell gb (p := Addr.add ⟨ww.heap.size, 0, none⟩ 1) (by rw [add_block]; exact Nat.le_refl _) _
      refine ⟨r0, x.2, c1, s2, ?_⟩
      rw [wi64_id (n := x.2 - 1) (by omega) (by omega)]
      generalize W1.setCell (Addr.add ⟨ww.heap.size, 0, none⟩ 1) (.int .i64 (x.2 - 1)) = W2 at *
      have g2 := g.then gc
      have lo := offs_len (L.take i.toNat)
      have lr := rest_len (L.take i.toNat)
      rw [List.length_take] at lo lr
      refine ⟨x.2 - 1, b2.cell 1, cond_intro (fun hz => ?_) (fun hz => ?_)⟩
      · have gl : Grow W2 _ := Grow.al (Grow.refl W2) (.cells #[.int .i64 x.1] tI)
        obtain ⟨v23, w24, h23, o23, n23⟩ := app_ownR tyI ((o4.grow gc).grow gl) (OwnR.lit (E := E1) W2 (Nat.le_refl _) tI [x.1] 1 rfl (by simp [maxLen])).rd (by simp; omega) (Nat.le_trans g2.size gl.size)
        have e1 : offs (L.take (i.toNat + 1)) = offs (L.take i.toNat) ++ [x.1] := by
          rw [htk]; unfold offs; rw [List.filter_append, List.map_append, List.filter_cons_of_pos (by exact hz)]; rfl
        have e2 : rest (L.take (i.toNat + 1)) = rest (L.take i.toNat) := by
          rw [htk]; unfold rest; rw [List.filter_append, List.map_append, List.filter_cons_of_neg (by simp only [hz]; decide)]; simp
        refine ⟨x.1, b2.cell 0, v23, w24, h23, hj _ _ _ ⟨(g2.then gl).trans (n23.below (Nat.le_trans g2.size gl.size) (fun k hk => (((o4.grow gc).grow gl).lt k hk).1)), by rw [e1]; exact o23, ?_, fun k hk => ?_⟩⟩
        · rw [e2]
          exact (o5.grow (gc.then gl)).stable fun k hk => n23.by_.block k ((o5.grow (gc.then gl)).lt k hk).2 (fun e => hdis k e.symm hk)
        · rcases n23.at_ with e | e
          · exact hdis k (e ▸ hk)
          · intro hk5
            have := e k hk
            have := ((o5.grow (gc.then gl)).lt k hk5).2
            omega
      · have gl : Grow W2 _ := Grow.al (Grow.refl W2) (.cells #[.int .i64 x.1, .int .i64 (x.2 - 1)] tE)
        obtain ⟨v27, w28, h27, o27, n27⟩ := app_ownR tyE ((o5.grow gc).grow gl) (OwnR.lit (E := E2) W2 (Nat.le_refl _) tE [(x.1, x.2 - 1)] 1 rfl (by simp [maxLen])).rd (by simp; omega) (Nat.le_trans g2.size gl.size)
        have e1 : offs (L.take (i.toNat + 1)) = offs (L.take i.toNat) := by
          rw [htk]; unfold offs; rw [List.filter_append, List.map_append, List.filter_cons_of_neg (by rw [hz]; decide)]; simp
        have e2 : rest (L.take (i.toNat + 1)) = rest (L.take i.toNat) ++ [(x.1, x.2 - 1)] := by
          rw [htk]; unfold rest; rw [List.filter_append, List.map_append, List.filter_cons_of_pos (by simp only [hz]; decide)]; rfl
        refine ⟨x.1, x.2 - 1, b2.ld rfl, v27, w28, h27, hj _ _ _ ⟨(g2.then gl).trans (n27.below (Nat.le_trans g2.size gl.size) (fun k hk => (((o5.grow gc).grow gl).lt k hk).1)), ?_, by rw [e2]; exact o27, fun k hk => ?_⟩⟩
        · rw [e1]
          exact (o4.grow (gc.then gl)).stable fun k hk => n27.by_.block k ((o4.grow (gc.then gl)).lt k hk).2 (fun e => hdis k hk e.symm)
        · rcases n27.at_ with e | e
          · rw [e]; exact hdis k hk
          · intro hk5
            have := e k hk5
            have := ((o4.grow (gc.then gl)).lt k hk).2
            omega
    · rintro v11 v12 w13 ⟨k1, k2, k3, k4⟩
      rw [wi64_id (n := i + 1) (by omega) (by omega), ep]
      exact ⟨⟨by omega, by omega, k1, k2, k3, k4⟩, by omega⟩
  · simp at h2
    rw [List.take_of_length_le (by omega)] at o4 o5
    have hne := own_ne o5 t1.blk.lt
    obtain ⟨s9, t9⟩ := t.setV (o5.mono (Nat.zero_le _)) hne
    refine withAddr_some (oneK_intro (own_isOne o5) ⟨s9, c v5 v4 _ ?_ t9 ?_⟩)
    · refine (((st1.then (Step.of_grow g)).then (Step.setA ww _ v5 (.inl (add_block _ _))))).imp (fun k h => h) (fun k hk => ?_)
      rcases hk with hk | hk
      · exact .inl (.inl hk)
      · exact .inr (Nat.le_trans st1.size (o5.lt k hk).1)
    · refine o4.rd.stable fun k hk => Below.heap_setCell ww _ v5 k (fun e => ?_)
      rw [add_block] at e
      have h3 := (o4.lt k hk).1
      have h4 : b < w1.heap.size := t1.blk.lt
      simp only at e
      omega

/-! ### both -/
def Srt (L : List (Int × Int)) : Prop := L.Pairwise (fun a b => a.1 < b.1)

structure Rel (H : List (Int × Int)) (now : Int) (L : List (Int × Int)) : Prop where
  good : Good H now
  srt : Srt L
  mem : ∀ x, x ∈ L ↔ (x.1, x.2 + now) ∈ H
  len : L.length = H.length
  up : ∀ x ∈ L, x.2 ≤ 1073741824

theorem Rel.pos {H L : List (Int × Int)} {now : Int} (r : Rel H now L) : ∀ x ∈ L, 1 ≤ x.2 ∧ x.2 ≤ 1073741824 := fun x hx => by
  have h1 := r.good.ahead _ ((r.mem x).1 hx)
  have := r.up x hx
  simp at h1
  omega
theorem Rel.nil : Rel [] 0 [] := ⟨Good.nil 0, List.Pairwise.nil, by simp, rfl, by simp⟩

theorem srt_at {L : List (Int × Int)} (s : Srt L) (id : Int) : (∀ i, i < atF L id → i < L.length → (nth L i).1 < id) ∧ (∀ i, atF L id ≤ i → i < L.length → id ≤ (nth L i).1) := by
  constructor
  · intro i h1 h2
    have h3 := List.not_of_lt_findIdx (p := fun p : Int × Int => decide (id ≤ p.1)) (xs := L) (i := i) h1
    simp only [decide_eq_true_eq, Int.not_le, decide_eq_false_iff_not] at h3
    rw [nth_get L i h2]; exact h3
  · intro i h1 h2
    have h3 := List.findIdx_getElem (p := fun p : Int × Int => decide (id ≤ p.1)) (xs := L) (w := by show atF L id < L.length; omega)
    have h4 : decide (id ≤ (L[atF L id]'(by omega)).1) = true := h3
    simp only [decide_eq_true_eq] at h4
    by_cases e : atF L id = i
    · subst e; rw [nth_get L _ h2]; exact h4
    · have := List.pairwise_iff_getElem.1 s (atF L id) i (by omega) h2 (by omega)
      rw [nth_get L i h2]; omega

theorem has_iff {L : List (Int × Int)} (s : Srt L) (id : Int) : hasF L id = true ↔ ∃ x ∈ L, x.1 = id := by
  obtain ⟨s1, s2⟩ := srt_at s id
  constructor
  · intro h
    have hlt : atF L id < L.length ∧ (nth L (atF L id)).1 = id := by simpa [hasF] using h
    exact ⟨nth L (atF L id), by rw [nth_get L _ hlt.1]; exact List.getElem_mem _, hlt.2⟩
  · rintro ⟨x, hx, rfl⟩
    obtain ⟨k, hk, rfl⟩ := List.mem_iff_getElem.1 hx
    have e : atF L (L[k]).1 = k := by
      rcases Nat.lt_trichotomy (atF L (L[k]).1) k with h | h | h
      · exfalso
        have h1 := s2 (atF L (L[k]).1) (Nat.le_refl _) (by omega)
        have h2 := List.pairwise_iff_getElem.1 s (atF L (L[k]).1) k (by omega) hk h
        rw [nth_get L _ (by omega)] at h1
        omega
      · exact h
      · exfalso
        have h1 := s1 k h hk
        rw [nth_get L _ hk] at h1
        omega
    simp only [hasF, e, Bool.and_eq_true, decide_eq_true_eq, beq_iff_eq]
    exact ⟨hk, by rw [nth_get L _ hk]⟩

theorem Rel.has {H L : List (Int × Int)} {now : Int} (r : Rel H now L) (id : Int) : hasF L id = decide (fidx H id < H.length) := by
  rw [Bool.eq_iff_iff, has_iff r.srt, decide_eq_true_eq, fidx_lt]
  constructor
  · rintro ⟨x, hx, rfl⟩; exact ⟨_, (r.mem x).1 hx, rfl⟩
  · rintro ⟨x, hx, rfl⟩
    refine ⟨(x.1, x.2 - now), (r.mem _).2 ?_, rfl⟩
    have e : (x.1, x.2 - now + now) = x := by rw [Int.sub_add_cancel]
    rw [e]; exact hx

theorem srt_uniq {L : List (Int × Int)} (s : Srt L) {x y : Int × Int} (hx : x ∈ L) (hy : y ∈ L) (e : x.1 = y.1) : x = y := by
  obtain ⟨i, hi, rfl⟩ := List.mem_iff_getElem.1 hx
  obtain ⟨j, hj, rfl⟩ := List.mem_iff_getElem.1 hy
  rcases Nat.lt_trichotomy i j with h | h | h
  · have := List.pairwise_iff_getElem.1 s i j hi hj h; omega
  · subst h; rfl
  · have := List.pairwise_iff_getElem.1 s j i hj hi h; omega

/-- the document's list with one put in -/
theorem srt_ins {L : List (Int × Int)} (s : Srt L) (id n : Int) (h : hasF L id = false) :
    Srt (L.take (atF L id) ++ (id, n) :: L.drop (atF L id)) := by
  obtain ⟨s1, s2⟩ := srt_at s id
  have hn : ¬ ∃ x ∈ L, x.1 = id := by rw [← has_iff s, h]; simp
  unfold Srt
  rw [List.pairwise_append]
  refine ⟨s.sublist (List.take_sublist _ _), List.pairwise_cons.2 ⟨fun y hy => ?_, s.sublist (List.drop_sublist _ _)⟩, fun x hx y hy => ?_⟩
  · obtain ⟨k, hk, rfl⟩ := List.mem_iff_getElem.1 hy
    rw [List.length_drop] at hk
    have h1 := s2 (atF L id + k) (by omega) (by omega)
    rw [nth_get L _ (by omega)] at h1
    have hm : (L[atF L id + k]'(by omega)) ∈ L := List.getElem_mem _
    have hne : (L[atF L id + k]'(by omega)).1 ≠ id := fun e => hn ⟨_, hm, e⟩
    rw [List.getElem_drop]
    show id < _
    omega
  · obtain ⟨k, hk, rfl⟩ := List.mem_iff_getElem.1 hx
    rw [List.length_take] at hk
    have h1 := s1 k (by omega) (by omega)
    rw [nth_get L _ (by omega)] at h1
    rw [List.getElem_take]
    rcases List.mem_cons.1 hy with rfl | hy
    · exact h1
    · obtain ⟨q, hq, rfl⟩ := List.mem_iff_getElem.1 hy
      rw [List.length_drop] at hq
      have h2 := s2 (atF L id + q) (by omega) (by omega)
      rw [nth_get L _ (by omega)] at h2
      rw [List.getElem_drop]
      omega

theorem srt_set {L : List (Int × Int)} (s : Srt L) (k : Nat) (hk : k < L.length) (n : Int) : Srt (L.set k ((nth L k).1, n)) := by
  unfold Srt
  rw [nth_get L k hk, List.pairwise_iff_getElem]
  intro i j hi hj hij
  rw [List.length_set] at hi hj
  have := List.pairwise_iff_getElem.1 s i j hi hj hij
  rw [List.getElem_set, List.getElem_set]
  by_cases e1 : k = i
  · subst e1
    rw [if_pos rfl, if_neg (by omega)]; exact this
  · rw [if_neg e1]
    by_cases e2 : k = j
    · subst e2
      rw [if_pos rfl]; exact this
    · rw [if_neg e2]; exact this

theorem Rel.setT {H L : List (Int × Int)} {now id n : Int} (r : Rel H now L) (hl : H.length ≤ 256) :
    (setF H now id n).1 = (setR L id n).1 ∧ Rel (setF H now id n).2 now (setR L id n).2 ∧ (setF H now id n).2.length ≤ 256 := by
  by_cases hb : n < 1 ∨ n > 1073741824
  · unfold setF setR
    rw [if_pos hb, if_pos hb]
    exact ⟨rfl, r, hl⟩
  have hh := r.has id
  by_cases hf : fidx H id < H.length
  · rw [decide_eq_true hf] at hh
    obtain ⟨s0, s1, s2⟩ := r.good.set (id := id) (n := n) (by omega) (by omega) (.inl hf)
    obtain ⟨q1, q2⟩ := r.good.rem hf
    have hsl := q2.length_eq
    rw [remF_length] at hsl
    have hR : setR L id n = (0, L.set (atF L id) (id, n)) := by unfold setR; rw [if_neg hb, if_pos hh]
    have hlt : atF L id < L.length ∧ (nth L (atF L id)).1 = id := by simpa [hasF] using hh
    rw [hR, s0]
    refine ⟨rfl, ⟨s1, ?_, fun x => ?_, ?_, fun x hx => ?_⟩, ?_⟩
    · have := srt_set r.srt _ hlt.1 n
      rw [hlt.2] at this; exact this
    · rw [s2.mem_iff, List.mem_cons, List.mem_filter, ← r.mem]
      have hat : nth L (atF L id) ∈ L := by rw [nth_get L _ hlt.1]; exact List.getElem_mem _
      constructor
      · intro hx
        obtain ⟨k, hk, rfl⟩ := List.mem_iff_getElem.1 hx
        rw [List.length_set] at hk
        rw [List.getElem_set]
        by_cases e : atF L id = k
        · rw [if_pos e]; left; simp; omega
        · rw [if_neg e]; right
          refine ⟨List.getElem_mem _, ?_⟩
          simp only [bne_iff_ne, ne_eq]
          intro e2
          have h3 := srt_uniq r.srt hat (List.getElem_mem hk) (by rw [hlt.2, e2])
          rw [nth_get L _ hlt.1] at h3
          rcases Nat.lt_trichotomy (atF L id) k with h | h | h
          · have := List.pairwise_iff_getElem.1 r.srt _ _ hlt.1 hk h; rw [h3] at this; omega
          · exact e h
          · have := List.pairwise_iff_getElem.1 r.srt _ _ hk hlt.1 h; rw [h3] at this; omega
      · rintro (h | ⟨h, hne⟩)
        · simp only [Prod.mk.injEq] at h
          have ex : x = (id, n) := by rw [Prod.ext_iff]; simp; omega
          rw [ex]
          exact List.mem_iff_getElem.2 ⟨atF L id, by rw [List.length_set]; exact hlt.1, by rw [List.getElem_set, if_pos rfl]⟩
        · obtain ⟨k, hk, e⟩ := List.mem_iff_getElem.1 h
          have hkn : atF L id ≠ k := by
            intro e2
            subst e2
            simp only [bne_iff_ne, ne_eq] at hne
            apply hne
            rw [← e, ← nth_get L _ hlt.1]; exact hlt.2
          exact List.mem_iff_getElem.2 ⟨k, by rw [List.length_set]; exact hk, by rw [List.getElem_set, if_neg hkn]; exact e⟩
    · have := r.len
      rw [List.length_set, s2.length_eq, List.length_cons, ← hsl]
      omega
    · rcases List.mem_or_eq_of_mem_set hx with h | h
      · exact r.up x h
      · rw [h]; dsimp only; omega
    · rw [s2.length_eq, List.length_cons, ← hsl]; omega
  · rw [decide_eq_false hf] at hh
    have hR : setR L id n = if L.length ≥ 256 then (7, L) else (0, L.take (atF L id) ++ (id, n) :: L.drop (atF L id)) := by
      unfold setR; rw [if_neg hb, if_neg (by rw [hh]; simp)]
    by_cases h256 : H.length ≥ 256
    · have hF : setF H now id n = (7, H) := by unfold setF; rw [if_neg hb, if_neg hf, if_pos h256]
      rw [hF, hR, if_pos (by rw [r.len]; exact h256)]
      exact ⟨rfl, r, hl⟩
    · obtain ⟨s0, s1, s2⟩ := r.good.set (id := id) (n := n) (by omega) (by omega) (.inr (by omega))
      rw [sans_of_none hf] at s2
      rw [hR, if_neg (by rw [r.len]; exact h256), s0]
      have hmem : ∀ x, x ∈ L.take (atF L id) ++ (id, n) :: L.drop (atF L id) ↔ x = (id, n) ∨ x ∈ L := fun x => by
        have h1 : x ∈ L ↔ x ∈ L.take (atF L id) ∨ x ∈ L.drop (atF L id) := by rw [← List.mem_append, List.take_append_drop]
        rw [List.mem_append, List.mem_cons, h1]
        constructor
        · rintro (h | h | h)
          · exact .inr (.inl h)
          · exact .inl h
          · exact .inr (.inr h)
        · rintro (h | h | h)
          · exact .inr (.inl h)
          · exact .inl h
          · exact .inr (.inr h)
      refine ⟨rfl, ⟨s1, srt_ins r.srt id n hh, fun x => ?_, ?_, fun x hx => ?_⟩, ?_⟩
      · rw [hmem, s2.mem_iff, List.mem_cons, r.mem]
        have : x = (id, n) ↔ (x.1, x.2 + now) = (id, now + n) := by
          rw [Prod.ext_iff, Prod.ext_iff]
          simp only
          omega
        rw [this]
      · have := r.len
        have hidx : atF L id ≤ L.length := List.findIdx_le_length
        rw [s2.length_eq, List.length_cons]
        simp; omega
      · rcases (hmem x).1 hx with h | h
        · rw [h]; dsimp only; omega
        · exact r.up x h
      · rw [s2.length_eq, List.length_cons]; omega

theorem Rel.stopT {H L : List (Int × Int)} {now id : Int} (r : Rel H now L) :
    Rel (if fidx H id < H.length then remF H (fidx H id) else H) now (if hasF L id = true then L.take (atF L id) ++ L.drop (atF L id + 1) else L) := by
  have hh := r.has id
  by_cases hf : fidx H id < H.length
  · rw [decide_eq_true hf] at hh
    rw [if_pos hf, if_pos hh]
    obtain ⟨q1, q2⟩ := r.good.rem hf
    have hsl := q2.length_eq
    have hlt : atF L id < L.length ∧ (nth L (atF L id)).1 = id := by simpa [hasF] using hh
    have hsplit : L = L.take (atF L id) ++ nth L (atF L id) :: L.drop (atF L id + 1) := by rw [nth_get L _ hlt.1]; simp
    have hsrt := r.srt
    unfold Srt at hsrt
    rw [hsplit, List.pairwise_append, List.pairwise_cons] at hsrt
    obtain ⟨p1, ⟨p2, p3⟩, p4⟩ := hsrt
    refine ⟨q1, ?_, fun x => ?_, ?_, fun x hx => ?_⟩
    · unfold Srt
      rw [List.pairwise_append]
      exact ⟨p1, p3, fun a ha b hb => p4 a ha b (List.mem_cons_of_mem _ hb)⟩
    · rw [q2.mem_iff, List.mem_filter, ← r.mem]
      have h1 : x ∈ L ↔ x ∈ L.take (atF L id) ∨ x = nth L (atF L id) ∨ x ∈ L.drop (atF L id + 1) := by
        conv => lhs; rw [hsplit]
        rw [List.mem_append, List.mem_cons]
      rw [List.mem_append, h1]
      simp only [bne_iff_ne, ne_eq]
      constructor
      · rintro (h | h)
        · have := p4 x h _ (List.mem_cons_self)
          exact ⟨.inl h, by omega⟩
        · have := p2 x h
          exact ⟨.inr (.inr h), by omega⟩
      · rintro ⟨h | h | h, hne⟩
        · exact .inl h
        · exact absurd (by rw [h]; exact hlt.2) hne
        · exact .inr h
    · have := r.len
      rw [remF_length]
      simp; omega
    · apply r.up x
      rw [hsplit, List.mem_append, List.mem_cons]
      rcases List.mem_append.1 hx with h | h
      · exact .inl h
      · exact .inr (.inr h)
  · rw [decide_eq_false hf] at hh
    rw [if_neg hf, if_neg (by rw [hh]; simp)]
    exact r

/-- two rising rows of the same numbers are one -/
theorem rising_ext : ∀ {A B : List Int}, A.Pairwise (· < ·) → B.Pairwise (· < ·) → (∀ x, x ∈ A ↔ x ∈ B) → A = B
  | [], [], _, _, _ => rfl
  | [], b :: B, _, _, h => by have := (h b).2 (by simp); simp at this
  | a :: A, [], _, _, h => by have := (h a).1 (by simp); simp at this
  | a :: A, b :: B, ha, hb, h => by
    rw [List.pairwise_cons] at ha hb
    have e : a = b := by
      have h1 := (h a).1 (by simp)
      have h2 := (h b).2 (by simp)
      rcases List.mem_cons.1 h1 with h3 | h3
      · exact h3
      · rcases List.mem_cons.1 h2 with h4 | h4
        · exact h4.symm
        · have := hb.1 a h3
          have := ha.1 b h4
          omega
    subst e
    congr 1
    refine rising_ext ha.2 hb.2 fun x => ?_
    constructor
    · intro hx
      rcases List.mem_cons.1 ((h x).1 (List.mem_cons_of_mem _ hx)) with h3 | h3
      · have := ha.1 x hx; omega
      · exact h3
    · intro hx
      rcases List.mem_cons.1 ((h x).2 (List.mem_cons_of_mem _ hx)) with h3 | h3
      · have := hb.1 x hx; omega
      · exact h3

theorem filter_two (p : Int × Int → Bool) : ∀ L : List (Int × Int), (L.filter p).length + (L.filter (fun x => !(p x))).length = L.length
  | [] => rfl
  | x :: L => by
    have ih := filter_two p L
    cases h : p x
    · rw [List.filter_cons_of_neg (by rw [h]; decide), List.filter_cons_of_pos (by rw [h]; rfl), List.length_cons, List.length_cons]; omega
    · rw [List.filter_cons_of_pos h, List.filter_cons_of_neg (by rw [h]; decide), List.length_cons, List.length_cons]; omega

theorem Rel.tickT {H L : List (Int × Int)} {now : Int} (r : Rel H now L) : (popF H (now + 1)).1 = offs L ∧ Rel (popF H (now + 1)).2 (now + 1) (rest L) := by
  obtain ⟨q1, q2, q3, q4, q5⟩ := r.good.tick
  have e1 : (popF H (now + 1)).1 = offs L := by
    refine rising_ext q2 ?_ fun id => ?_
    · unfold offs
      rw [List.pairwise_map]
      exact r.srt.sublist List.filter_sublist
    · rw [q3]
      unfold offs
      rw [List.mem_map]
      constructor
      · intro h
        refine ⟨(id, 1), List.mem_filter.2 ⟨(r.mem _).2 ?_, by simp⟩, rfl⟩
        have : (1 : Int) + now = now + 1 := by omega
        rw [this]; exact h
      · rintro ⟨x, hx, rfl⟩
        obtain ⟨h1, h2⟩ := List.mem_filter.1 hx
        simp only [beq_iff_eq] at h2
        have := (r.mem x).1 h1
        have e : x.2 + now = now + 1 := by omega
        rw [e] at this; exact this
  refine ⟨e1, q1, ?_, fun x => ?_, ?_, fun x hx => ?_⟩
  · unfold Srt rest
    rw [List.pairwise_map]
    exact r.srt.sublist List.filter_sublist
  · rw [q4]
    unfold rest
    rw [List.mem_map]
    constructor
    · rintro ⟨y, hy, rfl⟩
      obtain ⟨h1, h2⟩ := List.mem_filter.1 hy
      simp only [Bool.not_eq_true', beq_eq_false_iff_ne, ne_eq] at h2
      have := (r.mem y).1 h1
      have e : y.2 - 1 + (now + 1) = y.2 + now := by omega
      dsimp only
      rw [e]
      exact ⟨this, by omega⟩
    · rintro ⟨h1, h2⟩
      dsimp only at h2
      refine ⟨(x.1, x.2 + 1), List.mem_filter.2 ⟨(r.mem _).2 ?_, ?_⟩, ?_⟩
      · dsimp only
        have e : x.2 + 1 + now = x.2 + (now + 1) := by omega
        rw [e]; exact h1
      · simp only [Bool.not_eq_true', beq_eq_false_iff_ne, ne_eq]; omega
      · rw [Prod.ext_iff]; simp
  · have h1 : (offs L).length + (rest L).length = L.length := by
      unfold offs rest
      rw [List.length_map, List.length_map]
      exact filter_two _ L
    rw [← e1] at h1
    have := r.len
    omega
  · unfold rest at hx
    obtain ⟨y, hy, rfl⟩ := List.mem_map.1 hx
    have := r.up y (List.mem_filter.1 hy).1
    dsimp only; omega

theorem Rel.leftT {H L : List (Int × Int)} {now id : Int} (r : Rel H now L) (h : fidx H id < H.length) : (nth H (fidx H id)).2 - now = (nth L (atF L id)).2 := by
  have hh := r.has id
  rw [decide_eq_true h] at hh
  have hlt : atF L id < L.length ∧ (nth L (atF L id)).1 = id := by simpa [hasF] using hh
  have h1 : nth L (atF L id) ∈ L := by rw [nth_get L _ hlt.1]; exact List.getElem_mem _
  have h2 := (r.mem _).1 h1
  have h3 : nth H (fidx H id) ∈ H := by rw [nth_get H _ h]; exact List.getElem_mem _
  have h4 := r.good.uniq h3 h2 (by rw [fidx_id h]; exact hlt.2.symm)
  rw [h4]; dsimp only; omega

theorem minF_spec : ∀ (L : List (Int × Int)) (n : Int), minF L n ≤ n ∧ (∀ x ∈ L, minF L n ≤ x.2) ∧ (minF L n = n ∨ ∃ x ∈ L, minF L n = x.2)
  | [], n => ⟨Int.le_refl _, by simp, .inl rfl⟩
  | x :: L, n => by
    obtain ⟨h1, h2, h3⟩ := minF_spec L (if x.2 < n then x.2 else n)
    simp only [minF]
    refine ⟨?_, fun y hy => ?_, ?_⟩
    · by_cases c : x.2 < n
      · rw [if_pos c] at h1 ⊢; omega
      · rw [if_neg c] at h1 ⊢; exact h1
    · rcases List.mem_cons.1 hy with e | hy
      · rw [e]
        by_cases c : x.2 < n
        · rw [if_pos c] at h1 ⊢; exact h1
        · rw [if_neg c] at h1 ⊢; omega
      · exact h2 y hy
    · rcases h3 with h3 | ⟨y, hy, h3⟩
      · by_cases e : x.2 < n
        · rw [if_pos e] at h3 ⊢; exact .inr ⟨x, by simp, h3⟩
        · rw [if_neg e] at h3 ⊢; exact .inl h3
      · exact .inr ⟨y, List.mem_cons_of_mem _ hy, h3⟩

theorem Rel.nextT {H L : List (Int × Int)} {now : Int} (r : Rel H now L) (h : H ≠ []) : (nth H 0).2 - now = minF L (nth L 0).2 := by
  have hl : 0 < H.length := List.length_pos_iff.2 h
  have hL : 0 < L.length := by rw [r.len]; exact hl
  obtain ⟨m1, m2, m3⟩ := minF_spec L (nth L 0).2
  have hm0 : nth L 0 ∈ L := by rw [nth_get L 0 hL]; exact List.getElem_mem _
  have hex : ∃ x ∈ L, minF L (nth L 0).2 = x.2 := by
    rcases m3 with e | e
    · exact ⟨_, hm0, e⟩
    · exact e
  obtain ⟨x, hx, ex⟩ := hex
  have h1 := top_mem r.good.ok _ ((r.mem x).1 hx)
  rw [le_iff] at h1
  have h2 : nth H 0 ∈ H := nth_mem hl
  have h3 : ((nth H 0).1, (nth H 0).2 - now) ∈ L := (r.mem _).2 (by
    have e : ((nth H 0).1, (nth H 0).2 - now + now) = nth H 0 := by rw [Int.sub_add_cancel]
    rw [e]; exact h2)
  have h4 := m2 _ h3
  dsimp only at h1 h4
  omega

end Go.Proofs.Ytnbnjghfmleibaa
