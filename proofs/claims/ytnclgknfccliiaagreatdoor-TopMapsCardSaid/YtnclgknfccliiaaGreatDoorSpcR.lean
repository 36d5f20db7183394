/- The blocks' bytes are read: Decode of what Encode writes. -/
import Derived.Test.YtnclgknfccliiaaGreatDoorSpcQ
set_option linter.unusedVariables false
set_option linter.unusedSimpArgs false
set_option maxRecDepth 100000
namespace Go.Proofs.YtnclgknfccliiaaGreatDoor
open Go Go.CW Go.RowKit

/-- parts laid one behind the other -/
def layR (D : List UInt8) (L : List (Nat × Nat)) (X : List UInt8) : List UInt8 := L.foldl (fun X r => layB X (8 * r.1) (part D r)) X

theorem layB_at {X bs : List UInt8} {o : Nat} (h : o + bs.length ≤ X.length) (j : Nat) : (layB X o bs)[j]? = if o ≤ j ∧ j < o + bs.length then bs[j - o]? else X[j]? := by
  have ht : (X.take o).length = o := by rw [List.length_take]; omega
  unfold layB
  rw [List.append_assoc]
  by_cases h1 : j < o
  · rw [if_neg (by omega), List.getElem?_append_left (by rw [ht]; exact h1), List.getElem?_take, if_pos h1]
  · rw [List.getElem?_append_right (by rw [ht]; omega), ht]
    by_cases h2 : j < o + bs.length
    · rw [if_pos (by omega), List.getElem?_append_left (by omega)]
    · rw [if_neg (by omega), List.getElem?_append_right (by omega), List.getElem?_drop]
      congr 1; omega

theorem layR_length {N : Nat} {D : List UInt8} (hD : D.length = 8 * N) : ∀ (L : List (Nat × Nat)) (X : List UInt8), (∀ r ∈ L, r.1 + r.2 ≤ N) → X.length = 8 * N → (layR D L X).length = 8 * N
  | [], X, _, hX => hX
  | r :: L, X, h, hX => by
    have hr := h r (List.mem_cons_self ..)
    have hp := part_length hD hr
    exact layR_length hD L _ (fun x hx => h x (List.mem_cons_of_mem _ hx)) (by rw [layB_length (by rw [hp, hX]; omega)]; exact hX)

theorem layR_at {N : Nat} {D : List UInt8} (hD : D.length = 8 * N) : ∀ (L : List (Nat × Nat)) (X : List UInt8), (∀ r ∈ L, r.1 + r.2 ≤ N) → X.length = 8 * N → ∀ j,
    ((∃ r ∈ L, r.1 ≤ j / 8 ∧ j / 8 < r.1 + r.2) → (layR D L X)[j]? = D[j]?) ∧ ((¬ ∃ r ∈ L, r.1 ≤ j / 8 ∧ j / 8 < r.1 + r.2) → (layR D L X)[j]? = X[j]?)
  | [], X, _, hX, j => ⟨(fun ⟨r, hr, _⟩ => absurd hr (by simp)), fun _ => rfl⟩
  | r :: L, X, h, hX, j => by
    have hr := h r (List.mem_cons_self ..)
    have hp := part_length hD hr
    have hle : 8 * r.1 + (part D r).length ≤ X.length := by rw [hp, hX]; omega
    obtain ⟨i1, i2⟩ := layR_at hD L (layB X (8 * r.1) (part D r)) (fun x hx => h x (List.mem_cons_of_mem _ hx)) (by rw [layB_length hle]; exact hX) j
    have hb := layB_at hle j
    rw [hp] at hb
    have hin : r.1 ≤ j / 8 ∧ j / 8 < r.1 + r.2 → (layB X (8 * r.1) (part D r))[j]? = D[j]? := fun hh => by
      rw [hb, if_pos (by omega)]
      unfold part
      rw [List.getElem?_take, if_pos (by omega), List.getElem?_drop]
      congr 1; omega
    have hout : ¬ (r.1 ≤ j / 8 ∧ j / 8 < r.1 + r.2) → (layB X (8 * r.1) (part D r))[j]? = X[j]? := fun hh => by
      rw [hb, if_neg (by omega)]
    constructor
    · rintro ⟨x, hx, hj⟩
      by_cases c : ∃ r ∈ L, r.1 ≤ j / 8 ∧ j / 8 < r.1 + r.2
      · exact i1 c
      · rcases List.mem_cons.1 hx with rfl | hx
        · exact (i2 c).trans (hin hj)
        · exact absurd ⟨x, hx, hj⟩ c
    · intro c
      have c1 : ¬ ∃ r ∈ L, r.1 ≤ j / 8 ∧ j / 8 < r.1 + r.2 := fun ⟨x, hx, hj⟩ => c ⟨x, List.mem_cons_of_mem _ hx, hj⟩
      exact (i2 c1).trans (hout fun hj => c ⟨r, List.mem_cons_self .., hj⟩)

/-- what is not mapped is nought -/
def Zero0 (N : Nat) (D M : List UInt8) : Prop := ∀ j, j < 8 * N → has M (j / 8) = false → D[j]? = some 0

theorem layR_all {N : Nat} {D M : List UInt8} (hD : D.length = 8 * N) (hu : Under N M) (hz : Zero0 N D M) : layR D (runsL M) (List.replicate (8 * N) 0) = D := by
  have hin : ∀ r ∈ runsL M, r.1 + r.2 ≤ N := fun r hr => (runsL_le hu r hr).2
  apply List.ext_getElem?
  intro j
  obtain ⟨h1, h2⟩ := layR_at hD (runsL M) (List.replicate (8 * N) 0) hin (by simp) j
  have hc := runsL_cover M (j / 8)
  cases hh : has M (j / 8) with
  | true => exact h1 (hc.2 hh)
  | false =>
    rw [h2 (fun c => by rw [hc.1 c] at hh; cases hh)]
    by_cases hj : j < 8 * N
    · rw [hz j hj hh, List.getElem?_replicate, if_pos hj]
    · rw [List.getElem?_eq_none (by simp; omega), List.getElem?_eq_none (by omega)]

/-- bytes copied onto a whole row -/
theorem copy_row {w : World} {g : Nat} {X bs : List UInt8} (h : RB w g X) (h0 : 0 < X.length) {v : Value} (hv : RdB w v bs) (hl : X.length ≤ bs.length) :
    ∃ w', (Builtin.copy_ #[tM, tB] 3 #[rv g X.length, v]).run Tryz.prog w = .ok (.int .i64 (X.length : Int)) w' ∧ Only g w w' ∧ RB w' g (bs.take X.length) := by
  obtain ⟨a, cap, rfl, q1, q2, q3, q4⟩ := hv
  rw [List.length_map] at q1 ⊢
  have hs : (Tryz.prog.info? tb).map (·.size) = some 1 := by kernel_rfl
  cases a with
  | none => have := q3 rfl; omega
  | some a =>
    have hcl : (((bs.take X.length).map b8)).length = Nat.min bs.length X.length := by rw [List.length_map, List.length_take]; show min _ _ = min _ _; omega
    have hr := run_copy_cells (P := Tryz.prog) w tM tB 3 tb g 0 X.length X.length a bs.length cap ((bs.take X.length).map b8) tM_u hs hcl
        (fun j u hj => by
          rw [List.map_take, List.getElem?_take] at hj
          split at hj
          · obtain ⟨x, hx, hc⟩ := q4 j u hj; cases hx; exact hc
          · cases hj)
        (fun j hj => by
          have hj' : j < X.length := by rw [List.length_map, List.length_take] at hj; omega
          rw [BK.at h]; simp; omega)
        (fun j _ => BK.thaw h _) (fun u hu => by obtain ⟨c, _, rfl⟩ := List.mem_map.1 hu; rfl)
    have hle : 0 + (bs.take X.length).length ≤ X.length := by rw [List.length_take]; omega
    obtain ⟨s1, s2⟩ := lay_step h hle
    refine ⟨_, ?_, s2, ?_⟩
    · rw [hr]
      have : (((bs.take X.length).map b8)).length = X.length := by rw [List.length_map, List.length_take]; omega
      rw [this]; rfl
    · have e : layB X 0 (bs.take X.length) = bs.take X.length := by
        unfold layB
        rw [List.drop_of_length_le (by rw [List.length_take]; omega)]
        simp
      rw [e] at s1
      exact s1

theorem Decode_c {w : World} {v : Value} {b0 g10 g20 N : Nat} {D M : List UInt8} {wo : World} (h0 : SpAt wo b0 g10 g20 N D M) (hu : Under N M) (hz : Zero0 N D M) (hv : RdB w v (encS N D M)) {R : KV}
    (k : ∀ b g1 g2 w', Grow w w' → w.heap.size ≤ b → w.heap.size ≤ g1 → w.heap.size ≤ g2 → SpAt w' b g1 g2 N D M → R (.tuple #[.pointer (some ⟨b, 0, none⟩), .int .i64 (0 : Int)]) w') :
    Go.CW.Spec Tryz.prog 19 #[v] w R := by
  apply space_Decode_wp
  have hN := h0.most
  have hpos := h0.pos
  have hMl := h0.hM
  have hM := h0.mlen
  have hD := h0.hD
  have hlen := encS_length h0 hu
  refine bin_Get_c hv (by decide) (by decide) ⟨_, _, rfl, ?_⟩
  have hget : getV (encS N D M) 0 2 = (N : Int) := by
    have := getV_at (pre := []) (post := M ++ (runsL M).flatMap (part D)) (x := (N : Int)) (n := 2) (by omega) (by omega) (a := 0) (by simp)
    unfold encS
    rw [List.append_assoc]
    rw [List.nil_append] at this
    rw [show ((2 : Nat) : Int) = (2 : Int) from rfl] at this
    rw [this]
    omega
  rw [hget, wi64_id (by omega) (by omega)]
  refine spaceNew_c hpos hN fun b g1 g2 w5 g5 hb hg1 hg2 sp => ⟨_, _, rfl, ?_⟩
  have hz0 : (List.replicate ((N + 7) / 8) (0 : UInt8)).length = M.length := by simp; omega
  refine JoinP.bool (fun q w' => q = false ∧ w' = w5) (fun j hj => cond_f rfl ⟨_, (hv.grow g5).len, withAddr_some ⟨_, by rw [sp.obj.cell]; rfl, _, rfl, hj _ _ ⟨?_, rfl⟩⟩⟩) ?_
  · rw [hz0, wi64_id (by omega) (by omega)]
    simp only [List.length_map, decide_eq_false_iff_not, hlen]; omega
  rintro q w' ⟨rfl, rfl⟩
  refine cond_f rfl (nm fun w10 e10 => ?_)
  have sp10 := sp.grow (drE e10)
  obtain ⟨v13, hs13, hr13⟩ := RdB.from (n := 2) (hv.grow g5) (by omega)
  refine withAddr_some ⟨_, by rw [sp10.obj.cell]; rfl, v13, hs13, nm fun w14 e14 => ?_⟩
  have gd14 := drE e14
  have sp14 := sp.grow gd14
  have g14 : Grow w w14 := g5.then gd14
  obtain ⟨w16, hc, st, rb⟩ := copy_row sp14.map (by rw [hz0]; omega) (hr13.grow gd14) (by rw [List.length_drop, hz0]; omega)
  have g16 : Grow w w16 := Step.to_below (B := w.heap.size) st g14.size (fun k hk => by subst hk; exact hg2) |> g14.trans
  rw [hz0] at rb
  have hmap : ((encS N D M).drop 2).take M.length = M := by
    unfold encS
    rw [List.append_assoc, List.drop_left' (by simp [putL_length]), List.take_left]
  rw [hmap] at rb
  have sp16 := sp14.turned st rb hz0.symm
  refine ⟨_, w16, hc, ?_⟩
  obtain ⟨v17, hs17, hr17⟩ := RdB.from (n := 2 + M.length) hv (by omega)
  rw [hz0, wi64_id (by omega) (by omega)]
  refine ⟨v17, by rw [← hs17]; rfl, withAddr_some ⟨rv g2 M.length, by rw [sp16.obj.cell]; rfl, ?_⟩⟩
  refine runs_c sp16.map (by omega) fun v20 w21 g21 r21 t21 => ⟨_, r21.len, ?_⟩
  have sp21 := sp16.grow g21
  generalize hL : runsL M = L at r21
  have hin : ∀ r ∈ L, r.1 + r.2 ≤ N := fun r hr => (runsL_le hu r (by rw [hL]; exact hr)).2
  have hrest : (encS N D M).drop (2 + M.length) = L.flatMap (part D) := by
    unfold encS
    rw [List.drop_left' (by simp [putL_length]), hL]
  rw [hrest] at hr17
  refine ⟨fun (v24 : Value) (n25 : Int) (w26 : World) => ∃ q : Nat, n25 = (q : Int) ∧ q ≤ L.length ∧ Grow w w26 ∧ SpAt w26 b g1 g2 N (layR D (L.take q) (List.replicate (8 * N) 0)) M ∧ RdB w v24 ((L.drop q).flatMap (part D)) ∧ RdR ER w26 v20 L ∧ (∀ x, v20.ownBlock = some x → x ≠ g1 ∧ x < w26.heap.size),
    fun (_ : Value) (n25 : Int) (_ : World) => ((L.length : Int) - n25).toNat, ⟨0, rfl, Nat.zero_le _, g16.then g21, by simpa [layR] using sp21, by simpa using hr17, r21, fun x hx => ?_⟩, ?_⟩
  · obtain ⟨t1, cs, t2⟩ := t21 x hx
    exact ⟨fun e => by have := sp16.dat.lt; omega, t2.lt⟩
  dsimp only [allR, mapR2, eqN, ltN]
  rintro m v24 n25 w26 ⟨⟨q, rfl, hq, g26, sp26, r24, r26, t26⟩, hm⟩
  refine cond_intro (fun hc => ?_) (fun hc => ?_)
  · have hlt : q < L.length := by simpa using hc
    obtain ⟨a, ha, hld⟩ := runs_ld r26 hlt
    refine ⟨a, ha, _, _, hld, nm fun w30 e30 => ?_⟩
    obtain ⟨bk, gr, sz⟩ := alE e30
    refine ⟨bk.row rfl rfl, nm fun w31 e31 => ?_⟩
    obtain ⟨bk2, tn⟩ := rowE bk e31 rfl
    have g31 : Grow w26 w31 := Below.turn gr tn (Nat.le_refl _)
    have hrin := hin L[q] (List.getElem_mem _)
    have hpl := part_length hD hrin
    have hdr : L.drop q = L[q] :: L.drop (q + 1) := by simp
    have hfl : (L.drop q).flatMap (part D) = part D L[q] ++ (L.drop (q + 1)).flatMap (part D) := by rw [hdr, List.flatMap_cons]
    rw [hfl] at r24
    have hle := r24.le
    rw [List.length_map] at hle
    refine JoinP.bool (fun z w' => z = false ∧ w' = w31.drew) (fun j hj => ?_) ?_
    · refine nm fun w42 e42 => ?_
      have gd := drE e42
      have bk3 := bk2.grow gd
      have sp42 := sp26.grow (g31.then gd)
      refine ⟨⟨by decide, by decide⟩, _, by rw [bk3.cell]; rfl, ⟨by decide, by decide⟩, _, by rw [bk3.cell]; rfl, withAddr_some ⟨(N : Int), by rw [sp42.obj.cell]; rfl, cond_f ?_ ⟨_, r24.len, ⟨by decide, by decide⟩, _, by rw [bk3.cell]; rfl, nm fun w50 e50 => hj _ _ ⟨?_, e50⟩⟩⟩⟩
      · rw [wi64_id (by omega) (by omega), decide_eq_false_iff_not]; omega
      · rw [wi64_id (by omega) (by omega), decide_eq_false_iff_not, List.length_append, hpl]; omega
    rintro z w33 ⟨rfl, e33⟩
    have gd := drE e33
    have g33 := g31.then gd
    have bk3 := bk2.grow gd
    refine cond_f rfl ⟨⟨by decide, by decide⟩, _, by rw [bk3.cell]; rfl, ⟨by decide, by decide⟩, _, by rw [bk3.cell]; rfl, ?_⟩
    refine part_c (sp26.grow g33) hrin ?_
    obtain ⟨w39, hcp, stp, sp39⟩ := copy_part (sp26.grow g33) hrin (r24.grow (g26.then g33)) (tx := tB)
    have hmin : min (8 * L[q].2) (part D L[q] ++ (L.drop (q + 1)).flatMap (part D)).length = 8 * L[q].2 := by rw [List.length_append, hpl]; omega
    rw [hmin] at hcp
    have htk : (part D L[q] ++ (L.drop (q + 1)).flatMap (part D)).take (8 * L[q].2) = part D L[q] := List.take_left' hpl
    rw [htk] at sp39
    have g39 : Grow w w39 := (Step.to_below (B := w.heap.size) stp ((g26.then g33).size) (fun k hk => by subst hk; exact hg1)) |> (g26.then g33).trans
    obtain ⟨v40, hs40, hr40⟩ := RdB.from (n := 8 * L[q].2) r24 (by rw [List.length_append, hpl]; omega)
    rw [List.drop_left' hpl] at hr40
    refine ⟨_, w39, hcp, v40, hs40, ?_⟩
    have hle2 := r26.le
    rw [wi64_id (by omega) (by omega)]
    refine ⟨⟨q + 1, by omega, by omega, g39, ?_, hr40, (r26.grow g33).stable fun x hx => stp.block x (Nat.lt_of_lt_of_le (t26 x hx).2 g33.size) (t26 x hx).1, fun x hx => ⟨(t26 x hx).1, Nat.lt_of_lt_of_le (t26 x hx).2 (Nat.le_trans g33.size stp.size)⟩⟩, by omega⟩
    have e : L.take (q + 1) = L.take q ++ [L[q]] := by rw [List.take_add_one, List.getElem?_eq_getElem hlt]; rfl
    have e2 : layR D (L.take (q + 1)) (List.replicate (8 * N) 0) = layB (layR D (L.take q) (List.replicate (8 * N) 0)) (8 * L[q].1) (part D L[q]) := by
      rw [e]; unfold layR; rw [List.foldl_append]; rfl
    rw [e2]
    exact sp39
  · have hge : q = L.length := by simp at hc; omega
    subst hge
    rw [List.take_length, ← hL, layR_all hD hu hz] at sp26
    refine Encode_c sp26 hu fun v51 w52 g52 r51 => ?_
    refine Equal_c r51 (hv.grow (g26.then g52)) ⟨_, rfl, cond_f (by simp) ?_⟩
    exact k b g1 g2 w52 (g26.then g52) hb hg1 hg2 (sp26.grow g52)

end Go.Proofs.YtnclgknfccliiaaGreatDoor
