/- The contract of Decode. -/
import Derived.Test.YtooeeodkaeimeaaPduQ
set_option linter.unusedVariables false
set_option linter.unusedSimpArgs false
set_option maxRecDepth 100000
namespace Go.Proofs.Ytooeeodkaeimeaa
open Go Go.CW Go.RowKit Go.Crc

/-- the data that are told -/
def decDs (bs : List UInt8) : List UInt8 := if decE bs = 0 then decD bs else []

theorem dn_le {bs : List UInt8} (h : frontE bs = 0) : dn bs ≤ 4096 ∧ 52 ≤ bs.length := by
  unfold frontE at h
  split at h
  · cases h
  · split at h
    · split at h
      · cases h
      · split at h
        · cases h
        · unfold dn; omega
    · cases h

theorem wholeW (n : Nat) (h : n ≤ 4096) : IntKind.wrap .i64 ((IntKind.wrap .i64 (Int.tdiv (IntKind.wrap .i64 ((n : Int) + (3 : Int))) (4 : Int))) * (4 : Int)) = (((n + 3) / 4 * 4 : Nat) : Int) := by
  rw [wi64_id (n := (n : Int) + 3) (by omega) (by omega), Int.tdiv_eq_ediv_of_nonneg (by omega), wi64_id (n := ((n : Int) + 3) / 4) (by omega) (by omega), wi64_id (by omega) (by omega)]
  omega

theorem one_rP {p : Pd} {d : Value} (h : isOne d = true) : oneL (rP p d).toList = true := by
  simp only [oneL, h, show ∀ k n, isOne (.int k n) = true from fun _ _ => rfl, show ∀ b, isOne (.bool b) = true from fun _ => rfl, Bool.and_true]

theorem Decode_c {w : World} {v : Value} {bs : List UInt8} {R : KV} (hr : RdB w v bs) (hb : bs.length ≤ 1000000000000)
    (k : ∀ dv w', Grow w w' → RdB w' dv (decDs bs) → NewV w dv → R (.tuple #[vP (if decE bs = 0 then pdOf bs else zP) dv, .int .i64 (if decE bs = 0 then (decN bs : Int) else 0), .int .i64 (decE bs)]) w') : Go.CW.Spec Try.prog 7 #[v] w R := by
  have nilN : NewV w (.slice none 0 0) := fun q hq => by cases hq
  have kf : ∀ e : Int, decE bs = e → e ≠ 0 → ∀ w', Grow w w' → R (.tuple #[vP zP (.slice none 0 0), .int .i64 0, .int .i64 e]) w' := by
    intro e he h0 w' g
    have := k (.slice none 0 0) w' g (by unfold decDs; rw [he, if_neg h0]; exact Rd.nil _) nilN
    rw [he, if_neg h0, if_neg h0] at this
    exact this
  have k0 : decE bs = 0 → ∀ dv w', Grow w w' → RdB w' dv (decD bs) → NewV w dv → R (.tuple #[vP (pdOf bs) dv, .int .i64 (decN bs : Int), .int .i64 0]) w' := by
    intro he dv w' g r n
    have := k dv w' g (by unfold decDs; rw [if_pos he]; exact r) n
    rw [he, if_pos rfl, if_pos rfl] at this
    exact this
  have hle := hr.le
  rw [List.length_map] at hle
  apply pdu_Decode_wp
  refine nm fun w0 e0 => ?_
  obtain ⟨b0, g0, _⟩ := alE e0
  clear e0
  have hlt := b0.lt
  have hgr : ∀ w', Below w.heap.size w w' → RdB w' v bs := fun w' g => hr.grow g
  refine front_c (hgr _ g0) fun w2 g2 => ⟨_, _, _, _, _, _, _, _, _, _, _, _, _, _, _, _, _, _, _, _, _, _, _, _, _, _, _, _, _, rfl, nm fun w32 e32 => ?_⟩
  obtain ⟨b32, g32, _⟩ := alE e32
  clear e32
  refine ⟨b32.row rfl rfl, nm fun w33 e33 => ?_⟩
  obtain ⟨b33, t33⟩ := rowE b32 e33 rfl
  clear e33
  have h2s : w.heap.size < w2.heap.size := Nat.lt_of_lt_of_le hlt g2.size
  have bz33 := ((b0.grow g2).grow g32).turn t33 (by omega)
  have g033 : Below w.heap.size w w33 := Below.turn ((g0.trans (g2.mono (by omega))).trans (g32.mono (by omega))) t33 (by omega)
  generalize hP : (if frontE bs = 0 then pdOf bs else zP) = P at *
  generalize hN : (if frontE bs = 0 then (dn bs : Int) else 0) = N at *
  refine JoinP.bool (fun b w' => w' = w33 ∧ b = decide (frontE bs ≠ 0 ∨ N = 0)) (fun j hj => cond_intro (fun h => hj _ _ ⟨rfl, ?_⟩) (fun h => hj _ _ ⟨rfl, ?_⟩)) ?_
  · exact (decide_eq_true (.inl (by simpa using h))).symm
  · have h : frontE bs = 0 := by simpa using h
    rw [Bool.eq_iff_iff]; simp [h]
  rintro b w35 ⟨rfl, rfl⟩
  refine cond_intro (fun h => cond_intro (fun h2 => ?_) (fun h2 => ?_)) (fun h => ?_)
  · have h2 : frontE bs ≠ 0 := by simpa using h2
    refine ⟨bz33.row rfl rfl, nm fun w6 e6 => ?_⟩
    obtain ⟨b6, t6⟩ := rowE bz33 e6 rfl
    exact ⟨_, _, _, _, _, _, _, _, _, _, _, _, _, _, _, _, _, _, _, _, _, _, _, _, _, _, _, b6.ld rfl, kf (frontE bs) (by unfold decE; rw [if_pos h2]) h2 _ (Below.turn g033 t6 (Nat.le_refl _))⟩
  · have h2 : frontE bs = 0 := by simpa using h2
    simp only [h2, ne_eq, not_true_eq_false, false_or, decide_eq_true_eq] at h
    rw [if_pos h2] at hP hN
    have hd0 : dn bs = 0 := by omega
    subst hP
    refine ⟨_, _, _, _, _, _, _, _, _, _, _, _, _, _, _, _, _, _, _, _, _, _, _, _, _, _, _, b33.ld rfl, bz33.row rfl rfl, nm fun w6 e6 => ?_⟩
    obtain ⟨b6, t6⟩ := rowE bz33 e6 rfl
    refine ⟨_, _, _, _, _, _, _, _, _, _, _, _, _, _, _, _, _, _, _, _, _, _, _, _, _, _, _, b6.ld rfl, ?_⟩
    have := k0 (by unfold decE; rw [if_neg (by rw [h2]; simp), if_pos hd0]) (.slice none 0 0) w6 (Below.turn g033 t6 (Nat.le_refl _)) (by unfold decD; rw [hd0]; exact Rd.nil _) nilN
    rw [show decN bs = 52 from by unfold decN; rw [if_pos hd0]] at this
    exact this
  simp only [decide_eq_false_iff_not, not_or, ne_eq, Decidable.not_not] at h
  obtain ⟨fe, hN0⟩ := h
  rw [if_pos fe] at hP hN
  obtain ⟨hd, hl52⟩ := dn_le fe
  have hd0 : dn bs ≠ 0 := by omega
  subst hP
  subst hN
  have eW := wholeW (dn bs) hd
  rw [eW]
  have hdw : dw bs ≤ 4096 ∧ dn bs ≤ dw bs := by unfold dw; omega
  have hrd := hgr _ g033
  obtain ⟨v119, hs119, hr119, hv119⟩ := Rd.sub hrd (lo := some (.int .i64 52)) (hi := none) (l := 52) (r := bs.length) (fun cap hc => by rw [bounds_in (by omega) (by simp; omega)]; simp) (by omega) (by simp)
  have r119 : RdB w35 v119 (bs.drop 52) := by
    have e : ((bs.map b8).drop 52).take (bs.length - 52) = (bs.drop 52).map b8 := by rw [List.map_drop, List.take_of_length_le (by simp)]
    rw [e] at hr119; exact hr119
  have dl : (bs.drop 52).length = bs.length - 52 := by simp
  refine ⟨v119, hs119, _, RdB.len r119, ?_⟩
  rw [show (((dn bs + 3) / 4 * 4 : Nat) : Int) = (dw bs : Int) from rfl, wi64_id (n := (dw bs : Int) + 4) (by omega) (by omega)]
  refine cond_intro (fun h => ?_) (fun h => ?_)
  · simp only [decide_eq_true_eq, dl] at h
    refine ⟨bz33.row rfl rfl, nm fun w6 e6 => ?_⟩
    obtain ⟨b6, t6⟩ := rowE bz33 e6 rfl
    exact ⟨_, _, _, _, _, _, _, _, _, _, _, _, _, _, _, _, _, _, _, _, _, _, _, _, _, _, _, b6.ld rfl, kf 3 (by unfold decE; rw [if_neg (by rw [fe]; simp), if_neg hd0, if_pos (by omega)]) (by decide) _ (Below.turn g033 t6 (Nat.le_refl _))⟩
  simp only [decide_eq_false_iff_not, dl] at h
  refine nm fun w149 e149 => ?_
  obtain ⟨v150, hs150, hr150, _⟩ := Rd.sub r119 (lo := none) (hi := some (.int .i64 (dw bs : Int))) (l := 0) (r := dw bs) (fun cap hc => by rw [bounds_ni (by omega) (by simp at hc; omega)]; rfl) (by omega) (by simp; omega)
  obtain ⟨v151, hs151, hr151, _⟩ := Rd.sub r119 (lo := some (.int .i64 (dw bs : Int))) (hi := some (.int .i64 ((dw bs : Int) + 4))) (l := dw bs) (r := dw bs + 4) (fun cap hc => by rw [bounds_ii (by omega) (by omega) (by simp at hc; omega)]; rfl) (by omega) (by simp; omega)
  refine ⟨v150, hs150, v151, hs151, nm fun w152 e152 => ?_⟩
  have g152 := drE e152
  have q150 : RdB w152 v150 ((bs.drop 52).take (dw bs)) := by have := hr150.grow g152; simpa [RdB, List.map_take] using this
  have q151 : RdB w152 v151 (((bs.drop 52).drop (dw bs)).take 4) := by have := hr151.grow g152; simpa [RdB, List.map_take, List.map_drop] using this
  refine pdu_low_c q150 fun v153 w154 g154 r154 _ => ?_
  refine slices_Equal_c r154 (q151.grow g154) fun w156 g156 => ⟨_, rfl, ?_⟩
  have gA := g152.then (g154.then g156)
  have b156 := b33.grow gA
  have bz156 := bz33.grow gA
  have hsz : w.heap.size ≤ w35.heap.size := (Nat.le_of_lt bz33.lt)
  have g0156 : Below w.heap.size w w156 := g033.trans (gA.mono hsz)
  refine cond_intro (fun h2 => ?_) (fun h2 => ?_)
  · simp only [Bool.not_eq_true', decide_eq_false_iff_not] at h2
    refine ⟨bz156.row rfl rfl, nm fun w6 e6 => ?_⟩
    obtain ⟨b6, t6⟩ := rowE bz156 e6 rfl
    exact ⟨_, _, _, _, _, _, _, _, _, _, _, _, _, _, _, _, _, _, _, _, _, _, _, _, _, _, _, b6.ld rfl, kf 4 (by unfold decE; rw [if_neg (by rw [fe]; simp), if_neg hd0, if_neg (by omega), if_neg h2]) (by decide) _ (Below.turn g0156 t6 (Nat.le_refl _))⟩
  simp only [Bool.not_eq_false', decide_eq_true_eq] at h2
  have hlenD : ((bs.drop 52).take (dw bs)).length = dw bs := by rw [List.length_take]; omega
  obtain ⟨v186, hs186, hr186, _⟩ := Rd.sub r119 (lo := some (.int .i64 (dn bs : Int))) (hi := some (.int .i64 (dw bs : Int))) (l := dn bs) (r := dw bs) (fun cap hc => by rw [bounds_ii (by omega) (by omega) (by simp at hc; omega)]; rfl) (by omega) (by simp; omega)
  have r186 : RdB w35 v186 (((bs.drop 52).take (dw bs)).drop (dn bs)) := by
    have e : (((bs.drop 52).map b8).drop (dn bs)).take (dw bs - dn bs) = (((bs.drop 52).take (dw bs)).drop (dn bs)).map b8 := by simp only [List.map_drop, List.map_take, List.drop_take]
    rw [e] at hr186; exact hr186
  generalize hZ : ((bs.drop 52).take (dw bs)).drop (dn bs) = Z at *
  have hZl : Z.length = dw bs - dn bs := by rw [← hZ, List.length_drop, hlenD]
  refine ⟨v186, hs186, _, RdB.len r186, ?_⟩
  refine ⟨fun (i : Int) (ww : World) => 0 ≤ i ∧ i ≤ Z.length ∧ ww = w156 ∧ ∀ j : Nat, (j : Int) < i → Z[j]? = some 0, fun (i : Int) (_ : World) => ((Z.length : Int) - i).toNat, ⟨by omega, by omega, rfl, fun j hj => by omega⟩, ?_⟩
  dsimp only [allR, mapR2, eqN, ltN]
  rintro m i ww ⟨⟨h0, h1, rfl, hz⟩, hm⟩
  refine cond_intro (fun h3 => ?_) (fun h3 => ?_)
  · simp only [decide_eq_true_eq] at h3
    obtain ⟨i, rfl⟩ := Int.eq_ofNat_of_zero_le h0
    obtain ⟨a, ha, hc⟩ := byte_at (r186.grow gA) i (by omega)
    have hgd : Z[i]? = some (Z.getD i 0) := by rw [List.getD_eq_getElem?_getD, List.getElem?_eq_getElem (by omega)]; rfl
    refine ⟨a, ha, _, hc, cond_intro (fun h4 => ?_) (fun h4 => ?_)⟩
    · simp only [bne_iff_ne, ne_eq] at h4
      refine ⟨bz156.row rfl rfl, nm fun w6 e6 => ?_⟩
      obtain ⟨b6, t6⟩ := rowE bz156 e6 rfl
      refine ⟨_, _, _, _, _, _, _, _, _, _, _, _, _, _, _, _, _, _, _, _, _, _, _, _, _, _, _, b6.ld rfl, kf 2 ?_ (by decide) _ (Below.turn g0156 t6 (Nat.le_refl _))⟩
      unfold decE
      rw [if_neg (by rw [fe]; simp), if_neg hd0, if_neg (by omega), if_pos h2, if_neg]
      rw [hZ]
      intro e
      rw [e, List.getElem?_replicate, if_pos (by omega)] at hgd
      injection hgd with hgd
      rw [e] at h4
      rw [← hgd] at h4
      exact h4 rfl
    · have h4 : bn (Z.getD i 0) = 0 := by simpa using h4
      rw [wi64_id (n := (i : Int) + 1) (by omega) (by omega)]
      refine ⟨⟨by omega, by omega, rfl, fun j hj => ?_⟩, by omega⟩
      by_cases e : j = i
      · subst e
        rw [hgd]
        have : (Z.getD j 0) = 0 := UInt8.toNat_inj.1 (by have : ((Z.getD j 0).toNat : Int) = 0 := h4; simpa using this)
        rw [this]
      · exact hz j (by omega)
  · simp only [decide_eq_false_iff_not] at h3
    have eZ : Z = List.replicate (dw bs - dn bs) 0 := by
      apply List.ext_getElem?
      intro j
      by_cases hj : j < Z.length
      · rw [hz j (by omega), List.getElem?_replicate, if_pos (by omega)]
      · rw [List.getElem?_eq_none (by omega), List.getElem?_eq_none (by simp; omega)]
    have de : decE bs = 0 := by
      unfold decE
      rw [if_neg (by rw [fe]; simp), if_neg hd0, if_neg (by omega), if_pos h2, if_pos (by rw [hZ]; exact eZ)]
    obtain ⟨v221, hs221, hr221, _⟩ := Rd.sub r119 (lo := none) (hi := some (.int .i64 (dn bs : Int))) (l := 0) (r := dn bs) (fun cap hc => by rw [bounds_ni (by omega) (by simp at hc; omega)]; rfl) (by omega) (by simp; omega)
    have q221 : RdB ww v221 (decD bs) := by have := hr221.grow gA; simpa [RdB, List.map_take, decD] using this
    have hdl : (decD bs).length ≤ 4096 := by unfold decD; rw [List.length_take]; omega
    refine ⟨v221, hs221, slices_Clone_c q221 (by omega) fun v222 w223 g223 o223 => ?_⟩
    refine slices_Clip_c o223.rd fun v224 r224 e224 => ?_
    have b225 := b156.grow g223
    have bz225 := bz156.grow g223
    have g0225 : Below w.heap.size w w223 := g0156.trans (g223.mono (Nat.le_of_lt bz156.lt))
    have hwb : w2.heap.size < ww.heap.size := b156.lt
    have n224 : ∀ q, v224.ownBlock = some q → ww.heap.size ≤ q := fun q hq => o223.blk q (e224 ▸ hq)
    refine oneK_of (Rd.isOne r224) ⟨st1_at b225 (by show 26 < 27; omega), nm fun w226 e226 => ?_⟩
    obtain ⟨b226, t226⟩ := setE b225 e226
    change BK w226 w2.heap.size (rP (pdOf bs) v224) tP at b226
    have r226 := r224.turn t226 (fun hq => by have := n224 _ hq; omega)
    have bz226 := bz225.turn t226 (by omega)
    have one : oneL (rP (pdOf bs) v224).toList = true := by
      exact one_rP (Rd.isOne r224)
    refine ⟨_, _, _, _, _, _, _, _, _, _, _, _, _, _, _, _, _, _, _, _, _, _, _, _, _, _, _, b226.ld rfl, bz226.row rfl one, nm fun w254 e254 => ?_⟩
    obtain ⟨b254, t254⟩ := rowE bz226 e254 rfl
    have r254 := r226.turn t254 (fun hq => by have := n224 _ hq; omega)
    refine ⟨_, _, _, _, _, _, _, _, _, _, _, _, _, _, _, _, _, _, _, _, _, _, _, _, _, _, _, b254.ld rfl, ?_⟩
    have hcomp : IntKind.wrap .i64 (IntKind.wrap .i64 ((52 : Int) + (dw bs : Int)) + 4) = (decN bs : Int) := by
      rw [wi64_id (n := 52 + (dw bs : Int)) (by omega) (by omega), wi64_id (by omega) (by omega)]
      unfold decN; rw [if_neg hd0]; omega
    rw [hcomp]
    exact k0 de v224 w254 (Below.turn (Below.turn g0225 t226 (by omega)) t254 (Nat.le_refl _)) r254 (fun q hq => by have := n224 q hq; omega)

end Go.Proofs.Ytooeeodkaeimeaa
