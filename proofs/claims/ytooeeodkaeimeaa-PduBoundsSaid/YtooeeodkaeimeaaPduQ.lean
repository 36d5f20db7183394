/- The contracts of front, Decode. -/
import Derived.Test.YtooeeodkaeimeaaPduP
import Derived.Laws.Cover3
set_option linter.unusedVariables false
set_option linter.unusedSimpArgs false
set_option maxRecDepth 100000
namespace Go.Proofs.Ytooeeodkaeimeaa
open Go Go.CW Go.RowKit Go.Crc

theorem num4_range (bs : List UInt8) (a : Int) : 0 ≤ num4 bs a ∧ num4 bs a < 4294967296 := by
  have := getV_range bs a 4
  exact ⟨this.1, this.2⟩

/-- what the struct holds while its numbers are read -/
def pdI (bs : List UInt8) (i : Nat) : Pd := { pdOf bs with tag := if 0 < i then num4 bs 8 else 0, sn := if 1 < i then num4 bs 12 else 0, exp := if 2 < i then num4 bs 16 else 0, mx := if 3 < i then num4 bs 20 else 0, off := if 4 < i then num4 bs 24 else 0, ln := if 5 < i then num4 bs 28 else 0 }

theorem pdI_next (bs : List UInt8) (d : Value) (i : Nat) (hi : i < 6) : (rP (pdI bs i) d).setIfInBounds (4 + i) (.int .u32 (num4 bs ((8 : Int) + 4 * (i : Int)))) = rP (pdI bs (i + 1)) d := by
  have : i = 0 ∨ i = 1 ∨ i = 2 ∨ i = 3 ∨ i = 4 ∨ i = 5 := by omega
  rcases this with rfl | rfl | rfl | rfl | rfl | rfl <;> rfl

theorem and128 : ∀ c : Fin 256, (bitsI .and .u8 (c.val : Int) 128 != 0) = decide ((128 : UInt8) ≤ UInt8.ofNat c.val) ∧ bitsI .andNot .u8 (c.val : Int) 128 = bn (UInt8.ofNat c.val &&& 127) := by decide +kernel

theorem fl_bits (c : UInt8) : (bitsI .and .u8 (c.toNat : Int) 128 != 0) = decide ((128 : UInt8) ≤ c) ∧ bitsI .andNot .u8 (c.toNat : Int) 128 = bn (c &&& 127) := by
  have := and128 ⟨c.toNat, c.toNat_lt⟩
  simpa using this

theorem byte_at {w : World} {v : Value} {bs : List UInt8} (h : RdB w v bs) (i : Nat) (hi : i < bs.length) : ∃ a, sliceAt v (i : Int) 1 = some a ∧ w.cell? a = some (.int .u8 (bn (bs.getD i 0))) := by
  obtain ⟨a, h1, h2⟩ := RdB.at h (i := (i : Int)) (by omega) (by omega)
  refine ⟨a, h1, h2.trans ?_⟩
  have : bs.getD i 0 = bs[((i : Int)).toNat]'(by omega) := by
    simp only [Int.toNat_natCast]
    rw [List.getD_eq_getElem?_getD, List.getElem?_eq_getElem hi]; rfl
  rw [this]

theorem front_c {w : World} {v : Value} {bs : List UInt8} {R : KV} (hr : RdB w v bs)
    (k : ∀ w', Grow w w' → R (.tuple #[vP (if frontE bs = 0 then pdOf bs else zP) (.slice none 0 0), .int .i64 (if frontE bs = 0 then (dn bs : Int) else 0), .int .i64 (frontE bs)]) w') : Go.CW.Spec Try.prog 23 #[v] w R := by
  have kf : ∀ e : Int, frontE bs = e → e ≠ 0 → ∀ w', Grow w w' → R (.tuple #[vP zP (.slice none 0 0), .int .i64 0, .int .i64 e]) w' := by
    intro e he h0 w' g
    have := k w' g
    rw [he, if_neg h0, if_neg h0] at this
    exact this
  have k0 : frontE bs = 0 → ∀ w', Grow w w' → R (.tuple #[vP (pdOf bs) (.slice none 0 0), .int .i64 (dn bs : Int), .int .i64 0]) w' := by
    intro he w' g
    have := k w' g
    rw [he, if_pos rfl, if_pos rfl] at this
    exact this
  have hle := hr.le
  rw [List.length_map] at hle
  apply pdu_front_wp
  refine nm fun w0 e0 => ?_
  obtain ⟨b0, g0, _⟩ := alE e0
  clear e0
  have hlt := b0.lt
  have hr0 := hr.grow g0
  refine bin_Get_c hr0 (by decide) (by decide) ⟨_, _, rfl, _, RdB.len hr, cond_intro (fun h => ?_) (fun h => ?_)⟩
  · simp only [decide_eq_true_eq] at h
    refine ⟨b0.row rfl rfl, nm fun w6 e6 => ?_⟩
    obtain ⟨b6, t6⟩ := rowE b0 e6 rfl
    exact ⟨_, _, _, _, _, _, _, _, _, _, _, _, _, _, _, _, _, _, _, _, _, _, _, _, _, _, _, b6.ld rfl, kf 3 (by unfold frontE; rw [if_pos (by omega)]) (by decide) _ (Below.turn g0 t6 (Nat.le_refl _))⟩
  simp only [decide_eq_false_iff_not] at h
  have hl52 : 52 ≤ bs.length := by omega
  refine nm fun w34 e34 => ?_
  obtain ⟨v35, hs35, hr35, _⟩ := Rd.sub hr0 (lo := none) (hi := some (.int .i64 48)) (l := 0) (r := 48) (fun cap hc => by rw [bounds_ni (by omega) (by simp at hc; omega)]; rfl) (by omega) (by simp; omega)
  obtain ⟨v36, hs36, hr36, _⟩ := Rd.sub hr0 (lo := some (.int .i64 48)) (hi := some (.int .i64 52)) (l := 48) (r := 52) (fun cap hc => by rw [bounds_ii (by omega) (by omega) (by simp at hc; omega)]; rfl) (by omega) (by simp; omega)
  refine ⟨v35, hs35, v36, hs36, nm fun w37 e37 => ?_⟩
  have g37 := drE e37
  have q35 : RdB w37 v35 (bs.take 48) := by have := hr35.grow g37; simpa [RdB, List.map_take] using this
  have q36 : RdB w37 v36 ((bs.drop 48).take 4) := by have := hr36.grow g37; simpa [RdB, List.map_take, List.map_drop] using this
  refine pdu_low_c q35 fun v38 w39 g39 r39 _ => ?_
  refine slices_Equal_c r39 (q36.grow g39) fun w41 g41 => ⟨_, rfl, ?_⟩
  have gA := g37.then (g39.then g41)
  have b41 := b0.grow gA
  have g041 : Below w.heap.size w w41 := g0.trans (gA.mono (by omega))
  refine cond_intro (fun h2 => ?_) (fun h2 => ?_)
  · simp only [Bool.not_eq_true', decide_eq_false_iff_not] at h2
    refine ⟨b41.row rfl rfl, nm fun w6 e6 => ?_⟩
    obtain ⟨b6, t6⟩ := rowE b41 e6 rfl
    exact ⟨_, _, _, _, _, _, _, _, _, _, _, _, _, _, _, _, _, _, _, _, _, _, _, _, _, _, _, b6.ld rfl, kf 4 (by unfold frontE; rw [if_neg (by omega), if_neg h2]) (by decide) _ (Below.turn g041 t6 (Nat.le_refl _))⟩
  simp only [Bool.not_eq_false', decide_eq_true_eq] at h2
  have hr41 := hr0.grow gA
  refine JoinP.bool (fun b w' => Grow w41 w' ∧ b = decide (known (bn (bs.getD 0 0)) = false ∨ bs.getD 3 0 ≠ 0)) (fun j hj => ?_) ?_
  · obtain ⟨a, ha, hc⟩ := byte_at hr41 0 (by omega)
    have w0 : IntKind.wrap .i64 (bn (bs.getD 0 0)) = bn (bs.getD 0 0) := wi64_id (by have := (bs.getD 0 0).toNat_lt; unfold bn; omega) (by have := (bs.getD 0 0).toNat_lt; unfold bn; omega)
    refine ⟨a, ha, _, hc, ?_⟩
    rw [w0]
    refine Known_c ⟨_, rfl, cond_intro (fun h3 => hj _ _ ⟨Grow.refl _, ?_⟩) (fun h3 => ?_)⟩
    · simp only [Bool.not_eq_true'] at h3
      exact (decide_eq_true (.inl h3)).symm
    · simp only [Bool.not_eq_false'] at h3
      obtain ⟨a3, ha3, hc3⟩ := byte_at hr41 3 (by omega)
      refine ⟨a3, ha3, _, hc3, hj _ _ ⟨Grow.refl _, ?_⟩⟩
      rw [Bool.eq_iff_iff]
      simp only [h3, bne_iff_ne, ne_eq, Bool.true_eq_false, false_or, decide_eq_true_eq]
      constructor
      · intro h5 h6; exact h5 (by rw [h6]; rfl)
      · intro h5 h6; exact h5 (UInt8.toNat_inj.1 (by simpa using h6))
  rintro b w72 ⟨g72, rfl⟩
  have b72 := b41.grow g72
  have g072 : Below w.heap.size w w72 := g041.trans (g72.mono (Nat.le_of_lt b41.lt))
  refine cond_intro (fun h3 => ?_) (fun h3 => ?_)
  · simp only [decide_eq_true_eq] at h3
    refine ⟨b72.row rfl rfl, nm fun w6 e6 => ?_⟩
    obtain ⟨b6, t6⟩ := rowE b72 e6 rfl
    exact ⟨_, _, _, _, _, _, _, _, _, _, _, _, _, _, _, _, _, _, _, _, _, _, _, _, _, _, _, b6.ld rfl, kf 2 (by unfold frontE; rw [if_neg (by omega), if_pos h2, if_pos h3]) (by decide) _ (Below.turn g072 t6 (Nat.le_refl _))⟩
  simp only [decide_eq_false_iff_not] at h3
  refine cond_intro (fun h4 => ?_) (fun h4 => ?_)
  · simp only [decide_eq_true_eq, gt_iff_lt] at h4
    have h4 : 4096 < num4 bs 4 := h4
    refine ⟨b72.row rfl rfl, nm fun w6 e6 => ?_⟩
    obtain ⟨b6, t6⟩ := rowE b72 e6 rfl
    exact ⟨_, _, _, _, _, _, _, _, _, _, _, _, _, _, _, _, _, _, _, _, _, _, _, _, _, _, _, b6.ld rfl, kf 5 (by unfold frontE; rw [if_neg (by omega), if_pos h2, if_neg h3, if_pos h4]) (by decide) _ (Below.turn g072 t6 (Nat.le_refl _))⟩
  simp only [decide_eq_false_iff_not, gt_iff_lt] at h4
  have h4 : ¬ 4096 < num4 bs 4 := h4
  have fe : frontE bs = 0 := by unfold frontE; rw [if_neg (by omega), if_pos h2, if_neg h3, if_neg h4]
  refine nm fun w129 e129 => ?_
  have g129 := drE e129
  have hr129 := hr41.grow (g72.then g129)
  obtain ⟨a0, ha0, hc0⟩ := byte_at hr129 0 (by omega)
  obtain ⟨a1, ha1, hc1⟩ := byte_at hr129 1 (by omega)
  obtain ⟨a2, ha2, hc2⟩ := byte_at hr129 2 (by omega)
  refine ⟨a0, ha0, _, hc0, a1, ha1, _, hc1, a1, ha1, _, hc1, a2, ha2, _, hc2, ?_⟩
  obtain ⟨v138, hs138, hr138, _⟩ := Rd.sub hr129 (lo := some (.int .i64 32)) (hi := none) (l := 32) (r := bs.length) (fun cap hc => by rw [bounds_in (by omega) (by simp at hc; simp; omega)]; simp) (by omega) (by simp)
  have hr138' : RdB w129 v138 (bs.drop 32) := by
    have e : ((bs.map b8).drop 32).take (bs.length - 32) = (bs.drop 32).map b8 := by rw [List.map_drop, List.take_of_length_le (by simp)]
    rw [e] at hr138; exact hr138
  obtain ⟨a, cap, rfl, c1, c2, c3, c4⟩ := hr138'
  have hdl : ((bs.drop 32).map b8).length = bs.length - 32 := by simp
  obtain ⟨x, rfl, _⟩ := c4 0 (b8 (bs.getD 32 0)) (by rw [List.getElem?_map, List.getElem?_drop, List.getElem?_eq_getElem (by omega)]; simp [List.getElem?_eq_getElem (show 32 < bs.length by omega)])
  have hld : ∀ w', Grow w129 w' → ldCells w' x 16 #[.int .u8 (bn (bs.getD 32 0)), .int .u8 (bn (bs.getD 33 0)), .int .u8 (bn (bs.getD 34 0)), .int .u8 (bn (bs.getD 35 0)), .int .u8 (bn (bs.getD 36 0)), .int .u8 (bn (bs.getD 37 0)), .int .u8 (bn (bs.getD 38 0)), .int .u8 (bn (bs.getD 39 0)), .int .u8 (bn (bs.getD 40 0)), .int .u8 (bn (bs.getD 41 0)), .int .u8 (bn (bs.getD 42 0)), .int .u8 (bn (bs.getD 43 0)), .int .u8 (bn (bs.getD 44 0)), .int .u8 (bn (bs.getD 45 0)), .int .u8 (bn (bs.getD 46 0)), .int .u8 (bn (bs.getD 47 0))] := by
    intro w' g
    refine ⟨rfl, fun i hi => ?_⟩
    obtain ⟨y, hy, hyc⟩ := c4 i (b8 (bs.getD (32 + i) 0)) (by
      rw [List.getElem?_map, List.getElem?_drop, List.getElem?_eq_getElem (by omega), List.getD_eq_getElem?_getD, List.getElem?_eq_getElem (by omega)]; rfl)
    injection hy with hy
    subst hy
    rw [(g.cell (World.block_lt_of_cell? _ _ hyc)).trans hyc]
    have : i = 0 ∨ i = 1 ∨ i = 2 ∨ i = 3 ∨ i = 4 ∨ i = 5 ∨ i = 6 ∨ i = 7 ∨ i = 8 ∨ i = 9 ∨ i = 10 ∨ i = 11 ∨ i = 12 ∨ i = 13 ∨ i = 14 ∨ i = 15 := by omega
    rcases this with rfl | rfl | rfl | rfl | rfl | rfl | rfl | rfl | rfl | rfl | rfl | rfl | rfl | rfl | rfl | rfl <;> rfl
  have harr : ∀ w' : World, Sem.run Try.prog (Instr.arrayAt 23 (.slice (some x) ((bs.drop 32).map b8).length cap)) w' = .ok (.pointer (some x)) w' := by
    intro w'
    exact run_arrayAt w' 23 tb 16 (some x) _ cap (by kernel_rfl) (by omega)
  refine ⟨_, hs138, _, harr w129, withAddr_some ⟨_, _, _, _, _, _, _, _, _, _, _, _, _, _, _, _, hld w129 (Grow.refl _), nm fun w157 e157 => ?_⟩⟩
  obtain rfl : w157 = w129 := e157.trans e129.symm
  have b157 := b72.grow g129
  have g0157 : Below w.heap.size w w157 := g072.trans (g129.mono (Nat.le_of_lt b72.lt))
  have gw := fun o => Grow.al (Grow.refl w157) o
  have cg : ∀ {a u} o, w157.cell? a = some u → (w157.alloc o).cell? a = some u := fun o h => ((gw o).cell (World.block_lt_of_cell? _ _ h)).trans h
  refine ⟨⟨_, cg _ hc0, rfl⟩, ⟨_, cg _ hc1, rfl⟩, ⟨_, cg _ hc1, rfl⟩, ⟨_, cg _ hc2, rfl⟩, ⟨_, harr _, rfl⟩, withAddr_some ⟨_, _, _, _, _, _, _, _, _, _, _, _, _, _, _, _, hld _ (gw _), rfl⟩, ?_⟩
  refine nm fun w180 e180 => nm fun w181 e181 => ?_
  clear e180 hld
  obtain ⟨b181, g181, s181⟩ := alE e181
  clear e181
  have br := b157.grow g181
  refine ⟨b181.row rfl rfl, nm fun w182 e182 => nm fun w183 e183 => ?_⟩
  clear e182
  obtain ⟨b183, t183⟩ := rowE b181 e183 rfl
  clear e183
  have hpb : w.heap.size < w157.heap.size := b157.lt
  have br183 := br.turn t183 (by omega)
  have wb : ∀ c : UInt8, IntKind.wrap .i64 (bn c) = bn c := fun c => wi64_id (by have := c.toNat_lt; unfold bn; omega) (by have := c.toNat_lt; unfold bn; omega)
  obtain ⟨fb1, fb2⟩ := fl_bits (bs.getD 1 0)
  rw [wb, wb, fb1, fb2, wb] at b183
  change BK w183 w157.heap.size (rP (pdI bs 0) (.slice none 0 0)) 26 at b183
  have g0183 : Below w.heap.size w w183 := Below.turn (g0157.trans (g181.mono (Nat.le_of_lt hpb))) t183 (Nat.le_of_lt hpb)
  refine nm fun w184 e184 => ?_
  obtain ⟨b184, g184, s184⟩ := alE e184
  clear e184
  refine ⟨6, rfl, ?_⟩
  have hr183 : RdB w183 v bs := hr.grow g0183
  have hs183 : w157.heap.size < w183.heap.size := b183.lt
  refine ⟨fun (i : Int) (ww : World) => 0 ≤ i ∧ i ≤ 6 ∧ Below w.heap.size w ww ∧ BK ww w183.heap.size (#[(.pointer (some (Addr.add ⟨w157.heap.size, 0, none⟩ 4))), (.pointer (some (Addr.add ⟨w157.heap.size, 0, none⟩ 5))), (.pointer (some (Addr.add ⟨w157.heap.size, 0, none⟩ 6))), (.pointer (some (Addr.add ⟨w157.heap.size, 0, none⟩ 7))), (.pointer (some (Addr.add ⟨w157.heap.size, 0, none⟩ 8))), (.pointer (some (Addr.add ⟨w157.heap.size, 0, none⟩ 9)))] : Array Value) 63 ∧ BK ww w157.heap.size (rP (pdI bs i.toNat) (.slice none 0 0)) tP ∧ BK ww w.heap.size (rP zP (.slice none 0 0)) tP, fun (i : Int) (_ : World) => (6 - i).toNat, ⟨by omega, by omega, g0183.trans (g184.mono (by omega)), b184, b183.grow g184, br183.grow g184⟩, ?_⟩
  dsimp only [allR, mapR2, eqN, ltN]
  rintro m i ww ⟨⟨h0, h1, g, bl, bp, bz⟩, hm⟩
  refine cond_intro (fun h5 => ?_) (fun h5 => ?_)
  · have h5 : i < 6 := by simpa using h5
    have hcell : ww.cell? (⟨w183.heap.size, i.toNat, none⟩ : Addr) = some (.pointer (some (Addr.add ⟨w157.heap.size, 0, none⟩ (4 + i.toNat)))) := by
      rw [bl.at i.toNat]
      have : i.toNat = 0 ∨ i.toNat = 1 ∨ i.toNat = 2 ∨ i.toNat = 3 ∨ i.toNat = 4 ∨ i.toNat = 5 := by omega
      rcases this with e | e | e | e | e | e <;> rw [e] <;> rfl
    refine ⟨⟨w183.heap.size, i.toNat, none⟩, ?_, _, hcell, ?_⟩
    · simp only [sliceAt]
      rw [if_pos (by omega), Nat.mul_one, ad0]
    rw [wi64_id (n := 4 * i) (by omega) (by omega), wi64_id (n := 8 + 4 * i) (by omega) (by omega)]
    have hrw : RdB ww v bs := hr.grow g
    refine bin_Get_c hrw ⟨by simp [IntKind.min, IntKind.bits, IntKind.signed]; omega, by simp [IntKind.max, IntKind.bits, IntKind.signed]; omega⟩ (by decide) ⟨_, _, rfl, withAddr_some ⟨st1_at bp (by show 4 + i.toNat < 27; omega), nm fun w196 e196 => ?_⟩⟩
    have hn := num4_range bs (8 + 4 * i)
    rw [show getV bs (8 + 4 * i) 4 = num4 bs (8 + 4 * i) from rfl, w32_id hn.1 hn.2] at e196
    obtain ⟨b196, t196⟩ := setE bp e196
    rw [wi64_id (n := i + 1) (by omega) (by omega)]
    have e : (i + 1).toNat = i.toNat + 1 := by omega
    have e2 : (8 : Int) + 4 * i = (8 : Int) + 4 * (i.toNat : Int) := by omega
    rw [e2, pdI_next bs _ i.toNat (by omega)] at b196
    refine ⟨⟨by omega, by omega, Below.turn g t196 (by omega), bl.turn t196 (by omega), ?_, bz.turn t196 (by omega)⟩, by omega⟩
    rw [e]; exact b196
  · have h5 : ¬ i < 6 := by simpa using h5
    obtain rfl : i = 6 := by omega
    have bp : BK ww w157.heap.size (rP (pdOf bs) (.slice none 0 0)) tP := bp
    refine ⟨_, _, _, _, _, _, _, _, _, _, _, _, _, _, _, _, _, _, _, _, _, _, _, _, _, _, _, bp.ld rfl, bz.row rfl rfl, nm fun w224 e224 => ?_⟩
    obtain ⟨b224, t224⟩ := rowE bz e224 rfl
    have hn4 := num4_range bs 4
    have hdn : IntKind.wrap .i64 (getV bs 4 4) = (dn bs : Int) := by
      rw [wi64_id (n := getV bs 4 4) (by have := hn4.1; unfold num4 at this; omega) (by have := hn4.2; unfold num4 at this; omega)]
      unfold dn; have := hn4.1; unfold num4 at *; omega
    refine ⟨_, _, _, _, _, _, _, _, _, _, _, _, _, _, _, _, _, _, _, _, _, _, _, _, _, _, _, b224.ld rfl, ?_⟩
    rw [hdn]
    exact k0 fe _ (Below.turn g t224 (Nat.le_refl _))

end Go.Proofs.Ytooeeodkaeimeaa
