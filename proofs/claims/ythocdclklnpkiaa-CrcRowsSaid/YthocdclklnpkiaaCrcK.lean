/- The laws of the sum, go on: each returns true. -/
import Derived.Test.YthocdclklnpkiaaCrcL
set_option linter.unusedVariables false
set_option linter.unusedSimpArgs false
namespace Go.Proofs.Ythocdclklnpkiaa
open Go Go.CW Go.RowKit Go.Crc

theorem set_b8 (s : List UInt8) (i : Nat) (x : UInt8) : (s.map b8).set i (b8 x) = (s.set i x).map b8 := (List.map_set).symm

theorem crcMixes_s {w : World} {v u : Value} {bs cs : List UInt8} (hr : RdB w v bs) (hu : RdB w u cs) :
    Go.CW.Spec Try.prog 5 #[v, u] w (Law w) := by
  apply gemellaw2_CrcMixes_wp
  refine known_c fun w1 g1 => ⟨_, rfl, cond_f rfl ?_⟩
  have hr1 := hr.grow g1
  have hu1 := hu.grow g1
  refine JoinP.bool (fun b w' => w' = w1 ∧ (b = false → bs.length ≤ 3000 ∧ bs.length ≤ cs.length)) (fun j hj => ?_) ?_
  · refine ⟨_, RdB.len hr1, cond_intro (fun h => hj _ _ ⟨rfl, by simp⟩) (fun h => ⟨_, RdB.len hu1, _, RdB.len hr1, hj _ _ ⟨rfl, fun h3 => ?_⟩⟩)⟩
    simp at h h3
    omega
  rintro b w4 ⟨rfl, hb⟩
  refine cond_intro (fun h => ⟨rfl, g1⟩) (fun h => ?_)
  obtain ⟨hl, hc⟩ := hb h
  refine ⟨_, RdB.len hr1, ?_⟩
  obtain ⟨v6, w7, h6, o6, g7⟩ := make_bytes (w := w4) bs.length (by omega)
  refine ⟨v6, w7, h6, ?_⟩
  refine ⟨fun (i : Int) (ww : World) => 0 ≤ i ∧ i ≤ bs.length ∧ Grow w4 ww ∧ ∃ xs : List UInt8, Wr ww w4.heap.size v6 (xs.map b8) ∧ xs.length = bs.length ∧ xs.take i.toNat = (List.zipWith (· ^^^ ·) bs cs).take i.toNat, fun (i : Int) (_ : World) => (bs.length - i).toNat, ?_, ?_⟩
  · exact ⟨by omega, by omega, g7, List.replicate bs.length 0, o6.wr, by simp, by simp⟩
  dsimp only [allR, mapR2, eqN, ltN]
  rintro m i ww ⟨⟨h0, h1, g, xs, hx, hxl, hxt⟩, hm⟩
  have gd := g.dr
  have hxd := hx.grow ((Grow.refl ww).dr)
  refine ⟨_, RdB.len (hr1.grow g), cond_intro (fun h2 => ?_) (fun h2 => ?_)⟩
  · simp at h2
    obtain ⟨a12, h12, c12⟩ := RdB.at (hr1.grow gd) h0 h2
    obtain ⟨a14, h14, c14⟩ := RdB.at (hu1.grow gd) h0 (by omega)
    obtain ⟨a16, h16, _, s16, b16, _, p16⟩ := hxd.put h0 (by simp; omega)
    refine ⟨a12, h12, _, c12, a14, h14, _, c14, a16, h16, s16, ?_⟩
    rw [b8_xor, wi64_id (n := i + 1) (by omega) (by omega)]
    have e : (i + 1).toNat = i.toNat + 1 := by omega
    refine ⟨⟨by omega, by omega, gd.setCell b16 _, xs.set i.toNat (bs[i.toNat]'(by omega) ^^^ cs[i.toNat]'(by omega)), ?_, by simp [hxl], ?_⟩, by omega⟩
    · rw [← set_b8]; exact p16 _
    · rw [e, List.take_add_one, List.take_add_one, List.take_set_of_le (Nat.le_refl _), hxt, List.getElem?_set_self (by omega), List.getElem?_zipWith]
      rw [List.getElem?_eq_getElem (by omega), List.getElem?_eq_getElem (by omega)]
  · simp at h2
    have hi : i.toNat = bs.length := by omega
    have hz : xs = List.zipWith (· ^^^ ·) bs cs := by
      have hzl : (List.zipWith (· ^^^ ·) bs cs).length = bs.length := by simp; omega
      rw [hi, List.take_of_length_le (by omega), List.take_of_length_le (by omega)] at hxt
      exact hxt
    subst hz
    have hrd := hr1.grow gd
    have hud := hu1.grow gd
    have hx0 : RdB (World.drew ww) v6 (List.zipWith (· ^^^ ·) bs cs) := hxd.rd
    refine JoinP.bool (fun b w' => b = true ∧ Grow w4 w') (fun j hj => ?_) (fun b w' ⟨h, g⟩ => by subst h; exact ⟨rfl, g1.then g⟩)
    obtain ⟨v21, h21, r21, _⟩ := hu1.sub (lo := none) (hi := some (.int .i64 (bs.length : Int))) (l := 0) (r := bs.length) (fun cap hc => by rw [List.length_map] at hc; rw [bounds_ni (by omega) (by omega)]; simp) (by omega) (by simp; omega)
    have r21 : RdB w4 v21 (cs.take bs.length) := by simpa [RdB, List.map_take] using r21
    have r21 := r21.grow gd
    refine ⟨_, RdB.len (hr1.grow g), v21, h21, _, RdB.len (hr1.grow g), ?_⟩
    -- the law itself
    have law : (U (sum (List.zipWith (· ^^^ ·) bs cs)) == bitsI .xor .u32 (bitsI .xor .u32 (U (sum bs)) (U (sum (cs.take bs.length)))) (U (sum (List.replicate bs.length 0)))) = true := by
      rw [U_xor, U_xor, U_beq, decide_eq_true_eq]
      have hz : List.zipWith (· ^^^ ·) bs cs = List.zipWith (· ^^^ ·) (List.zipWith (· ^^^ ·) bs (cs.take bs.length)) (List.replicate bs.length 0) := by
        apply List.ext_getElem?
        intro k
        simp only [List.getElem?_zipWith, List.getElem?_replicate]
        by_cases hk : k < bs.length
        · rw [List.getElem?_take_of_lt hk, List.getElem?_eq_getElem hk, List.getElem?_eq_getElem (by omega : k < cs.length)]
          simp [hk]
        · rw [List.getElem?_eq_none (by omega : bs.length ≤ k)]
      have e1 := F_mix (List.zipWith (· ^^^ ·) bs (cs.take bs.length)) (List.replicate bs.length 0) (ones ^^^ ones) ones (by simp; omega)
      have e2 := F_mix bs (cs.take bs.length) ones ones (by simp; omega)
      rw [← hz, e2] at e1
      have e3 : (ones ^^^ ones ^^^ ones : W) = ones := by decide
      rw [e3] at e1
      have e4 : (~~~ (0#32 : W)) = ones := by decide
      simp only [sum, more, e4, e1, not_eq]
      generalize F ones bs = a
      generalize F ones (cs.take bs.length) = b
      generalize F ones (List.replicate bs.length 0) = c
      have e5 : ones ^^^ a ^^^ (ones ^^^ b) ^^^ (ones ^^^ c) = (ones ^^^ ones) ^^^ (ones ^^^ (a ^^^ b ^^^ c)) := by ac_rfl
      rw [e5, BitVec.xor_self, BitVec.zero_xor]
    have mk0 : ∀ {w' : World} (n : Nat), n = bs.length → ∃ v' w'', Sem.run Try.prog (Instr.makeSlice tB (.int .i64 (n : Int)) (.int .i64 (n : Int))) w' = .ok v' w'' ∧ RdB w'' v' (List.replicate bs.length 0) ∧ Grow w' w'' := by
      intro w' n hn
      subst hn
      obtain ⟨v', w'', h1, h2, h3⟩ := make_bytes (w := w') bs.length (by omega)
      exact ⟨v', w'', h1, h2.rd, h3⟩
    have law' : ∀ {w' : World}, Grow w4 w' → j (U (sum (List.zipWith (· ^^^ ·) bs cs)) == bitsI .xor .u32 (bitsI .xor .u32 (U (sum bs)) (U (sum (cs.take bs.length)))) (U (sum (List.replicate bs.length 0)))) w' := fun {w'} g => hj _ _ ⟨law, g⟩
    refine ⟨crc_Sum_c hx0 fun wa ga => ⟨_, rfl, crc_Sum_c (hrd.grow ga) fun wb gb => ⟨_, rfl, crc_Sum_c (r21.grow (ga.then gb)) fun wc gc => ⟨_, rfl, ?_⟩, ?_⟩, ?_⟩, ?_⟩
    · obtain ⟨v32, w33, h32, r32, g33⟩ := mk0 (w' := wc) _ rfl
      exact ⟨v32, w33, h32, crc_Sum_c r32 fun wd gd' => ⟨_, rfl, law' (gd.then (ga.then (gb.then (gc.then (g33.then gd')))))⟩⟩
    · obtain ⟨v32, w33, h32, r32, g33⟩ := mk0 (w' := wb) _ rfl
      exact ⟨v32, w33, h32, crc_Sum_c (r21.grow (ga.then (gb.then g33))) fun wc gc => ⟨_, rfl, crc_Sum_c (r32.grow gc) fun wd gd' => ⟨_, rfl, law' (gd.then (ga.then (gb.then (g33.then (gc.then gd')))))⟩⟩⟩
    · obtain ⟨v32, w33, h32, r32, g33⟩ := mk0 (w' := wa) _ rfl
      exact ⟨v32, w33, h32, crc_Sum_c (hrd.grow (ga.then g33)) fun wb gb => ⟨_, rfl, crc_Sum_c (r21.grow (ga.then (g33.then gb))) fun wc gc => ⟨_, rfl, crc_Sum_c (r32.grow (gb.then gc)) fun wd gd' => ⟨_, rfl, law' (gd.then (ga.then (g33.then (gb.then (gc.then gd')))))⟩⟩⟩⟩
    · obtain ⟨v32, w33, h32, r32, g33⟩ := mk0 (w' := World.drew ww) _ rfl
      exact ⟨v32, w33, h32, crc_Sum_c (hx0.grow g33) fun wa ga => ⟨_, rfl, crc_Sum_c (hrd.grow (g33.then ga)) fun wb gb => ⟨_, rfl, crc_Sum_c (r21.grow (g33.then (ga.then gb))) fun wc gc => ⟨_, rfl, crc_Sum_c (r32.grow (ga.then (gb.then gc))) fun wd gd' => ⟨_, rfl, law' (gd.then (g33.then (ga.then (gb.then (gc.then gd')))))⟩⟩⟩⟩⟩

theorem pow_bit : ∀ r : Nat, r < 8 → IntKind.wrap .u8 ((1 : Int) * ((2 : Int) ^ (min r 8))) = ((1 <<< UInt8.ofNat r : UInt8).toNat : Int) := by decide

theorem pat_bit (p : W) (i : Nat) (hi : i < 32) : (bitsI .and .u32 (Int.fdiv (U p) ((2 : Int) ^ (min i 32))) (1 : Int) == (1 : Int)) = p.getLsbD i := by
  have e : min i 32 = i := by omega
  have h := U_shr p i
  rw [Int.natCast_pow] at h
  rw [e]
  simp only [Int.cast_ofNat_Int] at h
  rw [h, and_one, BitVec.getLsbD_ushiftRight, Nat.add_zero]
  cases p.getLsbD i <;> rfl

theorem crcFlips_s {w : World} {v : Value} {bs : List UInt8} {bit pat : Int} (hr : RdB w v bs) (hbit : Fits .i64 bit) (hp : Fits .u32 pat) :
    Go.CW.Spec Try.prog 4 #[v, .int .i64 bit, .int .u32 pat] w (Law w) := by
  have hbit' := hbit.i64
  rw [of_U hp]
  generalize BitVec.ofInt 32 pat = p
  apply gemellaw2_CrcFlips_wp
  refine known_c fun w1 g1 => ⟨_, rfl, cond_f rfl ?_⟩
  have hr1 := hr.grow g1
  refine JoinP.bool (fun b w' => w' = w1 ∧ (b = false → bs.length ≤ 3000 ∧ 0 ≤ bit)) (fun j hj => ?_) ?_
  · refine ⟨_, RdB.len hr1, cond_intro (fun h => hj _ _ ⟨rfl, by simp⟩) (fun h => hj _ _ ⟨rfl, fun h3 => ?_⟩)⟩
    simp at h h3
    omega
  rintro b w4 ⟨rfl, hb⟩
  refine cond_intro (fun h => ⟨rfl, g1⟩) (fun h => ?_)
  obtain ⟨hl, hb0⟩ := hb h
  refine crc_Seal_c hr1 (by omega) fun v5 w6 g6 r5 => ⟨_, RdB.len r5.rd, ?_⟩
  have hN := sld_length bs
  generalize hNN : (sld bs).length = N at *
  rw [wi64_id (n := 8 * (N : Int)) (by omega) (by omega), Int.tmod_eq_emod_of_nonneg hb0]
  refine nzK_intro (by omega) ?_
  have hm0 := Int.emod_nonneg bit (b := 8 * (N : Int)) (by omega)
  have hm1 := Int.emod_lt_of_pos bit (b := 8 * (N : Int)) (by omega)
  generalize bit % (8 * (N : Int)) = q at *
  obtain ⟨q, rfl⟩ := Int.eq_ofNat_of_zero_le hm0
  refine ⟨fun (b : Bool) (i : Int) (ww : World) => 0 ≤ i ∧ i ≤ 32 ∧ q + i ≤ 8 * N ∧ Grow w4 ww ∧ b = decide (mk p i.toNat ≠ 0#32) ∧ ∃ s : List UInt8, Wr ww w4.heap.size v5 (s.map b8) ∧ s.length = N ∧ F ones s = res ^^^ stn (8 * N - q) (mk p i.toNat) ∧ (b = false → s = sld bs),
    fun (_ : Bool) (i : Int) (_ : World) => (32 - i).toNat, ?_, ?_⟩
  · refine ⟨by omega, by omega, by omega, g6, by simp [mk], sld bs, r5, hNN, ?_, fun _ => rfl⟩
    show F ones (sld bs) = res ^^^ stn _ (0#32)
    rw [F_sld, stn_zero, BitVec.xor_zero]
  dsimp only [allR, mapR2, eqN, ltN]
  rintro m b i ww ⟨⟨h0, h1, h2, g, hbq, s, hs, hsl, hF, hsame⟩, hm⟩
  obtain ⟨i, rfl⟩ := Int.eq_ofNat_of_zero_le h0
  rw [Int.toNat_natCast] at hbq hF
  have hsr : RdB ww v5 s := hs.rd
  refine JoinP.bool (fun b' w' => w' = ww ∧ b' = decide (i < 32 ∧ q + i < 8 * N)) (fun j hj => ?_) ?_
  · refine cond_intro (fun h => ⟨_, RdB.len hsr, hj _ _ ⟨rfl, ?_⟩⟩) (fun h => hj _ _ ⟨rfl, ?_⟩)
    · simp at h
      rw [hsl, wi64_id (n := (q : Int) + (i : Int)) (by omega) (by omega), wi64_id (n := 8 * (N : Int)) (by omega) (by omega), Bool.eq_iff_iff]
      simp; omega
    · simp at h
      rw [Bool.eq_iff_iff]; simp; omega
  rintro b' w13 ⟨rfl, rfl⟩
  rw [wi64_id (n := (q : Int) + (i : Int)) (by omega) (by omega)]
  refine cond_intro (fun h => ?_) (fun h => ?_)
  · simp at h
    obtain ⟨h3, h4⟩ := h
    rw [w64_id (n := (i : Int)) (by omega) (by omega), Int.toNat_natCast]
    rw [wi64_id (n := (i : Int) + 1) (by omega) (by omega)]
    have ei : ((i : Int) + 1).toNat = i + 1 := by omega
    refine JoinP.bool (fun b2 w' => Grow w4 w' ∧ b2 = decide (mk p (i + 1) ≠ 0#32) ∧ ∃ s : List UInt8, Wr w' w4.heap.size v5 (s.map b8) ∧ s.length = N ∧ F ones s = res ^^^ stn (8 * N - q) (mk p (i + 1)) ∧ (b2 = false → s = sld bs)) (fun j hj => ?_) ?_
    · refine leK_intro (by omega) (cond_intro (fun hp => ?_) (fun hp => ?_))
      · rw [pat_bit p i h3] at hp
        have ed : Int.tdiv ((q : Int) + (i : Int)) 8 = (((q + i) / 8 : Nat) : Int) := by
          rw [Int.tdiv_eq_ediv_of_nonneg (by omega)]; omega
        have em : Int.tmod ((q : Int) + (i : Int)) 8 = (((q + i) % 8 : Nat) : Int) := by
          rw [Int.tmod_eq_emod_of_nonneg (by omega)]; omega
        rw [ed, em, w64_id (n := (((q + i) % 8 : Nat) : Int)) (by omega) (by omega)]
        rw [wi64_id (n := (((q + i) / 8 : Nat) : Int)) (by omega) (by omega), Int.toNat_natCast]
        obtain ⟨a, ha, hc, hst, hblk, _, hput⟩ := hs.put (i := (((q + i) / 8 : Nat) : Int)) (by omega) (by simp; omega)
        have hq8 : (q + i) / 8 < s.length := by omega
        refine ⟨a, ha, (s[(q + i) / 8].toNat : Int), ?_, leK_intro (by omega) ⟨a, ha, hst, ?_⟩⟩
        · rw [hc]; simp only [List.getElem_map, Int.toNat_natCast]; rfl
        rw [pow_bit _ (Nat.mod_lt _ (by omega)), b8_xor]
        have hput := hput (b8 (s[(q + i) / 8] ^^^ 1 <<< UInt8.ofNat ((q + i) % 8)))
        rw [Int.toNat_natCast, set_b8] at hput
        have hset := mk_set p i h3 hp
        refine hj _ _ ⟨g.setCell hblk _, by simp [hset], _, hput, by simp [hsl], ?_, fun hh => by simp at hh⟩
        rw [F_flip _ _ _ _ (Nat.mod_lt _ (by omega)) hq8, hF, BitVec.xor_assoc]
        congr 1
        have e1 : 8 * s.length - (8 * ((q + i) / 8) + (q + i) % 8) = (8 * N - q) - i := by omega
        rw [e1, stn_turn _ i h3 (by omega), ← stn_xor]
        simp only [mk, hp, cond_true]
      · rw [pat_bit p i h3] at hp
        have hmk : mk p (i + 1) = mk p i := by simp only [mk, hp, cond_false]
        exact hj _ _ ⟨g, by rw [hmk]; exact hbq, s, hs, hsl, by rw [hmk]; exact hF, hsame⟩
    · rintro b2 w' ⟨g', hb', s', k1, k2, k3, k4⟩
      rw [ei]
      exact ⟨⟨by omega, by omega, by omega, g', hb', s', k1, k2, k3, k4⟩, by omega⟩
  · refine crc_Open_c hsr (by omega) fun v20 w21 g21 r22 => ⟨_, _, rfl, cond_intro (fun ht => ?_) (fun ht => ?_)⟩
    · have hne : mk p i ≠ 0#32 := by
        rw [ht] at hbq
        simpa using hbq.symm
      have hbad : F ones s ≠ res := by
        rw [hF]
        intro e
        apply hne
        apply stn_inj0 (8 * N - q)
        have e2 : res ^^^ (res ^^^ stn (8 * N - q) (mk p i)) = res ^^^ res := congrArg (res ^^^ ·) e
        rw [← BitVec.xor_assoc, BitVec.xor_self, BitVec.zero_xor] at e2
        exact e2
      obtain ⟨e0, e1⟩ := opE_bad (by omega) hbad
      rw [e1] at r22
      rw [e0]
      refine JoinP.bool (fun b w' => b = true ∧ w' = w21) (fun j hj => cond_t (by decide) ⟨_, RdB.len r22, hj _ _ ⟨by simp, rfl⟩⟩) (fun b w' ⟨h, hw⟩ => ?_)
      subst h; subst hw
      exact ⟨rfl, g1.then (g.then g21)⟩
    · have hsm := hsame ht
      subst hsm
      obtain ⟨e0, e1⟩ := opE_sld bs
      rw [e1] at r22
      rw [e0]
      refine JoinP.bool (fun b w' => b = true ∧ w' = w21) (fun j hj => cond_t (by decide) ⟨_, to_text r22, _, to_text (hr1.grow (g.then g21)), hj _ _ ⟨by rw [text_beq]; simp, rfl⟩⟩) (fun b w' ⟨h, hw⟩ => ?_)
      subst h; subst hw
      exact ⟨rfl, g1.then (g.then g21)⟩

end Go.Proofs.Ythocdclklnpkiaa
