/- The law PduFlips. -/
import Derived.Test.YtooeeodkaeimeaaPduK
set_option linter.unusedVariables false
set_option linter.unusedSimpArgs false
set_option maxRecDepth 100000
namespace Go.Proofs.Ytooeeodkaeimeaa
open Go Go.CW Go.RowKit Go.Crc

theorem JoinP.int2 {k k' : IntKind} {rest : Int → Int → World → Prop} {body : (Int → Int → World → Prop) → Prop} (Q : Int → Int → World → Prop) (hb : ∀ j : Int → Int → World → Prop, (∀ a b w, Q a b w → j a b w) → body j) (h : ∀ a b w, Q a b w → rest a b w) : JoinP [.int k, .int k'] rest body := hb rest h

theorem set_b8 (s : List UInt8) (i : Nat) (x : UInt8) : (s.map b8).set i (b8 x) = (s.set i x).map b8 := (List.map_set).symm
theorem pow_bit : ∀ r : Nat, r < 8 → IntKind.wrap .u8 ((1 : Int) * ((2 : Int) ^ (min r 8))) = ((1 <<< UInt8.ofNat r : UInt8).toNat : Int) := by decide
theorem pat_bit (p : W) (i : Nat) (hi : i < 32) : (bitsI .and .u32 (Int.fdiv (U p) ((2 : Int) ^ (min i 32))) (1 : Int) == (1 : Int)) = p.getLsbD i := by
  have e : min i 32 = i := by omega
  have h := U_shr p i
  rw [Int.natCast_pow] at h
  rw [e]
  simp only [Int.cast_ofNat_Int] at h
  rw [h, and_one, BitVec.getLsbD_ushiftRight, Nat.add_zero]
  cases p.getLsbD i <;> rfl

/-- what was turned within a burst is found -/
theorem bad_sum {s : List UInt8} {n : Nat} (hl : s.length = n + 4) (h : F ones s ≠ res) : le4 (sum (s.take n)) ≠ s.drop n := by
  intro e
  apply h
  have := F_open (s.take n) (s.drop n) e.symm
  rwa [List.take_append_drop] at this

/-- the bytes that may be turned: of the header, or of the data -/
structure Seg (p : Pd) (ds pre m post : List UInt8) : Prop where
  all : encP p ds = pre ++ sld m ++ post
  bad : ∀ s : List UInt8, s.length = m.length + 4 → le4 (sum (s.take m.length)) ≠ s.drop m.length → decE (pre ++ s ++ post) = 4

theorem seg_head (p : Pd) (ds : List UInt8) : Seg p ds [] (hdr p ds.length) (if ds = [] then [] else sealed (pad4 ds)) := by
  refine ⟨rfl, fun s hs hb => ?_⟩
  have hh := hdr_length p ds.length
  rw [hh] at hs hb
  rw [List.nil_append]
  have f : frontE (s ++ if ds = [] then [] else sealed (pad4 ds)) = 4 := by
    unfold frontE
    rw [if_neg (by rw [List.length_append]; omega), List.take_append_of_le_length (by omega), List.drop_append_of_le_length (by omega), List.take_append_of_le_length (by simp; omega), List.take_of_length_le (l := s.drop 48) (by simp; omega), if_neg hb]
  unfold decE
  rw [if_pos (by rw [f]; decide), f]

theorem seg_data (p : Pd) (ds : List UInt8) (hf : PdFits p) (hk : okP p = true) (hn : ds.length ≤ 4096) (hne : ds ≠ []) : Seg p ds (sealed (hdr p ds.length)) (pad4 ds) [] := by
  refine ⟨by unfold encP; rw [if_neg hne, List.append_nil]; rfl, fun s hs hb => ?_⟩
  rw [List.append_nil]
  have hh := hdr_length p ds.length
  have es : sealed (hdr p ds.length) ++ s = hdr p ds.length ++ (le4 (sum (hdr p ds.length)) ++ s) := by unfold sealed; rw [List.append_assoc]
  obtain ⟨r1, r2, r3, r4, r5⟩ := hdr_read p ds.length (le4 (sum (hdr p ds.length)) ++ s) hf hk hn
  obtain ⟨t1, t2⟩ := take48 p ds.length (le4 (sum (hdr p ds.length)) ++ s)
  rw [← es] at r1 r2 r3 r4 r5 t1 t2
  have sl := sealed_length (hdr p ds.length)
  have hl : (sealed (hdr p ds.length) ++ s).length = 52 + s.length := by rw [List.length_append]; omega
  have fe : frontE (sealed (hdr p ds.length) ++ s) = 0 := by
    unfold frontE
    rw [if_neg (by omega), t1, t2]
    have : (le4 (sum (hdr p ds.length)) ++ s).take 4 = le4 (sum (hdr p ds.length)) := rfl
    rw [this, if_pos rfl, if_neg (by rw [r3, r4]; simp), r5, if_neg (by omega)]
  have pl := pad4_length ds
  have h0 : dn (sealed (hdr p ds.length) ++ s) ≠ 0 := by rw [r2]; exact fun h => hne (List.eq_nil_of_length_eq_zero h)
  have ew : dw (sealed (hdr p ds.length) ++ s) = (pad4 ds).length := by unfold dw; rw [r2, pl]
  have d52 : (sealed (hdr p ds.length) ++ s).drop 52 = s := by rw [List.drop_append_of_le_length (by omega), List.drop_of_length_le (by omega), List.nil_append]
  unfold decE
  rw [if_neg (by rw [fe]; simp), if_neg h0, ew, d52, if_neg (by omega), List.take_of_length_le (l := s.drop _) (by simp; omega), if_neg hb]

theorem set_mid (pre s post : List UInt8) (j : Nat) (x : UInt8) (hj : j < s.length) : (pre ++ s ++ post).set (pre.length + j) x = pre ++ s.set j x ++ post := by
  rw [List.append_assoc, List.set_append_right _ _ (by omega), List.append_assoc]
  congr 1
  rw [Nat.add_sub_cancel_left, List.set_append_left _ _ hj]

theorem get_mid (pre s post : List UInt8) (j : Nat) (hj : j < s.length) (h : pre.length + j < (pre ++ s ++ post).length) : (pre ++ s ++ post)[pre.length + j] = s[j] := by
  have e : (pre ++ s ++ post)[pre.length + j]? = some s[j] := by
    rw [List.append_assoc, List.getElem?_append_right (by omega), Nat.add_sub_cancel_left, List.getElem?_append_left hj, List.getElem?_eq_getElem hj]
  rw [List.getElem?_eq_getElem h] at e
  exact Option.some.inj e

theorem pduFlips_s {w : World} {p : Pd} {dv : Value} {ds : List UInt8} {bit pat : Int} (hf : PdFits p) (hd : RdB w dv ds) (hbit : Fits .i64 bit) (hp : Fits .u32 pat) :
    Go.CW.Spec Try.prog 3 #[vP p dv, .int .i64 bit, .int .u32 pat] w (Law w) := by
  have hbit' := hbit.i64
  rw [of_U hp]
  generalize BitVec.ofInt 32 pat = pt
  apply gemellaw7_PduFlips_wp
  refine nm fun w0 e0 => ?_
  obtain ⟨b0, g0, s0⟩ := alE e0
  clear e0
  refine known_c fun w2 g2 => ⟨_, rfl, cond_f rfl ?_⟩
  have b2 := b0.grow g2
  have hd2 := hd.grow (g0.then g2)
  refine JoinP.bool (fun b w' => w' = w2 ∧ (b = false → ds.length ≤ 1500 ∧ 0 ≤ bit)) (fun j hj => ?_) ?_
  · refine ⟨_, b2.cell 26, _, RdB.len hd2, cond_intro (fun h => hj _ _ ⟨rfl, by simp⟩) (fun h => hj _ _ ⟨rfl, fun h3 => ?_⟩)⟩
    simp at h h3
    omega
  rintro b w5 ⟨rfl, hb⟩
  refine cond_intro (fun h => ⟨rfl, g0.then g2⟩) (fun h => ?_)
  obtain ⟨hl, hb0⟩ := hb h
  clear hb h
  refine ⟨_, _, _, _, _, _, _, _, _, _, _, _, _, _, _, _, _, _, _, _, _, _, _, _, _, _, _, b2.ld rfl, Encode_c hf hd2 fun v35 e w34 g34 k1 k2 k3 => ⟨_, _, rfl, ?_⟩⟩
  have gA := g0.then (g2.then g34)
  refine cond_intro (fun h => ⟨rfl, gA⟩) (fun h => ?_)
  have he : e = 0 := by simpa using h
  subst he
  have hk : okP p = true := by
    cases hh : okP p with
    | true => rfl
    | false => exact absurd (k1 hh).2 (by decide)
  obtain ⟨r35, _, n35⟩ := k3 hk (by omega)
  clear k1 k2 k3 h
  have b34 := b2.grow g34
  have hd34 := hd2.grow g34
  have eL := encP_length p ds
  refine JoinP.int2 (fun lo hi w' => w' = w34 ∧ ∃ pre m post, Seg p ds pre m post ∧ lo = 8 * (pre.length : Int) ∧ hi = 8 * ((pre.length : Int) + m.length + 4)) (fun j hj => ?_) ?_
  · have sh : j 0 416 w34 := hj _ _ _ ⟨rfl, _, _, _, seg_head p ds, rfl, by rw [hdr_length]; rfl⟩
    refine JoinP.bool (fun b w' => w' = w34 ∧ (b = true → ds ≠ [])) (fun j1 hj1 => ⟨_, RdB.len r35, cond_intro (fun h => ?_) (fun h => ?_)⟩) ?_
    · refine hj1 _ _ ⟨rfl, fun _ hds => ?_⟩
      rw [if_pos hds] at eL
      simp at h
      omega
    · exact hj1 _ _ ⟨rfl, fun h => by cases h⟩
    · rintro b w' ⟨rfl, hb⟩
      refine cond_intro (fun h => ⟨_, RdB.len r35, ?_⟩) (fun _ => sh)
      have hne := hb h
      rw [wi64_id (n := 8 * ((encP p ds).length : Int)) (by omega) (by rw [eL, if_neg hne]; omega)]
      refine hj _ _ _ ⟨rfl, _, _, _, seg_data p ds hf hk (by omega) hne, by rw [sealed_length, hdr_length]; rfl, ?_⟩
      rw [sealed_length, hdr_length, eL, if_neg hne, pad4_length]
      omega
  rintro lo hi w39 ⟨rfl, pre, m, post, sg, rfl, rfl⟩
  refine nm fun w40 e40 => ?_
  obtain ⟨v41, w42, h41, o41, g41⟩ := app_copy r35 (by rw [eL]; split <;> omega)
  rw [e40]
  refine ⟨v41, w42, h41, ?_⟩
  have all := sg.all
  have alll := congrArg List.length all
  rw [eL, List.length_append, List.length_append, sld_length] at alll
  have hN : pre.length + (m.length + 4) + post.length ≤ 1600 := by rw [← alll]; split <;> omega
  have hw : IntKind.wrap .i64 (8 * ((pre.length : Int) + m.length + 4) - 8 * (pre.length : Int)) = 8 * ((m.length + 4 : Nat) : Int) := by rw [wi64_id (by omega) (by omega)]; omega
  rw [hw]
  have hsl := sld_length m
  generalize hNN : m.length + 4 = N at *
  refine nzK_intro (by omega) ?_
  have hq : ∃ q : Nat, q < 8 * N ∧ IntKind.wrap .i64 (8 * (pre.length : Int) + Int.tmod (IntKind.wrap .i64 (Int.tdiv bit 2)) (8 * (N : Int))) = ((8 * pre.length + q : Nat) : Int) := by
    rw [Int.tdiv_eq_ediv_of_nonneg hb0, wi64_id (n := bit / 2) (by omega) (by omega), Int.tmod_eq_emod_of_nonneg (by omega)]
    have hm0 := Int.emod_nonneg (bit / 2) (b := 8 * (N : Int)) (by omega)
    have hm1 := Int.emod_lt_of_pos (bit / 2) (b := 8 * (N : Int)) (by omega)
    generalize bit / 2 % (8 * (N : Int)) = q at *
    obtain ⟨q, rfl⟩ := Int.eq_ofNat_of_zero_le hm0
    exact ⟨q, by omega, by rw [wi64_id (by omega) (by omega)]; omega⟩
  obtain ⟨q, hq1, hq⟩ := hq
  rw [hq]
  refine ⟨fun (b : Bool) (i : Int) (ww : World) => 0 ≤ i ∧ i ≤ 32 ∧ q + i ≤ 8 * N ∧ Grow w39 ww ∧ b = decide (mk pt i.toNat ≠ 0#32) ∧ ∃ s : List UInt8, Wr ww w39.heap.size v41 ((pre ++ s ++ post).map b8) ∧ s.length = N ∧ F ones s = res ^^^ stn (8 * N - q) (mk pt i.toNat) ∧ (b = false → s = sld m),
    fun (_ : Bool) (i : Int) (_ : World) => (32 - i).toNat, ?_, ?_⟩
  · refine ⟨by omega, by omega, by omega, g41, by simp [mk], sld m, by rw [← all]; exact o41.wr, by omega, ?_, fun _ => rfl⟩
    show F ones (sld m) = res ^^^ stn _ (0#32)
    rw [F_sld, stn_zero, BitVec.xor_zero]
  dsimp only [allR, mapR2, eqN, ltN]
  rintro μ b i ww ⟨⟨h0, h1, h2, g, hbq, s, hs, hsl2, hF, hsame⟩, hm⟩
  obtain ⟨i, rfl⟩ := Int.eq_ofNat_of_zero_le h0
  rw [Int.toNat_natCast] at hbq hF
  have hsr : RdB ww v41 (pre ++ s ++ post) := hs.rd
  rw [wi64_id (n := ((8 * pre.length + q : Nat) : Int) + (i : Int)) (by omega) (by omega)]
  refine JoinP.bool (fun b' w' => w' = ww ∧ b' = decide (i < 32 ∧ q + i < 8 * N)) (fun j hj => ?_) ?_
  · refine cond_intro (fun h => hj _ _ ⟨rfl, ?_⟩) (fun h => hj _ _ ⟨rfl, ?_⟩)
    · simp at h
      rw [Bool.eq_iff_iff]
      simp; omega
    · simp at h
      rw [Bool.eq_iff_iff]; simp; omega
  rintro b' w48 ⟨rfl, rfl⟩
  refine cond_intro (fun h => ?_) (fun h => ?_)
  · simp at h
    obtain ⟨h3, h4⟩ := h
    rw [w64_id (n := (i : Int)) (by omega) (by omega), Int.toNat_natCast]
    rw [wi64_id (n := (i : Int) + 1) (by omega) (by omega)]
    have ei : ((i : Int) + 1).toNat = i + 1 := by omega
    refine JoinP.bool (fun b2 w' => Grow w39 w' ∧ b2 = decide (mk pt (i + 1) ≠ 0#32) ∧ ∃ s : List UInt8, Wr w' w39.heap.size v41 ((pre ++ s ++ post).map b8) ∧ s.length = N ∧ F ones s = res ^^^ stn (8 * N - q) (mk pt (i + 1)) ∧ (b2 = false → s = sld m)) (fun j hj => ?_) ?_
    · refine leK_intro (by omega) (cond_intro (fun hp => ?_) (fun hp => ?_))
      · rw [pat_bit pt i h3] at hp
        have ed : Int.tdiv (((8 * pre.length + q : Nat) : Int) + (i : Int)) 8 = ((pre.length + (q + i) / 8 : Nat) : Int) := by
          rw [Int.tdiv_eq_ediv_of_nonneg (by omega)]; omega
        have em : Int.tmod (((8 * pre.length + q : Nat) : Int) + (i : Int)) 8 = (((q + i) % 8 : Nat) : Int) := by
          rw [Int.tmod_eq_emod_of_nonneg (by omega)]; omega
        rw [ed, em, w64_id (n := (((q + i) % 8 : Nat) : Int)) (by omega) (by omega)]
        rw [wi64_id (n := ((pre.length + (q + i) / 8 : Nat) : Int)) (by omega) (by omega), Int.toNat_natCast]
        have hq8 : (q + i) / 8 < s.length := by omega
        have hlen : (pre ++ s ++ post).length = pre.length + N + post.length := by simp [hsl2]; omega
        obtain ⟨a, ha, hc, hst, hblk, _, hput⟩ := hs.put (i := ((pre.length + (q + i) / 8 : Nat) : Int)) (by omega) (by rw [List.length_map, hlen]; omega)
        refine ⟨a, ha, (s[(q + i) / 8].toNat : Int), ?_, leK_intro (by omega) ⟨a, ha, hst, nm fun w55 e55 => ?_⟩⟩
        · rw [hc]; simp only [List.getElem_map, Int.toNat_natCast, get_mid pre s post _ hq8]; rfl
        rw [pow_bit _ (Nat.mod_lt _ (by omega)), b8_xor] at e55
        have hput := hput (b8 (s[(q + i) / 8] ^^^ 1 <<< UInt8.ofNat ((q + i) % 8)))
        rw [Int.toNat_natCast, set_b8, set_mid _ _ _ _ _ hq8] at hput
        have hset := mk_set pt i h3 hp
        have hput : Wr w55 w39.heap.size v41 ((pre ++ s.set ((q + i) / 8) (s[(q + i) / 8] ^^^ 1 <<< UInt8.ofNat ((q + i) % 8)) ++ post).map b8) := by rw [e55]; exact hput
        refine hj _ _ ⟨by rw [e55]; exact g.setCell hblk _, by simp [hset], _, hput, by simp [hsl2], ?_, fun hh => by simp at hh⟩
        rw [F_flip _ _ _ _ (Nat.mod_lt _ (by omega)) hq8, hF, BitVec.xor_assoc]
        congr 1
        have e1 : 8 * s.length - (8 * ((q + i) / 8) + (q + i) % 8) = (8 * N - q) - i := by omega
        rw [e1, stn_turn _ i h3 (by omega), ← stn_xor]
        simp only [mk, hp, cond_true]
      · rw [pat_bit pt i h3] at hp
        have hmk : mk pt (i + 1) = mk pt i := by simp only [mk, hp, cond_false]
        exact hj _ _ ⟨g, by rw [hmk]; exact hbq, s, hs, hsl2, by rw [hmk]; exact hF, hsame⟩
    · rintro b2 w' ⟨g', hb', s', k1, k2, k3, k4⟩
      rw [ei]
      exact ⟨⟨by omega, by omega, by omega, g', hb', s', k1, k2, k3, k4⟩, by omega⟩
  · have hlen : (pre ++ s ++ post).length = pre.length + N + post.length := by simp [hsl2]; omega
    refine Decode_c hsr (by omega) fun dv5 w57 g57 r57 n57 => ⟨_, _, _, _, _, _, _, _, _, _, _, _, _, _, _, _, _, _, _, _, _, _, _, _, _, _, _, _, _, rfl, nm fun w87 e87 => ?_⟩
    obtain ⟨b87, g87, _⟩ := alE e87
    clear e87
    refine ⟨b87.row rfl (one_rP (Rd.isOne r57)), nm fun w88 e88 => ?_⟩
    obtain ⟨b88, t88⟩ := rowE b87 e88 rfl
    clear e88
    have g88 : Grow w57 w88 := Below.turn g87 t88 (Nat.le_refl _)
    have gB := (g.then g57).then g88
    have r88 := r57.grow g88
    refine cond_intro (fun ht => ?_) (fun ht => ?_)
    · have hne : mk pt i ≠ 0#32 := by
        rw [ht] at hbq
        simpa using hbq.symm
      have hbad : F ones s ≠ res := by
        rw [hF]
        intro e
        apply hne
        apply stn_inj0 (8 * N - q)
        have e2 : res ^^^ (res ^^^ stn (8 * N - q) (mk pt i)) = res ^^^ res := congrArg (res ^^^ ·) e
        rw [← BitVec.xor_assoc, BitVec.xor_self, BitVec.zero_xor] at e2
        exact e2
      have d4 := sg.bad s (by omega) (bad_sum (by omega) hbad)
      refine JoinP.bool (fun b w' => b = true ∧ Grow w39 w') (fun j hj => ?_) (fun b w' ⟨h, hw⟩ => ?_)
      · rw [d4]
        have hds : decDs (pre ++ s ++ post) = [] := by unfold decDs; rw [d4]; rfl
        rw [hds] at r88
        refine cond_t (by rfl) (cond_t (by rfl) ⟨_, _, _, _, _, _, _, _, _, _, _, _, _, _, _, _, _, _, _, _, _, _, _, _, _, _, _, b88.ld rfl, ?_⟩)
        rw [d4]
        exact Same_c (p := zP) (q := zP) r88 (Rd.nil _) fun b' w' g' hb' => ⟨_, rfl, hj _ _ ⟨hb'.2 ⟨rfl, rfl⟩, gB.then g'⟩⟩
      · subst h
        exact ⟨rfl, gA.then hw⟩
    · have hsm := hsame ht
      subst hsm
      obtain ⟨q1, q2, q3, q4, q5⟩ := dec_enc p ds hf hk (by omega)
      rw [all] at q1 q2 q3
      have hds : decDs (pre ++ sld m ++ post) = ds := by unfold decDs; rw [if_pos q1, q3]
      rw [hds] at r88
      refine JoinP.bool (fun b w' => b = true ∧ Grow w39 w') (fun j hj => ?_) (fun b w' ⟨h, hw⟩ => ?_)
      · refine nm fun w125 e125 => ?_
        have g125 := drE e125
        have b125 := b88.grow g125
        have bp := b34.grow (gB.then g125)
        rw [q1, if_pos rfl, q2] at b125
        rw [q1]
        refine cond_t (by rfl) ⟨_, _, _, _, _, _, _, _, _, _, _, _, _, _, _, _, _, _, _, _, _, _, _, _, _, _, _, b125.ld rfl, _, _, _, _, _, _, _, _, _, _, _, _, _, _, _, _, _, _, _, _, _, _, _, _, _, _, _, bp.ld rfl, nm fun w180 e180 => ?_⟩
        obtain rfl : w180 = w125 := e180.trans e125.symm
        have hdw := hd34.grow (gB.then g125)
        refine Of_c (Rd.isOne hdw) fun w182 g182 => ⟨_, _, _, _, _, _, _, _, _, _, _, _, _, _, _, _, _, _, _, _, _, _, _, _, _, _, _, rfl, ⟨_, _, _, _, _, _, _, _, _, _, _, _, _, _, _, _, _, _, _, _, _, _, _, _, _, _, _, (b125.grow g182).ld rfl, rfl⟩, ?_⟩
        exact Same_c ((r88.grow g125).grow g182) (hdw.grow g182) fun b' w' g' hb' => ⟨_, rfl, hj _ _ ⟨hb'.2 ⟨rfl, rfl⟩, gB.then (g125.then (g182.then g'))⟩⟩
      · subst h
        exact ⟨rfl, gA.then hw⟩

end Go.Proofs.Ytooeeodkaeimeaa
