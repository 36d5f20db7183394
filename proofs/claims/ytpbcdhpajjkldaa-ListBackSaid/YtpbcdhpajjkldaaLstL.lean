/- The laws of the keys' bytes: each returns true. -/
import Derived.Test.YtpbcdhpajjkldaaLstQ
set_option linter.unusedVariables false
set_option linter.unusedSimpArgs false
namespace Go.Proofs.Ytpbcdhpajjkldaa
open Go Go.CW Go.RowKit

theorem listBytes_s {w : World} {v : Value} {bs : List UInt8} (hr : RdB w v bs) :
    Go.CW.Spec Try.prog 3 #[v] w (Law w) := by
  apply gemellaw6_ListBytes_wp
  refine known_c fun w1 g1 => ⟨_, rfl, cond_f rfl ?_⟩
  have hr1 := hr.grow g1
  refine ⟨_, RdB.len hr1, cond_intro (fun h => ⟨rfl, g1⟩) (fun h => ?_)⟩
  have hl : bs.length ≤ 500 := by simp at h; omega
  refine Decode_c hr1 fun w5 g5 => ?_
  have hr5 := hr1.grow g5
  obtain ⟨n0, n1, n2, hA, hbad, hok⟩ : ∃ n0 n1 n2, dR bs = #[.int .i64 n0, .int .i64 n1, .int .i64 n2, .slice none 0 0, .int .i64 0] ∧ (okD bs = false → n0 = 2 ∧ n1 = 5 ∧ n2 = 9728) ∧ (okD bs = true → n0 = 0 ∧ n2 = 0) := by
    unfold dR
    cases okD bs
    · exact ⟨2, 5, 9728, rfl, (fun _ => ⟨rfl, rfl, rfl⟩), (fun h => by cases h)⟩
    · exact ⟨0, 0, 0, rfl, (fun h => by cases h), (fun _ => ⟨rfl, rfl⟩)⟩
  rw [hA]
  have b0 := BK.new w5 rep0 tQ
  have bb := b0.strow (ds := #[.int .i64 n0, .int .i64 n1, .int .i64 n2, .slice none 0 0, .int .i64 0]) rfl
  have gb : Grow w5 (stRow (w5.alloc (.cells rep0 tQ)) ⟨w5.heap.size, 0, none⟩ #[.int .i64 n0, .int .i64 n1, .int .i64 n2, .slice none 0 0, .int .i64 0]) := Below.strow (Grow.al (Grow.refl w5) (.cells rep0 tQ)) (p := ⟨w5.heap.size, 0, none⟩) (Nat.le_refl _) _
  refine ⟨_, _, _, _, _, _, _, _, rfl, b0.row (ds := #[.int .i64 n0, .int .i64 n1, .int .i64 n2, .slice none 0 0, .int .i64 0]) rfl rfl, ?_⟩
  generalize hW : stRow (w5.alloc (.cells rep0 tQ)) ⟨w5.heap.size, 0, none⟩ #[.int .i64 n0, .int .i64 n1, .int .i64 n2, .slice none 0 0, .int .i64 0] = W at *
  have e0 : (stRow (w5.alloc (.cells #[.int .i64 0, .int .i64 0, .int .i64 0, .slice none 0 0, .int .i64 0] tQ)) ⟨w5.heap.size, 0, none⟩ #[.int .i64 n0, .int .i64 n1, .int .i64 n2, .slice none 0 0, .int .i64 0]) = W := hW
  rw [e0]
  refine DecodeR_c (hr5.grow gb) ⟨_, _, _, rfl, ?_⟩
  refine JoinP.bool (fun b w' => b = false ∧ Grow w1 w') (fun j hj => ?_) ?_
  · refine cond_f (by simp) (cond_f (by simp) (cond_f (by simp) ?_))
    have gW := g5.then gb
    cases hd : okD bs
    · obtain ⟨rfl, rfl, rfl⟩ := hbad hd
      exact cond_t rfl ⟨_, bb.cell 0, cond_f rfl ⟨_, bb.cell 1, cond_f rfl ⟨_, bb.cell 2, cond_f rfl (cond_f rfl (hj _ _ ⟨rfl, gW⟩))⟩⟩⟩
    · obtain ⟨rfl, rfl⟩ := hok hd
      exact cond_f rfl (cond_t rfl ⟨_, bb.cell 0, cond_f rfl ⟨_, bb.cell 2, hj _ _ ⟨rfl, gW⟩⟩⟩)
  rintro b w20 ⟨rfl, g20⟩
  refine cond_f rfl ?_
  -- keys
  refine ParseKeys_c (hr1.grow g20) (by omega) fun u w22 g22 ru => ⟨_, _, _, rfl, ?_⟩
  refine ParseKeysR_c (hr1.grow (g20.then g22)) (by omega) fun u2 w27 g27 ru2 => ⟨_, _, _, rfl, ?_⟩
  have g27' := g20.then (g22.then g27)
  have ru := ru.grow g27
  refine JoinP.bool (fun b w' => b = false ∧ w' = w27) (fun j hj => cond_f (by simp) (cond_f (by simp) ⟨_, ru.len, _, ru2.len, hj _ _ ⟨by simp, rfl⟩⟩)) ?_
  rintro b w32 ⟨rfl, rfl⟩
  refine cond_f rfl ?_
  have hle := ru.le
  refine ⟨fun (i : Int) (ww : World) => 0 ≤ i ∧ i ≤ (pkL bs).length ∧ Grow w32 ww, fun (i : Int) (_ : World) => ((pkL bs).length - i).toNat, ⟨by omega, by omega, Grow.refl _⟩, ?_⟩
  dsimp only [allR, mapR2, eqN, ltN]
  rintro m i ww ⟨⟨h0, h1, g⟩, hm⟩
  refine ⟨_, ru.len, cond_intro (fun h2 => ?_) (fun h2 => ?_)⟩
  · simp at h2
    have gd := g.dr
    obtain ⟨a1, ha1, hc1⟩ := EU_at (ru.grow gd) h0 h2
    obtain ⟨a2, ha2, hc2⟩ := EU_at (ru2.grow gd) h0 h2
    refine ⟨a1, ha1, _, hc1, a2, ha2, _, hc2, cond_f (by simp) ?_⟩
    rw [wi64_id (n := i + 1) (by omega) (by omega)]
    exact ⟨⟨by omega, by omega, gd⟩, by omega⟩
  · refine ParseHolder_c (hr1.grow (g27'.then g)) fun w42 g42 => ⟨_, _, _, _, rfl, ?_⟩
    refine ParseHolderR_c (hr1.grow ((g27'.then g).then g42)) fun w48 g48 => ⟨_, _, _, _, rfl, ?_⟩
    refine JoinP.bool (fun b w' => b = true ∧ w' = w48) (fun j hj => cond_t (by simp) (cond_t (by simp) (cond_t (by simp) (hj _ _ ⟨by simp, rfl⟩)))) (fun b w' ⟨h, e⟩ => ?_)
    subst h; subst e
    exact ⟨rfl, g1.then ((g27'.then g).then (g42.then g48))⟩

/-! ### cuts -/
theorem hd_take {bs : List UInt8} {q : Nat} (h : 8 ≤ q) (hq : q ≤ bs.length) : hdG (bs.take q) = hdG bs ∧ hdN (bs.take q) = hdN bs := by
  have e : ∀ a : Int, 0 ≤ a → a + 4 ≤ 8 → getV (bs.take q) a 4 = getV bs a 4 := by
    intro a h0 h1
    have b1 : getB (bs.take q).length a 4 = true := by
      simp only [getB, inW, Bool.and_eq_true, decide_eq_true_eq, List.length_take]; omega
    have b2 : getB bs.length a 4 = true := by
      simp only [getB, inW, Bool.and_eq_true, decide_eq_true_eq]; omega
    simp only [getV, b1, b2, cond_true]
    congr 1
    rw [List.drop_take, List.take_take]
    congr 1
    show min 4 (q - a.toNat) = 4
    omega
  exact ⟨e 0 (by omega) (by omega), e 4 (by omega) (by omega)⟩

/-- fewer bytes than the head says -/
theorem short_cut {bs : List UInt8} {q : Nat} (hn : hdN bs = (bs.length : Int) - 8) (hq : q < bs.length) : pkE (bs.take q) = 3 := by
  have hs : shortB (bs.take q) = true := by
    simp only [shortB, Bool.or_eq_true, decide_eq_true_eq, List.length_take]
    by_cases h8 : q < 8
    · left; omega
    · right
      rw [(hd_take (by omega) (by omega)).2]
      omega
  unfold pkE; rw [if_pos hs]

theorem okK_len {bs : List UInt8} (h : okK bs = true) : hdN bs = (bs.length : Int) - 8 ∧ bs.length % 8 = 0 := by
  simp only [okK, decide_eq_true_eq] at h
  have hl := keysB_length (hdG bs) (chunk bs (nR bs))
  have hh := (keysB_heads (l := chunk bs (nR bs)) (hd_range bs).1).2
  rw [h] at hl hh
  omega

theorem listCuts_s {w : World} {v : Value} {gen cut x : Int} {l : List Int} (hg : Fits .u32 gen) (hl : ∀ x ∈ l, Fits .u64 x) (hr : Rd w v (l.map (Value.int .u64))) (hc : Fits .i64 cut) (hx : Fits .u8 x) :
    Go.CW.Spec Try.prog 5 #[.int .u32 gen, v, .int .i64 cut, .int .u8 x] w (Law w) := by
  have hg' := hg.u32
  have hc' := hc.i64
  have hx' := hx.u8
  have hru := EU_of hr
  have hl' : ∀ x ∈ l, 0 ≤ x ∧ x < 18446744073709551616 := fun x hx => (hl x hx).u64
  have ex : x = ((byt x).toNat : Int) := by rw [byt_toNat]; omega
  generalize byt x = xb at ex
  subst ex
  apply gemellaw6_ListCuts_wp
  refine known_c fun w1 g1 => ⟨_, rfl, cond_f rfl ?_⟩
  have hr1 := hru.grow g1
  refine JoinP.bool (fun b w' => w' = w1 ∧ (b = false → l.length ≤ 16 ∧ 0 ≤ cut)) (fun j hj => ?_) ?_
  · refine ⟨_, hr1.len, cond_intro (fun h => hj _ _ ⟨rfl, by simp⟩) (fun h => hj _ _ ⟨rfl, fun h2 => ?_⟩)⟩
    simp at h h2; omega
  rintro b w4 ⟨rfl, hb⟩
  refine cond_intro (fun h => ⟨rfl, g1⟩) (fun h => ?_)
  obtain ⟨hl16, hc0⟩ := hb h
  refine Keys_c hg' hr1 fun v5 w6 g6 r5 _ => ⟨_, RdB.len r5, ?_⟩
  obtain ⟨q1, q2⟩ := keysB_heads (l := l) hg'
  have hlen := keysB_length gen l
  have hN : hdN (keysB gen l) = ((keysB gen l).length : Int) - 8 := by rw [q2, hlen]; omega
  generalize keysB gen l = bs at *
  refine nzK_intro (by omega) ?_
  rw [Int.tmod_eq_emod_of_nonneg hc0, Int.tmod_eq_emod_of_nonneg hc0]
  have hm0 := Int.emod_nonneg cut (b := (bs.length : Int)) (by omega)
  have hm1 := Int.emod_lt_of_pos cut (b := (bs.length : Int)) (by omega)
  have hk0 := Int.emod_nonneg cut (b := 4) (by omega)
  have hk1 := Int.emod_lt_of_pos cut (b := 4) (by omega)
  generalize cut % (bs.length : Int) = q at *
  generalize cut % 4 = k at *
  obtain ⟨v8, h8, r8, _⟩ := r5.sub (lo := none) (hi := some (.int .i64 q)) (l := 0) (r := q.toNat) (fun cap hc => by rw [List.length_map] at hc; rw [bounds_ni (by omega) (by omega)]) (by omega) (by simp; omega)
  have r8 : RdB w6 v8 (bs.take q.toNat) := by simpa [RdB, List.map_take] using r8
  refine ⟨v8, h8, ParseKeys_c r8 (by simp; omega) fun u1 w10 g10 _ => ⟨_, _, _, rfl, ?_⟩⟩
  rw [short_cut hN (by omega)]
  -- one byte more
  obtain ⟨v14, w15, h14, o14, g14⟩ := app_copy (r5.grow g10) (by omega)
  obtain ⟨v16, w17, h16, o16, n16⟩ := app_byte o14 g14.size _ xb rfl (by omega)
  have g17 : Grow w10 w17 := g14.trans (n16.below g14.size o14.blk)
  refine ⟨v14, w15, h14, v16, w17, h16, ParseKeys_c o16.rd (by simp; omega) fun u2 w19 g19 _ => ⟨_, _, _, rfl, ?_⟩⟩
  have hE2 : pkE (bs ++ [xb]) = 2 := by
    have e1 : getV (bs ++ [xb]) 4 4 = getV bs 4 4 := by
      have := (hd_take (bs := bs ++ [xb]) (q := bs.length) (by omega) (by simp)).2
      rw [List.take_left] at this
      exact this.symm
    have hs : shortB (bs ++ [xb]) = false := by
      simp only [shortB, Bool.or_eq_false_iff, decide_eq_false_iff_not, List.length_append, List.length_singleton]
      have : hdN (bs ++ [xb]) = hdN bs := e1
      rw [this]; omega
    have hk : okK (bs ++ [xb]) = false := by
      cases h : okK (bs ++ [xb])
      · rfl
      · have := (okK_len h).2
        simp at this; omega
    unfold pkE; rw [hs, hk]; rfl
  rw [hE2]
  -- a byte turned
  have g19' := g10.then (g17.then g19)
  obtain ⟨v23, w24, h23, o23, g23⟩ := app_copy (r5.grow g19') (by omega)
  rw [wi64_id (n := 4 + k) (by omega) (by omega)]
  obtain ⟨a, ha, hca, hst, hblk, _, hput⟩ := o23.wr.put (i := 4 + k) (by omega) (by simp; omega)
  have hk8 : (4 + k).toNat < bs.length := by omega
  have hcell : w24.cell? a = some (.int .u8 ((bs[(4 + k).toNat]).toNat : Int)) := by rw [hca]; simp only [List.getElem_map]; rfl
  refine ⟨v23, w24, h23, a, ha, _, hcell, a, ha, hst, ?_⟩
  rw [b8_xor]
  have hput := hput (b8 (bs[(4 + k).toNat] ^^^ xb))
  have hset : (bs.map b8).set (4 + k).toNat (b8 (bs[(4 + k).toNat] ^^^ xb)) = (bs.set (4 + k).toNat (bs[(4 + k).toNat] ^^^ xb)).map b8 := (List.map_set).symm
  rw [hset] at hput
  have g24 : Grow w6 (w24.setCell a (b8 (bs[(4 + k).toNat] ^^^ xb))) := g19'.then (Below.setCell g23 hblk _)
  refine ParseKeys_c hput.rd (by simp; omega) fun u3 w29 g29 ru3 => ⟨_, _, _, rfl, ?_⟩
  have gend := g1.then (g6.then (g24.then g29))
  have hbad : (xb.toNat : Int) ≠ 0 → okK (bs.set (4 + k).toNat (bs[(4 + k).toNat] ^^^ xb)) = false := by
    intro hx0
    cases h : okK (bs.set (4 + k).toNat (bs[(4 + k).toNat] ^^^ xb))
    · rfl
    · exfalso
      have h1 := (okK_len h).1
      rw [List.length_set, ← hN] at h1
      have p1 := putL_get (bs := bs) (a := 4) (n := 4) (by omega) (by omega)
      have p2 := putL_get (bs := bs.set (4 + k).toNat (bs[(4 + k).toNat] ^^^ xb)) (a := 4) (n := 4) (by omega) (by rw [List.length_set]; omega)
      have e4 : ((4 : Nat) : Int) = 4 := rfl
      rw [e4] at p1 p2
      have h2 : getV (bs.set (4 + k).toNat (bs[(4 + k).toNat] ^^^ xb)) 4 4 = getV bs 4 4 := h1
      rw [h2, p1] at p2
      have h3 := congrArg (fun l : List UInt8 => l[k.toNat]?) p2
      have ek : 4 + k.toNat = (4 + k).toNat := by omega
      simp only [List.getElem?_take_of_lt (show k.toNat < 4 by omega), List.getElem?_drop, ek] at h3
      rw [List.getElem?_set_self hk8, List.getElem?_eq_getElem hk8] at h3
      injection h3 with h3
      have h4 := congrArg (fun z => z ^^^ bs[(4 + k).toNat]) h3
      have h5 : bs[(4 + k).toNat] ^^^ xb ^^^ bs[(4 + k).toNat] = xb := by
        rw [UInt8.xor_comm bs[(4 + k).toNat] xb, UInt8.xor_assoc, UInt8.xor_self, UInt8.xor_zero]
      simp only [UInt8.xor_self, h5] at h4
      apply hx0
      rw [← h4]; rfl
  generalize bs.set (4 + k).toNat (bs[(4 + k).toNat] ^^^ xb) = cs at *
  refine JoinP.bool (fun b w' => b = false ∧ w' = w29) (fun j hj => ?_) ?_
  · refine cond_intro (fun hx0 => ?_) (fun hx0 => hj _ _ ⟨rfl, rfl⟩)
    have hx0 : (xb.toNat : Int) ≠ 0 := by simpa using hx0
    have hk := hbad hx0
    have eE : pkE cs ≠ 0 := by unfold pkE; rw [hk]; split <;> decide
    have eL : pkL cs = [] := by unfold pkL; rw [hk]; split <;> rfl
    rw [eL] at ru3
    exact cond_f (by simpa using eE) ⟨_, ru3.len, hj _ _ ⟨by simp, rfl⟩⟩
  · rintro b w34 ⟨rfl, rfl⟩
    refine cond_f rfl (JoinP.bool (fun b w' => b = true ∧ w' = w34) (fun j hj => cond_t (by decide) (hj _ _ ⟨by decide, rfl⟩)) (fun b w' ⟨h, e⟩ => ?_))
    subst h; subst e
    exact ⟨rfl, gend⟩

/-! ### holders -/
theorem and15u : ∀ t : Fin 256, bitsI .and .u8 (t.val : Int) 15 = ((t.val % 16 : Nat) : Int) := by decide +kernel

theorem phE_ok {bs : List UInt8} (h : phE bs = 0) : holdB (phG bs) (phK bs) (phT bs) = bs ∧ (0 ≤ phG bs ∧ phG bs < 4294967296) ∧ 0 ≤ phT bs ∧ phT bs < 256 := by
  have hr := hd_range bs
  have ht := htC_range bs
  cases hs : shortB bs
  · cases ho : okH bs
    · simp [phE, hs, ho] at h
    · have h1 : holdB (hdG bs) (hkC bs) (htC bs) = bs := by simpa [okH] using ho
      simp only [phG, phK, phT, hs, ho]
      simp only [Bool.false_eq_true, if_false, if_true]
      exact ⟨h1, hr.1, ht⟩
  · simp [phE, hs] at h

theorem listHolders_s {w : World} {gen key typ at_ x cut : Int} (hg : Fits .u32 gen) (hk : Fits .u64 key) (ht : Fits .u8 typ) (ha : Fits .i64 at_) (hx : Fits .u8 x) (hc : Fits .i64 cut) :
    Go.CW.Spec Try.prog 6 #[.int .u32 gen, .int .u64 key, .int .u8 typ, .int .i64 at_, .int .u8 x, .int .i64 cut] w (Law w) := by
  have hg' := hg.u32
  have ht' := ht.u8
  have ha' := ha.i64
  have hx' := hx.u8
  have hc' := hc.i64
  have ex : x = ((byt x).toNat : Int) := by rw [byt_toNat]; omega
  generalize byt x = xb at ex
  subst ex
  apply gemellaw6_ListHolders_wp
  refine known_c fun w1 g1 => ⟨_, rfl, cond_f rfl ?_⟩
  refine JoinP.bool (fun b w' => w' = w1 ∧ (b = false → 0 ≤ at_ ∧ 0 ≤ cut)) (fun j hj => ?_) ?_
  · refine cond_intro (fun h => hj _ _ ⟨rfl, by simp⟩) (fun h => hj _ _ ⟨rfl, fun h2 => ?_⟩)
    simp at h h2; omega
  rintro b w4 ⟨rfl, hb⟩
  refine cond_intro (fun h => ⟨rfl, g1⟩) (fun h => ?_)
  obtain ⟨ha0, hc0⟩ := hb h
  rw [wi64_id (n := typ) (by omega) (by omega)]
  refine Holder_c hg' (fitsI (by omega) (by omega)) fun v5 w6 g6 r5 _ => ⟨_, RdB.len r5, ?_⟩
  have hlen := holdB_length gen key typ
  generalize holdB gen key typ = bs at *
  have hlb : 8 ≤ bs.length ∧ bs.length ≤ 24 := by split at hlen <;> omega
  refine nzK_intro (by omega) ?_
  rw [Int.tmod_eq_emod_of_nonneg hc0]
  have hm0 := Int.emod_nonneg cut (b := (bs.length : Int)) (by omega)
  have hm1 := Int.emod_lt_of_pos cut (b := (bs.length : Int)) (by omega)
  have hk0 := Int.emod_nonneg at_ (b := (bs.length : Int)) (by omega)
  have hk1 := Int.emod_lt_of_pos at_ (b := (bs.length : Int)) (by omega)
  obtain ⟨v8, h8, r8, _⟩ := r5.sub (lo := none) (hi := some (.int .i64 (cut % (bs.length : Int)))) (l := 0) (r := (cut % (bs.length : Int)).toNat) (fun cap hc => by rw [List.length_map] at hc; rw [bounds_ni (by omega) (by omega)]) (by omega) (by simp; omega)
  have r8 : RdB w6 v8 (bs.take (cut % (bs.length : Int)).toNat) := by simpa [RdB, List.map_take] using r8
  have hE : cut % (bs.length : Int) < 8 → phE (bs.take (cut % (bs.length : Int)).toNat) = 3 := by
    intro h8
    have hs : shortB (bs.take (cut % (bs.length : Int)).toNat) = true := by
      simp only [shortB, Bool.or_eq_true, decide_eq_true_eq, List.length_take]
      left; omega
    unfold phE; rw [if_pos hs]
  refine ⟨v8, h8, ParseHolder_c r8 fun w10 g10 => ⟨_, _, _, _, rfl, ?_⟩⟩
  generalize phE (bs.take (cut % (bs.length : Int)).toNat) = e1 at *
  obtain ⟨v15, w16, h15, o15, g15⟩ := app_copy (r5.grow g10) (by omega)
  have gd := Grow.dr (Grow.refl w16)
  have od := o15.grow gd
  refine ⟨v15, w16, h15, _, RdB.len o15.rd, nzK_intro (by omega) ⟨_, RdB.len o15.rd, nzK_intro (by omega) ?_⟩⟩
  rw [Int.tmod_eq_emod_of_nonneg ha0]
  generalize at_ % (bs.length : Int) = q at *
  obtain ⟨a, haa, hca, hst, hblk, _, hput⟩ := od.wr.put (i := q) (by omega) (by simp; omega)
  have hk8 : q.toNat < bs.length := by omega
  have hcell : (World.drew w16).cell? a = some (.int .u8 ((bs[q.toNat]).toNat : Int)) := by rw [hca]; simp only [List.getElem_map]; rfl
  refine ⟨a, haa, _, hcell, a, haa, hst, ?_⟩
  rw [b8_xor]
  have hput := hput (b8 (bs[q.toNat] ^^^ xb))
  have hset : (bs.map b8).set q.toNat (b8 (bs[q.toNat] ^^^ xb)) = (bs.set q.toNat (bs[q.toNat] ^^^ xb)).map b8 := (List.map_set).symm
  rw [hset] at hput
  have g24 : Grow w6 ((World.drew w16).setCell a (b8 (bs[q.toNat] ^^^ xb))) := g10.then (Below.setCell g15.dr hblk _)
  have hrc := hput.rd
  generalize bs.set q.toNat (bs[q.toNat] ^^^ xb) = cs at *
  refine ParseHolder_c (bs := cs) hrc fun w23 g23 => ⟨_, _, _, _, rfl, ?_⟩
  have g23' := g1.then (g6.then (g24.then g23))
  have gz := Grow.dr (Grow.refl w23)
  refine JoinP.bool (fun b w' => b = false ∧ Grow w w') (fun j hj => ?_) ?_
  · refine cond_intro (fun h0 => ?_) (fun h0 => hj _ _ ⟨rfl, g23'.dr⟩)
    have h0 : phE cs = 0 := by simpa using h0
    obtain ⟨k1, k2, k3, k4⟩ := phE_ok h0
    have hrz := hrc.grow (g23.then gz)
    refine ⟨_, to_text hrz, Holder_c (t := phT cs) k2 (fitsI (by omega) (by omega)) fun v41 w42 g42 r42 _ => ⟨⟨_, to_text (hrz.grow g42), rfl⟩, _, to_text r42, hj _ _ ⟨?_, g23'.then (gz.then g42)⟩⟩⟩
    rw [text_beq, k1]; simp
  · rintro b w29 ⟨rfl, g29⟩
    refine cond_f rfl ?_
    have h15 : bitsI .and .u8 typ (15 : Int) = typ % 16 := by
      have := and15u ⟨typ.toNat, by omega⟩
      have e : ((typ.toNat : Nat) : Int) = typ := by omega
      simp only [e] at this
      rw [this]; omega
    rw [h15]
    refine cond_intro (fun h16 => ?_) (fun h16 => ?_)
    · have h16 : typ % 16 = 0 := by simpa using h16
      rw [if_pos h16] at hlen
      refine JoinP.bool (fun b w' => b = true ∧ w' = w29) (fun j hj => ⟨_, RdB.len r5, cond_t (by rw [hlen]; decide) (hj _ _ ⟨?_, rfl⟩)⟩) (fun b w' ⟨h, e⟩ => ?_)
      · rw [hE (by omega)]; decide
      · subst h; subst e; exact ⟨rfl, g29⟩
    · have h16 : ¬ typ % 16 = 0 := by simpa using h16
      rw [if_neg h16] at hlen
      refine JoinP.bool (fun b w' => b = true ∧ w' = w29) (fun j hj => ⟨_, RdB.len r5, cond_t (by rw [hlen]; decide) (cond_intro (fun h3 => hj _ _ ⟨rfl, rfl⟩) (fun h3 => ⟨_, RdB.len r5, nzK_intro (by omega) (hj _ _ ⟨?_, rfl⟩)⟩))⟩) (fun b w' ⟨h, e⟩ => ?_)
      · have h3 : e1 ≠ 3 := by simpa using h3
        have : ¬ cut % (bs.length : Int) < 8 := fun hh => h3 (hE hh)
        rw [decide_eq_true_eq, Int.tmod_eq_emod_of_nonneg hc0]; omega
      · subst h; subst e; exact ⟨rfl, g29⟩

end Go.Proofs.Ytpbcdhpajjkldaa
