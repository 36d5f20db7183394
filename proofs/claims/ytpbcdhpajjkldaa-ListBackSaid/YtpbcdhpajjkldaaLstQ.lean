/- The contracts of the holder's bytes and of two keys; known. -/
import Derived.Test.YtpbcdhpajjkldaaLstP
set_option linter.unusedVariables false
set_option linter.unusedSimpArgs false
namespace Go.Proofs.Ytpbcdhpajjkldaa
open Go Go.CW Go.RowKit

abbrev tQ : TypeId := 26
def rep0 : Array Value := #[.int .i64 0, .int .i64 0, .int .i64 0, .slice none 0 0, .int .i64 0]
def repW (k c : Int) : Array Value := #[.int .i64 2, .int .i64 k, .int .i64 c, .slice none 0 0, .int .i64 0]

theorem Wrong_c {w : World} {k c : Int} {R : KV} (h : ∀ w', Grow w w' → R (.agg (repW k c)) w') : Go.CW.Spec Try.prog 21 #[.int .i64 k, .int .i64 c] w R := by
  apply sense_Wrong_wp
  have b0 := BK.new w rep0 tQ
  have b1 := b0.strow (ds := repW k c) rfl
  exact ⟨b0.row (ds := repW k c) rfl rfl, _, _, _, _, _, b1.ld rfl, h _ (Below.strow (Grow.al (Grow.refl w) (.cells rep0 tQ)) (p := ⟨w.heap.size, 0, none⟩) (Nat.le_refl _) (repW k c))⟩

def okD (bs : List UInt8) : Bool := decide (bs.length = 24) && decide (getV bs 16 8 = 0)
def dK (bs : List UInt8) : Int := if okD bs = true then getV bs 0 8 else 0
def dO (bs : List UInt8) : Int := if okD bs = true then getV bs 8 8 else 0
def dR (bs : List UInt8) : Array Value := if okD bs = true then rep0 else repW 5 9728

theorem Decode_c {w : World} {v : Value} {bs : List UInt8} {R : KV} (hr : RdB w v bs)
    (c : ∀ w', Grow w w' → R (.tuple #[.int .u64 (dK bs), .int .u64 (dO bs), .agg (dR bs), .bool (okD bs)]) w') : Go.CW.Spec Try.prog 8 #[v] w R := by
  apply prlist_Decode_wp
  have ga : Grow w (w.alloc (.cells rep0 tQ)) := Grow.al (Grow.refl w) (.cells rep0 tQ)
  have b0 := BK.new w rep0 tQ
  refine Wrong_c fun w1 g1 => ⟨_, _, _, _, _, rfl, ?_⟩
  have b1 := b0.grow g1
  have hlt := b1.lt
  have g1 := ga.then g1
  have c1 := BK.new w1 rep0 tQ
  have cw := c1.strow (ds := repW 5 9728) rfl
  have gc : Grow w1 (stRow (w1.alloc (.cells rep0 tQ)) ⟨w1.heap.size, 0, none⟩ (repW 5 9728)) := Below.strow (Grow.al (Grow.refl w1) (.cells rep0 tQ)) (p := ⟨w1.heap.size, 0, none⟩) (Nat.le_refl _) (repW 5 9728)
  have b2 := b1.grow gc
  have s1 := c1.row (ds := repW 5 9728) rfl rfl
  have g2 := g1.then gc
  refine ⟨s1, _, RdB.len hr, ?_⟩
  generalize hW : stRow (w1.alloc (.cells rep0 tQ)) ⟨w1.heap.size, 0, none⟩ (repW 5 9728) = W at *
  have e0 : (stRow (w1.alloc (.cells #[.int .i64 0, .int .i64 0, .int .i64 0, .slice none 0 0, .int .i64 0] tQ)) ⟨w1.heap.size, 0, none⟩ #[.int .i64 2, .int .i64 5, .int .i64 9728, .slice none 0 0, .int .i64 0]) = W := hW
  rw [e0]
  -- what is told of any bytes that are none
  have bad : okD bs = false → ∀ X, Grow w X → BK X w.heap.size rep0 tQ → BK X w1.heap.size (repW 5 9728) tQ →
      ldCells X ⟨w1.heap.size, 0, none⟩ 5 (repW 5 9728) ∧ StRow X ⟨w.heap.size, 0, none⟩ (repW 5 9728) ∧ ldCells (stRow X ⟨w.heap.size, 0, none⟩ (repW 5 9728)) ⟨w.heap.size, 0, none⟩ 5 (repW 5 9728) ∧
        R (.tuple #[.int .u64 0, .int .u64 0, .agg (repW 5 9728), .bool false]) (stRow X ⟨w.heap.size, 0, none⟩ (repW 5 9728)) := by
    intro ho X gX bX cX
    have hc := c (stRow X ⟨w.heap.size, 0, none⟩ (repW 5 9728)) (Below.strow gX (p := ⟨w.heap.size, 0, none⟩) (Nat.le_refl _) _)
    simp only [dK, dO, dR, ho] at hc
    exact ⟨cX.ld rfl, bX.row (ds := repW 5 9728) rfl rfl, (bX.strow (ds := repW 5 9728) rfl).ld rfl, hc⟩
  refine cond_intro (fun h => ?_) (fun h => ?_)
  · have ho : okD bs = false := by
      simp at h
      have : ¬ bs.length = 24 := by omega
      simp [okD, this]
    have gd := Grow.dr (Grow.refl W)
    obtain ⟨k1, k2, k3, k4⟩ := bad ho _ (g2.then gd) (b2.grow gd) (cw.grow gd)
    exact ⟨2, 5, 9728, .slice none 0 0, 0, k1, k2, 2, 5, 9728, .slice none 0 0, 0, k3, k4⟩
  · have hl : bs.length = 24 := by simp at h; omega
    have hr2 := hr.grow g2
    refine bin_Get_c hr2 (by decide) (by decide) ⟨_, _, rfl, bin_Get_c hr2 (by decide) (by decide) ⟨_, _, rfl, bin_Get_c hr2 (by decide) (by decide) ⟨_, _, rfl, cond_intro (fun h2 => ?_) (fun h2 => ?_)⟩⟩⟩
    · have ho : okD bs = false := by
        have : ¬ getV bs 16 8 = 0 := by simpa using h2
        simp [okD, this]
      have gd := Grow.dr (Grow.refl W)
      obtain ⟨k1, k2, k3, k4⟩ := bad ho _ (g2.then gd) (b2.grow gd) (cw.grow gd)
      exact ⟨2, 5, 9728, .slice none 0 0, 0, k1, k2, 2, 5, 9728, .slice none 0 0, 0, k3, k4⟩
    · have ho : okD bs = true := by
        have : getV bs 16 8 = 0 := by simpa using h2
        simp [okD, this, hl]
      have hc := c (stRow W ⟨w.heap.size, 0, none⟩ rep0) (Below.strow g2 (p := ⟨w.heap.size, 0, none⟩) (Nat.le_refl _) _)
      simp only [dK, dO, dR, ho] at hc
      exact ⟨b2.row (ds := rep0) rfl rfl, _, _, _, _, _, (b2.strow (ds := rep0) rfl).ld rfl, hc⟩

theorem DecodeR_c {w : World} {v : Value} {bs : List UInt8} {R : KV} (hr : RdB w v bs)
    (c : R (.tuple #[.int .u64 (dK bs), .int .u64 (dO bs), .bool (okD bs)]) w) : Go.CW.Spec Try.prog 9 #[v] w R := by
  apply gemelref6_Decode_wp
  refine ⟨_, RdB.len hr, cond_intro (fun h => ?_) (fun h => ?_)⟩
  · have ho : okD bs = false := by
      simp at h
      have : ¬ bs.length = 24 := by omega
      simp [okD, this]
    simp only [dK, dO, ho] at c
    exact c
  · have hl : bs.length = 24 := by simp at h; omega
    refine gemelref1_Get_c hr (by decide) (by decide) ⟨_, _, rfl, gemelref1_Get_c hr (by decide) (by decide) ⟨_, _, rfl, gemelref1_Get_c hr (by decide) (by decide) ⟨_, _, rfl, cond_intro (fun h2 => ?_) (fun h2 => ?_)⟩⟩⟩
    · have ho : okD bs = false := by
        have : ¬ getV bs 16 8 = 0 := by simpa using h2
        simp [okD, this]
      simp only [dK, dO, ho] at c
      exact c
    · have ho : okD bs = true := by
        have : getV bs 16 8 = 0 := by simpa using h2
        simp [okD, this, hl]
      simp only [dK, dO, ho] at c
      exact c

theorem Holder_c {w : World} {g k t : Int} {R : KV} (hg : 0 ≤ g ∧ g < 4294967296) (ht : Fits .i64 t) (c : ∀ v w', Grow w w' → RdB w' v (holdB g k t) → NewV w v → R v w') :
    Go.CW.Spec Try.prog 16 #[.int .u32 g, .int .u64 k, .int .i64 t] w R := by
  apply prlist_Holder_wp
  unfold prlist_Holder_F
  rw [u64_of32 hg, and15 ht]
  have h16 : 0 ≤ t % 16 ∧ t % 16 < 16 := by omega
  refine bin_Put_c (bs := []) (Rd.nil w) (by simp) fun v1 w1 g1 r1 _ => cond_intro (fun h => ?_) (fun h => ?_)
  · have h0 : t % 16 = 0 := by simpa using h
    refine bin_Put_c r1 (by simp [put4, putL_length]) fun v2 w2 g2 r2 n2 => c _ _ (g1.then g2) ?_ (n2.of g1.size)
    unfold holdB; rw [if_pos h0]; exact r2
  · have h0 : ¬ t % 16 = 0 := by simpa using h
    rw [w64_id (n := t % 16) (by omega) (by omega)]
    refine bin_Put_c r1 (by simp [put4, putL_length]) fun v2 w2 g2 r2 _ => ?_
    refine bin_Put_c r2 (by simp [put4, put8, putL_length]) fun v3 w3 g3 r3 _ => ?_
    refine bin_Put_c r3 (by simp [put4, put8, putL_length]) fun v4 w4 g4 r4 _ => ?_
    refine bin_Put_c r4 (by simp [put4, put8, putL_length]) fun v5 w5 g5 r5 _ => ?_
    refine bin_Put_c r5 (by simp [put4, put8, put2, putL_length]) fun v6 w6 g6 r6 n6 => ?_
    have gg := g1.then (g2.then (g3.then (g4.then g5)))
    refine c _ _ (gg.then g6) ?_ (n6.of gg.size)
    unfold holdB; rw [if_neg h0]; exact r6

theorem tail8 (t : Int) (h : 0 ≤ t ∧ t < 16) : putL 0 4 ++ putL t 2 ++ putL 0 2 = [0, 0, 0, 0, 0, byt t, 0, 0] := by
  have e : ∀ i : Fin 16, putL 0 4 ++ putL (i.val : Int) 2 ++ putL 0 2 = [0, 0, 0, 0, 0, byt (i.val : Int), 0, 0] := by decide +kernel
  have := e ⟨t.toNat, by omega⟩
  have ht : ((t.toNat : Nat) : Int) = t := by omega
  rw [ht] at this; exact this

theorem HolderR_c {w : World} {g k t : Int} {R : KV} (hg : 0 ≤ g ∧ g < 4294967296) (ht : Fits .i64 t) (c : ∀ v w', Grow w w' → RdB w' v (holdB g k t) → R v w') :
    Go.CW.Spec Try.prog 19 #[.int .u32 g, .int .u64 k, .int .i64 t] w R := by
  apply gemelref6_Holder_wp
  unfold gemelref6_Holder_F
  rw [u64_of32 hg, and15 ht]
  have h16 : 0 ≤ t % 16 ∧ t % 16 < 16 := by omega
  refine gemelref1_Put_c (B := w.heap.size) (bs := []) (Own.nil w _ tb) (Nat.le_refl _) (by simp) fun v1 w1 n1 o1 => ?_
  have g1 : Grow w w1 := n1.below (Nat.le_refl _) (fun k hk => by cases hk)
  refine cond_intro (fun h => ?_) (fun h => ?_)
  · have h0 : t % 16 = 0 := by simpa using h
    refine gemelref1_Put_c o1 g1.size (by simp [put4, putL_length]) fun v2 w2 n2 o2 => c _ _ (g1.trans (n2.below g1.size o1.blk)) ?_
    unfold holdB; rw [if_pos h0]; exact o2.rd
  · have h0 : ¬ t % 16 = 0 := by simpa using h
    refine gemelref1_Put_c o1 g1.size (by simp [put4, putL_length]) fun v2 w2 n2 o2 => ?_
    have g2 := g1.trans (n2.below g1.size o1.blk)
    refine gemelref1_Put_c o2 g2.size (by simp [put4, put8, putL_length]) fun v3 w3 n3 o3 => ?_
    have g3 := g2.trans (n3.below g2.size o2.blk)
    have ecell : (#[(.int .u8 (0 : Int)), (.int .u8 (0 : Int)), (.int .u8 (0 : Int)), (.int .u8 (0 : Int)), (.int .u8 (0 : Int)), (.int .u8 (IntKind.wrap .u8 (t % 16))), (.int .u8 (0 : Int)), (.int .u8 (0 : Int))] : Array Value) = (([0, 0, 0, 0, 0, byt (t % 16), 0, 0] : List UInt8).map b8).toArray := by
      rw [b8_wrap]; rfl
    rw [ecell, ← tail8 _ h16]
    have gl : Grow w3 _ := Grow.al (Grow.refl w3) (.cells ((putL 0 4 ++ putL (t % 16) 2 ++ putL 0 2).map b8).toArray tb)
    have hl := Own.lit w3 (Nat.le_refl _) tb ((putL 0 4 ++ putL (t % 16) 2 ++ putL 0 2).map b8).toArray 8 (by simp [putL_length]) (by simp [maxLen])
    obtain ⟨v4, w4, h4, o4, n4⟩ := app_bytes (o3.grow gl) (cs := putL 0 4 ++ putL (t % 16) 2 ++ putL 0 2) hl.rd (Nat.le_trans g3.size gl.size) (by simp [put4, put8, putL_length])
    refine ⟨v4, w4, h4, c _ _ ((Grow.then (a := w) (b := w3) g3 gl).trans (n4.below (Nat.le_trans g3.size gl.size) (o3.grow gl).blk)) ?_⟩
    unfold holdB; rw [if_neg h0]
    have e : putS (putS (putS [] g 4) 16 4) k 8 ++ (putL 0 4 ++ putL (t % 16) 2 ++ putL 0 2) = putL g 4 ++ putL 16 4 ++ putL k 8 ++ putL 0 4 ++ putL (t % 16) 2 ++ putL 0 2 := by
      simp only [put4, put8, List.nil_append, List.append_assoc]
    rw [e] at o4; exact o4.rd

theorem fitsI {n : Int} (h0 : -9223372036854775808 ≤ n) (h1 : n < 9223372036854775808) : Fits .i64 n := by
  simp only [Fits, IntKind.min, IntKind.max, IntKind.bits, IntKind.signed]
  constructor <;> simp <;> omega

theorem byte21 {w : World} {v : Value} {bs : List UInt8} (h : RdB w v bs) (h1 : 21 < bs.length) : ∃ a, sliceAt v 21 1 = some a ∧ w.cell? a = some (.int .u8 (typAt bs)) := by
  obtain ⟨a, ha, hc⟩ := RdB.at h (i := 21) (by omega) (by omega)
  refine ⟨a, ha, ?_⟩
  have : typAt bs = ((bs[(21 : Int).toNat]'(by show 21 < _; omega)).toNat : Int) := by
    unfold typAt
    have e : bs.getD 21 0 = bs[21]'h1 := by simp [List.getD_eq_getElem?_getD, h1]
    rw [e]; rfl
  rw [this]; exact hc

theorem htC_range (bs : List UInt8) : 0 ≤ htC bs ∧ htC bs < 256 := by
  have := typAt_range bs
  unfold htC; split <;> omega

theorem ParseHolder_c {w : World} {v : Value} {bs : List UInt8} {R : KV} (hr : RdB w v bs)
    (c : ∀ w', Grow w w' → R (.tuple #[.int .u32 (phG bs), .int .u64 (phK bs), .int .i64 (phT bs), .int .i64 (phE bs)]) w') : Go.CW.Spec Try.prog 12 #[v] w R := by
  apply prlist_ParseHolder_wp
  have hle := hr.le
  rw [List.length_map] at hle
  refine heads_c hr ?_
  have hh := hd_range bs
  cases hs : shortB bs
  · rw [if_neg (by simp)]
    refine ⟨_, _, _, rfl, cond_f (by simp) ?_⟩
    have htr := htC_range bs
    refine JoinP.ii (fun k t w' => w' = w ∧ k = hkC bs ∧ t = htC bs) (fun j hj => ?_) ?_
    · refine JoinP.bool (fun b w' => w' = w ∧ b = decide (hdN bs > 0 ∧ bs.length = 24)) (fun jj hjj => ?_) ?_
      · refine cond_intro (fun h => ⟨_, RdB.len hr, hjj _ _ ⟨rfl, ?_⟩⟩) (fun h => hjj _ _ ⟨rfl, ?_⟩)
        · simp only [decide_eq_true_eq] at h
          rw [Bool.eq_iff_iff]; simp only [beq_iff_eq, decide_eq_true_eq]; omega
        · simp only [decide_eq_false_iff_not] at h
          exact (decide_eq_false (by omega)).symm
      · rintro b w' ⟨rfl, rfl⟩
        refine cond_intro (fun h => ?_) (fun h => ?_)
        · simp only [decide_eq_true_eq] at h
          have ht := typAt_range bs
          obtain ⟨a, ha, hc⟩ := byte21 hr (by omega)
          refine bin_Get_c hr (by decide) (by decide) ⟨_, _, rfl, a, ha, _, hc, hj _ _ _ ⟨rfl, ?_, ?_⟩⟩
          · unfold hkC; rw [if_pos h]; rfl
          · unfold htC; rw [if_pos h, wi64_id (by omega) (by omega)]
        · simp only [decide_eq_false_iff_not] at h
          exact hj _ _ _ ⟨rfl, by unfold hkC; rw [if_neg h], by unfold htC; rw [if_neg h]⟩
    · rintro k t w' ⟨rfl, rfl, rfl⟩
      have htr := htC_range bs
      refine Holder_c (t := htC bs) hh.1 (fitsI (by omega) (by omega)) fun v8 w9 g9 r9 _ => Equal_c r9 (hr.grow g9) ⟨_, rfl, ?_⟩
      have e : decide (holdB (hdG bs) (hkC bs) (htC bs) = bs) = okH bs := rfl
      rw [e]
      have hc := c w9 g9
      cases ho : okH bs
      · simp only [phG, phK, phT, phE, hs, ho] at hc
        exact cond_t rfl hc
      · simp only [phG, phK, phT, phE, hs, ho] at hc
        exact cond_f rfl hc
  · rw [if_pos rfl]
    have hc := c w (Grow.refl w)
    simp only [phG, phK, phT, phE, hs] at hc
    exact ⟨_, _, _, rfl, cond_t (by decide) hc⟩

theorem ParseHolderR_c {w : World} {v : Value} {bs : List UInt8} {R : KV} (hr : RdB w v bs)
    (c : ∀ w', Grow w w' → R (.tuple #[.int .u32 (phG bs), .int .u64 (phK bs), .int .i64 (phT bs), .int .i64 (phE bs)]) w') : Go.CW.Spec Try.prog 13 #[v] w R := by
  apply gemelref6_ParseHolder_wp
  have hle := hr.le
  rw [List.length_map] at hle
  have hh := hd_range bs
  have cs : shortB bs = true → R (.tuple #[.int .u32 0, .int .u64 0, .int .i64 0, .int .i64 3]) w := by
    intro hs
    have := c w (Grow.refl w)
    simp only [phG, phK, phT, phE, hs] at this
    exact this
  refine ⟨_, RdB.len hr, cond_intro (fun h => cs ?_) (fun h => ?_)⟩
  · simp at h
    have : bs.length < 8 := by omega
    simp [shortB, this]
  simp at h
  refine gemelref1_Get_c hr (by decide) (by decide) ⟨_, _, rfl, gemelref1_Get_c hr (by decide) (by decide) ⟨_, _, rfl, _, RdB.len hr, ?_⟩⟩
  have e1 : getV bs 0 4 = hdG bs := rfl
  have e2 : getV bs 4 4 = hdN bs := rfl
  rw [e1, e2, wi64_id (n := (bs.length : Int) - 8) (by omega) (by omega), w64_id (n := (bs.length : Int) - 8) (by omega) (by omega), w32_id hh.1.1 hh.1.2]
  refine cond_intro (fun h2 => cs ?_) (fun h2 => ?_)
  · simp at h2
    have : hdN bs > (bs.length : Int) - 8 := by omega
    simp [shortB, this]
  simp at h2
  have hs : shortB bs = false := by
    have h3 : ¬ bs.length < 8 := by omega
    have h4 : ¬ hdN bs > (bs.length : Int) - 8 := by omega
    simp [shortB, h3, h4]
  obtain ⟨q1, q2, q3⟩ := okH_iff hs
  have no : okH bs = false → ∀ w', Grow w w' → R (.tuple #[.int .u32 0, .int .u64 0, .int .i64 0, .int .i64 2]) w' := by
    intro ho w' g
    have := c w' g
    simp only [phG, phK, phT, phE, hs, ho] at this
    exact this
  refine ⟨_, RdB.len hr, cond_intro (fun h3 => ?_) (fun h3 => ⟨_, RdB.len hr, ?_⟩)⟩
  · have h8 : bs.length = 8 := by simp at h3; omega
    rw [if_pos h8] at q1
    have hn : hdN bs = 0 := by omega
    have ho : okH bs = true := by rw [q1, hn]; rfl
    have hc := c w (Grow.refl w)
    simp only [phG, phK, phT, phE, hs, ho, (q3 h8).1, (q3 h8).2] at hc
    exact cond_f (by rw [hn]; decide) hc
  · have h8 : ¬ bs.length = 8 := by simp at h3; omega
    rw [if_neg h8] at q1
    refine cond_intro (fun h4 => ?_) (fun h4 => ?_)
    · have h24 : ¬ bs.length = 24 := by simp at h4; omega
      rw [if_neg h24] at q1
      exact no q1 _ (Grow.refl w)
    · have h24 : bs.length = 24 := by simp at h4; omega
      rw [if_pos h24] at q1
      have ht := typAt_range bs
      obtain ⟨a, ha, hc⟩ := byte21 hr (by omega)
      refine gemelref1_Get_c hr (by decide) (by decide) ⟨_, _, rfl, a, ha, _, hc, ?_⟩
      have ek : getV bs 8 8 = keyAt bs := rfl
      rw [ek, wi64_id (n := typAt bs) (by omega) (by omega)]
      refine JoinP.bool (fun b w' => Grow w w' ∧ b = !(okH bs)) (fun j hj => ?_) ?_
      · refine cond_intro (fun h5 => hj _ _ ⟨Grow.dr (Grow.refl w), ?_⟩) (fun h5 => ?_)
        · have : typAt bs = 0 := by simpa using h5
          rw [q1]; simp [this]
        · have h5 : ¬ typAt bs = 0 := by simpa using h5
          have gd := Grow.dr (Grow.refl w)
          refine ⟨_, to_text (hr.grow gd), HolderR_c (t := typAt bs) hh.1 (fitsI (by omega) (by omega)) fun v22 w23 g23 r23 => ⟨⟨_, to_text (hr.grow (gd.then g23)), rfl⟩, _, to_text r23, hj _ _ ⟨gd.then g23, ?_⟩⟩⟩
          rw [text_beq, q1]; simp [h5]
      · rintro b w' ⟨g, rfl⟩
        cases ho : okH bs
        · exact cond_t rfl (no ho _ g)
        · have hc := c w' g
          obtain ⟨z1, z2⟩ := q2 ho h24
          simp only [phG, phK, phT, phE, hs, ho, z1, z2] at hc
          exact cond_f rfl hc

/-! ### known -/
theorem bad_c {w : World} {R : KV} (c : ∀ n w', Grow w w' → R (.tuple #[.int .u64 n, .bool true]) w') : Go.CW.Spec Try.prog 20 #[] w R := by
  apply gemellaw6_bad_wp
  refine Decode_c (bs := []) (Rd.nil w) fun w1 g1 => ⟨_, _, _, _, _, _, _, _, rfl, ?_⟩
  have b0 := BK.new w1 rep0 tQ
  have b1 := b0.strow (ds := repW 5 9728) rfl
  have gb : Grow w1 _ := Below.strow (Grow.al (Grow.refl w1) (.cells rep0 tQ)) (p := ⟨w1.heap.size, 0, none⟩) (Nat.le_refl _) (repW 5 9728)
  have bd := b1.dr
  have g := g1.then gb.dr
  refine ⟨b0.row (ds := repW 5 9728) rfl rfl, JoinP.ib (fun n b w' => b = true ∧ Grow w w') (fun j hj => ?_) (fun n b w' ⟨h, g⟩ => by subst h; exact c _ _ g)⟩
  exact cond_t (by decide) ⟨_, bd.cell 2, cond_t (by decide) ⟨_, bd.cell 0, cond_t (by decide) ⟨_, bd.cell 1, hj _ _ _ ⟨by decide, g⟩⟩⟩⟩

theorem encB_ok {k o : Int} (hk : 0 ≤ k ∧ k < 18446744073709551616) (ho : 0 ≤ o ∧ o < 18446744073709551616) : okD (encB k o) = true ∧ dK (encB k o) = k ∧ dO (encB k o) = o := by
  have h1 := getV_at (pre := []) (post := putL o 8 ++ putL 0 8) (n := 8) hk.1 (by omega) (a := 0) rfl
  have h2 := getV_at (pre := putL k 8) (post := putL 0 8) (n := 8) ho.1 (by omega) (a := 8) (by rw [putL_length]; rfl)
  have h3 := getV_at (pre := putL k 8 ++ putL o 8) (post := []) (x := 0) (n := 8) (by omega) (by omega) (a := 16) (by simp [putL_length])
  rw [List.nil_append, ← List.append_assoc, p8 _ hk.1 hk.2] at h1
  rw [p8 _ ho.1 ho.2] at h2
  rw [List.append_nil, p8 _ (by omega) (by omega)] at h3
  have hd : okD (encB k o) = true := by
    simp only [okD, encB_length, Bool.and_eq_true, decide_eq_true_eq]
    exact ⟨trivial, h3⟩
  exact ⟨hd, by unfold dK; rw [if_pos hd]; exact h1, by unfold dO; rw [if_pos hd]; exact h2⟩

/-- keys there and back -/
theorem chunk_row {bs : List UInt8} {pre : List UInt8} {l : List Int} (hl : ∀ x ∈ l, 0 ≤ x ∧ x < 18446744073709551616) (hp : pre.length = 8) (hb : bs = pre ++ rowB l) : chunk bs l.length = l := by
  apply List.ext_getElem?
  intro i
  by_cases hi : i < l.length
  · have e : rowB l = rowB (l.take i) ++ (putL l[i] 8 ++ rowB (l.drop (i + 1))) := by
      have h1 : l = l.take i ++ l[i] :: l.drop (i + 1) := by simp
      conv => lhs; rw [h1]
      rw [rowB_append]; rfl
    have hx := hl l[i] (List.getElem_mem _)
    have hv := getV_at (pre := pre ++ rowB (l.take i)) (post := rowB (l.drop (i + 1))) (x := l[i]) (n := 8) hx.1 (by omega) (a := 8 + 8 * (i : Int)) (by rw [List.length_append, rowB_length, List.length_take]; omega)
    have e2 : pre ++ rowB (l.take i) ++ putL l[i] 8 ++ rowB (l.drop (i + 1)) = bs := by rw [hb, e]; simp only [List.append_assoc]
    rw [e2, p8 _ hx.1 hx.2] at hv
    unfold chunk
    rw [List.getElem?_map, List.getElem?_range hi, List.getElem?_eq_getElem hi]
    exact congrArg some hv
  · rw [List.getElem?_eq_none (by rw [chunk_length]; omega), List.getElem?_eq_none (by omega)]

theorem cutK_mem {l : List Int} {x : Int} (h : x ∈ cutK l) : x ∈ l := List.mem_of_mem_take h

theorem keysB_ok {g : Int} {l : List Int} (hg : 0 ≤ g ∧ g < 4294967296) (hl : ∀ x ∈ l, 0 ≤ x ∧ x < 18446744073709551616) : pkE (keysB g l) = 0 ∧ pkG (keysB g l) = g ∧ pkL (keysB g l) = cutK l := by
  obtain ⟨h1, h2⟩ := keysB_heads (l := l) hg
  have hlen := keysB_length g l
  have hc := cutK_length l
  have hs : shortB (keysB g l) = false := by
    simp only [shortB, Bool.or_eq_false_iff, decide_eq_false_iff_not]
    rw [h2]; omega
  have hn : nR (keysB g l) = (cutK l).length := by unfold nR; rw [hlen, hc]; omega
  have hch : chunk (keysB g l) (nR (keysB g l)) = cutK l := by
    rw [hn]
    exact chunk_row (pre := putL g 4 ++ putL (8 * ((cutK l).length : Int)) 4) (fun x hx => hl x (cutK_mem hx)) (by simp [putL_length]) rfl
  have hcc : cutK (cutK l) = cutK l := by unfold cutK; rw [List.take_take]; rfl
  have hk : okK (keysB g l) = true := by
    simp only [okK, decide_eq_true_eq]
    rw [hch, h1]
    unfold keysB; rw [hcc]
  simp only [pkE, pkG, pkL, hs, hk, hch, h1]
  exact ⟨rfl, rfl, rfl⟩

theorem holdB_heads {g k t : Int} (hg : 0 ≤ g ∧ g < 4294967296) : hdG (holdB g k t) = g ∧ hdN (holdB g k t) = if t % 16 = 0 then 0 else 16 := by
  by_cases ht : t % 16 = 0
  · have h1 := getV_at (pre := []) (post := putL 0 4) (n := 4) hg.1 (by omega) (a := 0) rfl
    have h2 := getV_at (pre := putL g 4) (post := []) (x := 0) (n := 4) (by omega) (by omega) (a := 4) (by rw [putL_length]; rfl)
    rw [List.nil_append, p4 _ hg.1 hg.2] at h1
    rw [List.append_nil, p4 _ (by omega) (by omega)] at h2
    unfold hdG hdN holdB
    rw [if_pos ht, if_pos ht]
    exact ⟨h1, h2⟩
  · have h1 := getV_at (pre := []) (post := putL 16 4 ++ putL k 8 ++ putL 0 4 ++ putL (t % 16) 2 ++ putL 0 2) (n := 4) hg.1 (by omega) (a := 0) rfl
    have h2 := getV_at (pre := putL g 4) (post := putL k 8 ++ putL 0 4 ++ putL (t % 16) 2 ++ putL 0 2) (x := 16) (n := 4) (by omega) (by omega) (a := 4) (by rw [putL_length]; rfl)
    rw [List.nil_append, p4 _ hg.1 hg.2] at h1
    rw [p4 _ (by omega) (by omega)] at h2
    unfold hdG hdN holdB
    rw [if_neg ht, if_neg ht]
    simp only [List.append_assoc] at h1 h2 ⊢
    exact ⟨h1, h2⟩

/-- a holder there and back -/
theorem holdB_ok {g k t : Int} (hg : 0 ≤ g ∧ g < 4294967296) (hk : 0 ≤ k ∧ k < 18446744073709551616) :
    phE (holdB g k t) = 0 ∧ phG (holdB g k t) = g ∧ phK (holdB g k t) = (if t % 16 = 0 then 0 else k) ∧ phT (holdB g k t) = t % 16 := by
  obtain ⟨h1, h2⟩ := holdB_heads (k := k) (t := t) hg
  have hlen := holdB_length g k t
  by_cases ht : t % 16 = 0
  · rw [if_pos ht] at h2 hlen
    have hs : shortB (holdB g k t) = false := by
      simp only [shortB, Bool.or_eq_false_iff, decide_eq_false_iff_not]; omega
    have e1 : hkC (holdB g k t) = 0 := by unfold hkC; rw [if_neg (by omega)]
    have e2 : htC (holdB g k t) = 0 := by unfold htC; rw [if_neg (by omega)]
    have hb : holdB g 0 0 = holdB g k t := by unfold holdB; rw [if_pos ht, if_pos (show (0 : Int) % 16 = 0 by decide)]
    have ho : okH (holdB g k t) = true := by
      simp only [okH, decide_eq_true_eq]; rw [e1, e2, h1]; exact hb
    simp only [phE, phG, phK, phT, hs, ho, e1, e2, h1, if_pos ht]
    exact ⟨rfl, rfl, rfl, ht.symm⟩
  · rw [if_neg ht] at h2 hlen
    have hs : shortB (holdB g k t) = false := by
      simp only [shortB, Bool.or_eq_false_iff, decide_eq_false_iff_not]; omega
    have e1 : hkC (holdB g k t) = k := by
      unfold hkC; rw [if_pos ⟨by omega, hlen⟩]
      have h3 := getV_at (pre := putL g 4 ++ putL 16 4) (post := putL 0 4 ++ putL (t % 16) 2 ++ putL 0 2) (x := k) (n := 8) hk.1 (by omega) (a := 8) (by simp [putL_length])
      rw [p8 _ hk.1 hk.2] at h3
      unfold keyAt holdB
      rw [if_neg ht]
      simp only [List.append_assoc] at h3 ⊢
      exact h3
    have e2 : htC (holdB g k t) = t % 16 := by
      unfold htC; rw [if_pos ⟨by omega, hlen⟩]
      unfold typAt holdB
      rw [if_neg ht]
      have hb : putL g 4 ++ putL 16 4 ++ putL k 8 ++ putL 0 4 ++ putL (t % 16) 2 ++ putL 0 2 = (putL g 4 ++ putL 16 4 ++ putL k 8) ++ [0, 0, 0, 0, 0, byt (t % 16), 0, 0] := by
        rw [← tail8 _ ⟨by omega, by omega⟩]; simp only [List.append_assoc]
      rw [hb, List.getD_eq_getElem?_getD, List.getElem?_append_right (by simp [putL_length])]
      have hp : (putL g 4 ++ putL 16 4 ++ putL k 8).length = 16 := by simp [putL_length]
      rw [hp]
      have := byt_toNat (t % 16)
      show ((byt (t % 16)).toNat : Int) = _
      omega
    have h16 : t % 16 % 16 = t % 16 := by omega
    have hb : holdB g k (t % 16) = holdB g k t := by unfold holdB; rw [h16]
    have ho : okH (holdB g k t) = true := by
      simp only [okH, decide_eq_true_eq]; rw [e1, e2, h1]; exact hb
    simp only [phE, phG, phK, phT, hs, ho, e1, e2, h1, if_neg ht]
    exact ⟨rfl, rfl, rfl, rfl⟩

theorem known_c {w : World} {R : KV} (c : ∀ w', Grow w w' → R (.bool true) w') : Go.CW.Spec Try.prog 7 #[] w R := by
  apply gemellaw6_known_wp
  obtain ⟨d1, d2, d3⟩ := encB_ok (k := 3) (o := 4) (by omega) (by omega)
  refine Encode_c fun v0 w1 g1 r1 => Decode_c r1 fun w3 g3 => ?_
  have e9 : dR (encB 3 4) = rep0 := by unfold dR; rw [if_pos d1]
  rw [d1, d2, d3, e9]
  refine ⟨_, _, _, _, _, _, _, _, rfl, ?_⟩
  have b0 := BK.new w3 rep0 tQ
  have gb : Grow w3 (stRow (w3.alloc (.cells rep0 tQ)) ⟨w3.heap.size, 0, none⟩ rep0) := Below.strow (Grow.al (Grow.refl w3) (.cells rep0 tQ)) (p := ⟨w3.heap.size, 0, none⟩) (Nat.le_refl _) rep0
  refine ⟨b0.row (ds := rep0) rfl rfl, ?_⟩
  generalize hW : stRow (w3.alloc (.cells rep0 tQ)) ⟨w3.heap.size, 0, none⟩ rep0 = W at *
  have e0 : (stRow (w3.alloc (.cells #[.int .i64 0, .int .i64 0, .int .i64 0, .slice none 0 0, .int .i64 0] tQ)) ⟨w3.heap.size, 0, none⟩ #[.int .i64 0, .int .i64 0, .int .i64 0, .slice none 0 0, .int .i64 0]) = W := hW
  rw [e0]
  have gl : Grow W _ := Grow.al (Grow.refl W) (.cells #[.int .u64 1, .int .u64 2] tU)
  have hl := (OwnR.lit (E := EU) W (Nat.le_refl _) tU [1, 2] 2 rfl (by simp [maxLen])).rd
  have g5 := g1.then (g3.then (gb.then gl))
  obtain ⟨k1, k2, k3⟩ := keysB_ok (g := 7) (l := [1, 2]) (by omega) (by simp)
  obtain ⟨h1, h2, h3, h4⟩ := holdB_ok (g := 7) (k := 9) (t := 3) (by omega) (by omega)
  refine Keys_c (by omega) hl fun v12 w13 g13 r13 _ => ParseKeys_c r13 (by rw [keysB_length]; simp) fun u w15 g15 ru => ⟨_, _, _, rfl, ?_⟩
  rw [k1, k2]
  rw [k3] at ru
  refine Holder_c (by omega) (by decide) fun v19 w20 g20 r20 _ => ParseHolder_c r20 fun w22 g22 => ⟨_, _, _, _, rfl, ?_⟩
  rw [h1, h2, h3, h4]
  refine bad_c fun n w28 g28 => ⟨_, _, rfl, ?_⟩
  have g := g5.then (g13.then (g15.then (g20.then (g22.then g28))))
  refine JoinP.bool (fun b w' => b = true ∧ w' = w28) (fun j hj => ?_) (fun b w' ⟨h, e⟩ => by subst h; subst e; exact c _ g)
  exact cond_t (by decide) (cond_t (by decide) (cond_t rfl (cond_t (by decide) ⟨_, ru.len, cond_t (by decide) (cond_t (by decide) (cond_t (by decide) (cond_t (by decide) (cond_t (by decide) (hj _ _ ⟨rfl, rfl⟩)))))⟩)))

end Go.Proofs.Ytpbcdhpajjkldaa
