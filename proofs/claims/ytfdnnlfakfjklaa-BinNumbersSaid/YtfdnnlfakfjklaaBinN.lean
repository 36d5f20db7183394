/- The law of the numbers: both forms agree. -/
import Derived.Test.YtfdnnlfakfjklaaBinM
set_option linter.unusedVariables false
set_option linter.unusedSimpArgs false
namespace Go.Proofs.Ytfdnnlfakfjklaa
open Go Go.CW Go.RowKit

theorem rd_al {w : World} {v : Value} {xs : List Value} (h : Rd w v xs) (o : Obj) : Rd (w.alloc o) v xs := h.grow (Grow.al (Grow.refl w) o)
theorem rd_dr {w : World} {v : Value} {xs : List Value} (h : Rd w v xs) : Rd w.drew v xs := h.grow (Grow.dr (Grow.refl w))

/-- an empty row that was made -/
def litB (w : World) : Value := .slice (some ⟨w.heap.size, 0, none⟩) 0 0
theorem litB_own (w : World) : OwnB (w.alloc (.cells #[] tb)) w.heap.size tb (litB w) [] := Own.lit w (Nat.le_refl _) tb #[] 0 rfl (by simp [maxLen])

theorem binNumbers_s {w : World} {p0 : Value} {bs : List UInt8} {x n at_ to : Int} (h0 : RdB w p0 bs) (hx : Fits .u64 x) (hn : Fits .i64 n) (ha : Fits .i64 at_) (hto : Fits .i64 to) :
    Go.CW.Spec Try.prog 3 #[p0, .int .u64 x, .int .i64 n, .int .i64 at_, .int .i64 to] w (Law w) := by
  have hx' := hx.u64
  have hn' := hn.i64
  apply gemellaw1_BinNumbers_wp
  refine gemellaw1_known_c fun w1 g1 => ⟨_, rfl, cond_f rfl ⟨_, h0.len, cond_intro (fun h => ⟨rfl, g1⟩) (fun h => ?_)⟩⟩
  have hl : bs.length ≤ 3000 := by simp at h; omega
  obtain ⟨v1, w2, h1, o1, g2⟩ := app_copy (h0.grow g1) (by omega)
  refine ⟨v1, w2, h1, ?_⟩
  refine bin_Put_c o1.rd (by omega) fun v2 w3 g3 r2 _ => ?_
  have gw3 := (g1.then g2).then g3
  obtain ⟨v3, w4, h3, o3, g4⟩ := app_copy (h0.grow gw3) (by omega)
  refine ⟨v3, w4, h3, ?_⟩
  refine gemelref1_Put_c o3 g4.size (by omega) fun v4 w5 g5 o4 => ?_
  have g35 : Grow w3 w5 := g4.trans (g5.below g4.size o3.blk)
  have gw5 := gw3.then g35
  refine bin_Get_c (h0.grow gw5) ha hn ⟨_, _, rfl, ?_⟩
  refine gemelref1_Get_c (h0.grow gw5) ha hn ⟨_, _, rfl, ?_⟩
  have r2d := rd_dr (r2.grow g35)
  have h0d := rd_dr (h0.grow gw5)
  refine JoinP.bool (fun b w' => b = false ∧ Grow w5 w') (fun j hj => ?_) ?_
  · refine ⟨_, tB_text r2d, _, tB_text (rd_dr o4.rd), cond_f (by simp) (cond_f (by simp) (cond_f (by simp) ?_))⟩
    have gd : Grow w5 w5.drew := Grow.dr (Grow.refl _)
    generalize w5.drew = W at *
    have close : ∀ w', Grow W w' → j (!((textOf (padS bs to)).toList == (textOf (padS bs to)).toList)) w' := fun w' g => hj _ _ ⟨by simp, gd.then g⟩
    have hpl : (padS bs to).length = bs.length + padN bs.length to := padS_length bs to
    -- two rows made one behind the other
    have q1 : OwnB ((W.alloc (.cells #[] tb)).alloc (.cells #[] tb)) W.heap.size tb (litB W) [] := Own.grow (litB_own W) (Grow.al (Grow.refl _) _)
    have q2 : OwnB ((W.alloc (.cells #[] tb)).alloc (.cells #[] tb)) (W.alloc (.cells #[] tb)).heap.size tb (litB (W.alloc (.cells #[] tb))) [] := litB_own _
    have gW2 : Grow W ((W.alloc (.cells #[] tb)).alloc (.cells #[] tb)) := Grow.al (Grow.al (Grow.refl _) _) _
    have hs1 : (W.alloc (.cells #[] tb)).heap.size = W.heap.size + 1 := by simp
    have hs2 : ((W.alloc (.cells #[] tb)).alloc (.cells #[] tb)).heap.size = W.heap.size + 2 := by simp
    refine ⟨⟨?_, ?_⟩, ?_⟩
    · obtain ⟨v38, w39, a1, o38, g39⟩ := app_copy h0d (by omega)
      refine ⟨v38, w39, a1, ?_, ?_⟩
      · refine bin_Pad_c o38.rd (by omega) fun v40 w41 g41 r40 n40 => ?_
        have gW41 := g39.then g41
        obtain ⟨v44, w45, a2, o44, g45⟩ := app_copy (h0d.grow gW41) (by omega)
        refine ⟨_, tB_text r40, ⟨_, tB_text (rd_al r40 _), rfl⟩, v44, w45, a2, ⟨_, tB_text (r40.grow g45), rfl⟩, ?_⟩
        refine gemelref1_Pad_c o44 g45.size (by omega) fun v47 w48 n48 o47 => ?_
        have g48 : Grow w41 w48 := g45.trans (n48.below g45.size o44.blk)
        exact ⟨⟨_, tB_text (r40.grow g48), rfl⟩, _, tB_text o47.rd, close _ (gW41.then g48)⟩
      · refine bin_Pad_c (rd_al o38.rd _) (by omega) fun v51 w52 g52 r51 n51 => ?_
        have oL : OwnB w52 w39.heap.size tb (litB w39) [] := Own.grow (litB_own w39) g52
        have gL : Grow w39 w52 := (Grow.al (Grow.refl w39) _).trans (g52.mono (by simp))
        have gW52 := g39.then gL
        obtain ⟨v54, w55, a3, o54, n55⟩ := app_bytes oL (h0d.grow gW52) gL.size (by simp; omega)
        have ne : v51.ownBlock = none ∨ v51.ownBlock ≠ (litB w39).ownBlock := n51.ne (fun k hk => by cases hk; simp)
        refine ⟨_, tB_text r51, v54, w55, a3, ⟨_, tB_text (r51.grown n55.by_ ne), rfl⟩, ?_⟩
        refine gemelref1_Pad_c o54 (Nat.le_trans gL.size n55.by_.size) (by simpa using (by omega : bs.length ≤ 1000000000000)) fun v57 w58 n58 o57 => ?_
        have n58' := n55.then n58
        exact ⟨⟨_, tB_text (r51.grown n58'.by_ ne), rfl⟩, _, tB_text o57.rd, close _ (gW52.trans ((n58'.below gL.size oL.blk).mono g39.size))⟩
    · obtain ⟨v61, w62, a1, o61, n62⟩ := app_bytes q1 (h0d.grow gW2) gW2.size (by simp; omega)
      have gW62 : Grow W w62 := gW2.trans (n62.below gW2.size q1.blk)
      refine ⟨v61, w62, a1, ?_⟩
      refine bin_Pad_c o61.rd (by simpa using (by omega : bs.length ≤ 1000000000000)) fun v63 w64 g64 r63 n63 => ?_
      have gW64 := gW62.then g64
      have q2' : OwnB w64 (W.alloc (.cells #[] tb)).heap.size tb (litB (W.alloc (.cells #[] tb))) [] :=
        Own.grow (World.ownsRow.kept q2 n62.by_ (.inr (by simp [litB, Value.ownBlock]))) g64
      have hsz : (W.alloc (.cells #[] tb)).heap.size ≤ w64.heap.size := Nat.le_trans (by rw [hs1, hs2]; omega) (Nat.le_trans n62.by_.size g64.size)
      obtain ⟨v66, w67, a2, o66, n67⟩ := app_bytes q2' (h0d.grow gW64) hsz (by simp; omega)
      have ne : v63.ownBlock = none ∨ v63.ownBlock ≠ (litB (W.alloc (.cells #[] tb))).ownBlock := n63.ne (fun k hk => by
        have h9 : k = (W.alloc (.cells #[] tb)).heap.size := by cases hk; rfl
        have h8 := n62.by_.size
        rw [hs2] at h8; rw [hs1] at h9; omega)
      refine ⟨_, tB_text r63, v66, w67, a2, ⟨_, tB_text (r63.grown n67.by_ ne), rfl⟩, ?_⟩
      refine gemelref1_Pad_c o66 (Nat.le_trans hsz n67.by_.size) (by simpa using (by omega : bs.length ≤ 1000000000000)) fun v69 w70 n70 o69 => ?_
      have n70' := n67.then n70
      exact ⟨⟨_, tB_text (r63.grown n70'.by_ ne), rfl⟩, _, tB_text o69.rd, close _ (gW64.trans ((n70'.below hsz q2'.blk).mono (by rw [hs1]; omega)))⟩
    · obtain ⟨v73, w74, a1, o73, n74⟩ := app_bytes q2 (h0d.grow gW2) (by rw [hs1, hs2]; omega) (by simp; omega)
      have gW74 : Grow W w74 := gW2.trans ((n74.below (by rw [hs1, hs2]; omega) q2.blk).mono (by rw [hs1]; omega))
      refine ⟨v73, w74, a1, ?_⟩
      refine bin_Pad_c o73.rd (by simpa using (by omega : bs.length ≤ 1000000000000)) fun v75 w76 g76 r75 n75 => ?_
      have gW76 := gW74.then g76
      have q1' : OwnB w76 W.heap.size tb (litB W) [] :=
        Own.grow (World.ownsRow.kept q1 n74.by_ (.inr (by simp [litB, Value.ownBlock]))) g76
      obtain ⟨v78, w79, a2, o78, n79⟩ := app_bytes q1' (h0d.grow gW76) gW76.size (by simp; omega)
      have ne : v75.ownBlock = none ∨ v75.ownBlock ≠ (litB W).ownBlock := n75.ne (fun k hk => by
        have h9 : k = W.heap.size := by cases hk; rfl
        have h8 := n74.by_.size
        rw [hs2] at h8; omega)
      refine ⟨_, tB_text r75, v78, w79, a2, ⟨_, tB_text (r75.grown n79.by_ ne), rfl⟩, ?_⟩
      refine gemelref1_Pad_c o78 (Nat.le_trans gW76.size n79.by_.size) (by simpa using (by omega : bs.length ≤ 1000000000000)) fun v81 w82 n82 o81 => ?_
      have n82' := n79.then n82
      exact ⟨⟨_, tB_text (r75.grown n82'.by_ ne), rfl⟩, _, tB_text o81.rd, close _ (gW76.trans (n82'.below gW76.size q1'.blk))⟩
  · rintro b w6 ⟨rfl, g6⟩
    refine cond_f rfl ?_
    refine JoinP.bool (fun b w' => b = !(inW n) ∧ w' = w6) (fun j hj => test_width n j w6 hj) ?_
    have r6 := (r2.grow g35).grow g6
    have gw6 := gw5.then g6
    rintro b w7 ⟨rfl, rfl⟩
    refine cond_intro (fun hb => ?_) (fun hb => ?_)
    · have hb' : inW n = false := by simpa using hb
      refine ⟨_, r6.len, _, h0.len, ?_, gw6⟩
      simp [putS, hb']
    · have hb' : inW n = true := by simpa using hb
      have hn2 : 1 ≤ n ∧ n ≤ 8 := by simpa [inW] using hb'
      obtain ⟨k, rfl⟩ := Int.eq_ofNat_of_zero_le (show 0 ≤ n by omega)
      have hk : 1 ≤ k ∧ k ≤ 8 := by omega
      have ep : putS bs x (k : Int) = bs ++ putL x k := by unfold putS; rw [hb']; rfl
      rw [ep] at r6
      have hput : (putL x k).length = k := putL_length _ _
      have hgb : getB (bs ++ putL x k).length (bs.length : Int) (k : Int) = true := by
        unfold getB
        rw [hb']
        simp only [Bool.true_and, Bool.and_eq_true, decide_eq_true_eq, List.length_append, hput]; omega
      have hgv : getV (bs ++ putL x k) (bs.length : Int) (k : Int) = x % 256 ^ k := by
        unfold getV
        rw [hgb]
        simp only [cond_true, Int.toNat_natCast, List.drop_left]
        rw [List.take_of_length_le (by omega), valL_putL _ hx'.1]
      refine ⟨_, h0.len, bin_Get_c r6 (by constructor <;> simp [IntKind.min, IntKind.max, IntKind.bits, IntKind.signed] <;> omega) hn ⟨_, _, rfl, ?_⟩⟩
      rw [hgb, hgv]
      refine JoinP.bool (fun b w' => b = true ∧ w' = w7) (fun j hj => ?_) (fun b w' ⟨h1, h2⟩ => by subst h1; subst h2; exact ⟨rfl, gw6⟩)
      rw [shift_eq k hk]
      refine cond_t rfl (leK_intro (by omega) (leK_intro (by omega) (hj _ _ ⟨?_, rfl⟩)))
      have e : min (Int.toNat ((64 - 8 * k : Nat) : Int)) 64 = 64 - 8 * k := by omega
      rw [e, low_bits _ k hk]
      simp

end Go.Proofs.Ytfdnnlfakfjklaa
