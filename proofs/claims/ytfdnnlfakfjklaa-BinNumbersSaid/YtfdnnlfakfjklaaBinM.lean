/- The laws of the numbers that read and write bytes: each returns true. -/
import Derived.Test.YtfdnnlfakfjklaaBinL
set_option linter.unusedVariables false
set_option linter.unusedSimpArgs false
namespace Go.Proofs.Ytfdnnlfakfjklaa
open Go Go.CW Go.RowKit

/-! ### what is put is read -/
theorem pow2_256 (n : Nat) : (2 : Int) ^ (8 * n) = 256 ^ n := by rw [Int.pow_mul]; rfl

theorem fold_putL (v : Int) (hv : 0 ≤ v) (n : Nat) : ∀ acc : Int, (putL v n).foldl (fun (v : Int) c => v * 256 + (c.toNat : Int)) acc = acc * 256 ^ n + v % 256 ^ n := by
  obtain ⟨m, rfl⟩ := Int.eq_ofNat_of_zero_le hv
  induction n with
  | zero => intro acc; simp [putL, Int.emod_one]
  | succ n ih =>
    intro acc
    rw [putL, List.foldl_cons, ih, byt_toNat, pow2_256]
    have h1 : ((m : Int) % 256 ^ (n + 1)) = (m : Int) % 256 ^ n + 256 ^ n * ((m : Int) / 256 ^ n % 256) := by
      have h2 := Nat.mod_mul (x := m) (a := 256 ^ n) (b := 256)
      have h3 := congrArg (Nat.cast : Nat → Int) h2
      simp only [Int.natCast_emod, Int.natCast_mul, Int.natCast_add, Int.natCast_pow, Int.natCast_ediv] at h3
      rw [Int.pow_succ]
      exact h3
    rw [h1, Int.pow_succ, Int.add_mul, Int.mul_assoc, Int.mul_comm 256 (256 ^ n), Int.mul_comm ((m : Int) / 256 ^ n % 256)]
    omega

theorem valL_putL (v : Int) (hv : 0 ≤ v) (n : Nat) : valL (putL v n) = v % 256 ^ n := by
  have h := fold_putL v hv n 0
  rw [Int.zero_mul, Int.zero_add] at h
  exact h

/-- a number's width -/
def kw (b : UInt8) : Nat := 1 + b.toNat % 8
theorem kw_range (b : UInt8) : 1 ≤ kw b ∧ kw b ≤ 8 := by unfold kw; omega

theorem and7_all : ∀ n : Fin 256, bitsI .and .u8 (n.val : Int) 7 = ((n.val % 8 : Nat) : Int) := by decide +kernel
theorem and7 (b : UInt8) : bitsI .and .u8 (b.toNat : Int) 7 = ((b.toNat % 8 : Nat) : Int) := and7_all ⟨b.toNat, b.toNat_lt⟩
theorem kw_eq (b : UInt8) : (IntKind.wrap .i64 ((1 : Int) + (IntKind.wrap .i64 (bitsI .and .u8 (b.toNat : Int) (7 : Int))))) = (kw b : Int) := by
  rw [and7, wi64_id (n := ((b.toNat % 8 : Nat) : Int)) (by omega) (by omega), wi64_id (by omega) (by omega)]
  unfold kw; omega

theorem shift_eq (k : Nat) (hk : 1 ≤ k ∧ k ≤ 8) : (IntKind.wrap .u64 (IntKind.wrap .i64 ((64 : Int) - (IntKind.wrap .i64 ((8 : Int) * (k : Int)))))) = ((64 - 8 * k : Nat) : Int) := by
  rw [wi64_id (n := 8 * (k : Int)) (by omega) (by omega), wi64_id (n := 64 - 8 * (k : Int)) (by omega) (by omega), w64_id (by omega) (by omega)]
  omega

theorem low_bits (v : Int) (k : Nat) (hk : 1 ≤ k ∧ k ≤ 8) : Int.fdiv (IntKind.wrap .u64 (v * (2 : Int) ^ (64 - 8 * k))) ((2 : Int) ^ (64 - 8 * k)) = v % 256 ^ k := by
  rw [Int.fdiv_eq_ediv_of_nonneg _ (Int.pow_nonneg (by omega)), w64]
  have h : k = 1 ∨ k = 2 ∨ k = 3 ∨ k = 4 ∨ k = 5 ∨ k = 6 ∨ k = 7 ∨ k = 8 := by omega
  rcases h with rfl | rfl | rfl | rfl | rfl | rfl | rfl | rfl <;> simp only [Nat.reduceMul, Nat.reduceSub, Int.reducePow] <;> omega

/-! ### rows of numbers -/
def catB (ls : List Int) (ks : List UInt8) : Nat → List UInt8
  | 0 => []
  | i + 1 => catB ls ks i ++ putL (ls.getD i 0) (kw (ks.getD i 0))

theorem catB_prefix (ls : List Int) (ks : List UInt8) (i : Nat) : ∀ n, ∃ r, catB ls ks (i + n) = catB ls ks i ++ r := by
  intro n
  induction n with
  | zero => exact ⟨[], by simp⟩
  | succ n ih => obtain ⟨r, hr⟩ := ih; exact ⟨r ++ putL (ls.getD (i + n) 0) (kw (ks.getD (i + n) 0)), by rw [← Nat.add_assoc, catB, hr, List.append_assoc]⟩

theorem catB_length (ls : List Int) (ks : List UInt8) : ∀ i, (catB ls ks i).length ≤ 8 * i := by
  intro i
  induction i with
  | zero => simp [catB]
  | succ i ih => have := (kw_range (ks.getD i 0)).2; simp only [catB, List.length_append, putL_length]; omega

theorem binRows_s {w : World} {p0 p1 : Value} {ls : List Int} {ks : List UInt8} (hf : ∀ n ∈ ls, Fits .u64 n) (h0 : Rd w p0 (ls.map (Value.int .u64))) (h1 : RdB w p1 ks) :
    Go.CW.Spec Try.prog 6 #[p0, p1] w (Law w) := by
  have hl0 : sliceLen p0 = some ls.length := by simpa using h0.len
  apply gemellaw1_BinRows_wp
  refine gemellaw1_known_c fun w1 g1 => ⟨_, rfl, cond_f rfl ?_⟩
  refine JoinP.bool (fun b w' => b = !(decide (ls.length ≤ 60) && decide (ls.length ≤ ks.length)) ∧ w' = w1) (fun j hj => ?_) ?_
  · refine ⟨_, hl0, cond_intro (fun h => hj _ _ ⟨?_, rfl⟩) (fun h => ⟨_, h1.len, _, hl0, hj _ _ ⟨?_, rfl⟩⟩)⟩
    · simp at h ⊢; omega
    · rw [Bool.eq_iff_iff]; simp at h ⊢; omega
  rintro b w2 ⟨rfl, rfl⟩
  refine cond_intro (fun h => ⟨rfl, g1⟩) (fun h => ?_)
  have hh : ls.length ≤ 60 ∧ ls.length ≤ ks.length := by simpa using h
  have cell0 : ∀ (i : Nat) (ww : World), i < ls.length → Grow w ww → ∃ a, sliceAt p0 (i : Int) 1 = some a ∧ World.cell? ww a = some (.int .u64 (ls.getD i 0)) := by
    intro i ww hi g
    exact Rd.at (h0.grow g) (by omega) (by simp [List.getElem?_eq_getElem hi])
  have cell1 : ∀ (i : Nat) (ww : World), i < ls.length → Grow w ww → ∃ a, sliceAt p1 (i : Int) 1 = some a ∧ World.cell? ww a = some (.int .u8 ((ks.getD i 0).toNat : Int)) := by
    intro i ww hi g
    exact Rd.at (h1.grow g) (by omega) (by simp [List.getElem?_eq_getElem (show i < ks.length by omega), b8])
  refine ⟨fun (v : Value) (n : Int) (ww : World) => ∃ i : Nat, n = i ∧ i ≤ ls.length ∧ Grow w ww ∧ RdB ww v (catB ls ks i), fun (v : Value) (n : Int) (ww : World) => (ls.length - n).toNat, ⟨0, rfl, by omega, g1, Rd.nil _⟩, ?_⟩
  dsimp only [allR, mapR2, eqN, ltN]
  rintro m v n ww ⟨⟨i, rfl, hi, g, hr⟩, hm⟩
  refine ⟨_, hl0, cond_intro (fun h2 => ?_) (fun h2 => ?_)⟩
  · simp at h2
    obtain ⟨a, ha1, ha2⟩ := cell0 i ww.drew (by omega) (Grow.dr g)
    obtain ⟨c, hc1, hc2⟩ := cell1 i ww.drew (by omega) (Grow.dr g)
    refine ⟨a, ha1, _, ha2, c, hc1, _, hc2, ?_⟩
    rw [kw_eq]
    have hk := kw_range (ks.getD i 0)
    refine bin_Put_c (hr.grow (Grow.dr (Grow.refl _))) (by have := catB_length ls ks i; omega) fun v' w' g' r' _ => ?_
    have e : putS (catB ls ks i) (ls.getD i 0) (kw (ks.getD i 0) : Int) = catB ls ks (i + 1) := by
      have : inW (kw (ks.getD i 0) : Int) = true := by unfold inW; simp only [Bool.and_eq_true, decide_eq_true_eq]; omega
      unfold putS
      rw [this]; rfl
    rw [e] at r'
    rw [wi64_id (n := (i : Int) + 1) (by omega) (by omega)]
    exact ⟨⟨i + 1, by omega, by omega, (Grow.dr g).then g', r'⟩, by omega⟩
  · simp at h2
    obtain rfl : i = ls.length := by omega
    clear hm m
    refine ⟨fun (a : Int) (n : Int) (w3 : World) => ∃ i : Nat, n = i ∧ i ≤ ls.length ∧ a = ((catB ls ks i).length : Int) ∧ w3 = ww, fun (a : Int) (n : Int) (w3 : World) => (ls.length - n).toNat, ⟨0, rfl, by omega, rfl, rfl⟩, ?_⟩
    dsimp only [allR, mapR2, eqN, ltN]
    rintro m a n w3 ⟨⟨i, rfl, hi, rfl, rfl⟩, hm⟩
    have hlen := catB_length ls ks ls.length
    obtain ⟨r0, hr0⟩ := catB_prefix ls ks i (ls.length - i)
    rw [show i + (ls.length - i) = ls.length by omega] at hr0
    have hlen0 : (catB ls ks i).length ≤ (catB ls ks ls.length).length := by rw [hr0]; simp
    refine ⟨_, hl0, cond_intro (fun h2 => ?_) (fun h2 => ?_)⟩
    · simp at h2
      obtain ⟨c, hc1, hc2⟩ := cell1 i w3 (by omega) g
      refine ⟨c, hc1, _, hc2, ?_⟩
      simp only [kw_eq]
      have hk := kw_range (ks.getD i 0)
      generalize hkk : kw (ks.getD i 0) = k at *
      have hfit : Fits .u64 (ls.getD i 0) := by
        refine hf _ ?_
        rw [List.getD_eq_getElem?_getD, List.getElem?_eq_getElem (show i < ls.length by omega)]
        exact List.getElem_mem _
      have hf' := hfit.u64
      obtain ⟨r1, hr1⟩ := catB_prefix ls ks (i + 1) (ls.length - (i + 1))
      rw [show i + 1 + (ls.length - (i + 1)) = ls.length by omega, catB, hkk] at hr1
      have hput : (putL (ls.getD i 0) k).length = k := putL_length _ _
      have hgb : getB (catB ls ks ls.length).length ((catB ls ks i).length : Int) (k : Int) = true := by
        unfold getB inW
        simp only [Bool.and_eq_true, decide_eq_true_eq, hr1, List.length_append, hput]; omega
      have hgv : getV (catB ls ks ls.length) ((catB ls ks i).length : Int) (k : Int) = (ls.getD i 0) % 256 ^ k := by
        unfold getV
        rw [hgb, hr1]
        simp only [cond_true, Int.toNat_natCast, List.append_assoc, List.drop_left]
        rw [List.take_left' hput, valL_putL _ hf'.1]
      refine bin_Get_c hr (by constructor <;> simp [IntKind.min, IntKind.max, IntKind.bits, IntKind.signed] <;> omega) (by constructor <;> simp [IntKind.min, IntKind.max, IntKind.bits, IntKind.signed] <;> omega) ⟨_, _, rfl, ?_⟩
      rw [hgb, hgv]
      refine JoinP.bool (fun b w' => b = false ∧ w' = w3) (fun j hj => ?_) ?_
      · obtain ⟨a, ha1, ha2⟩ := cell0 i w3 (by omega) g
        refine cond_f rfl ⟨a, ha1, _, ha2, ?_⟩
        rw [shift_eq k hk]
        refine leK_intro (by omega) (leK_intro (by omega) (hj _ _ ⟨?_, rfl⟩))
        have e : min (Int.toNat ((64 - 8 * k : Nat) : Int)) 64 = 64 - 8 * k := by omega
        rw [e, low_bits _ k hk]
        simp
      · rintro b w4 ⟨rfl, rfl⟩
        refine cond_f rfl ⟨⟨i + 1, ?_, by omega, ?_, rfl⟩, ?_⟩
        · rw [wi64_id (n := (i : Int) + 1) (by omega) (by omega)]; rfl
        · rw [wi64_id (by omega) (by omega)]
          simp only [catB, hkk, List.length_append, hput]; omega
        · rw [wi64_id (n := (i : Int) + 1) (by omega) (by omega)]; omega
    · simp at h2
      obtain rfl : i = ls.length := by omega
      refine bin_Get_c hr (by constructor <;> simp [IntKind.min, IntKind.max, IntKind.bits, IntKind.signed] <;> omega) (by decide) ⟨_, _, rfl, ?_⟩
      refine JoinP.bool (fun b w' => b = true ∧ w' = w3) (fun j hj => ?_) (fun b w' ⟨h1, h2⟩ => by subst h1; subst h2; exact ⟨rfl, g⟩)
      refine ⟨_, hr.len, cond_t (by simp) (hj _ _ ⟨?_, rfl⟩)⟩
      simp [getB]; right; omega

theorem padN_ok {l : Nat} {to : Int} (h : inP to = true) : Int.tmod (((l + padN l to : Nat)) : Int) to = 0 ∧ (padN l to : Int) < to := by
  have hn : 1 ≤ to ∧ to ≤ 4096 := by simpa [inP] using h
  have hr1 := Int.emod_lt_of_pos (-(l : Int)) (b := to) (by omega)
  have hr0 := Int.emod_nonneg (-(l : Int)) (b := to) (by omega)
  have hp : padN l to = ((-(l : Int)) % to).toNat := by simp [padN, h]
  refine ⟨?_, by omega⟩
  rw [Int.natCast_add]
  rw [pad_go hn.1 (by omega)]
  omega

theorem padS_length (bs : List UInt8) (to : Int) : (padS bs to).length = bs.length + padN bs.length to := by simp [padS]

theorem tB_text {w : World} {v : Value} {bs : List UInt8} (h : RdB w v bs) : Sem.run Try.prog (convert tB 9 v) w = .ok (.string (textOf bs)) w :=
  run_text (e := tb) (by kernel_rfl) (by kernel_rfl) (by kernel_rfl) h

theorem binPads_s {w : World} {p0 : Value} {bs : List UInt8} {to : Int} (h0 : RdB w p0 bs) (hto : Fits .i64 to) :
    Go.CW.Spec Try.prog 8 #[p0, .int .i64 to] w (Law w) := by
  have hto' := hto.i64
  apply gemellaw1_BinPads_wp
  refine gemellaw1_known_c fun w1 g1 => ⟨_, rfl, cond_f rfl ?_⟩
  refine JoinP.bool (fun b w' => b = !(decide (bs.length ≤ 3000) && inP to) ∧ w' = w1) (fun j hj => ?_) ?_
  · refine ⟨_, h0.len, cond_intro (fun h => hj _ _ ⟨?_, rfl⟩) (fun h => cond_intro (fun h' => hj _ _ ⟨?_, rfl⟩) (fun h' => hj _ _ ⟨?_, rfl⟩))⟩
    all_goals rw [Bool.eq_iff_iff]
    all_goals simp [inP] at *
    all_goals omega
  rintro b w2 ⟨rfl, rfl⟩
  refine cond_intro (fun h => ⟨rfl, g1⟩) (fun h => ?_)
  have hh : bs.length ≤ 3000 ∧ inP to = true := by simpa using h
  have hn : 1 ≤ to ∧ to ≤ 4096 := by simpa [inP] using hh.2
  obtain ⟨v1, w3, h1, o1, g3⟩ := app_copy (h0.grow g1) (by omega)
  refine ⟨v1, w3, h1, ?_⟩
  refine bin_Pad_c o1.rd (by omega) fun v2 w4 g4 r2 _ => ?_
  have gw := (g1.then g3).then g4
  have hp := padN_ok (l := bs.length) hh.2
  have hplen : (padS bs to).length = bs.length + padN bs.length to := padS_length bs to
  refine JoinP.bool (fun b w' => b = false ∧ w' = w4.drew) (fun j hj => ?_) ?_
  · refine ⟨_, r2.len, nzK_intro (by omega) (cond_f ?_ ⟨_, r2.len, _, h0.len, cond_f ?_ ⟨_, h0.len, ?_⟩⟩)⟩
    · rw [hplen, hp.1]; rfl
    · rw [hplen, wi64_id (by omega) (by omega)]
      simp only [decide_eq_false_iff_not]; omega
    · obtain ⟨v3, hs, r3, _⟩ := Rd.sub (r2.grow (Grow.dr (Grow.refl _))) (lo := none) (hi := some (.int .i64 (bs.length : Int))) (l := 0) (r := bs.length) (fun cap hc => bounds_ni (by omega) (by simp [hplen] at hc; omega)) (by omega) (by simp [hplen])
      have e : RdB w4.drew v3 bs := by
        have e1 : (((padS bs to).map b8).drop 0).take (bs.length - 0) = bs.map b8 := by
          simp [padS, List.take_left']
        rw [e1] at r3; exact r3
      refine ⟨v3, hs, _, tB_text e, _, tB_text ((h0.grow gw).grow (Grow.dr (Grow.refl _))), hj _ _ ⟨?_, rfl⟩⟩
      simp
  rintro b w5 ⟨rfl, rfl⟩
  refine cond_f rfl ⟨_, h0.len, ?_⟩
  refine ⟨fun (n : Int) (ww : World) => ∃ i : Nat, n = i ∧ bs.length ≤ i ∧ i ≤ (padS bs to).length ∧ ww = w4.drew, fun (n : Int) (ww : World) => ((padS bs to).length - n).toNat, ⟨bs.length, rfl, by omega, by omega, rfl⟩, ?_⟩
  dsimp only [allR, mapR2, eqN, ltN]
  rintro m n ww ⟨⟨i, rfl, hi1, hi2, rfl⟩, hm⟩
  have r2' : RdB w4.drew v2 (padS bs to) := r2.grow (Grow.dr (Grow.refl _))
  refine ⟨_, r2'.len, cond_intro (fun h2 => ?_) (fun h2 => ?_)⟩
  · simp at h2
    obtain ⟨a, ha1, ha2⟩ := r2'.at (i := (i : Int)) (by omega) (by omega)
    refine ⟨a, ha1, _, ha2, ?_⟩
    have ez : (padS bs to)[(i : Int).toNat]'(by omega) = 0 := by
      simp only [padS, Int.toNat_natCast]
      rw [List.getElem_append_right hi1, List.getElem_replicate]
    rw [ez]
    refine cond_f rfl ?_
    rw [wi64_id (n := (i : Int) + 1) (by omega) (by omega)]
    exact ⟨⟨i + 1, by omega, by omega, by omega, rfl⟩, by omega⟩
  · refine bin_Pad_c r2' (by omega) fun v4 w6 g6 r4 _ => ⟨_, r4.len, _, r2'.len, ?_, (Grow.dr gw).then g6⟩
    have hz : padN (padS bs to).length to = 0 := by
      have h3 := (pad_go (l := (padS bs to).length) (k := 0) (to := to) hn.1 (by have := Int.emod_nonneg (-((padS bs to).length : Int)) (b := to) (by omega); omega)).1 (by rw [hplen]; simpa using hp.1)
      have : padN (padS bs to).length to = ((-((padS bs to).length : Int)) % to).toNat := by simp [padN, hh.2]
      omega
    rw [padS_length (padS bs to) to, hz]
    simp

end Go.Proofs.Ytfdnnlfakfjklaa
