/- The law of the sum (CRC-32C): a bit's step, linear and one to one; bytes; what is sealed; turned bits. No program in sight. -/
import Derived.Test.YtghineciiljeoaaGreatDoorLib
set_option linter.unusedVariables false
namespace Go.Crc

abbrev W := BitVec 32
def poly : W := 0x82F63B78#32

/-- a bit's step -/
def st (v : W) : W := bif v.getLsbD 0 then (v >>> 1) ^^^ poly else v >>> 1

theorem st_xor (a b : W) : st (a ^^^ b) = st a ^^^ st b := by
  unfold st
  rw [BitVec.getLsbD_xor, BitVec.ushiftRight_xor_distrib]
  generalize a >>> 1 = x
  generalize b >>> 1 = y
  cases a.getLsbD 0 <;> cases b.getLsbD 0 <;> simp only [Bool.xor_true, Bool.xor_false, Bool.not_true, Bool.not_false, cond_true, cond_false]
  · rw [BitVec.xor_assoc]
  · rw [BitVec.xor_assoc, BitVec.xor_comm y poly, BitVec.xor_assoc]
  · have h : x ^^^ poly ^^^ (y ^^^ poly) = (x ^^^ y) ^^^ (poly ^^^ poly) := by ac_rfl
    rw [h, BitVec.xor_self, BitVec.xor_zero]

theorem st_zero : st 0#32 = 0#32 := by decide

theorem st_inj0 {v : W} (h : st v = 0#32) : v = 0#32 := by
  unfold st at h
  cases hb : v.getLsbD 0
  · rw [hb] at h
    simp only [cond_false] at h
    apply BitVec.eq_of_getLsbD_eq
    intro i hi
    simp only [BitVec.getLsbD_zero]
    cases i with
    | zero => exact hb
    | succ i =>
      have h1 := congrArg (fun x : W => x.getLsbD i) h
      simp only [BitVec.getLsbD_ushiftRight, BitVec.getLsbD_zero] at h1
      rw [Nat.add_comm]; exact h1
  · rw [hb] at h
    simp only [cond_true] at h
    exfalso
    have h1 := congrArg (fun x : W => x.getLsbD 31) h
    simp only [BitVec.getLsbD_xor, BitVec.getLsbD_ushiftRight, BitVec.getLsbD_zero] at h1
    rw [BitVec.getLsbD_of_ge _ _ (by decide : 32 ≤ 1 + 31)] at h1
    revert h1; decide

def stn : Nat → W → W
  | 0, v => v
  | n + 1, v => stn n (st v)

theorem stn_xor (n : Nat) : ∀ a b : W, stn n (a ^^^ b) = stn n a ^^^ stn n b := by
  induction n with
  | zero => intro a b; rfl
  | succ n ih => intro a b; simp only [stn, st_xor, ih]

theorem stn_zero (n : Nat) : stn n 0#32 = 0#32 := by
  induction n with
  | zero => rfl
  | succ n ih => simp only [stn, st_zero, ih]

theorem stn_inj0 (n : Nat) : ∀ {v : W}, stn n v = 0#32 → v = 0#32 := by
  induction n with
  | zero => intro v h; exact h
  | succ n ih => intro v h; exact st_inj0 (ih h)

theorem xor_eq_zero {a b : W} (h : a ^^^ b = 0#32) : a = b := by
  have := congrArg (· ^^^ b) h
  simpa [BitVec.xor_assoc] using this

theorem stn_inj (n : Nat) {a b : W} (h : stn n a = stn n b) : a = b := by
  apply xor_eq_zero
  apply stn_inj0 n
  rw [stn_xor, h, BitVec.xor_self]

theorem stn_add (m n : Nat) : ∀ v : W, stn (m + n) v = stn n (stn m v) := by
  induction m with
  | zero => intro v; simp [stn]
  | succ m ih => intro v; rw [Nat.succ_add]; simp only [stn]; exact ih _

theorem stn_succ (n : Nat) (v : W) : stn (n + 1) v = st (stn n v) := by
  rw [stn_add]; rfl

/-- a byte as a word -/
def wd (c : UInt8) : W := BitVec.ofNat 32 c.toNat

/-- the state goes on over bytes -/
def F (v : W) (bs : List UInt8) : W := bs.foldl (fun v c => stn 8 (v ^^^ wd c)) v

theorem F_nil (v : W) : F v [] = v := rfl
theorem F_cons (v : W) (c : UInt8) (bs : List UInt8) : F v (c :: bs) = F (stn 8 (v ^^^ wd c)) bs := rfl
theorem F_append (v : W) (a b : List UInt8) : F v (a ++ b) = F (F v a) b := by simp [F, List.foldl_append]

/-- what is put to the state ahead goes through -/
theorem F_xor (bs : List UInt8) : ∀ v d : W, F (v ^^^ d) bs = F v bs ^^^ stn (8 * bs.length) d := by
  induction bs with
  | nil => intro v d; rfl
  | cons c bs ih =>
    intro v d
    have h : v ^^^ d ^^^ wd c = (v ^^^ wd c) ^^^ d := by ac_rfl
    rw [F_cons, F_cons, h, stn_xor, ih, List.length_cons, Nat.mul_succ, Nat.add_comm, stn_add]

theorem wd_xor (a b : UInt8) : wd (a ^^^ b) = wd a ^^^ wd b := by
  unfold wd
  rw [UInt8.toNat_xor, BitVec.ofNat_xor]

/-- sums of lists of one length go together -/
theorem F_mix : ∀ (a b : List UInt8) (u v : W), a.length = b.length → F (u ^^^ v) (List.zipWith (· ^^^ ·) a b) = F u a ^^^ F v b
  | [], [], u, v, _ => rfl
  | x :: a, y :: b, u, v, h => by
    simp only [List.zipWith_cons_cons, F_cons]
    rw [← F_mix a b _ _ (by simpa using h), ← stn_xor, wd_xor]
    congr 2
    ac_rfl

/-! ### the sum -/
def more (s : W) (bs : List UInt8) : W := ~~~ F (~~~ s) bs
def sum (bs : List UInt8) : W := more 0#32 bs

theorem more_append (s : W) (a b : List UInt8) : more (more s a) b = more s (a ++ b) := by
  simp only [more, BitVec.not_not, F_append]
theorem more_nil (s : W) : more s [] = s := by simp [more, F_nil]
theorem sum_append (a b : List UInt8) : more (sum a) b = sum (a ++ b) := more_append _ _ _

def ones : W := 0xFFFFFFFF#32
theorem not_eq (v : W) : ~~~ v = ones ^^^ v := by
  rw [BitVec.xor_comm]; exact (BitVec.xor_allOnes (x := v)).symm

/-- a word's bytes, the lowest first -/
def le4 (x : W) : List UInt8 := [UInt8.ofNat x.toNat, UInt8.ofNat (x.toNat / 256), UInt8.ofNat (x.toNat / 65536), UInt8.ofNat (x.toNat / 16777216)]

/-- the bytes with their sum behind -/
def sld (bs : List UInt8) : List UInt8 := bs ++ le4 (sum bs)

theorem le4_length (x : W) : (le4 x).length = 4 := rfl
theorem sld_length (bs : List UInt8) : (sld bs).length = bs.length + 4 := by simp [sld, le4_length]

theorem wd_bit (n j : Nat) (hj : j < 32) : (wd (UInt8.ofNat n)).getLsbD j = (decide (j < 8) && n.testBit j) := by
  unfold wd
  rw [BitVec.getLsbD_ofNat]
  have e : (UInt8.ofNat n).toNat = n % 2 ^ 8 := by simp
  rw [e, Nat.testBit_mod_two_pow]
  simp [hj]

/-- a step on bits that lie higher is a shift -/
theorem st_shift (c : UInt8) (n : Nat) (hn : n < 24) : st (wd c <<< (n + 1)) = wd c <<< n := by
  unfold st
  have h0 : (wd c <<< (n + 1)).getLsbD 0 = false := by rw [BitVec.getLsbD_shiftLeft]; simp
  rw [h0, cond_false]
  apply BitVec.eq_of_getLsbD_eq
  intro i hi
  rw [BitVec.getLsbD_ushiftRight, BitVec.getLsbD_shiftLeft, BitVec.getLsbD_shiftLeft]
  have hc : ∀ j, 8 ≤ j → (wd c).getLsbD j = false := by
    intro j hj
    unfold wd
    rw [BitVec.getLsbD_ofNat]
    have : c.toNat.testBit j = false := Nat.testBit_lt_two_pow (Nat.lt_of_lt_of_le c.toNat_lt (Nat.pow_le_pow_right (by omega) hj))
    simp [this]
  by_cases h1 : i < n
  · have h2 : 1 + i < n + 1 := by omega
    simp [h1, h2]
  · have h2 : ¬ (1 + i < n + 1) := by omega
    have e : 1 + i - (n + 1) = i - n := by omega
    rw [e]
    by_cases h3 : i = 31
    · have h4 : (wd c).getLsbD (i - n) = false := hc _ (by omega)
      simp [h4]
    · have h4 : 1 + i < 32 := by omega
      simp [h1, h2, h4, hi]

theorem stn_shift (c : UInt8) (k : Nat) : ∀ n, n + k ≤ 24 → stn k (wd c <<< (n + k)) = wd c <<< n := by
  induction k with
  | zero => intro n _; rfl
  | succ k ih =>
    intro n hn
    show stn k (st (wd c <<< (n + k + 1))) = _
    rw [st_shift c (n + k) (by omega)]
    exact ih n (by omega)

theorem stn8_in (v : W) (c : UInt8) : stn 8 v ^^^ wd c = stn 8 (v ^^^ wd c <<< 8) := by
  rw [stn_xor]
  have := stn_shift c 8 0 (by omega)
  simp only [Nat.zero_add] at this
  rw [this]; simp

/-- a word's bytes put together are the word -/
theorem word_le4 (x : W) : wd (UInt8.ofNat x.toNat) ^^^ wd (UInt8.ofNat (x.toNat / 256)) <<< 8 ^^^ wd (UInt8.ofNat (x.toNat / 65536)) <<< 16 ^^^ wd (UInt8.ofNat (x.toNat / 16777216)) <<< 24 = x := by
  apply BitVec.eq_of_getLsbD_eq
  intro i hi
  have d : ∀ k j, (x.toNat / 2 ^ k).testBit j = x.getLsbD (k + j) := by
    intro k j; rw [Nat.testBit_div_two_pow, Nat.add_comm]; rfl
  have e1 : x.toNat / 256 = x.toNat / 2 ^ 8 := rfl
  have e2 : x.toNat / 65536 = x.toNat / 2 ^ 16 := rfl
  have e3 : x.toNat / 16777216 = x.toNat / 2 ^ 24 := rfl
  have e0 : x.toNat.testBit i = x.getLsbD i := rfl
  simp only [BitVec.getLsbD_xor, BitVec.getLsbD_shiftLeft, hi, decide_true, Bool.true_and]
  rw [wd_bit _ i hi, wd_bit _ (i - 8) (by omega), wd_bit _ (i - 16) (by omega), wd_bit _ (i - 24) (by omega), e1, e2, e3, d, d, d, e0]
  by_cases h1 : i < 8
  · have a1 : i < 16 := by omega
    have a2 : i < 24 := by omega
    simp [h1, a1, a2]
  · by_cases h2 : i < 16
    · have a2 : i < 24 := by omega
      have a3 : i - 8 < 8 := by omega
      have a4 : 8 + (i - 8) = i := by omega
      simp [h1, h2, a2, a3, a4]
    · by_cases h3 : i < 24
      · have a3 : ¬ (i - 8 < 8) := by omega
        have a4 : i - 16 < 8 := by omega
        have a5 : 16 + (i - 16) = i := by omega
        simp only [h1, h2, h3, a3, a4, a5]; simp
      · have a3 : ¬ (i - 8 < 8) := by omega
        have a4 : ¬ (i - 16 < 8) := by omega
        have a5 : i - 24 < 8 := by omega
        have a6 : 24 + (i - 24) = i := by omega
        simp only [h1, h2, h3, a3, a4, a5, a6]; simp

theorem stn16_in (v : W) (c : UInt8) : stn 16 v ^^^ wd c = stn 16 (v ^^^ wd c <<< 16) := by
  rw [stn_xor]
  have := stn_shift c 16 0 (by omega)
  simp only [Nat.zero_add] at this
  rw [this]; simp

theorem stn24_in (v : W) (c : UInt8) : stn 24 v ^^^ wd c = stn 24 (v ^^^ wd c <<< 24) := by
  rw [stn_xor]
  have := stn_shift c 24 0 (by omega)
  simp only [Nat.zero_add] at this
  rw [this]; simp

/-- the sum's own bytes go into the state as the sum -/
theorem F_le4 (v x : W) : F v (le4 x) = stn 32 (v ^^^ x) := by
  simp only [le4, F_cons, F_nil]
  have k1 : ∀ (y : W) (b1 b2 b3 : UInt8), stn 8 (stn 8 (stn 8 (stn 8 y ^^^ wd b1) ^^^ wd b2) ^^^ wd b3) = stn 32 (y ^^^ wd b1 <<< 8 ^^^ wd b2 <<< 16 ^^^ wd b3 <<< 24) := by
    intro y b1 b2 b3
    rw [stn8_in y b1, ← stn_add 8 8, stn16_in, ← stn_add 16 8, stn24_in, ← stn_add 24 8]
  rw [k1]
  congr 1
  have h := word_le4 x
  generalize wd (UInt8.ofNat (x.toNat / 256)) <<< 8 = b at *
  generalize wd (UInt8.ofNat (x.toNat / 65536)) <<< 16 = c at *
  generalize wd (UInt8.ofNat (x.toNat / 16777216)) <<< 24 = d at *
  generalize wd (UInt8.ofNat x.toNat) = a at *
  rw [← h]; ac_rfl

/-- what the state is behind bytes that were sealed -/
def res : W := stn 32 ones
theorem F_open (bs : List UInt8) (t : List UInt8) (h : t = le4 (sum bs)) : F ones (bs ++ t) = res := by
  subst h
  rw [F_append, F_le4]
  unfold res
  congr 1
  show F ones bs ^^^ ~~~ F (~~~ 0#32) bs = ones
  have e : ~~~ (0#32 : W) = ones := by decide
  rw [e, not_eq]
  have h2 : F ones bs ^^^ (ones ^^^ F ones bs) = ones ^^^ (F ones bs ^^^ F ones bs) := by ac_rfl
  rw [h2, BitVec.xor_self, BitVec.xor_zero]
theorem F_sld (bs : List UInt8) : F ones (sld bs) = res := F_open bs _ rfl

/-! ### turned bits -/
theorem stn8_bit : ∀ r, r < 8 → stn 8 (wd (1 <<< UInt8.ofNat r)) = stn (8 - r) 1#32 := by decide +kernel

theorem stn_bit : ∀ i, i < 32 → stn i ((1#32 : W) <<< i) = 1#32 := by decide +kernel

/-- a bit that is turned turns the state behind all by its own -/
theorem F_flip (v : W) (s : List UInt8) (q r : Nat) (hr : r < 8) (hq : q < s.length) : F v (s.set q (s[q] ^^^ 1 <<< UInt8.ofNat r)) = F v s ^^^ stn (8 * s.length - (8 * q + r)) 1#32 := by
  have e1 : s = s.take q ++ s[q] :: s.drop (q + 1) := by simp
  have e2 : s.set q (s[q] ^^^ 1 <<< UInt8.ofNat r) = s.take q ++ (s[q] ^^^ 1 <<< UInt8.ofNat r) :: s.drop (q + 1) := List.set_eq_take_append_cons_drop.trans (if_pos hq)
  have h3 : F v s = F v (s.take q ++ s[q] :: s.drop (q + 1)) := congrArg (F v) e1
  rw [e2, h3, F_append, F_append, F_cons, F_cons, wd_xor]
  have h4 : F v (s.take q) ^^^ (wd s[q] ^^^ wd (1 <<< UInt8.ofNat r)) = (F v (s.take q) ^^^ wd s[q]) ^^^ wd (1 <<< UInt8.ofNat r) := by ac_rfl
  rw [h4, stn_xor, F_xor, stn8_bit r hr, ← stn_add, List.length_drop]
  congr 2
  omega

theorem stn_turn (N i : Nat) (hi : i < 32) (h : i ≤ N) : stn (N - i) 1#32 = stn N ((1#32 : W) <<< i) := by
  have e : N = i + (N - i) := by omega
  conv => rhs; rw [e]
  rw [stn_add, stn_bit i hi]

/-- the pattern's lowest i bits -/
def mk (p : W) : Nat → W
  | 0 => 0#32
  | i + 1 => bif p.getLsbD i then mk p i ^^^ 1#32 <<< i else mk p i

theorem mk_high (p : W) (i : Nat) : ∀ j, i ≤ j → (mk p i).getLsbD j = false := by
  induction i with
  | zero => intro j _; simp [mk]
  | succ i ih =>
    intro j hj
    simp only [mk]
    cases p.getLsbD i
    · exact ih j (by omega)
    · simp only [cond_true, BitVec.getLsbD_xor, ih j (by omega), BitVec.getLsbD_shiftLeft, BitVec.getLsbD_one]
      have : ¬ (j - i = 0) := by omega
      simp [this]

theorem mk_set (p : W) (i : Nat) (hi : i < 32) (h : p.getLsbD i = true) : mk p (i + 1) ≠ 0#32 := by
  intro h0
  have h1 := congrArg (fun x : W => x.getLsbD i) h0
  simp only [mk, h, cond_true, BitVec.getLsbD_xor, mk_high p i i (Nat.le_refl _), BitVec.getLsbD_shiftLeft, BitVec.getLsbD_zero] at h1
  simp [hi] at h1

end Go.Crc
