/- Numbers as bytes: the contracts of Put and Get (bin and its document's answer), and their laws. -/
import Derived.Test.YtnibnbobmfejhaaDoorByt
set_option linter.unusedVariables false
set_option linter.unusedSimpArgs false
namespace Go.Proofs.YtnibnbobmfejhaaDoor
open Go Go.CW Go.RowKit

/-! ### the plain functions -/
/-- the lowest n bytes of v, the highest first -/
def putL (v : Int) : Nat → List UInt8
  | 0 => []
  | n + 1 => byt (v / (2 : Int) ^ (8 * n)) :: putL v n
def inW (n : Int) : Bool := decide (1 ≤ n) && decide (n ≤ 8)
def putS (bs : List UInt8) (v n : Int) : List UInt8 := bif inW n then bs ++ putL v n.toNat else bs

theorem putL_length (v : Int) (n : Nat) : (putL v n).length = n := by induction n with | zero => rfl | succ n ih => simp [putL, ih]

/-- the byte that a round puts -/
theorem shr_byte (v : Int) (i : Nat) (hi : i < 8) : Value.int .u8 (IntKind.wrap .u8 (Int.fdiv v ((2 : Int) ^ (min (Int.toNat (IntKind.wrap .i64 ((8 : Int) * (i : Int)))) 64)))) = b8 (byt (v / (2 : Int) ^ (8 * i))) := by
  rw [b8_wrap, wi64_id (by omega) (by omega)]
  have e : min (Int.toNat ((8 : Int) * (i : Int))) 64 = 8 * i := by omega
  rw [e, Int.fdiv_eq_ediv_of_nonneg]
  exact Int.pow_nonneg (by omega)

theorem shr_byte_u (v : Int) (i : Nat) (hi : i < 8) : Value.int .u8 (IntKind.wrap .u8 (Int.fdiv v ((2 : Int) ^ (min (Int.toNat (IntKind.wrap .u64 ((8 : Int) * (IntKind.wrap .u64 (i : Int))))) 64)))) = b8 (byt (v / (2 : Int) ^ (8 * i))) := by
  rw [b8_wrap, w64_id (n := (i : Int)) (by omega) (by omega), w64_id (by omega) (by omega)]
  have e : min (Int.toNat ((8 : Int) * (i : Int))) 64 = 8 * i := by omega
  rw [e, Int.fdiv_eq_ediv_of_nonneg]
  exact Int.pow_nonneg (by omega)

/-- the test of a width -/
theorem test_width (n : Int) (j : Bool → World → Prop) (w : World) (hj : ∀ b w', b = !(inW n) ∧ w' = w → j b w') :
    cond (decide (n < (1 : Int))) (j true w) (j (decide (n > (8 : Int))) w) := by
  refine cond_intro (fun h => hj _ _ ⟨?_, rfl⟩) (fun h => hj _ _ ⟨?_, rfl⟩) <;> (rw [Bool.eq_iff_iff]; simp [inW] at h ⊢; omega)

theorem take_putL (x : Int) (n i : Nat) (h : i < n) : (putL x n).take (n - (i + 1)) ++ [byt (x / (2 : Int) ^ (8 * i))] = (putL x n).take (n - i) := by
  induction n with
  | zero => omega
  | succ n ih =>
    by_cases hi : i = n
    · subst hi
      have e1 : i + 1 - (i + 1) = 0 := by omega
      have e2 : i + 1 - i = 1 := by omega
      rw [e1, e2]; simp [putL]
    · have e1 : n + 1 - (i + 1) = (n - (i + 1)) + 1 := by omega
      have e2 : n + 1 - i = (n - i) + 1 := by omega
      rw [e1, e2]
      simp only [putL, List.take_succ_cons, List.cons_append]
      rw [ih (by omega)]

def getB (l : Nat) (at_ n : Int) : Bool := inW n && decide (0 ≤ at_) && decide (at_ + n ≤ l)
/-- the number that bytes are -/
def valL (bs : List UInt8) : Int := bs.foldl (fun (v : Int) c => v * 256 + (c.toNat : Int)) 0
def getV (bs : List UInt8) (at_ n : Int) : Int := bif getB bs.length at_ n then valL ((bs.drop at_.toNat).take n.toNat) else 0

theorem valL_snoc (bs : List UInt8) (c : UInt8) : valL (bs ++ [c]) = valL bs * 256 + (c.toNat : Int) := by simp [valL]
theorem fold_range (bs : List UInt8) : ∀ v M : Int, 0 ≤ v → v < M → 0 ≤ bs.foldl (fun (v : Int) c => v * 256 + (c.toNat : Int)) v ∧ bs.foldl (fun (v : Int) c => v * 256 + (c.toNat : Int)) v < M * 256 ^ bs.length := by
  induction bs with
  | nil => intro v M h0 h1; simp; omega
  | cons c bs ih =>
    intro v M h0 h1
    have hc : c.toNat < 256 := c.toNat_lt
    have h := ih (v * 256 + (c.toNat : Int)) (M * 256) (by omega) (by omega)
    rw [List.foldl_cons, List.length_cons, Int.pow_succ, Int.mul_comm (256 ^ bs.length), ← Int.mul_assoc]
    exact h
theorem valL_range (bs : List UInt8) : 0 ≤ valL bs ∧ valL bs < 256 ^ bs.length := by
  have h := fold_range bs 0 1 (by omega) (by omega)
  rw [Int.one_mul] at h
  exact h

/-- a byte is put below a number -/
theorem or_byte {n : Int} {c : UInt8} (h0 : 0 ≤ n) (h1 : n < 72057594037927936) : bitsI .or .u64 (IntKind.wrap .u64 (n * (256 : Int))) (IntKind.wrap .u64 (c.toNat : Int)) = n * 256 + (c.toNat : Int) := by
  have hc : c.toNat < 256 := c.toNat_lt
  rw [w64_id (n := n * 256) (by omega) (by omega), w64_id (n := (c.toNat : Int)) (by omega) (by omega)]
  obtain ⟨m, rfl⟩ := Int.eq_ofNat_of_zero_le h0
  have hb : IntKind.bits .u64 = 64 := rfl
  have e : (BitVec.ofInt 64 ((m : Int) * 256) ||| BitVec.ofInt 64 (c.toNat : Int)).toNat = m * 256 + c.toNat := by
    have e1 : (BitVec.ofInt 64 ((m : Int) * 256)) = BitVec.ofNat 64 (m * 256) := by rw [← BitVec.ofInt_natCast]; rfl
    have e2 : (BitVec.ofInt 64 (c.toNat : Int)) = BitVec.ofNat 64 c.toNat := by rw [← BitVec.ofInt_natCast]
    rw [e1, e2, BitVec.toNat_or, BitVec.toNat_ofNat, BitVec.toNat_ofNat, Nat.mod_eq_of_lt (by omega), Nat.mod_eq_of_lt (by omega)]
    have h8 := Nat.two_pow_add_eq_or_of_lt (i := 8) (b := c.toNat) (by omega) m
    have h9 : 2 ^ 8 * m = m * 256 := by omega
    rw [h9] at h8
    omega
  show IntKind.wrap .u64 ((BitVec.ofInt 64 ((m : Int) * 256) ||| BitVec.ofInt 64 (c.toNat : Int)).toNat : Int) = _
  rw [e, w64_id (by omega) (by omega)]
  omega

theorem take_snoc (bs : List UInt8) (i : Nat) (h : i < bs.length) : bs.take (i + 1) = bs.take i ++ [bs[i]] := by
  rw [List.take_add_one, List.getElem?_eq_getElem h]; rfl

theorem pow256 {a b : Nat} (h : a ≤ b) : (256 : Int) ^ a ≤ 256 ^ b := by
  have h1 := Int.ofNat_le.2 (Nat.pow_le_pow_right (n := 256) (by omega) h)
  rw [Int.natCast_pow, Int.natCast_pow] at h1
  exact h1

theorem val_lt7 (bs : List UInt8) (i : Nat) (hi : i < 8) (hl : i ≤ bs.length) : 0 ≤ valL (bs.take i) ∧ valL (bs.take i) < 72057594037927936 := by
  have h := valL_range (bs.take i)
  have hle : (256 : Int) ^ (bs.take i).length ≤ 256 ^ 7 := pow256 (by rw [List.length_take]; omega)
  have h7 : (256 : Int) ^ 7 = 72057594037927936 := rfl
  rw [h7] at hle
  exact ⟨h.1, Int.lt_of_lt_of_le h.2 hle⟩

theorem pow2_256 (n : Nat) : (2 : Int) ^ (8 * n) = 256 ^ n := by rw [Int.pow_mul]; rfl

theorem fold_putL (v : Int) (hv : 0 ≤ v) (n : Nat) : ∀ acc : Int, (putL v n).foldl (fun (v : Int) c => v * 256 + (c.toNat : Int)) acc = acc * 256 ^ n + v % 256 ^ n := by
  obtain ⟨m, rfl⟩ := Int.eq_ofNat_of_zero_le hv
  induction n with
  | zero => intro acc; simp [putL, Int.emod_one]
  | succ n ih =>
    intro acc
    rw [putL, List.foldl_cons, ih, byt_toNat, pow2_256]
    have h1 : ((m : Int) % 256 ^ (n + 1)) = (m : Int) % 256 ^ n + 256 ^ n * ((m : Int) / 256 ^ n % 256) := by
      have h2 := Nat.mod_mul (x := m) (a := 256 ^ n) (b := 256)
      have h3 := congrArg (Nat.cast : Nat → Int) h2
      simp only [Int.natCast_emod, Int.natCast_mul, Int.natCast_add, Int.natCast_pow, Int.natCast_ediv] at h3
      rw [Int.pow_succ]
      exact h3
    rw [h1, Int.pow_succ, Int.add_mul, Int.mul_assoc, Int.mul_comm 256 (256 ^ n), Int.mul_comm ((m : Int) / 256 ^ n % 256)]
    omega

theorem valL_putL (v : Int) (hv : 0 ≤ v) (n : Nat) : valL (putL v n) = v % 256 ^ n := by
  have h := fold_putL v hv n 0
  rw [Int.zero_mul, Int.zero_add] at h
  exact h

/-- numbers that are one up to a power of 256 have the same low bytes -/
theorem putL_add (x a : Int) : ∀ n : Nat, putL (x + a * 256 ^ n) n = putL x n := by
  have key : ∀ (n m : Nat) (a : Int), n ≤ m → putL (x + a * 256 ^ m) n = putL x n := by
    intro n
    induction n with
    | zero => intro m a _; rfl
    | succ n ih =>
      intro m a hm
      simp only [putL]
      rw [ih m a (by omega)]
      congr 1
      have hp : (256 : Int) ^ m = 256 ^ n * (256 * 256 ^ (m - n - 1)) := by
        have e : m = n + (1 + (m - n - 1)) := by omega
        conv => lhs; rw [e]
        rw [Int.pow_add, Int.pow_add]
        rfl
      have hpos : (0 : Int) < 256 ^ n := Int.pow_pos (by omega)
      rw [pow2_256, hp]
      have e2 : x + a * (256 ^ n * (256 * 256 ^ (m - n - 1))) = x + 256 ^ n * (256 * (a * 256 ^ (m - n - 1))) := by
        congr 1
        rw [Int.mul_left_comm]
        congr 1
        rw [Int.mul_left_comm]
      rw [e2, Int.add_mul_ediv_left _ _ (by omega)]
      unfold byt
      congr 2
      omega
  intro n
  exact key n n a (Nat.le_refl _)

theorem valL_cons (c : UInt8) (l : List UInt8) : valL (c :: l) = (c.toNat : Int) * 256 ^ l.length + valL l := by
  have key : ∀ (l : List UInt8) (v : Int), l.foldl (fun (v : Int) c => v * 256 + (c.toNat : Int)) v = v * 256 ^ l.length + valL l := by
    intro l
    induction l with
    | nil => intro v; simp [valL]
    | cons d l ih =>
      intro v
      have h1 := ih (v * 256 + (d.toNat : Int))
      have h2 := ih (d.toNat : Int)
      simp only [List.foldl_cons]
      rw [h1]
      have h3 : valL (d :: l) = (d.toNat : Int) * 256 ^ l.length + valL l := by
        unfold valL at h2 ⊢
        simp only [List.foldl_cons]
        have e : (0 : Int) * 256 + (d.toNat : Int) = (d.toNat : Int) := by omega
        rw [e]; exact h2
      rw [h3, List.length_cons, Int.pow_succ, Int.add_mul, Int.mul_assoc, Int.mul_comm 256]
      omega
  unfold valL
  simp only [List.foldl_cons]
  have e : (0 : Int) * 256 + (c.toNat : Int) = (c.toNat : Int) := by omega
  rw [e]; exact key l _

/-- a number's bytes are those it was read of -/
theorem putL_valL : ∀ l : List UInt8, putL (valL l) l.length = l
  | [] => rfl
  | c :: l => by
    have hr := valL_range l
    have hpos : (0 : Int) < 256 ^ l.length := Int.pow_pos (by omega)
    rw [List.length_cons, valL_cons]
    simp only [putL]
    rw [pow2_256]
    have e1 : ((c.toNat : Int) * 256 ^ l.length + valL l) / 256 ^ l.length = (c.toNat : Int) := by
      rw [Int.add_comm, Int.add_mul_ediv_right _ _ (by omega), Int.ediv_eq_zero_of_lt hr.1 hr.2]; omega
    have e2 : byt (c.toNat : Int) = c := by
      apply UInt8.toNat_inj.1
      have := byt_toNat (c.toNat : Int)
      have := c.toNat_lt
      omega
    rw [e1, e2, Int.add_comm, putL_add, putL_valL l]

/-- what was put there is read -/
theorem getV_at {pre post : List UInt8} {x : Int} {n : Nat} (hx : 0 ≤ x) (hn : 1 ≤ n ∧ n ≤ 8) {a : Int} (ha : a = (pre.length : Int)) : getV (pre ++ putL x n ++ post) a (n : Int) = x % 256 ^ n := by
  have hb : getB (pre ++ putL x n ++ post).length a (n : Int) = true := by
    simp only [getB, inW, Bool.and_eq_true, decide_eq_true_eq, List.length_append, putL_length]
    omega
  have e1 : (((pre ++ putL x n ++ post).drop a.toNat).take ((n : Int).toNat)) = putL x n := by
    have : a.toNat = pre.length := by omega
    rw [this, Int.toNat_natCast, List.append_assoc, List.drop_left, List.take_left' (putL_length x n)]
  simp only [getV, hb, cond_true]
  rw [e1, valL_putL x hx]

/-- and what is read there is put there again -/
theorem putL_get {bs : List UInt8} {a n : Nat} (hn : 1 ≤ n ∧ n ≤ 8) (h : a + n ≤ bs.length) : putL (getV bs (a : Int) (n : Int)) n = (bs.drop a).take n := by
  have hb : getB bs.length (a : Int) (n : Int) = true := by
    simp only [getB, inW, Bool.and_eq_true, decide_eq_true_eq]; omega
  simp only [getV, hb, cond_true, Int.toNat_natCast]
  have hl : ((bs.drop a).take n).length = n := by simp; omega
  have := putL_valL ((bs.drop a).take n)
  rw [hl] at this; exact this

theorem getV_range (bs : List UInt8) (a n : Int) : 0 ≤ getV bs a n ∧ getV bs a n < 256 ^ n.toNat := by
  unfold getV
  cases h : getB bs.length a n
  · simp only [cond_false]
    exact ⟨by omega, Int.pow_pos (by omega)⟩
  · simp only [cond_true]
    have h1 := valL_range ((bs.drop a.toNat).take n.toNat)
    refine ⟨h1.1, Int.lt_of_lt_of_le h1.2 (pow256 ?_)⟩
    rw [List.length_take]; omega

end Go.Proofs.YtnibnbobmfejhaaDoor
