/- Decimal digits; the statement TextNumbers' contract. -/
import Derived.Test.YtnibnbobmfejhaaDoorTxtH
set_option linter.unusedVariables false
set_option linter.unusedSimpArgs false
set_option maxRecDepth 100000
namespace Go.Proofs.YtnibnbobmfejhaaDoor
open Go Go.CW Go.RowKit

theorem and15_i64 {x : Int} (h0 : 0 ≤ x) (h1 : x < 4611686018427387904) : bitsI .and .i64 x 15 = x % 16 := by
  obtain ⟨m, rfl⟩ := Int.eq_ofNat_of_zero_le h0
  have e : (BitVec.ofInt 64 (m : Int) &&& BitVec.ofInt 64 (15 : Int)).toNat = m % 16 := by
    have e1 : (BitVec.ofInt 64 (m : Int)) = BitVec.ofNat 64 m := by rw [← BitVec.ofInt_natCast]
    have e2 : (BitVec.ofInt 64 (15 : Int)) = BitVec.ofNat 64 15 := by decide
    rw [e1, e2, BitVec.toNat_and, BitVec.toNat_ofNat, BitVec.toNat_ofNat, Nat.mod_eq_of_lt (by omega), Nat.mod_eq_of_lt (by omega)]
    exact Nat.and_two_pow_sub_one_eq_mod m 4
  show IntKind.wrap .i64 ((BitVec.ofInt 64 (m : Int) &&& BitVec.ofInt 64 (15 : Int)).toNat : Int) = _
  rw [e, wi64_id (by omega) (by omega)]
  omega

/-! ### one digit, as a text -/
theorem dig_text {w w' : World} {n : Int} (h0 : 0 ≤ n) (h1 : n < 4611686018427387904) (e : w' = World.alloc w (.cells #[.int .u8 (IntKind.wrap .u8 (IntKind.wrap .i64 ((48 : Int) + (Int.tmod n (10 : Int)))))] tb)) :
    Sem.run Tryd.prog (convert tB tS (.slice (some ⟨w.heap.size, 0, none⟩) 1 1)) w' = .ok (.string (textOf [UInt8.ofNat (48 + n.toNat % 10)])) w' ∧ Grow w w' := by
  obtain ⟨m, rfl⟩ := Int.eq_ofNat_of_zero_le h0
  have e1 : IntKind.wrap .u8 (IntKind.wrap .i64 ((48 : Int) + (Int.tmod (m : Int) (10 : Int)))) = ((48 + m % 10 : Nat) : Int) := by
    have : Int.tmod (m : Int) 10 = ((m % 10 : Nat) : Int) := by rw [Int.tmod_eq_emod_of_nonneg (by omega)]; omega
    rw [this, wi64_id (by omega) (by omega), w8_id (by omega) (by omega)]; omega
  have e2 : Value.int .u8 ((48 + m % 10 : Nat) : Int) = b8 (UInt8.ofNat (48 + m % 10)) := by
    show Value.int .u8 _ = Value.int .u8 _
    rw [u8of _ (by omega)]
  rw [e1, e2] at e
  obtain ⟨b, g, _⟩ := alE e
  refine ⟨?_, g⟩
  have r : RdB w' (.slice (some ⟨w.heap.size, 0, none⟩) 1 1) [UInt8.ofNat (48 + m % 10)] := by
    refine ⟨some ⟨w.heap.size, 0, none⟩, 1, by simp, by simp, by simp [maxLen], (fun h => (by cases h)), fun i u hi => ⟨_, rfl, ?_⟩⟩
    rw [b.cell]
    rw [← hi]
    simp
  exact to_text r

theorem digits_split (u : Nat) : Lib.decDigits u = (if u < 10 then [] else Lib.decDigits (u / 10)) ++ [UInt8.ofNat (48 + u % 10)] := by
  conv => lhs; rw [Lib.decDigits]
  by_cases h : u < 10
  · rw [dif_pos h, if_pos h, Nat.mod_eq_of_lt h]; rfl
  · rw [dif_neg h, if_neg h]

theorem digits_len (u : Nat) (h : u < 4611686018427387904) : (Lib.decDigits u).length ≤ 21 := by
  have h1 := Lib.itoa_length_le (u : Int) (by omega) (by omega)
  have h2 : Lib.itoa (u : Int) = Lib.decDigits u := by unfold Lib.itoa; rw [if_neg (by omega)]; congr 1
  rw [h2] at h1; exact h1

theorem decimal_c {w : World} {n : Nat} {R : KV} (h1 : n < 4611686018427387904) (k : ∀ w', Grow w w' → R (.string (textOf (Lib.decDigits n))) w') :
    Go.CW.Spec Tryd.prog 8 #[.int .i64 (n : Int)] w R := by
  apply gemellaw3_decimal_wp
  refine nm fun w0 e0 => ?_
  obtain ⟨k0, g0⟩ := dig_text (n := (n : Int)) (by omega) (by omega) e0
  have hl := digits_len n h1
  refine ⟨_, k0, ?_⟩
  refine ⟨fun (v : Int) (s : ByteArray) (ww : World) => ∃ (q : Nat) (t : List UInt8), v = (q : Int) ∧ q < 4611686018427387904 ∧ s = textOf t ∧ Lib.decDigits n = (if q < 10 then [] else Lib.decDigits (q / 10)) ++ t ∧ Grow w ww, fun (v : Int) (s : ByteArray) (ww : World) => v.toNat, ?_, ?_⟩
  · dsimp only
    refine ⟨n, _, rfl, h1, rfl, ?_, g0⟩
    have : ((n : Nat) : Int).toNat = n := by omega
    rw [this]; exact digits_split n
  · dsimp only [allR, mapR2, eqN, ltN]
    rintro m v s ww ⟨⟨q, t, rfl, hq, rfl, ht, g⟩, hm⟩
    refine cond_intro (fun h2 => ?_) (fun h2 => ?_)
    · simp at h2
      have e1 : IntKind.wrap .i64 (Int.tdiv (q : Int) (10 : Int)) = ((q / 10 : Nat) : Int) := by
        have : Int.tdiv (q : Int) 10 = ((q / 10 : Nat) : Int) := by rw [Int.tdiv_eq_ediv_of_nonneg (by omega)]; omega
        rw [this, wi64_id (by omega) (by omega)]
      rw [e1]
      refine nm fun w6 e6 => ?_
      obtain ⟨k6, g6⟩ := dig_text (n := ((q / 10 : Nat) : Int)) (by omega) (by omega) e6
      have e3 : (((q / 10 : Nat) : Int)).toNat = q / 10 := by omega
      rw [e3] at k6
      have htl : t.length ≤ 21 := by
        have := congrArg List.length ht
        rw [List.length_append] at this
        omega
      refine ⟨_, k6, by simp only [textOf_size]; simp; omega, ⟨q / 10, _, rfl, by omega, textOf_app _ _, ?_, g.then g6⟩, by omega⟩
      rw [ht, if_neg (by omega), digits_split (q / 10), List.append_assoc]
    · simp at h2
      have hq10 : q < 10 := by omega
      rw [if_pos hq10, List.nil_append] at ht
      rw [← ht]
      exact k _ g

/-! ### the law -/
theorem digits_head (u : Nat) (h : 10 ≤ u) : ∃ c r, Lib.decDigits u = c :: r ∧ c ≠ 48 ∧ r ≠ [] := by
  induction u using Nat.strongRecOn with
  | _ u ih =>
    rw [Lib.decDigits, dif_neg (by omega)]
    by_cases h2 : u / 10 < 10
    · refine ⟨UInt8.ofNat (48 + u / 10), [UInt8.ofNat (48 + u % 10)], by rw [Lib.decDigits, dif_pos h2]; rfl, fun e => ?_, by simp⟩
      have := congrArg UInt8.toNat e
      rw [u8of _ (by omega)] at this
      have h48 : (48 : UInt8).toNat = 48 := rfl
      omega
    · obtain ⟨c, r, h3, h4, h5⟩ := ih (u / 10) (by omega) (by omega)
      exact ⟨c, r ++ [UInt8.ofNat (48 + u % 10)], by rw [h3]; rfl, h4, by simp⟩

theorem digits_len_le (u k : Nat) (hk : 1 ≤ k) (h : u < 10 ^ k) : (Lib.decDigits u).length ≤ k := by
  induction k generalizing u with
  | zero => omega
  | succ k ih =>
    rw [Lib.decDigits]
    by_cases h2 : u < 10
    · rw [dif_pos h2]; simp
    · rw [dif_neg h2, List.length_append]
      cases k with
      | zero => simp at h; omega
      | succ k =>
        have := ih (u / 10) (by omega) (by rw [Nat.pow_succ] at h; omega)
        simp; omega

theorem digits_not_x (u : Nat) : ∀ c ∈ Lib.decDigits u, decD c = true := fun c hc => by
  have := digits_dig u c hc
  unfold decD; simp; omega

theorem valD_digits (u : Nat) : valD 10 (Lib.decDigits u) = u := by
  conv => rhs; rw [← decV_digits u]
  unfold valD decV
  have key : ∀ (l : List UInt8) (v : Nat), (∀ c ∈ l, decD c = true) → l.foldl (fun v c => v * 10 + digN c) v = l.foldl (fun v c => v * 10 + (c.toNat - 48)) v := by
    intro l
    induction l with
    | nil => intros; rfl
    | cons c l ih =>
      intro v h
      have hc := h c (by simp)
      unfold decD at hc
      simp at hc
      simp only [List.foldl_cons]
      have e : digN c = c.toNat - 48 := by unfold digN; rw [decide_eq_true (by omega), cond_true]
      rw [e]
      exact ih _ fun x hx => h x (by simp [hx])
  exact key _ 0 (digits_not_x u)

theorem hexL_not {l : List UInt8} (h : l.getD 0 0 ≠ 48 ∨ l.getD 1 0 ≠ 120) : hexL l = false := by
  unfold hexL hasP
  cases l with
  | nil => rfl
  | cons a l =>
    cases l with
    | nil => rfl
    | cons b l =>
      simp at h ⊢
      intro e1 e2
      rcases h with h | h
      · exact h e1
      · exact h e2

theorem dec_getD (u i : Nat) (hi : i < (Lib.decDigits u).length) : decD ((Lib.decDigits u).getD i 0) = true := by
  have : (Lib.decDigits u).getD i 0 = (Lib.decDigits u)[i]'hi := by simp [List.getD, hi]
  rw [this]
  exact digits_not_x u _ (List.getElem_mem _)

theorem isN_digits {n : Nat} (hn : n ≤ 999999999) : isN (Lib.decDigits n) = true ∧ numN (Lib.decDigits n) = n := by
  have hne := digits_nil_not n
  have hx : hexL (Lib.decDigits n) = false := by
    refine hexL_not ?_
    by_cases h : 1 < (Lib.decDigits n).length
    · right
      intro e
      have := dec_getD n 1 h
      rw [e] at this
      exact absurd this (by decide)
    · right
      intro e
      have hq : (Lib.decDigits n).getD 1 0 = 0 := by simp [List.getD, List.getElem?_eq_none (show (Lib.decDigits n).length ≤ 1 by omega)]
      rw [hq] at e
      exact absurd e (by decide)
  have h9 := digits_len_le n 9 (by omega) (by omega)
  have e1 : tailL (Lib.decDigits n) = Lib.decDigits n := by unfold tailL; rw [hx]; rfl
  have e2 : baseL (Lib.decDigits n) = 10 := by unfold baseL; rw [hx]; rfl
  have e3 : mostL (Lib.decDigits n) = 9 := by unfold mostL; rw [hx]; rfl
  have hz : (decide (1 < (Lib.decDigits n).length) && (Lib.decDigits n).getD 0 0 == 48) = false := by
    by_cases h : 10 ≤ n
    · obtain ⟨c, r, h3, h4, _⟩ := digits_head n h
      rw [h3]
      simp [h4]
    · have : (Lib.decDigits n).length = 1 := by rw [Lib.decDigits, dif_pos (by omega)]; rfl
      rw [this]; rfl
  have ha : (Lib.decDigits n).all (okD ((10 : Nat) : Int)) = true := List.all_eq_true.2 fun c hc => by
    unfold okD; rw [digits_not_x n c hc]; rfl
  have hN : isN (Lib.decDigits n) = true := by
    unfold isN
    rw [hx, hz, e1, e2, e3, ha]
    have : (Lib.decDigits n).isEmpty = false := by simpa using hne
    rw [this, decide_eq_true h9]
    rfl
  exact ⟨hN, by unfold numN; rw [hN, e1, e2, cond_true]; exact valD_digits n⟩

theorem isN_zero (n : Nat) : isN (48 :: Lib.decDigits n) = false := by
  have hne := digits_nil_not n
  have hl := List.length_pos_iff.2 hne
  have hx : hexL (48 :: Lib.decDigits n) = false := by
    refine hexL_not (.inr fun e => ?_)
    have := dec_getD n 0 hl
    have e2 : (48 :: Lib.decDigits n).getD 1 0 = (Lib.decDigits n).getD 0 0 := by simp [List.getD]
    rw [e2] at e
    rw [e] at this
    exact absurd this (by decide)
  unfold isN
  have : decide (1 < (48 :: Lib.decDigits n).length) = true := by simp; omega
  rw [hx, this]
  rfl

theorem isN_other (n : Nat) (c : UInt8) (hc : c ≠ 48) (h2 : okD 10 c = false) : isN (c :: Lib.decDigits n) = false := by
  have hx : hexL (c :: Lib.decDigits n) = false := hexL_not (.inl (by simpa [List.getD] using hc))
  have e1 : tailL (c :: Lib.decDigits n) = c :: Lib.decDigits n := by unfold tailL; rw [hx]; rfl
  have e2 : baseL (c :: Lib.decDigits n) = 10 := by unfold baseL; rw [hx]; rfl
  unfold isN
  rw [e1, e2]
  have : (c :: Lib.decDigits n).all (okD ((10 : Nat) : Int)) = false := by
    rw [List.all_cons]
    have : okD ((10 : Nat) : Int) c = false := h2
    rw [this]; rfl
  rw [this]
  simp

/-! ### hexadecimal -/
theorem valD_cons (b : Nat) (c : UInt8) (l : List UInt8) : valD b (c :: l) = digN c * b ^ l.length + valD b l := by
  have key : ∀ (l : List UInt8) (v : Nat), l.foldl (fun v c => v * b + digN c) v = v * b ^ l.length + valD b l := by
    intro l
    induction l with
    | nil => intro v; simp [valD]
    | cons d l ih =>
      intro v
      have h1 := ih (v * b + digN d)
      have h2 := ih (0 * b + digN d)
      have h3 : valD b (d :: l) = digN d * b ^ l.length + valD b l := by
        have : valD b (d :: l) = l.foldl (fun v c => v * b + digN c) (0 * b + digN d) := rfl
        rw [this, h2, Nat.zero_mul, Nat.zero_add]
      rw [List.foldl_cons, h1, h3, List.length_cons, Nat.pow_succ, Nat.add_mul, Nat.mul_assoc, Nat.mul_comm b]
      omega
  have : valD b (c :: l) = l.foldl (fun v c => v * b + digN c) (0 * b + digN c) := rfl
  rw [this, key, Nat.zero_mul, Nat.zero_add]

def loD : List UInt8 := [48, 49, 50, 51, 52, 53, 54, 55, 56, 57, 97, 98, 99, 100, 101, 102]
def upD : List UInt8 := [48, 49, 50, 51, 52, 53, 54, 55, 56, 57, 65, 66, 67, 68, 69, 70]
theorem lo_fact : ∀ d, d < 16 → (loD.drop d).take 1 = [loD.getD d 0] ∧ okD 16 (loD.getD d 0) = true ∧ digN (loD.getD d 0) = d := by decide +kernel
theorem up_fact : ∀ d, d < 16 → (upD.drop d).take 1 = [upD.getD d 0] ∧ okD 16 (upD.getD d 0) = true ∧ digN (upD.getD d 0) = d := by decide +kernel

theorem isN_hex {l : List UInt8} (h0 : l ≠ []) (h1 : l.length ≤ 7) (ha : l.all (okD 16) = true) : isN (48 :: 120 :: l) = true ∧ numN (48 :: 120 :: l) = valD 16 l := by
  have hx : hexL (48 :: 120 :: l) = true := by unfold hexL hasP; simp
  have e1 : tailL (48 :: 120 :: l) = l := by unfold tailL; rw [hx]; rfl
  have e2 : baseL (48 :: 120 :: l) = 16 := by unfold baseL; rw [hx]; rfl
  have e3 : mostL (48 :: 120 :: l) = 7 := by unfold mostL; rw [hx]; rfl
  have ha' : l.all (okD ((16 : Nat) : Int)) = true := ha
  have hN : isN (48 :: 120 :: l) = true := by
    unfold isN
    rw [hx, e1, e2, e3, ha']
    have : l.isEmpty = false := by simpa using h0
    rw [this, decide_eq_true h1]
    rfl
  exact ⟨hN, by unfold numN; rw [hN, e1, e2]; rfl⟩

theorem textNumbers_s {w : World} (hE : Env w) {p : Int} (hp : Fits .i64 p) : Go.CW.Spec Tryd.prog 3 #[.int .i64 p] w (Law w) := by
  apply gemellaw3_TextNumbers_wp
  refine (known_s hE).mono fun v w1 ⟨hv, g1⟩ => ⟨true, hv, cond_f rfl ?_⟩
  have hp' := hp.i64
  refine JoinP.bool (fun x w' => x = (decide (p < 0) || decide (p > 999999999)) ∧ w' = w1) (fun j hj => cond_intro (fun h => hj _ _ ⟨by rw [h]; rfl, rfl⟩) (fun h => hj _ _ ⟨by rw [h]; rfl, rfl⟩)) ?_
  rintro x w4 ⟨rfl, rfl⟩
  refine cond_intro (fun h => ⟨rfl, g1⟩) (fun h => ?_)
  simp at h
  obtain ⟨n, rfl⟩ := Int.eq_ofNat_of_zero_le (show 0 ≤ p by omega)
  have hn : n ≤ 999999999 := by omega
  obtain ⟨i1, i2⟩ := isN_digits hn
  have hlen := digits_len n (by omega)
  refine decimal_c (by omega) fun w6 g6 => ⟨_, rfl, Number_c (by omega) fun w9 g9 => ⟨_, _, rfl, ?_⟩⟩
  have gg := (g1.then g6).then g9
  rw [i1, i2]
  refine JoinP.bool (fun x w' => x = false ∧ w' = w9) (fun j hj => cond_f rfl (hj _ _ ⟨by simp, rfl⟩)) ?_
  rintro x w13 ⟨rfl, rfl⟩
  refine cond_f rfl ?_
  refine JoinP.unit (fun w' => Grow w w') (fun j hj => ?_) ?_
  · refine cond_intro (fun h7 => ?_) (fun h7 => hj _ gg)
    have h7' : n < 268435456 := by simp at h7; omega
    refine ⟨fun (s : ByteArray) (u : ByteArray) (v : Int) (ww : World) => ∃ (q : Nat) (t y : List UInt8), v = (q : Int) ∧ s = textOf t ∧ u = textOf y ∧ t.length = y.length ∧ t.all (okD 16) = true ∧ y.all (okD 16) = true ∧ n = q * 16 ^ t.length + valD 16 t ∧ valD 16 t = valD 16 y ∧ (t = [] ∨ 0 < q) ∧ Grow w ww, fun (s : ByteArray) (u : ByteArray) (v : Int) (ww : World) => v.toNat, ?_, ?_⟩
    · dsimp only
      exact ⟨n, [], [], rfl, rfl, rfl, rfl, rfl, rfl, by simp [valD], rfl, .inl rfl, gg⟩
    · dsimp only [allR, mapR2, eqN, ltN]
      rintro m s u v ww ⟨⟨q, t, y, rfl, rfl, rfl, hty, ht, hy, hq, hvy, hor, g⟩, hm⟩
      have hqn : q ≤ n := by
        have : q * 1 ≤ q * 16 ^ t.length := Nat.mul_le_mul_left _ (Nat.one_le_pow _ _ (by omega))
        omega
      have h6 : t.length ≤ 6 := by
        rcases hor with h | h
        · rw [h]; simp
        · refine Nat.le_of_not_lt fun hlt => ?_
          have h8 : 16 ^ 7 ≤ 16 ^ t.length := Nat.pow_le_pow_right (by omega) hlt
          have h9 : 1 * 16 ^ t.length ≤ q * 16 ^ t.length := Nat.mul_le_mul_right _ h
          have h10 : (16 : Nat) ^ 7 = 268435456 := by decide
          omega
      have ea : bitsI .and .i64 (q : Int) 15 = ((q % 16 : Nat) : Int) := by rw [and15_i64 (by omega) (by omega)]; omega
      have eb : IntKind.wrap .i64 (((q % 16 : Nat) : Int) + 1) = ((q % 16 : Nat) : Int) + 1 := wi64_id (by omega) (by omega)
      have ef : Int.fdiv (q : Int) 16 = ((q / 16 : Nat) : Int) := by rw [Int.fdiv_eq_ediv_of_nonneg _ (by omega)]; omega
      rw [ea, eb, ef]
      obtain ⟨l1, l2, l3⟩ := lo_fact (q % 16) (by omega)
      obtain ⟨u1, u2, u3⟩ := up_fact (q % 16) (by omega)
      have hb := bounds_ii (k := .i64) (k' := .i64) (a := ((q % 16 : Nat) : Int)) (b := ((q % 16 : Nat) : Int) + 1) (len := 16) (cap := 16) (by omega) (by omega) (by omega)
      have t1 : (((q % 16 : Nat) : Int)).toNat = q % 16 := by omega
      have t2 : (((q % 16 : Nat) : Int) + 1).toNat = q % 16 + 1 := by omega
      rw [t1, t2] at hb
      have x1 : ByteArray.extract (ByteArray.mk #[48, 49, 50, 51, 52, 53, 54, 55, 56, 57, 97, 98, 99, 100, 101, 102]) (q % 16) (q % 16 + 1) = textOf [loD.getD (q % 16) 0] := by
        show (textOf loD).extract _ _ = _
        rw [text_extract, show q % 16 + 1 - q % 16 = 1 by omega, l1]
      have x2 : ByteArray.extract (ByteArray.mk #[48, 49, 50, 51, 52, 53, 54, 55, 56, 57, 65, 66, 67, 68, 69, 70]) (q % 16) (q % 16 + 1) = textOf [upD.getD (q % 16) 0] := by
        show (textOf upD).extract _ _ = _
        rw [text_extract, show q % 16 + 1 - q % 16 = 1 by omega, u1]
      generalize loD.getD (q % 16) 0 = lc at *
      generalize upD.getD (q % 16) 0 = uc at *
      refine ⟨_, _, _, hb, ?_⟩
      rw [x1]
      refine ⟨by simp only [textOf_size]; simp; omega, _, _, _, hb, ?_⟩
      rw [x2, textOf_app, textOf_app]
      refine ⟨by simp only [textOf_size]; simp; omega, ?_⟩
      have hv : n = q / 16 * 16 ^ (lc :: t).length + valD 16 (lc :: t) := by
        rw [valD_cons, l3, List.length_cons, Nat.pow_succ, hq]
        have : q * 16 ^ t.length = (q / 16 * 16 + q % 16) * 16 ^ t.length := by congr 1; omega
        rw [this, Nat.add_mul, Nat.mul_assoc, Nat.mul_comm 16]
        omega
      have hvv : valD 16 (lc :: t) = valD 16 (uc :: y) := by rw [valD_cons, valD_cons, l3, u3, hty, hvy]
      have a1 : (lc :: t).all (okD 16) = true := by rw [List.all_cons, l2, ht]; rfl
      have a2 : (uc :: y).all (okD 16) = true := by rw [List.all_cons, u2, hy]; rfl
      refine cond_intro (fun h8 => ?_) (fun h8 => ?_)
      · simp at h8
        have hq0 : q / 16 = 0 := by omega
        rw [hq0, Nat.zero_mul, Nat.zero_add] at hv
        rw [mk_text #[48, 120], textOf_app, textOf_app]
        obtain ⟨n1, n2⟩ := isN_hex (l := lc :: t) (by simp) (by simp; omega) a1
        obtain ⟨n3, n4⟩ := isN_hex (l := uc :: y) (by simp) (by simp; omega) a2
        refine ⟨by simp only [textOf_size]; simp; omega, Number_c (l := 48 :: 120 :: lc :: t) (by simp; omega) fun w43 g43 => ⟨_, _, rfl, by simp only [textOf_size]; simp; omega, Number_c (l := 48 :: 120 :: uc :: y) (by simp; omega) fun w47 g47 => ⟨_, _, rfl, ?_⟩⟩⟩
        rw [n1, n2, n3, n4, ← hvv, ← hv]
        refine JoinP.bool (fun x w' => x = false ∧ w' = w47) (fun j hj2 => cond_f rfl (cond_f rfl (cond_f (by simp) (hj2 _ _ ⟨by simp, rfl⟩)))) ?_
        rintro x w51 ⟨rfl, rfl⟩
        exact cond_f rfl (hj _ ((g.then g43).then g47))
      · simp at h8
        refine ⟨⟨q / 16, lc :: t, uc :: y, rfl, rfl, rfl, by simp [hty], a1, a2, hv, hvv, .inr (by omega), g⟩, by omega⟩
  intro w14 g14
  have c1 := isN_zero n
  have c2 := isN_other n 45 (by decide) (by decide)
  have c3 := isN_other n 32 (by decide) (by decide)
  rw [mk_text #[48], mk_text #[45], mk_text #[32], textOf_app, textOf_app, textOf_app]
  have hsz : 1 + (textOf (Lib.decDigits n)).size ≤ 9223372036854775807 := by rw [textOf_size]; omega
  refine ⟨hsz, Number_c (l := 48 :: Lib.decDigits n) (by simp; omega) fun w16 g16 => ⟨_, _, rfl, hsz, Number_c (l := 45 :: Lib.decDigits n) (by simp; omega) fun w20 g20 => ⟨_, _, rfl, hsz, Number_c (l := 32 :: Lib.decDigits n) (by simp; omega) fun w24 g24 => ⟨_, _, rfl, ?_⟩⟩⟩⟩
  rw [c1, c2, c3]
  exact JoinP.go (cond_t rfl (cond_t rfl ⟨rfl, ((g14.then g16).then g20).then g24⟩))

end Go.Proofs.YtnibnbobmfejhaaDoor
