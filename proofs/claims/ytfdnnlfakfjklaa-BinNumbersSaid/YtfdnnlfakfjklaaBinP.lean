/- The contracts of the numbers' functions (bin and its document's answer). -/
import Derived.Test.YtfdnnlfakfjklaaLib
import Derived.Test.YtfdnnlfakfjklaaGBin
set_option linter.unusedVariables false
set_option linter.unusedSimpArgs false
namespace Go.Proofs.Ytfdnnlfakfjklaa
open Go Go.CW Go.RowKit

abbrev tB : TypeId := 22
abbrev tb : TypeId := 5
theorem tyB : SlTy Try.prog tB tb 1 := SlTy.of (by kernel_rfl)

/-- one byte behind what is owned -/
theorem app_byte {w : World} {B : Nat} {v : Value} {bs : List UInt8} (ho : OwnB w B tb v bs) (hB : B ≤ w.heap.size) (n : Int) (x : UInt8) (hx : Value.int .u8 n = b8 x) (hb : bs.length ≤ 1099511627776) :
    ∃ v' w', Sem.run Try.prog (Builtin.append_ #[tB, tB] tB #[v, .slice (some ⟨w.heap.size, 0, none⟩) 1 1]) (w.alloc (.cells #[.int .u8 n] tb)) = .ok v' w' ∧ OwnB w' B tb v' (bs ++ [x]) ∧ OwnNext w v w' v' := by
  have ho' : OwnB (w.alloc (.cells #[.int .u8 n] tb)) B tb v bs := Own.grow ho (Grow.al (Grow.refl w) _)
  have hl := Own.lit w (Nat.le_refl _) tb #[b8 x] 1 rfl (by simp [maxLen])
  rw [hx]
  rw [hx] at ho'
  obtain ⟨v', w', h1, h2, h3⟩ := app_own tyB ho' hl.rd (one_b8 (bs := [x])) (by simp; omega) (by simp; omega)
  exact ⟨v', w', h1, by simpa [OwnB] using h2, OwnNext.behind (Grow.al (Grow.refl w) _) h3⟩

/-- bytes behind what is owned -/
theorem app_bytes {w : World} {B : Nat} {v src : Value} {bs cs : List UInt8} (ho : OwnB w B tb v bs) (hr : RdB w src cs) (hB : B ≤ w.heap.size) (hb : bs.length + cs.length ≤ 1099511627776) :
    ∃ v' w', Sem.run Try.prog (Builtin.append_ #[tB, tB] tB #[v, src]) w = .ok v' w' ∧ OwnB w' B tb v' (bs ++ cs) ∧ OwnNext w v w' v' := by
  obtain ⟨v', w', h1, h2, h3⟩ := app_own tyB ho hr one_b8 (by simp; omega) hB
  exact ⟨v', w', h1, by simpa [OwnB] using h2, h3⟩

/-- a copy: 'append([]byte{}, b...)' -/
theorem app_copy {w : World} {src : Value} {cs : List UInt8} (hr : RdB w src cs) (hb : cs.length ≤ 1099511627776) :
    ∃ v' w', Sem.run Try.prog (Builtin.append_ #[tB, tB] tB #[.slice (some ⟨w.heap.size, 0, none⟩) 0 0, src]) (w.alloc (.cells #[] tb)) = .ok v' w' ∧ OwnB w' w.heap.size tb v' cs ∧ Grow w w' := by
  have ho : OwnB (w.alloc (.cells #[] tb)) w.heap.size tb (.slice (some ⟨w.heap.size, 0, none⟩) 0 0) [] := Own.lit w (Nat.le_refl _) tb #[] 0 rfl (by simp [maxLen])
  obtain ⟨v', w', h1, h2, h3⟩ := app_bytes ho (hr.grow (Grow.al (Grow.refl w) _)) (by simp) (by simp; omega)
  exact ⟨v', w', h1, h2, (Grow.al (Grow.refl w) _).trans (h3.below (by simp) ho.blk)⟩

theorem slices_Clone_c {w : World} {v : Value} {bs : List UInt8} {R : KV} (hr : RdB w v bs) (hb : bs.length ≤ 1099511627776)
    (k : ∀ v' w', Grow w w' → OwnB w' w.heap.size tb v' bs → R v' w') : Go.CW.Spec Try.prog 23 #[v] w R := by
  apply slices_Clone___wp
  obtain ⟨b, hb1, hb2⟩ := Rd.isNil hr
  refine ⟨b, hb1, cond_intro (fun h => ?_) (fun h => ?_)⟩
  · have := (hb2 h).1
    simp at this; subst this
    exact k _ _ (Grow.refl _) (Own.nil _ _ _)
  · obtain ⟨v', w', h1, h2, h3⟩ := app_copy hr hb
    exact ⟨v', w', h1, k _ _ h3 h2⟩

theorem slices_Clip_c {w : World} {v : Value} {bs : List UInt8} {R : KV} (hr : RdB w v bs) (k : ∀ v', RdB w v' bs → v'.ownBlock = v.ownBlock → R v' w) : Go.CW.Spec Try.prog 24 #[v] w R := by
  apply slices_Clip___wp
  refine ⟨_, hr.len, _, hr.len, ?_⟩
  obtain ⟨a, cap, rfl, h1, h2, h3, h4⟩ := hr
  have h0 : (0 : Int) ≤ (bs.length : Int) := by omega
  simp only [List.length_map] at h1 h4 ⊢
  refine ⟨.slice a bs.length bs.length, ?_, k _ ⟨a, bs.length, by simp, by simp, by omega, fun h => by have := h3 h; omega, h4⟩ (by cases a <;> rfl)⟩
  have e : (bs.length : Int) ≤ cap := by omega
  simp only [subSlice, boundsOf, boundOf, h0, e, and_self, if_true, Int.toNat_natCast, Int.le_refl, Nat.sub_zero]
  split
  · rfl
  · cases a <;> simp [add_zero]

/-! ### the plain functions -/
/-- the lowest n bytes of v, the highest first -/
def putL (v : Int) : Nat → List UInt8
  | 0 => []
  | n + 1 => byt (v / (2 : Int) ^ (8 * n)) :: putL v n
def inW (n : Int) : Bool := decide (1 ≤ n) && decide (n ≤ 8)
def putS (bs : List UInt8) (v n : Int) : List UInt8 := bif inW n then bs ++ putL v n.toNat else bs

theorem putL_length (v : Int) (n : Nat) : (putL v n).length = n := by induction n with | zero => rfl | succ n ih => simp [putL, ih]

/-- the byte that a round puts -/
theorem shr_byte (v : Int) (i : Nat) (hi : i < 8) : Value.int .u8 (IntKind.wrap .u8 (Int.fdiv v ((2 : Int) ^ (min (Int.toNat (IntKind.wrap .i64 ((8 : Int) * (i : Int)))) 64)))) = b8 (byt (v / (2 : Int) ^ (8 * i))) := by
  rw [b8_wrap, wi64_id (by omega) (by omega)]
  have e : min (Int.toNat ((8 : Int) * (i : Int))) 64 = 8 * i := by omega
  rw [e, Int.fdiv_eq_ediv_of_nonneg]
  exact Int.pow_nonneg (by omega)

theorem shr_byte_u (v : Int) (i : Nat) (hi : i < 8) : Value.int .u8 (IntKind.wrap .u8 (Int.fdiv v ((2 : Int) ^ (min (Int.toNat (IntKind.wrap .u64 ((8 : Int) * (IntKind.wrap .u64 (i : Int))))) 64)))) = b8 (byt (v / (2 : Int) ^ (8 * i))) := by
  rw [b8_wrap, w64_id (n := (i : Int)) (by omega) (by omega), w64_id (by omega) (by omega)]
  have e : min (Int.toNat ((8 : Int) * (i : Int))) 64 = 8 * i := by omega
  rw [e, Int.fdiv_eq_ediv_of_nonneg]
  exact Int.pow_nonneg (by omega)

/-- the test of a width -/
theorem test_width (n : Int) (j : Bool → World → Prop) (w : World) (hj : ∀ b w', b = !(inW n) ∧ w' = w → j b w') :
    cond (decide (n < (1 : Int))) (j true w) (j (decide (n > (8 : Int))) w) := by
  refine cond_intro (fun h => hj _ _ ⟨?_, rfl⟩) (fun h => hj _ _ ⟨?_, rfl⟩) <;> (rw [Bool.eq_iff_iff]; simp [inW] at h ⊢; omega)

theorem take_putL (x : Int) (n i : Nat) (h : i < n) : (putL x n).take (n - (i + 1)) ++ [byt (x / (2 : Int) ^ (8 * i))] = (putL x n).take (n - i) := by
  induction n with
  | zero => omega
  | succ n ih =>
    by_cases hi : i = n
    · subst hi
      have e1 : i + 1 - (i + 1) = 0 := by omega
      have e2 : i + 1 - i = 1 := by omega
      rw [e1, e2]; simp [putL]
    · have e1 : n + 1 - (i + 1) = (n - (i + 1)) + 1 := by omega
      have e2 : n + 1 - i = (n - i) + 1 := by omega
      rw [e1, e2]
      simp only [putL, List.take_succ_cons, List.cons_append]
      rw [ih (by omega)]

theorem bin_Put_c {w : World} {v : Value} {bs : List UInt8} {x n : Int} {R : KV} (hr : RdB w v bs) (hb : bs.length ≤ 1000000000000)
    (k : ∀ v' w', Grow w w' → RdB w' v' (putS bs x n) → NewV w v' → R v' w') : Go.CW.Spec Try.prog 11 #[v, .int .u64 x, .int .i64 n] w R := by
  apply bin_Put_wp
  refine slices_Clone_c hr (by omega) fun v1 w1 g1 o1 => ?_
  refine JoinP.bool (fun b w' => b = !(inW n) ∧ w' = w1) (fun j hj => test_width n j w1 hj) ?_
  rintro b w' ⟨rfl, rfl⟩
  refine cond_intro (fun h => ?_) (fun h => ?_)
  · refine k _ _ g1 ?_ ?_
    · simp only [Bool.not_eq_true'] at h
      rw [putS, h]; exact o1.rd
    · exact o1.blk
  · simp at h
    have hn : 1 ≤ n ∧ n ≤ 8 := by simpa [inW] using h
    refine ⟨fun (vv : Value) (i : Int) (ww : World) => -1 ≤ i ∧ i < n ∧ Grow w ww ∧ OwnB ww w.heap.size tb vv (bs ++ (putL x n.toNat).take (n.toNat - (i + 1).toNat)), fun (_ : Value) (i : Int) (_ : World) => (i + 1).toNat, ?_, ?_⟩
    · dsimp only
      rw [wi64_id (n := n - 1) (by omega) (by omega)]
      refine ⟨by omega, by omega, g1, ?_⟩
      have e : n.toNat - (n - 1 + 1).toNat = 0 := by omega
      rw [e]; simpa using o1
    · dsimp only [allR, mapR2, eqN, ltN]
      rintro m vv i ww ⟨⟨h0, h1, g, o⟩, hm⟩
      refine cond_intro (fun h2 => ?_) (fun h2 => ?_)
      · simp at h2
        obtain ⟨i, rfl⟩ := Int.eq_ofNat_of_zero_le h2
        refine leK_intro (by rw [wi64_id (n := 8 * (i : Int)) (by omega) (by omega)]; omega) ?_
        obtain ⟨v', w', k1, k2, k3⟩ := app_byte o g.size _ _ (shr_byte x i (by omega)) (by simp [putL_length]; omega)
        refine ⟨v', w', k1, ⟨?_, ?_, g.trans (k3.below g.size o.blk), ?_⟩, ?_⟩
        all_goals rw [wi64_id (n := (i : Int) - 1) (by omega) (by omega)]
        · omega
        · omega
        · have e1 : ((i : Int) - 1 + 1).toNat = i := by omega
          have e2 : ((i : Int) + 1).toNat = i + 1 := by omega
          rw [e1]
          rw [e2, List.append_assoc, take_putL x n.toNat i (by omega)] at k2
          exact k2
        · change ((i : Int) - 1 + 1).toNat < m
          omega
      · simp at h2
        have e1 : (i + 1).toNat = 0 := by omega
        rw [e1, Nat.sub_zero, List.take_of_length_le (by rw [putL_length]; omega)] at o
        refine slices_Clip_c o.rd fun v' r' e' => k _ _ g ?_ (fun q hq => o.blk q (e' ▸ hq))
        rw [putS, h]; exact r'

theorem gemelref1_Put_c {w : World} {B : Nat} {v : Value} {bs : List UInt8} {x n : Int} {R : KV} (hr : OwnB w B tb v bs) (hB : B ≤ w.heap.size) (hb : bs.length ≤ 1000000000000)
    (k : ∀ v' w', OwnNext w v w' v' → OwnB w' B tb v' (putS bs x n) → R v' w') : Go.CW.Spec Try.prog 12 #[v, .int .u64 x, .int .i64 n] w R := by
  apply gemelref1_Put_wp
  refine JoinP.bool (fun b w' => b = !(inW n) ∧ w' = w) (fun j hj => test_width n j w hj) ?_
  rintro b w' ⟨rfl, rfl⟩
  refine cond_intro (fun h => ?_) (fun h => ?_)
  · refine k _ _ (OwnNext.refl _ _) ?_
    simp only [Bool.not_eq_true'] at h
    rw [putS, h]; exact hr
  · simp at h
    have hn : 1 ≤ n ∧ n ≤ 8 := by simpa [inW] using h
    refine ⟨fun (vv : Value) (i : Int) (ww : World) => -1 ≤ i ∧ i < n ∧ OwnNext w' v ww vv ∧ OwnB ww B tb vv (bs ++ (putL x n.toNat).take (n.toNat - (i + 1).toNat)), fun (_ : Value) (i : Int) (_ : World) => (i + 1).toNat, ?_, ?_⟩
    · dsimp only
      rw [wi64_id (n := n - 1) (by omega) (by omega)]
      refine ⟨by omega, by omega, OwnNext.refl _ _, ?_⟩
      have e : n.toNat - (n - 1 + 1).toNat = 0 := by omega
      rw [e]; simpa using hr
    · dsimp only [allR, mapR2, eqN, ltN]
      rintro m vv i ww ⟨⟨h0, h1, g, o⟩, hm⟩
      refine cond_intro (fun h2 => ?_) (fun h2 => ?_)
      · simp at h2
        obtain ⟨i, rfl⟩ := Int.eq_ofNat_of_zero_le h2
        refine leK_intro (by rw [w64_id (n := (i : Int)) (by omega) (by omega), w64_id (n := 8 * (i : Int)) (by omega) (by omega)]; omega) ?_
        obtain ⟨v', w', k1, k2, k3⟩ := app_byte o (Nat.le_trans hB g.by_.size) _ _ (shr_byte_u x i (by omega)) (by simp [putL_length]; omega)
        refine ⟨v', w', k1, ⟨?_, ?_, g.then k3, ?_⟩, ?_⟩
        all_goals rw [wi64_id (n := (i : Int) - 1) (by omega) (by omega)]
        · omega
        · omega
        · have e1 : ((i : Int) - 1 + 1).toNat = i := by omega
          have e2 : ((i : Int) + 1).toNat = i + 1 := by omega
          rw [e1]
          rw [e2, List.append_assoc, take_putL x n.toNat i (by omega)] at k2
          exact k2
        · change ((i : Int) - 1 + 1).toNat < m
          omega
      · simp at h2
        have e1 : (i + 1).toNat = 0 := by omega
        rw [e1, Nat.sub_zero, List.take_of_length_le (by rw [putL_length]; omega)] at o
        refine k _ _ g ?_
        rw [putS, h]; exact o

/-! ### Get -/
def getB (l : Nat) (at_ n : Int) : Bool := inW n && decide (0 ≤ at_) && decide (at_ + n ≤ l)
/-- the number that bytes are -/
def valL (bs : List UInt8) : Int := bs.foldl (fun (v : Int) c => v * 256 + (c.toNat : Int)) 0
def getV (bs : List UInt8) (at_ n : Int) : Int := bif getB bs.length at_ n then valL ((bs.drop at_.toNat).take n.toNat) else 0

theorem valL_snoc (bs : List UInt8) (c : UInt8) : valL (bs ++ [c]) = valL bs * 256 + (c.toNat : Int) := by simp [valL]
theorem fold_range (bs : List UInt8) : ∀ v M : Int, 0 ≤ v → v < M → 0 ≤ bs.foldl (fun (v : Int) c => v * 256 + (c.toNat : Int)) v ∧ bs.foldl (fun (v : Int) c => v * 256 + (c.toNat : Int)) v < M * 256 ^ bs.length := by
  induction bs with
  | nil => intro v M h0 h1; simp; omega
  | cons c bs ih =>
    intro v M h0 h1
    have hc : c.toNat < 256 := c.toNat_lt
    have h := ih (v * 256 + (c.toNat : Int)) (M * 256) (by omega) (by omega)
    rw [List.foldl_cons, List.length_cons, Int.pow_succ, Int.mul_comm (256 ^ bs.length), ← Int.mul_assoc]
    exact h
theorem valL_range (bs : List UInt8) : 0 ≤ valL bs ∧ valL bs < 256 ^ bs.length := by
  have h := fold_range bs 0 1 (by omega) (by omega)
  rw [Int.one_mul] at h
  exact h

/-- a byte is put below a number -/
theorem or_byte {n : Int} {c : UInt8} (h0 : 0 ≤ n) (h1 : n < 72057594037927936) : bitsI .or .u64 (IntKind.wrap .u64 (n * (256 : Int))) (IntKind.wrap .u64 (c.toNat : Int)) = n * 256 + (c.toNat : Int) := by
  have hc : c.toNat < 256 := c.toNat_lt
  rw [w64_id (n := n * 256) (by omega) (by omega), w64_id (n := (c.toNat : Int)) (by omega) (by omega)]
  obtain ⟨m, rfl⟩ := Int.eq_ofNat_of_zero_le h0
  have hb : IntKind.bits .u64 = 64 := rfl
  have e : (BitVec.ofInt 64 ((m : Int) * 256) ||| BitVec.ofInt 64 (c.toNat : Int)).toNat = m * 256 + c.toNat := by
    have e1 : (BitVec.ofInt 64 ((m : Int) * 256)) = BitVec.ofNat 64 (m * 256) := by rw [← BitVec.ofInt_natCast]; rfl
    have e2 : (BitVec.ofInt 64 (c.toNat : Int)) = BitVec.ofNat 64 c.toNat := by rw [← BitVec.ofInt_natCast]
    rw [e1, e2, BitVec.toNat_or, BitVec.toNat_ofNat, BitVec.toNat_ofNat, Nat.mod_eq_of_lt (by omega), Nat.mod_eq_of_lt (by omega)]
    have h8 := Nat.two_pow_add_eq_or_of_lt (i := 8) (b := c.toNat) (by omega) m
    have h9 : 2 ^ 8 * m = m * 256 := by omega
    rw [h9] at h8
    omega
  show IntKind.wrap .u64 ((BitVec.ofInt 64 ((m : Int) * 256) ||| BitVec.ofInt 64 (c.toNat : Int)).toNat : Int) = _
  rw [e, w64_id (by omega) (by omega)]
  omega

theorem take_snoc (bs : List UInt8) (i : Nat) (h : i < bs.length) : bs.take (i + 1) = bs.take i ++ [bs[i]] := by
  rw [List.take_add_one, List.getElem?_eq_getElem h]; rfl

theorem pow256 {a b : Nat} (h : a ≤ b) : (256 : Int) ^ a ≤ 256 ^ b := by
  have h1 := Int.ofNat_le.2 (Nat.pow_le_pow_right (n := 256) (by omega) h)
  rw [Int.natCast_pow, Int.natCast_pow] at h1
  exact h1

theorem val_lt7 (bs : List UInt8) (i : Nat) (hi : i < 8) (hl : i ≤ bs.length) : 0 ≤ valL (bs.take i) ∧ valL (bs.take i) < 72057594037927936 := by
  have h := valL_range (bs.take i)
  have hle : (256 : Int) ^ (bs.take i).length ≤ 256 ^ 7 := pow256 (by rw [List.length_take]; omega)
  have h7 : (256 : Int) ^ 7 = 72057594037927936 := rfl
  rw [h7] at hle
  exact ⟨h.1, Int.lt_of_lt_of_le h.2 hle⟩

theorem bin_Get_c {w : World} {v : Value} {bs : List UInt8} {a n : Int} {R : KV} (hr : RdB w v bs) (ha : Fits .i64 a) (hn : Fits .i64 n)
    (k : R (.tuple #[.int .u64 (getV bs a n), .bool (getB bs.length a n)]) w) : Go.CW.Spec Try.prog 13 #[v, .int .i64 a, .int .i64 n] w R := by
  apply bin_Get_wp
  have hle := hr.le
  rw [List.length_map] at hle
  have ha' := ha.i64
  have hn' := hn.i64
  refine JoinP.bool (fun b w' => b = !(getB bs.length a n) ∧ w' = w) (fun j hj => ?_) ?_
  · refine cond_intro (fun h => hj _ _ ⟨?_, rfl⟩) (fun h => cond_intro (fun h' => hj _ _ ⟨?_, rfl⟩) (fun h' => cond_intro (fun h2 => hj _ _ ⟨?_, rfl⟩) (fun h2 => ⟨_, hr.len, cond_intro (fun h3 => hj _ _ ⟨?_, rfl⟩) (fun h3 => ⟨_, hr.len, hj _ _ ⟨?_, rfl⟩⟩)⟩)))
    all_goals clear hj k hr ha hn
    all_goals rw [Bool.eq_iff_iff]; simp only [getB, inW, decide_eq_true_eq, decide_eq_false_iff_not, Bool.not_eq_true', Bool.and_eq_false_iff, Bool.and_eq_true, true_iff] at *
    · omega
    · omega
    · omega
    · omega
    · rw [wi64_id (by omega) (by omega)]; omega
  · rintro b w' ⟨rfl, rfl⟩
    refine cond_intro (fun h => ?_) (fun h => ?_)
    · simp only [Bool.not_eq_true'] at h
      rw [getV, h] at k; exact k
    · simp only [Bool.not_eq_false'] at h
      have hh : (1 ≤ n ∧ n ≤ 8) ∧ 0 ≤ a ∧ a + n ≤ bs.length := by simpa [getB, inW, and_assoc] using h
      rw [getV, h] at k
      rw [wi64_id (n := a + n) (by omega) (by omega)]
      obtain ⟨v', hs, hr', _⟩ := Rd.sub hr (l := a.toNat) (r := (a + n).toNat) (fun cap hc => bounds_ii (k := .i64) (k' := .i64) hh.2.1 (by omega) (by simp at hc; omega)) (by omega) (by simp; omega)
      have hr2 : RdB w' v' ((bs.drop a.toNat).take n.toNat) := by
        have e : (a + n).toNat - a.toNat = n.toNat := by omega
        rw [e] at hr'; simpa [RdB, List.map_take, List.map_drop] using hr'
      generalize hcs : (bs.drop a.toNat).take n.toNat = cs at hr2 k
      have hcl : cs.length = n.toNat := by rw [← hcs]; simp; omega
      refine ⟨v', hs, cs.length, hr2.len, ?_⟩
      refine ⟨fun (x : Int) (i : Int) (ww : World) => ww = w' ∧ 0 ≤ i ∧ i ≤ n ∧ x = valL (cs.take i.toNat), fun (x : Int) (i : Int) (ww : World) => (n - i).toNat, ?_, ?_⟩
      · dsimp only
        exact ⟨rfl, by omega, by omega, by simp [valL]⟩
      · dsimp only [allR, mapR2, eqN, ltN]
        rintro m x i ww ⟨⟨rfl, h0, h1, hx⟩, hm⟩
        refine cond_intro (fun h2 => ?_) (fun h2 => ?_)
        · simp at h2
          obtain ⟨ad, h3, h4⟩ := hr2.at h0 h2
          refine ⟨ad, h3, _, h4, ?_⟩
          have hv := val_lt7 cs i.toNat (by omega) (by omega)
          subst hx
          rw [or_byte hv.1 hv.2, wi64_id (n := i + 1) (by omega) (by omega)]
          refine ⟨⟨rfl, by omega, by omega, ?_⟩, by omega⟩
          have e : (i + 1).toNat = i.toNat + 1 := by omega
          rw [e, take_snoc cs i.toNat (by omega), valL_snoc]
        · simp at h2
          rw [List.take_of_length_le (by omega)] at hx
          subst hx; exact k

theorem gemelref1_Get_c {w : World} {v : Value} {bs : List UInt8} {a n : Int} {R : KV} (hr : RdB w v bs) (ha : Fits .i64 a) (hn : Fits .i64 n)
    (k : R (.tuple #[.int .u64 (getV bs a n), .bool (getB bs.length a n)]) w) : Go.CW.Spec Try.prog 14 #[v, .int .i64 a, .int .i64 n] w R := by
  apply gemelref1_Get_wp
  have hle := hr.le
  rw [List.length_map] at hle
  have ha' := ha.i64
  have hn' := hn.i64
  refine JoinP.bool (fun b w' => b = !(getB bs.length a n) ∧ w' = w) (fun j hj => ?_) ?_
  · refine cond_intro (fun h => hj _ _ ⟨?_, rfl⟩) (fun h => cond_intro (fun h' => hj _ _ ⟨?_, rfl⟩) (fun h' => cond_intro (fun h2 => hj _ _ ⟨?_, rfl⟩) (fun h2 => ⟨_, hr.len, cond_intro (fun h3 => hj _ _ ⟨?_, rfl⟩) (fun h3 => ⟨_, hr.len, hj _ _ ⟨?_, rfl⟩⟩)⟩)))
    all_goals clear hj k hr ha hn
    all_goals rw [Bool.eq_iff_iff]; simp only [getB, inW, decide_eq_true_eq, decide_eq_false_iff_not, Bool.not_eq_true', Bool.and_eq_false_iff, Bool.and_eq_true, true_iff] at *
    · omega
    · omega
    · omega
    · omega
    · rw [wi64_id (by omega) (by omega)]; omega
  · rintro b w' ⟨rfl, rfl⟩
    refine cond_intro (fun h => ?_) (fun h => ?_)
    · simp only [Bool.not_eq_true'] at h
      rw [getV, h] at k; exact k
    · simp only [Bool.not_eq_false'] at h
      have hh : (1 ≤ n ∧ n ≤ 8) ∧ 0 ≤ a ∧ a + n ≤ bs.length := by simpa [getB, inW, and_assoc] using h
      rw [getV, h] at k
      generalize hcs : (bs.drop a.toNat).take n.toNat = cs at k
      have hcl : cs.length = n.toNat := by rw [← hcs]; simp; omega
      refine ⟨fun (x : Int) (i : Int) (ww : World) => ww = w' ∧ 0 ≤ i ∧ i ≤ n ∧ x = valL (cs.take i.toNat), fun (x : Int) (i : Int) (ww : World) => (n - i).toNat, ?_, ?_⟩
      · dsimp only
        exact ⟨rfl, by omega, by omega, by simp [valL]⟩
      · dsimp only [allR, mapR2, eqN, ltN]
        rintro m x i ww ⟨⟨rfl, h0, h1, hx⟩, hm⟩
        refine cond_intro (fun h2 => ?_) (fun h2 => ?_)
        · simp at h2
          rw [wi64_id (n := a + i) (by omega) (by omega)]
          obtain ⟨ad, h3, h4⟩ := hr.at (i := a + i) (by omega) (by omega)
          refine ⟨ad, h3, _, h4, ?_⟩
          have hv := val_lt7 cs i.toNat (by omega) (by omega)
          subst hx
          rw [or_byte hv.1 hv.2, wi64_id (n := i + 1) (by omega) (by omega)]
          refine ⟨⟨rfl, by omega, by omega, ?_⟩, by omega⟩
          have e : (i + 1).toNat = i.toNat + 1 := by omega
          have e3 : cs[i.toNat]'(by omega) = bs[(a + i).toNat]'(by omega) := by
            subst hcs
            simp only [List.getElem_take, List.getElem_drop]
            congr 1; omega
          rw [e, take_snoc cs i.toNat (by omega), valL_snoc, e3]
        · simp at h2
          rw [List.take_of_length_le (by omega)] at hx
          subst hx; exact k

/-! ### Pad -/
def inP (to : Int) : Bool := decide (1 ≤ to) && decide (to ≤ 4096)
def padN (l : Nat) (to : Int) : Nat := bif inP to then ((-(l : Int)) % to).toNat else 0
def padS (bs : List UInt8) (to : Int) : List UInt8 := bs ++ List.replicate (padN bs.length to) 0

theorem test_pad (n : Int) (j : Bool → World → Prop) (w : World) (hj : ∀ b w', b = !(inP n) ∧ w' = w → j b w') :
    cond (decide (n < (1 : Int))) (j true w) (j (decide (n > (4096 : Int))) w) := by
  refine cond_intro (fun h => hj _ _ ⟨?_, rfl⟩) (fun h => hj _ _ ⟨?_, rfl⟩) <;> (rw [Bool.eq_iff_iff]; simp [inP] at h ⊢; omega)

theorem pad_go {l k : Nat} {to : Int} (h1 : 1 ≤ to) (hk : (k : Int) ≤ (-(l : Int)) % to) : (Int.tmod ((l : Int) + (k : Int)) to = 0) ↔ (k : Int) = (-(l : Int)) % to := by
  rw [Int.tmod_eq_emod_of_nonneg (by omega)]
  have hr0 := Int.emod_nonneg (-(l : Int)) (b := to) (by omega)
  have hr1 := Int.emod_lt_of_pos (-(l : Int)) (b := to) (by omega)
  have hd : (-(l : Int)) % to + to * ((-(l : Int)) / to) = -(l : Int) := Int.emod_add_mul_ediv _ _
  generalize hr : (-(l : Int)) % to = r at *
  generalize hq : (-(l : Int)) / to = q at *
  constructor
  · intro h
    obtain ⟨c, hc⟩ := Int.dvd_of_emod_eq_zero h
    have e : to * (c + q) = (k : Int) - r := by rw [Int.mul_add]; omega
    have hz : c + q = 0 := by
      rcases Int.lt_trichotomy (c + q) 0 with h0 | h0 | h0
      · exfalso
        have : to * (c + q) ≤ to * (-1) := Int.mul_le_mul_of_nonneg_left (by omega) (by omega)
        omega
      · exact h0
      · exfalso
        have : to * 1 ≤ to * (c + q) := Int.mul_le_mul_of_nonneg_left (by omega) (by omega)
        omega
    rw [hz] at e; omega
  · intro h
    have e : (l : Int) + (k : Int) = to * (-q) := by rw [Int.mul_neg]; omega
    rw [e]; exact Int.mul_emod_right _ _

theorem replicate_snoc (n : Nat) (x : UInt8) (bs : List UInt8) : (bs ++ List.replicate n x) ++ [x] = bs ++ List.replicate (n + 1) x := by
  rw [List.append_assoc, List.replicate_succ']

theorem bin_Pad_c {w : World} {v : Value} {bs : List UInt8} {to : Int} {R : KV} (hr : RdB w v bs) (hb : bs.length ≤ 1000000000000)
    (k : ∀ v' w', Grow w w' → RdB w' v' (padS bs to) → NewV w v' → R v' w') : Go.CW.Spec Try.prog 15 #[v, .int .i64 to] w R := by
  apply bin_Pad_wp
  refine slices_Clone_c hr (by omega) fun v1 w1 g1 o1 => ?_
  refine JoinP.bool (fun b w' => b = !(inP to) ∧ w' = w1) (fun j hj => test_pad to j w1 hj) ?_
  rintro b w' ⟨rfl, rfl⟩
  refine cond_intro (fun h => ?_) (fun h => ?_)
  · refine k _ _ g1 ?_ o1.blk
    simp only [Bool.not_eq_true'] at h
    have e : padS bs to = bs := by simp [padS, padN, h]
    rw [e]; exact o1.rd
  · simp at h
    have hn : 1 ≤ to ∧ to ≤ 4096 := by simpa [inP] using h
    have hr1 := Int.emod_lt_of_pos (-(bs.length : Int)) (b := to) (by omega)
    have hr0 := Int.emod_nonneg (-(bs.length : Int)) (b := to) (by omega)
    have hp : padN bs.length to = ((-(bs.length : Int)) % to).toNat := by simp [padN, h]
    refine ⟨fun (vv : Value) (ww : World) => ∃ i : Nat, i ≤ padN bs.length to ∧ Grow w ww ∧ OwnB ww w.heap.size tb vv (bs ++ List.replicate i 0), fun (vv : Value) (ww : World) => padN bs.length to + bs.length - (sliceLen vv).getD 0, ?_, ?_⟩
    · dsimp only
      exact ⟨0, by omega, g1, by simpa using o1⟩
    · dsimp only [allR, mapR2, eqN, ltN]
      rintro m vv ww ⟨⟨i, h0, g, o⟩, hm⟩
      have hl := RdB.len o.rd
      refine ⟨_, hl, nzK_intro (by omega) (cond_intro (fun h2 => ?_) (fun h2 => ?_))⟩
      · have h3 : ¬ (Int.tmod ((bs.length : Int) + (i : Int)) to = 0) := by simpa using h2
        rw [pad_go hn.1 (by omega)] at h3
        obtain ⟨v', w', k1, k2, k3⟩ := app_byte o g.size 0 0 rfl (by simp; omega)
        rw [replicate_snoc] at k2
        refine ⟨v', w', k1, ⟨i + 1, by omega, g.trans (k3.below g.size o.blk), k2⟩, ?_⟩
        rw [RdB.len k2.rd]
        rw [hl] at hm
        simp at hm ⊢
        omega
      · have h3 : (Int.tmod ((bs.length : Int) + (i : Int)) to = 0) := by simpa using h2
        rw [pad_go hn.1 (by omega)] at h3
        refine slices_Clip_c o.rd fun v' r' e' => k _ _ g ?_ (fun q hq => o.blk q (e' ▸ hq))
        have e : i = padN bs.length to := by omega
        rw [padS, ← e]; exact r'

theorem gemelref1_Pad_c {w : World} {B : Nat} {v : Value} {bs : List UInt8} {to : Int} {R : KV} (hr : OwnB w B tb v bs) (hB : B ≤ w.heap.size) (hb : bs.length ≤ 1000000000000)
    (k : ∀ v' w', OwnNext w v w' v' → OwnB w' B tb v' (padS bs to) → R v' w') : Go.CW.Spec Try.prog 16 #[v, .int .i64 to] w R := by
  apply gemelref1_Pad_wp
  refine JoinP.bool (fun b w' => b = !(inP to) ∧ w' = w) (fun j hj => test_pad to j w hj) ?_
  rintro b w' ⟨rfl, rfl⟩
  refine cond_intro (fun h => ?_) (fun h => ?_)
  · refine k _ _ (OwnNext.refl _ _) ?_
    simp only [Bool.not_eq_true'] at h
    have e : padS bs to = bs := by simp [padS, padN, h]
    rw [e]; exact hr
  · simp at h
    have hn : 1 ≤ to ∧ to ≤ 4096 := by simpa [inP] using h
    have hr1 := Int.emod_lt_of_pos (-(bs.length : Int)) (b := to) (by omega)
    have hr0 := Int.emod_nonneg (-(bs.length : Int)) (b := to) (by omega)
    have hp : padN bs.length to = ((-(bs.length : Int)) % to).toNat := by simp [padN, h]
    refine ⟨fun (vv : Value) (ww : World) => ∃ i : Nat, i ≤ padN bs.length to ∧ OwnNext w' v ww vv ∧ OwnB ww B tb vv (bs ++ List.replicate i 0), fun (vv : Value) (ww : World) => padN bs.length to + bs.length - (sliceLen vv).getD 0, ?_, ?_⟩
    · dsimp only
      exact ⟨0, by omega, OwnNext.refl _ _, by simpa using hr⟩
    · dsimp only [allR, mapR2, eqN, ltN]
      rintro m vv ww ⟨⟨i, h0, g, o⟩, hm⟩
      have hl := RdB.len o.rd
      refine ⟨_, hl, nzK_intro (by omega) (cond_intro (fun h2 => ?_) (fun h2 => ?_))⟩
      · have h3 : ¬ (Int.tmod ((bs.length : Int) + (i : Int)) to = 0) := by simpa using h2
        rw [pad_go hn.1 (by omega)] at h3
        obtain ⟨v', w', k1, k2, k3⟩ := app_byte o (Nat.le_trans hB g.by_.size) 0 0 rfl (by simp; omega)
        rw [replicate_snoc] at k2
        refine ⟨v', w', k1, ⟨i + 1, by omega, g.then k3, k2⟩, ?_⟩
        rw [RdB.len k2.rd]
        rw [hl] at hm
        simp at hm ⊢
        omega
      · have h3 : (Int.tmod ((bs.length : Int) + (i : Int)) to = 0) := by simpa using h2
        rw [pad_go hn.1 (by omega)] at h3
        refine k _ _ g ?_
        have e : i = padN bs.length to := by omega
        rw [padS, ← e]; exact o

/-! ### serial numbers -/
def gapN (a b : Int) : Int := (b - a + 2147483648) % 4294967296 - 2147483648

theorem bin_Gap_c {w : World} {a b : Int} {R : KV} (k : R (.int .i64 (gapN a b)) w) : Go.CW.Spec Try.prog 17 #[.int .u32 a, .int .u32 b] w R := by
  apply bin_Gap_wp
  unfold bin_Gap_F
  rw [w32, wi32, wi64]
  have e : ((((b - a) % 4294967296 + 2147483648) % 4294967296 - 2147483648 + 9223372036854775808) % 18446744073709551616 - 9223372036854775808) = gapN a b := by unfold gapN; omega
  rw [e]; exact k

theorem gemelref1_Gap_c {w : World} {a b : Int} {R : KV} (k : R (.int .i64 (gapN a b)) w) : Go.CW.Spec Try.prog 18 #[.int .u32 a, .int .u32 b] w R := by
  apply gemelref1_Gap_wp
  refine JoinP.int (fun n w' => n = gapN a b ∧ w' = w) (fun j hj => ?_) ?_
  · have e0 : IntKind.wrap .i64 (IntKind.wrap .u32 (b - a)) = (b - a) % 4294967296 := by rw [w32, wi64]; omega
    rw [e0]
    refine cond_intro (fun h => hj _ _ ⟨?_, rfl⟩) (fun h => hj _ _ ⟨?_, rfl⟩)
    · simp at h; rw [wi64]; unfold gapN; omega
    · simp at h; unfold gapN; omega
  · rintro n w' ⟨rfl, rfl⟩; exact k

theorem bin_Less_c {w : World} {a b : Int} {R : KV} (k : R (.bool (decide (gapN a b > 0))) w) : Go.CW.Spec Try.prog 19 #[.int .u32 a, .int .u32 b] w R := by
  apply bin_Less_wp
  exact bin_Gap_c ⟨_, rfl, k⟩
theorem gemelref1_Less_c {w : World} {a b : Int} {R : KV} (k : R (.bool (decide (gapN a b > 0))) w) : Go.CW.Spec Try.prog 20 #[.int .u32 a, .int .u32 b] w R := by
  apply gemelref1_Less_wp
  exact gemelref1_Gap_c ⟨_, rfl, k⟩
theorem bin_Within_c {w : World} {lo n x : Int} {R : KV} (k : R (.bool (decide ((x - lo) % 4294967296 < n))) w) : Go.CW.Spec Try.prog 21 #[.int .u32 lo, .int .u32 n, .int .u32 x] w R := by
  apply bin_Within_wp
  unfold bin_Within_F
  rw [w32]; exact k

theorem gemelref1_Within_c {w : World} {lo n x : Int} {R : KV} (k : R (.bool (decide ((x - lo) % 4294967296 < n))) w) : Go.CW.Spec Try.prog 22 #[.int .u32 lo, .int .u32 n, .int .u32 x] w R := by
  apply gemelref1_Within_wp
  unfold gemelref1_Within_F
  rw [w32]; exact k

theorem gemellaw1_known_c {w : World} {R : KV} (k : ∀ w', Grow w w' → R (.bool true) w') : Go.CW.Spec Try.prog 10 #[] w R := by
  apply gemellaw1_known_wp
  refine bin_Put_c (bs := []) (Rd.nil w) (by simp) fun v1 w1 g1 r1 _ => ?_
  refine bin_Get_c r1 (by decide) (by decide) ⟨_, _, rfl, ?_⟩
  refine JoinP.bool (fun b w' => b = true ∧ Grow w w') (fun j hj => ?_) (fun b w' ⟨h, g⟩ => by subst h; exact k _ g)
  refine ⟨_, RdB.len r1, cond_t (by decide) (cond_t (by decide) (cond_t (by decide) ?_))⟩
  refine bin_Less_c ⟨_, rfl, cond_t (by decide) (bin_Gap_c ⟨_, rfl, cond_t (by decide) (bin_Within_c ⟨_, rfl, cond_t (by decide) ?_⟩)⟩)⟩
  refine bin_Pad_c r1 (by decide) fun v2 w2 g2 r2 _ => ⟨_, RdB.len r2, hj _ _ ⟨by decide, g1.then g2⟩⟩

end Go.Proofs.Ytfdnnlfakfjklaa
