/- Numbers as bytes: the contracts of Put and Get (bin and its document's answer), and their laws. -/
import Derived.Test.YtdinpgnjnleioaaGreatDoorKByt
set_option linter.unusedSimpArgs false
set_option linter.unusedVariables false
namespace Go.Proofs.YtdinpgnjnleioaaGreatDoor
open Go Go.CW Go.RowKit
def putL (v : Int) : Nat → List UInt8
 | 0 => []
 | n + 1 => byt (v / (2 : Int) ^ (8 * n)) :: putL v n
def inW (n : Int) : Bool := decide (1 ≤ n) && decide (n ≤ 8)
def putS (bs : List UInt8) (v n : Int) : List UInt8 := bif inW n then bs ++ putL v n.toNat else bs
theorem putL_length (v : Int) (n : Nat) : (putL v n).length = n := by induction n with | zero => rfl | succ n ih => simp [putL, ih]
theorem shr_byte (v : Int) (i : Nat) (hi : i < 8) : Value.int .u8 (IntKind.wrap .u8 (Int.fdiv v ((2 : Int) ^ (min (Int.toNat (IntKind.wrap .i64 ((8 : Int) * (i : Int)))) 64)))) = b8 (byt (v / (2 : Int) ^ (8 * i))) := by
 rw [b8_wrap, wi64_id (by omega) (by omega)]
 have e : min (Int.toNat ((8 : Int) * (i : Int))) 64 = 8 * i := by omega
 rw [e, Int.fdiv_eq_ediv_of_nonneg]
 exact Int.pow_nonneg (by omega)
theorem shr_byte_u (v : Int) (i : Nat) (hi : i < 8) : Value.int .u8 (IntKind.wrap .u8 (Int.fdiv v ((2 : Int) ^ (min (Int.toNat (IntKind.wrap .u64 ((8 : Int) * (IntKind.wrap .u64 (i : Int))))) 64)))) = b8 (byt (v / (2 : Int) ^ (8 * i))) := by
 rw [b8_wrap, w64_id (n := (i : Int)) (by omega) (by omega), w64_id (by omega) (by omega)]
 have e : min (Int.toNat ((8 : Int) * (i : Int))) 64 = 8 * i := by omega
 rw [e, Int.fdiv_eq_ediv_of_nonneg]
 exact Int.pow_nonneg (by omega)
theorem test_width (n : Int) (j : Bool → World → Prop) (w : World) (hj : ∀ b w', b = !(inW n) ∧ w' = w → j b w') :
 cond (decide (n < (1 : Int))) (j true w) (j (decide (n > (8 : Int))) w) := by
 refine cond_intro (fun h => hj _ _ ⟨?_, rfl⟩) (fun h => hj _ _ ⟨?_, rfl⟩) <;> (rw [Bool.eq_iff_iff]; simp [inW] at h ⊢; omega)
theorem take_putL (x : Int) (n i : Nat) (h : i < n) : (putL x n).take (n - (i + 1)) ++ [byt (x / (2 : Int) ^ (8 * i))] = (putL x n).take (n - i) := by
 induction n with
 | zero => omega
 | succ n ih =>
   by_cases hi : i = n
   · subst hi
     have e1 : i + 1 - (i + 1) = 0 := by omega
     have e2 : i + 1 - i = 1 := by omega
     rw [e1, e2]; simp [putL]
   · have e1 : n + 1 - (i + 1) = (n - (i + 1)) + 1 := by omega
     have e2 : n + 1 - i = (n - i) + 1 := by omega
     rw [e1, e2]
     simp only [putL, List.take_succ_cons, List.cons_append]
     rw [ih (by omega)]
theorem bin_Put_c {w : World} {v : Value} {bs : List UInt8} {x n : Int} {R : KV} (hr : RdB w v bs) (hb : bs.length ≤ 1000000000000)
 (k : ∀ v' w', Grow w w' → RdB w' v' (putS bs x n) → NewV w v' → R v' w') : CW.Spec Tryz.prog 84 #[v, .int .u64 x, .int .i64 n] w R := by
 apply q4W
 refine slices_Clone_c hr (by omega) fun v1 w1 g1 o1 => ?_
 refine JoinP.bool (fun b w' => b = !(inW n) ∧ w' = w1) (fun j hj => test_width n j w1 hj) ?_
 rintro b w' ⟨rfl, rfl⟩
 refine cond_intro (fun h => ?_) (fun h => ?_)
 · refine k _ _ g1 ?_ ?_
   · simp only [Bool.not_eq_true'] at h
     rw [putS, h]; exact o1.rd
   · exact o1.blk
 · simp at h
   have hn : 1 ≤ n ∧ n ≤ 8 := by simpa [inW] using h
   refine ⟨fun (vv : Value) (i : Int) (ww : World) => -1 ≤ i ∧ i < n ∧ Grow w ww ∧ OwnB ww w.heap.size tb vv (bs ++ (putL x n.toNat).take (n.toNat - (i + 1).toNat)), fun (_ : Value) (i : Int) (_ : World) => (i + 1).toNat, ?_, ?_⟩
   · dsimp only
     rw [wi64_id (n := n - 1) (by omega) (by omega)]
     refine ⟨by omega, by omega, g1, ?_⟩
     have e : n.toNat - (n - 1 + 1).toNat = 0 := by omega
     rw [e]; simpa using o1
   · dsimp only [allR, mapR2, eqN, ltN]
     rintro m vv i ww ⟨⟨h0, h1, g, o⟩, hm⟩
     refine cond_intro (fun h2 => ?_) (fun h2 => ?_)
     · simp at h2
       obtain ⟨i, rfl⟩ := Int.eq_ofNat_of_zero_le h2
       refine leK_intro (by rw [wi64_id (n := 8 * (i : Int)) (by omega) (by omega)]; omega) ?_
       obtain ⟨v', w', k1, k2, k3⟩ := app_byte o g.size _ _ (shr_byte x i (by omega)) (by simp [putL_length]; omega)
       refine ⟨v', w', k1, ⟨?_, ?_, g.trans (k3.below g.size o.blk), ?_⟩, ?_⟩
       all_goals rw [wi64_id (n := (i : Int) - 1) (by omega) (by omega)]
       · omega
       · omega
       · have e1 : ((i : Int) - 1 + 1).toNat = i := by omega
         have e2 : ((i : Int) + 1).toNat = i + 1 := by omega
         rw [e1]
         rw [e2, List.append_assoc, take_putL x n.toNat i (by omega)] at k2
         exact k2
       · change ((i : Int) - 1 + 1).toNat < m
         omega
     · simp at h2
       have e1 : (i + 1).toNat = 0 := by omega
       rw [e1, Nat.sub_zero, List.take_of_length_le (by rw [putL_length]; omega)] at o
       refine slices_Clip_c o.rd fun v' r' e' => k _ _ g ?_ (fun q hq => o.blk q (e' ▸ hq))
       rw [putS, h]; exact r'
def getB (l : Nat) (at_ n : Int) : Bool := inW n && decide (0 ≤ at_) && decide (at_ + n ≤ l)
def valL (bs : List UInt8) : Int := bs.foldl (fun (v : Int) c => v * 256 + (c.toNat : Int)) 0
def getV (bs : List UInt8) (at_ n : Int) : Int := bif getB bs.length at_ n then valL ((bs.drop at_.toNat).take n.toNat) else 0
theorem valL_snoc (bs : List UInt8) (c : UInt8) : valL (bs ++ [c]) = valL bs * 256 + (c.toNat : Int) := by simp [valL]
theorem fold_range (bs : List UInt8) : ∀ v M : Int, 0 ≤ v → v < M → 0 ≤ bs.foldl (fun (v : Int) c => v * 256 + (c.toNat : Int)) v ∧ bs.foldl (fun (v : Int) c => v * 256 + (c.toNat : Int)) v < M * 256 ^ bs.length := by
 induction bs with
 | nil => intro v M h0 h1; simp; omega
 | cons c bs ih =>
   intro v M h0 h1
   have hc : c.toNat < 256 := c.toNat_lt
   have h := ih (v * 256 + (c.toNat : Int)) (M * 256) (by omega) (by omega)
   rw [List.foldl_cons, List.length_cons, Int.pow_succ, Int.mul_comm (256 ^ bs.length), ← Int.mul_assoc]
   exact h
theorem valL_range (bs : List UInt8) : 0 ≤ valL bs ∧ valL bs < 256 ^ bs.length := by
 have h := fold_range bs 0 1 (by omega) (by omega)
 rw [Int.one_mul] at h
 exact h
theorem or_byte {n : Int} {c : UInt8} (h0 : 0 ≤ n) (h1 : n < 72057594037927936) : bitsI .or .u64 (IntKind.wrap .u64 (n * (256 : Int))) (IntKind.wrap .u64 (c.toNat : Int)) = n * 256 + (c.toNat : Int) := by
 have hc : c.toNat < 256 := c.toNat_lt
 rw [w64_id (n := n * 256) (by omega) (by omega), w64_id (n := (c.toNat : Int)) (by omega) (by omega)]
 obtain ⟨m, rfl⟩ := Int.eq_ofNat_of_zero_le h0
 have hb : IntKind.bits .u64 = 64 := rfl
 have e : (BitVec.ofInt 64 ((m : Int) * 256) ||| BitVec.ofInt 64 (c.toNat : Int)).toNat = m * 256 + c.toNat := by
  have e1 : (BitVec.ofInt 64 ((m : Int) * 256)) = BitVec.ofNat 64 (m * 256) := by rw [← BitVec.ofInt_natCast]; rfl
  have e2 : (BitVec.ofInt 64 (c.toNat : Int)) = BitVec.ofNat 64 c.toNat := by rw [← BitVec.ofInt_natCast]
  rw [e1, e2, BitVec.toNat_or, BitVec.toNat_ofNat, BitVec.toNat_ofNat, Nat.mod_eq_of_lt (by omega), Nat.mod_eq_of_lt (by omega)]
  have h8 := Nat.two_pow_add_eq_or_of_lt (i := 8) (b := c.toNat) (by omega) m
  have h9 : 2 ^ 8 * m = m * 256 := by omega
  rw [h9] at h8
  omega
 show IntKind.wrap .u64 ((BitVec.ofInt 64 ((m : Int) * 256) ||| BitVec.ofInt 64 (c.toNat : Int)).toNat : Int) = _
 rw [e, w64_id (by omega) (by omega)]
 omega
theorem take_snoc (bs : List UInt8) (i : Nat) (h : i < bs.length) : bs.take (i + 1) = bs.take i ++ [bs[i]] := by
 rw [List.take_add_one, List.getElem?_eq_getElem h]; rfl
theorem pow256 {a b : Nat} (h : a ≤ b) : (256 : Int) ^ a ≤ 256 ^ b := by
 have h1 := Int.ofNat_le.2 (Nat.pow_le_pow_right (n := 256) (by omega) h)
 rw [Int.natCast_pow, Int.natCast_pow] at h1
 exact h1
theorem val_lt7 (bs : List UInt8) (i : Nat) (hi : i < 8) (hl : i ≤ bs.length) : 0 ≤ valL (bs.take i) ∧ valL (bs.take i) < 72057594037927936 := by
 have h := valL_range (bs.take i)
 have hle : (256 : Int) ^ (bs.take i).length ≤ 256 ^ 7 := pow256 (by rw [List.length_take]; omega)
 have h7 : (256 : Int) ^ 7 = 72057594037927936 := rfl
 rw [h7] at hle
 exact ⟨h.1, Int.lt_of_lt_of_le h.2 hle⟩
theorem bin_Get_c {w : World} {v : Value} {bs : List UInt8} {a n : Int} {R : KV} (hr : RdB w v bs) (ha : Fits .i64 a) (hn : Fits .i64 n)
 (k : R (.tuple #[.int .u64 (getV bs a n), .bool (getB bs.length a n)]) w) : CW.Spec Tryz.prog 185 #[v, .int .i64 a, .int .i64 n] w R := by
 apply q1W
 have hle := hr.le
 rw [List.length_map] at hle
 have ha' := ha.i64
 have hn' := hn.i64
 refine JoinP.bool (fun b w' => b = !(getB bs.length a n) ∧ w' = w) (fun j hj => ?_) ?_
 · refine cond_intro (fun h => hj _ _ ⟨?_, rfl⟩) (fun h => cond_intro (fun h' => hj _ _ ⟨?_, rfl⟩) (fun h' => cond_intro (fun h2 => hj _ _ ⟨?_, rfl⟩) (fun h2 => ⟨_, hr.len, cond_intro (fun h3 => hj _ _ ⟨?_, rfl⟩) (fun h3 => ⟨_, hr.len, hj _ _ ⟨?_, rfl⟩⟩)⟩)))
   all_goals clear hj k hr ha hn
   all_goals rw [Bool.eq_iff_iff]; simp only [getB, inW, decide_eq_true_eq, decide_eq_false_iff_not, Bool.not_eq_true', Bool.and_eq_false_iff, Bool.and_eq_true, true_iff] at *
   · omega
   · omega
   · omega
   · omega
   · rw [wi64_id (by omega) (by omega)]; omega
 · rintro b w' ⟨rfl, rfl⟩
   refine cond_intro (fun h => ?_) (fun h => ?_)
   · simp only [Bool.not_eq_true'] at h
     rw [getV, h] at k; exact k
   · simp only [Bool.not_eq_false'] at h
     have hh : (1 ≤ n ∧ n ≤ 8) ∧ 0 ≤ a ∧ a + n ≤ bs.length := by simpa [getB, inW, and_assoc] using h
     rw [getV, h] at k
     rw [wi64_id (n := a + n) (by omega) (by omega)]
     obtain ⟨v', hs, hr', _⟩ := Rd.sub hr (l := a.toNat) (r := (a + n).toNat) (fun cap hc => bounds_ii (k := .i64) (k' := .i64) hh.2.1 (by omega) (by simp at hc; omega)) (by omega) (by simp; omega)
     have hr2 : RdB w' v' ((bs.drop a.toNat).take n.toNat) := by
      have e : (a + n).toNat - a.toNat = n.toNat := by omega
      rw [e] at hr'; simpa [RdB, List.map_take, List.map_drop] using hr'
     generalize hcs : (bs.drop a.toNat).take n.toNat = cs at hr2 k
     have hcl : cs.length = n.toNat := by rw [← hcs]; simp; omega
     refine ⟨v', hs, cs.length, hr2.len, ?_⟩
     refine ⟨fun (x : Int) (i : Int) (ww : World) => ww = w' ∧ 0 ≤ i ∧ i ≤ n ∧ x = valL (cs.take i.toNat), fun (x : Int) (i : Int) (ww : World) => (n - i).toNat, ?_, ?_⟩
     · dsimp only
       exact ⟨rfl, by omega, by omega, by simp [valL]⟩
     · dsimp only [allR, mapR2, eqN, ltN]
       rintro m x i ww ⟨⟨rfl, h0, h1, hx⟩, hm⟩
       refine cond_intro (fun h2 => ?_) (fun h2 => ?_)
       · simp at h2
         obtain ⟨ad, h3, h4⟩ := hr2.at h0 h2
         refine ⟨ad, h3, _, h4, ?_⟩
         have hv := val_lt7 cs i.toNat (by omega) (by omega)
         subst hx
         rw [or_byte hv.1 hv.2, wi64_id (n := i + 1) (by omega) (by omega)]
         refine ⟨⟨rfl, by omega, by omega, ?_⟩, by omega⟩
         have e : (i + 1).toNat = i.toNat + 1 := by omega
         rw [e, take_snoc cs i.toNat (by omega), valL_snoc]
       · simp at h2
         rw [List.take_of_length_le (by omega)] at hx
         subst hx; exact k
theorem pow2_256 (n : Nat) : (2 : Int) ^ (8 * n) = 256 ^ n := by rw [Int.pow_mul]; rfl
theorem fold_putL (v : Int) (hv : 0 ≤ v) (n : Nat) : ∀ acc : Int, (putL v n).foldl (fun (v : Int) c => v * 256 + (c.toNat : Int)) acc = acc * 256 ^ n + v % 256 ^ n := by
 obtain ⟨m, rfl⟩ := Int.eq_ofNat_of_zero_le hv
 induction n with
 | zero => intro acc; simp [putL, Int.emod_one]
 | succ n ih =>
   intro acc
   rw [putL, List.foldl_cons, ih, byt_toNat, pow2_256]
   have h1 : ((m : Int) % 256 ^ (n + 1)) = (m : Int) % 256 ^ n + 256 ^ n * ((m : Int) / 256 ^ n % 256) := by
    have h2 := Nat.mod_mul (x := m) (a := 256 ^ n) (b := 256)
    have h3 := congrArg (Nat.cast : Nat → Int) h2
    simp only [Int.natCast_emod, Int.natCast_mul, Int.natCast_add, Int.natCast_pow, Int.natCast_ediv] at h3
    rw [Int.pow_succ]
    exact h3
   rw [h1, Int.pow_succ, Int.add_mul, Int.mul_assoc, Int.mul_comm 256 (256 ^ n), Int.mul_comm ((m : Int) / 256 ^ n % 256)]
   omega
theorem valL_putL (v : Int) (hv : 0 ≤ v) (n : Nat) : valL (putL v n) = v % 256 ^ n := by
 have h := fold_putL v hv n 0
 rw [Int.zero_mul, Int.zero_add] at h
 exact h
theorem getV_at {pre post : List UInt8} {x : Int} {n : Nat} (hx : 0 ≤ x) (hn : 1 ≤ n ∧ n ≤ 8) {a : Int} (ha : a = (pre.length : Int)) : getV (pre ++ putL x n ++ post) a (n : Int) = x % 256 ^ n := by
 have hb : getB (pre ++ putL x n ++ post).length a (n : Int) = true := by
  simp only [getB, inW, Bool.and_eq_true, decide_eq_true_eq, List.length_append, putL_length]
  omega
 have e1 : (((pre ++ putL x n ++ post).drop a.toNat).take ((n : Int).toNat)) = putL x n := by
  have : a.toNat = pre.length := by omega
  rw [this, Int.toNat_natCast, List.append_assoc, List.drop_left, List.take_left' (putL_length x n)]
 simp only [getV, hb, cond_true]
 rw [e1, valL_putL x hx]
theorem getV_range (bs : List UInt8) (a n : Int) : 0 ≤ getV bs a n ∧ getV bs a n < 256 ^ n.toNat := by
 unfold getV
 cases h : getB bs.length a n
 · simp only [cond_false]
   exact ⟨by omega, Int.pow_pos (by omega)⟩
 · simp only [cond_true]
   have h1 := valL_range ((bs.drop a.toNat).take n.toNat)
   refine ⟨h1.1, Int.lt_of_lt_of_le h1.2 (pow256 ?_)⟩
   rw [List.length_take]; omega
end Go.Proofs.YtdinpgnjnleioaaGreatDoor
