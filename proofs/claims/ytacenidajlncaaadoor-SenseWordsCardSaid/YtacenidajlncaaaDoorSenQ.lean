/- Text, and the statement SenseWords' contract. -/
import Derived.Test.YtacenidajlncaaaDoorSenP
set_option linter.unusedVariables false
set_option linter.unusedSimpArgs false
set_option maxRecDepth 100000
namespace Go.Proofs.YtacenidajlncaaaDoor
open Go Go.CW Go.RowKit

theorem textOf_app (a b : List UInt8) : textOf a ++ textOf b = textOf (a ++ b) := ByteArray.ext (by simp [textOf])
theorem textOf_size (a : List UInt8) : (textOf a).size = a.length := by simp [textOf, ByteArray.size]

def goodL : List UInt8 := [103, 111, 111, 100]
def confL : List UInt8 := [99, 111, 110, 102, 108, 105, 99, 116]
def busyL : List UInt8 := [98, 117, 115, 121]
def checkL : List UInt8 := [99, 104, 101, 99, 107, 32]
def statL : List UInt8 := [115, 116, 97, 116, 117, 115, 32]
def textL (st key code : Int) : List UInt8 :=
  bif st == 0 then goodL else bif st == 24 then confL else bif st == 8 then busyL else bif st == 2 then ((checkL ++ Lib.itoa key) ++ [32]) ++ Lib.itoa code else statL ++ Lib.itoa st

theorem itoa_le {n : Int} (h : Fits .i64 n) : (Lib.itoa n).length ≤ 21 := by
  have := h.i64
  exact Lib.itoa_length_le n (by omega) (by omega)

theorem Text_c {w : World} {st key code info : Int} {d : Value} {R : KV} (ht : Tab w) (hs : Fits .i64 st) (hk : Fits .i64 key) (hc : Fits .i64 code) (k : ∀ w', Grow w w' → R (.string (textOf (textL st key code))) w') :
    Go.CW.Spec Tryd.prog 5 #[.agg #[.int .i64 st, .int .i64 key, .int .i64 code, d, .int .i64 info]] w R := by
  apply sense_Text_wp
  refine nm fun w0 e0 => ?_
  obtain ⟨b0, g0, _⟩ := alE e0
  unfold textL at k
  refine ⟨_, b0.cell 0, cond_intro (fun h => ?_) (fun h => cond_intro (fun h2 => ?_) (fun h2 => cond_intro (fun h3 => ?_) (fun h3 => cond_intro (fun h4 => ?_) (fun h4 => ?_))))⟩
  · rw [h] at k; exact k _ g0
  · rw [h, h2] at k; exact k _ g0
  · rw [h, h2, h3] at k; exact k _ g0
  · rw [h, h2, h3, h4] at k
    refine nm fun w2 e2 => ?_
    have g2 := g0.then (drE e2)
    have b2 := b0.grow (drE e2)
    refine ⟨_, b2.cell 1, _, b2.cell 2, nm fun w5 e5 => ?_⟩
    have g5 := g0.then (drE e5)
    have b5 := b0.grow (drE e5)
    refine itoa_c (ht.grow g5) hk fun w7 g7 => ⟨_, rfl, ⟨_, (b5.grow g7).cell 2, rfl⟩, ?_⟩
    have l1 := itoa_le hk
    have l2 := itoa_le hc
    refine ⟨by rw [textOf_size]; omega, ?_⟩
    rw [show (ByteArray.mk #[99, 104, 101, 99, 107, 32]) = textOf checkL from rfl, textOf_app, show (ByteArray.mk #[32]) = textOf [32] from rfl, textOf_app]
    refine ⟨by rw [textOf_size, List.length_append]; simp [checkL]; omega, itoa_c (ht.grow (g5.then g7)) hc fun w11 g11 => ⟨_, rfl, ?_⟩⟩
    rw [textOf_app]
    exact ⟨by simp only [textOf_size, List.length_append]; simp [checkL]; omega, k _ ((g5.then g7).then g11)⟩
  · rw [h, h2, h3, h4] at k
    refine ⟨_, b0.cell 0, itoa_c (ht.grow g0) hs fun w7 g7 => ⟨_, rfl, ?_⟩⟩
    have l1 := itoa_le hs
    rw [show (ByteArray.mk #[115, 116, 97, 116, 117, 115, 32]) = textOf statL from rfl, textOf_app]
    exact ⟨by rw [textOf_size]; omega, k _ (g0.then g7)⟩

/-! ### the law -/
theorem split_at {a b c d : List UInt8} {x : UInt8} (ha : x ∉ a) (hc : x ∉ c) (h : a ++ x :: b = c ++ x :: d) : a = c ∧ b = d := by
  induction a generalizing c with
  | nil =>
    cases c with
    | nil => simpa using h
    | cons y c =>
      rw [List.nil_append, List.cons_append] at h
      have := (List.cons.inj h).1
      exact absurd (by rw [this]; simp) hc
  | cons z a ih =>
    cases c with
    | nil =>
      rw [List.nil_append, List.cons_append] at h
      have := (List.cons.inj h).1
      exact absurd (by rw [this]; simp) ha
    | cons y c =>
      rw [List.cons_append, List.cons_append] at h
      obtain ⟨h1, h2⟩ := List.cons.inj h
      obtain ⟨h3, h4⟩ := ih (fun hm => ha (by simp [hm])) (fun hm => hc (by simp [hm])) h2
      exact ⟨by rw [h1, h3], h4⟩

theorem no_space (n : Int) : (32 : UInt8) ∉ Lib.itoa n := fun h => by
  have := itoa_dig n 32 h
  simp at this

theorem check_inj {k c l d : Int} : ((checkL ++ Lib.itoa k) ++ [32]) ++ Lib.itoa c = ((checkL ++ Lib.itoa l) ++ [32]) ++ Lib.itoa d ↔ k = l ∧ c = d := by
  constructor
  · intro h
    simp only [List.append_assoc] at h
    have h := List.append_cancel_left h
    obtain ⟨h1, h2⟩ := split_at (no_space k) (no_space l) h
    exact ⟨itoa_inj h1, itoa_inj h2⟩
  · rintro ⟨rfl, rfl⟩; rfl

theorem stat_inj {s t : Int} : statL ++ Lib.itoa s = statL ++ Lib.itoa t ↔ s = t := by
  constructor
  · intro h; exact itoa_inj (List.append_cancel_left h)
  · rintro rfl; rfl

def sameB (a b s t k l : Int) : Bool := bif s == t then (bif s != 2 then true else bif a == b then k == l else false) else false

theorem words_law (a b s t k l : Int) : (textL s k a = textL t l b) ↔ sameB a b s t k l = true := by
  have hd : ∀ {x y : List UInt8}, x.head? ≠ y.head? → x ≠ y := fun h e => h (by rw [e])
  unfold textL sameB
  have key : ∀ x : Int, (x = 0 ∨ x = 24 ∨ x = 8 ∨ x = 2 ∨ (x ≠ 0 ∧ x ≠ 24 ∧ x ≠ 8 ∧ x ≠ 2)) := fun x => by omega
  have hstat : ∀ n : Int, statL ++ Lib.itoa n ≠ goodL ∧ statL ++ Lib.itoa n ≠ confL ∧ statL ++ Lib.itoa n ≠ busyL ∧ ∀ x, statL ++ Lib.itoa n ≠ checkL ++ x := fun n =>
    ⟨hd (by simp [statL, goodL]), hd (by simp [statL, confL]), hd (by simp [statL, busyL]), fun x => hd (by simp [statL, checkL])⟩
  have hchk : ∀ x, checkL ++ x ≠ goodL ∧ checkL ++ x ≠ busyL ∧ checkL ++ x ≠ confL := fun x => ⟨hd (by simp [checkL, goodL]), hd (by simp [checkL, busyL]), fun e => by simp [checkL, confL] at e⟩
  have e1 : goodL ≠ confL := by decide
  have e2 : goodL ≠ busyL := by decide
  have e3 : confL ≠ busyL := by decide
  rcases key s with rfl | rfl | rfl | rfl | ⟨s1, s2, s3, s4⟩ <;> rcases key t with rfl | rfl | rfl | rfl | ⟨t1, t2, t3, t4⟩
  all_goals simp only [beq_self_eq_true, cond_true, cond_false, bne_self_eq_false, Bool.not_eq_true, Int.reduceBEq, Int.reduceBNe, beq_eq_false_iff_ne.2, bne_iff_ne.2, ne_eq, not_false_eq_true, *, List.append_assoc]
  all_goals try simp only [e1, e1.symm, e2, e2.symm, e3, e3.symm, hchk, (hchk _).1.symm, (hchk _).2.1.symm, (hchk _).2.2.symm, iff_self, Bool.false_eq_true, iff_true, iff_false, ne_eq, not_false_eq_true, hstat, (hstat _).1.symm, (hstat _).2.1.symm, (hstat _).2.2.1.symm, fun n x => ((hstat n).2.2.2 x).symm]
  · rw [beq_eq_false_iff_ne.2 (Ne.symm t1)]; simp
  · rw [beq_eq_false_iff_ne.2 (Ne.symm t2)]; simp
  · rw [beq_eq_false_iff_ne.2 (Ne.symm t3)]; simp
  · have h := check_inj (k := k) (c := a) (l := l) (d := b)
    simp only [List.append_assoc] at h
    rw [h]
    by_cases hab : a = b <;> by_cases hkl : k = l <;> simp [hab, hkl]
  · rw [beq_eq_false_iff_ne.2 (Ne.symm t4)]; simp
  · rw [stat_inj]
    by_cases hst : s = t <;> simp [hst]

/-! ### known, the statement -/
theorem text_beq' (a b : List UInt8) : ((textOf a).toList == (textOf b).toList) = decide (a = b) := by
  rw [textOf_toList, textOf_toList, Bool.eq_iff_iff]; simp

theorem known_s {w : World} (ht : Tab w) : Go.CW.Spec Tryd.prog 4 #[] w (Law w) := by
  apply gemellaw5_known_wp
  refine Encode_c fun v0 w1 g1 o1 => Decode_c o1.rd ⟨_, _, _, _, rfl, ?_⟩
  have hd : decS (encS 14 7424 7) = (14, 7424, 7, 0) := by decide +kernel
  rw [hd]
  refine Inquiry_c fun v8 w9 g9 o9 => Wrong_c fun w11 g11 => ⟨_, _, _, _, _, rfl, nm fun w17 e17 => ?_⟩
  obtain ⟨b17, g17, _⟩ := alE e17
  refine ⟨b17.row rfl rfl, nm fun w18 e18 => ?_⟩
  obtain ⟨b18, t18⟩ := rowE b17 e18 rfl
  have g18 : Grow w11 w18 := Below.turn g17 t18 (Nat.le_refl _)
  refine nm fun w19 e19 => ?_
  obtain ⟨w21, k21, g21, r21⟩ := conv_lit (P := Tryd.prog) (t := tB) (e := tb) (by kernel_rfl) (by kernel_rfl) w18 [120] 1 rfl (by simp [maxLen])
  subst e19
  refine ⟨_, w21, k21, Good_c r21 (by simp) fun v22 w23 g23 r22 n22 => ⟨_, _, _, _, _, rfl, nm fun w29 e29 => ?_⟩⟩
  obtain ⟨b29, g29, _⟩ := alE e29
  have one : isOne v22 = true := Rd.isOne r22
  refine ⟨b29.row rfl (by simp [oneL, one]; rfl), nm fun w30 e30 => ?_⟩
  obtain ⟨b30, t30⟩ := rowE b29 e30 rfl
  have g30 : Grow w23 w30 := Below.turn g29 t30 (Nat.le_refl _)
  have ga : Grow w1 w11 := g9.then g11
  have gb : Grow w18 w30 := (g21.then g23).then g30
  have gc : Grow w w30 := ((g1.then ga).then g18).then gb
  refine JoinP.bool (fun b w' => b = true ∧ Grow w w') (fun j hj => ?_) (fun b w' hb => ?_)
  · refine cond_t rfl (cond_t rfl (cond_t rfl (cond_t rfl ?_)))
    have r9 : RdB w30 v8 inqL := (((o9.rd.grow g11).grow g18).grow gb)
    refine ⟨_, r9.len, cond_t rfl ?_⟩
    obtain ⟨a, ha, hc⟩ := rdAt r9 8 (by decide)
    refine ⟨a, ha, _, hc, cond_t (by decide +kernel) ?_⟩
    have b18' : BK w30 w11.heap.size _ _ := b18.grow gb
    refine ⟨_, _, _, _, _, b18'.ld rfl, Text_c (ht.grow gc) (Fits.of_wf (by decide)) (Fits.of_wf (by decide)) (Fits.of_wf (by decide)) fun w43 g43 => ⟨_, rfl, ?_⟩⟩
    refine cond_t ?_ ⟨_, (b30.grow g43).cell 3, _, to_text ((r22.grow g30).grow g43), cond_t ?_ ⟨_, (b30.grow g43).cell 0, hj _ _ ⟨rfl, gc.then g43⟩⟩⟩
    · rw [show (ByteArray.mk #[99, 104, 101, 99, 107, 32, 53, 32, 56, 49, 57, 50]) = textOf [99, 104, 101, 99, 107, 32, 53, 32, 56, 49, 57, 50] from rfl, text_beq']
      decide +kernel
    · rw [show (ByteArray.mk #[120]) = textOf [120] from rfl, text_beq']
      decide +kernel
  · obtain ⟨rfl, g⟩ := hb
    exact ⟨rfl, g⟩

theorem senseWords_s {w : World} (ht : Tab w) {a b s t k l : Int} (ha : Fits .i64 a) (hb : Fits .i64 b) (hs : Fits .i64 s) (h4 : Fits .i64 t) (hk : Fits .i64 k) (hl : Fits .i64 l) :
    Go.CW.Spec Tryd.prog 3 #[.int .i64 a, .int .i64 b, .int .i64 s, .int .i64 t, .int .i64 k, .int .i64 l] w (Law w) := by
  apply gemellaw5_SenseWords_wp
  refine (known_s ht).mono fun v w1 ⟨hv, g1⟩ => ⟨true, hv, cond_f rfl ?_⟩
  refine Text_c (ht.grow g1) hs hk ha fun w4 g4 => ⟨_, rfl, Text_c (ht.grow (g1.then g4)) h4 hl hb fun w7 g7 => ⟨_, rfl, ?_⟩⟩
  refine JoinP.bool (fun x w' => x = sameB a b s t k l ∧ w' = w7) (fun j hj => ?_) ?_
  · refine cond_intro (fun h => cond_intro (fun h2 => hj _ _ ⟨?_, rfl⟩) (fun h2 => cond_intro (fun h3 => hj _ _ ⟨?_, rfl⟩) (fun h3 => hj _ _ ⟨?_, rfl⟩))) (fun h => hj _ _ ⟨?_, rfl⟩)
    all_goals simp only [sameB, *, cond_true, cond_false]
  rintro x w10 ⟨rfl, rfl⟩
  refine ⟨?_, (g1.then g4).then g7⟩
  rw [text_beq']
  have h := words_law a b s t k l
  congr 1
  cases hx : sameB a b s t k l
  · rw [hx] at h; simp [h]
  · rw [hx] at h; simp [h]

end Go.Proofs.YtacenidajlncaaaDoor
