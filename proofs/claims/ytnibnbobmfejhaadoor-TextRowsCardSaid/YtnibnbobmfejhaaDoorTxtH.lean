/- Name, Lesser, Greater, known. -/
import Derived.Test.YtnibnbobmfejhaaDoorTxtG
set_option linter.unusedVariables false
set_option linter.unusedSimpArgs false
set_option maxRecDepth 100000
namespace Go.Proofs.YtnibnbobmfejhaaDoor
open Go Go.CW Go.RowKit

def nameB (c : UInt8) : Bool := (decide ((c.toNat : Int) ≥ 97) && decide ((c.toNat : Int) ≤ 122)) || ((decide ((c.toNat : Int) ≥ 48) && decide ((c.toNat : Int) ≤ 57)) || (((c.toNat : Int) == 46) || (((c.toNat : Int) == 45) || ((c.toNat : Int) == 58))))
def iqnL : List UInt8 := [105, 113, 110, 46]
def nameT (l : List UInt8) : Bool := hasP l iqnL && (!decide (l.drop 4 = []) && (decide (((l.drop 4).length : Int) ≤ 219) && (l.drop 4).all nameB))

theorem name_1_c {w : World} {c : UInt8} {R : KV} (k : R (.bool (nameB c)) w) : Go.CW.Spec Tryd.prog 33 #[.int .u8 (c.toNat : Int)] w R := by
  apply text_Name_1_wp
  unfold nameB at k
  refine JoinP.go (inside_c ⟨_, rfl, cond_intro (fun h => ?_) (fun h => inside_c ⟨_, rfl, cond_intro (fun h2 => ?_) (fun h2 => cond_intro (fun h3 => ?_) (fun h3 => cond_intro (fun h4 => ?_) (fun h4 => ?_)))⟩)⟩)
  · rw [h] at k; exact k
  · rw [h, h2] at k; exact k
  · rw [h, h2, h3] at k; exact k
  · rw [h, h2, h3, h4] at k; exact k
  · rw [h, h2, h3, h4] at k; exact k

theorem Name_c {w : World} {l : List UInt8} {R : KV} (hl : l.length ≤ 1000000) (k : ∀ w', Grow w w' → R (.bool (nameT l)) w') : Go.CW.Spec Tryd.prog 18 #[.string (textOf l)] w R := by
  apply text_Name_wp
  unfold nameT at k
  unfold text_Name_F
  rw [mk_text]
  refine CutPrefix_c (p := iqnL) (by omega) (by simp [iqnL]) ⟨_, _, rfl, JoinP.go (cond_intro (fun h => ?_) (fun h => ?_))⟩
  · rw [h] at k
    rw [h, cond_true]
    have e4 : iqnL.length = 4 := rfl
    rw [e4]
    refine cond_intro (fun h2 => ?_) (fun h2 => ?_)
    · rw [text_eqb] at h2
      have h2' : decide (l.drop 4 = []) = false := by simpa using h2
      rw [h2'] at k
      refine cond_intro (fun h3 => ?_) (fun h3 => ?_)
      · rw [textOf_size] at h3
        rw [h3] at k
        exact of_c (p := nameB) (by simp; omega) (fun c ww K gw kk => callU_of (by kernel_rfl) (name_1_c (kk _ (Grow.refl _)))) fun w8 g8 => ⟨_, rfl, k _ g8⟩
      · rw [textOf_size] at h3
        rw [h3] at k
        exact k _ (Grow.refl _)
    · rw [text_eqb] at h2
      have h2' : decide (l.drop 4 = []) = true := by simpa using h2
      rw [h2'] at k
      exact k _ (Grow.refl _)
  · rw [h] at k
    exact k _ (Grow.refl _)

/-! ### Lesser, Greater -/
def pickL (g : Int → Int → Int) (a b : List UInt8) : List UInt8 := bif isN a && isN b then Lib.itoa (g (numN a) (numN b)) else []
theorem numN_lt (l : List UInt8) : numN l < 68719476736 := by
  unfold numN
  cases h : isN l with
  | false => simp
  | true =>
    rw [cond_true]
    unfold isN at h
    simp only [Bool.and_eq_true, decide_eq_true_eq, Bool.not_eq_true'] at h
    have hm : mostL l ≤ 9 := by unfold mostL; cases hexL l <;> simp
    exact val_small (by unfold baseL; cases hexL l <;> simp) (by omega) h.2.2.2

theorem numbers_c {w : World} {a b : List UInt8} {f : Value} {g : Int → Int → Int} {R : KV} (hE : Env w) (ha : a.length ≤ 1000000) (hb : b.length ≤ 1000000)
    (hf : ∀ (x y : Int) (ww : World) (K : KV), K (.int .i64 (g x y)) ww → callU Tryd.prog f #[.int .i64 x, .int .i64 y] ww K) (hg : ∀ x y, g x y = x ∨ g x y = y)
    (k : ∀ w', Grow w w' → R (.tuple #[.string (textOf (pickL g a b)), .bool (isN a && isN b)]) w') : Go.CW.Spec Tryd.prog 30 #[.string (textOf a), .string (textOf b), f] w R := by
  apply text_numbers_wp
  unfold pickL at k
  refine Number_c ha fun w1 g1 => ⟨_, _, rfl, Number_c hb fun w5 g5 => ⟨_, _, rfl, ?_⟩⟩
  have la := numN_lt a
  have lb := numN_lt b
  refine JoinP.bool (fun x w' => x = !(isN a && isN b) ∧ w' = w5) (fun j hj => ?_) ?_
  · refine cond_intro (fun h => hj _ _ ⟨?_, rfl⟩) (fun h => hj _ _ ⟨?_, rfl⟩)
    · simp only [Bool.not_eq_true'] at h; rw [h]; rfl
    · simp only [Bool.not_eq_false'] at h; rw [h]; rfl
  rintro x w9 ⟨rfl, rfl⟩
  refine cond_intro (fun h => ?_) (fun h => ?_)
  · simp only [Bool.not_eq_true'] at h
    rw [h] at k
    exact k _ (g1.then g5)
  · simp only [Bool.not_eq_false'] at h
    rw [h] at k
    refine hf _ _ _ _ ⟨_, rfl, itoa_c (hE.grow (g1.then g5)).tab (by rcases hg (numN a) (numN b) with e | e <;> (rw [e]; exact Fits.of_wf (by simp [Lit.wf, IntKind.min, IntKind.max, IntKind.signed, IntKind.bits]; omega))) fun w14 g14 => ⟨_, rfl, k _ ((g1.then g5).then g14)⟩⟩

def minG (x y : Int) : Int := if y < x then y else x
def maxG (x y : Int) : Int := if x < y then y else x

theorem Lesser_c {w : World} {a b : List UInt8} {R : KV} (hE : Env w) (ha : a.length ≤ 1000000) (hb : b.length ≤ 1000000)
    (k : ∀ w', Grow w w' → R (.tuple #[.string (textOf (pickL minG a b)), .bool (isN a && isN b)]) w') : Go.CW.Spec Tryd.prog 16 #[.string (textOf a), .string (textOf b)] w R := by
  apply text_Lesser_wp
  refine numbers_c hE ha hb (fun x y ww K kk => callU_of (by kernel_rfl) ?_) (fun x y => by unfold minG; split <;> simp) fun w' g' => ⟨_, _, rfl, k _ g'⟩
  apply text_Lesser_1_wp
  exact kk
theorem Greater_c {w : World} {a b : List UInt8} {R : KV} (hE : Env w) (ha : a.length ≤ 1000000) (hb : b.length ≤ 1000000)
    (k : ∀ w', Grow w w' → R (.tuple #[.string (textOf (pickL maxG a b)), .bool (isN a && isN b)]) w') : Go.CW.Spec Tryd.prog 17 #[.string (textOf a), .string (textOf b)] w R := by
  apply text_Greater_wp
  refine numbers_c hE ha hb (fun x y ww K kk => callU_of (by kernel_rfl) ?_) (fun x y => by unfold maxG; split <;> simp) fun w' g' => ⟨_, _, rfl, k _ g'⟩
  apply text_Greater_1_wp
  exact kk

/-! ### known -/
theorem one_rd (w : World) (p : Pr) {w' : World} (e : w' = World.alloc w (.cells #[.string (textOf p.1), .string (textOf p.2)] tP)) : RdR EP w' (.slice (some ⟨w.heap.size, 0, none⟩) 1 1) [p] ∧ Grow w w' := by
  obtain ⟨b25, g25, _⟩ := alE e
  refine ⟨⟨some ⟨w.heap.size, 0, none⟩, 1, rfl, by simp, by simp [maxLen], (fun h => (by cases h)), fun q u hq => ⟨_, rfl, ?_⟩⟩, g25⟩
  rw [b25.cell]
  have : EP.flat [p] = [.string (textOf p.1), .string (textOf p.2)] := by simp [Enc.flat, EP]
  rw [this] at hq
  rw [← hq]
  simp

theorem known_s {w : World} (hE : Env w) : Go.CW.Spec Tryd.prog 7 #[] w (Law w) := by
  apply gemellaw3_known_wp
  refine nm fun w0 e0 => ?_
  obtain ⟨r0, g0⟩ := one_rd w ([65], [49]) e0
  have sm : SmP [(([65], [49]) : Pr)] := ⟨by simp, by simp, by simp, by decide +kernel⟩
  refine Encode_c r0 sm (fun h => absurd h (by decide +kernel)) fun _ v3 w2 g2 r2 => ⟨_, _, rfl, ?_⟩
  refine Decode_c (hE.grow (g0.then g2)) r2 sm (by intro p hp; simp only [List.mem_singleton] at hp; subst hp; decide +kernel) (fun h => absurd h (by decide +kernel)) fun _ v7 w6 g6 r6 => ⟨_, _, rfl, ?_⟩
  have g026 := (g0.then g2).then g6
  unfold Law
  rw [mk_text #[48, 120, 49, 70], mk_text #[49, 50], mk_text #[48, 120, 48, 98], mk_text #[105, 113, 110, 46, 97, 58, 98]]
  refine Number_c (by simp) fun w10 g10 => ⟨_, _, rfl, Lesser_c (hE.grow (g026.then g10)) (by simp) (by simp) fun w14 g14 => ⟨_, _, rfl, ?_⟩⟩
  have g14' := (g026.then g10).then g14
  refine JoinP.bool (fun b w' => b = true ∧ Grow w w') (fun j hj => ?_) (fun b w' hb => ?_)
  · refine cond_t rfl ⟨_, r6.len, cond_t rfl ?_⟩
    obtain ⟨a, ha, hc⟩ := r6.at (i := 0) (by omega) (by simp)
    have hc1 := ((RdR.grow r6 (g10.then g14)).at (i := 0) (by omega) (by simp))
    obtain ⟨a', ha', hc'⟩ := hc1
    have ea : a' = a := by rw [ha] at ha'; exact (Option.some.inj ha').symm
    subst ea
    refine ⟨_, ha, textOf [49], (hc'.1 1 (by simp [EP])).trans (by simp [EP]), cond_t (by rw [text_eqb]; decide) (cond_t (by decide +kernel) (cond_t (by decide +kernel) (cond_t (by decide +kernel) (cond_t ?_ (Name_c (by simp) fun w24 g24 => ⟨_, rfl, hj _ _ ⟨by decide +kernel, g14'.then g24⟩⟩)))))⟩
    rw [text_eqb]; decide +kernel
  · obtain ⟨rfl, g⟩ := hb
    exact ⟨rfl, g⟩

end Go.Proofs.YtnibnbobmfejhaaDoor
