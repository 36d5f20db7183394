/- ParseInt of numerals; Number. -/
import Derived.Test.YtnibnbobmfejhaaDoorTxtP
set_option linter.unusedVariables false
set_option linter.unusedSimpArgs false
set_option maxRecDepth 100000
namespace Go.Proofs.YtnibnbobmfejhaaDoor
open Go Go.CW Go.RowKit

theorem okD_pos {b : Int} {c : UInt8} (h : okD b c = true) : 48 ≤ c.toNat := by
  unfold okD decD hexD at h
  simp at h
  omega

theorem nil_neq (w : World) : Sem.run Tryd.prog (binOp BinOp.neq 51 .nilIface .nilIface) w = .ok (.bool false) w := by rfl
theorem nil_guard (w : World) (a : Operand) (v : Value) : Sem.run Tryd.prog (eqGuard BinOp.neq 51 a (.const v) .nilIface .nilIface) w = .ok PUnit.unit w := by
  simp [eqGuard]

theorem val_small {b : Nat} (hb : b = 10 ∨ b = 16) {l : List UInt8} (hl : l.length ≤ 9) (ha : l.all (okD (b : Int)) = true) : valD b l < 68719476736 := by
  have q1 : b ≤ 16 := by rcases hb with rfl | rfl <;> decide
  have q3 : b ^ l.length ≤ 16 ^ l.length := Nat.pow_le_pow_left q1 _
  have q4 : 16 ^ l.length ≤ 16 ^ 9 := Nat.pow_le_pow_right (by decide) hl
  exact Nat.lt_of_lt_of_le (valD_lt hb l ha) (Nat.le_trans q3 q4)

theorem iParseInt_c {w : World} {l : List UInt8} {b : Nat} {R : KV} (hb : b = 10 ∨ b = 16) (h0 : l ≠ []) (hl : l.length ≤ 9) (ha : l.all (okD (b : Int)) = true)
    (k : ∀ w', Grow w w' → R (.tuple #[.int .i64 (valD b l : Int), .nilIface]) w') : Go.CW.Spec Tryd.prog 35 #[.string (textOf l), .int .i64 (b : Int), .int .i64 64] w R := by
  apply istrconv_ParseInt_wp
  unfold istrconv_ParseInt_F
  have hlen : 0 < l.length := List.length_pos_iff.2 h0
  refine cond_f (by rw [text_eqb]; simpa using h0) ⟨⟨by omega, by rw [textOf_size]; omega⟩, JoinP.go ?_⟩
  have hg : (textOf l).get! (Int.toNat 0) = l[0]'hlen := by rw [text_get]; simp [List.getD, hlen]
  have h48 := okD_pos (List.all_eq_true.1 ha _ (List.getElem_mem hlen))
  rw [hg]
  refine cond_f (by simp; omega) (cond_f (by simp; omega) ?_)
  refine ParseUint_c hb h0 hl ha fun w5 g5 => ⟨_, _, rfl, ?_⟩
  have hs := val_small hb hl ha
  generalize hv : valD b l = v at *
  refine JoinP.bool (fun x w' => x = false ∧ w' = w5) (fun j hj => ⟨false, nil_neq w5, nil_guard w5, cond_f rfl (hj _ _ ⟨rfl, rfl⟩)⟩) ?_
  rintro x w9 ⟨rfl, rfl⟩
  refine cond_f rfl (JoinP.int (fun n w' => n = 64 ∧ w' = w9) (fun j hj => cond_f rfl (hj _ _ ⟨rfl, rfl⟩)) ?_)
  rintro n w11 ⟨rfl, rfl⟩
  have e63 : (IntKind.wrap .u64 ((1 : Int) * ((2 : Int) ^ (min (Int.toNat (IntKind.wrap .u64 (IntKind.wrap .i64 ((64 : Int) - (1 : Int))))) 64)))) = 9223372036854775808 := by decide +kernel
  refine leK_intro (by decide +kernel) (JoinP.bool (fun x w' => x = false ∧ w' = w11) (fun j hj => cond_t rfl (hj _ _ ⟨by rw [e63]; simp; omega, rfl⟩)) ?_)
  rintro x w13 ⟨rfl, rfl⟩
  refine cond_f rfl (JoinP.bool (fun x w' => x = false ∧ w' = w13) (fun j hj => cond_f rfl (hj _ _ ⟨rfl, rfl⟩)) ?_)
  rintro x w16 ⟨rfl, rfl⟩
  refine cond_f rfl (JoinP.go (cond_f rfl ?_))
  have e : IntKind.wrap .i64 (v : Int) = (v : Int) := wi64_id (by omega) (by omega)
  rw [e]
  exact k _ g5

theorem ParseInt_c {w : World} {l : List UInt8} {b : Nat} {R : KV} (hb : b = 10 ∨ b = 16) (h0 : l ≠ []) (hl : l.length ≤ 9) (ha : l.all (okD (b : Int)) = true)
    (k : ∀ w', Grow w w' → R (.tuple #[.int .i64 (valD b l : Int), .nilIface]) w') : Go.CW.Spec Tryd.prog 23 #[.string (textOf l), .int .i64 (b : Int), .int .i64 64] w R := by
  apply strconv_ParseInt_wp
  refine iParseInt_c hb h0 hl ha fun w1 g1 => ⟨_, _, rfl, false, nil_neq w1, nil_guard w1, cond_f rfl (k _ g1)⟩

/-! ### Number -/
def hexL (l : List UInt8) : Bool := hasP l [48, 120]
def tailL (l : List UInt8) : List UInt8 := bif hexL l then l.drop 2 else l
def baseL (l : List UInt8) : Nat := bif hexL l then 16 else 10
def mostL (l : List UInt8) : Nat := bif hexL l then 7 else 9
/-- is a text a number? -/
def isN (l : List UInt8) : Bool :=
  !(!hexL l && (decide (1 < l.length) && l.getD 0 0 == 48)) && (!(tailL l).isEmpty && (decide ((tailL l).length ≤ mostL l) && (tailL l).all (okD (baseL l : Int))))
def numN (l : List UInt8) : Nat := bif isN l then valD (baseL l) (tailL l) else 0

theorem digit_c {w : World} {g : Nat} {b : Int} {c : UInt8} {K : KV} (hg : BK w g #[.int .i64 b] 3) (k : K (.bool (okD b c)) w) :
    callU Tryd.prog (.func (.func 20) #[] #[.pointer (some ⟨g, 0, none⟩)]) #[.int .u8 (c.toNat : Int)] w K := by
  refine callU_of (by kernel_rfl) ?_
  apply text_Number_1_wp
  have ed : (decide ((c.toNat : Int) ≥ 48) && decide ((c.toNat : Int) ≤ 57)) = decD c := by
    unfold decD; congr 1 <;> (rw [decide_eq_decide]; omega)
  have el : (decide ((c.toNat : Int) ≥ 97) && decide ((c.toNat : Int) ≤ 102)) = (decide (97 ≤ c.toNat) && decide (c.toNat ≤ 102)) := by
    congr 1 <;> (rw [decide_eq_decide]; omega)
  have eu : (decide ((c.toNat : Int) ≥ 65) && decide ((c.toNat : Int) ≤ 70)) = (decide (65 ≤ c.toNat) && decide (c.toNat ≤ 70)) := by
    congr 1 <;> (rw [decide_eq_decide]; omega)
  refine JoinP.go (inside_c ⟨_, rfl, cond_intro (fun h => ?_) (fun h => ?_)⟩)
  · rw [ed] at h
    unfold okD at k
    rw [h] at k
    exact k
  · rw [ed] at h
    unfold okD hexD at k
    rw [h, Bool.false_or] at k
    refine withAddr_some ⟨b, hg.at 0, cond_intro (fun h2 => ?_) (fun h2 => ?_)⟩
    · rw [h2, Bool.true_and] at k
      refine inside_c ⟨_, rfl, cond_intro (fun h3 => ?_) (fun h3 => inside_c ⟨_, rfl, ?_⟩)⟩
      · rw [el] at h3; rw [h3] at k; exact k
      · rw [el] at h3; rw [h3, Bool.false_or] at k; rw [eu]; exact k
    · rw [h2, Bool.false_and] at k
      exact k

theorem Number_c {w : World} {l : List UInt8} {R : KV} (hl : l.length ≤ 1000000) (k : ∀ w', Grow w w' → R (.tuple #[.int .i64 (numN l : Int), .bool (isN l)]) w') :
    Go.CW.Spec Tryd.prog 9 #[.string (textOf l)] w R := by
  apply text_Number_wp
  unfold text_Number_F
  refine nm fun w0 e0 => ?_
  obtain ⟨b0, g0, _⟩ := alE e0
  refine ⟨b0.st1 (j := 0) (by decide), nm fun w1 e1 => ?_⟩
  have e1' : w1 = World.setCell w0 (Addr.add ⟨w.heap.size, 0, none⟩ 0) (.int .i64 10) := by rw [ad0]; exact e1
  obtain ⟨b1, t1⟩ := setE b0 e1'
  have g1 : Grow w w1 := Below.turn g0 t1 (Nat.le_refl _)
  have fin : ∀ (w4 : World) (hB : (BK w4 w.heap.size #[.int .i64 (baseL l : Int)] 3)) (g4 : Grow w w4) (hz : (!hexL l && (decide (1 < l.length) && l.getD 0 0 == 48)) = false),
      JoinP [.bool]
      (fun (b5 : Bool) => fun (w6 : World) =>
        cond b5 (R (.tuple #[(.int .i64 (0 : Int)), (.bool false)]) w6)
        (∃ (n7 : Int), ((Go.World.cell? w6 ⟨w.heap.size, 0, none⟩) = (some (.int .i64 n7))) ∧
          Go.CW.Spec Tryd.prog 23 #[(.string (textOf (tailL l))), (.int .i64 n7), (.int .i64 (64 : Int))] w6 fun v8 w9 =>
          ∃ (n10 : Int) (v11 : Value), ((v8 : Value) = (.tuple #[(.int .i64 n10), v11])) ∧ R (.tuple #[(.int .i64 n10), (.bool true)]) w9))
      (fun j12 =>
        cond (ByteArray.toList (textOf (tailL l)) == ByteArray.toList (ByteArray.mk #[])) (j12 true w4)
        (cond (decide ((((ByteArray.size (textOf (tailL l))) : Nat) : Int) > (mostL l : Int))) (j12 true w4)
          (Go.CW.Spec Tryd.prog 22 #[(.string (textOf (tailL l))), (.func (.func 20) #[] #[(.pointer (some ⟨w.heap.size, 0, none⟩))])] w4 fun v13 w14 =>
            ∃ (b15 : Bool), ((v13 : Value) = (.bool b15)) ∧ j12 (!b15) w14))) := by
    intro w4 hB g4 hz
    have hbase : baseL l = 10 ∨ baseL l = 16 := by unfold baseL; cases hexL l <;> simp
    have hmost : mostL l ≤ 9 := by unfold mostL; cases hexL l <;> simp
    have htl : (tailL l).length ≤ l.length := by unfold tailL; cases hexL l <;> simp
    refine JoinP.bool (fun x w' => x = !(isN l) ∧ Grow w4 w') (fun j hj => ?_) ?_
    · refine cond_intro (fun h => hj _ _ ⟨?_, Grow.refl _⟩) (fun h => cond_intro (fun h2 => hj _ _ ⟨?_, Grow.refl _⟩) (fun h2 => ?_))
      · rw [text_eqb] at h
        have : (tailL l).isEmpty = true := by simpa using h
        unfold isN; rw [hz, this]; simp
      · rw [textOf_size] at h2
        have : decide ((tailL l).length ≤ mostL l) = false := by simp at h2 ⊢; omega
        unfold isN; rw [hz, this]; simp
      · rw [text_eqb] at h
        rw [textOf_size] at h2
        have i1 : (tailL l).isEmpty = false := by simpa using h
        have i2 : decide ((tailL l).length ≤ mostL l) = true := by simp at h2 ⊢; omega
        refine of_c (p := okD (baseL l : Int)) (by omega) (fun c ww K gw kk => digit_c (hB.grow gw) (kk _ (Grow.refl _))) fun w' g' => ⟨_, rfl, hj _ _ ⟨?_, g'⟩⟩
        unfold isN; rw [hz, i1, i2]; simp
    rintro x w6 ⟨rfl, g6⟩
    refine cond_intro (fun h => ?_) (fun h => ?_)
    · simp only [Bool.not_eq_true'] at h
      have := k _ (g4.then g6)
      unfold numN at this
      rw [h] at this
      exact this
    · simp only [Bool.not_eq_false'] at h
      have hq := h
      unfold isN at hq
      simp only [Bool.and_eq_true, decide_eq_true_eq, Bool.not_eq_true'] at hq
      refine ⟨_, (hB.grow g6).at 0, ParseInt_c hbase (fun e => ?_) (by omega) hq.2.2.2 fun w9 g9 => ⟨_, _, rfl, ?_⟩⟩
      · rw [e] at hq; simp at hq
      · have := k _ ((g4.then g6).then g9)
        unfold numN at this
        rw [h] at this
        exact this
  refine JoinP.go (CutPrefix_c (p := [48, 120]) (by omega) (by simp) ⟨_, _, rfl, cond_intro (fun h => ?_) (fun h => ?_)⟩)
  · refine ⟨b1.st1 (j := 0) (by decide), nm fun w21 e21 => ?_⟩
    have e21' : w21 = World.setCell w1 (Addr.add ⟨w.heap.size, 0, none⟩ 0) (.int .i64 16) := by rw [ad0]; exact e21
    obtain ⟨b21, t21⟩ := setE b1 e21'
    have hx : hexL l = true := h
    have e1 : tailL l = l.drop 2 := by unfold tailL; rw [hx]; rfl
    have e2 : baseL l = 16 := by unfold baseL; rw [hx]; rfl
    have e3 : mostL l = 7 := by unfold mostL; rw [hx]; rfl
    have := fin w21 (by rw [e2]; exact b21) (Below.turn g1 t21 (Nat.le_refl _)) (by rw [hx]; rfl)
    rw [e1, e3] at this
    rw [h, cond_true]
    exact this
  · have hx : hexL l = false := h
    have q1 : tailL l = l := by unfold tailL; rw [hx]; rfl
    have q2 : baseL l = 10 := by unfold baseL; rw [hx]; rfl
    have q3 : mostL l = 9 := by unfold mostL; rw [hx]; rfl
    refine JoinP.bool (fun x w' => x = (decide (1 < l.length) && l.getD 0 0 == 48) ∧ w' = w1) (fun j hj => ?_) ?_
    · rw [textOf_size]
      refine cond_intro (fun h2 => ⟨⟨by omega, ?_⟩, hj _ _ ⟨?_, rfl⟩⟩) (fun h2 => hj _ _ ⟨?_, rfl⟩)
      · simp at h2; omega
      · rw [text_get]
        have : decide (1 < l.length) = true := by simp at h2 ⊢; omega
        rw [this, Bool.true_and, Bool.eq_iff_iff]
        simp only [beq_iff_eq]
        constructor
        · intro hh
          apply UInt8.toNat_inj.1
          have : (Int.toNat 0) = 0 := rfl
          rw [this] at hh
          show _ = 48
          omega
        · intro hh
          have : (Int.toNat 0) = 0 := rfl
          rw [this, hh]; rfl
      · have : decide (1 < l.length) = false := by simp at h2 ⊢; omega
        rw [this, Bool.false_and]
    rintro x w23 ⟨rfl, rfl⟩
    refine cond_intro (fun h2 => ?_) (fun h2 => ?_)
    · have := k _ g1
      have hn : isN l = false := by unfold isN; rw [hx, h2]; simp
      unfold numN at this
      rw [hn] at this
      exact this
    · have := fin w23 (by rw [q2]; exact b1) g1 (by rw [h2]; simp)
      rw [q1, q3] at this
      exact this

end Go.Proofs.YtnibnbobmfejhaaDoor
