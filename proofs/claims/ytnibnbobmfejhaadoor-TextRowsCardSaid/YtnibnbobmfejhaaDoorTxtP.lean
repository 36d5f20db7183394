/- ParseInt of numerals; Number. -/
import Derived.Test.YtnibnbobmfejhaaDoorTxtM
set_option linter.unusedVariables false
set_option linter.unusedSimpArgs false
set_option maxRecDepth 100000
namespace Go.Proofs.YtnibnbobmfejhaaDoor
open Go Go.CW Go.RowKit

abbrev tS : TypeId := 9

theorem bytes_of_text {w : World} (l : List UInt8) (hl : l.length ≤ 1000000) :
    ∃ v' w', Sem.run Tryd.prog (convert tS tB (.string (textOf l))) w = .ok v' w' ∧ RdB w' v' l ∧ Grow w w' := by
  have h := run_bytes_of_string (P := Tryd.prog) w tS tB tb (textOf l) (by kernel_rfl) (by kernel_rfl) (by kernel_rfl)
  refine ⟨_, _, h, ⟨some ⟨w.heap.size, 0, none⟩, grownCap w (textOf l).size 0 tb, ?_, ?_, ?_, (fun h => (by cases h)), fun i u hi => ⟨_, rfl, ?_⟩⟩, Grow.al (Grow.dr (Grow.refl w)) _⟩
  · simp [textOf_size]
  · simp only [List.length_map, textOf_size]; exact grownCap_ge _ _ _ _
  · rw [textOf_size]; exact grownCap_le_maxLen _ _ _ _ (by simp [maxLen]; omega)
  · rw [ad0]
    refine (World.cell?_alloc_mark w.drew _ _ _ i).trans ?_
    rw [bytesRow_at _ _ _ (by
      have := (List.getElem?_eq_some_iff.1 hi).1
      simpa [textOf] using this)]
    rw [List.getElem?_map] at hi
    cases hx : l[i]? with
    | none => rw [hx] at hi; cases hi
    | some x =>
      rw [hx] at hi
      have hlt := (List.getElem?_eq_some_iff.1 hx).1
      have he := (List.getElem?_eq_some_iff.1 hx).2
      simp only [Option.map_some, Option.some.injEq] at hi
      subst hi
      simp [textOf, he]
      rfl

theorem JoinP.bi {k : IntKind} {rest : Bool → Int → World → Prop} {body : (Bool → Int → World → Prop) → Prop} (Q : Bool → Int → World → Prop) (hb : ∀ j : Bool → Int → World → Prop, (∀ b n w, Q b n w → j b n w) → body j) (h : ∀ b n w, Q b n w → rest b n w) : JoinP [.bool, .int k] rest body := hb rest h

theorem ParseUint_c {w : World} {l : List UInt8} {b : Nat} {R : KV} (hb : b = 10 ∨ b = 16) (h0 : l ≠ []) (hl : l.length ≤ 9) (ha : l.all (okD (b : Int)) = true)
    (k : ∀ w', Grow w w' → R (.tuple #[.int .u64 (valD b l : Int), .nilIface]) w') : Go.CW.Spec Tryd.prog 44 #[.string (textOf l), .int .i64 (b : Int), .int .i64 64] w R := by
  apply strconv_ParseUint_wp
  unfold strconv_ParseUint_F
  refine cond_f (by rw [text_eqb]; simpa using h0) (JoinP.go ?_)
  refine JoinP.bool (fun x w' => x = true ∧ w' = w) (fun j hj => cond_t (by simp; omega) (hj _ _ ⟨by simp; omega, rfl⟩)) ?_
  rintro x w6 ⟨rfl, rfl⟩
  refine cond_t rfl ?_
  refine JoinP.int (fun n w' => n = 64 ∧ w' = w6) (fun j hj => cond_f rfl (JoinP.go (cond_f rfl (cond_f rfl (hj _ _ ⟨rfl, rfl⟩))))) ?_
  rintro n w7 ⟨rfl, rfl⟩
  refine JoinP.int (fun n w' => 1152921504606846976 ≤ n ∧ w' = w7) (fun j hj => ?_) ?_
  · rcases hb with rfl | rfl
    · exact cond_t rfl (hj _ _ ⟨by omega, rfl⟩)
    · exact cond_f rfl (cond_t rfl (hj _ _ ⟨by omega, rfl⟩))
  rintro n6 w8 ⟨hn6, rfl⟩
  obtain ⟨v8, w9, hc, r9, g9⟩ := bytes_of_text (w := w8) l (by omega)
  refine leK_intro (by decide) ⟨v8, w9, hc, l.length, r9.len, ?_⟩
  refine ⟨fun (x : Bool) (n : Int) (i : Int) (ww : World) => x = false ∧ 0 ≤ i ∧ i ≤ l.length ∧ n = (valD b (l.take i.toNat) : Int) ∧ Grow w8 ww ∧ Grow w9 ww, fun (x : Bool) (n : Int) (i : Int) (ww : World) => (l.length - i).toNat, ?_, ?_⟩
  · dsimp only
    exact ⟨rfl, by omega, by omega, by simp [valD], g9, Grow.refl _⟩
  · dsimp only [allR, mapR2, eqN, ltN]
    rintro m x n i ww ⟨⟨rfl, h1, h2, rfl, g, gw⟩, hm⟩
    refine cond_intro (fun h3 => ?_) (fun h3 => ?_)
    · simp at h3
      refine JoinP.go ?_
      obtain ⟨a, ha1, ha2⟩ := RdB.at (r9.grow gw) h1 (by omega)
      have hlt : i.toNat < l.length := by omega
      have hok : okD (b : Int) (l[i.toNat]'hlt) = true := List.all_eq_true.1 ha _ (List.getElem_mem _)
      have ht : (l.take i.toNat).all (okD (b : Int)) = true := List.all_eq_true.2 fun c hc => List.all_eq_true.1 ha _ (List.mem_of_mem_take hc)
      have hv := valD_lt hb _ ht
      have hvb : valD b (l.take i.toNat) < 68719476736 := by
        refine Nat.lt_of_lt_of_le hv ?_
        rw [List.length_take]
        have q1 : b ≤ 16 := by rcases hb with rfl | rfl <;> decide
        have q2 : min i.toNat l.length ≤ 9 := by omega
        have q3 : b ^ min i.toNat l.length ≤ 16 ^ min i.toNat l.length := Nat.pow_le_pow_left q1 _
        have q4 : 16 ^ min i.toNat l.length ≤ 16 ^ 9 := Nat.pow_le_pow_right (by decide) q2
        exact Nat.le_trans q3 q4
      generalize hcq : l[i.toNat]'hlt = c at *
      have hdl := digN_lt hb hok
      have hc256 := c.toNat_lt
      refine ⟨a, ha1, _, ha2, ?_⟩
      generalize hvq : valD b (l.take i.toNat) = v at *
      refine JoinP.bi (fun x n w' => x = false ∧ n = (digN c : Int) ∧ w' = ww) (fun j hj => JoinP.go ?_) ?_
      · have hn95 : ((c.toNat : Int) == 95) = false := by
          have hx : c.toNat ≠ 95 := fun e => by
            unfold okD decD hexD at hok
            rw [e] at hok
            simp at hok
          simp; omega
        refine cond_f hn95 (cond_f rfl (JoinP.go ?_))
        by_cases hd : decD c = true
        · have hq : 48 ≤ c.toNat ∧ c.toNat ≤ 57 := by simpa [decD] using hd
          refine cond_t (by simp; omega) (cond_t (by simp; omega) (hj _ _ _ ⟨rfl, ?_, rfl⟩))
          unfold digN
          rw [decide_eq_true (by omega), cond_true, w8_id (by omega) (by omega)]
          omega
        · have hh : ((97 ≤ c.toNat ∧ c.toNat ≤ 102) ∨ (65 ≤ c.toNat ∧ c.toNat ≤ 70)) := by
            have : decD c = false := by simpa using hd
            unfold okD at hok
            rw [this] at hok
            simp [hexD] at hok
            exact hok.2
          have hl2 := hex_facts _ hc256 hh
          have fin : j false (IntKind.wrap .u8 ((IntKind.wrap .u8 (((c.toNat ||| 32 : Nat) : Int) - 97)) + 10)) ww := by
            refine hj _ _ _ ⟨rfl, ?_, rfl⟩
            unfold digN
            rw [decide_eq_false (by omega), cond_false, w8_id (n := ((c.toNat ||| 32 : Nat) : Int) - 97) (by omega) (by omega), w8_id (by omega) (by omega)]
            omega
          have low : ∀ {K : KV}, K (.int .u8 ((c.toNat ||| 32 : Nat) : Int)) ww → Go.CW.Spec Tryd.prog 55 #[.int .u8 (c.toNat : Int)] ww K := fun {K} kk => by
            apply strconv_lower_wp
            unfold strconv_lower_F
            rw [lower_all _ hc256]
            exact kk
          have tail : (Go.CW.Spec Tryd.prog 55 #[.int .u8 (c.toNat : Int)] ww fun v43 w44 => ∃ (n45 : Int), ((v43 : Value) = (.int .u8 n45)) ∧
              cond (decide ((97 : Int) ≤ n45)) (Go.CW.Spec Tryd.prog 55 #[.int .u8 (c.toNat : Int)] w44 fun v46 w47 => ∃ (n48 : Int), ((v46 : Value) = (.int .u8 n48)) ∧ w47 = ww ∧ decide (n48 ≤ (122 : Int)) = true) False) :=
            low ⟨_, rfl, cond_t (by simp; omega) (low ⟨_, rfl, rfl, by simp; omega⟩)⟩
          refine cond_intro (fun hq => ?_) (fun hq => ?_)
          · refine cond_f (by simp at hq ⊢; omega) (JoinP.go ?_)
            exact low ⟨_, rfl, cond_t (by simp; omega) (low ⟨_, rfl, cond_t (by simp; omega) (low ⟨_, rfl, fin⟩)⟩)⟩
          · simp at hq; omega
      rintro x n w24 ⟨rfl, rfl, rfl⟩
      have hvb2 : valD b (l.take i.toNat) * b ≤ 68719476736 * 16 := Nat.mul_le_mul (by omega) (by omega)
      rw [hvq] at hvb2
      have eb : IntKind.wrap .u8 (b : Int) = (b : Int) := w8_id (by omega) (by omega)
      have eb2 : IntKind.wrap .u64 (b : Int) = (b : Int) := w64_id (by omega) (by omega)
      have em : IntKind.wrap .u64 ((v : Int) * (b : Int)) = ((v * b : Nat) : Int) := by
        rw [w64_id (by rw [← Int.natCast_mul]; omega) (by rw [← Int.natCast_mul]; omega), Int.natCast_mul]
      have ed : IntKind.wrap .u64 ((digN c : Nat) : Int) = (digN c : Int) := w64_id (by omega) (by omega)
      have es : IntKind.wrap .u64 (((v * b : Nat) : Int) + ((digN c : Nat) : Int)) = ((v * b + digN c : Nat) : Int) := by
        rw [w64_id (by omega) (by omega)]; omega
      rw [eb, eb2, em, ed, es]
      refine cond_f (by simp; omega) (cond_f (by simp; omega) (JoinP.go ?_))
      refine cond_f (by simp; omega) (cond_f ?_ ?_)
      · have e64 : (IntKind.wrap .u64 ((IntKind.wrap .u64 ((1 : Int) * ((2 : Int) ^ (min (Int.toNat (IntKind.wrap .u64 64)) 64)))) - (1 : Int))) = 18446744073709551615 := by decide +kernel
        rw [e64]
        simp; omega
      · rw [wi64_id (n := i + 1) (by omega) (by omega)]
        refine ⟨⟨rfl, by omega, by omega, ?_, g, gw⟩, by omega⟩
        have e2 : (i + 1).toNat = i.toNat + 1 := by omega
        rw [e2, take_snoc l i.toNat hlt, valD_snoc, hvq, hcq]
    · simp at h3
      rw [List.take_of_length_le (by omega)]
      refine JoinP.bool (fun x w' => x = false ∧ w' = ww) (fun j hj => cond_f rfl (hj _ _ ⟨rfl, rfl⟩)) ?_
      rintro x w52 ⟨rfl, rfl⟩
      exact cond_f rfl (k _ g)

end Go.Proofs.YtnibnbobmfejhaaDoor
