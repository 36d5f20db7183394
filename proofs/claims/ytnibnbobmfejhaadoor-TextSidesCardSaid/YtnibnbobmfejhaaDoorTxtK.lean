/- The statements TextChoices' and TextSides' contracts. -/
import Derived.Test.YtnibnbobmfejhaaDoorTxtJ
set_option linter.unusedVariables false
set_option linter.unusedSimpArgs false
set_option maxRecDepth 100000
namespace Go.Proofs.YtnibnbobmfejhaaDoor
open Go Go.CW Go.RowKit

/-! ### letters -/
def letU (c : UInt8) : UInt8 := UInt8.ofNat (97 + c.toNat % 6)
theorem letU_n (c : UInt8) : (letU c).toNat = 97 + c.toNat % 6 := by
  have := c.toNat_lt
  exact u8of _ (by omega)
theorem letU_ne (c : UInt8) : letU c ≠ 44 := fun e => by
  have := letU_n c
  rw [e] at this
  have h44 : (44 : UInt8).toNat = 44 := rfl
  omega
theorem letU_iff (c d : UInt8) : letU c = letU d ↔ c.toNat % 6 = d.toNat % 6 := by
  constructor
  · intro h
    have h1 := letU_n c
    have h2 := letU_n d
    rw [h] at h1
    omega
  · intro h; unfold letU; rw [h]

theorem letter_c {w : World} {c : UInt8} {R : KV} (k : ∀ w', Grow w w' → R (.string (textOf [letU c])) w') : Go.CW.Spec Tryd.prog 14 #[.int .u8 (c.toNat : Int)] w R := by
  apply gemellaw3_letter_wp
  have hc := c.toNat_lt
  refine nm fun w0 e0 => ?_
  have e1 : IntKind.wrap .u8 ((97 : Int) + (Int.tmod (c.toNat : Int) (6 : Int))) = ((97 + c.toNat % 6 : Nat) : Int) := by
    have : Int.tmod (c.toNat : Int) 6 = ((c.toNat % 6 : Nat) : Int) := by rw [Int.tmod_eq_emod_of_nonneg (by omega)]; omega
    rw [this, w8_id (by omega) (by omega)]; omega
  have e2 : Value.int .u8 ((97 + c.toNat % 6 : Nat) : Int) = b8 (letU c) := by
    show Value.int .u8 _ = Value.int .u8 _
    rw [letU_n]
  rw [e1, e2] at e0
  obtain ⟨b, g, _⟩ := alE e0
  have r : RdB w0 (.slice (some ⟨w.heap.size, 0, none⟩) 1 1) [letU c] := by
    refine ⟨some ⟨w.heap.size, 0, none⟩, 1, by simp, by simp, by simp [maxLen], (fun h => (by cases h)), fun i u hi => ⟨_, rfl, ?_⟩⟩
    rw [b.cell]
    rw [← hi]
    simp
  exact ⟨_, to_text r, k _ g⟩

def joinC : List UInt8 → List UInt8
  | [] => []
  | [c] => [letU c]
  | c :: d :: l => letU c :: 44 :: joinC (d :: l)
theorem joinC_snoc : ∀ (l : List UInt8) (c : UInt8), joinC (l ++ [c]) = joinC l ++ (if l = [] then [] else [44]) ++ [letU c]
  | [], c => rfl
  | [x], c => rfl
  | x :: y :: l, c => by
    have ih := joinC_snoc (y :: l) c
    simp only [List.cons_append, joinC] at ih ⊢
    rw [ih]
    simp
theorem joinC_len (l : List UInt8) : (joinC l).length ≤ 2 * l.length := by
  match l with
  | [] => simp [joinC]
  | [c] => simp [joinC]
  | c :: d :: l =>
    have := joinC_len (d :: l)
    simp [joinC] at this ⊢
    omega
theorem splitC_join : ∀ (l : List UInt8), l ≠ [] → splitC (joinC l) = l.map fun c => [letU c]
  | [], h => absurd rfl h
  | [c], _ => splitC_miss [letU c] (by simp; exact fun e => letU_ne c e.symm)
  | c :: d :: l, _ => by
    have ih := splitC_join (d :: l) (by simp)
    have := splitC_hit [letU c] (joinC (d :: l)) (by simp; exact fun e => letU_ne c e.symm)
    simp only [joinC]
    rw [show letU c :: 44 :: joinC (d :: l) = [letU c] ++ 44 :: joinC (d :: l) from rfl, this, ih]
    rfl

theorem list_c {w : World} {v : Value} {l : List UInt8} {R : KV} (hr : RdB w v l) (hl : l.length ≤ 1000) (k : ∀ w', Grow w w' → R (.string (textOf (joinC l))) w') :
    Go.CW.Spec Tryd.prog 13 #[v] w R := by
  apply gemellaw3_list_wp
  refine ⟨fun (s : ByteArray) (i : Int) (ww : World) => 0 ≤ i ∧ i ≤ l.length ∧ s = textOf (joinC (l.take i.toNat)) ∧ Grow w ww, fun (s : ByteArray) (i : Int) (ww : World) => (l.length - i).toNat, ?_, ?_⟩
  · dsimp only
    exact ⟨by omega, by omega, by simp [joinC, textOf], Grow.refl w⟩
  · dsimp only [allR, mapR2, eqN, ltN]
    rintro m s i ww ⟨⟨h0, h1, rfl, g⟩, hm⟩
    refine ⟨_, hr.len, cond_intro (fun h2 => ?_) (fun h2 => ?_)⟩
    · simp at h2
      have hi : i.toNat < l.length := by omega
      have hjl := joinC_len (l.take i.toNat)
      rw [List.length_take] at hjl
      refine JoinP.go ?_
      have go : ∀ (u : List UInt8), u = joinC (l.take i.toNat) ++ (if l.take i.toNat = [] then [] else [44]) →
          (∃ (a7 : Addr), ((Go.CW.sliceAt v i 1) = (some a7)) ∧ ∃ (n8 : Int), ((Go.World.cell? ww a7) = (some (.int .u8 n8))) ∧
            Go.CW.Spec Tryd.prog 14 #[(.int .u8 n8)] ww fun v9 w10 => ∃ (s11 : ByteArray), ((v9 : Value) = (.string s11)) ∧
            (((ByteArray.size (textOf u)) + (ByteArray.size s11)) ≤ 9223372036854775807) ∧
            ((0 ≤ IntKind.wrap .i64 (i + (1 : Int)) ∧ IntKind.wrap .i64 (i + (1 : Int)) ≤ l.length ∧ textOf u ++ s11 = textOf (joinC (l.take (IntKind.wrap .i64 (i + (1 : Int))).toNat)) ∧ Grow w w10) ∧ (l.length - IntKind.wrap .i64 (i + (1 : Int))).toNat < m)) := by
        intro u hu
        obtain ⟨a, ha, hc⟩ := RdB.at (hr.grow g) h0 (by omega)
        refine ⟨a, ha, _, hc, letter_c fun w10 g10 => ⟨_, rfl, ?_, ?_⟩⟩
        · have q1 : (if l.take i.toNat = [] then ([] : List UInt8) else [44]).length ≤ 1 := by split <;> simp
          have q2 : u.length ≤ 2 * 1000 + 1 := by rw [hu, List.length_append]; omega
          rw [textOf_size]; simp only [textOf_size]; simp; omega
        · rw [wi64_id (n := i + 1) (by omega) (by omega)]
          refine ⟨⟨by omega, by omega, ?_, g.then g10⟩, by omega⟩
          have e2 : (i + 1).toNat = i.toNat + 1 := by omega
          rw [textOf_app, e2, take_snoc l i.toNat hi, joinC_snoc, hu]
      refine cond_intro (fun h3 => ?_) (fun h3 => ?_)
      · simp at h3
        refine ⟨by rw [textOf_size]; omega, ?_⟩
        rw [mk_text #[44], textOf_app]
        exact go _ (by rw [if_neg (by intro e; have := congrArg List.length e; rw [List.length_take] at this; simp only [List.length_nil] at this; omega)])
      · simp at h3
        exact go _ (by
          have : i.toNat = 0 := by omega
          rw [this]; simp)
    · simp at h2
      rw [List.take_of_length_le (by omega)]
      exact k _ g

/-! ### TextChoices -/
def meetB (b : List UInt8) (c : UInt8) : Bool := b.any fun d => c.toNat % 6 == d.toNat % 6
def wantO (r : Option UInt8) : List UInt8 := match r with | some c => [letU c] | none => []

theorem choices_law (a b : List UInt8) (ha : a ≠ []) (hb : b ≠ []) : chO (joinC a) (joinC b) = (a.find? (meetB b)).map fun c => [letU c] := by
  unfold chO
  rw [splitC_join a ha, splitC_join b hb, List.find?_map]
  congr 1
  congr 1
  funext c
  unfold meetB
  simp only [Function.comp]
  rw [Bool.eq_iff_iff]
  simp only [decide_eq_true_eq, List.mem_map, List.any_eq_true, beq_iff_eq]
  constructor
  · rintro ⟨d, hd, he⟩
    exact ⟨d, hd, ((letU_iff c d).1 (by simpa using he.symm))⟩
  · rintro ⟨d, hd, he⟩
    exact ⟨d, hd, by rw [(letU_iff c d).2 he]⟩

theorem tmod6 (c : UInt8) : Int.tmod (c.toNat : Int) 6 = ((c.toNat % 6 : Nat) : Int) := by rw [Int.tmod_eq_emod_of_nonneg (by omega)]; omega

theorem textChoices_s {w : World} (hE : Env w) {v u : Value} {a b : List UInt8} (hra : RdB w v a) (hrb : RdB w u b) : Go.CW.Spec Tryd.prog 5 #[v, u] w (Law w) := by
  apply gemellaw3_TextChoices_wp
  refine (known_s hE).mono fun x w1 ⟨hv, g1⟩ => ⟨true, hv, cond_f rfl ?_⟩
  refine JoinP.bool (fun x w' => (x = false → a ≠ [] ∧ b ≠ [] ∧ a.length ≤ 20 ∧ b.length ≤ 20) ∧ w' = w1) (fun j hj => ?_) ?_
  · refine ⟨_, hra.len, cond_intro (fun h => hj _ _ ⟨(fun e => (by cases e)), rfl⟩) (fun h => ⟨_, hrb.len, cond_intro (fun h2 => hj _ _ ⟨(fun e => (by cases e)), rfl⟩) (fun h2 => ⟨_, hra.len, cond_intro (fun h3 => hj _ _ ⟨(fun e => (by cases e)), rfl⟩) (fun h3 => ⟨_, hrb.len, hj _ _ ⟨fun e => ?_, rfl⟩⟩)⟩)⟩)⟩
    simp at h h2 h3 e
    exact ⟨h, h2, by omega, by omega⟩
  rintro x w4 ⟨hx, rfl⟩
  refine cond_intro (fun h => ⟨rfl, g1⟩) (fun h => ?_)
  obtain ⟨ha, hb, la, lb⟩ := hx h
  have hra1 := hra.grow g1
  have hrb1 := hrb.grow g1
  refine list_c hra1 (by omega) fun w6 g6 => ⟨_, rfl, list_c (hrb1.grow g6) (by omega) fun w9 g9 => ⟨_, rfl, ?_⟩⟩
  have g69 := g6.then g9
  refine ⟨fun (s : ByteArray) (x : Bool) (i : Int) (ww : World) => 0 ≤ i ∧ i ≤ a.length ∧ Grow w4 ww ∧ x = ((a.take i.toNat).find? (meetB b)).isSome ∧ s = textOf (wantO ((a.take i.toNat).find? (meetB b))), fun (s : ByteArray) (x : Bool) (i : Int) (ww : World) => (a.length - i).toNat, ?_, ?_⟩
  · dsimp only
    exact ⟨by omega, by omega, g69, by simp, by simp [wantO, textOf]⟩
  · dsimp only [allR, mapR2, eqN, ltN]
    rintro m s x i ww ⟨⟨h0, h1, g, hxo, rfl⟩, hm⟩
    refine JoinP.bool (fun y w' => y = (decide (i < a.length) && !x) ∧ w' = ww) (fun j hj => ⟨_, hra.len, cond_intro (fun h2 => hj _ _ ⟨by rw [h2]; rfl, rfl⟩) (fun h2 => hj _ _ ⟨by rw [h2]; rfl, rfl⟩)⟩) ?_
    rintro y w17 ⟨rfl, rfl⟩
    refine cond_intro (fun h2 => ?_) (fun h2 => ?_)
    · simp only [Bool.and_eq_true, decide_eq_true_eq, Bool.not_eq_true'] at h2
      obtain ⟨h2, hx0⟩ := h2
      have hi : i.toNat < a.length := by omega
      have hnone : (a.take i.toNat).find? (meetB b) = none := by
        rw [hx0] at hxo
        simpa using hxo.symm
      subst hx0
      generalize hcq : a[i.toNat]'hi = c
      refine ⟨fun (s : ByteArray) (x : Bool) (q : Int) (w2 : World) => 0 ≤ q ∧ q ≤ b.length ∧ Grow w4 w2 ∧ x = meetB (b.take q.toNat) c ∧ s = textOf (bif meetB (b.take q.toNat) c then [letU c] else []), fun (s : ByteArray) (x : Bool) (q : Int) (w2 : World) => (b.length - q).toNat, ?_, ?_⟩
      · dsimp only
        exact ⟨by omega, by omega, g, by simp [meetB], by simp [meetB, hnone, wantO]⟩
      · dsimp only [allR, mapR2, eqN, ltN]
        rintro m2 s x q w2 ⟨⟨q0, q1, gq, rfl, rfl⟩, hm2⟩
        refine ⟨_, hrb.len, cond_intro (fun h3 => ?_) (fun h3 => ?_)⟩
        · simp at h3
          have hq : q.toNat < b.length := by omega
          generalize hdq : b[q.toNat]'hq = d
          have hstep : meetB (b.take (q.toNat + 1)) c = (meetB (b.take q.toNat) c || (c.toNat % 6 == d.toNat % 6)) := by
            rw [take_snoc b q.toNat hq, hdq]
            unfold meetB
            rw [List.any_append]; simp
          refine JoinP.go (nm fun w28 e28 => ?_)
          have g28 := gq.then (drE e28)
          obtain ⟨a29, k29, c29⟩ := RdB.at (hra1.grow g28) h0 (by omega)
          obtain ⟨a31, k31, c31⟩ := RdB.at (hrb1.grow g28) q0 (by omega)
          refine ⟨a29, k29, _, c29, a31, k31, _, c31, nm fun w33 e33 => ?_⟩
          have g33 := gq.then (drE e33)
          rw [hcq, hdq, tmod6, tmod6]
          have nx : (q + 1).toNat = q.toNat + 1 := by omega
          refine cond_intro (fun h4 => ?_) (fun h4 => ?_)
          · have h4' : (c.toNat % 6 == d.toNat % 6) = true := by simp at h4 ⊢; omega
            obtain ⟨a34, k34, c34⟩ := RdB.at (hra1.grow g33) h0 (by omega)
            rw [hcq] at c34
            refine ⟨a34, k34, _, c34, letter_c fun w37 g37 => ⟨_, rfl, ?_⟩⟩
            rw [wi64_id (n := q + 1) (by omega) (by omega)]
            refine ⟨⟨by omega, by omega, g33.then g37, ?_, ?_⟩, by omega⟩ <;> rw [nx, hstep, h4'] <;> simp
          · have h4' : (c.toNat % 6 == d.toNat % 6) = false := by simp at h4 ⊢; omega
            rw [wi64_id (n := q + 1) (by omega) (by omega)]
            refine ⟨⟨by omega, by omega, g33, ?_, ?_⟩, by omega⟩ <;> rw [nx, hstep, h4'] <;> simp
        · simp at h3
          rw [List.take_of_length_le (by omega)]
          rw [wi64_id (n := i + 1) (by omega) (by omega)]
          have nx : (i + 1).toNat = i.toNat + 1 := by omega
          have hf : (a.take (i.toNat + 1)).find? (meetB b) = bif meetB b c then some c else none := by
            rw [List.take_add_one, List.getElem?_eq_getElem hi, List.find?_append, hnone, Option.none_or, hcq]
            cases hmm : meetB b c <;> simp [hmm]
          refine ⟨⟨by omega, by omega, gq, ?_, ?_⟩, by omega⟩
          · rw [nx, hf]; cases meetB b c <;> rfl
          · rw [nx, hf]; cases meetB b c <;> rfl
    · have hfin : (a.take i.toNat).find? (meetB b) = a.find? (meetB b) := by
        by_cases hlt : i < a.length
        · rw [decide_eq_true hlt, Bool.true_and, Bool.not_eq_false'] at h2
          rw [h2] at hxo
          have hsome := hxo.symm
          obtain ⟨c, hc⟩ := Option.isSome_iff_exists.1 hsome
          have e : a = a.take i.toNat ++ a.drop i.toNat := (List.take_append_drop _ _).symm
          conv => rhs; rw [e]
          rw [List.find?_append, hc]; rfl
        · rw [List.take_of_length_le (by omega)]
      rw [hfin] at hxo ⊢
      have j1 := joinC_len a
      have j2 := joinC_len b
      refine Choose_c ((hE.grow g1).grow g) (by omega) (by omega) fun w41 g41 => ⟨_, _, rfl, JoinP.go ?_⟩
      have hO := choices_law a b ha hb
      unfold chT chB
      rw [hO, text_beq', hxo]
      have gf := g1.then (g.then g41)
      refine cond_t ?_ ⟨?_, gf⟩
      · cases a.find? (meetB b) <;> simp [wantO]
      · cases a.find? (meetB b) <;> simp

/-! ### TextSides -/
theorem numN_le (l : List UInt8) : numN l ≤ 999999999 := by
  unfold numN
  cases h : isN l with
  | false => simp
  | true =>
    rw [cond_true]
    unfold isN at h
    simp only [Bool.and_eq_true, decide_eq_true_eq, Bool.not_eq_true'] at h
    obtain ⟨_, _, h2, h3⟩ := h
    have hb : baseL l = 10 ∨ baseL l = 16 := by unfold baseL; cases hexL l <;> simp
    have hlt := valD_lt hb _ h3
    unfold baseL mostL at *
    cases hx : hexL l with
    | true =>
      simp only [hx, cond_true] at hlt h2 ⊢
      have : 16 ^ (tailL l).length ≤ 16 ^ 7 := Nat.pow_le_pow_right (by omega) h2
      have e : (16 : Nat) ^ 7 = 268435456 := by decide
      omega
    | false =>
      simp only [hx, cond_false] at hlt h2 ⊢
      have : 10 ^ (tailL l).length ≤ 10 ^ 9 := Nat.pow_le_pow_right (by omega) h2
      have e : (10 : Nat) ^ 9 = 1000000000 := by decide
      omega

theorem itoa_nat (u : Nat) : Lib.itoa (u : Int) = Lib.decDigits u := by unfold Lib.itoa; rw [if_neg (by omega)]; congr 1

theorem minG_comm (x y : Int) : minG x y = minG y x := by unfold minG; split <;> split <;> omega
theorem pick_comm (a b : List UInt8) : pickL minG a b = pickL minG b a := by
  unfold pickL
  rw [Bool.and_comm, minG_comm]

theorem ch_mem {a b c : List UInt8} (h : chO a b = some c) : c ∈ splitC a ∧ c ∈ splitC b := by
  unfold chO at h
  exact ⟨List.mem_of_find?_eq_some h, by simpa using List.find?_some h⟩

theorem chB_comm (a b : List UInt8) : chB a b = chB b a := by
  unfold chB chO
  rw [Bool.eq_iff_iff, List.find?_isSome, List.find?_isSome]
  constructor <;> (rintro ⟨x, h1, h2⟩; exact ⟨x, by simpa using h2, by simpa using h1⟩)

theorem ch_own {c l : List UInt8} (h1 : (44 : UInt8) ∉ c) (h2 : c ∈ splitC l) : chO c l = some c := by
  unfold chO
  rw [splitC_miss c h1]
  simp [h2]

theorem textSides_s {w : World} (hE : Env w) {p q : ByteArray} : Go.CW.Spec Tryd.prog 6 #[.string p, .string q] w (Law w) := by
  have ep : p = textOf p.toList := text_ext rfl
  have eq : q = textOf q.toList := text_ext rfl
  rw [ep, eq]
  generalize p.toList = a
  generalize q.toList = b
  clear ep eq
  apply gemellaw3_TextSides_wp
  refine (known_s hE).mono fun x w1 ⟨hv, g1⟩ => ⟨true, hv, cond_f rfl ?_⟩
  refine JoinP.bool (fun x w' => (x = false → a.length ≤ 400 ∧ b.length ≤ 400) ∧ w' = w1) (fun j hj => cond_intro (fun h => hj _ _ ⟨(fun e => (by cases e)), rfl⟩) (fun h => hj _ _ ⟨fun e => ?_, rfl⟩)) ?_
  · rw [textOf_size] at h e
    simp at h e
    exact ⟨by omega, by omega⟩
  rintro x w4 ⟨hx, rfl⟩
  refine cond_intro (fun h => ⟨rfl, g1⟩) (fun h => ?_)
  obtain ⟨la, lb⟩ := hx h
  have hE1 := hE.grow g1
  refine Lesser_c hE1 (by omega) (by omega) fun w6 g6 => ⟨_, _, rfl, Greater_c (hE1.grow g6) (by omega) (by omega) fun w10 g10 => ⟨_, _, rfl, Lesser_c (hE1.grow (g6.then g10)) (by omega) (by omega) fun w14 g14 => ⟨_, _, rfl, ?_⟩⟩⟩
  have g3 := (g6.then g10).then g14
  refine JoinP.bool (fun x w' => x = false ∧ w' = w14) (fun j hj => cond_f (by simp) (cond_f ?_ (hj _ _ ⟨?_, rfl⟩))) ?_
  · rw [text_beq', pick_comm b a]; simp
  · rw [Bool.and_comm (isN b)]; simp
  rintro x w18 ⟨rfl, rfl⟩
  refine cond_f rfl (JoinP.unit (fun w' => Grow w4 w') (fun j hj => ?_) ?_)
  · refine cond_intro (fun h5 => ?_) (fun h5 => hj _ g3)
    have na := numN_le a
    have nb := numN_le b
    have hmin : pickL minG a b = Lib.decDigits (min (numN a) (numN b)) := by
      unfold pickL
      rw [h5, cond_true, ← itoa_nat]
      congr 1
      unfold minG; split <;> omega
    have hmax : pickL maxG a b = Lib.decDigits (max (numN a) (numN b)) := by
      unfold pickL
      rw [h5, cond_true, ← itoa_nat]
      congr 1
      unfold maxG; split <;> omega
    have l1 := digits_len (min (numN a) (numN b)) (by omega)
    have l2 := digits_len (max (numN a) (numN b)) (by omega)
    rw [hmin, hmax]
    obtain ⟨x1, x2⟩ := isN_digits (n := min (numN a) (numN b)) (by omega)
    obtain ⟨y1, y2⟩ := isN_digits (n := max (numN a) (numN b)) (by omega)
    refine Number_c (by omega) fun w41 g41 => ⟨_, _, rfl, Number_c (by omega) fun w45 g45 => ⟨_, _, rfl, Number_c (by omega) fun w49 g49 => ⟨_, _, rfl, Number_c (by omega) fun w53 g53 => ⟨_, _, rfl, ?_⟩⟩⟩⟩
    rw [x2, y2]
    refine JoinP.bool (fun x w' => x = false ∧ w' = w53) (fun j2 hj2 => cond_f (by simp; omega) (hj2 _ _ ⟨?_, rfl⟩)) ?_
    · rw [wi64_id (by omega) (by omega), wi64_id (by omega) (by omega)]
      simp; omega
    rintro x w57 ⟨rfl, rfl⟩
    exact cond_f rfl (hj _ ((((g3.then g41).then g45).then g49).then g53))
  intro w19 g19
  have hE19 := hE1.grow g19
  have hct : (chT a b).length ≤ 1000000 := by
    unfold chT
    cases hO : chO a b with
    | none => simp
    | some c =>
      have hm := splitC_len a c (ch_mem hO).1
      show c.length ≤ 1000000
      omega
  refine Choose_c hE19 (by omega) (by omega) fun w21 g21 => ⟨_, _, rfl, Choose_c (hE19.grow g21) (by omega) (by omega) fun w25 g25 => ⟨_, _, rfl, cond_f (by rw [chB_comm b a]; simp) ?_⟩⟩
  refine Choose_c (hE19.grow (g21.then g25)) hct (by omega) fun w29 g29 => ⟨_, _, rfl, Choose_c (hE19.grow ((g21.then g25).then g29)) hct (by omega) fun w33 g33 => ⟨_, _, rfl, JoinP.go ?_⟩⟩
  have gf : Grow w w33 := g1.then (g19.then (((g21.then g25).then g29).then g33))
  refine cond_intro (fun h8 => ⟨rfl, gf⟩) (fun h8 => ?_)
  simp only [Bool.not_eq_false'] at h8
  obtain ⟨c, hc⟩ := Option.isSome_iff_exists.1 (show (chO a b).isSome = true from h8)
  have et : chT a b = c := by unfold chT; rw [hc]; rfl
  obtain ⟨m1, m2⟩ := ch_mem hc
  have hno := splitC_no a c m1
  have o1 := ch_own hno m1
  have o2 := ch_own hno m2
  rw [et]
  have t1 : chT c a = c := by unfold chT; rw [o1]; rfl
  have t2 : chT c b = c := by unfold chT; rw [o2]; rfl
  have b1 : chB c a = true := by unfold chB; rw [o1]; rfl
  have b2 : chB c b = true := by unfold chB; rw [o2]; rfl
  rw [t1, t2, b1, b2, text_beq']
  exact cond_t rfl (cond_t rfl (cond_t (by simp) ⟨by simp, gf⟩))

end Go.Proofs.YtnibnbobmfejhaaDoor
