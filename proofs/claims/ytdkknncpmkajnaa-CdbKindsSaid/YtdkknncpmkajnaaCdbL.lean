/- The laws CdbSizes and CdbKinds. -/
import Derived.Test.YtdkknncpmkajnaaCdbR
set_option linter.unusedVariables false
set_option linter.unusedSimpArgs false
set_option maxRecDepth 100000
namespace Go.Proofs.Ytdkknncpmkajnaa
open Go Go.CW Go.RowKit

abbrev WP (w : World) (C Q : Array Value) : World := stRow (stRow (World.alloc (World.alloc w (.cells rK0 tK)) (.cells rR0 tR)) ⟨w.heap.size, 0, none⟩ C) ⟨(World.alloc w (.cells rK0 tK)).heap.size, 0, none⟩ Q

theorem pair (w : World) (C Q : Array Value) (hC : C.size = 8) (hQ : Q.size = 5) (o1 : oneL C.toList = true) (o2 : oneL Q.toList = true) :
    StRow (World.alloc (World.alloc w (.cells rK0 tK)) (.cells rR0 tR)) ⟨w.heap.size, 0, none⟩ C ∧
    StRow (stRow (World.alloc (World.alloc w (.cells rK0 tK)) (.cells rR0 tR)) ⟨w.heap.size, 0, none⟩ C) ⟨(World.alloc w (.cells rK0 tK)).heap.size, 0, none⟩ Q ∧
    BK (WP w C Q) w.heap.size C tK ∧ BK (WP w C Q) (World.alloc w (.cells rK0 tK)).heap.size Q tR ∧ Grow w (WP w C Q) := by
  have e1 : (World.alloc w (.cells rK0 tK)).heap.size = w.heap.size + 1 := al_size _ _
  have b1 := (BK.new w rK0 tK).al (.cells rR0 tR)
  have b2 := BK.new (World.alloc w (.cells rK0 tK)) rR0 tR
  have g := Grow.al (Grow.al (Grow.refl w) (.cells rK0 tK)) (.cells rR0 tR)
  unfold WP
  generalize World.alloc (World.alloc w (.cells rK0 tK)) (.cells rR0 tR) = W at *
  generalize (World.alloc w (.cells rK0 tK)).heap.size = h2 at *
  have c2 := b2.strow_other (b' := w.heap.size) (by omega) 0 none C
  refine ⟨b1.row hC o1, c2.row hQ o2, (b1.strow hC).strow_other (by omega) _ _ _, c2.strow hQ, ?_⟩
  exact Below.strow (Below.strow g (p := ⟨w.heap.size, 0, none⟩) (Nat.le_refl _) _) (p := ⟨h2, 0, none⟩) (by show _ ≤ h2; omega) _

theorem known_c {w : World} {R : KV} (c : ∀ w', Grow w w' → R (.bool true) w') : Go.CW.Spec Try.prog 5 #[] w R := by
  apply gemellaw4_known_wp
  unfold gemellaw4_known_F
  have hx : codesL.find? (isK 2) = some ⟨2, 136, 0, true, true, false, false, false, false⟩ := by decide
  have hm : (⟨2, 136, 0, true, true, false, false, false, false⟩ : Cod) ∈ codesL := List.mem_of_find?_eq_some hx
  refine Encode_c hx (by omega) (by omega) (by omega) fun v w1 g1 r1 _ => ⟨_, _, rfl, ?_⟩
  have hat := enc_at (x := ⟨2, 136, 0, true, true, false, false, false, false⟩) rfl false 0 258 3 (by omega)
  have hn := enc_n (x := ⟨2, 136, 0, true, true, false, false, false, false⟩) rfl false 0 258 3 (by omega)
  have hl := encB_length ⟨2, 136, 0, true, true, false, false, false, false⟩ false 0 258 3
  have h0 := (enc_0 ⟨2, 136, 0, true, true, false, false, false, false⟩ false 0 258 3).1
  have h9 : (encB ⟨2, 136, 0, true, true, false, false, false, false⟩ false 0 258 3).getD 9 0 = 2 := by kernel_rfl
  refine Decode_c r1 (by omega) (enc_find hm false 0 258 3) (enc_ok hm false 0 258 3) (fun _ => by omega) fun fo w5 g5 => ?_
  have ea : atD ⟨2, 136, 0, true, true, false, false, false, false⟩ (encB ⟨2, 136, 0, true, true, false, false, false, false⟩ false 0 258 3) = 258 := hat
  have en : nD ⟨2, 136, 0, true, true, false, false, false, false⟩ (encB ⟨2, 136, 0, true, true, false, false, false, false⟩ false 0 258 3) = 3 := hn
  rw [ea, en]
  generalize hbs : encB ⟨2, 136, 0, true, true, false, false, false, false⟩ false 0 258 3 = bs at *
  generalize tD ⟨2, 136, 0, true, true, false, false, false, false⟩ bs = tt
  obtain ⟨s1, s2, p1, p2, gp⟩ := pair w5 (rK 2 258 3 (.slice none 0 0) 0 0 tt fo) (rR 0 0 0 (.slice none 0 0) 0) rfl rfl rfl rfl
  refine ⟨_, _, _, _, _, _, _, _, _, _, _, _, _, _, rfl, s1, s2, ?_⟩
  unfold WP at *
  generalize stRow (stRow (World.alloc (World.alloc w5 (.cells rK0 tK)) (.cells rR0 tR)) ⟨w5.heap.size, 0, none⟩ (rK 2 258 3 (.slice none 0 0) 0 0 tt fo)) ⟨(World.alloc w5 (.cells rK0 tK)).heap.size, 0, none⟩ (rR 0 0 0 (.slice none 0 0) 0) = W5 at *
  have ol := Own.lit W5 (Nat.le_refl _) tb #[.int .u8 1] 1 rfl (by simp [maxLen])
  have r2 : RdB (World.alloc W5 (.cells #[.int .u8 1] tb)) (.slice (some ⟨W5.heap.size, 0, none⟩) 1 1) [1] := by
    have e1 : ([1] : List UInt8).map b8 = (#[Value.int .u8 1] : Array Value).toList := by kernel_rfl
    rw [RdB, e1]; exact ol.rd
  have ga := Grow.al (Grow.refl W5) (.cells #[.int .u8 1] tb)
  refine DecodeShort_c r2 (by simp) fun w21 g21 => ?_
  obtain ⟨q1, q2, u1, u2, gu⟩ := pair w21 (rK 0 0 0 (.slice none 0 0) 0 0 0 false) (rR 2 5 8192 (.slice none 0 0) 0) rfl rfl rfl rfl
  refine ⟨_, _, _, _, _, _, _, _, _, _, _, _, _, _, rfl, q1, q2, ?_⟩
  have bk := p1.grow (ga.then (g21.then gu))
  have gg := g1.then (g5.then (gp.then (ga.then (g21.then gu))))
  have r5 := r1.grow (g5.then (gp.then (ga.then (g21.then gu))))
  unfold WP at *
  generalize stRow (stRow (World.alloc (World.alloc w21 (.cells rK0 tK)) (.cells rR0 tR)) ⟨w21.heap.size, 0, none⟩ (rK 0 0 0 (.slice none 0 0) 0 0 0 false)) ⟨(World.alloc w21 (.cells rK0 tK)).heap.size, 0, none⟩ (rR 2 5 8192 (.slice none 0 0) 0) = W6 at *
  refine JoinP.bool (fun b w' => b = true ∧ Grow w w') (fun j hj => ?_) (by rintro b w' ⟨rfl, g⟩; exact c _ g)
  obtain ⟨a0, ha0, hc0⟩ := at_getD (i := 0) r5 (by omega)
  obtain ⟨a9, ha9, hc9⟩ := at_getD (i := 9) r5 (by omega)
  rw [h0] at hc0
  rw [h9] at hc9
  refine cond_t rfl ⟨_, RdB.len r5, ?_⟩
  rw [hl]
  refine cond_t rfl ⟨a0, ha0, _, hc0, cond_t rfl ⟨a9, ha9, _, hc9, cond_t rfl (cond_t rfl ⟨_, bk.cell 0, cond_t rfl ⟨_, bk.cell 1, cond_t rfl ⟨_, bk.cell 2, cond_t rfl (cond_t rfl ⟨_, u2.cell 2, cond_t rfl ?_⟩)⟩⟩⟩)⟩⟩
  refine ⟨_, _, _, _, _, _, _, _, bk.ld (n := 8) rfl, In_c fun w7 g7 => ⟨_, rfl, cond_t (by decide) ?_⟩⟩
  refine ⟨_, _, _, _, _, _, _, _, (bk.grow g7).ld (n := 8) rfl, Out_c fun w8 g8 => ⟨_, rfl, ?_⟩⟩
  exact hj _ _ ⟨by decide, gg.then (g7.then g8)⟩

theorem sizes_law (k n : Int) : 0 ≤ inI k n ∧ inI k n ≤ 256 ∧ 0 ≤ outI k n ∧ outI k n ≤ 512 ∧ ¬ (0 < inI k n ∧ 0 < outI k n) := by
  have := runI_range n
  unfold inI outI
  repeat' split
  all_goals omega

theorem cdbSizes_s {w : World} {n : Int} (hn : Fits .i64 n) : Go.CW.Spec Try.prog 3 #[.int .i64 n] w (Law w) := by
  apply gemellaw4_CdbSizes_wp
  unfold gemellaw4_CdbSizes_F
  have hf := hn.i64
  refine known_c fun w1 g1 => ⟨_, rfl, cond_f rfl ?_⟩
  refine JoinP.bool (fun b w' => b = decide (0 ≤ n ∧ n ≤ 32) ∧ w' = w1) (fun j hj => cond_intro (fun e => hj _ _ ⟨?_, rfl⟩) (fun e => hj _ _ ⟨?_, rfl⟩)) ?_
  · simp only [decide_eq_true_eq, ge_iff_le] at e; simp [e]
  · simp only [decide_eq_false_iff_not, ge_iff_le] at e; simp [e]
  rintro b w4 ⟨hb, rfl⟩
  refine Out_c fun w6 g6 => ⟨_, rfl, Out_c fun w9 g9 => ⟨_, rfl, In_c fun w12 g12 => ⟨_, rfl, ?_⟩⟩⟩
  have o3 : outI 3 n = runI n := rfl
  have o6 : outI 6 n = 2 * runI n := rfl
  have i2 : inI 2 n = runI n := rfl
  rw [o3, o6, i2]
  have gg := g1.then (g6.then (g9.then g12))
  refine JoinP.bool (fun b w' => b = false ∧ w' = w12) (fun j hj => ?_) ?_
  · subst hb
    have hz : ∀ b, b = false → j b w12 := fun b hb => hj _ _ ⟨hb, rfl⟩
    by_cases hin : 0 ≤ n ∧ n ≤ 32
    · have e1 : runI n = n * 8 := by unfold runI; rw [if_neg (by omega)]
      rw [e1, wi64_id (n := (8 : Int) * n) (by omega) (by omega), wi64_id (n := (16 : Int) * n) (by omega) (by omega)]
      have e2 : n * 8 = 8 * n := by omega
      have e3 : 2 * (n * 8) = 16 * n := by omega
      rw [e3, e2]
      simp only [hin, and_self, decide_true, bne_self_eq_false]
      exact hz _ rfl
    · have e1 : runI n = 0 := by unfold runI; rw [if_pos (by omega)]
      rw [e1]
      simp only [hin, decide_false]
      exact hz _ (by decide)
  rintro b w' ⟨rfl, rfl⟩
  refine cond_f rfl ?_
  refine ⟨fun (i : Int) (ww : World) => 0 ≤ i ∧ i ≤ 21 ∧ Grow w ww, fun (i : Int) (_ : World) => (21 - i).toNat, ⟨by omega, by omega, gg⟩, ?_⟩
  dsimp only [allR, mapR2, eqN, ltN]
  rintro m i ww ⟨⟨h0, h1, gg⟩, hm⟩
  refine cond_intro (fun h => ?_) (fun h => ⟨rfl, gg⟩)
  simp only [decide_eq_true_eq] at h
  have hz : (rK0) = #[(.int .i64 (0 : Int)), (.int .i64 (0 : Int)), (.int .i64 (0 : Int)), (.slice none 0 0), (.int .u64 (0 : Int)), (.int .u64 (0 : Int)), (.int .i64 (0 : Int)), (.bool false)] := rfl
  rw [← hz]
  have nb := BK.new ww rK0 tK
  have bk := nb.strow (ds := rK i 0 n (.slice none 0 0) 0 0 0 false) rfl
  have gs := Below.strow (Grow.al (Grow.refl ww) (.cells rK0 tK)) (p := ⟨ww.heap.size, 0, none⟩) (Nat.le_refl _) (rK i 0 n (.slice none 0 0) 0 0 0 false)
  refine ⟨nb.row rfl rfl, ?_⟩
  have gg := gg.then gs
  generalize stRow (World.alloc ww (.cells rK0 tK)) ⟨ww.heap.size, 0, none⟩ (rK i 0 n (.slice none 0 0) 0 0 0 false) = W at *
  obtain ⟨l1, l2, l3, l4, l5⟩ := sizes_law i n
  refine JoinP.bool (fun b w' => b = false ∧ Grow w w') (fun j hj => ?_) ?_
  · refine ⟨_, _, _, _, _, _, _, _, bk.ld (n := 8) rfl, In_c fun ww g' => ⟨_, rfl, ?_⟩⟩
    have bk := bk.grow g'
    have gg := gg.then g'
    refine cond_intro (fun e => ?_) (fun e => ?_)
    · simp only [decide_eq_true_eq, gt_iff_lt] at e
      refine ⟨_, _, _, _, _, _, _, _, bk.ld (n := 8) rfl, Out_c fun ww g' => ⟨_, rfl, ?_⟩⟩
      have bk := bk.grow g'
      have gg := gg.then g'
      refine cond_f (by simp; omega) ?_
      refine ⟨_, _, _, _, _, _, _, _, bk.ld (n := 8) rfl, In_c fun ww g' => ⟨_, rfl, ?_⟩⟩
      have bk := bk.grow g'
      have gg := gg.then g'
      refine cond_f (by simp; omega) ?_
      refine ⟨_, _, _, _, _, _, _, _, bk.ld (n := 8) rfl, Out_c fun ww g' => ⟨_, rfl, ?_⟩⟩
      have bk := bk.grow g'
      have gg := gg.then g'
      refine cond_f (by simp; omega) ?_
      refine ⟨_, _, _, _, _, _, _, _, bk.ld (n := 8) rfl, In_c fun ww g' => ⟨_, rfl, ?_⟩⟩
      have bk := bk.grow g'
      have gg := gg.then g'
      refine cond_f (by simp; omega) ?_
      refine ⟨_, _, _, _, _, _, _, _, bk.ld (n := 8) rfl, Out_c fun ww g' => ⟨_, rfl, ?_⟩⟩
      have bk := bk.grow g'
      have gg := gg.then g'
      exact hj _ _ ⟨by simp; omega, gg⟩
    · refine ⟨_, _, _, _, _, _, _, _, bk.ld (n := 8) rfl, In_c fun ww g' => ⟨_, rfl, ?_⟩⟩
      have bk := bk.grow g'
      have gg := gg.then g'
      refine cond_f (by simp; omega) ?_
      refine ⟨_, _, _, _, _, _, _, _, bk.ld (n := 8) rfl, Out_c fun ww g' => ⟨_, rfl, ?_⟩⟩
      have bk := bk.grow g'
      have gg := gg.then g'
      refine cond_f (by simp; omega) ?_
      refine ⟨_, _, _, _, _, _, _, _, bk.ld (n := 8) rfl, In_c fun ww g' => ⟨_, rfl, ?_⟩⟩
      have bk := bk.grow g'
      have gg := gg.then g'
      refine cond_f (by simp; omega) ?_
      refine ⟨_, _, _, _, _, _, _, _, bk.ld (n := 8) rfl, Out_c fun ww g' => ⟨_, rfl, ?_⟩⟩
      have bk := bk.grow g'
      have gg := gg.then g'
      exact hj _ _ ⟨by simp; omega, gg⟩
  · rintro b w' ⟨rfl, g⟩
    refine cond_f rfl ?_
    rw [wi64_id (n := i + 1) (by omega) (by omega)]
    exact ⟨⟨by omega, by omega, g⟩, by omega⟩

/-! ### the kinds -/
abbrev tS : TypeId := 9
abbrev tSs : TypeId := 30
theorem tyS : SlTy Try.prog tSs tS 16 := SlTy.of (by kernel_rfl)

theorem and15_8 : ∀ t : Fin 256, bitsI .and .u8 (t.val : Int) 15 = ((t.val % 16 : Nat) : Int) := by decide +kernel

def xk (k : Int) : Cod := (codesL.find? (isK k)).getD zC

theorem xk_all {k : Int} (h : 1 ≤ k ∧ k ≤ 17) : codesL.find? (isK k) = some (xk k) ∧ xk k ∈ codesL ∧ (xk k).k = k := by
  have hf := findK ⟨(k - 1).toNat, by omega⟩
  have e : (((⟨(k - 1).toNat, by omega⟩ : Fin 17).val : Int) + 1) = k := by simp; omega
  rw [e] at hf
  obtain ⟨x, hx⟩ := Option.isSome_iff_exists.1 hf
  have ex : xk k = x := by unfold xk; rw [hx]; rfl
  rw [ex]
  refine ⟨hx, List.mem_of_find?_eq_some hx, ?_⟩
  have := List.find?_some hx
  simpa [isK] using this

theorem kb_inj {fo : Bool} {t a n i k : Int} (hi : 1 ≤ i ∧ i ≤ 17) (hk : 1 ≤ k ∧ k ≤ 17) (h : encB (xk i) fo t a n = encB (xk k) fo t a n) : i = k := by
  obtain ⟨_, mi, ki⟩ := xk_all hi
  obtain ⟨_, mk, kk⟩ := xk_all hk
  have h1 := enc_find mi fo t a n
  rw [h, enc_find mk fo t a n] at h1
  injection h1 with h1
  rw [← ki, ← kk, h1]

def allT (fo : Bool) (t a n : Int) (m : Nat) : List Value := (List.range m).map fun (i : Nat) => Value.string (textOf (encB (xk ((i : Int) + 1)) fo t a n))

theorem cdbKinds_s {w : World} {a n t : Int} {fo : Bool} (ha : Fits .u32 a) (hn : Fits .u8 n) (ht : Fits .u8 t) : Go.CW.Spec Try.prog 4 #[.int .u32 a, .int .u8 n, .int .u8 t, .bool fo] w (Law w) := by
  apply gemellaw4_CdbKinds_wp
  unfold gemellaw4_CdbKinds_F
  have ha := ha.u32
  have hn := hn.u8
  have ht := ht.u8
  have et : bitsI .and .u8 t 15 = t % 16 := by
    have := and15_8 ⟨t.toNat, by omega⟩
    simp only at this
    rw [show ((t.toNat : Nat) : Int) = t by omega] at this
    rw [this]; omega
  rw [et, wi64_id (n := a) (by omega) (by omega), wi64_id (n := n) (by omega) (by omega), wi64_id (n := t % 16) (by omega) (by omega)]
  have ht : 0 ≤ t % 16 ∧ t % 16 ≤ 15 := by omega
  generalize t % 16 = t at *
  refine known_c fun w1 g1 => ⟨_, rfl, cond_f rfl ?_⟩
  refine ⟨fun (v : Value) (k : Int) (ww : World) => 1 ≤ k ∧ k ≤ 18 ∧ Grow w ww ∧ Own ww w.heap.size tS v (allT fo t a n (k - 1).toNat), fun (_ : Value) (k : Int) (_ : World) => (18 - k).toNat, ⟨by omega, by omega, g1, by simpa [allT] using Own.nil w1 w.heap.size tS⟩, ?_⟩
  dsimp only [allR, mapR2, eqN, ltN]
  rintro m v k ww ⟨⟨h0, h1, gg, oo⟩, hm⟩
  refine cond_intro (fun h => ?_) (fun h => ?_)
  · simp only [decide_eq_true_eq] at h
    obtain ⟨hx, hmem, hxk⟩ := xk_all ⟨h0, h⟩
    have hl := encB_length (xk k) fo t a n
    refine Encode_c hx (by omega) (by omega) ht fun v9 w8 g8 r8 n8 => ⟨_, _, rfl, ?_⟩
    have hlt := oo.lt
    have gg := gg.then g8
    have oo := oo.grow g8
    refine JoinP.bool (fun b w' => b = false ∧ w' = w8) (fun j hj => cond_f rfl ⟨_, RdB.len r8, hj _ _ ⟨?_, rfl⟩⟩) ?_
    · rw [hl]; decide
    rintro b w' ⟨rfl, rfl⟩
    refine cond_f rfl ?_
    have hal : (allT fo t a n (k - 1).toNat).length = (k - 1).toNat := by simp [allT]
    refine ⟨fun (i : Int) (ww : World) => 0 ≤ i ∧ i ≤ k - 1 ∧ Grow w' ww, fun (i : Int) (_ : World) => (18 - i).toNat, ⟨by omega, by omega, Grow.refl _⟩, ?_⟩
    dsimp only [allR, mapR2, eqN, ltN]
    rintro m2 i w15 ⟨⟨i0, i1, g15⟩, hm2⟩
    refine ⟨_, (oo.grow g15).rd.len, ?_⟩
    rw [hal]
    refine cond_intro (fun h2 => ?_) (fun h2 => ?_)
    · simp only [decide_eq_true_eq] at h2
      have gd := g15.then (Grow.dr (Grow.refl w15))
      obtain ⟨a17, ha17, hc17⟩ := (oo.grow gd).rd.at (i := i) (u := Value.string (textOf (encB (xk (i + 1)) fo t a n))) i0 (by
        simp only [allT]
        rw [List.getElem?_map, List.getElem?_range (by omega)]
        simp only [Option.map_some]
        rw [show ((i.toNat : Nat) : Int) = i by omega])
      refine ⟨a17, ha17, _, hc17, _, to_text (r8.grow gd), ?_⟩
      rw [text_beq]
      refine cond_f ?_ ?_
      · rw [decide_eq_false_iff_not]
        intro e
        have := kb_inj (by omega) (by omega) e
        omega
      · rw [wi64_id (n := i + 1) (by omega) (by omega)]
        exact ⟨⟨by omega, by omega, gd⟩, by omega⟩
    · simp only [decide_eq_false_iff_not] at h2
      refine ⟨_, to_text (r8.grow g15), ?_⟩
      have ga := g15.then (Grow.al (Grow.refl w15) (.cells #[.string (textOf (encB (xk k) fo t a n))] tS))
      have ol := Own.lit w15 (Nat.le_refl _) tS #[.string (textOf (encB (xk k) fo t a n))] 1 rfl (by simp [maxLen])
      have hwB := (gg.then ga).size
      obtain ⟨v21, w22, h22, o22, n22⟩ := app_own tyS (oo.grow ga) ol.rd (by intro u hu; simp at hu; subst hu; rfl) (by rw [hal]; simp; omega) hwB
      refine ⟨v21, w22, h22, ?_⟩
      have gb : Grow w w22 := (gg.then ga).trans (n22.below hwB (oo.grow ga).blk)
      have r22 : RdB w22 v9 (encB (xk k) fo t a n) := Rd.grown (r8.grow ga) n22.by_ (n8.ne hlt)
      have hat : (xk k).at_ = true → getV (encB (xk k) fo t a n) 2 8 ≤ 4611686018427387904 := fun e => by rw [enc_at e fo t a n (by omega)]; omega
      refine Decode_c r22 (by omega) (enc_find hmem fo t a n) (enc_ok hmem fo t a n) hat fun fo2 w24 g24 => ?_
      rw [hxk]
      generalize atD (xk k) (encB (xk k) fo t a n) = da
      generalize nD (xk k) (encB (xk k) fo t a n) = dn
      generalize tD (xk k) (encB (xk k) fo t a n) = dt
      obtain ⟨s1, s2, p1, p2, gp⟩ := pair w24 (rK k da dn (.slice none 0 0) 0 0 dt fo2) (rR 0 0 0 (.slice none 0 0) 0) rfl rfl rfl rfl
      refine ⟨_, _, _, _, _, _, _, _, _, _, _, _, _, _, rfl, s1, s2, ?_⟩
      unfold WP at *
      generalize stRow (stRow (World.alloc (World.alloc w24 (.cells rK0 tK)) (.cells rR0 tR)) ⟨w24.heap.size, 0, none⟩ (rK k da dn (.slice none 0 0) 0 0 dt fo2)) ⟨(World.alloc w24 (.cells rK0 tK)).heap.size, 0, none⟩ (rR 0 0 0 (.slice none 0 0) 0) = W at *
      refine JoinP.bool (fun b w' => b = false ∧ w' = W) (fun j hj => cond_f rfl ⟨_, p1.cell 0, hj _ _ ⟨by simp, rfl⟩⟩) ?_
      rintro b w'' ⟨rfl, rfl⟩
      refine cond_f rfl ?_
      rw [wi64_id (n := k + 1) (by omega) (by omega)]
      refine ⟨⟨by omega, by omega, gb.then (g24.then gp), ?_⟩, by omega⟩
      have e : (k + 1 - 1).toNat = (k - 1).toNat + 1 := by omega
      rw [e]
      have o := o22.grow (g24.then gp)
      unfold allT at o ⊢
      rw [List.range_succ, List.map_append]
      have e2 : (((k - 1).toNat : Nat) : Int) + 1 = k := by omega
      rw [List.map_singleton, e2]; exact o
  · have h18 : codesL.find? (isK 18) = none := by decide
    have h00 : codesL.find? (isK 0) = none := by decide
    refine EncodeNone_c h18 fun w47 g47 => ⟨_, _, rfl, EncodeNone_c h00 fun w51 g51 => ⟨_, _, rfl, ?_⟩⟩
    exact JoinP.bool (fun b w' => b = true ∧ w' = w51) (fun j hj => cond_t rfl (hj _ _ ⟨rfl, rfl⟩)) (by rintro b w' ⟨rfl, rfl⟩; exact ⟨rfl, gg.then (g47.then g51)⟩)

end Go.Proofs.Ytdkknncpmkajnaa
