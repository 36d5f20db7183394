/- The contracts of Known, low, Concat, Encode. -/
import Derived.Test.YtooeeodkaeimeaaPduM
import Derived.Test.YtooeeodkaeimeaaNam
import Derived.Test.YtooeeodkaeimeaaGPdu
import Derived.Test.YtooeeodkaeimeaaZer
set_option linter.unusedVariables false
set_option linter.unusedSimpArgs false
set_option maxRecDepth 100000
namespace Go.Proofs.Ytooeeodkaeimeaa
open Go Go.CW Go.RowKit Go.Crc

abbrev tP : TypeId := 26

theorem Known_c {w : World} {op : Int} {R : KV} (k : R (.bool (known op)) w) : Go.CW.Spec Try.prog 17 #[.int .i64 op] w R := by
  apply pdu_Known_wp
  refine JoinP.bool (fun b w' => w' = w ∧ b = known op) (fun j hj => ?_) (by rintro b w' ⟨rfl, rfl⟩; exact cond_intro (fun e => by rw [e] at k; exact k) (fun e => by rw [e] at k; exact k))
  have hq : ∀ b, b = known op → j b w := fun b hb => hj _ _ ⟨rfl, hb⟩
  iterate 13 refine cond_intro (fun e => hq _ (by simp only [beq_iff_eq] at e; subst e; rfl)) (fun _ => ?_)
  refine hq _ ?_
  simp only [known, *, Bool.false_or]

/-! ### Put, whose row may be written; Reverse -/
theorem slices_Clip_f {w : World} {v : Value} {bs : List UInt8} {R : KV} (hr : RdB w v bs) (k : ∀ v', RdB w v' bs → v'.ownBlock = v.ownBlock → Ful v' → R v' w) : Go.CW.Spec Try.prog 22 #[v] w R := by
  have hd := hr
  apply slices_Clip___wp
  refine ⟨_, RdB.len hd, _, RdB.len hd, ?_⟩
  obtain ⟨a, cap, rfl, h1, h2, h3, h4⟩ := hr
  rw [List.length_map] at h1
  have h0 : (0 : Int) ≤ (bs.length : Int) := by omega
  have e : (bs.length : Int) ≤ cap := by omega
  refine ⟨.slice (if bs.length = 0 then a else a) bs.length bs.length, ?_, k _ ?_ ?_ (Ful.mk _ _)⟩
  · simp only [List.length_map, subSlice, boundsOf, boundOf, h0, e, and_self, if_true, Int.toNat_natCast, Int.le_refl, Nat.sub_zero, Nat.zero_mul]
    split <;> simp [add_zero]
  · rw [ite_self]
    exact ⟨a, bs.length, by simp, by simp, by omega, fun hh => by have := h3 hh; omega, h4⟩
  · rw [ite_self]; cases a <;> rfl

theorem bin_Put_w {w : World} {v : Value} {bs : List UInt8} {x n : Int} {R : KV} (hr : RdB w v bs) (hb : bs.length ≤ 1000000000000) (hn : 1 ≤ n ∧ n ≤ 8)
    (k : ∀ v' w', Grow w w' → Wr w' w.heap.size v' ((bs ++ putL x n.toNat).map b8) → Ful v' → NewV w v' → R v' w') : Go.CW.Spec Try.prog 18 #[v, .int .u64 x, .int .i64 n] w R := by
  apply bin_Put_wp
  refine slices_Clone_c hr (by omega) fun v1 w1 g1 o1 => ?_
  refine JoinP.bool (fun b w' => b = !(inW n) ∧ w' = w1) (fun j hj => test_width n j w1 hj) ?_
  have h : inW n = true := by simpa [inW] using hn
  rintro b w' ⟨rfl, rfl⟩
  refine cond_f (by rw [h]; rfl) ?_
  refine ⟨fun (vv : Value) (i : Int) (ww : World) => -1 ≤ i ∧ i < n ∧ Grow w ww ∧ OwnB ww w.heap.size tb vv (bs ++ (putL x n.toNat).take (n.toNat - (i + 1).toNat)), fun (_ : Value) (i : Int) (_ : World) => (i + 1).toNat, ?_, ?_⟩
  · dsimp only
    rw [wi64_id (n := n - 1) (by omega) (by omega)]
    refine ⟨by omega, by omega, g1, ?_⟩
    have e : n.toNat - (n - 1 + 1).toNat = 0 := by omega
    rw [e]; simpa using o1
  · dsimp only [allR, mapR2, eqN, ltN]
    rintro m vv i ww ⟨⟨h0, h1, g, o⟩, hm⟩
    refine cond_intro (fun h2 => ?_) (fun h2 => ?_)
    · simp at h2
      obtain ⟨i, rfl⟩ := Int.eq_ofNat_of_zero_le h2
      refine leK_intro (by rw [wi64_id (n := 8 * (i : Int)) (by omega) (by omega)]; omega) ?_
      obtain ⟨v', w', k1, k2, k3⟩ := app_byte o g.size _ _ (shr_byte x i (by omega)) (by simp [putL_length]; omega)
      refine ⟨v', w', k1, ⟨?_, ?_, g.trans (k3.below g.size o.blk), ?_⟩, ?_⟩
      all_goals rw [wi64_id (n := (i : Int) - 1) (by omega) (by omega)]
      · omega
      · omega
      · have e1 : ((i : Int) - 1 + 1).toNat = i := by omega
        have e2 : ((i : Int) + 1).toNat = i + 1 := by omega
        rw [e1]
        rw [e2, List.append_assoc, take_putL x n.toNat i (by omega)] at k2
        exact k2
      · change ((i : Int) - 1 + 1).toNat < m
        omega
    · simp at h2
      have e1 : (i + 1).toNat = 0 := by omega
      rw [e1, Nat.sub_zero, List.take_of_length_le (by rw [putL_length]; omega)] at o
      have hd := o.rd
      apply slices_Clip___wp
      refine ⟨_, RdB.len hd, _, RdB.len hd, ?_⟩
      rcases o.2 with ⟨rfl, hz⟩ | ⟨g', cap, cur, rfl, hb', hg, hn', hm', hs, ht⟩
      · rw [List.length_map, List.length_append, putL_length] at hz; omega
      · have hlen : (bs ++ putL x n.toNat).length = bs.length + n.toNat := by rw [List.length_append, putL_length]
        rw [List.length_map] at hn'
        have h0 : (0 : Int) ≤ ((bs ++ putL x n.toNat).length : Int) := by omega
        have e : ((bs ++ putL x n.toNat).length : Int) ≤ cap := by omega
        refine ⟨.slice (some ⟨g', 0, none⟩) (bs ++ putL x n.toNat).length (bs ++ putL x n.toNat).length, ?_, k _ _ g ?_ (Ful.mk _ _) (fun q hq => by cases hq; exact hb')⟩
        · simp only [List.length_map, subSlice, boundsOf, boundOf, h0, e, and_self, if_true, Int.toNat_natCast, Int.le_refl, Nat.sub_zero]
          split <;> simp [add_zero]
        · obtain ⟨a', cap', hv, k1, k2, k3, k4⟩ := hd
          cases hv
          refine ⟨⟨some ⟨g', 0, none⟩, (bs ++ putL x n.toNat).length, by simp, by simp, by simp at k1; omega, fun hh => (by cases hh), k4⟩, fun _ => ⟨g', (bs ++ putL x n.toNat).length, cur, tb, by simp, hb', hg, by simp at hn' ⊢; omega⟩⟩

theorem St1.grow {w w' : World} {a : Addr} (h : St1 w a) (g : Grow w w') : St1 w' a := by
  obtain ⟨⟨u, hu⟩, hf⟩ := h
  have hlt := World.block_lt_of_cell? w a hu
  refine ⟨⟨u, (g.cell hlt).trans hu⟩, ?_⟩
  exact (World.frozen?_of_block (g.block _ hlt)).trans hf

theorem Reverse_c {w : World} {B : Nat} {v : Value} {bs : List UInt8} {R : KV} (hr : Wr w B v (bs.map b8)) (hB : B ≤ w.heap.size) (k : ∀ w', Below B w w' → Wr w' B v (bs.reverse.map b8) → R (.tuple #[]) w') : Go.CW.Spec Try.prog 31 #[v] w R := by
  apply slices_Reverse___wp
  have hle := hr.rd.le
  rw [List.length_map] at hle
  refine ⟨_, RdB.len hr.rd, ?_⟩
  rw [wi64_id (n := (bs.length : Int) - 1) (by omega) (by omega)]
  refine ⟨fun (i j : Int) (ww : World) => 0 ≤ i ∧ j = (bs.length : Int) - 1 - i ∧ i ≤ j + 2 ∧ Below B w ww ∧ ∃ ys : List UInt8, Wr ww B v (ys.map b8) ∧ ys.length = bs.length ∧ ∀ n, n < bs.length → ys[n]? = if (n : Int) < i ∨ (bs.length : Int) - 1 - n < i then bs[bs.length - 1 - n]? else bs[n]?, fun (i _ : Int) (_ : World) => ((bs.length : Int) - i).toNat, ?_, ?_⟩
  · exact ⟨by omega, by omega, by omega, Below.refl _ _, bs, hr, rfl, fun n hn => by rw [if_neg (by omega)]⟩
  dsimp only [allR, mapR2, eqN, ltN]
  rintro m i j ww ⟨⟨h0, rfl, h1, g, ys, hy, hyl, hya⟩, hm⟩
  refine cond_intro (fun h => ?_) (fun h => ?_)
  · simp only [decide_eq_true_eq] at h
    refine nm fun w5 e5 => ?_
    have g5 := drE e5
    have hy5 := hy.grow g5
    obtain ⟨a6, ha6, hc6⟩ := RdB.at hy5.rd (i := (bs.length : Int) - 1 - i) (by omega) (by omega)
    obtain ⟨a8, ha8, hc8⟩ := RdB.at hy5.rd (i := i) (by omega) (by omega)
    refine ⟨a6, ha6, _, hc6, a8, ha8, _, hc8, a8, ha8, nm fun w11 e11 => ?_⟩
    obtain rfl : w11 = w5 := e11.trans e5.symm
    obtain ⟨b8', hb8, _, s8, hB8, ho8, p8⟩ := hy5.put (i := i) (by omega) (by rw [List.length_map]; omega)
    obtain rfl : b8' = a8 := by rw [ha8] at hb8; exact (Option.some.inj hb8).symm
    refine ⟨s8, nm fun w12 e12 => ⟨a6, ha6, nm fun w14 e14 => ?_⟩⟩
    have p12 := p8 (b8 (ys[((bs.length : Int) - 1 - i).toNat]'(by omega)))
    rw [show (World.setCell w11 b8' (b8 (ys[((bs.length : Int) - 1 - i).toNat]'(by omega)))) = w14 from e14.symm, ← List.map_set] at p12
    obtain ⟨b6', hb6, _, s6, hB6, ho6, p6⟩ := p12.put (i := (bs.length : Int) - 1 - i) (by omega) (by simp; omega)
    obtain rfl : b6' = a6 := by rw [ha6] at hb6; exact (Option.some.inj hb6).symm
    refine ⟨s6, nm fun w15 e15 => nm fun w16 e16 => ?_⟩
    have p16 := p6 (b8 (ys[i.toNat]'(by omega)))
    rw [show (World.setCell w14 b6' (b8 (ys[i.toNat]'(by omega)))) = w16 from e16.symm, ← List.map_set] at p16
    have t14 : Below B w w14 := Below.turn (g.trans (g5.mono (Nat.le_trans hB g.size))) (by rw [e14]; exact Turn.set _ _ _) hB8
    have t16 : Below B w w16 := Below.turn t14 (by rw [e16]; exact Turn.set _ _ _) hB6
    rw [wi64_id (n := i + 1) (by omega) (by omega), wi64_id (n := (bs.length : Int) - 1 - i - 1) (by omega) (by omega)]
    refine ⟨⟨by omega, by omega, by omega, t16, _, p16, by simp [hyl], fun n hn => ?_⟩, by omega⟩
    have q1 := hya i.toNat (by omega)
    have q2 := hya ((bs.length : Int) - 1 - i).toNat (by omega)
    rw [if_neg (by omega), List.getElem?_eq_getElem (by omega)] at q1
    rw [if_neg (by omega), List.getElem?_eq_getElem (by omega)] at q2
    by_cases e1 : n = ((bs.length : Int) - 1 - i).toNat
    · subst e1
      rw [List.getElem?_set_self (by simp; omega), if_pos (by omega), q1]
      congr 1; omega
    · rw [List.getElem?_set_ne (fun e => e1 e.symm)]
      by_cases e2 : n = i.toNat
      · subst e2
        rw [List.getElem?_set_self (by omega), if_pos (by omega), q2]
        congr 1; omega
      · rw [List.getElem?_set_ne (fun e => e2 e.symm), hya n hn]
        by_cases e3 : (n : Int) < i ∨ (bs.length : Int) - 1 - n < i
        · rw [if_pos e3, if_pos (by omega)]
        · rw [if_neg e3, if_neg (by omega)]
  · simp only [decide_eq_false_iff_not] at h
    have e : ys = bs.reverse := by
      apply List.ext_getElem?
      intro n
      by_cases hn : n < bs.length
      · rw [hya n hn, List.getElem?_reverse hn]
        by_cases e3 : (n : Int) < i ∨ (bs.length : Int) - 1 - n < i
        · rw [if_pos e3]
        · rw [if_neg e3]
          have : bs.length - 1 - n = n := by omega
          rw [this]
      · rw [List.getElem?_eq_none (by omega), List.getElem?_eq_none (by simp; omega)]
    subst e
    exact k _ g hy

theorem putL_le4 (x : W) : (putL (U x) 4).reverse = le4 x := by
  have d : ∀ k : Nat, U x / (k : Int) = ((x.toNat / k : Nat) : Int) := fun k => (Int.natCast_ediv _ _).symm
  have d1 := d 256
  have d2 := d 65536
  have d3 := d 16777216
  have d0 := d 1
  simp only [Int.cast_ofNat_Int, Nat.div_one] at d0 d1 d2 d3
  show [byt (U x / 1), byt (U x / 256), byt (U x / 65536), byt (U x / 16777216)] = le4 x
  rw [d0, d1, d2, d3, byt_nat, byt_nat, byt_nat, byt_nat]
  rfl

theorem pdu_low_c {w : World} {v : Value} {bs : List UInt8} {R : KV} (hr : RdB w v bs) (k : ∀ v' w', Grow w w' → RdB w' v' (le4 (sum bs)) → NewV w v' → R v' w') : Go.CW.Spec Try.prog 19 #[v] w R := by
  apply pdu_low_wp
  refine crc_Sum_c hr fun w1 g1 => ⟨_, rfl, ?_⟩
  have hu := U_range (sum bs)
  rw [w64_id (n := U (sum bs)) hu.1 (by omega)]
  refine bin_Put_w (bs := []) (Rd.nil w1) (by simp) (by omega) fun v3 w3 g3 o3 _ n3 => ?_
  refine Reverse_c o3 g3.size fun w6 g6 o6 => ⟨rfl, k _ _ (g1.then (g3.trans g6)) ?_ (n3.of g1.size)⟩
  have := o6.rd
  rw [List.nil_append, show ((4 : Int)).toNat = 4 from rfl, putL_le4] at this
  exact this

/-! ### Concat -/
theorem Grow0_c {w : World} {n : Nat} {R : KV} (hn : n ≤ 1000000000) (k : ∀ v' w', Grow w w' → OwnB w' w.heap.size tb v' [] → R v' w') : Go.CW.Spec Try.prog 32 #[.slice none 0 0, .int .i64 (n : Int)] w R := by
  apply slices_Grow___wp
  refine JoinP.unit (fun w' => w' = w) (fun j hj => cond_f (by simp) (hj _ rfl)) ?_
  rintro w' rfl
  refine JoinP.val (fun v ww => Grow w' ww ∧ OwnB ww w'.heap.size tb v []) (fun j hj => ?_) (fun v ww h => k _ _ h.1 h.2)
  refine ⟨0, rfl, 0, rfl, ?_⟩
  have e : IntKind.wrap .i64 ((n : Int) - IntKind.wrap .i64 ((0 : Int) - ((0 : Nat) : Int))) = (n : Int) := by
    rw [wi64_id (n := (0 : Int) - ((0 : Nat) : Int)) (by omega) (by omega), wi64_id (by omega) (by omega)]; omega
  rw [e]
  refine cond_intro (fun h => ⟨0, rfl, .slice none 0 0, rfl, ?_⟩) (fun h => hj _ _ ⟨Grow.refl _, Own.nil _ _ _⟩)
  simp only [decide_eq_true_eq, gt_iff_lt] at h
  obtain ⟨v', w2, h1, o, g⟩ := app_zeros (P := Try.prog) (t := tB) (tn := 3) (ts := 9) (e := tb) (w := w') (kn := .i64) (bs := []) tyB (by kernel_rfl) (by kernel_rfl) (by kernel_rfl) (Own.nil w' w'.heap.size tb) n (by omega) (by simp only [List.length_nil]; omega) (Nat.le_refl _)
  rw [List.nil_append] at o
  have ho : w2.ownsRow w'.heap.size tb 1 v' n ((List.replicate n (0 : UInt8)).map b8) := by simpa [OwnB, Own] using o
  rcases ho.2 with ⟨_, hz⟩ | ⟨gb, cap, cur, rfl, hb, hg, hnc, hm, hs, ht⟩
  · omega
  · refine ⟨_, w2, h1, 0, rfl, .slice (some ⟨gb, 0, none⟩) 0 cap, ?_, hj _ _ ⟨grownBy.below g (Nat.le_refl _) (fun k hk => by cases hk), ?_⟩⟩
    · have hc : (0 : Int) ≤ cap := by omega
      simp only [subSlice, boundsOf, boundOf, Int.natCast_zero, Int.le_refl, hc, and_self, if_true, Int.toNat_zero, Nat.sub_zero, Nat.zero_mul]
      split <;> simp [add_zero]
    · exact ⟨by simp, .inr ⟨gb, cap, cur, rfl, hb, hg, by simp, hm, hs, by simp⟩⟩

theorem RdBB.rows {w : World} {v : Value} {bss : List (List UInt8)} (h : RdBB w v bss) {i : Int} (h0 : 0 ≤ i) (h1 : i < bss.length) :
    ∃ a u, sliceAt v i 1 = some a ∧ w.cell? a = some u ∧ RdB w u (bss[i.toNat]'(by omega)) := by
  obtain ⟨a, u, k1, k2, k3⟩ := h.at h0 h1
  exact ⟨a, u, k1, k2 w (Grow.refl w), k3⟩

theorem flat_take (bss : List (List UInt8)) (i : Nat) (hi : i < bss.length) : (bss.take (i + 1)).flatten = (bss.take i).flatten ++ bss[i] := by
  rw [List.take_add_one, List.getElem?_eq_getElem hi]; rw [List.flatten_append]; simp
theorem flat_le (bss : List (List UInt8)) (i : Nat) : (bss.take i).flatten.length ≤ bss.flatten.length := by
  conv => rhs; rw [← List.take_append_drop i bss]
  rw [List.flatten_append, List.length_append]; omega

theorem Concat_c {w : World} {v : Value} {bss : List (List UInt8)} {R : KV} (hr : RdBB w v bss) (hb : bss.flatten.length ≤ 1000000000) (k : ∀ v' w', Grow w w' → OwnB w' w.heap.size tb v' bss.flatten → R v' w') : Go.CW.Spec Try.prog 21 #[v] w R := by
  apply slices_Concat___wp
  have hle : bss.length ≤ 9223372036854775807 := by obtain ⟨vs, r, e, _⟩ := hr; have := r.le; omega
  refine ⟨_, hr.len, ?_⟩
  refine ⟨fun (n i : Int) (ww : World) => ww = w ∧ 0 ≤ i ∧ i ≤ bss.length ∧ n = ((bss.take i.toNat).flatten.length : Nat), fun (_ i : Int) (_ : World) => ((bss.length : Int) - i).toNat, ⟨rfl, by omega, by omega, by simp⟩, ?_⟩
  dsimp only [allR, mapR2, eqN, ltN]
  rintro m n i ww ⟨⟨rfl, h0, h1, rfl⟩, hm⟩
  refine cond_intro (fun h => ?_) (fun h => ?_)
  · simp only [decide_eq_true_eq] at h
    have ft := flat_take bss i.toNat (by omega)
    have fl := flat_le bss (i.toNat + 1)
    have fe := congrArg List.length ft
    rw [List.length_append] at fe
    refine JoinP.int (fun n' w' => w' = ww ∧ n' = ((bss.take (i.toNat + 1)).flatten.length : Nat)) (fun j hj => ?_) ?_
    · obtain ⟨a, u, ha, hc, hru⟩ := RdBB.rows hr h0 h
      refine ⟨a, ha, u, hc, _, RdB.len hru, ?_⟩
      have e : IntKind.wrap .i64 (((bss.take i.toNat).flatten.length : Int) + ((bss[i.toNat]'(by omega)).length : Int)) = (((bss.take (i.toNat + 1)).flatten.length : Nat) : Int) := by
        rw [wi64_id (by omega) (by omega)]; omega
      rw [e]
      exact cond_f (by simp) (hj _ _ ⟨rfl, rfl⟩)
    · rintro n' w' ⟨rfl, rfl⟩
      rw [wi64_id (n := i + 1) (by omega) (by omega)]
      have e : (i + 1).toNat = i.toNat + 1 := by omega
      exact ⟨⟨rfl, by omega, by omega, by rw [e]⟩, by omega⟩
  · simp only [decide_eq_false_iff_not] at h
    have e : bss.take i.toNat = bss := List.take_of_length_le (by omega)
    rw [e]
    refine Grow0_c hb fun v12 w13 g13 o13 => ⟨_, (hr.grow g13).len, ?_⟩
    refine ⟨fun (v : Value) (i : Int) (w' : World) => 0 ≤ i ∧ i ≤ bss.length ∧ Grow ww w' ∧ OwnB w' ww.heap.size tb v (bss.take i.toNat).flatten, fun (_ : Value) (i : Int) (_ : World) => ((bss.length : Int) - i).toNat, ⟨by omega, by omega, g13, by simpa using o13⟩, ?_⟩
    dsimp only [allR, mapR2, eqN, ltN]
    rintro m2 v16 i w18 ⟨⟨h0, h1, g, o⟩, hm2⟩
    refine cond_intro (fun h => ?_) (fun h => ?_)
    · simp only [decide_eq_true_eq] at h
      have ft := flat_take bss i.toNat (by omega)
      have fl := flat_le bss (i.toNat + 1)
      have fe := congrArg List.length ft
      rw [List.length_append] at fe
      obtain ⟨a, u, ha, hc, hru⟩ := RdBB.rows (hr.grow g) h0 h
      obtain ⟨v', w', k1, k2, k3⟩ := app_bytes o hru g.size (by omega)
      refine ⟨a, ha, u, hc, v', w', k1, ?_⟩
      rw [wi64_id (n := i + 1) (by omega) (by omega)]
      have e : (i + 1).toNat = i.toNat + 1 := by omega
      refine ⟨⟨by omega, by omega, g.trans (k3.below g.size o.blk), ?_⟩, by omega⟩
      rw [e, ft]; exact k2
    · simp only [decide_eq_false_iff_not] at h
      have e : bss.take i.toNat = bss := List.take_of_length_le (by omega)
      rw [e] at o
      exact k _ _ g o

/-! ### Encode -/
theorem or128 : ∀ f : Fin 128, bitsI .or .u8 (f.val : Int) 128 = bn (byt (f.val : Int) ||| 128) := by decide +kernel

theorem puts_take (l : List Int) (i : Nat) (hi : i < l.length) : puts (l.take (i + 1)) = puts (l.take i) ++ putL l[i] 4 := by
  rw [List.take_add_one, List.getElem?_eq_getElem hi]; unfold puts; rw [List.flatMap_append]; simp
theorem puts_len (l : List Int) : (puts l).length = 4 * l.length := by
  induction l with
  | nil => rfl
  | cons x l ih => simp only [puts, List.flatMap_cons, List.length_append, List.length_cons, putL_length] at ih ⊢; omega

theorem Encode_c {w : World} {p : Pd} {dv : Value} {ds : List UInt8} {R : KV} (hf : PdFits p) (hd : RdB w dv ds)
    (k : ∀ v e w', Grow w w' → (okP p = false → v = .slice none 0 0 ∧ e = 1) → (okP p = true → 4096 < ds.length → v = .slice none 0 0 ∧ e = 5) →
      (okP p = true → ds.length ≤ 4096 → RdB w' v (encP p ds) ∧ e = 0 ∧ NewV w v) → R (.tuple #[v, .int .i64 e]) w') : Go.CW.Spec Try.prog 6 #[vP p dv] w R := by
  apply pdu_Encode_wp
  refine nm fun w0 e0 => ?_
  obtain ⟨b0, g0, _⟩ := alE e0
  clear e0
  generalize w.heap.size = hb at *
  refine JoinP.bool (fun b w' => w' = w0 ∧ b = !okP p) (fun j hj => ?_) ?_
  · refine ⟨_, b0.cell 0, Known_c ⟨_, rfl, cond_intro (fun e => hj _ _ ⟨rfl, ?_⟩) (fun e => ?_)⟩⟩
    · simp only [Bool.not_eq_true'] at e; simp [okP, e]
    · simp only [Bool.not_eq_false'] at e
      refine JoinP.bool (fun b w' => w' = w0 ∧ b = !(decide (0 ≤ p.fl) && decide (p.fl < 128))) (fun j1 hj1 => ?_) ?_
      · refine ⟨_, b0.cell 2, cond_intro (fun h => hj1 _ _ ⟨rfl, ?_⟩) (fun h => ⟨_, b0.cell 2, hj1 _ _ ⟨rfl, ?_⟩⟩)⟩
        · simp only [decide_eq_true_eq] at h
          rw [Bool.eq_iff_iff]; simp; omega
        · simp only [decide_eq_false_iff_not] at h
          rw [Bool.eq_iff_iff]; simp; omega
      rintro b w' ⟨rfl, rfl⟩
      refine cond_intro (fun h => hj _ _ ⟨rfl, ?_⟩) (fun h => ⟨_, b0.cell 3, cond_intro (fun h2 => hj _ _ ⟨rfl, ?_⟩) (fun h2 => ⟨_, b0.cell 3, hj _ _ ⟨rfl, ?_⟩⟩)⟩)
      · rw [h]; simp only [Bool.not_eq_true'] at h; simp [okP, e, h]
      · simp only [decide_eq_true_eq] at h2
        have : ¬ (0 ≤ p.st) := by omega
        simp [okP, this]
      · simp only [decide_eq_false_iff_not] at h2
        simp only [Bool.not_eq_false'] at h
        simp only [okP, e, h, Bool.true_and]
        rw [Bool.eq_iff_iff]; simp; omega
  rintro b w2 ⟨rfl, rfl⟩
  refine cond_intro (fun h => ?_) (fun h => ?_)
  · simp only [Bool.not_eq_true'] at h
    exact k _ _ _ g0 (fun _ => ⟨rfl, rfl⟩) (fun e => by rw [h] at e; cases e) (fun e => by rw [h] at e; cases e)
  simp only [Bool.not_eq_false'] at h
  have hd2 := hd.grow g0
  refine ⟨_, b0.cell 26, _, RdB.len hd2, cond_intro (fun h2 => ?_) (fun h2 => ?_)⟩
  · simp only [decide_eq_true_eq, gt_iff_lt] at h2
    exact k _ _ _ g0 (fun e => by rw [h] at e; cases e) (fun _ _ => ⟨rfl, rfl⟩) (fun _ e => by omega)
  simp only [decide_eq_false_iff_not, gt_iff_lt] at h2
  have hk := h
  simp only [okP, Bool.and_eq_true, decide_eq_true_eq] at hk
  obtain ⟨⟨⟨⟨k1, k2⟩, k3⟩, k4⟩, k5⟩ := hk
  have kr := known_range k1
  refine ⟨_, b0.cell 2, ?_⟩
  refine JoinP.int (fun n w' => w' = w2 ∧ n = bn (flB p)) (fun j hj => ⟨_, b0.cell 1, ?_⟩) ?_
  · have hfl : IntKind.wrap .u8 p.fl = p.fl := w8_id k2 (by omega)
    rw [hfl]
    refine cond_intro (fun hfin => hj _ _ ⟨rfl, ?_⟩) (fun hfin => hj _ _ ⟨rfl, ?_⟩)
    · have := or128 ⟨p.fl.toNat, by omega⟩
      have ef : (((⟨p.fl.toNat, by omega⟩ : Fin 128).val : Nat) : Int) = p.fl := by simp; omega
      rw [ef] at this
      unfold flB; rw [if_pos hfin]; exact this
    · unfold flB; rw [if_neg (by rw [hfin]; simp), byt_of k2 (by omega)]
  rintro n6 w7 ⟨rfl, rfl⟩
  refine ⟨_, b0.cell 0, _, b0.cell 3, nm fun w10 e10 => ?_⟩
  have ec : (#[(.int .u8 (IntKind.wrap .u8 p.op)), (.int .u8 (bn (flB p))), (.int .u8 (IntKind.wrap .u8 p.st)), (.int .u8 (0 : Int))] : Array Value) = (([byt p.op, flB p, byt p.st, 0] : List UInt8).map b8).toArray := by
    rw [b8_wrap, b8_wrap]; rfl
  rw [ec] at e10
  obtain ⟨_, g10, _⟩ := alE e10
  have o10 : OwnB w10 w7.heap.size tb (.slice (some ⟨w7.heap.size, 0, none⟩) 4 4) [byt p.op, flB p, byt p.st, 0] := by
    subst e10; exact Own.lit w7 (Nat.le_refl _) tb _ 4 rfl (by simp [maxLen])
  have b10 := b0.grow g10
  have d10 := hd2.grow g10
  refine ⟨_, b10.cell 26, _, RdB.len d10, ?_⟩
  rw [w64_id (n := (ds.length : Int)) (by omega) (by omega)]
  refine bin_Put_w o10.rd (by simp) (by omega) fun v13 w14 g14 o14 f14 n14 => ?_
  have b14 := b10.grow g14
  refine ⟨_, b14.cell 4, _, b14.cell 5, _, b14.cell 6, _, b14.cell 7, _, b14.cell 8, _, b14.cell 9, nm fun w21 e21 => ?_⟩
  obtain ⟨b21, g21, _⟩ := alE e21
  have hin : ∀ i : Nat, i < 6 → IntKind.wrap .u64 ((nums p)[i]?.getD 0) = (nums p)[i]?.getD 0 := by
    intro i hi
    have t1 := hf.tag.u32
    have t2 := hf.sn.u32
    have t3 := hf.exp.u32
    have t4 := hf.mx.u32
    have t5 := hf.off.u32
    have t6 := hf.ln.u32
    have : i = 0 ∨ i = 1 ∨ i = 2 ∨ i = 3 ∨ i = 4 ∨ i = 5 := by omega
    rcases this with rfl | rfl | rfl | rfl | rfl | rfl
    · exact w64_id (n := p.tag) (by omega) (by omega)
    · exact w64_id (n := p.sn) (by omega) (by omega)
    · exact w64_id (n := p.exp) (by omega) (by omega)
    · exact w64_id (n := p.mx) (by omega) (by omega)
    · exact w64_id (n := p.off) (by omega) (by omega)
    · exact w64_id (n := p.ln) (by omega) (by omega)
  have gG := g0.then (g10.then (g14.then g21))
  have hlt := g0.size
  refine ⟨6, rfl, ?_⟩
  refine ⟨fun (v : Value) (i : Int) (ww : World) => 0 ≤ i ∧ i ≤ 6 ∧ Grow w21 ww ∧ RdB ww v (h8 p ds.length ++ puts ((nums p).take i.toNat)) ∧ Ful v, fun (_ : Value) (i : Int) (_ : World) => (6 - i).toNat, ⟨by omega, by omega, Grow.refl _, ?_, f14⟩, ?_⟩
  · have : RdB w14 v13 ([byt p.op, flB p, byt p.st, 0] ++ putL (ds.length : Int) 4) := o14.rd
    have := this.grow g21
    have e : h8 p ds.length ++ puts ((nums p).take (0 : Int).toNat) = [byt p.op, flB p, byt p.st, 0] ++ putL (ds.length : Int) 4 := by simp [h8, puts]
    rw [e]; exact this
  dsimp only [allR, mapR2, eqN, ltN]
  rintro m v24 i w26 ⟨⟨h0, h1, g26, r26, f26⟩, hm⟩
  have nl : (nums p).length = 6 := rfl
  refine cond_intro (fun h3 => ?_) (fun h3 => ?_)
  · have h3 : i < 6 := by simpa using h3
    have hcell : w26.cell? (⟨w14.heap.size, i.toNat, none⟩ : Addr) = some (.int .u32 ((nums p)[i.toNat]?.getD 0)) := by
      rw [(b21.grow g26).at i.toNat]
      have : i.toNat = 0 ∨ i.toNat = 1 ∨ i.toNat = 2 ∨ i.toNat = 3 ∨ i.toNat = 4 ∨ i.toNat = 5 := by omega
      rcases this with e | e | e | e | e | e <;> rw [e] <;> rfl
    refine ⟨⟨w14.heap.size, i.toNat, none⟩, ?_, _, hcell, ?_⟩
    · simp only [sliceAt]
      rw [if_pos (by omega), Nat.mul_one, ad0]
    rw [hin i.toNat (by omega)]
    have hpl := puts_len ((nums p).take i.toNat)
    refine bin_Put_w r26 (by simp only [List.length_append, h8, putL_length, hpl, List.length_take, List.length_cons, List.length_nil]; omega) (by omega) fun v29 w30 g30 o30 f30 n30 => ?_
    rw [wi64_id (n := i + 1) (by omega) (by omega)]
    have e : (i + 1).toNat = i.toNat + 1 := by omega
    refine ⟨⟨by omega, by omega, g26.then g30, ?_, f30⟩, by omega⟩
    have hr := o30.rd
    rw [e, puts_take _ _ (by omega)]
    rw [List.append_assoc] at hr
    have e2 : (nums p)[i.toNat]?.getD 0 = (nums p)[i.toNat]'(by omega) := by rw [List.getElem?_eq_getElem (by omega)]; rfl
    rw [e2] at hr
    exact hr
  · have h3 : ¬ i < 6 := by simpa using h3
    have et : (nums p).take i.toNat = nums p := List.take_of_length_le (by omega)
    rw [et] at r26
    have b26 := b14.grow (g21.then g26)
    have rc : RdB w26 (.slice (some (Addr.add ⟨hb, 0, none⟩ 10)) 16 16) p.cdb := rd_mid b26 10 16 (by simp) (by simp [maxLen])
    have hl8 : (h8 p ds.length ++ puts (nums p)).length = 32 := by simp [h8, putL_length, puts, nums]
    obtain ⟨v31, w32, k31, o32, g32⟩ := app_ful tyB r26 f26 rc one_b8 (by simp [Pd.cdb]) (by simp only [List.length_map, hl8]; simp [Pd.cdb])
    have o32 : OwnB w32 w26.heap.size tb v31 (hdr p ds.length) := by
      have : (h8 p ds.length ++ puts (nums p)).map b8 ++ p.cdb.map b8 = (hdr p ds.length).map b8 := by rw [← List.map_append]; rfl
      rw [OwnB, ← this]; exact o32
    have hhl := hdr_length p ds.length
    refine ⟨v31, w32, k31, pdu_low_c o32.rd fun v33 w34 g34 r34 _ => ?_⟩
    obtain ⟨v35, w36, k36, o36, n36⟩ := app_bytes (o32.grow g34) r34 (Nat.le_trans g32.size g34.size) (by rw [hhl, le4_length]; omega)
    have g36 : Grow w26 w36 := (g32.then g34).trans (n36.below (g32.then g34).size o32.blk)
    refine ⟨v35, w36, k36, ?_⟩
    have gA : Grow w w36 := gG.then (g26.then g36)
    have b36 := b26.grow g36
    have d36 := d10.grow (g14.then (g21.then (g26.then g36)))
    have o36 : OwnB w36 w26.heap.size tb v35 (sealed (hdr p ds.length)) := o36
    have sl := sealed_length (hdr p ds.length)
    have new : ∀ v : Value, NewV w26 v → NewV w v := fun v h => h.of (Nat.le_trans gG.size g26.size)
    refine JoinP.val (fun v ww => Grow w ww ∧ RdB ww v (encP p ds) ∧ NewV w v) (fun j hj => ⟨_, b36.cell 26, _, RdB.len d36, ?_⟩) ?_
    · refine cond_intro (fun h4 => ?_) (fun h4 => ?_)
      · have h4 : 0 < ds.length := by simpa using h4
        have hne : ds ≠ [] := fun e => by subst e; simp at h4
        refine ⟨_, b36.cell 26, bin_Pad_c d36 (by omega) fun v45 w46 g46 r46 n46 => ?_⟩
        refine pdu_low_c r46 fun v47 w48 g48 r48 n48 => ?_
        refine oneK_of (Rd.isOne o36.rd) (oneK_of (Rd.isOne r46) (oneK_of (Rd.isOne r48) (nm fun w49 e49 => ?_)))
        obtain ⟨_, g49, _⟩ := alE e49
        have rw49 : Rd w49 (.slice (some ⟨w48.heap.size, 0, none⟩) 3 3) [v35, v45, v47] := by
          subst e49; exact (Own.lit w48 (Nat.le_refl _) 24 #[v35, v45, v47] 3 rfl (by simp [maxLen])).rd
        have rr : RdBB w49 (.slice (some ⟨w48.heap.size, 0, none⟩) 3 3) [sealed (hdr p ds.length), pad4 ds, le4 (sum (pad4 ds))] := by
          refine ⟨_, rw49, rfl, fun i hi hi' => ?_⟩
          have : i = 0 ∨ i = 1 ∨ i = 2 := by simp at hi'; omega
          rcases this with rfl | rfl | rfl
          · exact o36.rd.grow (g46.then (g48.then g49))
          · exact r46.grow (g48.then g49)
          · exact r48.grow g49
        have ef : [sealed (hdr p ds.length), pad4 ds, le4 (sum (pad4 ds))].flatten = encP p ds := by
          unfold encP; rw [if_neg hne]; simp [sealed]
        have pl := pad4_length ds
        refine Concat_c rr (by rw [ef, encP_length, if_neg hne]; omega) fun v50 w51 g51 o51 => hj _ _ ⟨gA.then (g46.then (g48.then (g49.then g51))), ?_, ?_⟩
        · rw [ef] at o51; exact o51.rd
        · exact fun q hq => Nat.le_trans (gA.then (g46.then (g48.then g49))).size (o51.blk q hq)
      · have h4 : ds.length = 0 := by simpa using h4
        have hne : ds = [] := List.eq_nil_of_length_eq_zero h4
        refine hj _ _ ⟨gA, ?_, new _ o36.blk⟩
        have : encP p ds = sealed (hdr p ds.length) := by unfold encP; rw [if_pos hne, List.append_nil]
        rw [this]; exact o36.rd
    · rintro v37 w38 ⟨g, r, n⟩
      refine slices_Clip_c r fun v39 r39 e39 => k _ _ _ g (fun e => by rw [h] at e; cases e) (fun _ e => by omega) (fun _ _ => ⟨r39, rfl, fun q hq => n q (e39 ▸ hq)⟩)

end Go.Proofs.Ytooeeodkaeimeaa
