/- The contracts of the keys' and the holder's bytes. -/
import Derived.Test.YtnclgknfccliiaaGreatDoorGUn
import Derived.Test.YtnclgknfccliiaaGreatDoorLstM
set_option linter.unusedVariables false
set_option linter.unusedSimpArgs false
namespace Go.Proofs.YtnclgknfccliiaaGreatDoor.Lst
open Go Go.CW Go.RowKit

abbrev tU : TypeId := 31
abbrev tUs : TypeId := 58
theorem tyU : SlTyN Tryz.prog tUs tU EU.s 8 := SlTyN.of (by kernel_rfl)

theorem JoinP.ii {k k' : IntKind} {rest : Int → Int → World → Prop} {body : (Int → Int → World → Prop) → Prop} (Q : Int → Int → World → Prop) (hb : ∀ j : Int → Int → World → Prop, (∀ a b w, Q a b w → j a b w) → body j) (h : ∀ a b w, Q a b w → rest a b w) : JoinP [.int k, .int k'] rest body := hb rest h
theorem JoinP.ib {k : IntKind} {rest : Int → Bool → World → Prop} {body : (Int → Bool → World → Prop) → Prop} (Q : Int → Bool → World → Prop) (hb : ∀ j : Int → Bool → World → Prop, (∀ a b w, Q a b w → j a b w) → body j) (h : ∀ a b w, Q a b w → rest a b w) : JoinP [.int k, .bool] rest body := hb rest h

theorem u64_of32 {g : Int} (hg : 0 ≤ g ∧ g < 4294967296) : IntKind.wrap .u64 g = g := w64_id (by omega) (by omega)

theorem put4 (bs : List UInt8) (x : Int) : putS bs x 4 = bs ++ putL x 4 := rfl
theorem put8 (bs : List UInt8) (x : Int) : putS bs x 8 = bs ++ putL x 8 := rfl
theorem put2 (bs : List UInt8) (x : Int) : putS bs x 2 = bs ++ putL x 2 := rfl

theorem Keys_c {w : World} {g : Int} {v : Value} {l : List Int} {R : KV} (hg : 0 ≤ g ∧ g < 4294967296) (hr : RdR EU w v l) (c : ∀ v' w', Grow w w' → RdB w' v' (keysB g l) → NewV w v' → R v' w') :
    Go.CW.Spec Tryz.prog 69 #[.int .u32 g, v] w R := by
  apply prlist_Keys_wp
  have hle := hr.le
  obtain ⟨v1, h1, r1, _⟩ := hr.sub (lo := none) (hi := some (.int .i64 (if (16 : Int) < ((l.length : Nat) : Int) then (16 : Int) else ((l.length : Nat) : Int)))) (l := 0) (r := min 16 l.length) (fun cap hc => by
    rw [bounds_ni (by split <;> omega) (by split <;> omega)]
    have e : (if (16 : Int) < ((l.length : Nat) : Int) then (16 : Int) else ((l.length : Nat) : Int)).toNat = min 16 l.length := by split <;> omega
    rw [e]) (by omega) (by omega)
  rw [List.drop_zero, Nat.sub_zero] at r1
  have e0 : l.take (min 16 l.length) = cutK l := by
    unfold cutK
    by_cases h : l.length ≤ 16
    · rw [List.take_of_length_le (by omega), List.take_of_length_le h]
    · have : min 16 l.length = 16 := by omega
      rw [this]
  rw [e0] at r1
  have hcl := cutK_length l
  refine ⟨_, hr.len, v1, h1, ?_⟩
  rw [u64_of32 hg]
  refine bin_Put_c (bs := []) (Rd.nil w) (by simp) fun v2 w3 g3 r3 _ => ⟨_, r1.len, ?_⟩
  rw [wi64_id (n := 8 * ((cutK l).length : Int)) (by omega) (by omega), w64_id (n := 8 * ((cutK l).length : Int)) (by omega) (by omega)]
  refine bin_Put_c r3 (by simp [put4, putL_length]) fun v5 w6 g6 r6 n6 => ⟨_, r1.len, ?_⟩
  have hd : putS (putS [] g 4) (8 * ((cutK l).length : Int)) 4 = putL g 4 ++ putL (8 * ((cutK l).length : Int)) 4 := rfl
  rw [hd] at r6
  refine ⟨fun (vv : Value) (i : Int) (ww : World) => 0 ≤ i ∧ i ≤ (cutK l).length ∧ Grow w ww ∧ RdB ww vv (putL g 4 ++ putL (8 * ((cutK l).length : Int)) 4 ++ rowB ((cutK l).take i.toNat)) ∧ NewV w vv, fun (_ : Value) (i : Int) (_ : World) => ((cutK l).length - i).toNat,
    ⟨by omega, by omega, g3.then g6, by simpa [rowB] using r6, n6.of g3.size⟩, ?_⟩
  dsimp only [allR, mapR2, eqN, ltN]
  rintro m vv i ww ⟨⟨h0, h1', gg, rr, nn⟩, hm⟩
  refine cond_intro (fun h => ?_) (fun h => ?_)
  · simp at h
    obtain ⟨a, ha, hc⟩ := EU_at (r1.grow gg) h0 h
    refine ⟨a, ha, _, hc, bin_Put_c rr (by simp [putL_length, rowB_length]; omega) fun v14 w15 g15 r15 n15 => ?_⟩
    rw [wi64_id (n := i + 1) (by omega) (by omega)]
    refine ⟨⟨by omega, by omega, gg.then g15, ?_, n15.of gg.size⟩, by omega⟩
    have e : (i + 1).toNat = i.toNat + 1 := by omega
    rw [e, List.take_add_one, List.getElem?_eq_getElem (by omega), rowB_append]
    rw [put8, List.append_assoc] at r15
    exact r15
  · simp at h
    have e : (cutK l).take i.toNat = cutK l := List.take_of_length_le (by omega)
    rw [e] at rr
    exact c _ _ gg rr nn

theorem Equal_c {w : World} {v u : Value} {bs cs : List UInt8} {R : KV} (hv : RdB w v bs) (hu : RdB w u cs) (k : R (.bool (decide (bs = cs))) w) : Go.CW.Spec Tryz.prog 57 #[v, u] w R := by
  apply bytes_Equal_wp
  refine ⟨_, to_text hv, _, to_text hu, ?_⟩
  rw [text_beq]; exact k

theorem and15_all : ∀ t : Fin 256, bitsI .and .i64 (t.val : Int) 15 = ((t.val % 16 : Nat) : Int) := by decide +kernel

theorem and15 {t : Int} (ht : Fits .i64 t) : bitsI .and .i64 t (15 : Int) = t % 16 := by
  have h := ht.i64
  show IntKind.wrap .i64 (((BitVec.ofInt 64 t &&& BitVec.ofInt 64 15).toNat : Nat) : Int) = _
  have e : (BitVec.ofInt 64 t &&& BitVec.ofInt 64 15).toNat = (t % 16).toNat := by
    have e15 : (BitVec.ofInt 64 15) = BitVec.ofNat 64 15 := rfl
    rw [e15, BitVec.toNat_and, BitVec.toNat_ofNat, BitVec.toNat_ofInt]
    have : (15 % 2 ^ 64 : Nat) = 2 ^ 4 - 1 := rfl
    rw [this, Nat.and_two_pow_sub_one_eq_mod]
    omega
  rw [e, wi64_id (by omega) (by omega)]
  omega

theorem heads_c {w : World} {v : Value} {bs : List UInt8} {R : KV} (hr : RdB w v bs)
    (c : R (if shortB bs = true then .tuple #[.int .u32 0, .int .i64 0, .int .i64 3] else .tuple #[.int .u32 (hdG bs), .int .i64 (hdN bs), .int .i64 0]) w) : Go.CW.Spec Tryz.prog 68 #[v] w R := by
  apply prlist_heads_wp
  have hle := hr.le
  rw [List.length_map] at hle
  have hh := hd_range bs
  have hb : getB bs.length 4 4 = decide (8 ≤ bs.length) := by
    rw [Bool.eq_iff_iff]
    simp only [getB, inW, Bool.and_eq_true, decide_eq_true_eq]; omega
  refine bin_Get_c hr (by decide) (by decide) ⟨_, _, rfl, bin_Get_c hr (by decide) (by decide) ⟨_, _, rfl, ?_⟩⟩
  have e1 : getV bs 0 4 = hdG bs := rfl
  have e2 : getV bs 4 4 = hdN bs := rfl
  rw [e1, e2, hb]
  refine JoinP.bool (fun b w' => w' = w ∧ b = shortB bs) (fun j hj => ?_) ?_
  · refine cond_intro (fun h => hj _ _ ⟨rfl, ?_⟩) (fun h => ⟨_, RdB.len hr, hj _ _ ⟨rfl, ?_⟩⟩)
    · simp only [Bool.not_eq_true', decide_eq_false_iff_not] at h
      have : bs.length < 8 := by omega
      simp [shortB, this]
    · simp only [Bool.not_eq_false', decide_eq_true_eq] at h
      rw [wi64_id (n := (bs.length : Int) - 8) (by omega) (by omega), w64_id (n := (bs.length : Int) - 8) (by omega) (by omega)]
      have : ¬ bs.length < 8 := by omega
      simp [shortB, this]
  · rintro b w' ⟨rfl, rfl⟩
    refine cond_intro (fun h => ?_) (fun h => ?_)
    · rw [if_pos h] at c; exact c
    · rw [if_neg (by rw [h]; simp)] at c
      rw [w32_id hh.1.1 hh.1.2, wi64_id (n := hdN bs) (by omega) (by omega)]
      exact c

theorem ParseKeys_c {w : World} {v : Value} {bs : List UInt8} {R : KV} (hr : RdB w v bs) (hb : bs.length ≤ 100000000)
    (c : ∀ u w', Grow w w' → RdR EU w' u (pkL bs) → R (.tuple #[.int .u32 (pkG bs), u, .int .i64 (pkE bs)]) w') : Go.CW.Spec Tryz.prog 27 #[v] w R := by
  apply prlist_ParseKeys_wp
  refine heads_c hr ?_
  cases hs : shortB bs
  · rw [if_neg (by simp)]
    refine ⟨_, _, _, rfl, cond_f (by simp) ?_⟩
    have hh := hd_range bs
    obtain ⟨okE, okN⟩ := okC_iff bs
    have hs' := hs
    simp only [shortB, Bool.or_eq_false_iff, decide_eq_false_iff_not] at hs'
    have bad : okC bs = false → ∀ w', Grow w w' → R (.tuple #[.int .u32 0, .slice none 0 0, .int .i64 2]) w' := by
      intro h w' g
      have := c (.slice none 0 0) w' g
      simp only [pkL, pkG, pkE, hs, ← okE, h] at this
      exact this (RdR.nil w')
    refine ⟨fun (u : Value) (at_ : Int) (ww : World) => ∃ i : Nat, at_ = 8 + 8 * (i : Int) ∧ i ≤ nC bs ∧ 8 + 8 * i ≤ bs.length ∧ Grow w ww ∧ OwnR EU ww w.heap.size tU u (chunk bs i), fun (_ : Value) (at_ : Int) (_ : World) => (bs.length + 8 - at_).toNat,
      ⟨0, rfl, by omega, by omega, Grow.refl w, OwnR.nil _ _ _⟩, ?_⟩
    dsimp only [allR, mapR2, eqN, ltN]
    rintro m u at_ ww ⟨⟨i, rfl, hi, hil, g, o⟩, hm⟩
    have hni : nC bs ≤ 17 := by unfold nC; omega
    rw [wi64_id (n := 8 + 8 * (i : Int) - 8) (by omega) (by omega), wi64_id (n := 8 + 8 * (i : Int) + 8) (by omega) (by omega)]
    refine JoinP.bool (fun b w' => w' = ww ∧ b = decide (i = nC bs)) (fun j hj => ?_) ?_
    · refine cond_intro (fun h => hj _ _ ⟨rfl, ?_⟩) (fun h => ⟨_, o.rd.len, hj _ _ ⟨rfl, ?_⟩⟩)
      · simp at h
        have : i = nC bs := by unfold nC at hi ⊢; omega
        simp [this]
      · simp at h
        rw [chunk_length, Bool.eq_iff_iff]
        simp only [decide_eq_true_eq]
        unfold nC at hi ⊢; omega
    rintro b w' ⟨rfl, rfl⟩
    refine cond_intro (fun h => ?_) (fun h => ?_)
    · simp only [decide_eq_true_eq] at h
      subst h
      refine Keys_c hh.1 o.rd fun v11 w12 g12 r12 _ => Equal_c r12 (hr.grow (g.then g12)) ⟨_, rfl, ?_⟩
      have ek : okC bs = decide (keysB (hdG bs) (chunk bs (nC bs)) = bs) := by simp [okC, hil]
      rw [← ek]
      cases hk : okC bs
      · exact cond_t rfl (bad hk _ (g.then g12))
      · refine cond_f rfl ?_
        have hc := c u w12 (g.then g12)
        have en := okN hk
        simp only [pkL, pkG, pkE, hs, ← okE, hk] at hc
        refine hc ?_
        simp only [Bool.false_eq_true, if_false, if_true]
        rw [← en]; exact o.rd.grow g12
    · simp only [decide_eq_false_iff_not] at h
      refine ⟨_, RdB.len hr, cond_intro (fun h2 => bad ?_ _ g) (fun h2 => ?_)⟩
      · simp at h2
        have : ¬ 8 + 8 * nC bs ≤ bs.length := by omega
        simp [okC, this]
      · simp at h2
        refine bin_Get_c (hr.grow g) (by
          simp only [Fits, IntKind.min, IntKind.max, IntKind.bits, IntKind.signed]; constructor <;> simp <;> omega) (by decide) ⟨_, _, rfl, ?_⟩
        have ga : Grow w' _ := Grow.al (Grow.refl w') (.cells #[.int .u64 (getV bs (8 + 8 * (i : Int)) 8)] tU)
        obtain ⟨v21, w22, h22, o22, n22⟩ := app_ownR tyU (o.grow ga) (OwnR.lit (E := EU) w' (Nat.le_refl _) tU [getV bs (8 + 8 * (i : Int)) 8] 1 rfl (by simp [maxLen])).rd (by rw [chunk_length]; simp; omega) (Nat.le_trans g.size ga.size)
        refine ⟨v21, w22, h22, ⟨i + 1, by omega, by omega, by omega, (g.then ga).trans (n22.below (Nat.le_trans g.size ga.size) (fun k hk => ((o.grow ga).lt k hk).1)), ?_⟩, by omega⟩
        rw [chunk_succ]; exact o22
  · rw [if_pos rfl]
    refine ⟨_, _, _, rfl, cond_t (by decide) ?_⟩
    have := c (.slice none 0 0) w (Grow.refl w)
    simp only [pkL, pkG, pkE, hs] at this
    exact this (RdR.nil w)

end Go.Proofs.YtnclgknfccliiaaGreatDoor.Lst
