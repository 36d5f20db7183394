/- The contracts of Seal and Open (crc and its document's answer), and of known. -/
import Derived.Test.YtghineciiljeoaaGreatDoorQCrcP
set_option linter.unusedVariables false
set_option linter.unusedSimpArgs false
namespace Go.Proofs.YtghineciiljeoaaGreatDoor
open Go Go.CW Go.RowKit Go.Crc
theorem byt_nat (n : Nat) : byt (n : Int) = UInt8.ofNat n := by
  apply UInt8.toNat_inj.1
  simp [byt]
  omega
theorem four_cells (x : W) : (#[(.int .u8 (IntKind.wrap .u8 (U x))), (.int .u8 (IntKind.wrap .u8 (Int.fdiv (U x) (256 : Int)))), (.int .u8 (IntKind.wrap .u8 (Int.fdiv (U x) (65536 : Int)))), (.int .u8 (IntKind.wrap .u8 (Int.fdiv (U x) (16777216 : Int))))] : Array Value) = ((le4 x).map b8).toArray := by
  have d : ∀ k : Nat, Int.fdiv (U x) (k : Int) = ((x.toNat / k : Nat) : Int) := by
    intro k
    unfold U
    rw [Int.fdiv_eq_ediv_of_nonneg _ (Int.natCast_nonneg _)]
    exact (Int.natCast_ediv _ _).symm
  have d1 := d 256
  have d2 := d 65536
  have d3 := d 16777216
  simp only [Int.cast_ofNat_Int] at d1 d2 d3
  rw [d1, d2, d3, b8_wrap, b8_wrap, b8_wrap, b8_wrap]
  unfold U
  simp only [byt_nat]
  rfl
theorem crc_low_c {w : World} {B : Nat} {v : Value} {bs : List UInt8} {x : W} {R : KV} (ho : OwnB w B tb v bs) (hB : B ≤ w.heap.size) (hb : bs.length ≤ 1000000000000)
    (k : ∀ v' w', OwnNext w v w' v' → OwnB w' B tb v' (bs ++ le4 x) → R v' w') : Go.CW.Spec Tryz.prog 94 #[v, .int .u32 (U x)] w R := by
  apply crc_low_wp
  unfold crc_low_F
  rw [four_cells]
  have g := Grow.al (Grow.refl w) (.cells ((le4 x).map b8).toArray tb)
  have hl := Own.lit w (Nat.le_refl _) tb ((le4 x).map b8).toArray 4 rfl (by simp [maxLen])
  obtain ⟨v', w', h1, h2, h3⟩ := app_bytes (ho.grow g) (cs := le4 x) hl.rd (Nat.le_trans hB g.size) (by rw [le4_length]; omega)
  exact ⟨v', w', h1, k _ _ (OwnNext.behind g h3) h2⟩
theorem slices_Equal_c {w : World} {v u : Value} {bs cs : List UInt8} {R : KV} (hv : RdB w v bs) (hu : RdB w u cs) (k : ∀ w', Grow w w' → R (.bool (decide (bs = cs))) w') :
    Go.CW.Spec Tryz.prog 93 #[v, u] w R := by
  apply slices_Equal___wp
  have hle := hv.le
  rw [List.length_map] at hle
  refine ⟨_, RdB.len hv, _, RdB.len hu, cond_intro (fun h => ?_) (fun h => ⟨_, RdB.len hv, ?_⟩)⟩
  · have hne : decide (bs = cs) = false := by
      simp only [bne_iff_ne, ne_eq, Int.natCast_inj] at h
      exact decide_eq_false (fun e => h (by rw [e]))
    have := k w (Grow.refl w)
    rw [hne] at this; exact this
  · have hl : bs.length = cs.length := by simp at h; omega
    refine ⟨fun (i : Int) (ww : World) => Grow w ww ∧ 0 ≤ i ∧ i ≤ bs.length ∧ bs.take i.toNat = cs.take i.toNat, fun (i : Int) (_ : World) => (bs.length - i).toNat, ⟨Grow.refl w, by omega, by omega, by simp⟩, ?_⟩
    dsimp only [allR, mapR2, eqN, ltN]
    rintro m i ww ⟨⟨g, h0, h1, he⟩, hm⟩
    have gd := Grow.dr g
    refine cond_intro (fun h2 => ?_) (fun h2 => ?_)
    · simp at h2
      obtain ⟨a, ha, hc⟩ := RdB.at (hv.grow gd) h0 h2
      obtain ⟨a', ha', hc'⟩ := RdB.at (hu.grow gd) h0 (by omega)
      refine ⟨a, ha, _, hc, a', ha', _, hc', cond_intro (fun h3 => ?_) (fun h3 => ?_)⟩
      · have hne : decide (bs = cs) = false := by
          refine decide_eq_false (fun e => ?_)
          subst e
          simp at h3
        have := k _ gd
        rw [hne] at this; exact this
      · rw [wi64_id (n := i + 1) (by omega) (by omega)]
        have e : (i + 1).toNat = i.toNat + 1 := by omega
        have hb : bs[i.toNat]'(by omega) = cs[i.toNat]'(by omega) := by
          apply UInt8.toNat_inj.1
          simp at h3; omega
        refine ⟨⟨gd, by omega, by omega, ?_⟩, by omega⟩
        rw [e, List.take_add_one, List.take_add_one, he, List.getElem?_eq_getElem (by omega), List.getElem?_eq_getElem (by omega), hb]
    · simp at h2
      rw [List.take_of_length_le (by omega), List.take_of_length_le (by omega)] at he
      have := k _ g
      rw [decide_eq_true he] at this; exact this
theorem crc_Seal_c {w : World} {v : Value} {bs : List UInt8} {R : KV} (hr : RdB w v bs) (hb : bs.length ≤ 1000000000000)
    (k : ∀ v' w', Grow w w' → Wr w' w.heap.size v' ((sld bs).map b8) → R v' w') : Go.CW.Spec Tryz.prog 218 #[v] w R := by
  apply crc_Seal_wp
  refine slices_Clone_c hr (by omega) fun v1 w1 g1 o1 => ?_
  refine crc_Sum_c (hr.grow g1) fun w2 g2 => ⟨_, rfl, ?_⟩
  refine crc_low_c (o1.grow g2) (Nat.le_trans g1.size g2.size) hb fun v3 w3 n3 o3 => ?_
  refine slices_Clip_w o3 fun v4 r4 _ => ?_
  exact k _ _ ((g1.then g2).trans (n3.below (Nat.le_trans g1.size g2.size) (o1.grow g2).blk)) r4
def bodyOf (bs : List UInt8) : List UInt8 := bs.take (bs.length - 4)
def tailOf (bs : List UInt8) : List UInt8 := bs.drop (bs.length - 4)
def opE (bs : List UInt8) : Int := if bs.length < 4 then 3 else if tailOf bs = le4 (sum (bodyOf bs)) then 0 else 4
def opB (bs : List UInt8) : List UInt8 := if bs.length < 4 then [] else if tailOf bs = le4 (sum (bodyOf bs)) then bodyOf bs else []
theorem opE_sld (bs : List UInt8) : opE (sld bs) = 0 ∧ opB (sld bs) = bs := by
  have h : ¬ (sld bs).length < 4 := by rw [sld_length]; omega
  have hb : bodyOf (sld bs) = bs := by
    unfold bodyOf
    rw [sld_length, Nat.add_sub_cancel]
    exact List.take_left
  have ht : tailOf (sld bs) = le4 (sum bs) := by
    unfold tailOf
    rw [sld_length, Nat.add_sub_cancel]
    exact List.drop_left
  unfold opE opB
  rw [hb, ht]
  simp [h]
theorem crc_Open_c {w : World} {v : Value} {bs : List UInt8} {R : KV} (hr : RdB w v bs) (hb : bs.length ≤ 1000000000000)
    (k : ∀ v' w', Grow w w' → RdB w' v' (opB bs) → R (.tuple #[v', .int .i64 (opE bs)]) w') : Go.CW.Spec Tryz.prog 29 #[v] w R := by
  apply crc_Open_wp
  refine ⟨_, RdB.len hr, cond_intro (fun h => ?_) (fun h => ⟨_, RdB.len hr, ?_⟩)⟩
  · have h4 : bs.length < 4 := by simp at h; omega
    have := k (.slice none 0 0) w (Grow.refl w) (by simp only [opB, h4, if_true]; exact Rd.nil w)
    simp only [opE, h4, if_true] at this
    exact this
  · have h4 : ¬ bs.length < 4 := by simp at h; omega
    rw [wi64_id (n := (bs.length : Int) - 4) (by omega) (by omega)]
    have e : ((bs.length : Int) - 4).toNat = bs.length - 4 := by omega
    obtain ⟨v2, h2, r2, _⟩ := hr.sub (lo := none) (hi := some (.int .i64 ((bs.length : Int) - 4))) (l := 0) (r := bs.length - 4) (fun cap hc => by rw [bounds_ni (by omega) (by rw [List.length_map] at hc; omega), e]) (by omega) (by simp)
    have r2 : RdB w v2 (bodyOf bs) := by simpa [RdB, bodyOf, List.map_take] using r2
    have hbl : (bodyOf bs).length = bs.length - 4 := by simp [bodyOf]
    refine ⟨v2, h2, _, RdB.len r2, ?_⟩
    rw [hbl]
    obtain ⟨v4, h5, r4, _⟩ := hr.sub (lo := some (.int .i64 ((bs.length - 4 : Nat) : Int))) (hi := none) (l := bs.length - 4) (r := bs.length) (fun cap hc => by rw [List.length_map, bounds_in (by omega) (by omega)]; simp) (by omega) (by simp)
    have r4 : RdB w v4 (tailOf bs) := by
      have e : ((bs.map b8).drop (bs.length - 4)).take (bs.length - (bs.length - 4)) = (tailOf bs).map b8 := by
        rw [List.take_of_length_le (by simp), tailOf, List.map_drop]
      rw [e] at r4; exact r4
    refine ⟨v4, h5, ?_⟩
    have gd := Grow.dr (Grow.refl w)
    refine crc_Sum_c (r2.grow gd) fun w5 g5 => ⟨_, rfl, ?_⟩
    refine crc_low_c (B := w5.heap.size) (bs := []) (Own.nil w5 _ tb) (Nat.le_refl _) (by simp) fun v6 w6 n6 o6 => ?_
    have g6 := gd.then (g5.then (n6.below (Nat.le_refl _) (fun k hk => by cases hk)))
    refine slices_Equal_c o6.rd (r4.grow g6) fun w7 g7 => ⟨_, rfl, cond_intro (fun h8 => ?_) (fun h8 => ?_)⟩
    · have hne : ¬ tailOf bs = le4 (sum (bodyOf bs)) := by
        simp at h8; exact fun e => h8 e.symm
      have := k (.slice none 0 0) w7 (g6.then g7) (by simp only [opB, h4, hne, if_false]; exact Rd.nil w7)
      simp only [opE, h4, hne, if_false] at this
      exact this
    · have heq : tailOf bs = le4 (sum (bodyOf bs)) := by
        simp at h8; exact h8.symm
      refine slices_Clone_c (r2.grow (g6.then g7)) (by omega) fun v9 w9 g9 o9 => ?_
      refine slices_Clip_c o9.rd fun v10 r10 _ => ?_
      have := k v10 w9 ((g6.then g7).then g9) (by simp only [opB, h4, heq, if_false, if_true]; exact r10)
      simp only [opE, h4, heq, if_false, if_true] at this
      exact this
end Go.Proofs.YtghineciiljeoaaGreatDoor
