/- A sum as four bytes; slices.Equal. -/
import Derived.Test.YtooeeodkaeimeaaCrcP
set_option linter.unusedVariables false
set_option linter.unusedSimpArgs false
namespace Go.Proofs.Ytooeeodkaeimeaa
open Go Go.CW Go.RowKit Go.Crc

theorem byt_nat (n : Nat) : byt (n : Int) = UInt8.ofNat n := by
  apply UInt8.toNat_inj.1
  simp [byt]
  omega

theorem four_cells (x : W) : (#[(.int .u8 (IntKind.wrap .u8 (U x))), (.int .u8 (IntKind.wrap .u8 (Int.fdiv (U x) (256 : Int)))), (.int .u8 (IntKind.wrap .u8 (Int.fdiv (U x) (65536 : Int)))), (.int .u8 (IntKind.wrap .u8 (Int.fdiv (U x) (16777216 : Int))))] : Array Value) = ((le4 x).map b8).toArray := by
  have d : ∀ k : Nat, Int.fdiv (U x) (k : Int) = ((x.toNat / k : Nat) : Int) := by
    intro k
    unfold U
    rw [Int.fdiv_eq_ediv_of_nonneg _ (Int.natCast_nonneg _)]
    exact (Int.natCast_ediv _ _).symm
  have d1 := d 256
  have d2 := d 65536
  have d3 := d 16777216
  simp only [Int.cast_ofNat_Int] at d1 d2 d3
  rw [d1, d2, d3, b8_wrap, b8_wrap, b8_wrap, b8_wrap]
  unfold U
  simp only [byt_nat]
  rfl

theorem ref_Four_c {w : World} {x : W} {R : KV} (k : ∀ v' w', Grow w w' → OwnB w' w.heap.size tb v' (le4 x) → R v' w') : Go.CW.Spec Try.prog 11 #[.int .u32 (U x)] w R := by
  apply gemelref2_Four_wp
  unfold gemelref2_Four_F
  rw [four_cells]
  exact k _ _ (Grow.al (Grow.refl w) _) (Own.lit w (Nat.le_refl _) tb ((le4 x).map b8).toArray 4 rfl (by simp [maxLen]))

theorem slices_Equal_c {w : World} {v u : Value} {bs cs : List UInt8} {R : KV} (hv : RdB w v bs) (hu : RdB w u cs) (k : ∀ w', Grow w w' → R (.bool (decide (bs = cs))) w') :
    Go.CW.Spec Try.prog 24 #[v, u] w R := by
  apply slices_Equal___wp
  have hle := hv.le
  rw [List.length_map] at hle
  refine ⟨_, RdB.len hv, _, RdB.len hu, cond_intro (fun h => ?_) (fun h => ⟨_, RdB.len hv, ?_⟩)⟩
  · have hne : decide (bs = cs) = false := by
      simp only [bne_iff_ne, ne_eq, Int.natCast_inj] at h
      exact decide_eq_false (fun e => h (by rw [e]))
    have := k w (Grow.refl w)
    rw [hne] at this; exact this
  · have hl : bs.length = cs.length := by simp at h; omega
    refine ⟨fun (i : Int) (ww : World) => Grow w ww ∧ 0 ≤ i ∧ i ≤ bs.length ∧ bs.take i.toNat = cs.take i.toNat, fun (i : Int) (_ : World) => (bs.length - i).toNat, ⟨Grow.refl w, by omega, by omega, by simp⟩, ?_⟩
    dsimp only [allR, mapR2, eqN, ltN]
    rintro m i ww ⟨⟨g, h0, h1, he⟩, hm⟩
    have gd := Grow.dr g
    refine cond_intro (fun h2 => ?_) (fun h2 => ?_)
    · simp at h2
      obtain ⟨a, ha, hc⟩ := RdB.at (hv.grow gd) h0 h2
      obtain ⟨a', ha', hc'⟩ := RdB.at (hu.grow gd) h0 (by omega)
      refine ⟨a, ha, _, hc, a', ha', _, hc', cond_intro (fun h3 => ?_) (fun h3 => ?_)⟩
      · have hne : decide (bs = cs) = false := by
          refine decide_eq_false (fun e => ?_)
          subst e
          simp at h3
        have := k _ gd
        rw [hne] at this; exact this
      · rw [wi64_id (n := i + 1) (by omega) (by omega)]
        have e : (i + 1).toNat = i.toNat + 1 := by omega
        have hb : bs[i.toNat]'(by omega) = cs[i.toNat]'(by omega) := by
          apply UInt8.toNat_inj.1
          simp at h3; omega
        refine ⟨⟨gd, by omega, by omega, ?_⟩, by omega⟩
        rw [e, List.take_add_one, List.take_add_one, he, List.getElem?_eq_getElem (by omega), List.getElem?_eq_getElem (by omega), hb]
    · simp at h2
      rw [List.take_of_length_le (by omega), List.take_of_length_le (by omega)] at he
      have := k _ g
      rw [decide_eq_true he] at this; exact this


end Go.Proofs.Ytooeeodkaeimeaa
