/- The law of sums over rows. -/
import Derived.Test.YthocdclklnpkiaaCrcK
set_option linter.unusedVariables false
set_option linter.unusedSimpArgs false
namespace Go.Proofs.Ythocdclklnpkiaa
open Go Go.CW Go.RowKit Go.Crc

theorem crcRows_s {w : World} {v : Value} {bss : List (List UInt8)} (hr : RdBB w v bss) :
    Go.CW.Spec Try.prog 6 #[v] w (Law w) := by
  apply gemellaw2_CrcRows_wp
  refine known_c fun w1 g1 => ⟨_, rfl, cond_f rfl ?_⟩
  have hr1 := hr.grow g1
  refine ⟨_, RdBB.len hr1, cond_intro (fun h => ⟨rfl, g1⟩) (fun h => ?_)⟩
  have hl : bss.length ≤ 30 := by simp at h; omega
  have kr : RdB w1 (.slice none 0 0) [] := Rd.nil _
  refine crc_Sum_c kr fun w5 g5 => ⟨_, rfl, ?_⟩
  refine ⟨fun (n : Int) (a : Value) (i : Int) (ww : World) => 0 ≤ i ∧ i ≤ bss.length ∧ Grow w1 ww ∧ n = U (sum (bss.take i.toNat).flatten) ∧ OwnB ww w1.heap.size tb a (bss.take i.toNat).flatten ∧ (bss.take i.toNat).flatten.length ≤ 300 * i.toNat,
    fun (_ : Int) (_ : Value) (i : Int) (_ : World) => (bss.length - i).toNat, ?_, ?_⟩
  · exact ⟨by omega, by omega, g5, rfl, Own.nil _ _ _, by simp⟩
  dsimp only [allR, mapR2, eqN, ltN]
  rintro m n a i ww ⟨⟨h0, h1, g, rfl, o, hb⟩, hm⟩
  refine ⟨_, RdBB.len (hr1.grow g), cond_intro (fun h2 => ?_) (fun h2 => ?_)⟩
  · simp at h2
    obtain ⟨a13, v14, ha, hc, hv⟩ := (hr1.grow g).at h0 h2
    have e : (i + 1).toNat = i.toNat + 1 := by omega
    have ht : (bss.take (i + 1).toNat).flatten = (bss.take i.toNat).flatten ++ bss[i.toNat]'(by omega) := by
      rw [e, List.take_add_one, List.getElem?_eq_getElem (by omega), List.flatten_append]
      congr 1
      exact List.append_nil _
    generalize bss[i.toNat]'(by omega) = bs at *
    refine ⟨a13, ha, v14, hc _ (Grow.refl _), _, RdB.len hv, cond_intro (fun h3 => ⟨rfl, g1.then g⟩) (fun h3 => ?_)⟩
    simp at h3
    refine ⟨a13, ha, v14, hc _ (Grow.refl _), crc_More_c hv fun w19 g19 => ⟨_, rfl, a13, ha, v14, hc _ g19, ?_⟩⟩
    obtain ⟨v23, w24, h23, o23, n23⟩ := app_bytes (o.grow g19) (hv.grow g19) (Nat.le_trans g.size g19.size) (by omega)
    refine ⟨v23, w24, h23, ref_Sum_c o23.rd ⟨_, rfl, cond_f (by rw [sum_append]; simp) ?_⟩⟩
    rw [wi64_id (n := i + 1) (by omega) (by omega), sum_append]
    refine ⟨⟨by omega, by omega, (g.then g19).trans (n23.below (Nat.le_trans g.size g19.size) (o.grow g19).blk), by rw [ht], by rw [ht]; exact o23, ?_⟩, by omega⟩
    rw [ht, List.length_append, e]; omega
  · simp at h2
    have e : bss.take i.toNat = bss := List.take_of_length_le (by omega)
    rw [e] at o hb
    have hbl : bss.flatten.length ≤ 9000 := by omega
    generalize bss.flatten = all at *
    refine crc_Seal_c o.rd (by omega) fun v28 w29 g29 r29 => ?_
    refine crc_Seal_c r29.rd (by rw [sld_length]; omega) fun v30 w31 g31 r31 => ?_
    refine crc_Open_c r31.rd (by rw [sld_length, sld_length]; omega) fun v32 w33 g33 r33 => ⟨_, _, rfl, ?_⟩
    obtain ⟨e0, e1⟩ := opE_sld (sld all)
    rw [e1] at r33
    rw [e0]
    refine crc_Open_c r33 (by rw [sld_length]; omega) fun v34 w35 g35 r35 => ⟨_, _, rfl, ?_⟩
    obtain ⟨e2, e3⟩ := opE_sld all
    rw [e3] at r35
    rw [e2]
    have gz := g29.then (g31.then (g33.then g35))
    refine JoinP.bool (fun b w' => b = true ∧ w' = w35) (fun j hj => cond_t (by decide) ⟨_, to_text r35, _, to_text (o.rd.grow gz), hj _ _ ⟨by rw [text_beq]; simp, rfl⟩⟩) (fun b w' ⟨h, hw⟩ => ?_)
    subst h; subst hw
    exact ⟨rfl, g1.then (g.then gz)⟩

end Go.Proofs.Ythocdclklnpkiaa
