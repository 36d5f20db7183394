/- The document's own Put (beside XPG). -/
import Derived.Test.YtooeeodkaeimeaaPG
set_option linter.unusedVariables false
set_option linter.unusedSimpArgs false
namespace Go.Proofs.Ytooeeodkaeimeaa
open Go Go.CW Go.RowKit

/-! ### the plain functions -/

theorem gemelref1_Put_c {w : World} {B : Nat} {v : Value} {bs : List UInt8} {x n : Int} {R : KV} (hr : OwnB w B tb v bs) (hB : B ≤ w.heap.size) (hb : bs.length ≤ 1000000000000)
    (k : ∀ v' w', OwnNext w v w' v' → OwnB w' B tb v' (putS bs x n) → R v' w') : Go.CW.Spec Try.prog 27 #[v, .int .u64 x, .int .i64 n] w R := by
  apply gemelref1_Put_wp
  refine JoinP.bool (fun b w' => b = !(inW n) ∧ w' = w) (fun j hj => test_width n j w hj) ?_
  rintro b w' ⟨rfl, rfl⟩
  refine cond_intro (fun h => ?_) (fun h => ?_)
  · refine k _ _ (OwnNext.refl _ _) ?_
    simp only [Bool.not_eq_true'] at h
    rw [putS, h]; exact hr
  · simp at h
    have hn : 1 ≤ n ∧ n ≤ 8 := by simpa [inW] using h
    refine ⟨fun (vv : Value) (i : Int) (ww : World) => -1 ≤ i ∧ i < n ∧ OwnNext w' v ww vv ∧ OwnB ww B tb vv (bs ++ (putL x n.toNat).take (n.toNat - (i + 1).toNat)), fun (_ : Value) (i : Int) (_ : World) => (i + 1).toNat, ?_, ?_⟩
    · dsimp only
      rw [wi64_id (n := n - 1) (by omega) (by omega)]
      refine ⟨by omega, by omega, OwnNext.refl _ _, ?_⟩
      have e : n.toNat - (n - 1 + 1).toNat = 0 := by omega
      rw [e]; simpa using hr
    · dsimp only [allR, mapR2, eqN, ltN]
      rintro m vv i ww ⟨⟨h0, h1, g, o⟩, hm⟩
      refine cond_intro (fun h2 => ?_) (fun h2 => ?_)
      · simp at h2
        obtain ⟨i, rfl⟩ := Int.eq_ofNat_of_zero_le h2
        refine leK_intro (by rw [w64_id (n := (i : Int)) (by omega) (by omega), w64_id (n := 8 * (i : Int)) (by omega) (by omega)]; omega) ?_
        obtain ⟨v', w', k1, k2, k3⟩ := app_byte o (Nat.le_trans hB g.by_.size) _ _ (shr_byte_u x i (by omega)) (by simp [putL_length]; omega)
        refine ⟨v', w', k1, ⟨?_, ?_, g.then k3, ?_⟩, ?_⟩
        all_goals rw [wi64_id (n := (i : Int) - 1) (by omega) (by omega)]
        · omega
        · omega
        · have e1 : ((i : Int) - 1 + 1).toNat = i := by omega
          have e2 : ((i : Int) + 1).toNat = i + 1 := by omega
          rw [e1]
          rw [e2, List.append_assoc, take_putL x n.toNat i (by omega)] at k2
          exact k2
        · change ((i : Int) - 1 + 1).toNat < m
          omega
      · simp at h2
        have e1 : (i + 1).toNat = 0 := by omega
        rw [e1, Nat.sub_zero, List.take_of_length_le (by rw [putL_length]; omega)] at o
        refine k _ _ g ?_
        rw [putS, h]; exact o

end Go.Proofs.Ytooeeodkaeimeaa
