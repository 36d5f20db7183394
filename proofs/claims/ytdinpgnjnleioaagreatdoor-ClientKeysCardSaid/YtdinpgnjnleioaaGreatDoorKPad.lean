/- Noughts up to a multiple: the contract of bin.Pad. -/
import Derived.Test.YtdinpgnjnleioaaGreatDoorKPG
set_option linter.unusedSimpArgs false
set_option linter.unusedVariables false
namespace Go.Proofs.YtdinpgnjnleioaaGreatDoor
open Go Go.CW Go.RowKit
def inP (to : Int) : Bool := decide (1 ≤ to) && decide (to ≤ 4096)
def padN (l : Nat) (to : Int) : Nat := bif inP to then ((-(l : Int)) % to).toNat else 0
def padS (bs : List UInt8) (to : Int) : List UInt8 := bs ++ List.replicate (padN bs.length to) 0
theorem test_pad (n : Int) (j : Bool → World → Prop) (w : World) (hj : ∀ b w', b = !(inP n) ∧ w' = w → j b w') :
 cond (decide (n < (1 : Int))) (j true w) (j (decide (n > (4096 : Int))) w) := by
 refine cond_intro (fun h => hj _ _ ⟨?_, rfl⟩) (fun h => hj _ _ ⟨?_, rfl⟩) <;> (rw [Bool.eq_iff_iff]; simp [inP] at h ⊢; omega)
theorem pad_go {l k : Nat} {to : Int} (h1 : 1 ≤ to) (hk : (k : Int) ≤ (-(l : Int)) % to) : (Int.tmod ((l : Int) + (k : Int)) to = 0) ↔ (k : Int) = (-(l : Int)) % to := by
 rw [Int.tmod_eq_emod_of_nonneg (by omega)]
 have hr0 := Int.emod_nonneg (-(l : Int)) (b := to) (by omega)
 have hr1 := Int.emod_lt_of_pos (-(l : Int)) (b := to) (by omega)
 have hd : (-(l : Int)) % to + to * ((-(l : Int)) / to) = -(l : Int) := Int.emod_add_mul_ediv _ _
 generalize hr : (-(l : Int)) % to = r at *
 generalize hq : (-(l : Int)) / to = q at *
 constructor
 · intro h
   obtain ⟨c, hc⟩ := Int.dvd_of_emod_eq_zero h
   have e : to * (c + q) = (k : Int) - r := by rw [Int.mul_add]; omega
   have hz : c + q = 0 := by
    rcases Int.lt_trichotomy (c + q) 0 with h0 | h0 | h0
    · exfalso
      have : to * (c + q) ≤ to * (-1) := Int.mul_le_mul_of_nonneg_left (by omega) (by omega)
      omega
    · exact h0
    · exfalso
      have : to * 1 ≤ to * (c + q) := Int.mul_le_mul_of_nonneg_left (by omega) (by omega)
      omega
   rw [hz] at e; omega
 · intro h
   have e : (l : Int) + (k : Int) = to * (-q) := by rw [Int.mul_neg]; omega
   rw [e]; exact Int.mul_emod_right _ _
theorem replicate_snoc (n : Nat) (x : UInt8) (bs : List UInt8) : (bs ++ List.replicate n x) ++ [x] = bs ++ List.replicate (n + 1) x := by
 rw [List.append_assoc, List.replicate_succ']
theorem bin_Pad_c {w : World} {v : Value} {bs : List UInt8} {to : Int} {R : KV} (hr : RdB w v bs) (hb : bs.length ≤ 1000000000000)
 (k : ∀ v' w', Grow w w' → RdB w' v' (padS bs to) → NewV w v' → R v' w') : CW.Spec Tryz.prog 178 #[v, .int .i64 to] w R := by
 apply q3W
 refine slices_Clone_c hr (by omega) fun v1 w1 g1 o1 => ?_
 refine JoinP.bool (fun b w' => b = !(inP to) ∧ w' = w1) (fun j hj => test_pad to j w1 hj) ?_
 rintro b w' ⟨rfl, rfl⟩
 refine cond_intro (fun h => ?_) (fun h => ?_)
 · refine k _ _ g1 ?_ o1.blk
   simp only [Bool.not_eq_true'] at h
   have e : padS bs to = bs := by simp [padS, padN, h]
   rw [e]; exact o1.rd
 · simp at h
   have hn : 1 ≤ to ∧ to ≤ 4096 := by simpa [inP] using h
   have hr1 := Int.emod_lt_of_pos (-(bs.length : Int)) (b := to) (by omega)
   have hr0 := Int.emod_nonneg (-(bs.length : Int)) (b := to) (by omega)
   have hp : padN bs.length to = ((-(bs.length : Int)) % to).toNat := by simp [padN, h]
   refine ⟨fun (vv : Value) (ww : World) => ∃ i : Nat, i ≤ padN bs.length to ∧ Grow w ww ∧ OwnB ww w.heap.size tb vv (bs ++ List.replicate i 0), fun (vv : Value) (ww : World) => padN bs.length to + bs.length - (sliceLen vv).getD 0, ?_, ?_⟩
   · dsimp only
     exact ⟨0, by omega, g1, by simpa using o1⟩
   · dsimp only [allR, mapR2, eqN, ltN]
     rintro m vv ww ⟨⟨i, h0, g, o⟩, hm⟩
     have hl := RdB.len o.rd
     refine ⟨_, hl, nzK_intro (by omega) (cond_intro (fun h2 => ?_) (fun h2 => ?_))⟩
     · have h3 : ¬ (Int.tmod ((bs.length : Int) + (i : Int)) to = 0) := by simpa using h2
       rw [pad_go hn.1 (by omega)] at h3
       obtain ⟨v', w', k1, k2, k3⟩ := app_byte o g.size 0 0 rfl (by simp; omega)
       rw [replicate_snoc] at k2
       refine ⟨v', w', k1, ⟨i + 1, by omega, g.trans (k3.below g.size o.blk), k2⟩, ?_⟩
       rw [RdB.len k2.rd]
       rw [hl] at hm
       simp at hm ⊢
       omega
     · have h3 : (Int.tmod ((bs.length : Int) + (i : Int)) to = 0) := by simpa using h2
       rw [pad_go hn.1 (by omega)] at h3
       refine slices_Clip_c o.rd fun v' r' e' => k _ _ g ?_ (fun q hq => o.blk q (e' ▸ hq))
       have e : i = padN bs.length to := by omega
       rw [padS, ← e]; exact r'
end Go.Proofs.YtdinpgnjnleioaaGreatDoor
