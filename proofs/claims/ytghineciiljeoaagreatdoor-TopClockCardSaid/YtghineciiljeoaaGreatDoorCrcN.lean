/- crc.Open, whose bytes are new. -/
import Derived.Test.YtghineciiljeoaaGreatDoorCrcO
set_option linter.unusedVariables false
set_option linter.unusedSimpArgs false
namespace Go.Proofs.YtghineciiljeoaaGreatDoor
open Go Go.CW Go.RowKit Go.Crc

theorem crc_Open_n {w : World} {v : Value} {bs : List UInt8} {R : KV} (hr : RdB w v bs) (hb : bs.length ≤ 1000000000000)
    (k : ∀ v' w', Grow w w' → RdB w' v' (opB bs) → NewV w v' → R (.tuple #[v', .int .i64 (opE bs)]) w') : Go.CW.Spec Tryz.prog 29 #[v] w R := by
  have nn : NewV w (.slice none 0 0) := fun q hq => by cases hq
  apply crc_Open_wp
  refine ⟨_, RdB.len hr, cond_intro (fun h => ?_) (fun h => ⟨_, RdB.len hr, ?_⟩)⟩
  · have h4 : bs.length < 4 := by simp at h; omega
    have := k (.slice none 0 0) w (Grow.refl w) (by simp only [opB, h4, if_true]; exact Rd.nil w) nn
    simp only [opE, h4, if_true] at this
    exact this
  · have h4 : ¬ bs.length < 4 := by simp at h; omega
    rw [wi64_id (n := (bs.length : Int) - 4) (by omega) (by omega)]
    have e : ((bs.length : Int) - 4).toNat = bs.length - 4 := by omega
    obtain ⟨v2, h2, r2, _⟩ := hr.sub (lo := none) (hi := some (.int .i64 ((bs.length : Int) - 4))) (l := 0) (r := bs.length - 4) (fun cap hc => by rw [bounds_ni (by omega) (by rw [List.length_map] at hc; omega), e]) (by omega) (by simp)
    have r2 : RdB w v2 (bodyOf bs) := by simpa [RdB, bodyOf, List.map_take] using r2
    have hbl : (bodyOf bs).length = bs.length - 4 := by simp [bodyOf]
    refine ⟨v2, h2, _, RdB.len r2, ?_⟩
    rw [hbl]
    obtain ⟨v4, h5, r4, _⟩ := hr.sub (lo := some (.int .i64 ((bs.length - 4 : Nat) : Int))) (hi := none) (l := bs.length - 4) (r := bs.length) (fun cap hc => by rw [List.length_map, bounds_in (by omega) (by omega)]; simp) (by omega) (by simp)
    have r4 : RdB w v4 (tailOf bs) := by
      have e : ((bs.map b8).drop (bs.length - 4)).take (bs.length - (bs.length - 4)) = (tailOf bs).map b8 := by
        rw [List.take_of_length_le (by simp), tailOf, List.map_drop]
      rw [e] at r4; exact r4
    refine ⟨v4, h5, ?_⟩
    have gd := Grow.dr (Grow.refl w)
    refine crc_Sum_c (r2.grow gd) fun w5 g5 => ⟨_, rfl, ?_⟩
    refine crc_low_c (B := w5.heap.size) (bs := []) (Own.nil w5 _ tb) (Nat.le_refl _) (by simp) fun v6 w6 n6 o6 => ?_
    have g6 := gd.then (g5.then (n6.below (Nat.le_refl _) (fun k hk => by cases hk)))
    refine slices_Equal_c o6.rd (r4.grow g6) fun w7 g7 => ⟨_, rfl, cond_intro (fun h8 => ?_) (fun h8 => ?_)⟩
    · have hne : ¬ tailOf bs = le4 (sum (bodyOf bs)) := by
        simp at h8; exact fun e => h8 e.symm
      have := k (.slice none 0 0) w7 (g6.then g7) (by simp only [opB, h4, hne, if_false]; exact Rd.nil w7) nn
      simp only [opE, h4, hne, if_false] at this
      exact this
    · have heq : tailOf bs = le4 (sum (bodyOf bs)) := by
        simp at h8; exact h8.symm
      refine slices_Clone_c (r2.grow (g6.then g7)) (by omega) fun v9 w9 g9 o9 => ?_
      refine slices_Clip_c o9.rd fun v10 r10 e10 => ?_
      have := k v10 w9 ((g6.then g7).then g9) (by simp only [opB, h4, heq, if_false, if_true]; exact r10) (fun q hq => Nat.le_trans (g6.then g7).size (o9.blk q (e10 ▸ hq)))
      simp only [opE, h4, heq, if_false, if_true] at this
      exact this

end Go.Proofs.YtghineciiljeoaaGreatDoor
