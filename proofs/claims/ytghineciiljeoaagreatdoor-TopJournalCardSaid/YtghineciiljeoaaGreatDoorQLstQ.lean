/- The contracts of the holder's bytes and of two keys; known. -/
import Derived.Test.YtghineciiljeoaaGreatDoorQGUn
import Derived.Test.YtghineciiljeoaaGreatDoorQLstP
set_option linter.unusedVariables false
set_option linter.unusedSimpArgs false
namespace Go.Proofs.YtghineciiljeoaaGreatDoor.Lst
open Go Go.CW Go.RowKit
theorem Holder_c {w : World} {g k t : Int} {R : KV} (hg : 0 ≤ g ∧ g < 4294967296) (ht : Fits .i64 t) (c : ∀ v w', Grow w w' → RdB w' v (holdB g k t) → NewV w v → R v w') :
    Go.CW.Spec Tryz.prog 175 #[.int .u32 g, .int .u64 k, .int .i64 t] w R := by
  apply prlist_Holder_wp
  unfold prlist_Holder_F
  rw [u64_of32 hg, and15 ht]
  have h16 : 0 ≤ t % 16 ∧ t % 16 < 16 := by omega
  refine bin_Put_c (bs := []) (Rd.nil w) (by simp) fun v1 w1 g1 r1 _ => cond_intro (fun h => ?_) (fun h => ?_)
  · have h0 : t % 16 = 0 := by simpa using h
    refine bin_Put_c r1 (by simp [put4, putL_length]) fun v2 w2 g2 r2 n2 => c _ _ (g1.then g2) ?_ (n2.of g1.size)
    unfold holdB; rw [if_pos h0]; exact r2
  · have h0 : ¬ t % 16 = 0 := by simpa using h
    rw [w64_id (n := t % 16) (by omega) (by omega)]
    refine bin_Put_c r1 (by simp [put4, putL_length]) fun v2 w2 g2 r2 _ => ?_
    refine bin_Put_c r2 (by simp [put4, put8, putL_length]) fun v3 w3 g3 r3 _ => ?_
    refine bin_Put_c r3 (by simp [put4, put8, putL_length]) fun v4 w4 g4 r4 _ => ?_
    refine bin_Put_c r4 (by simp [put4, put8, putL_length]) fun v5 w5 g5 r5 _ => ?_
    refine bin_Put_c r5 (by simp [put4, put8, put2, putL_length]) fun v6 w6 g6 r6 n6 => ?_
    have gg := g1.then (g2.then (g3.then (g4.then g5)))
    refine c _ _ (gg.then g6) ?_ (n6.of gg.size)
    unfold holdB; rw [if_neg h0]; exact r6
end Go.Proofs.YtghineciiljeoaaGreatDoor.Lst
