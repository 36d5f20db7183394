/- TopJournal: commands kept in a node's store, through crashes, and done by a new unit from the beginning: the unit is the same. -/
import Derived.Test.YtghineciiljeoaaGreatDoorQJrnA
import Derived.Test.YtghineciiljeoaaGreatDoorQOncB
import Derived.Test.YtghineciiljeoaaGreatDoorQKnown
set_option linter.unusedSimpArgs false
set_option linter.unusedVariables false
set_option maxRecDepth 100000
namespace Go.Proofs.YtghineciiljeoaaGreatDoor
open Go Go.CW Go.RowKit Go.Crc Go.CW.Ex
section
variable {w w' : World} {d mb n : Nat} {D : Dk} {S : SF} {s t r : Nat} {m : Int} {h : Hdr} {tv snap lv rv : Value} {es : List (List UInt8)}
end
abbrev cRd : Cm := ⟨2, 0, 32, 0, 0, 0, false, []⟩
theorem cRd_ok {U : Un} (hU : tyOk U) (i : Nat) : CmOk U i cRd := by
 have hr : regsB U.T = false := by unfold regsB; rcases hU with h | h <;> rw [h] <;> rfl
 exact ⟨by decide, by decide, by decide, by simp, fun _ _ _ => hr⟩
theorem aj_at {w : World} {v : Value} {l : List (UInt8 × UInt8 × UInt8)} (h : RdR EA w v l) {i : Int} {n : Nat} (e : i = (n : Int)) (hi : n < l.length) :
 ∃ a, sliceAt v i 3 = some a ∧ w.cell? (Addr.add a 0) = some (.int .u8 ((l[n]).1.toNat : Int)) ∧ w.cell? (Addr.add a 1) = some (.int .u8 ((l[n]).2.1.toNat : Int)) ∧ w.cell? (Addr.add a 2) = some (.int .u8 ((l[n]).2.2.toNat : Int)) := by
 subst e
 obtain ⟨a, h1, h2, _⟩ := h.at (i := (n : Int)) (by omega) (by omega)
 exact ⟨a, h1, h2 0 (by show 0 < 3; omega), h2 1 (by show 1 < 3; omega), h2 2 (by show 2 < 3; omega)⟩
theorem rdrGrowJ {α : Type} {E : Enc α} {w w' : World} {v : Value} {L : List α} (r : RdR E w v L) (g : Grow w w') : RdR E w' v L := r.kept fun a u ha hv => (g.cell (World.block_lt_of_cell? w a ha)).trans ha
theorem ei_ofJ {w : World} {v : Value} {ps : List Int} (h : Rd w v (ps.map (Value.int .i64))) : RdR EI w v ps := by
 obtain ⟨a, cap, rfl, h1, h2, h3, h4⟩ := h
 rw [List.length_map] at h1 ⊢
 refine ⟨a, cap, rfl, h1, h2, h3, fun j u hj => h4 j u ?_⟩
 have e1 : EI.flat ps = ps.map (Value.int .i64) := by
  clear h1 h2 h3 h4 hj
  induction ps with
  | nil => rfl
  | cons a l ih => rw [Enc.flat_cons, ih]; rfl
 rw [← e1]; exact hj
end Go.Proofs.YtghineciiljeoaaGreatDoor
