/- Texts of this seat, one behind the other: OncQ, OncR, PatM. -/
import Derived.Test.YtghineciiljeoaaGreatDoorQOncP
section
set_option linter.unusedVariables false
set_option linter.unusedSimpArgs false
set_option maxRecDepth 100000
namespace Go.Proofs.YtghineciiljeoaaGreatDoor
open Go Go.CW Go.RowKit
variable {w w' : World} {u b t g1 g2 : Nat} {G : List (Int × Option Nat)} {U : Un}
abbrev tU6 : TypeId := 38
abbrev Kp := Int → Option (Value × Rp)
def repV (p : Value × Rp) : Value := .agg (rRep p.2.st p.2.key p.2.code p.1 p.2.info)
def doneF (K : Kp) : Int → Option Value := fun x => (K x).map repV
structure Gst (w : World) (B m nn : Nat) (K : Kp) : Prop where
  mp : Mp Tryz.prog tU6 .u64 w m nn (doneF K)
  d : ∀ x p, K x = some p → RdB w p.1 p.2.d ∧ p.2.d.length ≤ 1000000000 ∧ ∀ q, p.1.ownBlock = some q → B ≤ q
end Go.Proofs.YtghineciiljeoaaGreatDoor
end
section
set_option linter.unusedVariables false
set_option linter.unusedSimpArgs false
set_option maxRecDepth 100000
namespace Go.Proofs.YtghineciiljeoaaGreatDoor
open Go Go.CW Go.RowKit
variable {w w' : World} {u b t g1 g2 : Nat} {G : List (Int × Option Nat)} {U : Un}
theorem Gst.stepS {B m nn : Nat} {K : Kp} {S S' : Fp} (h : Gst w B m nn K) (st : Step S w w' S') (hm : ¬ S m) (hS : ∀ k, B ≤ k → k < w.heap.size → ¬ S k) : Gst w' B m nn K :=
  ⟨h.mp.at (st.block m h.mp.lt hm), fun x p hp => by
    obtain ⟨a, b, c⟩ := h.d x p hp
    by_cases hne : p.2.d = []
    · exact ⟨Rd.stepS a st (fun hh => absurd (by rw [hne]; rfl) hh), b, c⟩
    · refine ⟨Rd.stepS a st (fun _ q hq => ?_), b, c⟩
      exact hS q (c q hq) (Rd.lt a (by simpa using hne) q hq)⟩
theorem Gst.grow {B m nn : Nat} {K : Kp} (h : Gst w B m nn K) (g : Grow w w') : Gst w' B m nn K :=
  ⟨h.mp.grow g, fun x p hp => by obtain ⟨a, b, c⟩ := h.d x p hp; exact ⟨Rd.grow a g, b, c⟩⟩
theorem UAt.stepF {S S' : Fp} (h : UAt w u b t g1 g2 G U) (st : Step S w w' S') (n0 : ¬ S u) (n1 : ¬ S b) (n2 : ¬ S t) (n3 : ¬ S g1) (n4 : ¬ S g2) : UAt w' u b t g1 g2 G U :=
  ⟨h.o.stepS st n0, h.gl, h.sp.step st (fun e => n1 e) (fun e => n3 e) (fun e => n4 e), ⟨h.tb.b.stepS st n2, h.tb.len⟩, h.gn, h.ty⟩
end Go.Proofs.YtghineciiljeoaaGreatDoor
end
section
set_option linter.unusedVariables false
set_option linter.unusedSimpArgs false
set_option maxRecDepth 100000
namespace Go.Proofs.YtghineciiljeoaaGreatDoor
open Go Go.CW Go.RowKit
def tyOk (U : Un) : Prop := U.T.ty = 0 ∨ U.T.ty = 1
theorem plainC_cases {P : Cm → Prop} (n a b : UInt8)
    (h1 : P ⟨3, a.toNat % 32, 1, 0, 0, 0, false, List.replicate 8 b⟩) (h2 : P ⟨2, a.toNat % 32, 1, 0, 0, 0, false, []⟩)
    (h3 : P ⟨6, a.toNat % 32, 1, 0, 0, 0, false, List.replicate 8 (b &&& 1) ++ List.replicate 8 b⟩) (h4 : P ⟨5, a.toNat % 32, 1, 0, 0, 0, false, []⟩)
    (h5 : P ⟨11, 0, 0, 0, (b.toNat : Int), 0, false, []⟩) (h6 : P ⟨12, 0, 0, (b.toNat : Int), 0, 1, false, []⟩) (h7 : P ⟨16, 0, 0, 0, 0, 0, false, []⟩) : P (plainC n a b) := by
  unfold plainC
  split
  · exact h1
  · split
    · exact h2
    · split
      · exact h3
      · split
        · exact h4
        · split
          · exact h5
          · split
            · exact h6
            · exact h7
theorem plain_ok {U : Un} (hU : tyOk U) (n a b : UInt8) (i : Nat) : CmOk U i (plainC n a b) := by
  have hr : regsB U.T = false := by unfold regsB; rcases hU with h | h <;> rw [h] <;> rfl
  have hp : a.toNat % 32 ≤ 1000000 := by omega
  refine plainC_cases (P := fun c => CmOk U i c) n a b ?_ ?_ ?_ ?_ ?_ ?_ ?_ <;>
    exact ⟨by first | exact hp | exact Nat.zero_le _, by first | exact Nat.zero_le _ | exact (show (1 : Nat) ≤ 1000000 by decide), by first | exact (show Fits .i64 (0 : Int) by decide) | exact (show Fits .i64 (1 : Int) by decide), by simp, fun _ _ _ => hr⟩
theorem runU_T (U : Un) (c : Cm) : (runU U c).2.T = U.T := by
  unfold runU
  repeat' split
  all_goals rfl
theorem regT_ty (T : Tb) (h : Nat) (x : Int) (hT : T.ty = 0 ∨ T.ty = 1) : (regT T h x).ty = 0 ∨ (regT T h x).ty = 1 := by
  unfold regT
  dsimp only
  split
  · exact .inl rfl
  · exact hT
theorem resT_ty (T : Tb) (h : Nat) (k : Int) (hT : T.ty = 0 ∨ T.ty = 1) : (resT T h k 1).2.ty = 0 ∨ (resT T h k 1).2.ty = 1 := by
  unfold resT
  repeat' split
  all_goals first | exact hT | exact .inr rfl
theorem actU_ty {U : Un} (hU : tyOk U) (n a b : UInt8) (i : Nat) : tyOk (actU U i (plainC n a b)).2 := by
  have run : ∀ c, tyOk (runU U c).2 := fun c => by unfold tyOk; rw [runU_T]; exact hU
  refine plainC_cases (P := fun c => tyOk (actU U i c).2) n a b (run _) (run _) (run _) (run _) (regT_ty _ _ _ hU) (resT_ty _ _ _ hU) hU
theorem doU_ty {U : Un} (hU : tyOk U) (n a b : UInt8) (i : Nat) : tyOk (doU U i (plainC n a b)).2 := by
  unfold doU
  split
  · exact actU_ty hU n a b i
  · exact hU
def EA : Enc (UInt8 × UInt8 × UInt8) := ⟨3, fun x => [.int .u8 (x.1.toNat : Int), .int .u8 (x.2.1.toNat : Int), .int .u8 (x.2.2.toNat : Int)], fun _ => rfl, by omega, fun _ => rfl⟩
def EBo : Enc Bool := ⟨1, fun b => [.bool b], fun _ => rfl, by omega, fun _ => rfl⟩
end Go.Proofs.YtghineciiljeoaaGreatDoor
end
