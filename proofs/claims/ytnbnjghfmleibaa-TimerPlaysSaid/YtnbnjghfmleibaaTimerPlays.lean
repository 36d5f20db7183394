/- The statement TimerPlays, closed: the frame by the kit's proof-skeleton, the walk by the law's contract. -/
import Derived.Test.YtnbnjghfmleibaaTimV
import Derived.Test.YtnbnjghfmleibaaRows
import Derived.WalkKit
import Derived.ProofKit
import Derived.OpenShut
import Derived.ShutString
import Derived.ChangeOld
import Derived.Test.YtnbnjghfmleibaaOpen
import Derived.Below
namespace Go.Proofs.Ytnbnjghfmleibaa.timerPlays
open Go
open Go.ChangeShapes Go.WideShapes Go.ChangeAt Go.RowKit
open Go.ChangeMaps (open_string shut_string)
set_option linter.unusedVariables false

theorem own : ownKnob Try.prog.godebug = none := by kernel_rfl
theorem laidOut : laidOutB Try.prog = true := by kernel_rfl

theorem walk (v0 : Value) (acts : List (Int × Int × Int)) (w : World) (w0 : Go.CW.RdR E3 w v0 acts) (hf : ∀ x ∈ acts, Go.CW.Fits .i64 x.1 ∧ Go.CW.Fits .i64 x.2.1 ∧ Go.CW.Fits .i64 x.2.2) :
    Calls Try.prog 7 #[v0] w fun e w' => e = .returned (.bool true) ∧ Below w.heap.size w w' :=
  Law.calls (timerPlays_s w0 hf)

set_option maxRecDepth 100000 in
theorem lifted (os : Os) (started : os.Started) (H : Type) (enc : TypeId × Value → H) :
    ReturnsInHanded {} Try.checked os 7 .any (Rows.timerPlaysSpec.pre6 enc Try.prog Try.f7 Rows.timerPlaysRow.domain false) (Rows.timerPlaysSpec.post enc Try.prog Try.f7 false true false false) := by
  refine returnsInHanded_of_change (C := Try.checked) own started (by kernel_rfl) Try.func7
    (ChangeSpec.witness6 (enc := enc) (C := Try.checked) false ⟨#[], #[.slice none 0 0], []⟩ 8 (by kernel_rfl) (by kernel_rfl) (by kernel_rfl) (by kernel_rfl)) ?_
  intro W base args ds gs before hval0 hW hcnd _
  have hval : ∀ (j : Nat) t v, Try.f7.params[j]? = some t → args[j]? = some v → Value.okWide Try.prog W .any base t v := hval0
  have hW' := hW
  obtain ⟨p, q, hA0, hV, rfl, hfz, hnd⟩ := hW
  have hA : DataW.TrodAll enc Try.prog W 0 (fun _ => true) true Try.f7.params.toList args.toList ds p := hA0
  rw [Try.params7] at hA hval
  obtain ⟨v0, vs0, d0, ds0, p0, q0, hargs, rfl, rfl, h0, r0⟩ := trodAll_cons hA
  obtain ⟨rfl, rfl, rfl⟩ := trodAll_nil r0
  obtain rfl : args = #[v0] := by cases args; simp_all
  obtain ⟨rfl, rfl⟩ := trodVars_none hV
  obtain ⟨a0, len0, cap0, rfl⟩ := okWide_slice Try.underlying37 (hval 0 37 v0 rfl rfl)
  have k0 := h0
  have lt0 : ∀ x ∈ p0, x.block < W.heap.size := by obtain ⟨m, hm⟩ := k0; exact DataW.trod_lt m _ _ _ hm
  obtain ⟨acts, w0, hacts⟩ : ∃ acts, Go.CW.RdR E3 W (.slice a0 len0 cap0) acts ∧ ∀ x ∈ acts, Go.CW.Fits .i64 x.1 ∧ Go.CW.Fits .i64 x.2.1 ∧ Go.CW.Fits .i64 x.2.2 := by
    obtain ⟨fuel, hf⟩ := h0
    refine Go.CW.open_rec E3 Try.underlying37 (by kernel_rfl) (fun n cs x hx => ?_) hf
    obtain ⟨hl, hat⟩ := Go.CW.open_intsS (ks := [.i64, .i64, .i64]) (by kernel_rfl) hx
    obtain ⟨q0, e0, f0⟩ := hat 0 .i64 rfl
    obtain ⟨q1, e1, f1⟩ := hat 1 .i64 rfl
    obtain ⟨q2, e2, f2⟩ := hat 2 .i64 rfl
    match cs, hl with
    | [c0, c1, c2], _ =>
      simp at e0 e1 e2
      subst e0; subst e1; subst e2
      exact ⟨(q0, q1, q2), rfl, f0, f1, f2⟩
  clear hA0 hval0
  refine (walk _ acts W w0 hacts).mono fun e W' ⟨he, bel⟩ => ?_
  subst he
  exact ⟨_, rfl, _, _, _, [], _, [], hW', trodAll_mk1 (shut_bool Try.underlying4 _), (trodAll_cons_mk (Below.trod laidOut (by kernel_rfl) (of_decide_eq_true (by kernel_rfl)) k0 bel lt0) trodAll_mk0), rfl, bel.frame _, fun h => by cases h⟩

theorem over : Rows.timerPlaysRow.holds Try.pinned (OpenSpec.ofChange Rows.timerPlaysSpec) :=
  OpenClaim.holds_of_wide 7 Try.f7 rfl rfl rfl rfl rfl rfl rfl ⟨rfl, rfl, rfl, rfl, rfl⟩ rfl rfl rfl rfl rfl (by kernel_rfl) Try.func7 (by kernel_rfl)
    (of_decide_eq_true (by kernel_rfl)) (by unfold Func.isWrapper; first | (rw [if_pos (by decide +kernel)]; kernel_rfl) | (rw [if_neg (by decide +kernel)]; exact ⟨rfl, rfl⟩))
    (fun os started H enc _ => lifted os started H enc)

/-- the statement -/
theorem proved : Rows.TimerPlaysSaid := over
#print axioms proved
end Go.Proofs.Ytnbnjghfmleibaa.timerPlays
