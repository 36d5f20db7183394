/- A block written and read over a line: the call is true, in every world; the kernel has run it. -/
import Derived.Test.YtghineciiljeoaaGreatDoorQExS
set_option maxRecDepth 1000000
namespace Go.Proofs.YtghineciiljeoaaGreatDoor
open Go Go.CW Go.CW.Ex
def isYes (r : Option (EV × H)) : Bool := match r with | some (.bool b, _) => b | _ => false
theorem known_run : isYes (callF Tryz.prog (sumsOf ids) 100000 60 9 [] ⟨.lf, 0⟩) = true := by kernel_rfl
theorem known_c {w : World} (hE : Env w) {R : KV} (k : ∀ w', Grow w w' → R (.bool true) w') : CW.Spec Tryz.prog 9 #[] w R := by
 have hrun := known_run
 unfold isYes at hrun
 split at hrun
 · next b h hc =>
   subst hrun
   refine (callF_sound names draws (sums_ok hE) 60 9 [] _ _ _ _ w [] hc (by kernel_rfl) (upL_nil.2 rfl) (Hd.empty w)).mono fun v w' hv => ?_
   obtain ⟨φ', _, h2, h3⟩ := hv
   simp only [upV, Option.some.injEq] at h2
   subst h2
   exact k w' h3.below
 · cases hrun
end Go.Proofs.YtghineciiljeoaaGreatDoor
