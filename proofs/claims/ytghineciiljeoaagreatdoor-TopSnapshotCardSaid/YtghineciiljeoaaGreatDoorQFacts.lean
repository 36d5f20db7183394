/- The program's own facts for the computed walks. -/
import Derived.Test.YtghineciiljeoaaGreatDoorQCwG
import Derived.Test.YtghineciiljeoaaGreatDoorChecked
import Derived.KernelRfl
namespace Go.Proofs.YtghineciiljeoaaGreatDoor
open Go.CW
def namesB (P : Program) : Bool := P.funcs.toList.all fun fn => !fn.body.isSome || !(fn.name == "runtime.NumGoroutine")
theorem namesOk_of {P : Program} (h : namesB P = true) : NamesOk P := by
 intro f fn hf hb
 unfold namesB at h
 rw [List.all_eq_true] at h
 have := h fn (by have := Array.mem_of_getElem? hf; simpa using this)
 simp only [hb, Bool.not_true, Bool.false_or, Bool.not_eq_true'] at this
 exact this
theorem names : NamesOk Tryz.prog := namesOk_of (by kernel_rfl)
theorem draws : DrawOk Tryz.prog drawK := drawK_ok names (by kernel_rfl)
theorem spec_of {f : FuncId} {fn : Func} {args : Array Value} {w : World} {R : KV} {F : Prop} (hf : Tryz.prog.funcs[f]? = some fn)
 (hwf : ((match fn.body with | some c => wfC fn.ntmps c | none => false) && Nat.ble args.size fn.ntmps) = true) (he : F = fnK Tryz.prog drawK fn args w R) (h : F) : CW.Spec Tryz.prog f args w R :=
 calls_of_fnK names draws hf hwf (he ▸ h)
theorem sp {f : FuncId} {fn : Func} {args : Array Value} {w : World} {R : KV} {F : Prop} (hf : Tryz.prog.funcs[f]? = some fn) (h : F)
 (hwf : ((match fn.body with | some c => wfC fn.ntmps c | none => false) && Nat.ble args.size fn.ntmps) = true := by kernel_rfl) (he : F = fnK Tryz.prog drawK fn args w R := by kernel_rfl) : CW.Spec Tryz.prog f args w R := spec_of hf hwf he h
end Go.Proofs.YtghineciiljeoaaGreatDoor
