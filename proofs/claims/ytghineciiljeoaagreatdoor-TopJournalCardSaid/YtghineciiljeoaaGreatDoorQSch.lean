/- Arguments that came in, read cell by cell: structs and arrays by a schema that the kernel reckons. For every program. -/
import Derived.Test.YtghineciiljeoaaGreatDoorQOpen
import Derived.OpenShut
set_option linter.unusedVariables false
namespace Go.CW
open Go.RowKit
inductive CK where
  | int (k : IntKind)
  | bool
  | raw (t : TypeId)
section
variable {H : Type} {enc : TypeId × Value → H} {P : Program} {w : World} {base : Nat} {spare : Nat → Bool} {held : Bool}
def CKok (enc : TypeId × Value → H) (P : Program) (w : World) (base : Nat) (spare : Nat → Bool) (held : Bool) : CK → Value → Prop
  | .int k, c => ∃ q, c = .int k q ∧ Fits k q
  | .bool, c => ∃ b, c = .bool b
  | .raw t, c => ∃ f x, DataW.trod enc P w base spare held f t [c] = some x
def CKs (enc : TypeId × Value → H) (P : Program) (w : World) (base : Nat) (spare : Nat → Bool) (held : Bool) (ks : List CK) (cs : List Value) : Prop :=
  cs.length = ks.length ∧ ∀ (i : Nat) (k : CK) (c : Value), ks[i]? = some k → cs[i]? = some c → CKok enc P w base spare held k c
theorem CKs.app {ks rs : List CK} {cs : List Value} (h1 : CKs enc P w base spare held ks (cs.take ks.length)) (h2 : CKs enc P w base spare held rs (cs.drop ks.length)) : CKs enc P w base spare held (ks ++ rs) cs := by
  obtain ⟨l1, a1⟩ := h1
  obtain ⟨l2, a2⟩ := h2
  rw [List.length_take] at l1
  rw [List.length_drop] at l2
  refine ⟨by rw [List.length_append]; omega, fun i k c hk hc => ?_⟩
  by_cases hi : i < ks.length
  · rw [List.getElem?_append_left hi] at hk
    exact a1 i k c hk (by rw [List.getElem?_take_of_lt hi]; exact hc)
  · rw [List.getElem?_append_right (by omega)] at hk
    exact a2 (i - ks.length) k c hk (by rw [List.getElem?_drop]; rw [show ks.length + (i - ks.length) = i by omega]; exact hc)
theorem CKs.one {k : CK} {c : Value} (h : CKok enc P w base spare held k c) : CKs enc P w base spare held [k] [c] := by
  refine ⟨rfl, fun i k' c' hk hc => ?_⟩
  cases i with
  | zero => simp at hk hc; subst hk; subst hc; exact h
  | succ i => simp at hk
end
end Go.CW
