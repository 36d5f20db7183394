/- Arguments that came in, read cell by cell: structs and arrays by a schema that the kernel reckons. For every program. -/
import Derived.Test.YtdinpgnjnleioaaGreatDoorKOpen
import Derived.OpenShut
set_option linter.unusedVariables false
namespace Go.CW
open Go.RowKit
inductive CK where
 | int (k : IntKind)
 | bool
 | raw (t : TypeId)
section
variable {H : Type} {enc : TypeId × Value → H} {P : Program} {w : World} {base : Nat} {spare : Nat → Bool} {held : Bool}
def CKok (enc : TypeId × Value → H) (P : Program) (w : World) (base : Nat) (spare : Nat → Bool) (held : Bool) : CK → Value → Prop
 | .int k, c => ∃ q, c = .int k q ∧ Fits k q
 | .bool, c => ∃ b, c = .bool b
 | .raw t, c => ∃ f x, DataW.trod enc P w base spare held f t [c] = some x
theorem raw_bytes {t e : TypeId} {c : Value} (hs : ∀ b, spare b = true) (ht : P.underlying t = some (.slice e)) (he : P.underlying e = some (.int .u8)) (hc : P.cellsOf e = 1) (h : CKok enc P w base spare held (.raw t) c) : ∃ bs, RdB w c bs := by
 obtain ⟨f, x, hx⟩ := h
 rcases Go.ChangeShapes.open_ints ht he hc hx with ⟨hv, _⟩ | ⟨a, len, cap, zs, hv, hb, hl, hm, hz, _, hcell, hwz⟩
 · simp only [List.cons.injEq, and_true] at hv
   subst hv
   exact ⟨[], Rd.nil w⟩
 · simp only [List.cons.injEq, and_true] at hv
   subst hv
   rw [hs, if_pos rfl] at hz
   exact rdB_of_row (.inr ⟨a, rfl, hl, hm, hz, hcell, hwz⟩)
end
end Go.CW
