/- Arguments that came in, read as lists. For every program. -/
import Derived.Test.YtdinpgnjnleioaaGreatDoorKRec
import Derived.Deep.Slices
import Derived.ChangeArms
set_option linter.unusedVariables false
namespace Go.CW
open Go.RowKit
section
variable {H : Type} {enc : TypeId × Value → H} {P : Program} {w : World} {base : Nat} {spare : Nat → Bool} {held : Bool}
end
end Go.CW
