/- Arguments that came in, read cell by cell: structs and arrays by a schema that the kernel reckons. For every program. -/
import Derived.Test.YtghineciiljeoaaGreatDoorQOpen
import Derived.OpenShut
set_option linter.unusedVariables false
namespace Go.CW
open Go.RowKit
section
variable {H : Type} {enc : TypeId × Value → H} {P : Program} {w : World} {base : Nat} {spare : Nat → Bool} {held : Bool}
end
end Go.CW
