/- A part of the proof. -/
import Derived.Test.YtdinpgnjnleioaaGreatDoorSNam
set_option linter.unusedVariables false
set_option maxRecDepth 100000
namespace Go.Proofs.YtdinpgnjnleioaaGreatDoor
open CW
def q14F  (w:World) (R:KV):Prop:=
 bindW (World.alloc w (.cells #[(.string (ByteArray.mk #[105,113,110,46,97])),(.string (ByteArray.mk #[105,113,110,46,98,99]))] 9)) λw0=>R (.slice (some (nw w)) 2 2) w0
theorem q14W  (w:World) (R:KV) (h:q14F  w R):Zs 9 #[] w R:=
 sp Tryz.func9 h
def q19F  (w:World) (R:KV):Prop:=
 Zs 21 #[V6 64] w λv0 w1=>∃o2 n3,v0= .tuple #[.pointer o2,V6 n3]/\al w1 #[.pointer o2] 86 λw4=>R (.pointer (some (nw w1))) w4
theorem q19W  (w:World) (R:KV) (h:q19F  w R):Zs 10 #[] w R:=
 sp Tryz.func10 h
end Go.Proofs.YtdinpgnjnleioaaGreatDoor
