/- Numerals: strconv.Itoa by the shelf's contract, and that unlike numbers have unlike numerals. -/
import Derived.Test.YtghineciiljeoaaGreatDoorQPG
import Derived.Test.YtghineciiljeoaaGreatDoorQShelf
import Derived.Lib.ItoaNum
import Derived.Lib.ItoaMem
import Derived.Lib.AppendIntMem
import Derived.Lib.ItoaLen
set_option linter.unusedSimpArgs false
set_option linter.unusedVariables false
set_option maxRecDepth 100000
namespace Go.Proofs.YtghineciiljeoaaGreatDoor
open Go Go.CW Go.RowKit
abbrev Tab (w : World) : Prop := Lib.TabIs Tryz.prog w "internal/strconv.uint64pow10" .u64 Lib.pow10Tab
theorem Tab.grow {w w' : World} (h : Tab w) (g : Grow w w') : Tab w' := Lib.tabBelow_of_tabIs h w' g
theorem itoa_c {w : World} {n : Int} {R : KV} (ht : Tab w) (hn : Fits .i64 n) (k : ∀ w', Grow w w' → R (.string (textOf (Lib.itoa n))) w') : CW.Spec Tryz.prog 214 #[.int .i64 n] w R := by
 have h := hn.i64
 exact (Go.Proofs.Tryz.strconv_Itoa n (by omega) (by omega) w ht).mono fun e w' ⟨he, kk, os, hw⟩ => ⟨_, he, k _ (by rw [hw]; exact Lib.below_grow _ _ (Nat.le_refl _) _ _)⟩
theorem textOf_size (a : List UInt8) : (textOf a).size = a.length := by simp [textOf, ByteArray.size]
end Go.Proofs.YtghineciiljeoaaGreatDoor
