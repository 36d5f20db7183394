/-
  No cell of these rows narrows 'for every input' (looked for: loops, veiled, ifaces, maps, wideKeys, modest, calm, conditions, laid).
  DERIVED. THE GIVEN ROWS OF THIS SEAT. 7 by the template 'for every input the law returns true; each argument reads behind the call as it read before'; 0 by the template 'total and deterministic' (their statements: YtfdnnlfakfjklaaTotals.lean).
  GIVEN WITH THE SEED: the statements are not yours to turn. If you find one false, say at which input.
  Laid BY PROGRAM, IN A SANDBOX (cutbox-rows.mjs): the forced cells as the released guide's own fill.sh prints them over the translation 5b59afcc3c7d0a93… (all of the seat's roots in one cut). By AI agents, Wed Nov 11 2026. No macro, syntax, notation, axiom, sorry.
-/
import Derived.Test.YtfdnnlfakfjklaaChecked
import GoSem.Claim
import GoSem.ClaimJoined
import GoSem.ClaimMapViews
import Derived.JoinedTies
import Derived.KernelRfl
namespace Go.Proofs.Ytfdnnlfakfjklaa
/- THE CELL 'sum', in the pinned program and in every row, IS THE sha256 OF THE DUMP (.gsa) THAT YtfdnnlfakfjklaaProg.lean LOADS. Nothing in Lean hashes anything: it is a label: what it is worth is what the hold of that sum in a sandbox is worth. -/
noncomputable def Try.pinned : Pinned := { name := "ytfdnnlfakfjklaa", sum := "5b59afcc3c7d0a93b8e3a77e592786612e7a884bcce5aa906cbf4392b17bcb22", checked := Try.checked }
namespace Rows
def none {H : Type} : Left H := { results := [], args := [] }

/-- 'gemellaw1.BinNumbers': WHATEVER THE INPUT: true; the input reads as it did. -/
def binNumbersSpec : ChangeSpec := { name := "binNumbers", fn := fun _ => fun
  | [d1, d2, d3, d4, d5] => { results := [.lit (.bool true)], args := [d1, d2, d3, d4, d5] }
  | _ => none }
def binNumbersRow : OpenClaim := { program := "ytfdnnlfakfjklaa", sum := "5b59afcc3c7d0a93b8e3a77e592786612e7a884bcce5aa906cbf4392b17bcb22", func := "gemel/gemellaw1.BinNumbers", spec := "binNumbers", apart := false }
def BinNumbersSaid : Prop := binNumbersRow.holds Try.pinned (OpenSpec.ofChange binNumbersSpec)

/-- ITS FALSE NEIGHBOUR: 'it returns false'. Refute it at one input. -/
def binNumbersWrong : ChangeSpec := { name := "binNumbers", fn := fun _ => fun
  | [d1, d2, d3, d4, d5] => { results := [.lit (.bool false)], args := [d1, d2, d3, d4, d5] }
  | _ => none }
def BinNumbersWrongFalsely : Prop := binNumbersRow.holds Try.pinned (OpenSpec.ofChange binNumbersWrong)

/-- 'gemellaw1.BinSerials': WHATEVER THE INPUT: true; the input reads as it did. -/
def binSerialsSpec : ChangeSpec := { name := "binSerials", fn := fun _ => fun
  | [d1, d2, d3, d4] => { results := [.lit (.bool true)], args := [d1, d2, d3, d4] }
  | _ => none }
def binSerialsRow : OpenClaim := { program := "ytfdnnlfakfjklaa", sum := "5b59afcc3c7d0a93b8e3a77e592786612e7a884bcce5aa906cbf4392b17bcb22", func := "gemel/gemellaw1.BinSerials", spec := "binSerials", apart := false }
def BinSerialsSaid : Prop := binSerialsRow.holds Try.pinned (OpenSpec.ofChange binSerialsSpec)

/-- ITS FALSE NEIGHBOUR: 'it returns false'. Refute it at one input. -/
def binSerialsWrong : ChangeSpec := { name := "binSerials", fn := fun _ => fun
  | [d1, d2, d3, d4] => { results := [.lit (.bool false)], args := [d1, d2, d3, d4] }
  | _ => none }
def BinSerialsWrongFalsely : Prop := binSerialsRow.holds Try.pinned (OpenSpec.ofChange binSerialsWrong)

/-- 'gemellaw1.BinWindows': WHATEVER THE INPUT: true; the input reads as it did. -/
def binWindowsSpec : ChangeSpec := { name := "binWindows", fn := fun _ => fun
  | [d1, d2, d3] => { results := [.lit (.bool true)], args := [d1, d2, d3] }
  | _ => none }
def binWindowsRow : OpenClaim := { program := "ytfdnnlfakfjklaa", sum := "5b59afcc3c7d0a93b8e3a77e592786612e7a884bcce5aa906cbf4392b17bcb22", func := "gemel/gemellaw1.BinWindows", spec := "binWindows", apart := false }
def BinWindowsSaid : Prop := binWindowsRow.holds Try.pinned (OpenSpec.ofChange binWindowsSpec)

/-- ITS FALSE NEIGHBOUR: 'it returns false'. Refute it at one input. -/
def binWindowsWrong : ChangeSpec := { name := "binWindows", fn := fun _ => fun
  | [d1, d2, d3] => { results := [.lit (.bool false)], args := [d1, d2, d3] }
  | _ => none }
def BinWindowsWrongFalsely : Prop := binWindowsRow.holds Try.pinned (OpenSpec.ofChange binWindowsWrong)

/-- 'gemellaw1.BinRows': WHATEVER THE INPUT: true; the input reads as it did. -/
def binRowsSpec : ChangeSpec := { name := "binRows", fn := fun _ => fun
  | [d1, d2] => { results := [.lit (.bool true)], args := [d1, d2] }
  | _ => none }
def binRowsRow : OpenClaim := { program := "ytfdnnlfakfjklaa", sum := "5b59afcc3c7d0a93b8e3a77e592786612e7a884bcce5aa906cbf4392b17bcb22", func := "gemel/gemellaw1.BinRows", spec := "binRows", apart := false }
def BinRowsSaid : Prop := binRowsRow.holds Try.pinned (OpenSpec.ofChange binRowsSpec)

/-- ITS FALSE NEIGHBOUR: 'it returns false'. Refute it at one input. -/
def binRowsWrong : ChangeSpec := { name := "binRows", fn := fun _ => fun
  | [d1, d2] => { results := [.lit (.bool false)], args := [d1, d2] }
  | _ => none }
def BinRowsWrongFalsely : Prop := binRowsRow.holds Try.pinned (OpenSpec.ofChange binRowsWrong)

/-- 'gemellaw1.BinOrder': WHATEVER THE INPUT: true; the input reads as it did. -/
def binOrderSpec : ChangeSpec := { name := "binOrder", fn := fun _ => fun
  | [d1, d2, d3, d4] => { results := [.lit (.bool true)], args := [d1, d2, d3, d4] }
  | _ => none }
def binOrderRow : OpenClaim := { program := "ytfdnnlfakfjklaa", sum := "5b59afcc3c7d0a93b8e3a77e592786612e7a884bcce5aa906cbf4392b17bcb22", func := "gemel/gemellaw1.BinOrder", spec := "binOrder", apart := false }
def BinOrderSaid : Prop := binOrderRow.holds Try.pinned (OpenSpec.ofChange binOrderSpec)

/-- ITS FALSE NEIGHBOUR: 'it returns false'. Refute it at one input. -/
def binOrderWrong : ChangeSpec := { name := "binOrder", fn := fun _ => fun
  | [d1, d2, d3, d4] => { results := [.lit (.bool false)], args := [d1, d2, d3, d4] }
  | _ => none }
def BinOrderWrongFalsely : Prop := binOrderRow.holds Try.pinned (OpenSpec.ofChange binOrderWrong)

/-- 'gemellaw1.BinPads': WHATEVER THE INPUT: true; the input reads as it did. -/
def binPadsSpec : ChangeSpec := { name := "binPads", fn := fun _ => fun
  | [d1, d2] => { results := [.lit (.bool true)], args := [d1, d2] }
  | _ => none }
def binPadsRow : OpenClaim := { program := "ytfdnnlfakfjklaa", sum := "5b59afcc3c7d0a93b8e3a77e592786612e7a884bcce5aa906cbf4392b17bcb22", func := "gemel/gemellaw1.BinPads", spec := "binPads", apart := false }
def BinPadsSaid : Prop := binPadsRow.holds Try.pinned (OpenSpec.ofChange binPadsSpec)

/-- ITS FALSE NEIGHBOUR: 'it returns false'. Refute it at one input. -/
def binPadsWrong : ChangeSpec := { name := "binPads", fn := fun _ => fun
  | [d1, d2] => { results := [.lit (.bool false)], args := [d1, d2] }
  | _ => none }
def BinPadsWrongFalsely : Prop := binPadsRow.holds Try.pinned (OpenSpec.ofChange binPadsWrong)

/-- 'gemellaw1.BinHalves': WHATEVER THE INPUT: true; the input reads as it did. -/
def binHalvesSpec : ChangeSpec := { name := "binHalves", fn := fun _ => fun
  | [d1, d2] => { results := [.lit (.bool true)], args := [d1, d2] }
  | _ => none }
def binHalvesRow : OpenClaim := { program := "ytfdnnlfakfjklaa", sum := "5b59afcc3c7d0a93b8e3a77e592786612e7a884bcce5aa906cbf4392b17bcb22", func := "gemel/gemellaw1.BinHalves", spec := "binHalves", apart := false }
def BinHalvesSaid : Prop := binHalvesRow.holds Try.pinned (OpenSpec.ofChange binHalvesSpec)

/-- ITS FALSE NEIGHBOUR: 'it returns false'. Refute it at one input. -/
def binHalvesWrong : ChangeSpec := { name := "binHalves", fn := fun _ => fun
  | [d1, d2] => { results := [.lit (.bool false)], args := [d1, d2] }
  | _ => none }
def BinHalvesWrongFalsely : Prop := binHalvesRow.holds Try.pinned (OpenSpec.ofChange binHalvesWrong)

/- THE SECOND FORM. 'bulk': how many values and letters a reading holds, each counted each time it is reached (what is shared counts as often as it is met; a slice's spare places count too). A statement '..UptoSaid' is the law's where the arguments, and the package variables that the reading takes, are together of bulk at most 1048576: NARROWER than '..Said'. Prove '..Said' where nothing that the law and all that it calls make is longer than what came in: it says more and counts as full. Else prove '..UptoSaid'. A law counts once. -/
mutual
def uptoBulk {H : Type} : DataW H → Nat
  | .lit (.string bytes) => bytes.length + 1
  | .lit _ => 1
  | .nil => 1
  | .ptr d => uptoBulk d + 1
  | .slice elems spare => uptoBulkAll elems + uptoBulkAll spare + 1
  | .agg parts => uptoBulkAll parts + 1
  | .iface _ d => uptoBulk d + 1
  | .map entries => uptoBulkEntries entries + 1
  | .held _ => 1
def uptoBulkAll {H : Type} : List (DataW H) → Nat
  | [] => 0
  | d :: r => uptoBulk d + uptoBulkAll r
def uptoBulkEntries {H : Type} : List (Lit × DataW H) → Nat
  | [] => 0
  | x :: r => uptoBulkEntry x + uptoBulkEntries r
def uptoBulkEntry {H : Type} : Lit × DataW H → Nat
  | (.string bytes, d) => bytes.length + uptoBulk d + 1
  | (_, d) => uptoBulk d + 1
 end
def uptoSmall : (H : Type) → List (DataW H) → Bool := fun _ ds => decide (uptoBulkAll ds ≤ 1048576)
def OpenSpec.upto (s : _root_.Go.ChangeSpec) : _root_.Go.OpenSpec := { _root_.Go.OpenSpec.ofChange s with cond := some uptoSmall }

/-- 'gemellaw1.BinNumbers', WHERE WHAT IT READS IS OF BULK AT MOST 1048576: true; the input reads as it did. -/
def binNumbersUptoRow : OpenClaim := { program := "ytfdnnlfakfjklaa", sum := "5b59afcc3c7d0a93b8e3a77e592786612e7a884bcce5aa906cbf4392b17bcb22", func := "gemel/gemellaw1.BinNumbers", spec := "binNumbers", apart := false, narrowed := true }
def BinNumbersUptoSaid : Prop := binNumbersUptoRow.holds Try.pinned (OpenSpec.upto binNumbersSpec)

/-- 'gemellaw1.BinSerials', WHERE WHAT IT READS IS OF BULK AT MOST 1048576: true; the input reads as it did. -/
def binSerialsUptoRow : OpenClaim := { program := "ytfdnnlfakfjklaa", sum := "5b59afcc3c7d0a93b8e3a77e592786612e7a884bcce5aa906cbf4392b17bcb22", func := "gemel/gemellaw1.BinSerials", spec := "binSerials", apart := false, narrowed := true }
def BinSerialsUptoSaid : Prop := binSerialsUptoRow.holds Try.pinned (OpenSpec.upto binSerialsSpec)

/-- 'gemellaw1.BinWindows', WHERE WHAT IT READS IS OF BULK AT MOST 1048576: true; the input reads as it did. -/
def binWindowsUptoRow : OpenClaim := { program := "ytfdnnlfakfjklaa", sum := "5b59afcc3c7d0a93b8e3a77e592786612e7a884bcce5aa906cbf4392b17bcb22", func := "gemel/gemellaw1.BinWindows", spec := "binWindows", apart := false, narrowed := true }
def BinWindowsUptoSaid : Prop := binWindowsUptoRow.holds Try.pinned (OpenSpec.upto binWindowsSpec)

/-- 'gemellaw1.BinRows', WHERE WHAT IT READS IS OF BULK AT MOST 1048576: true; the input reads as it did. -/
def binRowsUptoRow : OpenClaim := { program := "ytfdnnlfakfjklaa", sum := "5b59afcc3c7d0a93b8e3a77e592786612e7a884bcce5aa906cbf4392b17bcb22", func := "gemel/gemellaw1.BinRows", spec := "binRows", apart := false, narrowed := true }
def BinRowsUptoSaid : Prop := binRowsUptoRow.holds Try.pinned (OpenSpec.upto binRowsSpec)

/-- 'gemellaw1.BinOrder', WHERE WHAT IT READS IS OF BULK AT MOST 1048576: true; the input reads as it did. -/
def binOrderUptoRow : OpenClaim := { program := "ytfdnnlfakfjklaa", sum := "5b59afcc3c7d0a93b8e3a77e592786612e7a884bcce5aa906cbf4392b17bcb22", func := "gemel/gemellaw1.BinOrder", spec := "binOrder", apart := false, narrowed := true }
def BinOrderUptoSaid : Prop := binOrderUptoRow.holds Try.pinned (OpenSpec.upto binOrderSpec)

/-- 'gemellaw1.BinPads', WHERE WHAT IT READS IS OF BULK AT MOST 1048576: true; the input reads as it did. -/
def binPadsUptoRow : OpenClaim := { program := "ytfdnnlfakfjklaa", sum := "5b59afcc3c7d0a93b8e3a77e592786612e7a884bcce5aa906cbf4392b17bcb22", func := "gemel/gemellaw1.BinPads", spec := "binPads", apart := false, narrowed := true }
def BinPadsUptoSaid : Prop := binPadsUptoRow.holds Try.pinned (OpenSpec.upto binPadsSpec)

/-- 'gemellaw1.BinHalves', WHERE WHAT IT READS IS OF BULK AT MOST 1048576: true; the input reads as it did. -/
def binHalvesUptoRow : OpenClaim := { program := "ytfdnnlfakfjklaa", sum := "5b59afcc3c7d0a93b8e3a77e592786612e7a884bcce5aa906cbf4392b17bcb22", func := "gemel/gemellaw1.BinHalves", spec := "binHalves", apart := false, narrowed := true }
def BinHalvesUptoSaid : Prop := binHalvesUptoRow.holds Try.pinned (OpenSpec.upto binHalvesSpec)

end Rows
end Go.Proofs.Ytfdnnlfakfjklaa
