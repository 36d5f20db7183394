/-
  No cell of these rows narrows 'for every input' (looked for: loops, veiled, ifaces, maps, wideKeys, modest, calm, conditions, laid).
  DERIVED. THE GIVEN ROWS OF THIS SEAT. 4 by the template 'for every input the law returns true; each argument reads behind the call as it read before'; 0 by the template 'total and deterministic' (their statements: YtpbcdhpajjkldaaTotals.lean).
  GIVEN WITH THE SEED: the statements are not yours to turn. If you find one false, say at which input.
  Laid BY PROGRAM, IN A SANDBOX (cutbox-rows.mjs): the forced cells as the released guide's own fill.sh prints them over the translation d1f6934957e7a6d1… (all of the seat's roots in one cut). By AI agents, Wed Nov 11 2026. No macro, syntax, notation, axiom, sorry.
-/
import Derived.Test.YtpbcdhpajjkldaaChecked
import GoSem.Claim
import GoSem.ClaimJoined
import GoSem.ClaimMapViews
import Derived.JoinedTies
import Derived.KernelRfl
namespace Go.Proofs.Ytpbcdhpajjkldaa
/- THE CELL 'sum', in the pinned program and in every row, IS THE sha256 OF THE DUMP (.gsa) THAT YtpbcdhpajjkldaaProg.lean LOADS. Nothing in Lean hashes anything: it is a label: what it is worth is what the hold of that sum in a sandbox is worth. -/
noncomputable def Try.pinned : Pinned := { name := "ytpbcdhpajjkldaa", sum := "d1f6934957e7a6d16efb7c2335b5d421ca6442ac17e7779a1ea57d77597609ec", checked := Try.checked }
namespace Rows
def none {H : Type} : Left H := { results := [], args := [] }

/-- 'gemellaw6.ListBytes': WHATEVER THE INPUT: true; the input reads as it did. -/
def listBytesSpec : ChangeSpec := { name := "listBytes", fn := fun _ => fun
  | [d] => { results := [.lit (.bool true)], args := [d] }
  | _ => none }
def listBytesRow : OpenClaim := { program := "ytpbcdhpajjkldaa", sum := "d1f6934957e7a6d16efb7c2335b5d421ca6442ac17e7779a1ea57d77597609ec", func := "gemel/gemellaw6.ListBytes", spec := "listBytes", apart := false }
def ListBytesSaid : Prop := listBytesRow.holds Try.pinned (OpenSpec.ofChange listBytesSpec)

/-- ITS FALSE NEIGHBOUR: 'it returns false'. Refute it at one input. -/
def listBytesWrong : ChangeSpec := { name := "listBytes", fn := fun _ => fun
  | [d] => { results := [.lit (.bool false)], args := [d] }
  | _ => none }
def ListBytesWrongFalsely : Prop := listBytesRow.holds Try.pinned (OpenSpec.ofChange listBytesWrong)

/-- 'gemellaw6.ListBack': WHATEVER THE INPUT: true; the input reads as it did. -/
def listBackSpec : ChangeSpec := { name := "listBack", fn := fun _ => fun
  | [d1, d2, d3, d4, d5] => { results := [.lit (.bool true)], args := [d1, d2, d3, d4, d5] }
  | _ => none }
def listBackRow : OpenClaim := { program := "ytpbcdhpajjkldaa", sum := "d1f6934957e7a6d16efb7c2335b5d421ca6442ac17e7779a1ea57d77597609ec", func := "gemel/gemellaw6.ListBack", spec := "listBack", apart := false }
def ListBackSaid : Prop := listBackRow.holds Try.pinned (OpenSpec.ofChange listBackSpec)

/-- ITS FALSE NEIGHBOUR: 'it returns false'. Refute it at one input. -/
def listBackWrong : ChangeSpec := { name := "listBack", fn := fun _ => fun
  | [d1, d2, d3, d4, d5] => { results := [.lit (.bool false)], args := [d1, d2, d3, d4, d5] }
  | _ => none }
def ListBackWrongFalsely : Prop := listBackRow.holds Try.pinned (OpenSpec.ofChange listBackWrong)

/-- 'gemellaw6.ListCuts': WHATEVER THE INPUT: true; the input reads as it did. -/
def listCutsSpec : ChangeSpec := { name := "listCuts", fn := fun _ => fun
  | [d1, d2, d3, d4] => { results := [.lit (.bool true)], args := [d1, d2, d3, d4] }
  | _ => none }
def listCutsRow : OpenClaim := { program := "ytpbcdhpajjkldaa", sum := "d1f6934957e7a6d16efb7c2335b5d421ca6442ac17e7779a1ea57d77597609ec", func := "gemel/gemellaw6.ListCuts", spec := "listCuts", apart := false }
def ListCutsSaid : Prop := listCutsRow.holds Try.pinned (OpenSpec.ofChange listCutsSpec)

/-- ITS FALSE NEIGHBOUR: 'it returns false'. Refute it at one input. -/
def listCutsWrong : ChangeSpec := { name := "listCuts", fn := fun _ => fun
  | [d1, d2, d3, d4] => { results := [.lit (.bool false)], args := [d1, d2, d3, d4] }
  | _ => none }
def ListCutsWrongFalsely : Prop := listCutsRow.holds Try.pinned (OpenSpec.ofChange listCutsWrong)

/-- 'gemellaw6.ListHolders': WHATEVER THE INPUT: true; the input reads as it did. -/
def listHoldersSpec : ChangeSpec := { name := "listHolders", fn := fun _ => fun
  | [d1, d2, d3, d4, d5, d6] => { results := [.lit (.bool true)], args := [d1, d2, d3, d4, d5, d6] }
  | _ => none }
def listHoldersRow : OpenClaim := { program := "ytpbcdhpajjkldaa", sum := "d1f6934957e7a6d16efb7c2335b5d421ca6442ac17e7779a1ea57d77597609ec", func := "gemel/gemellaw6.ListHolders", spec := "listHolders", apart := false }
def ListHoldersSaid : Prop := listHoldersRow.holds Try.pinned (OpenSpec.ofChange listHoldersSpec)

/-- ITS FALSE NEIGHBOUR: 'it returns false'. Refute it at one input. -/
def listHoldersWrong : ChangeSpec := { name := "listHolders", fn := fun _ => fun
  | [d1, d2, d3, d4, d5, d6] => { results := [.lit (.bool false)], args := [d1, d2, d3, d4, d5, d6] }
  | _ => none }
def ListHoldersWrongFalsely : Prop := listHoldersRow.holds Try.pinned (OpenSpec.ofChange listHoldersWrong)

/- THE SECOND FORM. 'bulk': how many values and letters a reading holds, each counted each time it is reached (what is shared counts as often as it is met; a slice's spare places count too). A statement '..UptoSaid' is the law's where the arguments, and the package variables that the reading takes, are together of bulk at most 1048576: NARROWER than '..Said'. Prove '..Said' where nothing that the law and all that it calls make is longer than what came in: it says more and counts as full. Else prove '..UptoSaid'. A law counts once. -/
mutual
def uptoBulk {H : Type} : DataW H → Nat
  | .lit (.string bytes) => bytes.length + 1
  | .lit _ => 1
  | .nil => 1
  | .ptr d => uptoBulk d + 1
  | .slice elems spare => uptoBulkAll elems + uptoBulkAll spare + 1
  | .agg parts => uptoBulkAll parts + 1
  | .iface _ d => uptoBulk d + 1
  | .map entries => uptoBulkEntries entries + 1
  | .held _ => 1
def uptoBulkAll {H : Type} : List (DataW H) → Nat
  | [] => 0
  | d :: r => uptoBulk d + uptoBulkAll r
def uptoBulkEntries {H : Type} : List (Lit × DataW H) → Nat
  | [] => 0
  | x :: r => uptoBulkEntry x + uptoBulkEntries r
def uptoBulkEntry {H : Type} : Lit × DataW H → Nat
  | (.string bytes, d) => bytes.length + uptoBulk d + 1
  | (_, d) => uptoBulk d + 1
 end
def uptoSmall : (H : Type) → List (DataW H) → Bool := fun _ ds => decide (uptoBulkAll ds ≤ 1048576)
def OpenSpec.upto (s : _root_.Go.ChangeSpec) : _root_.Go.OpenSpec := { _root_.Go.OpenSpec.ofChange s with cond := some uptoSmall }

/-- 'gemellaw6.ListBytes', WHERE WHAT IT READS IS OF BULK AT MOST 1048576: true; the input reads as it did. -/
def listBytesUptoRow : OpenClaim := { program := "ytpbcdhpajjkldaa", sum := "d1f6934957e7a6d16efb7c2335b5d421ca6442ac17e7779a1ea57d77597609ec", func := "gemel/gemellaw6.ListBytes", spec := "listBytes", apart := false, narrowed := true }
def ListBytesUptoSaid : Prop := listBytesUptoRow.holds Try.pinned (OpenSpec.upto listBytesSpec)

/-- 'gemellaw6.ListBack', WHERE WHAT IT READS IS OF BULK AT MOST 1048576: true; the input reads as it did. -/
def listBackUptoRow : OpenClaim := { program := "ytpbcdhpajjkldaa", sum := "d1f6934957e7a6d16efb7c2335b5d421ca6442ac17e7779a1ea57d77597609ec", func := "gemel/gemellaw6.ListBack", spec := "listBack", apart := false, narrowed := true }
def ListBackUptoSaid : Prop := listBackUptoRow.holds Try.pinned (OpenSpec.upto listBackSpec)

/-- 'gemellaw6.ListCuts', WHERE WHAT IT READS IS OF BULK AT MOST 1048576: true; the input reads as it did. -/
def listCutsUptoRow : OpenClaim := { program := "ytpbcdhpajjkldaa", sum := "d1f6934957e7a6d16efb7c2335b5d421ca6442ac17e7779a1ea57d77597609ec", func := "gemel/gemellaw6.ListCuts", spec := "listCuts", apart := false, narrowed := true }
def ListCutsUptoSaid : Prop := listCutsUptoRow.holds Try.pinned (OpenSpec.upto listCutsSpec)

/-- 'gemellaw6.ListHolders', WHERE WHAT IT READS IS OF BULK AT MOST 1048576: true; the input reads as it did. -/
def listHoldersUptoRow : OpenClaim := { program := "ytpbcdhpajjkldaa", sum := "d1f6934957e7a6d16efb7c2335b5d421ca6442ac17e7779a1ea57d77597609ec", func := "gemel/gemellaw6.ListHolders", spec := "listHolders", apart := false, narrowed := true }
def ListHoldersUptoSaid : Prop := listHoldersUptoRow.holds Try.pinned (OpenSpec.upto listHoldersSpec)

end Rows
end Go.Proofs.Ytpbcdhpajjkldaa
