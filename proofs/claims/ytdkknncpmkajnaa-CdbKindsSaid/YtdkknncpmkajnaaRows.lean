/-
  No cell of these rows narrows 'for every input' (looked for: loops, veiled, ifaces, maps, wideKeys, modest, calm, conditions, laid).
  DERIVED. THE GIVEN ROWS OF THIS SEAT. 2 by the template 'for every input the law returns true; each argument reads behind the call as it read before'; 0 by the template 'total and deterministic' (their statements: YtdkknncpmkajnaaTotals.lean).
  GIVEN WITH THE SEED: the statements are not yours to turn. If you find one false, say at which input.
  Laid BY PROGRAM, IN A SANDBOX (cutbox-rows.mjs): the forced cells as the released guide's own fill.sh prints them over the translation 25c5bbcf3fd34a55… (all of the seat's roots in one cut). By AI agents, Wed Nov 11 2026. No macro, syntax, notation, axiom, sorry.
-/
import Derived.Test.YtdkknncpmkajnaaChecked
import GoSem.Claim
import GoSem.ClaimJoined
import GoSem.ClaimMapViews
import Derived.JoinedTies
import Derived.KernelRfl
namespace Go.Proofs.Ytdkknncpmkajnaa
/- THE CELL 'sum', in the pinned program and in every row, IS THE sha256 OF THE DUMP (.gsa) THAT YtdkknncpmkajnaaProg.lean LOADS. Nothing in Lean hashes anything: it is a label: what it is worth is what the hold of that sum in a sandbox is worth. -/
noncomputable def Try.pinned : Pinned := { name := "ytdkknncpmkajnaa", sum := "25c5bbcf3fd34a5554608c53e46692b228641ce3e507e2bd198787e486f13b41", checked := Try.checked }
namespace Rows
def none {H : Type} : Left H := { results := [], args := [] }

/-- 'gemellaw4.CdbSizes': WHATEVER THE INPUT: true; the input reads as it did. -/
def cdbSizesSpec : ChangeSpec := { name := "cdbSizes", fn := fun _ => fun
  | [d] => { results := [.lit (.bool true)], args := [d] }
  | _ => none }
def cdbSizesRow : OpenClaim := { program := "ytdkknncpmkajnaa", sum := "25c5bbcf3fd34a5554608c53e46692b228641ce3e507e2bd198787e486f13b41", func := "gemel/gemellaw4.CdbSizes", spec := "cdbSizes", unfollowed := true, recurses := true, apart := false }
def CdbSizesSaid : Prop := cdbSizesRow.holds Try.pinned (OpenSpec.ofChange cdbSizesSpec)

/-- ITS FALSE NEIGHBOUR: 'it returns false'. Refute it at one input. -/
def cdbSizesWrong : ChangeSpec := { name := "cdbSizes", fn := fun _ => fun
  | [d] => { results := [.lit (.bool false)], args := [d] }
  | _ => none }
def CdbSizesWrongFalsely : Prop := cdbSizesRow.holds Try.pinned (OpenSpec.ofChange cdbSizesWrong)

/-- 'gemellaw4.CdbKinds': WHATEVER THE INPUT: true; the input reads as it did. -/
def cdbKindsSpec : ChangeSpec := { name := "cdbKinds", fn := fun _ => fun
  | [d1, d2, d3, d4] => { results := [.lit (.bool true)], args := [d1, d2, d3, d4] }
  | _ => none }
def cdbKindsRow : OpenClaim := { program := "ytdkknncpmkajnaa", sum := "25c5bbcf3fd34a5554608c53e46692b228641ce3e507e2bd198787e486f13b41", func := "gemel/gemellaw4.CdbKinds", spec := "cdbKinds", unfollowed := true, recurses := true, apart := false }
def CdbKindsSaid : Prop := cdbKindsRow.holds Try.pinned (OpenSpec.ofChange cdbKindsSpec)

/-- ITS FALSE NEIGHBOUR: 'it returns false'. Refute it at one input. -/
def cdbKindsWrong : ChangeSpec := { name := "cdbKinds", fn := fun _ => fun
  | [d1, d2, d3, d4] => { results := [.lit (.bool false)], args := [d1, d2, d3, d4] }
  | _ => none }
def CdbKindsWrongFalsely : Prop := cdbKindsRow.holds Try.pinned (OpenSpec.ofChange cdbKindsWrong)

/- THE SECOND FORM. 'bulk': how many values and letters a reading holds, each counted each time it is reached (what is shared counts as often as it is met; a slice's spare places count too). A statement '..UptoSaid' is the law's where the arguments, and the package variables that the reading takes, are together of bulk at most 1048576: NARROWER than '..Said'. Prove '..Said' where nothing that the law and all that it calls make is longer than what came in: it says more and counts as full. Else prove '..UptoSaid'. A law counts once. -/
mutual
def uptoBulk {H : Type} : DataW H → Nat
  | .lit (.string bytes) => bytes.length + 1
  | .lit _ => 1
  | .nil => 1
  | .ptr d => uptoBulk d + 1
  | .slice elems spare => uptoBulkAll elems + uptoBulkAll spare + 1
  | .agg parts => uptoBulkAll parts + 1
  | .iface _ d => uptoBulk d + 1
  | .map entries => uptoBulkEntries entries + 1
  | .held _ => 1
def uptoBulkAll {H : Type} : List (DataW H) → Nat
  | [] => 0
  | d :: r => uptoBulk d + uptoBulkAll r
def uptoBulkEntries {H : Type} : List (Lit × DataW H) → Nat
  | [] => 0
  | x :: r => uptoBulkEntry x + uptoBulkEntries r
def uptoBulkEntry {H : Type} : Lit × DataW H → Nat
  | (.string bytes, d) => bytes.length + uptoBulk d + 1
  | (_, d) => uptoBulk d + 1
 end
def uptoSmall : (H : Type) → List (DataW H) → Bool := fun _ ds => decide (uptoBulkAll ds ≤ 1048576)
def OpenSpec.upto (s : _root_.Go.ChangeSpec) : _root_.Go.OpenSpec := { _root_.Go.OpenSpec.ofChange s with cond := some uptoSmall }

/-- 'gemellaw4.CdbSizes', WHERE WHAT IT READS IS OF BULK AT MOST 1048576: true; the input reads as it did. -/
def cdbSizesUptoRow : OpenClaim := { program := "ytdkknncpmkajnaa", sum := "25c5bbcf3fd34a5554608c53e46692b228641ce3e507e2bd198787e486f13b41", func := "gemel/gemellaw4.CdbSizes", spec := "cdbSizes", unfollowed := true, recurses := true, apart := false, narrowed := true }
def CdbSizesUptoSaid : Prop := cdbSizesUptoRow.holds Try.pinned (OpenSpec.upto cdbSizesSpec)

/-- 'gemellaw4.CdbKinds', WHERE WHAT IT READS IS OF BULK AT MOST 1048576: true; the input reads as it did. -/
def cdbKindsUptoRow : OpenClaim := { program := "ytdkknncpmkajnaa", sum := "25c5bbcf3fd34a5554608c53e46692b228641ce3e507e2bd198787e486f13b41", func := "gemel/gemellaw4.CdbKinds", spec := "cdbKinds", unfollowed := true, recurses := true, apart := false, narrowed := true }
def CdbKindsUptoSaid : Prop := cdbKindsUptoRow.holds Try.pinned (OpenSpec.upto cdbKindsSpec)

end Rows
end Go.Proofs.Ytdkknncpmkajnaa
