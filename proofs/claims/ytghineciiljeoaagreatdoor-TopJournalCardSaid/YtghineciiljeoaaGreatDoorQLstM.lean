/- Keys of reservations as bytes: the plain law. -/
import Derived.Test.YtghineciiljeoaaGreatDoorQGUn
import Derived.Test.YtghineciiljeoaaGreatDoorQPG
import Derived.Test.YtghineciiljeoaaGreatDoorQRec
set_option linter.unusedVariables false
set_option linter.unusedSimpArgs false
namespace Go.Proofs.YtghineciiljeoaaGreatDoor.Lst
open Go Go.CW Go.RowKit
def EU : Enc Int := ⟨1, fun n => [.int .u64 n], fun _ => rfl, by omega, fun _ => rfl⟩
theorem EU_at {w : World} {v : Value} {L : List Int} (h : RdR EU w v L) {i : Int} (h0 : 0 ≤ i) (h1 : i < L.length) :
    ∃ a, sliceAt v i 1 = some a ∧ w.cell? a = some (.int .u64 (L[i.toNat]'(by omega))) := by
  obtain ⟨a, ha, hc, _⟩ := h.at h0 h1
  have := hc 0 (by decide)
  rw [add_zero] at this
  exact ⟨a, ha, this⟩
def cutK (l : List Int) : List Int := l.take 16
def rowB (l : List Int) : List UInt8 := l.flatMap (fun x => putL x 8)
def keysB (g : Int) (l : List Int) : List UInt8 := putL g 4 ++ putL (8 * ((cutK l).length : Int)) 4 ++ rowB (cutK l)
def holdB (g key typ : Int) : List UInt8 :=
  if typ % 16 = 0 then putL g 4 ++ putL 0 4 else putL g 4 ++ putL 16 4 ++ putL key 8 ++ putL 0 4 ++ putL (typ % 16) 2 ++ putL 0 2
theorem rowB_length (l : List Int) : (rowB l).length = 8 * l.length := by
  induction l with
  | nil => rfl
  | cons x l ih =>
    have e : rowB (x :: l) = putL x 8 ++ rowB l := rfl
    rw [e, List.length_append, putL_length, ih, List.length_cons]; omega
theorem rowB_append (a b : List Int) : rowB (a ++ b) = rowB a ++ rowB b := by simp [rowB]
theorem cutK_length (l : List Int) : (cutK l).length = min 16 l.length := by simp [cutK]
theorem keysB_length (g : Int) (l : List Int) : (keysB g l).length = 8 + 8 * min 16 l.length := by
  simp only [keysB, List.length_append, putL_length, rowB_length, cutK_length]
theorem holdB_length (g key typ : Int) : (holdB g key typ).length = if typ % 16 = 0 then 8 else 24 := by
  unfold holdB; split <;> simp [putL_length]
def hdG (bs : List UInt8) : Int := getV bs 0 4
def hdN (bs : List UInt8) : Int := getV bs 4 4
theorem p4 (x : Int) (h0 : 0 ≤ x) (h1 : x < 4294967296) : x % (256 : Int) ^ 4 = x := by
  have e : (256 : Int) ^ 4 = 4294967296 := rfl
  rw [e]; omega
def chunk (bs : List UInt8) (c : Nat) : List Int := (List.range c).map (fun (i : Nat) => getV bs (8 + 8 * (i : Int)) 8)
def nC (bs : List UInt8) : Nat := min (((hdN bs).toNat + 7) / 8) 17
def okC (bs : List UInt8) : Bool := decide (8 + 8 * nC bs ≤ bs.length) && decide (keysB (hdG bs) (chunk bs (nC bs)) = bs)
def keyAt (bs : List UInt8) : Int := getV bs 8 8
end Go.Proofs.YtghineciiljeoaaGreatDoor.Lst
