/- Keys of reservations as bytes: the plain law. -/
import Derived.Test.YtghineciiljeoaaGreatDoorGTpk
import Derived.Test.YtghineciiljeoaaGreatDoorGSpd
import Derived.Test.YtghineciiljeoaaGreatDoorGPrl
import Derived.Test.YtghineciiljeoaaGreatDoorPG
import Derived.Test.YtghineciiljeoaaGreatDoorRec
set_option linter.unusedVariables false
set_option linter.unusedSimpArgs false
namespace Go.Proofs.YtghineciiljeoaaGreatDoor.Lst
open Go Go.CW Go.RowKit

/-- numbers of 64 bits in a row -/
def EU : Enc Int := ⟨1, fun n => [.int .u64 n], fun _ => rfl, by omega, fun _ => rfl⟩
theorem EU_flat (L : List Int) : EU.flat L = L.map (Value.int .u64) := by
  induction L with
  | nil => rfl
  | cons x L ih => rw [Enc.flat_cons, ih]; rfl
theorem EU_of {w : World} {v : Value} {L : List Int} (h : Rd w v (L.map (Value.int .u64))) : RdR EU w v L := by
  obtain ⟨a, cap, hv, h1, h2, h3, h4⟩ := h
  rw [List.length_map] at hv h1
  exact ⟨a, cap, hv, h1, h2, h3, by rw [EU_flat]; exact h4⟩
theorem EU_at {w : World} {v : Value} {L : List Int} (h : RdR EU w v L) {i : Int} (h0 : 0 ≤ i) (h1 : i < L.length) :
    ∃ a, sliceAt v i 1 = some a ∧ w.cell? a = some (.int .u64 (L[i.toNat]'(by omega))) := by
  obtain ⟨a, ha, hc, _⟩ := h.at h0 h1
  have := hc 0 (by decide)
  rw [add_zero] at this
  exact ⟨a, ha, this⟩

def encB (k o : Int) : List UInt8 := putL k 8 ++ putL o 8 ++ putL 0 8
def cutK (l : List Int) : List Int := l.take 16
def rowB (l : List Int) : List UInt8 := l.flatMap (fun x => putL x 8)
def keysB (g : Int) (l : List Int) : List UInt8 := putL g 4 ++ putL (8 * ((cutK l).length : Int)) 4 ++ rowB (cutK l)
def holdB (g key typ : Int) : List UInt8 :=
  if typ % 16 = 0 then putL g 4 ++ putL 0 4 else putL g 4 ++ putL 16 4 ++ putL key 8 ++ putL 0 4 ++ putL (typ % 16) 2 ++ putL 0 2

theorem rowB_length (l : List Int) : (rowB l).length = 8 * l.length := by
  induction l with
  | nil => rfl
  | cons x l ih =>
    have e : rowB (x :: l) = putL x 8 ++ rowB l := rfl
    rw [e, List.length_append, putL_length, ih, List.length_cons]; omega
theorem rowB_append (a b : List Int) : rowB (a ++ b) = rowB a ++ rowB b := by simp [rowB]
theorem cutK_length (l : List Int) : (cutK l).length = min 16 l.length := by simp [cutK]
theorem keysB_length (g : Int) (l : List Int) : (keysB g l).length = 8 + 8 * min 16 l.length := by
  simp only [keysB, List.length_append, putL_length, rowB_length, cutK_length]
theorem encB_length (k o : Int) : (encB k o).length = 24 := by simp [encB, putL_length]
theorem holdB_length (g key typ : Int) : (holdB g key typ).length = if typ % 16 = 0 then 8 else 24 := by
  unfold holdB; split <;> simp [putL_length]

/-- the heads: the generation, how many bytes follow -/
def hdG (bs : List UInt8) : Int := getV bs 0 4
def hdN (bs : List UInt8) : Int := getV bs 4 4
def shortB (bs : List UInt8) : Bool := decide (bs.length < 8) || decide (hdN bs > (bs.length : Int) - 8)

theorem hd_range (bs : List UInt8) : (0 ≤ hdG bs ∧ hdG bs < 4294967296) ∧ 0 ≤ hdN bs ∧ hdN bs < 4294967296 := ⟨getV_range bs 0 4, getV_range bs 4 4⟩

theorem p4 (x : Int) (h0 : 0 ≤ x) (h1 : x < 4294967296) : x % (256 : Int) ^ 4 = x := by
  have e : (256 : Int) ^ 4 = 4294967296 := rfl
  rw [e]; omega
theorem p8 (x : Int) (h0 : 0 ≤ x) (h1 : x < 18446744073709551616) : x % (256 : Int) ^ 8 = x := by
  have e : (256 : Int) ^ 8 = 18446744073709551616 := rfl
  rw [e]; omega

theorem keysB_heads {g : Int} {l : List Int} (hg : 0 ≤ g ∧ g < 4294967296) : hdG (keysB g l) = g ∧ hdN (keysB g l) = 8 * (min 16 l.length : Nat) := by
  have h1 := getV_at (pre := []) (post := putL (8 * ((cutK l).length : Int)) 4 ++ rowB (cutK l)) (n := 4) hg.1 (by omega) (a := 0) rfl
  have h2 := getV_at (pre := putL g 4) (post := rowB (cutK l)) (x := 8 * ((cutK l).length : Int)) (n := 4) (by omega) (by omega) (a := 4) (by rw [putL_length]; rfl)
  have hc := cutK_length l
  rw [p4 _ hg.1 hg.2] at h1
  rw [p4 _ (by omega) (by omega)] at h2
  constructor
  · unfold hdG keysB
    rw [List.nil_append, ← List.append_assoc] at h1
    exact h1
  · unfold hdN keysB
    rw [← hc]; exact h2

/-- the keys that stand there -/
def chunk (bs : List UInt8) (c : Nat) : List Int := (List.range c).map (fun (i : Nat) => getV bs (8 + 8 * (i : Int)) 8)
theorem chunk_length (bs : List UInt8) (c : Nat) : (chunk bs c).length = c := by simp [chunk]
theorem chunk_succ (bs : List UInt8) (c : Nat) : chunk bs (c + 1) = chunk bs c ++ [getV bs (8 + 8 * (c : Int)) 8] := by simp [chunk, List.range_succ]

def nR (bs : List UInt8) : Nat := min ((bs.length - 8) / 8) 17
def okK (bs : List UInt8) : Bool := decide (keysB (hdG bs) (chunk bs (nR bs)) = bs)
/-- what reading keys answers -/
def pkE (bs : List UInt8) : Int := if shortB bs = true then 3 else if okK bs = true then 0 else 2
def pkG (bs : List UInt8) : Int := if shortB bs = true then 0 else if okK bs = true then hdG bs else 0
def pkL (bs : List UInt8) : List Int := if shortB bs = true then [] else if okK bs = true then chunk bs (nR bs) else []

/-- how many the code reads -/
def nC (bs : List UInt8) : Nat := min (((hdN bs).toNat + 7) / 8) 17
def okC (bs : List UInt8) : Bool := decide (8 + 8 * nC bs ≤ bs.length) && decide (keysB (hdG bs) (chunk bs (nC bs)) = bs)

theorem okC_iff (bs : List UInt8) : okC bs = okK bs ∧ (okC bs = true → nC bs = nR bs) := by
  have hg := (hd_range bs).1
  have hn := (hd_range bs).2
  have h1 : okC bs = true → nC bs = nR bs := by
    intro h
    simp only [okC, Bool.and_eq_true, decide_eq_true_eq] at h
    obtain ⟨h2, h3⟩ := h
    have hl := keysB_length (hdG bs) (chunk bs (nC bs))
    rw [h3, chunk_length] at hl
    unfold nR
    omega
  have h2 : okK bs = true → nC bs = nR bs ∧ 8 + 8 * nC bs ≤ bs.length := by
    intro h
    simp only [okK, decide_eq_true_eq] at h
    have hl := keysB_length (hdG bs) (chunk bs (nR bs))
    have hh := (keysB_heads (l := chunk bs (nR bs)) hg).2
    rw [h, chunk_length] at hl hh
    have hr : nR bs = (bs.length - 8) / 8 ∨ nR bs = 17 := by unfold nR; omega
    unfold nC
    rw [hh]
    have hr2 : nR bs ≤ 16 := by unfold nR at hl ⊢; omega
    omega
  refine ⟨?_, h1⟩
  rw [Bool.eq_iff_iff]
  constructor
  · intro h
    have e := h1 h
    simp only [okC, Bool.and_eq_true, decide_eq_true_eq] at h
    simp only [okK, decide_eq_true_eq]
    rw [← e]; exact h.2
  · intro h
    obtain ⟨e, hl⟩ := h2 h
    simp only [okK, decide_eq_true_eq] at h
    simp only [okC, Bool.and_eq_true, decide_eq_true_eq]
    rw [e]; rw [e] at hl; exact ⟨hl, h⟩

/-! ### holders -/
def keyAt (bs : List UInt8) : Int := getV bs 8 8
def typAt (bs : List UInt8) : Int := ((bs.getD 21 0).toNat : Int)
/-- what the code compares with -/
def hkC (bs : List UInt8) : Int := if hdN bs > 0 ∧ bs.length = 24 then keyAt bs else 0
def htC (bs : List UInt8) : Int := if hdN bs > 0 ∧ bs.length = 24 then typAt bs else 0
def okH (bs : List UInt8) : Bool := decide (holdB (hdG bs) (hkC bs) (htC bs) = bs)
def phE (bs : List UInt8) : Int := if shortB bs = true then 3 else if okH bs = true then 0 else 2
def phG (bs : List UInt8) : Int := if shortB bs = true then 0 else if okH bs = true then hdG bs else 0
def phK (bs : List UInt8) : Int := if shortB bs = true then 0 else if okH bs = true then hkC bs else 0
def phT (bs : List UInt8) : Int := if shortB bs = true then 0 else if okH bs = true then htC bs else 0

theorem typAt_range (bs : List UInt8) : 0 ≤ typAt bs ∧ typAt bs < 256 := by
  unfold typAt
  have := (bs.getD 21 0).toNat_lt
  omega

/-- bytes of eight are their heads -/
theorem heads8 {bs : List UInt8} (h : bs.length = 8) : putL (hdG bs) 4 ++ putL (hdN bs) 4 = bs := by
  have h1 := putL_get (bs := bs) (a := 0) (n := 4) (by omega) (by omega)
  have h2 := putL_get (bs := bs) (a := 4) (n := 4) (by omega) (by omega)
  unfold hdG hdN
  have e1 : ((0 : Nat) : Int) = 0 := rfl
  have e2 : ((4 : Nat) : Int) = 4 := rfl
  rw [e1, e2] at h1
  rw [e2] at h2
  rw [h1, h2, List.drop_zero]
  have e3 : (bs.drop 4).take 4 = bs.drop 4 := List.take_of_length_le (by simp; omega)
  rw [e3, List.take_append_drop]

/-- what the document compares with is the same -/
theorem okH_iff {bs : List UInt8} (hs : shortB bs = false) :
    okH bs = (if bs.length = 8 then decide (hdN bs = 0) else if bs.length = 24 then !(decide (typAt bs = 0) || !decide (holdB (hdG bs) (keyAt bs) (typAt bs) = bs)) else false) ∧
      (okH bs = true → bs.length = 24 → hkC bs = keyAt bs ∧ htC bs = typAt bs) ∧ (bs.length = 8 → hkC bs = 0 ∧ htC bs = 0) := by
  simp only [shortB, Bool.or_eq_false_iff, decide_eq_false_iff_not] at hs
  have hr := hd_range bs
  have h0 : (0 : Int) % 16 = 0 := rfl
  refine ⟨?_, ?_, fun h8 => ?_⟩
  · by_cases h8 : bs.length = 8
    · rw [if_pos h8]
      have hn : hdN bs = 0 := by omega
      have e1 : hkC bs = 0 := by unfold hkC; rw [if_neg (by omega)]
      have e2 : htC bs = 0 := by unfold htC; rw [if_neg (by omega)]
      have hh := heads8 h8
      rw [hn] at hh
      have : holdB (hdG bs) 0 0 = bs := by unfold holdB; rw [if_pos h0]; exact hh
      simp [okH, e1, e2, this, hn]
    · rw [if_neg h8]
      by_cases h24 : bs.length = 24
      · rw [if_pos h24]
        by_cases hn : hdN bs > 0
        · have e1 : hkC bs = keyAt bs := by unfold hkC; rw [if_pos ⟨hn, h24⟩]
          have e2 : htC bs = typAt bs := by unfold htC; rw [if_pos ⟨hn, h24⟩]
          by_cases ht : typAt bs = 0
          · have : ¬ holdB (hdG bs) (keyAt bs) (typAt bs) = bs := by
              intro e
              have hl := holdB_length (hdG bs) (keyAt bs) (typAt bs)
              rw [e, ht, if_pos h0] at hl
              omega
            simp [okH, e1, e2, this, ht]
            rw [ht] at this; exact this
          · simp [okH, e1, e2, ht]
        · have e1 : hkC bs = 0 := by unfold hkC; rw [if_neg (by omega)]
          have e2 : htC bs = 0 := by unfold htC; rw [if_neg (by omega)]
          have n1 : ¬ holdB (hdG bs) 0 0 = bs := by
            intro e
            have hl := holdB_length (hdG bs) 0 0
            rw [e, if_pos h0] at hl
            omega
          have n2 : ¬ holdB (hdG bs) (keyAt bs) (typAt bs) = bs := by
            intro e
            have hl := holdB_length (hdG bs) (keyAt bs) (typAt bs)
            rw [e, h24] at hl
            have ht : ¬ typAt bs % 16 = 0 := by
              intro hh; rw [if_pos hh] at hl; omega
            have h2 := getV_at (pre := putL (hdG bs) 4) (post := putL (keyAt bs) 8 ++ putL 0 4 ++ putL (typAt bs % 16) 2 ++ putL 0 2) (x := 16) (n := 4) (by omega) (by omega) (a := 4) (by rw [putL_length]; rfl)
            have e3 : putL (hdG bs) 4 ++ putL 16 4 ++ (putL (keyAt bs) 8 ++ putL 0 4 ++ putL (typAt bs % 16) 2 ++ putL 0 2) = bs := by
              conv => rhs; rw [← e]
              unfold holdB; rw [if_neg ht]
              simp only [List.append_assoc]
            rw [e3] at h2
            have : hdN bs = 16 := h2
            omega
          simp [okH, e1, e2, n1, n2]
      · rw [if_neg h24]
        have e1 : hkC bs = 0 := by unfold hkC; rw [if_neg (by omega)]
        have e2 : htC bs = 0 := by unfold htC; rw [if_neg (by omega)]
        have n1 : ¬ holdB (hdG bs) 0 0 = bs := by
          intro e
          have hl := holdB_length (hdG bs) 0 0
          rw [e, if_pos h0] at hl
          omega
        simp [okH, e1, e2, n1]
  · intro h h24
    by_cases hn : hdN bs > 0
    · exact ⟨by unfold hkC; rw [if_pos ⟨hn, h24⟩], by unfold htC; rw [if_pos ⟨hn, h24⟩]⟩
    · exfalso
      have e1 : hkC bs = 0 := by unfold hkC; rw [if_neg (by omega)]
      have e2 : htC bs = 0 := by unfold htC; rw [if_neg (by omega)]
      simp only [okH, e1, e2, decide_eq_true_eq] at h
      have hl := holdB_length (hdG bs) 0 0
      rw [h, if_pos h0] at hl
      omega
  · exact ⟨by unfold hkC; rw [if_neg (by omega)], by unfold htC; rw [if_neg (by omega)]⟩

end Go.Proofs.YtghineciiljeoaaGreatDoor.Lst
