/- The contracts of the holder's bytes and of two keys; known. -/
import Derived.Test.YtghineciiljeoaaGreatDoorGTpk
import Derived.Test.YtghineciiljeoaaGreatDoorGSpd
import Derived.Test.YtghineciiljeoaaGreatDoorGPrl
import Derived.Test.YtghineciiljeoaaGreatDoorLstP
set_option linter.unusedVariables false
set_option linter.unusedSimpArgs false
namespace Go.Proofs.YtghineciiljeoaaGreatDoor.Lst
open Go Go.CW Go.RowKit

abbrev tQ : TypeId := 54
def rep0 : Array Value := #[.int .i64 0, .int .i64 0, .int .i64 0, .slice none 0 0, .int .i64 0]
def repW (k c : Int) : Array Value := #[.int .i64 2, .int .i64 k, .int .i64 c, .slice none 0 0, .int .i64 0]

def okD (bs : List UInt8) : Bool := decide (bs.length = 24) && decide (getV bs 16 8 = 0)
def dK (bs : List UInt8) : Int := if okD bs = true then getV bs 0 8 else 0
def dO (bs : List UInt8) : Int := if okD bs = true then getV bs 8 8 else 0
def dR (bs : List UInt8) : Array Value := if okD bs = true then rep0 else repW 5 9728

theorem Holder_c {w : World} {g k t : Int} {R : KV} (hg : 0 ≤ g ∧ g < 4294967296) (ht : Fits .i64 t) (c : ∀ v w', Grow w w' → RdB w' v (holdB g k t) → NewV w v → R v w') :
    Go.CW.Spec Tryz.prog 175 #[.int .u32 g, .int .u64 k, .int .i64 t] w R := by
  apply prlist_Holder_wp
  unfold prlist_Holder_F
  rw [u64_of32 hg, and15 ht]
  have h16 : 0 ≤ t % 16 ∧ t % 16 < 16 := by omega
  refine bin_Put_c (bs := []) (Rd.nil w) (by simp) fun v1 w1 g1 r1 _ => cond_intro (fun h => ?_) (fun h => ?_)
  · have h0 : t % 16 = 0 := by simpa using h
    refine bin_Put_c r1 (by simp [put4, putL_length]) fun v2 w2 g2 r2 n2 => c _ _ (g1.then g2) ?_ (n2.of g1.size)
    unfold holdB; rw [if_pos h0]; exact r2
  · have h0 : ¬ t % 16 = 0 := by simpa using h
    rw [w64_id (n := t % 16) (by omega) (by omega)]
    refine bin_Put_c r1 (by simp [put4, putL_length]) fun v2 w2 g2 r2 _ => ?_
    refine bin_Put_c r2 (by simp [put4, put8, putL_length]) fun v3 w3 g3 r3 _ => ?_
    refine bin_Put_c r3 (by simp [put4, put8, putL_length]) fun v4 w4 g4 r4 _ => ?_
    refine bin_Put_c r4 (by simp [put4, put8, putL_length]) fun v5 w5 g5 r5 _ => ?_
    refine bin_Put_c r5 (by simp [put4, put8, put2, putL_length]) fun v6 w6 g6 r6 n6 => ?_
    have gg := g1.then (g2.then (g3.then (g4.then g5)))
    refine c _ _ (gg.then g6) ?_ (n6.of gg.size)
    unfold holdB; rw [if_neg h0]; exact r6

theorem tail8 (t : Int) (h : 0 ≤ t ∧ t < 16) : putL 0 4 ++ putL t 2 ++ putL 0 2 = [0, 0, 0, 0, 0, byt t, 0, 0] := by
  have e : ∀ i : Fin 16, putL 0 4 ++ putL (i.val : Int) 2 ++ putL 0 2 = [0, 0, 0, 0, 0, byt (i.val : Int), 0, 0] := by decide +kernel
  have := e ⟨t.toNat, by omega⟩
  have ht : ((t.toNat : Nat) : Int) = t := by omega
  rw [ht] at this; exact this

theorem fitsI {n : Int} (h0 : -9223372036854775808 ≤ n) (h1 : n < 9223372036854775808) : Fits .i64 n := by
  simp only [Fits, IntKind.min, IntKind.max, IntKind.bits, IntKind.signed]
  constructor <;> simp <;> omega

theorem byte21 {w : World} {v : Value} {bs : List UInt8} (h : RdB w v bs) (h1 : 21 < bs.length) : ∃ a, sliceAt v 21 1 = some a ∧ w.cell? a = some (.int .u8 (typAt bs)) := by
  obtain ⟨a, ha, hc⟩ := RdB.at h (i := 21) (by omega) (by omega)
  refine ⟨a, ha, ?_⟩
  have : typAt bs = ((bs[(21 : Int).toNat]'(by show 21 < _; omega)).toNat : Int) := by
    unfold typAt
    have e : bs.getD 21 0 = bs[21]'h1 := by simp [List.getD_eq_getElem?_getD, h1]
    rw [e]; rfl
  rw [this]; exact hc

theorem htC_range (bs : List UInt8) : 0 ≤ htC bs ∧ htC bs < 256 := by
  have := typAt_range bs
  unfold htC; split <;> omega

/-! ### known -/
theorem encB_ok {k o : Int} (hk : 0 ≤ k ∧ k < 18446744073709551616) (ho : 0 ≤ o ∧ o < 18446744073709551616) : okD (encB k o) = true ∧ dK (encB k o) = k ∧ dO (encB k o) = o := by
  have h1 := getV_at (pre := []) (post := putL o 8 ++ putL 0 8) (n := 8) hk.1 (by omega) (a := 0) rfl
  have h2 := getV_at (pre := putL k 8) (post := putL 0 8) (n := 8) ho.1 (by omega) (a := 8) (by rw [putL_length]; rfl)
  have h3 := getV_at (pre := putL k 8 ++ putL o 8) (post := []) (x := 0) (n := 8) (by omega) (by omega) (a := 16) (by simp [putL_length])
  rw [List.nil_append, ← List.append_assoc, p8 _ hk.1 hk.2] at h1
  rw [p8 _ ho.1 ho.2] at h2
  rw [List.append_nil, p8 _ (by omega) (by omega)] at h3
  have hd : okD (encB k o) = true := by
    simp only [okD, encB_length, Bool.and_eq_true, decide_eq_true_eq]
    exact ⟨trivial, h3⟩
  exact ⟨hd, by unfold dK; rw [if_pos hd]; exact h1, by unfold dO; rw [if_pos hd]; exact h2⟩

/-- keys there and back -/
theorem chunk_row {bs : List UInt8} {pre : List UInt8} {l : List Int} (hl : ∀ x ∈ l, 0 ≤ x ∧ x < 18446744073709551616) (hp : pre.length = 8) (hb : bs = pre ++ rowB l) : chunk bs l.length = l := by
  apply List.ext_getElem?
  intro i
  by_cases hi : i < l.length
  · have e : rowB l = rowB (l.take i) ++ (putL l[i] 8 ++ rowB (l.drop (i + 1))) := by
      have h1 : l = l.take i ++ l[i] :: l.drop (i + 1) := by simp
      conv => lhs; rw [h1]
      rw [rowB_append]; rfl
    have hx := hl l[i] (List.getElem_mem _)
    have hv := getV_at (pre := pre ++ rowB (l.take i)) (post := rowB (l.drop (i + 1))) (x := l[i]) (n := 8) hx.1 (by omega) (a := 8 + 8 * (i : Int)) (by rw [List.length_append, rowB_length, List.length_take]; omega)
    have e2 : pre ++ rowB (l.take i) ++ putL l[i] 8 ++ rowB (l.drop (i + 1)) = bs := by rw [hb, e]; simp only [List.append_assoc]
    rw [e2, p8 _ hx.1 hx.2] at hv
    unfold chunk
    rw [List.getElem?_map, List.getElem?_range hi, List.getElem?_eq_getElem hi]
    exact congrArg some hv
  · rw [List.getElem?_eq_none (by rw [chunk_length]; omega), List.getElem?_eq_none (by omega)]

theorem cutK_mem {l : List Int} {x : Int} (h : x ∈ cutK l) : x ∈ l := List.mem_of_mem_take h

theorem keysB_ok {g : Int} {l : List Int} (hg : 0 ≤ g ∧ g < 4294967296) (hl : ∀ x ∈ l, 0 ≤ x ∧ x < 18446744073709551616) : pkE (keysB g l) = 0 ∧ pkG (keysB g l) = g ∧ pkL (keysB g l) = cutK l := by
  obtain ⟨h1, h2⟩ := keysB_heads (l := l) hg
  have hlen := keysB_length g l
  have hc := cutK_length l
  have hs : shortB (keysB g l) = false := by
    simp only [shortB, Bool.or_eq_false_iff, decide_eq_false_iff_not]
    rw [h2]; omega
  have hn : nR (keysB g l) = (cutK l).length := by unfold nR; rw [hlen, hc]; omega
  have hch : chunk (keysB g l) (nR (keysB g l)) = cutK l := by
    rw [hn]
    exact chunk_row (pre := putL g 4 ++ putL (8 * ((cutK l).length : Int)) 4) (fun x hx => hl x (cutK_mem hx)) (by simp [putL_length]) rfl
  have hcc : cutK (cutK l) = cutK l := by unfold cutK; rw [List.take_take]; rfl
  have hk : okK (keysB g l) = true := by
    simp only [okK, decide_eq_true_eq]
    rw [hch, h1]
    unfold keysB; rw [hcc]
  simp only [pkE, pkG, pkL, hs, hk, hch, h1]
  exact ⟨rfl, rfl, rfl⟩

theorem holdB_heads {g k t : Int} (hg : 0 ≤ g ∧ g < 4294967296) : hdG (holdB g k t) = g ∧ hdN (holdB g k t) = if t % 16 = 0 then 0 else 16 := by
  by_cases ht : t % 16 = 0
  · have h1 := getV_at (pre := []) (post := putL 0 4) (n := 4) hg.1 (by omega) (a := 0) rfl
    have h2 := getV_at (pre := putL g 4) (post := []) (x := 0) (n := 4) (by omega) (by omega) (a := 4) (by rw [putL_length]; rfl)
    rw [List.nil_append, p4 _ hg.1 hg.2] at h1
    rw [List.append_nil, p4 _ (by omega) (by omega)] at h2
    unfold hdG hdN holdB
    rw [if_pos ht, if_pos ht]
    exact ⟨h1, h2⟩
  · have h1 := getV_at (pre := []) (post := putL 16 4 ++ putL k 8 ++ putL 0 4 ++ putL (t % 16) 2 ++ putL 0 2) (n := 4) hg.1 (by omega) (a := 0) rfl
    have h2 := getV_at (pre := putL g 4) (post := putL k 8 ++ putL 0 4 ++ putL (t % 16) 2 ++ putL 0 2) (x := 16) (n := 4) (by omega) (by omega) (a := 4) (by rw [putL_length]; rfl)
    rw [List.nil_append, p4 _ hg.1 hg.2] at h1
    rw [p4 _ (by omega) (by omega)] at h2
    unfold hdG hdN holdB
    rw [if_neg ht, if_neg ht]
    simp only [List.append_assoc] at h1 h2 ⊢
    exact ⟨h1, h2⟩

/-- a holder there and back -/
theorem holdB_ok {g k t : Int} (hg : 0 ≤ g ∧ g < 4294967296) (hk : 0 ≤ k ∧ k < 18446744073709551616) :
    phE (holdB g k t) = 0 ∧ phG (holdB g k t) = g ∧ phK (holdB g k t) = (if t % 16 = 0 then 0 else k) ∧ phT (holdB g k t) = t % 16 := by
  obtain ⟨h1, h2⟩ := holdB_heads (k := k) (t := t) hg
  have hlen := holdB_length g k t
  by_cases ht : t % 16 = 0
  · rw [if_pos ht] at h2 hlen
    have hs : shortB (holdB g k t) = false := by
      simp only [shortB, Bool.or_eq_false_iff, decide_eq_false_iff_not]; omega
    have e1 : hkC (holdB g k t) = 0 := by unfold hkC; rw [if_neg (by omega)]
    have e2 : htC (holdB g k t) = 0 := by unfold htC; rw [if_neg (by omega)]
    have hb : holdB g 0 0 = holdB g k t := by unfold holdB; rw [if_pos ht, if_pos (show (0 : Int) % 16 = 0 by decide)]
    have ho : okH (holdB g k t) = true := by
      simp only [okH, decide_eq_true_eq]; rw [e1, e2, h1]; exact hb
    simp only [phE, phG, phK, phT, hs, ho, e1, e2, h1, if_pos ht]
    exact ⟨rfl, rfl, rfl, ht.symm⟩
  · rw [if_neg ht] at h2 hlen
    have hs : shortB (holdB g k t) = false := by
      simp only [shortB, Bool.or_eq_false_iff, decide_eq_false_iff_not]; omega
    have e1 : hkC (holdB g k t) = k := by
      unfold hkC; rw [if_pos ⟨by omega, hlen⟩]
      have h3 := getV_at (pre := putL g 4 ++ putL 16 4) (post := putL 0 4 ++ putL (t % 16) 2 ++ putL 0 2) (x := k) (n := 8) hk.1 (by omega) (a := 8) (by simp [putL_length])
      rw [p8 _ hk.1 hk.2] at h3
      unfold keyAt holdB
      rw [if_neg ht]
      simp only [List.append_assoc] at h3 ⊢
      exact h3
    have e2 : htC (holdB g k t) = t % 16 := by
      unfold htC; rw [if_pos ⟨by omega, hlen⟩]
      unfold typAt holdB
      rw [if_neg ht]
      have hb : putL g 4 ++ putL 16 4 ++ putL k 8 ++ putL 0 4 ++ putL (t % 16) 2 ++ putL 0 2 = (putL g 4 ++ putL 16 4 ++ putL k 8) ++ [0, 0, 0, 0, 0, byt (t % 16), 0, 0] := by
        rw [← tail8 _ ⟨by omega, by omega⟩]; simp only [List.append_assoc]
      rw [hb, List.getD_eq_getElem?_getD, List.getElem?_append_right (by simp [putL_length])]
      have hp : (putL g 4 ++ putL 16 4 ++ putL k 8).length = 16 := by simp [putL_length]
      rw [hp]
      have := byt_toNat (t % 16)
      show ((byt (t % 16)).toNat : Int) = _
      omega
    have h16 : t % 16 % 16 = t % 16 := by omega
    have hb : holdB g k (t % 16) = holdB g k t := by unfold holdB; rw [h16]
    have ho : okH (holdB g k t) = true := by
      simp only [okH, decide_eq_true_eq]; rw [e1, e2, h1]; exact hb
    simp only [phE, phG, phK, phT, hs, ho, e1, e2, h1, if_neg ht]
    exact ⟨rfl, rfl, rfl, rfl⟩

end Go.Proofs.YtghineciiljeoaaGreatDoor.Lst
