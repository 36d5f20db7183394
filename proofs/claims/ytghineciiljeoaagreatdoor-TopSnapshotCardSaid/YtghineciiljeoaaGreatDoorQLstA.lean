/- Texts of this seat, one behind the other: LstM, LstP, LstQ. -/
import Derived.Test.YtghineciiljeoaaGreatDoorQGUn
import Derived.Test.YtghineciiljeoaaGreatDoorQPG
set_option linter.unusedSimpArgs false
set_option linter.unusedVariables false
section
namespace Go.Proofs.YtghineciiljeoaaGreatDoor.Lst
open Go Go.CW Go.RowKit
def EU : Enc Int := ⟨1, fun n => [.int .u64 n], fun _ => rfl, by omega, fun _ => rfl⟩
theorem EU_at {w : World} {v : Value} {L : List Int} (h : RdR EU w v L) {i : Int} (h0 : 0 ≤ i) (h1 : i < L.length) :
 ∃ a, sliceAt v i 1 = some a ∧ w.cell? a = some (.int .u64 (L[i.toNat]'(by omega))) := by
 obtain ⟨a, ha, hc, _⟩ := h.at h0 h1
 have := hc 0 (by decide)
 rw [add_zero] at this
 exact ⟨a, ha, this⟩
def cutK (l : List Int) : List Int := l.take 16
def rowB (l : List Int) : List UInt8 := l.flatMap (fun x => putL x 8)
def keysB (g : Int) (l : List Int) : List UInt8 := putL g 4 ++ putL (8 * ((cutK l).length : Int)) 4 ++ rowB (cutK l)
def holdB (g key typ : Int) : List UInt8 :=
 if typ % 16 = 0 then putL g 4 ++ putL 0 4 else putL g 4 ++ putL 16 4 ++ putL key 8 ++ putL 0 4 ++ putL (typ % 16) 2 ++ putL 0 2
theorem rowB_length (l : List Int) : (rowB l).length = 8 * l.length := by
 induction l with
 | nil => rfl
 | cons x l ih =>
   have e : rowB (x :: l) = putL x 8 ++ rowB l := rfl
   rw [e, List.length_append, putL_length, ih, List.length_cons]; omega
theorem rowB_append (a b : List Int) : rowB (a ++ b) = rowB a ++ rowB b := by simp [rowB]
theorem cutK_length (l : List Int) : (cutK l).length = min 16 l.length := by simp [cutK]
theorem keysB_length (g : Int) (l : List Int) : (keysB g l).length = 8 + 8 * min 16 l.length := by
 simp only [keysB, List.length_append, putL_length, rowB_length, cutK_length]
theorem holdB_length (g key typ : Int) : (holdB g key typ).length = if typ % 16 = 0 then 8 else 24 := by
 unfold holdB; split <;> simp [putL_length]
def hdG (bs : List UInt8) : Int := getV bs 0 4
def hdN (bs : List UInt8) : Int := getV bs 4 4
theorem p4 (x : Int) (h0 : 0 ≤ x) (h1 : x < 4294967296) : x % (256 : Int) ^ 4 = x := by
 have e : (256 : Int) ^ 4 = 4294967296 := rfl
 rw [e]; omega
theorem p8 (x : Int) (h0 : 0 ≤ x) (h1 : x < 18446744073709551616) : x % (256 : Int) ^ 8 = x := by
 have e : (256 : Int) ^ 8 = 18446744073709551616 := rfl
 rw [e]; omega
def chunk (bs : List UInt8) (c : Nat) : List Int := (List.range c).map (fun (i : Nat) => getV bs (8 + 8 * (i : Int)) 8)
def nC (bs : List UInt8) : Nat := min (((hdN bs).toNat + 7) / 8) 17
def okC (bs : List UInt8) : Bool := decide (8 + 8 * nC bs ≤ bs.length) && decide (keysB (hdG bs) (chunk bs (nC bs)) = bs)
def keyAt (bs : List UInt8) : Int := getV bs 8 8
end Go.Proofs.YtghineciiljeoaaGreatDoor.Lst
end
section
namespace Go.Proofs.YtghineciiljeoaaGreatDoor.Lst
open Go Go.CW Go.RowKit
abbrev tU : TypeId := 38
abbrev tUs : TypeId := 81
theorem tyU : SlTyN Tryz.prog tUs tU EU.s 8 := SlTyN.of (by kernel_rfl)
theorem u64_of32 {g : Int} (hg : 0 ≤ g ∧ g < 4294967296) : IntKind.wrap .u64 g = g := w64_id (by omega) (by omega)
theorem put4 (bs : List UInt8) (x : Int) : putS bs x 4 = bs ++ putL x 4 := rfl
theorem put8 (bs : List UInt8) (x : Int) : putS bs x 8 = bs ++ putL x 8 := rfl
theorem put2 (bs : List UInt8) (x : Int) : putS bs x 2 = bs ++ putL x 2 := rfl
theorem Keys_c {w : World} {g : Int} {v : Value} {l : List Int} {R : KV} (hg : 0 ≤ g ∧ g < 4294967296) (hr : RdR EU w v l) (c : ∀ v' w', Grow w w' → RdB w' v' (keysB g l) → NewV w v' → R v' w') :
 CW.Spec Tryz.prog 171 #[.int .u32 g, v] w R := by
 apply q54W
 have hle := hr.le
 obtain ⟨v1, h1, r1, _⟩ := hr.sub (lo := none) (hi := some (.int .i64 (if (16 : Int) < ((l.length : Nat) : Int) then (16 : Int) else ((l.length : Nat) : Int)))) (l := 0) (r := min 16 l.length) (fun cap hc => by
  rw [bounds_ni (by split <;> omega) (by split <;> omega)]
  have e : (if (16 : Int) < ((l.length : Nat) : Int) then (16 : Int) else ((l.length : Nat) : Int)).toNat = min 16 l.length := by split <;> omega
  rw [e]) (by omega) (by omega)
 rw [List.drop_zero, Nat.sub_zero] at r1
 have e0 : l.take (min 16 l.length) = cutK l := by
  unfold cutK
  by_cases h : l.length ≤ 16
  · rw [List.take_of_length_le (by omega), List.take_of_length_le h]
  · have : min 16 l.length = 16 := by omega
    rw [this]
 rw [e0] at r1
 have hcl := cutK_length l
 refine ⟨_, hr.len, v1, h1, ?_⟩
 rw [u64_of32 hg]
 refine bin_Put_c (bs := []) (Rd.nil w) (by simp) fun v2 w3 g3 r3 _ => ⟨_, r1.len, ?_⟩
 rw [wi64_id (n := 8 * ((cutK l).length : Int)) (by omega) (by omega), w64_id (n := 8 * ((cutK l).length : Int)) (by omega) (by omega)]
 refine bin_Put_c r3 (by simp [put4, putL_length]) fun v5 w6 g6 r6 n6 => ⟨_, r1.len, ?_⟩
 have hd : putS (putS [] g 4) (8 * ((cutK l).length : Int)) 4 = putL g 4 ++ putL (8 * ((cutK l).length : Int)) 4 := rfl
 rw [hd] at r6
 refine ⟨fun (vv : Value) (i : Int) (ww : World) => 0 ≤ i ∧ i ≤ (cutK l).length ∧ Grow w ww ∧ RdB ww vv (putL g 4 ++ putL (8 * ((cutK l).length : Int)) 4 ++ rowB ((cutK l).take i.toNat)) ∧ NewV w vv, fun (_ : Value) (i : Int) (_ : World) => ((cutK l).length - i).toNat,
  ⟨by omega, by omega, g3.then g6, by simpa [rowB] using r6, n6.of g3.size⟩, ?_⟩
 dsimp only [allR, mapR2, eqN, ltN]
 rintro m vv i ww ⟨⟨h0, h1', gg, rr, nn⟩, hm⟩
 refine cond_intro (fun h => ?_) (fun h => ?_)
 · simp at h
   obtain ⟨a, ha, hc⟩ := EU_at (r1.grow gg) h0 h
   refine ⟨a, ha, _, hc, bin_Put_c rr (by simp [putL_length, rowB_length]; omega) fun v14 w15 g15 r15 n15 => ?_⟩
   rw [wi64_id (n := i + 1) (by omega) (by omega)]
   refine ⟨⟨by omega, by omega, gg.then g15, ?_, n15.of gg.size⟩, by omega⟩
   have e : (i + 1).toNat = i.toNat + 1 := by omega
   rw [e, List.take_add_one, List.getElem?_eq_getElem (by omega), rowB_append]
   rw [put8, List.append_assoc] at r15
   exact r15
 · simp at h
   have e : (cutK l).take i.toNat = cutK l := List.take_of_length_le (by omega)
   rw [e] at rr
   exact c _ _ gg rr nn
theorem Equal_c {w : World} {v u : Value} {bs cs : List UInt8} {R : KV} (hv : RdB w v bs) (hu : RdB w u cs) (k : R (.bool (decide (bs = cs))) w) : CW.Spec Tryz.prog 134 #[v, u] w R := by
 apply q13W
 refine ⟨_, to_text hv, _, to_text hu, ?_⟩
 rw [text_beq]; exact k
theorem and15 {t : Int} (ht : Fits .i64 t) : bitsI .and .i64 t (15 : Int) = t % 16 := by
 have h := ht.i64
 show IntKind.wrap .i64 (((BitVec.ofInt 64 t &&& BitVec.ofInt 64 15).toNat : Nat) : Int) = _
 have e : (BitVec.ofInt 64 t &&& BitVec.ofInt 64 15).toNat = (t % 16).toNat := by
  have e15 : (BitVec.ofInt 64 15) = BitVec.ofNat 64 15 := rfl
  rw [e15, BitVec.toNat_and, BitVec.toNat_ofNat, BitVec.toNat_ofInt]
  have : (15 % 2 ^ 64 : Nat) = 2 ^ 4 - 1 := rfl
  rw [this, Nat.and_two_pow_sub_one_eq_mod]
  omega
 rw [e, wi64_id (by omega) (by omega)]
 omega
end Go.Proofs.YtghineciiljeoaaGreatDoor.Lst
end
section
namespace Go.Proofs.YtghineciiljeoaaGreatDoor.Lst
open Go Go.CW Go.RowKit
theorem Holder_c {w : World} {g k t : Int} {R : KV} (hg : 0 ≤ g ∧ g < 4294967296) (ht : Fits .i64 t) (c : ∀ v w', Grow w w' → RdB w' v (holdB g k t) → NewV w v → R v w') :
 CW.Spec Tryz.prog 175 #[.int .u32 g, .int .u64 k, .int .i64 t] w R := by
 apply q53W
 unfold q53F
 rw [u64_of32 hg, and15 ht]
 have h16 : 0 ≤ t % 16 ∧ t % 16 < 16 := by omega
 refine bin_Put_c (bs := []) (Rd.nil w) (by simp) fun v1 w1 g1 r1 _ => cond_intro (fun h => ?_) (fun h => ?_)
 · have h0 : t % 16 = 0 := by simpa using h
   refine bin_Put_c r1 (by simp [put4, putL_length]) fun v2 w2 g2 r2 n2 => c _ _ (g1.then g2) ?_ (n2.of g1.size)
   unfold holdB; rw [if_pos h0]; exact r2
 · have h0 : ¬ t % 16 = 0 := by simpa using h
   rw [w64_id (n := t % 16) (by omega) (by omega)]
   refine bin_Put_c r1 (by simp [put4, putL_length]) fun v2 w2 g2 r2 _ => ?_
   refine bin_Put_c r2 (by simp [put4, put8, putL_length]) fun v3 w3 g3 r3 _ => ?_
   refine bin_Put_c r3 (by simp [put4, put8, putL_length]) fun v4 w4 g4 r4 _ => ?_
   refine bin_Put_c r4 (by simp [put4, put8, putL_length]) fun v5 w5 g5 r5 _ => ?_
   refine bin_Put_c r5 (by simp [put4, put8, put2, putL_length]) fun v6 w6 g6 r6 n6 => ?_
   have gg := g1.then (g2.then (g3.then (g4.then g5)))
   refine c _ _ (gg.then g6) ?_ (n6.of gg.size)
   unfold holdB; rw [if_neg h0]; exact r6
theorem fitsI {n : Int} (h0 : -9223372036854775808 ≤ n) (h1 : n < 9223372036854775808) : Fits .i64 n := by
 simp only [Fits, IntKind.min, IntKind.max, IntKind.bits, IntKind.signed]
 constructor <;> simp <;> omega
end Go.Proofs.YtghineciiljeoaaGreatDoor.Lst
end
