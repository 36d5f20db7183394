/- The contracts of the keys' and the holder's bytes. -/
import Derived.Test.YtghineciiljeoaaGreatDoorQGUn
import Derived.Test.YtghineciiljeoaaGreatDoorQLstM
set_option linter.unusedVariables false
set_option linter.unusedSimpArgs false
namespace Go.Proofs.YtghineciiljeoaaGreatDoor.Lst
open Go Go.CW Go.RowKit
abbrev tU : TypeId := 38
abbrev tUs : TypeId := 81
theorem tyU : SlTyN Tryz.prog tUs tU EU.s 8 := SlTyN.of (by kernel_rfl)
theorem u64_of32 {g : Int} (hg : 0 ≤ g ∧ g < 4294967296) : IntKind.wrap .u64 g = g := w64_id (by omega) (by omega)
theorem put4 (bs : List UInt8) (x : Int) : putS bs x 4 = bs ++ putL x 4 := rfl
theorem put8 (bs : List UInt8) (x : Int) : putS bs x 8 = bs ++ putL x 8 := rfl
theorem put2 (bs : List UInt8) (x : Int) : putS bs x 2 = bs ++ putL x 2 := rfl
theorem Keys_c {w : World} {g : Int} {v : Value} {l : List Int} {R : KV} (hg : 0 ≤ g ∧ g < 4294967296) (hr : RdR EU w v l) (c : ∀ v' w', Grow w w' → RdB w' v' (keysB g l) → NewV w v' → R v' w') :
    Go.CW.Spec Tryz.prog 171 #[.int .u32 g, v] w R := by
  apply prlist_Keys_wp
  have hle := hr.le
  obtain ⟨v1, h1, r1, _⟩ := hr.sub (lo := none) (hi := some (.int .i64 (if (16 : Int) < ((l.length : Nat) : Int) then (16 : Int) else ((l.length : Nat) : Int)))) (l := 0) (r := min 16 l.length) (fun cap hc => by
    rw [bounds_ni (by split <;> omega) (by split <;> omega)]
    have e : (if (16 : Int) < ((l.length : Nat) : Int) then (16 : Int) else ((l.length : Nat) : Int)).toNat = min 16 l.length := by split <;> omega
    rw [e]) (by omega) (by omega)
  rw [List.drop_zero, Nat.sub_zero] at r1
  have e0 : l.take (min 16 l.length) = cutK l := by
    unfold cutK
    by_cases h : l.length ≤ 16
    · rw [List.take_of_length_le (by omega), List.take_of_length_le h]
    · have : min 16 l.length = 16 := by omega
      rw [this]
  rw [e0] at r1
  have hcl := cutK_length l
  refine ⟨_, hr.len, v1, h1, ?_⟩
  rw [u64_of32 hg]
  refine bin_Put_c (bs := []) (Rd.nil w) (by simp) fun v2 w3 g3 r3 _ => ⟨_, r1.len, ?_⟩
  rw [wi64_id (n := 8 * ((cutK l).length : Int)) (by omega) (by omega), w64_id (n := 8 * ((cutK l).length : Int)) (by omega) (by omega)]
  refine bin_Put_c r3 (by simp [put4, putL_length]) fun v5 w6 g6 r6 n6 => ⟨_, r1.len, ?_⟩
  have hd : putS (putS [] g 4) (8 * ((cutK l).length : Int)) 4 = putL g 4 ++ putL (8 * ((cutK l).length : Int)) 4 := rfl
  rw [hd] at r6
  refine ⟨fun (vv : Value) (i : Int) (ww : World) => 0 ≤ i ∧ i ≤ (cutK l).length ∧ Grow w ww ∧ RdB ww vv (putL g 4 ++ putL (8 * ((cutK l).length : Int)) 4 ++ rowB ((cutK l).take i.toNat)) ∧ NewV w vv, fun (_ : Value) (i : Int) (_ : World) => ((cutK l).length - i).toNat,
    ⟨by omega, by omega, g3.then g6, by simpa [rowB] using r6, n6.of g3.size⟩, ?_⟩
  dsimp only [allR, mapR2, eqN, ltN]
  rintro m vv i ww ⟨⟨h0, h1', gg, rr, nn⟩, hm⟩
  refine cond_intro (fun h => ?_) (fun h => ?_)
  · simp at h
    obtain ⟨a, ha, hc⟩ := EU_at (r1.grow gg) h0 h
    refine ⟨a, ha, _, hc, bin_Put_c rr (by simp [putL_length, rowB_length]; omega) fun v14 w15 g15 r15 n15 => ?_⟩
    rw [wi64_id (n := i + 1) (by omega) (by omega)]
    refine ⟨⟨by omega, by omega, gg.then g15, ?_, n15.of gg.size⟩, by omega⟩
    have e : (i + 1).toNat = i.toNat + 1 := by omega
    rw [e, List.take_add_one, List.getElem?_eq_getElem (by omega), rowB_append]
    rw [put8, List.append_assoc] at r15
    exact r15
  · simp at h
    have e : (cutK l).take i.toNat = cutK l := List.take_of_length_le (by omega)
    rw [e] at rr
    exact c _ _ gg rr nn
theorem and15 {t : Int} (ht : Fits .i64 t) : bitsI .and .i64 t (15 : Int) = t % 16 := by
  have h := ht.i64
  show IntKind.wrap .i64 (((BitVec.ofInt 64 t &&& BitVec.ofInt 64 15).toNat : Nat) : Int) = _
  have e : (BitVec.ofInt 64 t &&& BitVec.ofInt 64 15).toNat = (t % 16).toNat := by
    have e15 : (BitVec.ofInt 64 15) = BitVec.ofNat 64 15 := rfl
    rw [e15, BitVec.toNat_and, BitVec.toNat_ofNat, BitVec.toNat_ofInt]
    have : (15 % 2 ^ 64 : Nat) = 2 ^ 4 - 1 := rfl
    rw [this, Nat.and_two_pow_sub_one_eq_mod]
    omega
  rw [e, wi64_id (by omega) (by omega)]
  omega
end Go.Proofs.YtghineciiljeoaaGreatDoor.Lst
