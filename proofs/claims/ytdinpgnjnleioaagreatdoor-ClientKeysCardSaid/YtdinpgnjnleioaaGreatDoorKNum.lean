/- Words of 32 bits: the formulas' numbers as bit vectors. For every program. -/
import Derived.Test.YtdinpgnjnleioaaGreatDoorKLib
namespace Go.CW
open Go.RowKit
def U (v : BitVec 32) : Int := (v.toNat : Int)
theorem U_range (v : BitVec 32) : 0 ≤ U v ∧ U v < 4294967296 := by
 have := v.isLt
 unfold U; omega
theorem U_of (v : BitVec 32) : BitVec.ofInt 32 (U v) = v := by
 unfold U
 rw [BitVec.ofInt_natCast]; simp
theorem U_wrap (v : BitVec 32) : IntKind.wrap .u32 (U v) = U v := by
 have := U_range v
 rw [w32]; omega
theorem U_xor (a b : BitVec 32) : bitsI .xor .u32 (U a) (U b) = U (a ^^^ b) := by
 show IntKind.wrap .u32 (((BitVec.ofInt 32 (U a) ^^^ BitVec.ofInt 32 (U b)).toNat : Nat) : Int) = _
 rw [U_of, U_of]; exact U_wrap _
theorem U_and (a b : BitVec 32) : bitsI .and .u32 (U a) (U b) = U (a &&& b) := by
 show IntKind.wrap .u32 (((BitVec.ofInt 32 (U a) &&& BitVec.ofInt 32 (U b)).toNat : Nat) : Int) = _
 rw [U_of, U_of]; exact U_wrap _
theorem U_shr (v : BitVec 32) (k : Nat) : Int.fdiv (U v) ((2 ^ k : Nat) : Int) = U (v >>> k) := by
 unfold U
 rw [Int.fdiv_eq_ediv_of_nonneg _ (Int.natCast_nonneg _), BitVec.toNat_ushiftRight, Nat.shiftRight_eq_div_pow]
 exact (Int.natCast_ediv _ _).symm
end Go.CW
