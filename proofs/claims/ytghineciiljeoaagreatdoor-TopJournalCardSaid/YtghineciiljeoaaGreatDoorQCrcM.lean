/- The law of the sum (CRC-32C): a bit's step, linear and one to one; bytes; what is sealed; turned bits. No program in sight. -/
import Derived.Test.YtghineciiljeoaaGreatDoorQLib
set_option linter.unusedVariables false
namespace Go.Crc
abbrev W := BitVec 32
def poly : W := 0x82F63B78#32
def st (v : W) : W := bif v.getLsbD 0 then (v >>> 1) ^^^ poly else v >>> 1
theorem st_xor (a b : W) : st (a ^^^ b) = st a ^^^ st b := by
  unfold st
  rw [BitVec.getLsbD_xor, BitVec.ushiftRight_xor_distrib]
  generalize a >>> 1 = x
  generalize b >>> 1 = y
  cases a.getLsbD 0 <;> cases b.getLsbD 0 <;> simp only [Bool.xor_true, Bool.xor_false, Bool.not_true, Bool.not_false, cond_true, cond_false]
  · rw [BitVec.xor_assoc]
  · rw [BitVec.xor_assoc, BitVec.xor_comm y poly, BitVec.xor_assoc]
  · have h : x ^^^ poly ^^^ (y ^^^ poly) = (x ^^^ y) ^^^ (poly ^^^ poly) := by ac_rfl
    rw [h, BitVec.xor_self, BitVec.xor_zero]
def stn : Nat → W → W
  | 0, v => v
  | n + 1, v => stn n (st v)
theorem stn_xor (n : Nat) : ∀ a b : W, stn n (a ^^^ b) = stn n a ^^^ stn n b := by
  induction n with
  | zero => intro a b; rfl
  | succ n ih => intro a b; simp only [stn, st_xor, ih]
theorem stn_add (m n : Nat) : ∀ v : W, stn (m + n) v = stn n (stn m v) := by
  induction m with
  | zero => intro v; simp [stn]
  | succ m ih => intro v; rw [Nat.succ_add]; simp only [stn]; exact ih _
theorem stn_succ (n : Nat) (v : W) : stn (n + 1) v = st (stn n v) := by
  rw [stn_add]; rfl
def wd (c : UInt8) : W := BitVec.ofNat 32 c.toNat
def F (v : W) (bs : List UInt8) : W := bs.foldl (fun v c => stn 8 (v ^^^ wd c)) v
theorem F_nil (v : W) : F v [] = v := rfl
theorem F_cons (v : W) (c : UInt8) (bs : List UInt8) : F v (c :: bs) = F (stn 8 (v ^^^ wd c)) bs := rfl
theorem F_append (v : W) (a b : List UInt8) : F v (a ++ b) = F (F v a) b := by simp [F, List.foldl_append]
def more (s : W) (bs : List UInt8) : W := ~~~ F (~~~ s) bs
def sum (bs : List UInt8) : W := more 0#32 bs
def ones : W := 0xFFFFFFFF#32
theorem not_eq (v : W) : ~~~ v = ones ^^^ v := by
  rw [BitVec.xor_comm]; exact (BitVec.xor_allOnes (x := v)).symm
def le4 (x : W) : List UInt8 := [UInt8.ofNat x.toNat, UInt8.ofNat (x.toNat / 256), UInt8.ofNat (x.toNat / 65536), UInt8.ofNat (x.toNat / 16777216)]
def sld (bs : List UInt8) : List UInt8 := bs ++ le4 (sum bs)
theorem le4_length (x : W) : (le4 x).length = 4 := rfl
theorem sld_length (bs : List UInt8) : (sld bs).length = bs.length + 4 := by simp [sld, le4_length]
def res : W := stn 32 ones
def mk (p : W) : Nat → W
  | 0 => 0#32
  | i + 1 => bif p.getLsbD i then mk p i ^^^ 1#32 <<< i else mk p i
end Go.Crc
