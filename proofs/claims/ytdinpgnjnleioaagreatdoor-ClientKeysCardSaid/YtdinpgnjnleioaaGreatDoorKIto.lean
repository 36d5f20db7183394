/- Numerals: strconv.Itoa by the shelf's contract, and that unlike numbers have unlike numerals. -/
import Derived.Test.YtdinpgnjnleioaaGreatDoorKPG
import Derived.Test.YtdinpgnjnleioaaGreatDoorKShelf
import Derived.Lib.ItoaNum
import Derived.Lib.ItoaMem
import Derived.Lib.AppendIntMem
import Derived.Lib.ItoaLen
set_option linter.unusedSimpArgs false
set_option linter.unusedVariables false
set_option maxRecDepth 100000
namespace Go.Proofs.YtdinpgnjnleioaaGreatDoor
open Go Go.CW Go.RowKit
def decV (l : List UInt8) : Nat := l.foldl (fun v c => v * 10 + (c.toNat - 48)) 0
theorem digits_nil_not (u : Nat) : Lib.decDigits u ≠ [] := by
 intro h
 rw [Lib.decDigits] at h
 split at h <;> simp at h
theorem u8of (n : Nat) (h : n < 256) : (UInt8.ofNat n).toNat = n := by rw [UInt8.toNat_ofNat']; exact Nat.mod_eq_of_lt h
theorem decV_digits (u : Nat) : decV (Lib.decDigits u) = u := by
 induction u using Nat.strongRecOn with
 | _ u ihs =>
   rw [Lib.decDigits]
   by_cases h : u < 10
   · rw [dif_pos h]
     have e : (UInt8.ofNat (48 + u)).toNat = 48 + u := u8of _ (by omega)
     simp only [decV, List.foldl_cons, List.foldl_nil, e]; omega
   · rw [dif_neg h]
     have ih := ihs (u / 10) (by omega)
     have e : (UInt8.ofNat (48 + u % 10)).toNat = 48 + u % 10 := u8of _ (by omega)
     unfold decV at ih ⊢
     rw [List.foldl_append, ih]
     simp only [List.foldl_cons, List.foldl_nil, e]; omega
theorem digits_dig (u : Nat) : ∀ c ∈ Lib.decDigits u, 48 ≤ c.toNat ∧ c.toNat < 58 := by
 induction u using Nat.strongRecOn with
 | _ u ihs =>
   rw [Lib.decDigits]
   by_cases h : u < 10
   · rw [dif_pos h]
     have e : (UInt8.ofNat (48 + u)).toNat = 48 + u := u8of _ (by omega)
     intro c hc
     simp only [List.mem_singleton] at hc
     subst hc; rw [e]; omega
   · rw [dif_neg h]
     have e : (UInt8.ofNat (48 + u % 10)).toNat = 48 + u % 10 := u8of _ (by omega)
     intro c hc
     rcases List.mem_append.1 hc with hc | hc
     · exact ihs (u / 10) (by omega) c hc
     · simp only [List.mem_singleton] at hc
       subst hc; rw [e]; omega
abbrev Tab (w : World) : Prop := Lib.TabIs Tryz.prog w "internal/strconv.uint64pow10" .u64 Lib.pow10Tab
theorem Tab.grow {w w' : World} (h : Tab w) (g : Grow w w') : Tab w' := Lib.tabBelow_of_tabIs h w' g
theorem itoa_c {w : World} {n : Int} {R : KV} (ht : Tab w) (hn : Fits .i64 n) (k : ∀ w', Grow w w' → R (.string (textOf (Lib.itoa n))) w') : CW.Spec Tryz.prog 132 #[.int .i64 n] w R := by
 have h := hn.i64
 exact (Go.Proofs.Tryz.strconv_Itoa n (by omega) (by omega) w ht).mono fun e w' ⟨he, kk, os, hw⟩ => ⟨_, he, k _ (by rw [hw]; exact Lib.below_grow _ _ (Nat.le_refl _) _ _)⟩
theorem textOf_app (a b : List UInt8) : textOf a ++ textOf b = textOf (a ++ b) := ByteArray.ext (by simp [textOf])
theorem textOf_size (a : List UInt8) : (textOf a).size = a.length := by simp [textOf, ByteArray.size]
theorem text_beq' (a b : List UInt8) : ((textOf a).toList == (textOf b).toList) = decide (a = b) := by
 rw [textOf_toList, textOf_toList, Bool.eq_iff_iff]; simp
theorem callU_of {P : Program} {g : FuncId} {first captured args : Array Value} {w : World} {K : KV} (hb : (P.funcs[g]?).map (fun fn => fn.body.isSome) = some true) (h : CW.Spec P g (app3 first args captured) w K) :
 callU P (.func (.func g) first captured) args w K := by
 unfold callU
 simp only [hb]
 exact h
end Go.Proofs.YtdinpgnjnleioaaGreatDoor
