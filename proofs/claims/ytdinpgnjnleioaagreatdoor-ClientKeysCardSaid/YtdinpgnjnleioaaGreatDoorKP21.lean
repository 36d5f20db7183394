/- What the clients of gemellaw21 ask. -/
import Derived.Test.YtdinpgnjnleioaaGreatDoorKRfA
set_option linter.unusedSimpArgs false
set_option linter.unusedVariables false
set_option maxRecDepth 100000
namespace Go.Proofs.YtdinpgnjnleioaaGreatDoor.Pip
open Go Go.CW Go.RowKit Go.Proofs.YtdinpgnjnleioaaGreatDoor Go.Proofs.YtdinpgnjnleioaaGreatDoor.Pdu Go.Proofs.YtdinpgnjnleioaaGreatDoor.Rf
open Go.Proofs.YtdinpgnjnleioaaGreatDoor.Lgn (LgP)
open Go.Proofs.YtdinpgnjnleioaaGreatDoor.Ses (Prm Cm)
def pA (b : Nat) (now : Bool) : Prm := ⟨iqA, 512, b, now, true⟩
theorem lgp {b : Nat} {now : Bool} (h : 512 ≤ b ∧ b ≤ 9000) : LgP (pA b now) [iqA, iqB] :=
 ⟨(by decide +kernel : Txt.nameT iqA = true), List.mem_cons_self .., (by decide : iqA ≠ []), (by decide : iqA.length ≤ 255), (by decide : (0 : UInt8) ∉ iqA), (by decide : 512 ≤ 512 ∧ 512 ≤ 16777215), ⟨h.1, by show b ≤ _; omega⟩, rfl⟩
theorem ok_read {u : Ru} {pos n : Nat} (hn : n ≤ 32) (hp : pos + n ≤ 64) : OkR u iqA ⟨2, pos, n, 0, 0, 0, false, []⟩ := ⟨.inl ⟨rfl, hn, hp⟩, by decide⟩
theorem ok_reg {u : Ru} {key : Int} (h : 0 < key ∧ key < 18446744073709551616) : OkR u iqA ⟨10, 0, 0, 0, key, 0, false, []⟩ := ⟨.inr (.inr (.inl ⟨rfl, h.1, h.2, Int.le_refl _, (by decide : (0 : Int) < 18446744073709551616)⟩)), by decide⟩
theorem ok_res {u : Ru} {key y : Int} (h : 0 < key ∧ key < 18446744073709551616) (hy : isT y = true) : OkR u iqA ⟨12, 0, 0, key, 0, y, false, []⟩ := ⟨.inr (.inr (.inr (.inl ⟨rfl, hy, by show 0 ≤ key; omega, h.2⟩))), by decide⟩
theorem ok_keys {u : Ru} : OkR u iqA ⟨16, 0, 0, 0, 0, 0, false, []⟩ := ⟨.inr (.inr (.inr (.inr rfl))), by decide⟩
theorem ok_wb {u : Ru} {d : List UInt8} (hd : d.length = 8) : OkR u iqB ⟨3, 0, 1, 0, 0, 0, false, d⟩ := ⟨.inr (.inl ⟨rfl, by show 1 ≤ 32; omega, by show 0 + 1 ≤ 64; omega, by show d.length = 1 * 8; omega⟩), by decide⟩
theorem keys_len {key : Int} : (Lst.keysB 1 [key]).length ≤ 512 := by
 have : (Lst.cutK [key]).length ≤ 1 := by unfold Lst.cutK; simp
 unfold Lst.keysB
 simp only [List.length_append, putL_length, Lst.rowB_length]
 omega
end Go.Proofs.YtdinpgnjnleioaaGreatDoor.Pip
