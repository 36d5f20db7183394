/- What the clients of gemellaw21 ask. -/
import Derived.Test.YtdinpgnjnleioaaGreatDoorWRfA
set_option linter.unusedSimpArgs false
set_option linter.unusedVariables false
set_option maxRecDepth 100000
namespace Go.Proofs.YtdinpgnjnleioaaGreatDoor.Pip
open Go Go.CW Go.RowKit Go.Proofs.YtdinpgnjnleioaaGreatDoor Go.Proofs.YtdinpgnjnleioaaGreatDoor.Pdu Go.Proofs.YtdinpgnjnleioaaGreatDoor.Rf
open Go.Proofs.YtdinpgnjnleioaaGreatDoor.Lgn (LgP)
open Go.Proofs.YtdinpgnjnleioaaGreatDoor.Ses (Prm Cm)
def pA (b : Nat) (now : Bool) : Prm := ⟨iqA, 512, b, now, true⟩
theorem lgp {b : Nat} {now : Bool} (h : 512 ≤ b ∧ b ≤ 9000) : LgP (pA b now) [iqA, iqB] :=
 ⟨(by decide +kernel : Txt.nameT iqA = true), List.mem_cons_self .., (by decide : iqA ≠ []), (by decide : iqA.length ≤ 255), (by decide : (0 : UInt8) ∉ iqA), (by decide : 512 ≤ 512 ∧ 512 ≤ 16777215), ⟨h.1, by show b ≤ _; omega⟩, rfl⟩
theorem ok_write {u : Ru} {pos n : Nat} {d : List UInt8} (hn : n ≤ 32) (hp : pos + n ≤ 64) (hd : d.length = n * 8) : OkR u iqA ⟨3, pos, n, 0, 0, 0, false, d⟩ := ⟨.inr (.inl ⟨rfl, hn, hp, hd⟩), by decide⟩
theorem ok_read {u : Ru} {pos n : Nat} (hn : n ≤ 32) (hp : pos + n ≤ 64) : OkR u iqA ⟨2, pos, n, 0, 0, 0, false, []⟩ := ⟨.inl ⟨rfl, hn, hp⟩, by decide⟩
end Go.Proofs.YtdinpgnjnleioaaGreatDoor.Pip
