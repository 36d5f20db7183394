/- A PDU that came in as an argument. -/
import Derived.Test.YtooeeodkaeimeaaPduL
import Derived.Test.YtooeeodkaeimeaaSch
set_option linter.unusedVariables false
set_option maxRecDepth 100000
namespace Go.Proofs.Ytooeeodkaeimeaa
open Go Go.CW Go.RowKit Go.Crc

abbrev kPdu : List CK := [.int .i64, .bool, .int .i64, .int .i64, .int .u32, .int .u32, .int .u32, .int .u32, .int .u32, .int .u32, .int .u8, .int .u8, .int .u8, .int .u8, .int .u8, .int .u8, .int .u8, .int .u8, .int .u8, .int .u8, .int .u8, .int .u8, .int .u8, .int .u8, .int .u8, .int .u8, .raw tB]

theorem open_pdu {H : Type} {enc : TypeId × Value → H} {w : World} {base : Nat} {spare : Nat → Bool} {held : Bool} {t : TypeId} {n : Nat} {cs : List Value} {x : DataW H × List MemPlace} (hs : ∀ b, spare b = true) (ht : sch Try.prog 3 t = some kPdu)
    (h : DataW.trod enc Try.prog w base spare held n t cs = some x) : ∃ (p : Pd) (dv : Value) (ds : List UInt8), cs = (rP p dv).toList ∧ PdFits p ∧ RdB w dv ds := by
  obtain ⟨hl, hat⟩ := open_sch 3 t kPdu n cs x ht h
  match cs, hl with
  | [c0, c1, c2, c3, c4, c5, c6, c7, c8, c9, c10, c11, c12, c13, c14, c15, c16, c17, c18, c19, c20, c21, c22, c23, c24, c25, c26], _ =>
    obtain ⟨q0, rfl, f0⟩ := hat 0 _ _ rfl rfl
    obtain ⟨q1, rfl⟩ := hat 1 _ _ rfl rfl
    obtain ⟨q2, rfl, f2⟩ := hat 2 _ _ rfl rfl
    obtain ⟨q3, rfl, f3⟩ := hat 3 _ _ rfl rfl
    obtain ⟨q4, rfl, f4⟩ := hat 4 _ _ rfl rfl
    obtain ⟨q5, rfl, f5⟩ := hat 5 _ _ rfl rfl
    obtain ⟨q6, rfl, f6⟩ := hat 6 _ _ rfl rfl
    obtain ⟨q7, rfl, f7⟩ := hat 7 _ _ rfl rfl
    obtain ⟨q8, rfl, f8⟩ := hat 8 _ _ rfl rfl
    obtain ⟨q9, rfl, f9⟩ := hat 9 _ _ rfl rfl
    obtain ⟨q10, rfl⟩ := (hat 10 _ _ rfl rfl).byte
    obtain ⟨q11, rfl⟩ := (hat 11 _ _ rfl rfl).byte
    obtain ⟨q12, rfl⟩ := (hat 12 _ _ rfl rfl).byte
    obtain ⟨q13, rfl⟩ := (hat 13 _ _ rfl rfl).byte
    obtain ⟨q14, rfl⟩ := (hat 14 _ _ rfl rfl).byte
    obtain ⟨q15, rfl⟩ := (hat 15 _ _ rfl rfl).byte
    obtain ⟨q16, rfl⟩ := (hat 16 _ _ rfl rfl).byte
    obtain ⟨q17, rfl⟩ := (hat 17 _ _ rfl rfl).byte
    obtain ⟨q18, rfl⟩ := (hat 18 _ _ rfl rfl).byte
    obtain ⟨q19, rfl⟩ := (hat 19 _ _ rfl rfl).byte
    obtain ⟨q20, rfl⟩ := (hat 20 _ _ rfl rfl).byte
    obtain ⟨q21, rfl⟩ := (hat 21 _ _ rfl rfl).byte
    obtain ⟨q22, rfl⟩ := (hat 22 _ _ rfl rfl).byte
    obtain ⟨q23, rfl⟩ := (hat 23 _ _ rfl rfl).byte
    obtain ⟨q24, rfl⟩ := (hat 24 _ _ rfl rfl).byte
    obtain ⟨q25, rfl⟩ := (hat 25 _ _ rfl rfl).byte
    obtain ⟨ds, hr⟩ := raw_bytes hs (t := tB) (e := tb) (by kernel_rfl) (by kernel_rfl) (by kernel_rfl) (hat 26 _ _ rfl rfl)
    exact ⟨⟨q0, q1, q2, q3, q4, q5, q6, q7, q8, q9, q10, q11, q12, q13, q14, q15, q16, q17, q18, q19, q20, q21, q22, q23, q24, q25⟩, _, ds, rfl, ⟨f0, f2, f3, f4, f5, f6, f7, f8, f9⟩, hr⟩

end Go.Proofs.Ytooeeodkaeimeaa
