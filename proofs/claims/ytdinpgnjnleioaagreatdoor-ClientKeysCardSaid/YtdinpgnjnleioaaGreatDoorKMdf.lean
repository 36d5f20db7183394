/- What a call may turn: a footprint, and all that is new; replies that are stored and read again. -/
import Derived.Test.YtdinpgnjnleioaaGreatDoorKSepX
import Derived.Test.YtdinpgnjnleioaaGreatDoorKByt
set_option linter.unusedSimpArgs false
set_option linter.unusedVariables false
set_option maxRecDepth 100000
namespace Go.CW
open Go.RowKit
theorem JoinP.go {rs : List Rep} {rest : FunR rs} {body : FunR rs → Prop} (h : body rest) : JoinP rs rest body := h
theorem Turn.step {S : Fp} {b : Nat} {w w' : World} (t : Turn b w w') (h : S b) : Step S w w' S :=
 ⟨t.os, t.tape, t.output, Nat.le_of_eq t.size.symm, fun k _ hs => t.block k (fun e => hs (e ▸ h)), fun _ h => .inl h⟩
def Md (S : Fp) (B : Nat) (w w' : World) : Prop := Step (fun k => S k ∨ B ≤ k) w w' (fun k => S k ∨ B ≤ k)
variable {S : Fp} {B : Nat} {w w1 w2 : World}
theorem Md.refl (S : Fp) (B : Nat) (w : World) : Md S B w w := Step.refl _ _
theorem Md.trans (a : Md S B w w1) (b : Md S B w1 w2) : Md S B w w2 := Step.then a b
theorem Md.grow (a : Md S B w w1) (g : Grow w1 w2) : Md S B w w2 := Step.then a (Step.of_grow g)
theorem Md.turn {b : Nat} (a : Md S B w w1) (t : Turn b w1 w2) (h : S b ∨ B ≤ b) : Md S B w w2 := Step.then a (t.step h)
theorem Md.stp {T T' : Fp} (a : Md S B w w1) (st : Step T w1 w2 T') (h : ∀ k, T k → S k ∨ B ≤ k) (h' : ∀ k, T' k → (S k ∨ B ≤ k) ∨ w1.heap.size ≤ k := by intro k hk; exact .inl (by assumption)) : Md S B w w2 :=
 ⟨st.os.trans a.os, st.tape.trans a.tape, st.output.trans a.output, Nat.le_trans a.size st.size, fun k hk hs => (st.block k (Nat.lt_of_lt_of_le hk a.size) (fun ht => hs (h k ht))).trans (a.block k hk hs), fun k hk => .inl hk⟩
theorem Md.size (a : Md S B w w1) : w.heap.size ≤ w1.heap.size := Step.size a
theorem Md.out (a : Md S w.heap.size w w1) : Step S w w1 S :=
 ⟨a.os, a.tape, a.output, Step.size a, fun k hk hs => a.block k hk (fun h => h.elim hs (fun h => by omega)), fun _ h => .inl h⟩
theorem Md.below (a : Md S B w w1) (hB : B ≤ w.heap.size) (h : ∀ k, S k → B ≤ k) : Below B w w1 :=
 ⟨a.os, a.tape, a.output, Step.size a, fun k hk => a.block k (by omega) (fun hh => hh.elim (fun h1 => by have := h k h1; omega) (fun h1 => by omega))⟩
end Go.CW
