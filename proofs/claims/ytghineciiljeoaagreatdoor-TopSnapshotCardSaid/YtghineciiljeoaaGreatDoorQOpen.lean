/- Arguments that came in, read as lists. For every program. -/
import Derived.Test.YtghineciiljeoaaGreatDoorQRec
import Derived.Deep.Slices
import Derived.ChangeArms
set_option linter.unusedVariables false
namespace Go.CW
open Go.RowKit
section
variable {H : Type} {enc : TypeId × Value → H} {P : Program} {w : World} {base : Nat} {spare : Nat → Bool} {held : Bool}
theorem open_rec {α : Type} (E : Enc α) {Q : α → Prop} {t e : TypeId} {fuel : Nat} {v : Value} {x : DataW H × List MemPlace} (ht : P.underlying t = some (.slice e)) (ce : P.cellsOf e = E.s)
 (hel : ∀ n cs x, DataW.trod enc P w base spare held n e cs = some x → ∃ y : α, cs = E.enc y ∧ Q y) (h : DataW.trod enc P w base spare held fuel t [v] = some x) : ∃ L, RdR E w v L ∧ ∀ y ∈ L, Q y := by
 rcases Go.Deep.open_slice ht h with ⟨hv, _⟩ | ⟨a, len, cap, m, n, D, Pl, hv, hb, hl, hm, hmm, rfl, hx⟩
 · simp only [List.cons.injEq, and_true] at hv
   subst hv
   exact ⟨[], RdR.nil w, by simp⟩
 · simp only [List.cons.injEq, and_true] at hv
   subst hv
   have hlm : len ≤ m := by rw [hmm]; split <;> omega
   have each : ∀ i : Nat, ∃ y : Option α, i < len → ∃ z, y = some z ∧ Q z ∧ ∀ k, k < E.s → w.cell? (a.add (i * E.s + k)) = (E.enc z)[k]? := by
    intro i
    by_cases hi : i < len
    · obtain ⟨cs', h1, h2⟩ := hx i (by omega)
      obtain ⟨z, hz, hq⟩ := hel _ _ _ h2
      obtain ⟨_, hlen, hcell⟩ := World.cells?_some h1
      rw [ce] at hcell
      refine ⟨some z, fun _ => ⟨z, rfl, hq, fun k hk => ?_⟩⟩
      have := hcell k hk
      rw [add_add, hz] at this
      exact this
    · exact ⟨none, fun h => absurd h hi⟩
   obtain ⟨f, hf⟩ := Classical.axiomOfChoice each
   have hfl : ∀ i, i < len → ∃ z, ((List.range len).filterMap f)[i]? = some z ∧ f i = some z := by
    intro i hi
    have hall : ∀ n, n ≤ len → ((List.range n).filterMap f).length = n ∧ ∀ j, j < n → ((List.range n).filterMap f)[j]? = f j := by
     intro n
     induction n with
     | zero => intro _; exact ⟨rfl, fun j hj => by omega⟩
     | succ n ih =>
       intro hn
       obtain ⟨i1, i2⟩ := ih (by omega)
       obtain ⟨z, hz, _⟩ := hf n (by omega)
       have e : (List.range (n + 1)).filterMap f = (List.range n).filterMap f ++ [z] := by
        rw [List.range_succ, List.filterMap_append]; simp [hz]
       rw [e]
       refine ⟨by simp [i1], fun j hj => ?_⟩
       by_cases hjn : j < n
       · rw [List.getElem?_append_left (by omega)]; exact i2 j hjn
       · have : j = n := by omega
         subst this
         rw [List.getElem?_append_right (by omega), i1, Nat.sub_self, hz]; rfl
    obtain ⟨z, hz, _⟩ := hf i hi
    exact ⟨z, by rw [(hall len (Nat.le_refl _)).2 i hi, hz], hz⟩
   generalize hL : (List.range len).filterMap f = L at *
   have hLl : L.length = len := by
    have h1 : L.length ≤ len := by rw [← hL]; have := List.length_filterMap_le f (List.range len); simpa using this
    by_cases h0 : len = 0
    · omega
    · obtain ⟨z, hz, _⟩ := hfl (len - 1) (by omega)
      have := (List.getElem?_eq_some_iff.1 hz).1
      omega
   refine ⟨L, ⟨some a, cap, by rw [hLl], by omega, hm, fun hh => (by cases hh), fun j u hj => ⟨a, rfl, ?_⟩⟩, fun y hy => ?_⟩
   · have hjl := (List.getElem?_eq_some_iff.1 hj).1
     rw [Enc.flat_length, hLl] at hjl
     have hi : j / E.s < len := (Nat.div_lt_iff_lt_mul E.pos).2 hjl
     have hjd : j = j / E.s * E.s + j % E.s := (Nat.div_add_mod' j E.s).symm
     have hk := Nat.mod_lt j E.pos
     obtain ⟨z, hz, hfz⟩ := hfl _ hi
     obtain ⟨z', hz', _, hcell⟩ := hf _ hi
     rw [hfz] at hz'
     cases hz'
     have hzl := (List.getElem?_eq_some_iff.1 hz)
     obtain ⟨hzl1, hzl2⟩ := hzl
     have h1 := Enc.flat_at (E := E) L (j / E.s) hzl1 (j % E.s) hk
     have h2 := hcell (j % E.s) hk
     rw [hzl2] at h1
     rw [← hjd] at h1 h2
     rw [h2, ← h1]; exact hj
   · obtain ⟨k, hk, rfl⟩ := List.mem_iff_getElem.1 hy
     obtain ⟨z, hz, hfz⟩ := hfl k (by omega)
     obtain ⟨z', hz', hq, _⟩ := hf k (by omega)
     rw [hfz] at hz'
     cases hz'
     have := (List.getElem?_eq_some_iff.1 hz).2
     rw [this]; exact hq
theorem open_fld {fs : Array Field} {e : TypeId} {n : Nat} {cs : List Value} {x : DataW H × List MemPlace} (he : P.underlying e = some (.struct fs)) (h : DataW.trod enc P w base spare held n e cs = some x) :
 cs.length = P.cellsOf e ∧ ∀ (i : Nat) (f : Field) (k : IntKind), fs[i]? = some f → P.underlying f.type = some (.int k) → P.cellsOf f.type = 1 → ∃ q, cs[f.offset]? = some (.int k q) ∧ Fits k q := by
 obtain ⟨xs, m, _, _, hl, hxs, hf⟩ := DataW.trod_struct he h
 refine ⟨hl, fun i f k hi hk hc => ?_⟩
 have h1 := hf i f hi
 have hlt : i < fs.size := (Array.getElem?_eq_some_iff.1 hi).1
 rw [List.getElem?_eq_getElem (by omega)] at h1
 obtain ⟨q, hq, _, hw⟩ := DataW.trod_int hk h1
 rw [hc] at hq
 refine ⟨q, ?_, Fits.of_wf hw⟩
 have h2 := congrArg (fun l : List Value => l[0]?) hq
 simp only [List.getElem?_take_of_lt (show 0 < 1 by omega), List.getElem?_drop] at h2
 simpa using h2
def chkI (P : Program) : List Field → Nat → List IntKind → Bool
 | [], _, [] => true
 | f :: fs, o, k :: ks => Nat.beq f.offset o && (match P.underlying f.type with | some (.int k') => decide (k' = k) | _ => false) && Nat.beq (P.cellsOf f.type) 1 && chkI P fs (o + 1) ks
 | _, _, _ => false
def intsB (P : Program) (e : TypeId) (ks : List IntKind) : Bool :=
 match P.underlying e with
 | some (.struct fs) => chkI P fs.toList 0 ks && Nat.beq (P.cellsOf e) ks.length
 | _ => false
theorem chkI_at {P : Program} : ∀ {fs : List Field} {o : Nat} {ks : List IntKind}, chkI P fs o ks = true → ∀ (i : Nat) (k : IntKind), ks[i]? = some k → ∃ f, fs[i]? = some f ∧ f.offset = o + i ∧ P.underlying f.type = some (.int k) ∧ P.cellsOf f.type = 1
 | [], _, [], _, i, k, hk => by simp at hk
 | [], _, _ :: _, h, _, _, _ => by simp [chkI] at h
 | _ :: _, _, [], h, _, _, _ => by simp [chkI] at h
 | f :: fs, o, k0 :: ks, h, i, k, hk => by
   simp only [chkI, Bool.and_eq_true, Nat.beq_eq] at h
   obtain ⟨⟨⟨h1, h2⟩, h3⟩, h4⟩ := h
   cases i with
   | zero =>
     simp only [List.getElem?_cons_zero, Option.some.injEq] at hk
     subst hk
     refine ⟨f, rfl, by omega, ?_, h3⟩
     split at h2
     · next k' hu => rw [hu, of_decide_eq_true h2]
     · cases h2
   | succ i =>
     obtain ⟨f', g1, g2, g3, g4⟩ := chkI_at h4 i k (by simpa using hk)
     exact ⟨f', by simpa using g1, by omega, g3, g4⟩
theorem open_intsS {e : TypeId} {ks : List IntKind} (hb : intsB P e ks = true) {n : Nat} {cs : List Value} {x : DataW H × List MemPlace} (h : DataW.trod enc P w base spare held n e cs = some x) :
 cs.length = ks.length ∧ ∀ (i : Nat) (k : IntKind), ks[i]? = some k → ∃ q, cs[i]? = some (.int k q) ∧ Fits k q := by
 unfold intsB at hb
 split at hb
 · next fs hu =>
   simp only [Bool.and_eq_true, Nat.beq_eq] at hb
   obtain ⟨hl, hf⟩ := open_fld hu h
   refine ⟨hl.trans hb.2, fun i k hk => ?_⟩
   obtain ⟨f, g1, g2, g3, g4⟩ := chkI_at hb.1 i k hk
   obtain ⟨q, hq, hfit⟩ := hf i f k (by simpa using g1) g3 g4
   rw [g2, Nat.zero_add] at hq
   exact ⟨q, hq, hfit⟩
 · cases hb
end
end Go.CW
