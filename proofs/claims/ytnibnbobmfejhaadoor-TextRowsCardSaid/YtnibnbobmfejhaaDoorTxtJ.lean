/- Split, Contains, Choose. -/
import Derived.Test.YtnibnbobmfejhaaDoorTxtI
import Derived.Lib.SplitLaws
import Derived.Lib.CountLaws
set_option linter.unusedVariables false
set_option linter.unusedSimpArgs false
set_option maxRecDepth 100000
namespace Go.Proofs.YtnibnbobmfejhaaDoor
open Go Go.CW Go.RowKit

/-! ### texts between commas -/
def consH (c : UInt8) : List (List UInt8) → List (List UInt8)
  | [] => [[c]]
  | h :: t => (c :: h) :: t
def splitC : List UInt8 → List (List UInt8)
  | [] => [[]]
  | c :: l => bif c == 44 then [] :: splitC l else consH c (splitC l)

theorem splitC_hit : ∀ (a b : List UInt8), (44 : UInt8) ∉ a → splitC (a ++ 44 :: b) = a :: splitC b
  | [], b, _ => rfl
  | x :: a, b, h => by
    have hx : (x == 44) = false := by simp; intro e; exact h (by simp [e])
    have ih := splitC_hit a b (fun hm => h (by simp [hm]))
    have e : splitC (x :: (a ++ 44 :: b)) = bif x == 44 then [] :: splitC (a ++ 44 :: b) else consH x (splitC (a ++ 44 :: b)) := rfl
    rw [List.cons_append, e, hx, ih]; rfl
theorem splitC_miss : ∀ (a : List UInt8), (44 : UInt8) ∉ a → splitC a = [a]
  | [], _ => rfl
  | x :: a, h => by
    have hx : (x == 44) = false := by simp; intro e; exact h (by simp [e])
    have ih := splitC_miss a (fun hm => h (by simp [hm]))
    unfold splitC
    rw [hx, ih]; rfl
theorem comma_split : ∀ (l : List UInt8), (44 : UInt8) ∈ l → ∃ a b, l = a ++ 44 :: b ∧ (44 : UInt8) ∉ a
  | [], h => by simp at h
  | x :: l, h => by
    by_cases hx : x = 44
    · exact ⟨[], l, by rw [hx]; rfl, by simp⟩
    · obtain ⟨a, b, h1, h2⟩ := comma_split l (by rcases List.mem_cons.1 h with e | e; exact absurd e.symm hx; exact e)
      exact ⟨x :: a, b, by rw [h1]; rfl, by simp; exact ⟨fun e => hx e.symm, h2⟩⟩
theorem splitC_ne (l : List UInt8) : splitC l ≠ [] := by
  cases l with
  | nil => simp [splitC]
  | cons c l =>
    unfold splitC
    cases c == 44 <;> simp
    cases splitC l <;> simp [consH]
theorem splitC_no : ∀ (l : List UInt8), ∀ s ∈ splitC l, (44 : UInt8) ∉ s
  | [], s, h => by simp [splitC] at h; rw [h]; simp
  | x :: l, s, h => by
    have ih := splitC_no l
    unfold splitC at h
    cases hx : (x == 44) with
    | true =>
      rw [hx, cond_true] at h
      rcases List.mem_cons.1 h with e | e
      · rw [e]; simp
      · exact ih s e
    | false =>
      rw [hx, cond_false] at h
      have hx' : x ≠ 44 := by simpa using hx
      cases hs : splitC l with
      | nil => exact absurd hs (splitC_ne l)
      | cons y t =>
        rw [hs] at h
        rcases List.mem_cons.1 h with e | e
        · rw [e]
          have := ih y (by rw [hs]; simp)
          simp; exact ⟨fun e => hx' e.symm, this⟩
        · exact ih s (by rw [hs]; simp [e])

theorem splitC_len : ∀ (l : List UInt8), ∀ s ∈ splitC l, s.length ≤ l.length
  | [], s, h => by simp [splitC] at h; rw [h]; simp
  | x :: l, s, h => by
    have ih := splitC_len l
    unfold splitC at h
    cases hx : (x == 44) with
    | true =>
      rw [hx, cond_true] at h
      rcases List.mem_cons.1 h with e | e
      · rw [e]; simp
      · have := ih s e; simp; omega
    | false =>
      rw [hx, cond_false] at h
      cases hs : splitC l with
      | nil => exact absurd hs (splitC_ne l)
      | cons y t =>
        rw [hs] at h
        rcases List.mem_cons.1 h with e | e
        · rw [e]
          have := ih y (by rw [hs]; simp)
          simp; exact this
        · have := ih s (by rw [hs]; simp [e]); simp; omega

theorem idxB (l : List UInt8) : Lib.indexB (textOf l) (textOf [44]) = Lib.indexByte l 44 := by
  have : Lib.indexB (textOf l) (textOf [44]) = Lib.index l [44] := by simp [Lib.indexB, textOf]
  rw [this, Lib.index_one]

theorem splitB_eq : ∀ (n : Nat) (l : List UInt8), l.length ≤ n → Lib.splitB (textOf [44]) 0 (Lib.countB (textOf l) (textOf [44])) (textOf l) = (splitC l).map textOf := by
  intro n
  induction n with
  | zero =>
    intro l hl
    have : l = [] := List.eq_nil_of_length_eq_zero (by omega)
    subst this
    rw [Lib.splitB_miss _ _ _ _ (by rw [idxB]; rfl)]; rfl
  | succ n ih =>
    intro l hl
    by_cases h : (44 : UInt8) ∈ l
    · obtain ⟨a, b, rfl, ha⟩ := comma_split l h
      have hi : Lib.indexB (textOf (a ++ 44 :: b)) (textOf [44]) = (a.length : Nat) := by rw [idxB, indexByte_hit a b 44 ha]
      have hs : (textOf [44]).size = 1 := rfl
      rw [Lib.countB_hit _ _ a.length (by rw [hs]; omega) hi, Nat.add_comm 1, Lib.splitB_hit _ _ _ _ a.length hi, splitC_hit a b ha]
      have e1 : (textOf (a ++ 44 :: b)).extract 0 (a.length + 0) = textOf a := by rw [text_extract]; simp
      have e2 : (textOf (a ++ 44 :: b)).extract (a.length + (textOf [44]).size) (textOf (a ++ 44 :: b)).size = textOf b := by
        rw [hs, text_extract, textOf_size]
        congr 1
        rw [List.take_of_length_le (by simp; omega)]
        simp
      rw [e1, e2, ih b (by simp at hl; omega)]
      rfl
    · rw [Lib.splitB_miss _ _ _ _ (by rw [idxB]; exact indexByte_miss l 44 h), splitC_miss l h]; rfl

/-! ### Split -/
def ES : Enc (List UInt8) := ⟨1, fun l => [.string (textOf l)], fun _ => rfl, by omega, fun _ => rfl⟩
theorem ES_flat (L : List (List UInt8)) : ES.flat L = L.map fun l => .string (textOf l) := by
  induction L with
  | nil => rfl
  | cons x L ih => rw [Enc.flat_cons, ih]; rfl

theorem Split_c {w : World} {l : List UInt8} {R : KV} (hE : Env w) (hl : l.length ≤ 1000000) (k : ∀ v w', Grow w w' → RdR ES w' v (splitC l) → R v w') :
    Go.CW.Spec Tryd.prog 28 #[.string (textOf l), .string (textOf [44])] w R := by
  obtain ⟨m, hm⟩ := hE.mx
  refine (Go.Proofs.Tryd.strings_Split (textOf l) (textOf [44]) m w (by rw [textOf_size]; omega) hm (by show 1 ≤ 1; omega)).mono fun e w' ⟨he, hw⟩ => ⟨_, he, ?_⟩
  have hs : (textOf [44]).size = 1 := rfl
  have hn := Lib.splitB_all (textOf [44]) (by rw [hs]; omega) 0 _ (textOf l) rfl
  have hc := Lib.countB_le (textOf [44]) (by rw [hs]; omega) _ (textOf l) (Nat.le_refl _)
  rw [textOf_size] at hc
  rw [splitB_eq _ l (Nat.le_refl _)] at hw hn
  rw [List.length_map] at hn
  obtain ⟨b, g, _⟩ := alE hw
  rw [← hn]
  refine k _ _ g ⟨some ⟨w.heap.size, 0, none⟩, (splitC l).length, rfl, Nat.le_refl _, ?_, (fun h => (by cases h)), fun i u hi => ⟨_, rfl, ?_⟩⟩
  · rw [hn]; simp only [maxLen]; omega
  · rw [b.cell]
    rw [ES_flat] at hi
    simpa using hi

/-! ### Contains -/
theorem ES_cell {w : World} {v : Value} {L : List (List UInt8)} (h : RdR ES w v L) {i : Int} (h0 : 0 ≤ i) (h1 : i < L.length) : ∃ a, sliceAt v i 1 = some a ∧ w.cell? a = some (.string (textOf (L[i.toNat]'(by omega)))) := by
  obtain ⟨a, ha, hc⟩ := h.at h0 h1
  refine ⟨a, ha, ?_⟩
  have := hc.1 0 (by show 0 < 1; omega)
  rw [add_zero] at this
  rw [this]; rfl

theorem Contains_c {w : World} {v : Value} {L : List (List UInt8)} {x : List UInt8} {R : KV} (h : RdR ES w v L) (k : R (.bool (decide (x ∈ L))) w) :
    Go.CW.Spec Tryd.prog 29 #[v, .string (textOf x)] w R := by
  apply slices_Contains_29_wp
  apply slices_Index_41_wp
  have hle := h.le
  refine ⟨_, h.len, ?_⟩
  refine ⟨fun (i : Int) (ww : World) => 0 ≤ i ∧ i ≤ L.length ∧ ww = w ∧ x ∉ L.take i.toNat, fun (i : Int) (ww : World) => (L.length - i).toNat, ?_, ?_⟩
  · dsimp only
    exact ⟨by omega, by omega, rfl, by simp⟩
  · dsimp only [allR, mapR2, eqN, ltN]
    rintro m i ww ⟨⟨h0, h1, rfl, hn⟩, hm⟩
    refine cond_intro (fun h2 => ?_) (fun h2 => ?_)
    · simp at h2
      obtain ⟨a, ha, hc⟩ := ES_cell h h0 (by omega)
      refine ⟨a, ha, _, hc, ?_⟩
      rw [text_beq']
      refine cond_intro (fun h3 => ⟨_, rfl, ?_⟩) (fun h3 => ?_)
      · have hx : x ∈ L := by
          have := of_decide_eq_true h3
          rw [this]; exact List.getElem_mem _
        rw [decide_eq_true hx] at k
        rw [decide_eq_true (by omega)]
        exact k
      · have h3' := of_decide_eq_false h3
        rw [wi64_id (n := i + 1) (by omega) (by omega)]
        refine ⟨⟨by omega, by omega, rfl, ?_⟩, by omega⟩
        have e2 : (i + 1).toNat = i.toNat + 1 := by omega
        rw [e2, List.take_add_one, List.getElem?_eq_getElem (by omega)]
        simp only [Option.toList_some, List.mem_append, List.mem_singleton, not_or]
        exact ⟨hn, h3'⟩
    · simp at h2
      rw [List.take_of_length_le (by omega)] at hn
      rw [decide_eq_false hn] at k
      exact ⟨_, rfl, k⟩

/-! ### Choose -/
def chO (a b : List UInt8) : Option (List UInt8) := (splitC a).find? fun s => decide (s ∈ splitC b)
def chT (a b : List UInt8) : List UInt8 := (chO a b).getD []
def chB (a b : List UInt8) : Bool := (chO a b).isSome

theorem find_here {α : Type} {p : α → Bool} {L : List α} {i : Nat} (hi : i < L.length) (h : (L.take i).find? p = none) (h2 : p L[i] = true) : L.find? p = some L[i] := by
  have e : L = L.take i ++ L[i] :: L.drop (i + 1) := by rw [List.getElem_cons_drop, List.take_append_drop]
  conv => lhs; rw [e]
  rw [List.find?_append, h, Option.none_or, List.find?_cons_of_pos h2]

theorem find_step {α : Type} {p : α → Bool} {L : List α} {i : Nat} (hi : i < L.length) (h : (L.take i).find? p = none) (h2 : p L[i] = false) : (L.take (i + 1)).find? p = none := by
  rw [List.take_add_one, List.getElem?_eq_getElem hi, List.find?_append, h, Option.none_or]
  simp [h2]

theorem Choose_c {w : World} {a b : List UInt8} {R : KV} (hE : Env w) (ha : a.length ≤ 1000000) (hb : b.length ≤ 1000000) (k : ∀ w', Grow w w' → R (.tuple #[.string (textOf (chT a b)), .bool (chB a b)]) w') :
    Go.CW.Spec Tryd.prog 15 #[.string (textOf a), .string (textOf b)] w R := by
  apply text_Choose_wp
  refine Split_c hE hb fun v0 w1 g1 r1 => Split_c (hE.grow g1) ha fun v2 w3 g3 r3 => ⟨_, r3.len, ?_⟩
  have hle := r3.le
  have r1' := RdR.grow r1 g3
  refine ⟨fun (i : Int) (ww : World) => 0 ≤ i ∧ i ≤ (splitC a).length ∧ ww = w3 ∧ ((splitC a).take i.toNat).find? (fun s => decide (s ∈ splitC b)) = none, fun (i : Int) (ww : World) => ((splitC a).length - i).toNat, ?_, ?_⟩
  · dsimp only
    exact ⟨by omega, by omega, rfl, by simp⟩
  · dsimp only [allR, mapR2, eqN, ltN]
    rintro m i ww ⟨⟨h0, h1, rfl, hn⟩, hm⟩
    refine cond_intro (fun h2 => ?_) (fun h2 => ?_)
    · simp at h2
      obtain ⟨ad, had, hc⟩ := ES_cell r3 h0 (by omega)
      refine ⟨ad, had, _, hc, Contains_c r1' ⟨_, rfl, cond_intro (fun h3 => ?_) (fun h3 => ?_)⟩⟩
      · have hf := find_here (p := fun s => decide (s ∈ splitC b)) (by omega) hn h3
        have := k _ (g1.then g3)
        unfold chT chB chO at this
        rw [hf] at this
        exact this
      · rw [wi64_id (n := i + 1) (by omega) (by omega)]
        refine ⟨⟨by omega, by omega, rfl, ?_⟩, by omega⟩
        have e2 : (i + 1).toNat = i.toNat + 1 := by omega
        rw [e2]
        exact find_step (p := fun s => decide (s ∈ splitC b)) (by omega) hn h3
    · simp at h2
      rw [List.take_of_length_le (by omega)] at hn
      have := k _ (g1.then g3)
      unfold chT chB chO at this
      rw [hn] at this
      exact this

end Go.Proofs.YtnibnbobmfejhaaDoor
