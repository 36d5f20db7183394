/- Rows whose elements are structs; what a call may turn: footprints. For every program. -/
import Derived.Test.YtdinpgnjnleioaaGreatDoorKLib
set_option linter.unusedVariables false
namespace Go.CW
open Go.RowKit
structure Enc (α : Type) where
 s : Nat
 enc : α → List Value
 len : ∀ x, (enc x).length = s
 pos : 0 < s
 one : ∀ x, oneL (enc x) = true
variable {α : Type} {E : Enc α}
theorem oneL_mem : ∀ {vs : List Value}, oneL vs = true → ∀ u ∈ vs, u.oneCell' = true
 | [], _, u, hu => by cases hu
 | v :: vs, h, u, hu => by
   simp only [oneL, Bool.and_eq_true] at h
   rcases List.mem_cons.1 hu with rfl | hu
   · cases u <;> first | rfl | (simp [isOne] at h)
   · exact oneL_mem h.2 u hu
def Enc.flat (E : Enc α) (L : List α) : List Value := L.flatMap E.enc
theorem Enc.flat_cons (x : α) (L : List α) : E.flat (x :: L) = E.enc x ++ E.flat L := by simp [Enc.flat]
theorem Enc.flat_append (A B : List α) : E.flat (A ++ B) = E.flat A ++ E.flat B := by simp [Enc.flat]
theorem Enc.flat_length (L : List α) : (E.flat L).length = L.length * E.s := by
 induction L with
 | nil => simp [Enc.flat]
 | cons x L ih => rw [Enc.flat_cons, List.length_append, E.len, ih, List.length_cons, Nat.succ_mul, Nat.add_comm]
theorem Enc.flat_one (L : List α) : ∀ u ∈ E.flat L, u.oneCell' = true := by
 intro u hu
 obtain ⟨x, _, hx⟩ := List.mem_flatMap.1 hu
 exact oneL_mem (E.one x) u hx
theorem Enc.flat_split (L : List α) (n : Nat) : E.flat (L.take n) = (E.flat L).take (n * E.s) ∧ E.flat (L.drop n) = (E.flat L).drop (n * E.s) := by
 induction L generalizing n with
 | nil => simp [Enc.flat]
 | cons x L ih =>
   cases n with
   | zero => simp [Enc.flat]
   | succ n =>
     obtain ⟨h1, h2⟩ := ih n
     rw [List.take_succ_cons, List.drop_succ_cons, Enc.flat_cons, Enc.flat_cons, h1, h2, Nat.succ_mul]
     constructor
     · rw [List.take_append, E.len, Nat.add_sub_cancel, List.take_of_length_le (l := E.enc x) (by rw [E.len]; omega)]
     · rw [List.drop_append, E.len, Nat.add_sub_cancel, List.drop_of_length_le (l := E.enc x) (by rw [E.len]; omega)]; rfl
theorem Enc.flat_at (L : List α) (i : Nat) (hi : i < L.length) (k : Nat) (hk : k < E.s) : (E.flat L)[i * E.s + k]? = (E.enc L[i])[k]? := by
 have h := (Enc.flat_split (E := E) L i).2
 have e : L.drop i = L[i] :: L.drop (i + 1) := by simp
 rw [e, Enc.flat_cons] at h
 rw [← List.getElem?_drop, ← h, List.getElem?_append_left (by rw [E.len]; exact hk)]
theorem Enc.flat_set (L : List α) (i : Nat) (hi : i < L.length) (x : α) : E.flat (L.set i x) = (E.flat L).take (i * E.s) ++ E.enc x ++ (E.flat L).drop (i * E.s + E.s) := by
 rw [List.set_eq_take_append_cons_drop, if_pos hi, Enc.flat_append, Enc.flat_cons, (Enc.flat_split (E := E) L i).1, (Enc.flat_split (E := E) L (i + 1)).2, Nat.succ_mul, List.append_assoc]
def RdR (E : Enc α) (w : World) (v : Value) (L : List α) : Prop :=
 ∃ a cap, v = .slice a L.length cap ∧ L.length ≤ cap ∧ cap ≤ maxLen ∧ (a = none → cap = 0) ∧ ∀ j u, (E.flat L)[j]? = some u → ∃ x, a = some x ∧ w.cell? (x.add j) = some u
theorem RdR.nil (w : World) : RdR E w (.slice none 0 0) [] := ⟨none, 0, rfl, Nat.le_refl _, by simp [maxLen], fun _ => rfl, by simp [Enc.flat]⟩
theorem RdR.len {w : World} {v : Value} {L : List α} (h : RdR E w v L) : sliceLen v = some L.length := by
 obtain ⟨a, cap, rfl, _⟩ := h; rfl
theorem RdR.le {w : World} {v : Value} {L : List α} (h : RdR E w v L) : L.length ≤ 9223372036854775807 := by
 obtain ⟨a, cap, rfl, h1, h2, _⟩ := h; simp only [maxLen] at h2; omega
theorem RdR.kept {w w' : World} {v : Value} {L : List α} (h : RdR E w v L) (hk : ∀ a u, w.cell? a = some u → v.ownBlock = some a.block → w'.cell? a = some u) : RdR E w' v L := by
 obtain ⟨a, cap, rfl, h1, h2, h3, h4⟩ := h
 refine ⟨a, cap, rfl, h1, h2, h3, fun j u hj => ?_⟩
 obtain ⟨x, rfl, hx⟩ := h4 j u hj
 exact ⟨x, rfl, hk _ _ hx (by simp [Value.ownBlock, add_block])⟩
theorem cell_of_heap {w w' : World} {a : Addr} (h : w'.heap[a.block]? = w.heap[a.block]?) : w'.cell? a = w.cell? a := by
 unfold World.cell?; rw [h]
theorem RdR.grow {w w' : World} {v : Value} {L : List α} (h : RdR E w v L) (g : Grow w w') : RdR E w' v L :=
 h.kept fun a _ ha _ => (g.cell (World.block_lt_of_cell? w a ha)).trans ha
theorem RdR.isNil {w : World} {v : Value} {L : List α} (h : RdR E w v L) : ∃ b, isNilS v = some b ∧ (b = true → L = [] ∧ v = .slice none 0 0) := by
 obtain ⟨a, cap, rfl, h1, h2, h3, h4⟩ := h
 refine ⟨a.isNone, rfl, fun hb => ?_⟩
 cases a with
 | some a => simp at hb
 | none =>
   have hc := h3 rfl
   have hx : L = [] := List.eq_nil_of_length_eq_zero (by omega)
   subst hx; subst hc
   exact ⟨rfl, rfl⟩
theorem RdR.at {w : World} {v : Value} {L : List α} (h : RdR E w v L) {i : Int} (h0 : 0 ≤ i) (h1 : i < L.length) :
 ∃ a, sliceAt v i E.s = some a ∧ (∀ k, k < E.s → w.cell? (a.add k) = (E.enc (L[i.toNat]'(by omega)))[k]?) ∧ v.ownBlock = some a.block := by
 obtain ⟨a, cap, rfl, k1, k2, k3, k4⟩ := h
 have hx : ∃ x, a = some x := by
  cases a with
  | none => have := k3 rfl; omega
  | some x => exact ⟨x, rfl⟩
 obtain ⟨x, rfl⟩ := hx
 refine ⟨x.add (i.toNat * E.s), ?_, fun k hk => ?_, by simp [Value.ownBlock, add_block]⟩
 · simp only [sliceAt]
   rw [if_pos (by omega)]
 · have hf := Enc.flat_at (E := E) L i.toNat (by omega) k hk
   have hlt : k < (E.enc (L[i.toNat]'(by omega))).length := by rw [E.len]; exact hk
   rw [List.getElem?_eq_getElem hlt] at hf ⊢
   obtain ⟨x', hx', hc⟩ := k4 _ _ hf
   cases hx'
   rw [add_add]; exact hc
theorem ldCells_of {w : World} {a : Addr} {n : Nat} {vs : List Value} (hl : vs.length = n) (h : ∀ k, k < n → w.cell? (a.add k) = vs[k]?) : ldCells w a n vs.toArray :=
 ⟨by simpa using hl, fun i hi => by rw [h i hi]; simp⟩
theorem RdR.sub {w : World} {v : Value} {L : List α} (h : RdR E w v L) {lo hi : Option Value} {l r : Nat}
 (hb : ∀ cap, L.length ≤ cap → boundsOf L.length cap lo hi none = some (l, r, cap)) (hlr : l ≤ r) (hrx : r ≤ L.length) :
 ∃ v', subSlice v E.s lo hi none = some v' ∧ RdR E w v' ((L.drop l).take (r - l)) ∧ (v'.ownBlock = v.ownBlock) := by
 obtain ⟨a, cap, rfl, h1, h2, h3, h4⟩ := h
 have hb := hb cap h1
 have hlen : ((L.drop l).take (r - l)).length = r - l := by simp; omega
 refine ⟨.slice (if cap = l then a else a.map (·.add (l * E.s))) (r - l) (cap - l), by simp only [subSlice, hb], ⟨if cap = l then a else a.map (·.add (l * E.s)), cap - l, by rw [hlen], by rw [hlen]; omega, by omega, ?_, ?_⟩, ?_⟩
 · intro hn
   by_cases hc : cap = l
   · omega
   · rw [if_neg hc] at hn
     have := h3 (by simpa using hn)
     omega
 · intro j u hj
   rw [(Enc.flat_split (E := E) (L.drop l) (r - l)).1, (Enc.flat_split (E := E) L l).2, List.getElem?_take] at hj
   split at hj
   · next hjl =>
     rw [List.getElem?_drop] at hj
     obtain ⟨x, rfl, hx⟩ := h4 _ _ hj
     have hlt := (List.getElem?_eq_some_iff.1 hj).1
     rw [Enc.flat_length] at hlt
     have : cap ≠ l := by
      intro e
      have : r - l = 0 := by omega
      rw [this] at hjl; omega
     refine ⟨x.add (l * E.s), by simp [this], ?_⟩
     rw [add_add]; exact hx
   · cases hj
 · by_cases hc : cap = l
   · rw [if_pos hc]; cases a <;> rfl
   · rw [if_neg hc]
     cases a with
     | none => rfl
     | some a => simp [Value.ownBlock, add_block]
def OwnR (E : Enc α) (w : World) (B : Nat) (e : TypeId) (v : Value) (L : List α) : Prop := w.ownsRow B e E.s v L.length (E.flat L)
theorem OwnR.rd {w : World} {B : Nat} {e : TypeId} {v : Value} {L : List α} (h : OwnR E w B e v L) : RdR E w v L := by
 rcases h.2 with ⟨rfl, hn⟩ | ⟨g, cap, cur, rfl, hb, hg, hn, hm, hs, ht⟩
 · obtain rfl : L = [] := List.eq_nil_of_length_eq_zero hn
   exact RdR.nil w
 · refine ⟨some ⟨g, 0, none⟩, cap, rfl, hn, hm, fun hh => (by cases hh), fun j u hj => ⟨_, rfl, ?_⟩⟩
   exact World.ownsRow.cells h (g := g) rfl j u hj
theorem OwnR.mono {w : World} {B B' : Nat} {e : TypeId} {v : Value} {L : List α} (h : OwnR E w B e v L) (hB : B' ≤ B) : OwnR E w B' e v L := by
 refine ⟨h.1, ?_⟩
 rcases h.2 with hn | ⟨g, cap, cur, hv, hb, r⟩
 · exact .inl hn
 · exact .inr ⟨g, cap, cur, hv, Nat.le_trans hB hb, r⟩
theorem OwnR.stable {w w' : World} {B : Nat} {e : TypeId} {v : Value} {L : List α} (h : OwnR E w B e v L) (hk : ∀ k, v.ownBlock = some k → w'.heap[k]? = w.heap[k]?) : OwnR E w' B e v L := by
 refine ⟨h.1, ?_⟩
 rcases h.2 with hn | ⟨b, cap, cur, rfl, hb, hg, r⟩
 · exact .inl hn
 · exact .inr ⟨b, cap, cur, rfl, hb, (hk b rfl).trans hg, r⟩
theorem OwnR.lt {w : World} {B : Nat} {e : TypeId} {v : Value} {L : List α} (h : OwnR E w B e v L) : ∀ k, v.ownBlock = some k → B ≤ k ∧ k < w.heap.size := fun k hk => World.ownsRow.lt h k hk
theorem OwnR.grow {w w' : World} {B : Nat} {e : TypeId} {v : Value} {L : List α} (h : OwnR E w B e v L) (g : Grow w w') : OwnR E w' B e v L := h.stable fun k hk => g.block k (h.lt k hk).2
theorem OwnR.nil (w : World) (B : Nat) (e : TypeId) : OwnR E w B e (.slice none 0 0) [] := World.ownsRow_nil w B e E.s
theorem OwnR.lit (w : World) {B : Nat} (hB : B ≤ w.heap.size) (e : TypeId) (L : List α) (n : Nat) (hn : L.length = n) (hm : n ≤ maxLen) :
 OwnR E (w.alloc (.cells (E.flat L).toArray e)) B e (.slice (some ⟨w.heap.size, 0, none⟩) n n) L := by
 subst hn
 have := World.ownsRow_lit (base := B) (e := e) (size := E.s) w (E.flat L).toArray L.length hB hm (by simp [Enc.flat_length])
 simpa [OwnR] using this
theorem OwnR.put {w : World} {B : Nat} {e : TypeId} {v : Value} {L : List α} (h : OwnR E w B e v L) {i : Int} (h0 : 0 ≤ i) (h1 : i < L.length) :
 ∃ a, sliceAt v i E.s = some a ∧ v.ownBlock = some a.block ∧ B ≤ a.block ∧ (∀ k, k < E.s → w.cell? (a.add k) = (E.enc (L[i.toNat]'(by omega)))[k]?) ∧
   (∀ x, StRow w a (E.enc x).toArray ∧ OwnR E (stRow w a (E.enc x).toArray) B e v (L.set i.toNat x)) ∧
   (∀ k, k < E.s → St1 w (a.add k) ∧ ∀ u x, E.enc x = (E.enc (L[i.toNat]'(by omega))).set k u → OwnR E (w.setCell (a.add k) u) B e v (L.set i.toNat x)) := by
 have hrd := h.rd
 rcases h.2 with ⟨rfl, hn⟩ | ⟨g, cap, cur, rfl, hb, hg, hn, hm, hs, ht⟩
 · omega
 have hlen := h.1
 obtain ⟨i, rfl⟩ := Int.eq_ofNat_of_zero_le h0
 have hi : i < L.length := by omega
 obtain ⟨a, ha, hc, hbl⟩ := hrd.at h0 h1
 have ea : a = ⟨g, i * E.s, none⟩ := by
  simp only [sliceAt] at ha
  rw [if_pos (by omega)] at ha
  injection ha with ha
  rw [← ha, ad0]; rfl
 subst ea
 have hk : BK w g cur e := hg
 have hmul : i * E.s + E.s ≤ L.length * E.s := by rw [← Nat.succ_mul]; exact Nat.mul_le_mul_right _ hi
 have hmul2 : L.length * E.s ≤ cap * E.s := Nat.mul_le_mul_right _ hn
 have had : ∀ k, (⟨g, i * E.s, none⟩ : Addr).add k = ⟨g, i * E.s + k, none⟩ := by
  intro k
  unfold Addr.add
  split
  · next h => subst h; rfl
  · rfl
 refine ⟨_, ha, hbl, hb, hc, fun x => ⟨⟨?_, fun k hk' => ?_⟩, ?_⟩, fun k hk' => ⟨?_, fun u x hx => ?_⟩⟩
 · exact E.one x
 · rw [had]
   have hk2 : k < E.s := by simpa [E.len] using hk'
   exact hk.st1 (by omega)
 · have hset := setCells_set (E.enc x) (i * E.s) w cur hk (by rw [E.len]; omega)
   refine ⟨by rw [Enc.flat_length], .inr ⟨g, cap, _, by rw [List.length_set], hb, hset, by rw [List.length_set]; exact hn, hm, ?_, ?_⟩⟩
   · simp [E.len]; omega
   · rw [List.length_set, Int.toNat_natCast, Enc.flat_set L i hi x, E.len]
     simp only
     rw [List.append_assoc, List.take_append, List.take_of_length_le (by simp; omega), List.take_append, List.take_of_length_le (l := E.enc x) (by rw [E.len, List.length_take]; simp; omega)]
     rw [← ht, List.take_take, List.drop_take, List.length_take, E.len, List.append_assoc]
     have e1 : min (i * E.s) (L.length * E.s) = i * E.s := by omega
     have e2 : min (i * E.s) cur.toList.length = i * E.s := by simp; omega
     rw [e1, e2]
     congr 3
     omega
 · rw [had]; exact hk.st1 (by omega)
 · rw [had]
   have hset := hk.set (i * E.s + k) u
   refine ⟨by rw [Enc.flat_length], .inr ⟨g, cap, _, by rw [List.length_set], hb, hset, by rw [List.length_set]; exact hn, hm, by simpa using hs, ?_⟩⟩
   rw [List.length_set, Int.toNat_natCast, Enc.flat_set L i hi x, hx, Array.toList_setIfInBounds, List.take_set, ht]
   have hfl := Enc.flat_length (E := E) L
   apply List.ext_getElem?
   intro j
   by_cases hj : j < i * E.s
   · rw [List.getElem?_set_ne (by omega), List.append_assoc, List.getElem?_append_left (by simp; omega), List.getElem?_take_of_lt hj]
   · by_cases hj2 : j < i * E.s + E.s
     · rw [List.append_assoc, List.getElem?_append_right (by simp; omega), List.getElem?_append_left (by simp [E.len]; omega)]
       have e3 : j - ((E.flat L).take (i * E.s)).length = j - i * E.s := by simp; omega
       rw [e3]
       by_cases hj3 : j = i * E.s + k
       · subst hj3
         rw [List.getElem?_set_self (by omega)]
         have e4 : i * E.s + k - i * E.s = k := by omega
         rw [e4, List.getElem?_set_self (by rw [E.len]; exact hk')]
       · rw [List.getElem?_set_ne (by omega), List.getElem?_set_ne (by omega)]
         have := Enc.flat_at (E := E) L i hi (j - i * E.s) (by omega)
         refine Eq.trans ?_ this
         congr 1; omega
     · rw [List.getElem?_set_ne (by omega), List.getElem?_append_right (by simp [E.len]; omega), List.getElem?_drop]
       congr 1
       simp [E.len]; omega
structure SlTyN (P : Program) (t e : TypeId) (s b : Nat) : Prop where
 und : P.underlying t = some (.slice e)
 info : ∃ i z, P.info? e = some i ∧ i.zero = some z ∧ i.size = s ∧ i.bytes = b ∧ z.cells.size = s
def slTyNB (P : Program) (t e : TypeId) (s b : Nat) : Bool :=
 match P.underlying t, P.info? e with
 | some (.slice e'), some i => match i.zero with
   | some z => Nat.beq e' e && Nat.beq i.size s && Nat.beq i.bytes b && Nat.beq z.cells.size s
   | none => false
 | _, _ => false
theorem SlTyN.of {P : Program} {t e : TypeId} {s b : Nat} (h : slTyNB P t e s b = true) : SlTyN P t e s b := by
 unfold slTyNB at h
 split at h
 · next e' i h1 h2 =>
   split at h
   · next z h3 =>
     simp only [Bool.and_eq_true, Nat.beq_eq] at h
     obtain ⟨⟨⟨rfl, k1⟩, k2⟩, k3⟩ := h
     exact ⟨h1, i, z, h2, h3, k1, k2, k3⟩
   · cases h
 · cases h
theorem app_ownR {P : Program} {t e : TypeId} {b : Nat} (T : SlTyN P t e E.s b) {w : World} {B : Nat} {v src : Value} {L M : List α} (ho : OwnR E w B e v L) (hr : RdR E w src M)
 (hb : (L.length + M.length) * (b + 1) ≤ 140737488355328) (hB : B ≤ w.heap.size) :
 ∃ v' w', Sem.run P (Builtin.append_ #[t, t] t #[v, src]) w = .ok v' w' ∧ OwnR E w' B e v' (L ++ M) ∧ OwnNext w v w' v' := by
 obtain ⟨i, z, hi, hz, hs, hby, hzs⟩ := T.info
 have hb' : L.length + M.length ≤ 140737488355328 := Nat.le_trans (Nat.le_mul_of_pos_right _ (by omega)) hb
 have hb2 : (L.length + M.length) * b ≤ 140737488355328 := Nat.le_trans (Nat.mul_le_mul_left _ (by omega)) hb
 obtain ⟨a, cap, rfl, k1, k2, k3, k4⟩ := hr
 cases a with
 | none =>
   have hc := k3 rfl
   obtain rfl : M = [] := List.eq_nil_of_length_eq_zero (by omega)
   subst hc
   refine ⟨v, w, run_append_owned_none w B t t e i E.s T.und hi v _ _ ho, ?_, OwnNext.refl _ _⟩
   simpa using ho
 | some a =>
   obtain ⟨v', w', hr, ho', hg, _, hat⟩ := run_append_own_at (P := P) w B t t e i z E.s b T.und hi hz hs hby hzs E.pos v L.length _ ho a M.length cap (E.flat M) (Enc.flat_length M)
    (fun j u hj => by obtain ⟨x, hx, hc⟩ := k4 j u hj; cases hx; exact hc) (Enc.flat_one M) (by simp only [maxLen]; omega) hb2 hB
   refine ⟨v', w', hr, ?_, hg, hat.imp id fun h g hg => by rw [h] at hg; cases hg; exact Nat.le_refl _⟩
   rw [← Enc.flat_append] at ho'
   simpa [OwnR, List.length_append] using ho'
abbrev Fp := Nat → Prop
structure Step (S : Fp) (w w' : World) (S' : Fp) : Prop where
 os : w'.os = w.os
 tape : w'.tape = w.tape
 output : w'.output = w.output
 size : w.heap.size ≤ w'.heap.size
 block : ∀ k, k < w.heap.size → ¬ S k → w'.heap[k]? = w.heap[k]?
 fp : ∀ k, S' k → S k ∨ w.heap.size ≤ k
theorem Step.refl (S : Fp) (w : World) : Step S w w S := ⟨rfl, rfl, rfl, Nat.le_refl _, fun _ _ _ => rfl, fun _ h => .inl h⟩
theorem Step.then {S S1 S2 : Fp} {w w1 w2 : World} (a : Step S w w1 S1) (b : Step S1 w1 w2 S2) : Step S w w2 S2 := by
 refine ⟨b.os.trans a.os, b.tape.trans a.tape, b.output.trans a.output, Nat.le_trans a.size b.size, fun k hk hs => ?_, fun k hk => ?_⟩
 · refine (b.block k (Nat.lt_of_lt_of_le hk a.size) fun h1 => ?_).trans (a.block k hk hs)
   rcases a.fp k h1 with h | h
   · exact hs h
   · omega
 · rcases b.fp k hk with h | h
   · exact a.fp k h
   · exact .inr (Nat.le_trans a.size h)
theorem Step.of_grow {S : Fp} {w w' : World} (g : Grow w w') : Step S w w' S := ⟨g.os, g.tape, g.output, g.size, fun k hk _ => g.block k hk, fun _ h => .inl h⟩
theorem Step.to_below {S S' : Fp} {w w' : World} {B : Nat} (a : Step S w w' S') (hB : B ≤ w.heap.size) (h : ∀ k, S k → B ≤ k) : Below B w w' :=
 ⟨a.os, a.tape, a.output, a.size, fun k hk => a.block k (by omega) (fun hs => by have := h k hs; omega)⟩
theorem Step.imp {S S' T T' : Fp} {w w' : World} (a : Step S w w' S') (h : ∀ k, S k → T k) (h' : ∀ k, T' k → T k ∨ w.heap.size ≤ k) : Step T w w' T' :=
 ⟨a.os, a.tape, a.output, a.size, fun k hk hs => a.block k hk (fun hh => hs (h k hh)), h'⟩
theorem Step.setA {S : Fp} (w : World) (a : Addr) (v : Value) (h : S a.block) : Step S w (w.setCell a v) S :=
 ⟨rfl, rfl, rfl, by simp [World.setCell], fun k _ hs => Below.heap_setCell w a v k (fun e => hs (e ▸ h)), fun _ h => .inl h⟩
theorem setCells_fields (b : Nat) : ∀ (vs : List Value) (o : Nat) (w : World), (w.setCells b o vs).os = w.os ∧ (w.setCells b o vs).tape = w.tape ∧ (w.setCells b o vs).output = w.output ∧ (w.setCells b o vs).heap.size = w.heap.size := by
 intro vs
 induction vs with
 | nil => intro o w; exact ⟨rfl, rfl, rfl, rfl⟩
 | cons v vs ih =>
   intro o w
   obtain ⟨h1, h2, h3, h4⟩ := ih (o + 1) (w.setCell ⟨b, o, none⟩ v)
   exact ⟨h1, h2, h3, h4.trans (by simp [World.setCell])⟩
theorem Step.row {S : Fp} (w : World) (a : Addr) (cs : Array Value) (h : S a.block) : Step S w (stRow w a cs) S := by
 obtain ⟨h1, h2, h3, h4⟩ := setCells_fields a.block cs.toList a.off w
 exact ⟨h1, h2, h3, Nat.le_of_eq h4.symm, fun k _ hs => heap_setCells_ne a.block k (fun e => hs (e ▸ h)) _ _ _, fun _ h => .inl h⟩
theorem Step.of_own {S : Fp} {w w' : World} {v v' : Value} (n : OwnNext w v w' v') (h : ∀ k, v.ownBlock = some k → S k) : Step S w w' (fun k => S k ∨ v'.ownBlock = some k) :=
 ⟨n.by_.os, n.by_.tape, n.by_.output, n.by_.size, fun k hk hs => n.by_.block k hk (fun e => hs (h k e.symm)), fun k hk => by
  rcases hk with hk | hk
  · exact .inl hk
  · rcases n.at_ with e | e
    · exact .inl (h k (e ▸ hk))
    · exact .inr (e k hk)⟩
theorem withAddr_some {a : Addr} {K : Addr → Prop} (h : K a) : withAddr (.pointer (some a)) K := h
end Go.CW
