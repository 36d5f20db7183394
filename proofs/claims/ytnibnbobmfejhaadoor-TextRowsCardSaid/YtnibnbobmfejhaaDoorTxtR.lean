/- The statement TextRows' contract. -/
import Derived.Test.YtnibnbobmfejhaaDoorTxtJ
import Derived.Test.YtnibnbobmfejhaaDoorGRow
import Derived.Laws.StructEq
set_option linter.unusedVariables false
set_option linter.unusedSimpArgs false
set_option maxRecDepth 100000
namespace Go.Proofs.YtnibnbobmfejhaaDoor
open Go Go.CW Go.RowKit

/-! ### Find -/
def findP (L : List Pr) (key : List UInt8) : Option Pr := L.find? fun p => decide (p.1 = key)

theorem Find_c {w : World} {v : Value} {L : List Pr} {key : List UInt8} {R : KV} (hr : RdR EP w v L)
    (k : ∀ w', Grow w w' → R (.tuple #[.string (textOf (((findP L key).map (·.2)).getD [])), .bool (findP L key).isSome]) w') : Go.CW.Spec Tryd.prog 12 #[v, .string (textOf key)] w R := by
  apply text_Find_wp
  have hle := hr.le
  refine ⟨_, hr.len, ?_⟩
  refine ⟨fun (i : Int) (ww : World) => 0 ≤ i ∧ i ≤ L.length ∧ Grow w ww ∧ (L.take i.toNat).find? (fun p => decide (p.1 = key)) = none, fun (i : Int) (ww : World) => (L.length - i).toNat, ?_, ?_⟩
  · dsimp only
    exact ⟨by omega, by omega, Grow.refl w, by simp⟩
  · dsimp only [allR, mapR2, eqN, ltN]
    rintro m i ww ⟨⟨h0, h1, g, hn⟩, hm⟩
    refine cond_intro (fun h2 => ?_) (fun h2 => ?_)
    · simp at h2
      have hi : i.toNat < L.length := by omega
      obtain ⟨a, ha, hc⟩ := (hr.grow g).at h0 (by omega)
      generalize hp : L[i.toNat]'hi = p at *
      refine ⟨a, ha, textOf p.1, textOf p.2, ⟨rfl, fun j hj => by rw [hc.1 j hj]; simp [EP]⟩, nm fun w7 e7 => ?_⟩
      obtain ⟨b7, g7, _⟩ := alE e7
      refine ⟨b7.row rfl rfl, nm fun w8 e8 => ?_⟩
      obtain ⟨b8, t8⟩ := rowE b7 e8 rfl
      have g8 : Grow ww w8 := Below.turn g7 t8 (Nat.le_refl _)
      refine ⟨_, b8.cell 0, ?_⟩
      rw [text_beq']
      refine cond_intro (fun h3 => ⟨_, b8.cell 1, ?_⟩) (fun h3 => ?_)
      · have hf := find_here (p := fun p : Pr => decide (p.1 = key)) hi hn (by rw [hp]; exact h3)
        have := k _ (g.then g8)
        unfold findP at this
        rw [hf, hp] at this
        exact this
      · rw [wi64_id (n := i + 1) (by omega) (by omega)]
        have e2 : (i + 1).toNat = i.toNat + 1 := by omega
        refine ⟨⟨by omega, by omega, g.then g8, ?_⟩, by omega⟩
        rw [e2]
        exact find_step (p := fun p : Pr => decide (p.1 = key)) hi hn (by rw [hp]; exact h3)
    · simp at h2
      rw [List.take_of_length_le (by omega)] at hn
      have := k _ g
      unfold findP at this
      rw [hn] at this
      exact this

/-! ### the pairs of a list -/
def keyN (i : Nat) : List UInt8 := 107 :: Lib.decDigits i
def prs (l : List (List UInt8)) (n : Nat) : List Pr := (List.range n).map fun i => (keyN i, l.getD i [])
theorem prs_len (l : List (List UInt8)) (n : Nat) : (prs l n).length = n := by simp [prs]
theorem prs_snoc (l : List (List UInt8)) (n : Nat) : prs l (n + 1) = prs l n ++ [(keyN n, l.getD n [])] := by simp [prs, List.range_succ]
theorem prs_at (l : List (List UInt8)) (n i : Nat) (h : i < (prs l n).length) : (prs l n)[i] = (keyN i, l.getD i []) := by simp [prs]
theorem keyN_inj {i j : Nat} (h : keyN i = keyN j) : i = j := digits_inj (List.cons.inj h).2
theorem keyN_len {i : Nat} (h : i < 100) : (keyN i).length ≤ 3 := by
  have := digits_len_le i 2 (by omega) (by omega)
  simp [keyN]; omega
theorem keyN_sign (i : Nat) : (keyN i).all signB = true := by
  rw [List.all_eq_true]
  intro c hc
  rcases List.mem_cons.1 hc with rfl | hc
  · decide
  · have := digits_dig i c hc
    unfold signB
    have e : (decide ((c.toNat : Int) ≥ 48) && decide ((c.toNat : Int) ≤ 57)) = true := by simp; omega
    rw [e]; simp

theorem right_key {i : Nat} {v : List UInt8} (hi : i < 100) (hv : v.length ≤ 100) (h0 : (0 : UInt8) ∉ v) : rightB (keyN i, v) = true := by
  have := keyN_len hi
  unfold rightB
  rw [keyN_sign, indexByte_miss v 0 h0]
  have e1 : decide (keyN i = []) = false := by simp [keyN]
  have e2 : decide (((keyN i).length : Int) ≤ 63) = true := by simp; omega
  have e3 : decide ((v.length : Int) ≤ 255) = true := by simp; omega
  simp only [e1, e2, e3]
  rfl

theorem wrong_no : ∀ (L : List Pr) (ks : List (List UInt8)), (∀ p ∈ L, rightB p = true) → (L.map (·.1)).Nodup → (∀ p ∈ L, p.1 ∉ ks) → wrongA ks L = false
  | [], _, _, _, _ => rfl
  | p :: r, ks, h1, h2, h3 => by
    rw [List.map_cons, List.nodup_cons] at h2
    have ih := wrong_no r (p.1 :: ks) (fun q hq => h1 q (by simp [hq])) h2.2 (fun q hq => by
      simp only [List.mem_cons, not_or]
      exact ⟨fun e => h2.1 (by rw [← e]; exact List.mem_map.2 ⟨q, hq, rfl⟩), h3 q (by simp [hq])⟩)
    simp only [wrongA, h1 p (by simp), ih, h3 p (by simp), decide_false]
    rfl
theorem wrong_dup : ∀ (L : List Pr) (ks : List (List UInt8)) (p : Pr), (p.1 ∈ ks ∨ ∃ q ∈ L, q.1 = p.1) → wrongA ks (L ++ [p]) = true
  | [], ks, p, h => by
    rcases h with h | ⟨q, hq, _⟩
    · simp [wrongA, h]
    · simp at hq
  | q :: r, ks, p, h => by
    have ih : wrongA (q.1 :: ks) (r ++ [p]) = true := wrong_dup r (q.1 :: ks) p (by
      rcases h with h | ⟨x, hx, he⟩
      · exact .inl (by simp [h])
      · rcases List.mem_cons.1 hx with e | e
        · subst e; exact .inl (by simp [he])
        · exact .inr ⟨x, e, he⟩)
    simp [wrongA, ih]

theorem nodup_keys (l : List (List UInt8)) (n : Nat) : ((prs l n).map (·.1)).Nodup := by
  unfold prs
  rw [List.map_map]
  refine List.Pairwise.map _ (fun a b hab => ?_) (List.nodup_range (n := n))
  simp only [Function.comp, ne_eq]
  exact fun e => hab (keyN_inj e)

theorem enc_bound : ∀ (L : List Pr), (∀ p ∈ L, p.1.length ≤ 3 ∧ p.2.length ≤ 100) → (encB L).length ≤ 105 * L.length
  | [], _ => by simp [encB]
  | p :: r, h => by
    have ih := enc_bound r fun q hq => h q (by simp [hq])
    have h1 := h p (by simp)
    have e : encB (p :: r) = encP p ++ encB r := by simp [encB]
    rw [e, List.length_append, List.length_cons]
    have : (encP p).length ≤ 105 := by simp [encP]; omega
    omega

structure Good (l : List (List UInt8)) : Prop where
  len : l.length ≤ 30
  val : ∀ v ∈ l, v.length ≤ 100 ∧ (0 : UInt8) ∉ v

theorem Good.pr {l : List (List UInt8)} (h : Good l) : ∀ p ∈ prs l l.length, rightB p = true ∧ p.1.length ≤ 3 ∧ p.2.length ≤ 100 := by
  intro p hp
  obtain ⟨i, hi, rfl⟩ := List.mem_map.1 hp
  have hi' := List.mem_range.1 hi
  have hl := h.len
  have e : l.getD i [] = l[i]'hi' := by simp [List.getD, hi']
  have hv := h.val _ (List.getElem_mem hi')
  simp only [e]
  exact ⟨right_key (by omega) hv.1 hv.2, keyN_len (by omega), hv.1⟩
theorem Good.sm {l : List (List UInt8)} (h : Good l) : SmP (prs l l.length) := by
  have hl := h.len
  have hb := enc_bound _ fun p hp => (h.pr p hp).2
  rw [prs_len] at hb
  exact ⟨by rw [prs_len]; omega, fun p hp => by have := (h.pr p hp).2; omega, fun p hp => by have := (h.pr p hp).2; omega, by omega⟩
theorem Good.sm1 {l : List (List UInt8)} (h : Good l) {q : Pr} (h1 : q.1.length ≤ 3) (h2 : q.2.length ≤ 100) : SmP (prs l l.length ++ [q]) := by
  have hl := h.len
  have hall : ∀ p ∈ prs l l.length ++ [q], p.1.length ≤ 3 ∧ p.2.length ≤ 100 := fun p hp => by
    rcases List.mem_append.1 hp with e | e
    · exact (h.pr p e).2
    · simp only [List.mem_singleton] at e; subst e; exact ⟨h1, h2⟩
  have hb := enc_bound _ hall
  rw [List.length_append, prs_len] at hb
  simp only [List.length_cons, List.length_nil] at hb
  exact ⟨by rw [List.length_append, prs_len]; simp; omega, fun p hp => by have := hall p hp; omega, fun p hp => by have := hall p hp; omega, by omega⟩
theorem Good.no {l : List (List UInt8)} (h : Good l) : wrongA [] (prs l l.length) = false := wrong_no _ _ (fun p hp => (h.pr p hp).1) (nodup_keys l _) (by simp)

theorem find_pr {l : List (List UInt8)} {n i : Nat} (hi : i < n) : findP (prs l n) (keyN i) = some (keyN i, l.getD i []) := by
  unfold findP
  have hl : i < (prs l n).length := by rw [prs_len]; exact hi
  have h := find_here (p := fun p : Pr => decide (p.1 = keyN i)) (L := prs l n) hl (by
    rw [List.find?_eq_none]
    intro p hp
    obtain ⟨j, hj, rfl⟩ := List.mem_iff_getElem.1 hp
    rw [List.length_take] at hj
    rw [List.getElem_take, prs_at]
    simp only [decide_eq_true_eq]
    exact fun e => by have := keyN_inj e; omega) (by rw [prs_at]; simp)
  rw [h, prs_at]

/-! ### two pairs compared -/
def twoF : List Field → Bool
  | [f, g] => (f.name != "_") && (Nat.beq f.type tS && (Nat.beq f.offset 0 && ((g.name != "_") && (Nat.beq g.type tS && Nat.beq g.offset 1))))
  | _ => false
theorem twoF_iff {fs : List Field} (h : twoF fs = true) : ∃ f g, fs = [f, g] ∧ f.name ≠ "_" ∧ f.type = tS ∧ f.offset = 0 ∧ g.name ≠ "_" ∧ g.type = tS ∧ g.offset = 1 := by
  unfold twoF at h
  split at h
  · rename_i f g
    simp only [Bool.and_eq_true, bne_iff_ne, Nat.beq_eq] at h
    obtain ⟨h1, h2, h3, h4, h5, h6⟩ := h
    exact ⟨f, g, rfl, h1, h2, h3, h4, h5, h6⟩
  · cases h
theorem part0 (w : World) (s t : ByteArray) : Sem.run Tryd.prog (part tS #[.string s, .string t] 0) w = .ok (.string s) w := by kernel_rfl
theorem part1 (w : World) (s t : ByteArray) : Sem.run Tryd.prog (part tS #[.string s, .string t] 1) w = .ok (.string t) w := by kernel_rfl
theorem pair_neq (w : World) (s t : ByteArray) : Sem.run Tryd.prog (binOp BinOp.neq tP (.agg #[.string s, .string t]) (.agg #[.string s, .string t])) w = .ok (.bool false) w := by
  obtain ⟨f, g, hf, f1, f2, f3, g1, g2, g3⟩ := twoF_iff (fs := (Tryd.prog.fieldsOf tP).toList) (by kernel_rfl)
  rw [run_neq_struct, run_equalIn_struct w 9999 tP _ _ (by kernel_rfl) (by kernel_rfl), hf]
  have q1 := run_equalIn_string (P := Tryd.prog) w 9998 tS s s undS
  have q2 := run_equalIn_string (P := Tryd.prog) w 9998 tS t t undS
  have q1' : Sem.run Tryd.prog (Op.equalIn 9999 tS (.string s) (.string s)) w = .ok true w := by rw [q1]; simp
  have q2' : Sem.run Tryd.prog (Op.equalIn 9999 tS (.string t) (.string t)) w = .ok true w := by rw [q2]; simp
  simp only [Op.eqFields, f1, g1, f2, f3, g2, g3, ne_eq, not_false_eq_true, if_true, Sem.run_bind, part0, part1, Result.andThen_ok, q1', q2', Bool.not_true, Bool.false_eq_true, if_false, Sem.run_pure]
theorem pair_guard (w : World) (x y : Operand) (s t s' t' : ByteArray) : Sem.run Tryd.prog (eqGuard BinOp.neq tP x y (.agg #[.string s, .string t]) (.agg #[.string s', .string t'])) w = .ok PUnit.unit w :=
  run_eqGuard_agg w _ tP x y _ _ (by kernel_rfl)

theorem apP {w : World} {B : Nat} {v src : Value} {L M : List Pr} (ho : OwnR EP w B tP v L) (hr : RdR EP w src M) (hl : L.length + M.length ≤ 1000) (hB : B ≤ w.heap.size) :
    ∃ v' w', Sem.run Tryd.prog (Builtin.append_ #[tPs, tPs] tPs #[v, src]) w = .ok v' w' ∧ OwnR EP w' B tP v' (L ++ M) ∧ OwnNext w v w' v' ∧ Below B w w' := by
  obtain ⟨v', w', k1, k2, k3⟩ := app_ownR (E := EP) tyP ho hr (by omega) hB
  exact ⟨v', w', k1, k2, k3, k3.below hB fun q hq => (ho.lt q hq).1⟩

theorem cell_pair {w : World} {v : Value} {L : List Pr} (h : RdR EP w v L) {i : Int} (h0 : 0 ≤ i) (h1 : i < L.length) : ∃ a, sliceAt v i 2 = some a ∧ ∀ w', Grow w w' → ldCells w' a 2 #[.string (textOf (L[i.toNat]'(by omega)).1), .string (textOf (L[i.toNat]'(by omega)).2)] := by
  obtain ⟨a, ha, hc⟩ := h.at h0 h1
  refine ⟨a, ha, fun w' g => ?_⟩
  obtain ⟨a', ha', hc'⟩ := (h.grow g).at h0 h1
  have ea : a' = a := by
    have h1 : sliceAt v i 2 = some a := ha
    have h2 : sliceAt v i 2 = some a' := ha'
    rw [h1] at h2; exact (Option.some.inj h2).symm
  subst ea
  exact ⟨rfl, fun j hj => by rw [hc'.1 j hj]; simp [EP]⟩

end Go.Proofs.YtnibnbobmfejhaaDoor
