/- Decode of pairs. -/
import Derived.Test.YtnibnbobmfejhaaDoorTxtF
import Derived.Lib.IndexLaws
import Derived.Lib.IndexBytes
import Derived.Lib.IndexMore
set_option linter.unusedVariables false
set_option linter.unusedSimpArgs false
set_option maxRecDepth 100000
namespace Go.Proofs.YtnibnbobmfejhaaDoor
open Go Go.CW Go.RowKit

/-- the tables, and a variable of the library -/
structure Env (w : World) : Prop where
  tab : Tab w
  mx : ∃ m, w.cell? ⟨2, 0, none⟩ = some (.int .i64 m)
theorem Env.grow {w w' : World} (h : Env w) (g : Grow w w') : Env w' := by
  obtain ⟨m, hm⟩ := h.mx
  refine ⟨h.tab.grow g, m, ?_⟩
  have hlt : 2 < w.heap.size := by
    refine Nat.lt_of_not_le fun hge => ?_
    have h2 : w.heap[(2 : Nat)]? = none := Array.getElem?_eq_none hge
    simp [World.cell?, h2] at hm
  exact (cell_of_heap (a := ⟨2, 0, none⟩) (g.block _ hlt)).trans hm

/-! ### cutting -/
theorem indexByte_hit : ∀ (a b : List UInt8) (c : UInt8), c ∉ a → Lib.indexByte (a ++ c :: b) c = a.length
  | [], b, c, _ => by simp [Lib.indexByte]
  | x :: a, b, c, h => by
    have hx : (x == c) = false := by simp; intro e; exact h (by simp [e])
    have ih := indexByte_hit a b c (fun hm => h (by simp [hm]))
    have hne : ((a.length : Int) == -1) = false := by simp
    rw [List.cons_append]
    unfold Lib.indexByte
    rw [hx, ih, hne]
    simp
theorem indexByte_miss : ∀ (a : List UInt8) (c : UInt8), c ∉ a → Lib.indexByte a c = -1
  | [], c, _ => rfl
  | x :: a, c, h => by
    have hx : (x == c) = false := by simp; intro e; exact h (by simp [e])
    have ih := indexByte_miss a c (fun hm => h (by simp [hm]))
    unfold Lib.indexByte
    rw [hx, ih]
    rfl
theorem cut_hit (a b : List UInt8) (c : UInt8) (h : c ∉ a) : Lib.cut (a ++ c :: b) [c] = (a, b, true) := by
  unfold Lib.cut
  rw [Lib.index_one, indexByte_hit a b c h, if_pos (by omega)]
  have e : ((a.length : Nat) : Int).toNat = a.length := by omega
  rw [e]
  simp

theorem Cut_c {w : World} {a b : List UInt8} {c : UInt8} {R : KV} (h : c ∉ a) (hl : a.length + b.length ≤ 1000000) (hE : Env w)
    (k : ∀ w', Grow w w' → R (.tuple #[.string (textOf a), .string (textOf b), .bool true]) w') : Go.CW.Spec Tryd.prog 26 #[.string (textOf (a ++ c :: b)), .string (textOf [c])] w R := by
  obtain ⟨m, hm⟩ := hE.mx
  refine (Go.Proofs.Tryd.strings_Cut (textOf (a ++ c :: b)) (textOf [c]) m w (by rw [textOf_size]; simp; omega) hm).mono fun e w' ⟨he, n, hw⟩ => ⟨_, he, ?_⟩
  subst hw
  have e1 : Lib.cut (textOf (a ++ c :: b)).data.toList (textOf [c]).data.toList = (a, b, true) := by
    have := cut_hit a b c h
    simpa [textOf] using this
  rw [e1]
  refine k _ ?_
  have h1 := Lib.below_grow w.heap.size w (Nat.le_refl _) n #[]
  have h2 : Go.Sort.grow (w.drewN n) #[] = w.drewN n := by
    generalize w.drewN n = u
    cases u
    simp [Go.Sort.grow]
  rw [h2] at h1
  exact h1

/-! ### Decode -/
theorem sign_not {c : UInt8} (h : signB c = true) : c ≠ 0 ∧ c ≠ 61 := by
  constructor <;> (rintro rfl; revert h; decide)
theorem neg_miss : ∀ {l : List UInt8} {c : UInt8}, Lib.indexByte l c < 0 → c ∉ l := by
  intro l c h hm
  induction l with
  | nil => simp at hm
  | cons x l ih =>
    unfold Lib.indexByte at h
    by_cases hx : x = c
    · subst hx; simp at h
    · have hx' : (x == c) = false := by simpa using hx
      rw [hx'] at h
      have hge := Lib.indexByte_ge l c
      have hml : c ∈ l := by
        rcases List.mem_cons.1 hm with e | e
        · exact absurd e.symm hx
        · exact e
      by_cases hq : Lib.indexByte l c = -1
      · exact ih (by omega) hml
      · simp [hq] at h
        omega

theorem right_facts {p : Pr} (h : rightB p = true) : (0 : UInt8) ∉ p.1 ∧ (61 : UInt8) ∉ p.1 ∧ (0 : UInt8) ∉ p.2 ∧ p.1 ≠ [] := by
  unfold rightB at h
  simp only [Bool.and_eq_true, decide_eq_true_eq, Bool.not_eq_true', decide_eq_false_iff_not] at h
  obtain ⟨h1, _, h3, _, h5⟩ := h
  exact ⟨fun hm => (sign_not (List.all_eq_true.1 h3 _ hm)).1 rfl, fun hm => (sign_not (List.all_eq_true.1 h3 _ hm)).2 rfl, neg_miss h5, h1⟩

theorem clipP_c {w : World} {B : Nat} {v : Value} {L : List Pr} {R : KV} (ho : OwnR EP w B tP v L) (k : ∀ v', RdR EP w v' L → R v' w) : Go.CW.Spec Tryd.prog 27 #[v] w R := by
  have hd := ho.rd
  apply slices_Clip_27_wp
  have hle := hd.le
  refine ⟨_, hd.len, _, hd.len, ?_⟩
  obtain ⟨v', h1, h2⟩ : ∃ v', subSlice v 2 none (some (.int .i64 ((L.length : Nat) : Int))) (some (.int .i64 ((L.length : Nat) : Int))) = some v' ∧ RdR EP w v' L := by
    obtain ⟨a, cap, rfl, q1, q2, q3, q4⟩ := hd
    have h0 : (0 : Int) ≤ (L.length : Int) := by omega
    have e : (L.length : Int) ≤ cap := by omega
    refine ⟨.slice a L.length L.length, ?_, ⟨a, L.length, rfl, Nat.le_refl _, by omega, fun hh => by have := q3 hh; omega, q4⟩⟩
    simp only [subSlice, boundsOf, boundOf, h0, e, and_self, if_true, Int.toNat_natCast, Int.le_refl, Nat.sub_zero, Nat.zero_mul]
    cases a with
    | none =>
      have := q3 rfl
      split <;> simp
    | some a => split <;> simp [add_zero]
  exact ⟨v', h1, k v' h2⟩

theorem Decode_c {w : World} {v : Value} {L : List Pr} {R : KV} (hE : Env w) (hr : RdB w v (encB L)) (sm : SmP L) (hright : ∀ p ∈ L, rightB p = true)
    (k0 : wrongA [] L = true → ∀ w', Grow w w' → R (.tuple #[.slice none 0 0, .int .i64 2]) w')
    (k1 : wrongA [] L = false → ∀ v' w', Grow w w' → RdR EP w' v' L → R (.tuple #[v', .int .i64 0]) w') :
    Go.CW.Spec Tryd.prog 11 #[v] w R := by
  apply text_Decode_wp
  have htot := sm.tot
  have hlen := sm.len
  refine ⟨_, hr.len, cond_f (by simp; omega) ?_⟩
  obtain ⟨w1, hm1, had1, g1⟩ := had_make w
  have hs1 : w.heap.size < w1.heap.size := had1.lt
  refine ⟨_, w1, hm1, _, to_text (hr.grow g1), ?_⟩
  refine ⟨fun (o : Value) (s : ByteArray) (ww : World) => ∃ i : Nat, i ≤ L.length ∧ s = textOf (encB (L.drop i)) ∧ Grow w ww ∧ w1.heap.size ≤ ww.heap.size ∧ OwnR EP ww w1.heap.size tP o (L.take i) ∧ ∃ ks, Had ww w.heap.size i ks ∧ wrongA ks (L.drop i) = wrongA [] L,
    fun (o : Value) (s : ByteArray) (ww : World) => s.size, ?_, ?_⟩
  · dsimp only
    exact ⟨0, by omega, by simp, g1, Nat.le_refl _, OwnR.nil _ _ _, [], had1, by simp⟩
  · dsimp only [allR, mapR2, eqN, ltN]
    rintro m o s ww ⟨⟨i, h1, rfl, g, hsz, ow, ks, had, hw⟩, hm⟩
    by_cases hi : i < L.length
    · have hmem : L[i]'hi ∈ L := List.getElem_mem _
      have f1 := sm.fst _ hmem
      have f2 := sm.snd _ hmem
      have fr := hright _ hmem
      generalize hp : L[i]'hi = p at *
      obtain ⟨r1, r2, r3, r4⟩ := right_facts fr
      have hdrop : L.drop i = p :: L.drop (i + 1) := by rw [List.drop_eq_getElem_cons hi, hp]
      have henc : encB (L.drop i) = (p.1 ++ [61] ++ p.2) ++ 0 :: encB (L.drop (i + 1)) := by rw [hdrop]; simp [encB, encP]
      have hne : encB (L.drop i) ≠ [] := by rw [henc]; simp
      have hszB : (encB (L.drop i)).length ≤ 4096 := by
        have : (encB L).length = (encB (L.take i)).length + (encB (L.drop i)).length := by
          conv => lhs; rw [← List.take_append_drop i L]
          unfold encB
          rw [List.flatMap_append, List.length_append]
        omega
      refine cond_t (by rw [text_eqb]; simpa using hne) ?_
      rw [henc] at hszB hm ⊢
      rw [mk_text #[0], mk_text #[61]]
      simp only [List.length_append, List.length_cons, List.length_nil] at hszB
      refine Cut_c (c := 0) (by simp; exact ⟨r1, r3⟩) (by simp only [List.length_append, List.length_cons, List.length_nil]; omega) (hE.grow g) fun w9 g9 => ⟨_, _, _, rfl, ?_⟩
      have e61 : p.1 ++ [61] ++ p.2 = p.1 ++ 61 :: p.2 := by simp
      rw [e61]
      refine Cut_c (c := 61) r2 (by omega) (hE.grow (g.then g9)) fun w14 g14 => ⟨_, _, _, rfl, nm fun w18 e18 => ?_⟩
      obtain ⟨b18, g18, _⟩ := alE e18
      refine ⟨b18.row rfl rfl, nm fun w19 e19 => ?_⟩
      obtain ⟨b19, t19⟩ := rowE b18 e19 rfl
      have g19 : Grow ww w19 := (g9.then g14).then (Below.turn g18 t19 (Nat.le_refl _))
      refine JoinP.bool (fun x w' => x = decide (p.1 ∈ ks) ∧ Grow ww w' ∧ BK w' w14.heap.size #[.string (textOf p.1), .string (textOf p.2)] tP) (fun j hj => ?_) ?_
      · refine cond_f rfl (cond_f rfl ⟨_, _, b19.ld rfl, right_c (by omega) fun w32 g32 => ⟨_, rfl, cond_f (by rw [fr]; rfl) ⟨_, had_look (had.grow (g19.then g32)) p.1 (by omega), hj _ _ ⟨rfl, g19.then g32, b19.grow g32⟩⟩⟩⟩)
      rintro x w21 ⟨rfl, g21, b21⟩
      refine cond_intro (fun h3 => ?_) (fun h3 => ?_)
      · refine k0 ?_ _ (g.then g21)
        rw [← hw, hdrop]
        simp only [wrongA, fr, h3]
        rfl
      · obtain ⟨w22, k22, had22, by22⟩ := had_put (had.grow g21) (by omega) p.1 (by omega)
        have hszw : w.heap.size < ww.heap.size := Nat.lt_of_lt_of_le hs1 hsz
        have h14 : ww.heap.size ≤ w14.heap.size := (g9.then g14).size
        have b22 : BK w22 w14.heap.size #[.string (textOf p.1), .string (textOf p.2)] tP := (by22.block _ b21.lt (by simp; omega)).trans b21
        have gw22 : Grow w w22 := by
          have gx := g.then g21
          exact ⟨by22.os.trans gx.os, by22.tape.trans gx.tape, by22.output.trans gx.output, Nat.le_trans gx.size by22.size, fun q hq => (by22.block q (Nat.lt_of_lt_of_le hq gx.size) (by simp; omega)).trans (gx.block q hq)⟩
        have ow22 : OwnR EP w22 w1.heap.size tP o (L.take i) := by
          refine (ow.grow g21).stable fun q hq => by22.block q ((ow.grow g21).lt q hq).2 ?_
          have := (ow.lt q hq).1
          simp; omega
        have hsz22 : w1.heap.size ≤ w22.heap.size := Nat.le_trans (Nat.le_trans hsz g21.size) by22.size
        refine ⟨w22, k22, _, _, b22.ld rfl, nm fun w25 e25 => ?_⟩
        obtain ⟨b25, g25, _⟩ := alE e25
        have rd25 : RdR EP w25 (.slice (some ⟨w22.heap.size, 0, none⟩) 1 1) [p] := by
          refine ⟨some ⟨w22.heap.size, 0, none⟩, 1, rfl, by simp, by simp [maxLen], (fun h => (by cases h)), fun q u hq => ⟨_, rfl, ?_⟩⟩
          rw [b25.cell]
          have : EP.flat [p] = [.string (textOf p.1), .string (textOf p.2)] := by simp [Enc.flat, EP]
          rw [this] at hq
          rw [← hq]
          simp
        have tl : (L.take i).length = i := by rw [List.length_take]; omega
        obtain ⟨v26, w27, k27, o27, n27⟩ := app_ownR (E := EP) tyP (ow22.grow g25) rd25 (by rw [tl]; simp; omega) (Nat.le_trans hsz22 g25.size)
        have g27 : Below w1.heap.size w25 w27 := n27.below (Nat.le_trans hsz22 g25.size) fun q hq => ((ow22.grow g25).lt q hq).1
        refine ⟨v26, w27, k27, ⟨i + 1, by omega, rfl, ?_, ?_, ?_, p.1 :: ks, ?_, ?_⟩, ?_⟩
        · exact (gw22.then g25).trans (g27.mono (by omega))
        · exact Nat.le_trans (Nat.le_trans hsz22 g25.size) g27.size
        · rw [List.take_add_one, List.getElem?_eq_getElem hi, hp]; exact o27
        · exact (had22.grow g25).at (g27.block _ hs1)
        · rw [← hw, hdrop]
          simp only [wrongA, fr, h3]
          rfl
        · rw [textOf_size] at hm ⊢
          rw [hm.symm]
          simp only [List.length_append, List.length_cons]; omega
    · have hi' : i = L.length := by omega
      have hD : L.drop i = [] := List.drop_of_length_le (by omega)
      have hT : L.take i = L := List.take_of_length_le (by omega)
      rw [hD] at hw ⊢
      rw [hT] at ow
      refine cond_f (by rw [text_eqb]; rfl) ?_
      exact clipP_c ow fun v' r' => k1 (by rw [← hw]; rfl) _ _ g r'

end Go.Proofs.YtnibnbobmfejhaaDoor
