/- Encode, Decode of pairs. -/
import Derived.Test.YtnibnbobmfejhaaDoorTxtE
import Derived.Lib.AppendStr
set_option linter.unusedVariables false
set_option linter.unusedSimpArgs false
set_option maxRecDepth 100000
namespace Go.Proofs.YtnibnbobmfejhaaDoor
open Go Go.CW Go.RowKit

def encP (p : Pr) : List UInt8 := p.1 ++ [61] ++ p.2 ++ [0]
def encB (L : List Pr) : List UInt8 := L.flatMap encP
/-- may pairs not be, of which these keys were had? -/
def wrongA : List (List UInt8) → List Pr → Bool
  | _, [] => false
  | ks, p :: r => !rightB p || (decide (p.1 ∈ ks) || wrongA (p.1 :: ks) r)

theorem app_textO {w : World} {B : Nat} {v : Value} {bs l : List UInt8} (ho : OwnB w B tb v bs) (hb : bs.length + l.length ≤ 1000000000) (hB : B ≤ w.heap.size) :
    ∃ v' w', Sem.run Tryd.prog (Builtin.append_ #[tB, tS] tB #[v, .string (textOf l)]) w = .ok v' w' ∧ OwnB w' B tb v' (bs ++ l) ∧ Below B w w' := by
  obtain ⟨i, z, hi, hz, hs, hby, hzs⟩ := tyB.info
  have hz0 : i.zero = some (.int .u8 0) := by
    have : (Tryd.prog.info? tb).bind (·.zero) = some (.int .u8 0) := by kernel_rfl
    rw [hi] at this; exact this
  obtain ⟨v', w', k1, k2, k3, _⟩ := Lib.run_append_own_string (P := Tryd.prog) w B tB tS tB tb i tyB.und undS hi hz0 hs hby v _ _ ho (textOf l) (by rw [textOf_size, List.length_map]; simp [maxLen]; omega) (by rw [textOf_size, List.length_map]; omega) hB
  refine ⟨v', w', k1, ?_, (Below.refl B w).grown k3 hB ho.blk⟩
  have e : bs.map b8 ++ Lib.strCells (textOf l) = (bs ++ l).map b8 := by
    simp [Lib.strCells, textOf]
    intros; rfl
  have el : (bs.map b8).length + (textOf l).size = ((bs ++ l).map b8).length := by simp [textOf_size]
  unfold OwnB Own
  rw [← e, List.length_append, Lib.strCells_length]
  exact k2

structure SmP (L : List Pr) : Prop where
  len : L.length ≤ 1000000
  fst : ∀ p ∈ L, p.1.length ≤ 100000
  snd : ∀ p ∈ L, p.2.length ≤ 100000
  tot : (encB L).length ≤ 4096

theorem encB_take (L : List Pr) (i : Nat) (hi : i < L.length) : encB (L.take (i + 1)) = encB (L.take i) ++ encP L[i] := by
  unfold encB
  rw [List.take_add_one, List.getElem?_eq_getElem hi, List.flatMap_append]; simp
theorem encB_le (L : List Pr) (i : Nat) : (encB (L.take i)).length ≤ (encB L).length := by
  conv => rhs; rw [← List.take_append_drop i L]
  unfold encB
  rw [List.flatMap_append, List.length_append]; omega

theorem Encode_c {w : World} {v : Value} {L : List Pr} {R : KV} (hr : RdR EP w v L) (sm : SmP L)
    (k0 : wrongA [] L = true → ∀ w', Grow w w' → R (.tuple #[.slice none 0 0, .int .i64 1]) w')
    (k1 : wrongA [] L = false → ∀ v' w', Grow w w' → RdB w' v' (encB L) → R (.tuple #[v', .int .i64 0]) w') :
    Go.CW.Spec Tryd.prog 10 #[v] w R := by
  apply text_Encode_wp
  obtain ⟨w1, hm1, had1, g1⟩ := had_make w
  have hs1 : w.heap.size < w1.heap.size := had1.lt
  have hlen := sm.len
  refine ⟨_, w1, hm1, L.length, hr.len, ?_⟩
  refine ⟨fun (o : Value) (b : Bool) (i : Int) (ww : World) => 0 ≤ i ∧ i ≤ L.length ∧ Grow w ww ∧ w1.heap.size ≤ ww.heap.size ∧ OwnB ww w1.heap.size tb o (encB (L.take i.toNat)) ∧ ∃ ks, Had ww w.heap.size i.toNat ks ∧ (b || wrongA ks (L.drop i.toNat)) = wrongA [] L,
    fun (o : Value) (b : Bool) (i : Int) (ww : World) => (L.length - i).toNat, ?_, ?_⟩
  · dsimp only
    exact ⟨by omega, by omega, g1, Nat.le_refl _, Own.nil _ _ _, [], had1, by simp⟩
  · dsimp only [allR, mapR2, eqN, ltN]
    rintro m o b i ww ⟨⟨h0, h1, g, hsz, ow, ks, had, hw⟩, hm⟩
    refine cond_intro (fun h2 => JoinP.go ?_) (fun h2 => ?_)
    · simp at h2
      have hi : i.toNat < L.length := by omega
      obtain ⟨a, ha, hc⟩ := (hr.grow g).at h0 (by omega)
      have hmem : L[i.toNat]'hi ∈ L := List.getElem_mem _
      have f1 := sm.fst _ hmem
      have f2 := sm.snd _ hmem
      generalize hp : L[i.toNat]'hi = p at *
      have hdrop : L.drop i.toNat = p :: L.drop (i.toNat + 1) := by rw [List.drop_eq_getElem_cons hi, hp]
      refine ⟨a, ha, textOf p.1, textOf p.2, ⟨rfl, fun j hj => by rw [hc.1 j hj]; simp [EP]⟩, nm fun w15 e15 => ?_⟩
      obtain ⟨b15, g15, s15⟩ := alE e15
      refine ⟨b15.row rfl rfl, nm fun w16 e16 => ?_⟩
      obtain ⟨b16, t16⟩ := rowE b15 e16 rfl
      have g16 : Grow ww w16 := Below.turn g15 t16 (Nat.le_refl _)
      refine JoinP.bool (fun x w' => x = (b || (!rightB p || decide (p.1 ∈ ks))) ∧ Grow ww w' ∧ BK w' ww.heap.size #[.string (textOf p.1), .string (textOf p.2)] tP) (fun j hj => ?_) ?_
      · refine cond_intro (fun h => hj _ _ ⟨by rw [h]; rfl, g16, b16⟩) (fun h => ?_)
        refine ⟨_, _, b16.ld rfl, right_c (by omega) fun w30 g30 => ⟨_, rfl, cond_intro (fun h3 => hj _ _ ⟨?_, g16.then g30, b16.grow g30⟩) (fun h3 => ?_)⟩⟩
        · simp only [Bool.not_eq_true'] at h3
          rw [h, h3]; rfl
        · simp only [Bool.not_eq_false'] at h3
          refine ⟨_, (b16.grow g30).cell 0, _, had_look (had.grow (g16.then g30)) p.1 (by omega), hj _ _ ⟨?_, g16.then g30, b16.grow g30⟩⟩
          rw [h, h3]; rfl
      rintro x w18 ⟨rfl, g18, b18⟩
      obtain ⟨w20, k20, had20, by20⟩ := had_put (had.grow g18) (by omega) p.1 (by omega)
      have hbk : ww.heap.size ≠ w.heap.size := by omega
      have b20 : BK w20 ww.heap.size #[.string (textOf p.1), .string (textOf p.2)] tP := (by20.block _ b18.lt (by simpa using hbk)).trans b18
      have gw20 : Grow w w20 := by
        have gx := g.then g18
        exact ⟨by20.os.trans gx.os, by20.tape.trans gx.tape, by20.output.trans gx.output, Nat.le_trans gx.size by20.size, fun q hq => (by20.block q (Nat.lt_of_lt_of_le hq gx.size) (by simp; omega)).trans (gx.block q hq)⟩
      have ow20 : OwnB w20 w1.heap.size tb o (encB (L.take i.toNat)) := by
        refine World.ownsRow.kept (Own.grow ow g18) by20 (.inr fun e => ?_)
        have := ow.blk _ e
        omega
      have hsz20 : w1.heap.size ≤ w20.heap.size := Nat.le_trans (Nat.le_trans hsz g18.size) by20.size
      have hle := encB_le L i.toNat
      have htot := sm.tot
      refine ⟨_, b18.cell 0, w20, k20, _, RdB.len ow20.rd, cond_t (by simp; omega) ?_⟩
      refine ⟨_, b20.cell 0, by rw [textOf_size]; omega, _, b20.cell 1, ?_⟩
      rw [mk_text #[61], mk_text #[0], textOf_app, textOf_app, textOf_app]
      have hpe : ((p.1 ++ [61]) ++ p.2) ++ [0] = encP p := rfl
      refine ⟨by simp only [textOf_size, List.length_append]; simp; omega, by simp only [textOf_size, List.length_append]; simp; omega, ?_⟩
      show ∃ v24 w25, Sem.run Tryd.prog (Builtin.append_ #[tB, tS] tB #[o, .string (textOf (encP p))]) w20 = .ok v24 w25 ∧ _
      have hle2 := encB_le L (i.toNat + 1)
      rw [encB_take L _ hi, hp, List.length_append] at hle2
      obtain ⟨v24, w25, k25, o25, g25⟩ := app_textO (l := encP p) ow20 (by omega) hsz20
      refine ⟨v24, w25, k25, ?_⟩
      rw [wi64_id (n := i + 1) (by omega) (by omega)]
      have e2 : (i + 1).toNat = i.toNat + 1 := by omega
      have had25 : Had w25 w.heap.size (i.toNat + 1) (p.1 :: ks) := had20.at (g25.block _ hs1)
      refine ⟨⟨by omega, by omega, gw20.trans (g25.mono (by omega)), Nat.le_trans hsz20 g25.size, ?_, p.1 :: ks, ?_, ?_⟩, by omega⟩
      · rw [e2, encB_take L _ hi, hp]; exact o25
      · rw [e2]; exact had25
      · rw [e2, ← hw, hdrop]
        simp only [wrongA]
        cases b <;> cases rightB p <;> cases decide (p.1 ∈ ks) <;> rfl
    · simp at h2
      have hT : L.take i.toNat = L := List.take_of_length_le (by omega)
      have hD : L.drop i.toNat = [] := List.drop_of_length_le (by omega)
      rw [hD] at hw
      simp only [wrongA, Bool.or_false] at hw
      rw [hT] at ow
      have htot := sm.tot
      refine cond_intro (fun h => k0 (by rw [← hw]; exact h) _ g) (fun h => ?_)
      refine ⟨_, RdB.len ow.rd, cond_f (by simp; omega) ?_⟩
      exact slices_Clip_c ow.rd fun v' r' _ => k1 (by rw [← hw]; exact h) _ _ g r'

end Go.Proofs.YtnibnbobmfejhaaDoor
