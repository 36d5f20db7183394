/- A round of two ends; known; the law ConnBytes. -/
import Derived.Test.YtnmofoekabbjlaaConI
set_option linter.unusedVariables false
set_option linter.unusedSimpArgs false
set_option maxRecDepth 100000
namespace Go.Proofs.Ytnmofoekabbjlaa
open Go Go.CW Go.RowKit Go.Crc

theorem tickC_fits {c : Cs} (h : CsFits c) : CsFits (tickC c) := ⟨h.own, h.peer, h.base, h.got, by show (0 : Int) ≤ 0; omega, by show (0 : Int) ≤ _; omega, h.out, h.inn⟩
theorem inC_fits {c : Cs} {p : Pk} (h : CsFits c) (hp : PkFits p) : CsFits (inC c p) := by
  unfold inC
  split
  · exact h
  · split
    · exact ⟨h.own, h.peer, h.base, h.got, h.s0, h.s1, h.out, h.inn⟩
    · split
      · exact ⟨h.own, hp.life, h.base, h.got, h.s0, h.s1, h.out, h.inn⟩
      · exact takeC_fits (c := { c with say := c.say || !c.met || p.k == 1, peer := p.life, known := true, met := true }) ⟨h.own, hp.life, h.base, h.got, h.s0, h.s1, h.out, h.inn⟩ _ _ _ hp.ack
theorem fold_fits : ∀ (l : List Pk) {c : Cs}, CsFits c → (∀ p ∈ l, PkFits p) → CsFits (l.foldl inC c)
  | [], _, h, _ => h
  | p :: l, _, h, hp => fold_fits l (inC_fits h (hp p (by simp))) (fun q hq => hp q (by simp [hq]))

structure Two (w : World) (ga gb : Nat) (voa via vob vib : Value) (ca cb : Cs) : Prop where
  a : Cn w ga voa via ca
  b : Cn w gb vob vib cb
  ap : Apart (fpC ga voa via) (fpC gb vob vib)
  fa : CsFits ca
  fb : CsFits cb

theorem Two.grow {w w' : World} {ga gb : Nat} {voa via vob vib : Value} {ca cb : Cs} (h : Two w ga gb voa via vob vib ca cb) (g : Grow w w') : Two w' ga gb voa via vob vib ca cb := ⟨h.a.grow g, h.b.grow g, h.ap, h.fa, h.fb⟩
theorem Two.stepA {w w' : World} {ga gb : Nat} {voa via vob vib voa' via' : Value} {ca cb ca' : Cs} (h : Two w ga gb voa via vob vib ca cb) (st : Step (fpC ga voa via) w w' (fpC ga voa' via')) (hc : Cn w' ga voa' via' ca') (hf : CsFits ca') : Two w' ga gb voa' via' vob vib ca' cb :=
  ⟨hc, h.b.stepS st h.ap.symm, (h.ap.symm.step h.b.isIn st).symm, hf, h.fb⟩
theorem Two.stepB {w w' : World} {ga gb : Nat} {voa via vob vib vob' vib' : Value} {ca cb cb' : Cs} (h : Two w ga gb voa via vob vib ca cb) (st : Step (fpC gb vob vib) w w' (fpC gb vob' vib')) (hc : Cn w' gb vob' vib' cb') (hf : CsFits cb') : Two w' ga gb voa via vob' vib' ca cb' :=
  ⟨h.a.stepS st h.ap, hc, h.ap.step h.a.isIn st, h.fa, hf⟩
theorem Two.isIn {w : World} {ga gb : Nat} {voa via vob vib : Value} {ca cb : Cs} (h : Two w ga gb voa via vob vib ca cb) : ∀ q, Both (fpC ga voa via) (fpC gb vob vib) q → q < w.heap.size := by
  rintro q (hq | hq)
  · exact h.a.isIn q hq
  · exact h.b.isIn q hq

theorem round_c {w : World} {ga gb : Nat} {voa via vob vib : Value} {ca cb : Cs} {R : KV} (h : Two w ga gb voa via vob vib ca cb)
    (k : ∀ voa' via' vob' vib' w', Step (Both (fpC ga voa via) (fpC gb vob vib)) w w' (Both (fpC ga voa' via') (fpC gb vob' vib')) → Two w' ga gb voa' via' vob' vib' (roundC (ca, cb)).1 (roundC (ca, cb)).2 → R (.tuple #[]) w') : Go.CW.Spec Try.prog 8 #[.pointer (some ⟨ga, 0, none⟩), .pointer (some ⟨gb, 0, none⟩)] w R := by
  apply gemellaw18_round_wp
  refine Tick_c h.a fun w1 s1 h1 => ⟨rfl, ?_⟩
  have t1 := h.stepA s1 h1 (tickC_fits h.fa)
  refine Tick_c t1.b fun w3 s3 h3 => ⟨rfl, ?_⟩
  have t3 := t1.stepB s3 h3 (tickC_fits h.fb)
  obtain ⟨fa, pa⟩ := outC_keep t3.fa
  obtain ⟨fb, pb⟩ := outC_keep t3.fb
  refine Out_c t3.a t3.fa fun v4 w5 s5 h5 x5 => ?_
  have t5 := t3.stepA s5 h5 fa
  have x5 := x5.imp (T := Both (fpC ga voa via) (fpC gb vob vib)) (fun q hq => t3.isIn q hq)
  refine Out_c t5.b t3.fb fun v6 w7 s7 h7 y7 => ?_
  have t7 := t5.stepB s7 h7 fb
  have x7 := x5.step s7.right
  have y7 := y7.imp (T := Both (fpC ga voa via) (fpC gb vob vib)) (fun q hq => t5.isIn q hq)
  have sA : Step (Both (fpC ga voa via) (fpC gb vob vib)) w w7 (Both (fpC ga voa via) (fpC gb vob vib)) := s1.left.then (s3.right.then (s5.left.then s7.right))
  have hr : roundC (ca, cb) = ((outC (tickC cb)).1.foldl inC (outC (tickC ca)).2, (outC (tickC ca)).1.foldl inC (outC (tickC cb)).2) := rfl
  rw [hr] at k
  clear hr x5
  generalize outC (tickC ca) = oa at *
  generalize outC (tickC cb) = ob at *
  have la : (oa.1.map Pk.enc).length = oa.1.length := List.length_map _
  have lb : (ob.1.map Pk.enc).length = ob.1.length := List.length_map _
  refine ⟨fun (i : Int) (ww : World) => 0 ≤ i ∧ i ≤ oa.1.length ∧ ∃ vob' vib', Step (Both (fpC ga voa via) (fpC gb vob vib)) w ww (Both (fpC ga voa via) (fpC gb vob' vib')) ∧ Two ww ga gb voa via vob' vib' oa.2 ((oa.1.take i.toNat).foldl inC ob.2) ∧ RowsX (Both (fpC ga voa via) (fpC gb vob' vib')) ww v4 (oa.1.map Pk.enc) ∧ RowsX (Both (fpC ga voa via) (fpC gb vob' vib')) ww v6 (ob.1.map Pk.enc), fun (i : Int) (_ : World) => ((oa.1.length : Int) - i).toNat, ⟨by omega, by omega, vob, vib, sA, t7, x7, y7⟩, ?_⟩
  dsimp only [allR, mapR2, eqN, ltN]
  rintro m i ww ⟨⟨i0, i1, vob', vib', sW, tW, xW, yW⟩, hm⟩
  have hlx : oa.1.length ≤ 9223372036854775807 := by
    obtain ⟨vs, q1, q2, _⟩ := xW
    have := q1.1.le
    omega
  refine ⟨_, xW.len, cond_intro (fun d => ?_) (fun d => ?_)⟩
  · simp only [decide_eq_true_eq, la] at d
    obtain ⟨a, u, ha, hc, hu⟩ := xW.at i0 (by rw [la]; exact d)
    have hp : oa.1[i.toNat]'(by omega) ∈ oa.1 := List.getElem_mem _
    have hu : RdB ww u (oa.1[i.toNat]'(by omega)).enc := by have := hu.1; rwa [List.getElem_map] at this
    refine ⟨a, ha, u, hc, In_c tW.b tW.fb (pa _ hp) hu fun vob2 vib2 w2 s2 h2 => ⟨rfl, ?_⟩⟩
    rw [wi64_id (n := i + 1) (by omega) (by omega)]
    have e : (i + 1).toNat = i.toNat + 1 := by omega
    have ef : (oa.1.take (i + 1).toNat).foldl inC ob.2 = inC ((oa.1.take i.toNat).foldl inC ob.2) (oa.1[i.toNat]'(by omega)) := by
      rw [e, List.take_add_one, List.getElem?_eq_getElem (by omega), List.foldl_append]; rfl
    refine ⟨⟨by omega, by omega, vob2, vib2, sW.then s2.right, ?_, xW.step s2.right, yW.step s2.right⟩, by omega⟩
    rw [ef]
    exact tW.stepB s2 h2 (inC_fits tW.fb (pa _ hp))
  simp only [decide_eq_false_iff_not, la] at d
  have ei : oa.1.take i.toNat = oa.1 := List.take_of_length_le (by omega)
  rw [ei] at tW
  refine ⟨fun (i : Int) (w2 : World) => 0 ≤ i ∧ i ≤ ob.1.length ∧ ∃ voa' via', Step (Both (fpC ga voa via) (fpC gb vob vib)) w w2 (Both (fpC ga voa' via') (fpC gb vob' vib')) ∧ Two w2 ga gb voa' via' vob' vib' ((ob.1.take i.toNat).foldl inC oa.2) (oa.1.foldl inC ob.2) ∧ RowsX (Both (fpC ga voa' via') (fpC gb vob' vib')) w2 v6 (ob.1.map Pk.enc), fun (i : Int) (_ : World) => ((ob.1.length : Int) - i).toNat, ⟨by omega, by omega, voa, via, sW, tW, yW⟩, ?_⟩
  dsimp only [allR, mapR2, eqN, ltN]
  rintro m2 i w2 ⟨⟨i0, i1, voa', via', sV, tV, yV⟩, hm2⟩
  have hly : ob.1.length ≤ 9223372036854775807 := by
    obtain ⟨vs, q1, q2, _⟩ := yV
    have := q1.1.le
    omega
  refine ⟨_, yV.len, cond_intro (fun d => ?_) (fun d => ?_)⟩
  · simp only [decide_eq_true_eq, lb] at d
    obtain ⟨a, u, ha, hc, hu⟩ := yV.at i0 (by rw [lb]; exact d)
    have hp : ob.1[i.toNat]'(by omega) ∈ ob.1 := List.getElem_mem _
    have hu : RdB w2 u (ob.1[i.toNat]'(by omega)).enc := by have := hu.1; rwa [List.getElem_map] at this
    refine ⟨a, ha, u, hc, In_c tV.a tV.fa (pb _ hp) hu fun voa2 via2 w3 s2 h2 => ⟨rfl, ?_⟩⟩
    rw [wi64_id (n := i + 1) (by omega) (by omega)]
    have e : (i + 1).toNat = i.toNat + 1 := by omega
    have ef : (ob.1.take (i + 1).toNat).foldl inC oa.2 = inC ((ob.1.take i.toNat).foldl inC oa.2) (ob.1[i.toNat]'(by omega)) := by
      rw [e, List.take_add_one, List.getElem?_eq_getElem (by omega), List.foldl_append]; rfl
    refine ⟨⟨by omega, by omega, voa2, via2, sV.then s2.left, ?_, yV.step s2.left⟩, by omega⟩
    rw [ef]
    exact tV.stepA s2 h2 (inC_fits tV.fa (pb _ hp))
  · simp only [decide_eq_false_iff_not, lb] at d
    have ei : ob.1.take i.toNat = ob.1 := List.take_of_length_le (by omega)
    rw [ei] at tV
    exact k voa' via' vob' vib' w2 sV tV

/-- two ends and what came, all of it laid from block B on -/
def Sys (B n : Nat) (w : World) (ga gb : Nat) (v : Value) (s : Cs × Cs × List UInt8) : Prop :=
  ∃ voa via vob vib, Two w ga gb voa via vob vib s.1 s.2.1 ∧ OwnB w B tb v s.2.2 ∧ (∀ q, v.ownBlock = some q → ¬ Both (fpC ga voa via) (fpC gb vob vib) q) ∧ (∀ q, Both (fpC ga voa via) (fpC gb vob vib) q → B ≤ q) ∧ s.2.2.length ≤ 4096 * n

theorem Sys.grow {B n : Nat} {w w' : World} {ga gb : Nat} {v : Value} {s : Cs × Cs × List UInt8} (h : Sys B n w ga gb v s) (g : Grow w w') : Sys B n w' ga gb v s := by
  obtain ⟨voa, via, vob, vib, h1, h2, h3, h4, h5⟩ := h
  exact ⟨voa, via, vob, vib, h1.grow g, h2.grow g, h3, h4, h5⟩

/-- a round, and what came is taken -/
theorem body_c {B n : Nat} {w : World} {ga gb : Nat} {v : Value} {s : Cs × Cs × List UInt8} {J : Value → World → Prop} (h : Sys B n w ga gb v s) (hB : B ≤ w.heap.size) (hn : n ≤ 1000)
    (k : ∀ v' w', Below B w w' → Sys B (n + 1) w' ga gb v' (stepC s) → J v' w') :
    Go.CW.Spec Try.prog 8 #[.pointer (some ⟨ga, 0, none⟩), .pointer (some ⟨gb, 0, none⟩)] w fun v33 w34 => ((v33 : Value) = (.tuple #[])) ∧ Go.CW.Spec Try.prog 9 #[.pointer (some ⟨gb, 0, none⟩)] w34 fun v35 w36 =>
      ∃ (v37 : Value) (w38 : World), Sem.run Try.prog (Builtin.append_ #[tB, tB] tB #[v, v35]) w36 = .ok v37 w38 ∧ J v37 w38 := by
  obtain ⟨voa, via, vob, vib, h1, h2, h3, h4, h5⟩ := h
  refine round_c h1 fun voa' via' vob' vib' w34 s34 t34 => ⟨rfl, ?_⟩
  have o34 := h2.stepS s34 h3
  have h34 : ∀ q, v.ownBlock = some q → ¬ Both (fpC ga voa' via') (fpC gb vob' vib') q := fun q hq hs => by
    rcases s34.fp q hs with e | e
    · exact h3 q hq e
    · have := h2.ltS q hq; omega
  have hge : ∀ q, Both (fpC ga voa' via') (fpC gb vob' vib') q → B ≤ q := fun q hs => by
    rcases s34.fp q hs with e | e
    · exact h4 q e
    · omega
  have b34 : Below B w w34 := s34.to_below hB h4
  refine Recv_c t34.b fun v35 w36 s36 c36 x36 hb36 => ?_
  have hinn := t34.fb.inn
  have fb : CsFits { (roundC (s.1, s.2.1)).2 with inn := [] } := ⟨t34.fb.own, t34.fb.peer, t34.fb.base, t34.fb.got, t34.fb.s0, t34.fb.s1, t34.fb.out, by simp⟩
  have t36 := t34.stepB s36 c36 fb
  have o36 := o34.stepS s36 (fun q hq hs => h34 q hq (.inr hs))
  have b36 : Below B w34 w36 := s36.to_below (Nat.le_trans hB b34.size) (fun q hq => hge q (.inr hq))
  have hB36 : B ≤ w36.heap.size := Nat.le_trans (Nat.le_trans hB b34.size) b36.size
  obtain ⟨v37, w38, k37, o37, n37⟩ := app_bytes o36 x36.1 hB36 (by omega)
  have b38 : Below B w36 w38 := n37.below hB36 o36.blk
  have s38 : Step (fun q => v.ownBlock = some q) w36 w38 (fun q => v.ownBlock = some q ∨ v37.ownBlock = some q) := Step.of_own n37 (fun q hq => hq)
  have hs36 : ∀ q, Both (fpC ga voa' via') (fpC gb vob' (.slice none 0 0)) q → Both (fpC ga voa' via') (fpC gb vob' vib') q := by
    rintro q (hq | hq | hq | hq)
    · exact .inl hq
    · exact .inr (.inl hq)
    · exact .inr (.inr (.inl hq))
    · cases hq
  refine ⟨v37, w38, k37, k v37 w38 ((b34.trans b36).trans b38) ⟨voa', via', vob', .slice none 0 0, ?_, o37, ?_, fun q hq => hge q (hs36 q hq), ?_⟩⟩
  · exact ⟨t36.a.stepS s38 (fun q hq e => h34 q e (.inl hq)), t36.b.stepS s38 (fun q hq e => h34 q e (hs36 q (.inr hq))), t36.ap, t36.fa, t36.fb⟩
  · intro q hq hs
    rcases n37.at_ with e | e
    · exact h34 q (e ▸ hq) (hs36 q hs)
    · have h1 := e q hq
      have h2 := t36.isIn q hs
      omega
  · show (s.2.2 ++ (roundC (s.1, s.2.1)).2.inn).length ≤ 4096 * (n + 1)
    rw [List.length_append]; omega

/-- both ends, new -/
theorem new_two {w w6 w9 : World} {J : Prop} (h6 : Grow w w6) (c6 : Cn w6 w.heap.size (.slice none 0 0) (.slice none 0 0) (newC 1 true)) (h9 : Grow w6 w9) (c9 : Cn w9 w6.heap.size (.slice none 0 0) (.slice none 0 0) (newC 2 false)) :
    Two w9 w.heap.size w6.heap.size (.slice none 0 0) (.slice none 0 0) (.slice none 0 0) (.slice none 0 0) (newC 1 true) (newC 2 false) := by
  have hlt := c6.b.lt
  refine ⟨c6.grow h9, c9, ?_, ⟨by unfold u32 newC; simp, by unfold u32 newC; simp, by unfold u32 newC; simp, by unfold u32 newC; simp, by simp [newC], by simp [newC], by simp [newC], by simp [newC]⟩, ⟨by unfold u32 newC; simp, by unfold u32 newC; simp, by unfold u32 newC; simp, by unfold u32 newC; simp, by simp [newC], by simp [newC], by simp [newC], by simp [newC]⟩⟩
  rintro q (hq | hq | hq) (hq' | hq' | hq')
  · omega
  all_goals first | (cases hq'; done) | (cases hq; done)

theorem sendC_fits {c : Cs} (h : CsFits c) (bs : List UInt8) : CsFits (sendC c bs) := by
  unfold sendC
  split
  · exact h
  · next hr =>
    have : sendN c bs ≤ 4096 - c.out.length := by unfold sendN; rw [if_neg hr]; omega
    have ho := h.out
    refine ⟨h.own, h.peer, h.base, h.got, h.s0, ?_, ?_, h.inn⟩
    · show c.sent ≤ ((c.out ++ _).length : Int)
      have := h.s1
      rw [List.length_append]; omega
    · show (c.out ++ _).length ≤ 4096
      rw [List.length_append, List.length_take]; omega

/-- behind Send the system is at its beginning -/
theorem sys0 {w w9 w27 : World} {ga gb : Nat} {vo' : Value} {t : List UInt8} (hga : w.heap.size ≤ ga) (hgb : w.heap.size ≤ gb) (h9 : Two w9 ga gb (.slice none 0 0) (.slice none 0 0) (.slice none 0 0) (.slice none 0 0) (newC 1 true) (newC 2 false)) (hw : w.heap.size ≤ w9.heap.size)
    (st : Step (fpC ga (.slice none 0 0) (.slice none 0 0)) w9 w27 (fpC ga vo' (.slice none 0 0))) (hc : Cn w27 ga vo' (.slice none 0 0) (sendC (newC 1 true) t)) : Sys w.heap.size 0 w27 ga gb (.slice none 0 0) (st0 t) ∧ Below w.heap.size w9 w27 := by
  have t27 := h9.stepA st hc (sendC_fits h9.fa t)
  have h0 : ∀ q, fpC ga (.slice none 0 0) (.slice none 0 0) q → w.heap.size ≤ q := by
    rintro q (hq | hq | hq)
    · omega
    · cases hq
    · cases hq
  refine ⟨⟨vo', .slice none 0 0, .slice none 0 0, .slice none 0 0, t27, Own.nil _ _ _, (fun q hq => by cases hq), ?_, by simp [st0]⟩, st.to_below hw h0⟩
  rintro q (hq | hq | hq | hq)
  · rcases st.fp q hq with e | e
    · exact h0 q e
    · omega
  · omega
  · cases hq
  · cases hq

theorem Sys.read {B n : Nat} {w : World} {ga gb : Nat} {v : Value} {s : Cs × Cs × List UInt8} (h : Sys B n w ga gb v s) : RdB w v s.2.2 := by
  obtain ⟨_, _, _, _, _, h2, _⟩ := h; exact h2.rd

def hello : List UInt8 := [104, 101, 108, 108, 111]

theorem known_c {w : World} {R : KV} (k : ∀ w', Grow w w' → R (.bool true) w') : Go.CW.Spec Try.prog 4 #[] w R := by
  apply gemellaw18_known_wp
  refine New_c fun w1 g1 c1 => ⟨_, rfl, New_c fun w4 g4 c4 => ⟨_, rfl, ?_⟩⟩
  have t4 := new_two (J := True) g1 c1 g4 c4
  have g14 := g1.then g4
  refine JoinP.bool (fun b w7 => b = false ∧ Below w.heap.size w w7 ∧ Sys w.heap.size 0 w7 w.heap.size w1.heap.size (.slice none 0 0) (st0 hello)) (fun j hj => ?_) ?_
  · refine ⟨false, rfl, cond_f rfl ⟨false, rfl, cond_f rfl ?_⟩⟩
    refine nm fun w38 e38 => ?_
    obtain ⟨w40, h40, g40, r40⟩ := conv_lit (P := Try.prog) (t := tB) (e := tb) (by kernel_rfl) (by kernel_rfl) w4 hello 5 rfl (by simp [maxLen])
    rw [e38]
    have t40 := t4.grow g40
    refine ⟨_, w40, h40, Send_c t40.a t40.fa r40 fun vo' w42 s42 c42 => ⟨_, rfl, hj _ _ ?_⟩⟩
    obtain ⟨sy, bl⟩ := sys0 (w := w) (Nat.le_refl _) g1.size t40 (Nat.le_trans g14.size g40.size) s42 c42
    exact ⟨by rfl, (g14.then g40).trans bl, sy⟩
  rintro b w7 ⟨rfl, b7, s7⟩
  refine cond_f rfl ⟨fun (v : Value) (i : Int) (ww : World) => 0 ≤ i ∧ i ≤ 64 ∧ Below w.heap.size w ww ∧ Sys w.heap.size i.toNat ww w.heap.size w1.heap.size v (runC i.toNat (st0 hello)), fun (_ : Value) (i : Int) (_ : World) => (64 - i).toNat, ⟨by omega, by omega, b7, s7⟩, ?_⟩
  dsimp only [allR, mapR2, eqN, ltN]
  rintro m v i ww ⟨⟨i0, i1, bl, sy⟩, hm⟩
  refine cond_intro (fun d => ?_) (fun d => ?_)
  · have d : i < 64 := by simpa using d
    refine body_c sy bl.size (by omega) fun v' w' b' s' => ?_
    rw [wi64_id (n := i + 1) (by omega) (by omega)]
    have e : (i + 1).toNat = i.toNat + 1 := by omega
    exact ⟨⟨by omega, by omega, bl.trans b', by rw [e]; exact s'⟩, by omega⟩
  have d : ¬ i < 64 := by simpa using d
  obtain rfl : i = 64 := by omega
  have er : runC (64 : Int).toNat (st0 hello) = fin hello := run_end hello (by decide) 59
  rw [er] at sy
  have rd := sy.read
  obtain ⟨voa, via, vob, vib, t, _⟩ := sy
  refine JoinP.bool (fun b w' => b = true ∧ w' = ww) (fun j hj => ?_) (by rintro b w' ⟨rfl, rfl⟩; exact k _ bl)
  refine ⟨_, to_text rd, cond_t ((text_beq hello hello).trans (by simp)) (Up_c t.a ⟨_, rfl, cond_t rfl (Up_c t.b ⟨_, rfl, cond_t rfl (Idle_c t.a ⟨_, rfl, cond_t rfl (Reset_c t.a ⟨_, rfl, hj _ _ ⟨rfl, rfl⟩⟩)⟩)⟩)⟩)⟩

theorem connBytes_s {w : World} {v u : Value} {bss : List (List UInt8)} {t : List UInt8} (hv : RdBB w v bss) (hu : RdB w u t) :
    Go.CW.Spec Try.prog 3 #[v, u] w (Law w) := by
  apply gemellaw18_ConnBytes_wp
  refine known_c fun w1 g1 => ⟨_, rfl, cond_f rfl ?_⟩
  have hv1 := hv.grow g1
  have hu1 := hu.grow g1
  refine JoinP.bool (fun b w' => w' = w1 ∧ (b = false → bss.length ≤ 20 ∧ t.length ≤ 1000)) (fun j hj => ?_) ?_
  · refine ⟨_, hv1.len, cond_intro (fun d => hj _ _ ⟨rfl, by simp⟩) (fun d => ⟨_, RdB.len hu1, hj _ _ ⟨rfl, fun h3 => ?_⟩⟩)⟩
    simp at d h3
    omega
  rintro b w4 ⟨rfl, hb⟩
  refine cond_intro (fun d => ⟨rfl, g1⟩) (fun d => ?_)
  obtain ⟨hl, ht⟩ := hb d
  clear hb d
  refine New_c fun w6 g6 c6 => ⟨_, rfl, New_c fun w9 g9 c9 => ⟨_, rfl, ?_⟩⟩
  have t9 := new_two (J := True) g6 c6 g9 c9
  have g49 := g6.then g9
  refine ⟨fun (i : Int) (ww : World) => 0 ≤ i ∧ i ≤ bss.length ∧ Grow w9 ww, fun (i : Int) (_ : World) => ((bss.length : Int) - i).toNat, ⟨by omega, by omega, Grow.refl _⟩, ?_⟩
  dsimp only [allR, mapR2, eqN, ltN]
  rintro m i w13 ⟨⟨i0, i1, g13⟩, hm⟩
  have hv13 := hv1.grow (g49.then g13)
  have gA := g1.then (g49.then g13)
  refine ⟨_, hv13.len, cond_intro (fun d => ?_) (fun d => ?_)⟩
  · simp only [decide_eq_true_eq] at d
    obtain ⟨a, x, ha, hc', hx⟩ := hv13.at i0 d
    have hc := hc' w13 (Grow.refl _)
    have hx13 := hx
    refine ⟨a, ha, x, hc, _, RdB.len hx13, cond_intro (fun e => ⟨rfl, gA⟩) (fun e => ?_)⟩
    simp only [decide_eq_false_iff_not, gt_iff_lt] at e
    refine ⟨a, ha, x, hc, In_short hx13 (by omega) fun w21 g21 => ⟨rfl, ?_⟩⟩
    obtain ⟨a2, x2, ha2, hc2', hx2⟩ := (hv13.grow g21).at i0 d
    have hc2 := hc2' w21 (Grow.refl _)
    refine ⟨a2, ha2, x2, hc2, In_short hx2 (by omega) fun w25 g25 => ⟨rfl, ?_⟩⟩
    rw [wi64_id (n := i + 1) (by omega) (by omega)]
    exact ⟨⟨by omega, by omega, g13.then (g21.then g25)⟩, by omega⟩
  clear d hm m i0 i1
  have t13 := t9.grow g13
  have hu13 := hu1.grow (g49.then g13)
  refine Send_c t13.a t13.fa hu13 fun vo' w27 s27 c27 => ⟨_, rfl, ?_⟩
  obtain ⟨sy0, bl0⟩ := sys0 (w := w4) (Nat.le_refl _) g6.size t13 (Nat.le_trans g49.size g13.size) s27 c27
  have b27 : Below w4.heap.size w4 w27 := (g49.then g13).trans bl0
  refine ⟨fun (v : Value) (i : Int) (ww : World) => 0 ≤ i ∧ i ≤ 70 ∧ Below w4.heap.size w4 ww ∧ Sys w4.heap.size i.toNat ww w4.heap.size w6.heap.size v (runC i.toNat (st0 t)), fun (_ : Value) (i : Int) (_ : World) => (70 - i).toNat, ⟨by omega, by omega, b27, sy0⟩, ?_⟩
  dsimp only [allR, mapR2, eqN, ltN]
  rintro m v30 i ww ⟨⟨i0, i1, bl, sy⟩, hm⟩
  refine cond_intro (fun d => ?_) (fun d => ?_)
  · have d : i < 70 := by simpa using d
    refine body_c sy bl.size (by omega) fun v' w' b' s' => ?_
    rw [wi64_id (n := i + 1) (by omega) (by omega)]
    have e : (i + 1).toNat = i.toNat + 1 := by omega
    exact ⟨⟨by omega, by omega, bl.trans b', by rw [e]; exact s'⟩, by omega⟩
  have d : ¬ i < 70 := by simpa using d
  obtain rfl : i = 70 := by omega
  have er : runC (70 : Int).toNat (st0 t) = fin t := run_end t ht 65
  rw [er] at sy
  have rd := sy.read
  obtain ⟨voa, via, vob, vib, tt, _⟩ := sy
  have gl : Grow w4 ww := bl
  refine JoinP.bool (fun b w' => b = true ∧ w' = ww) (fun j hj => ?_) (by rintro b w' ⟨rfl, rfl⟩; exact ⟨rfl, g1.then gl⟩)
  exact ⟨_, to_text rd, _, to_text (hu1.grow gl), cond_t ((text_beq t t).trans (by simp)) (Idle_c tt.a ⟨_, rfl, hj _ _ ⟨rfl, rfl⟩⟩)⟩

end Go.Proofs.Ytnmofoekabbjlaa
