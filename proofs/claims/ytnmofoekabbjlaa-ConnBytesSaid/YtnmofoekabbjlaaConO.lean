/- The contract of a stream's end: Out. -/
import Derived.Test.YtnmofoekabbjlaaConR
set_option linter.unusedVariables false
set_option linter.unusedSimpArgs false
set_option maxRecDepth 100000
namespace Go.Proofs.Ytnmofoekabbjlaa
open Go Go.CW Go.RowKit Go.Crc

theorem step_below {S : Fp} {w w1 w2 : World} (st : Step S w w1 S) (b : Below w.heap.size w1 w2) : Step S w w2 S :=
  ⟨b.os.trans st.os, b.tape.trans st.tape, b.output.trans st.output, Nat.le_trans st.size b.size, fun k hk hs => (b.block k hk).trans (st.block k hk hs), fun _ h => .inl h⟩
theorem Below.toStep {B : Nat} {w w' : World} (b : Below B w w') : Step (fun q => B ≤ q) w w' (fun q => B ≤ q) :=
  ⟨b.os, b.tape, b.output, b.size, fun k _ hs => b.block k (by omega), fun _ h => .inl h⟩
theorem enc_ne (p : Pk) : p.enc ≠ [] := by
  intro e
  have := congrArg List.length e
  rw [Pk.enc, sld_length] at this
  simp at this
theorem outs_zero {f : Nat} {c : Cs} (h : chunk c = 0) : outs (f + 1) c = ([], c) := by unfold outs; rw [if_pos h]
theorem outs_more {f : Nat} {c : Cs} (h : chunk c ≠ 0) : outs (f + 1) c = (c.pk c.sent ((c.out.drop c.sent.toNat).take (chunk c).toNat) :: (outs f { c with sent := c.sent + chunk c }).1, (outs f { c with sent := c.sent + chunk c }).2) := by
  conv => lhs; unfold outs
  rw [if_neg h]

theorem chunk_range {c : Cs} (hf : CsFits c) : 0 ≤ chunk c ∧ chunk c ≤ 1024 ∧ c.sent + chunk c ≤ c.out.length := by
  have := hf.s0
  have := hf.s1
  unfold chunk; omega

theorem outs_keep : ∀ (f : Nat) (c : Cs), CsFits c → CsFits (outs f c).2 ∧ (outs f c).2.reset = c.reset ∧ (∀ p ∈ (outs f c).1, PkFits p)
  | 0, c, h => ⟨h, rfl, fun p hp => by simp [outs] at hp⟩
  | f + 1, c, h => by
    by_cases h0 : chunk c = 0
    · rw [outs_zero h0]; exact ⟨h, rfl, fun p hp => by simp at hp⟩
    · rw [outs_more h0]
      have r := chunk_range h
      have h' : CsFits { c with sent := c.sent + chunk c } := ⟨h.own, h.peer, h.base, h.got, by show 0 ≤ c.sent + chunk c; have := h.s0; omega, r.2.2, h.out, h.inn⟩
      obtain ⟨a1, a2, a3⟩ := outs_keep f _ h'
      refine ⟨a1, a2, fun p hp => ?_⟩
      simp only [List.mem_cons] at hp
      rcases hp with rfl | hp
      · refine pk_fits h _ _ ?_
        have := h.out
        rw [List.length_take, List.length_drop]; omega
      · exact a3 p hp

theorem chunks_keep {c : Cs} (h : CsFits c) : CsFits (chunks c).2 ∧ (chunks c).2.reset = c.reset ∧ (∀ p ∈ (chunks c).1, PkFits p) := by
  unfold chunks
  split
  · exact outs_keep 5 c h
  · exact ⟨h, rfl, fun p hp => by simp at hp⟩

theorem outC_keep {c : Cs} (h : CsFits c) : CsFits (outC c).2 ∧ (∀ p ∈ (outC c).1, PkFits p) := by
  obtain ⟨a1, a2, a3⟩ := chunks_keep h
  have hs : CsFits { (chunks c).2 with say := false } := ⟨a1.own, a1.peer, a1.base, a1.got, a1.s0, a1.s1, a1.out, a1.inn⟩
  unfold outC
  split
  · exact ⟨h, fun p hp => by simp at hp⟩
  · split
    · refine ⟨hs, fun p hp => ?_⟩
      simp only [List.mem_cons, List.not_mem_nil, or_false] at hp
      subst hp
      exact pk_fits a1 _ _ (by simp)
    · exact ⟨hs, a3⟩

theorem Out_c {w : World} {g : Nat} {vo vi : Value} {c : Cs} {R : KV} (h : Cn w g vo vi c) (hf : CsFits c)
    (k : ∀ v' w', Step (fpC g vo vi) w w' (fpC g vo vi) → Cn w' g vo vi (outC c).2 → RowsX (fun q => q < w.heap.size) w' v' ((outC c).1.map Pk.enc) → R v' w') : Go.CW.Spec Try.prog 17 #[.pointer (some ⟨g, 0, none⟩)] w R := by
  have hin := h.isIn
  have apart : Apart (fpC g vo vi) (fun q => w.heap.size ≤ q) := fun q hq hB => by have := hin q hq; omega
  have hrow : ∀ q, fpC g vo vi q → q < w.heap.size := hin
  apply conn_Conn_Out_m_wp
  refine withAddr_some ⟨_, h.b.cell 5, cond_intro (fun d => ?_) (fun d => ?_)⟩
  · have e : outC c = ([], c) := by unfold outC; rw [if_pos d]
    rw [e] at k
    exact k _ w (Step.refl _ _) h ⟨[], RdX.nil _ _, rfl, fun i hi => by simp at hi⟩
  refine JoinP.val (fun v2 w3 => Step (fpC g vo vi) w w3 (fpC g vo vi) ∧ Cn w3 g vo vi (chunks c).2 ∧ RowsO w3 w.heap.size v2 ((chunks c).1.map Pk.enc) ∧ (chunks c).1.length ≤ 5) (fun j hj => ?_) ?_
  · refine ⟨fun (v : Value) (ww : World) => ∃ (f : Nat) (L : List Pk) (cc : Cs), L.length + f = 4 ∧ Step (fpC g vo vi) w ww (fpC g vo vi) ∧ Cn ww g vo vi cc ∧ RowsO ww w.heap.size v (L.map Pk.enc) ∧ CsFits cc ∧ cc.known = c.known ∧ (c.known = true → outs 5 c = (L ++ (outs (f + 1) cc).1, (outs (f + 1) cc).2)) ∧ (c.known = false → cc = c ∧ L = []) ∧ (cc.out.length : Int) ≤ cc.sent + 1024 * (f : Int), fun (v : Value) (ww : World) => 5 - (sliceLen v).getD 0, ?_, ?_⟩
    · refine ⟨4, [], c, rfl, Step.refl _ _, h, RowsO.nil _ _, hf, rfl, fun _ => by simp, fun _ => ⟨rfl, rfl⟩, ?_⟩
      have := hf.out
      have := hf.s0
      omega
    dsimp only [allR, mapR2, eqN, ltN]
    rintro m v ww ⟨⟨f, L, cc, hL, st, hc, ro, cf, hk, ho, hu, hlen⟩, hm⟩
    have hLl : (L.map Pk.enc).length = L.length := List.length_map _
    refine withAddr_some ⟨_, hc.b.cell 3, cond_intro (fun d1 => ?_) (fun d1 => ?_)⟩
    · have hkn : c.known = true := by rw [← hk]; exact d1
      have ho := ho hkn
      have cr := chunk_range cf
      have o1 := cf.out
      have o2 := cf.s0
      have o3 := cf.s1
      refine nm fun w30 e30 => ?_
      have g30 := drE e30
      have h30 := hc.grow g30
      refine withAddr_some ⟨_, h30.b.cell 6, _, RdB.len h30.out.rd, withAddr_some ⟨_, h30.b.cell 8, nm fun w36 e36 => ?_⟩⟩
      obtain rfl : w36 = w30 := e36.trans e30.symm
      have hch : (if (1024 : Int) < IntKind.wrap .i64 ((cc.out.length : Int) - cc.sent) then (1024 : Int) else IntKind.wrap .i64 ((cc.out.length : Int) - cc.sent)) = chunk cc := by
        rw [wi64_id (by omega) (by omega)]
        unfold chunk
        split <;> omega
      rw [hch]
      have st36 : Step (fpC g vo vi) w w36 (fpC g vo vi) := st.then (Step.of_grow g30)
      refine cond_intro (fun d2 => ?_) (fun d2 => ?_)
      · have d2 : chunk cc = 0 := by simpa using d2
        rw [outs_zero d2, List.append_nil] at ho
        have hch : chunks c = (L, cc) := by unfold chunks; rw [if_pos hkn, ho]
        exact hj _ _ ⟨st36, by rw [hch]; exact h30, by rw [hch]; exact ro.grow g30, by rw [hch]; show L.length ≤ 5; omega⟩
      have d2 : chunk cc ≠ 0 := by simpa using d2
      refine nm fun w37 e37 => ?_
      have g37 := drE e37
      have h37 := h30.grow g37
      refine withAddr_some ⟨_, h37.b.cell 8, withAddr_some ⟨_, h37.b.cell 6, withAddr_some ⟨_, h37.b.cell 8, withAddr_some ⟨_, h37.b.cell 8, ?_⟩⟩⟩⟩
      rw [wi64_id (n := cc.sent + chunk cc) (by omega) (by omega)]
      have hr := h37.out.rd
      obtain ⟨v46, hs46, hr46, _⟩ := Rd.sub hr (lo := some (.int .i64 cc.sent)) (hi := some (.int .i64 (cc.sent + chunk cc))) (l := cc.sent.toNat) (r := (cc.sent + chunk cc).toNat) (fun cap hc => by rw [bounds_ii (by omega) (by omega) (by simp at hc; omega)]) (by omega) (by simp; omega)
      have e46 : (cc.sent + chunk cc).toNat - cc.sent.toNat = (chunk cc).toNat := by omega
      have r46 : RdB w37 v46 ((cc.out.drop cc.sent.toNat).take (chunk cc).toNat) := by rw [e46] at hr46; simpa [RdB, List.map_take, List.map_drop] using hr46
      have l46 : ((cc.out.drop cc.sent.toNat).take (chunk cc).toNat).length = (chunk cc).toNat := by rw [List.length_take, List.length_drop]; omega
      refine ⟨v46, hs46, nm fun w47 e47 => ?_⟩
      obtain rfl : w47 = w37 := e47.trans e37.symm
      refine packet_c h37 cf r46 (by omega) (.inr (fun e => by rw [e] at l46; simp at l46; omega)) fun v48 w49 g49 r48 n48 => oneK_of (Rd.isOne r48) (nm fun w50 e50 => nm fun w51 e51 => ?_)
      clear e50
      have ro47 := ro.grow (g30.then g37)
      have st47 : Step (fpC g vo vi) w w47 (fpC g vo vi) := st36.then (Step.of_grow g37)
      have hB47 : w.heap.size ≤ w47.heap.size := st47.size
      obtain ⟨v52, w53, k52, ro53, bl53⟩ := (ro47.grow g49).push r48 (enc_ne _) (fun q hq => ⟨Nat.le_trans hB47 (n48 q hq), fun e => by have := ro47.lt q e; have := n48 q hq; omega⟩) (by omega) (Nat.le_trans hB47 g49.size) e51
      refine ⟨v52, w53, k52, ?_⟩
      have h53 : Cn w53 g vo vi cc := (h37.grow g49).stepS (Below.toStep bl53) apart
      have st53 : Step (fpC g vo vi) w w53 (fpC g vo vi) := step_below (st47.then (Step.of_grow g49)) bl53
      refine withAddr_some ⟨_, h53.b.cell 8, withAddr_some ⟨st1_at h53.b (by show 8 < 12; omega), nm fun w57 e57 => ?_⟩⟩
      rw [wi64_id (n := cc.sent + chunk cc) (by omega) (by omega)] at e57
      obtain ⟨h57, s57⟩ := h53.set e57 { cc with sent := cc.sent + chunk cc } rfl rfl rfl
      have hf0 : 1 ≤ f := by
        rcases Nat.eq_zero_or_pos f with rfl | hf0
        · exfalso; apply d2; unfold chunk; omega
        · exact hf0
      obtain ⟨f', rfl⟩ : ∃ f', f = f' + 1 := ⟨f - 1, by omega⟩
      have ro57 := ro53.stepS s57 hrow
      have l57 := ro57.len
      rw [List.length_append, hLl] at l57
      refine ⟨⟨f', L ++ [cc.pk cc.sent ((cc.out.drop cc.sent.toNat).take (chunk cc).toNat)], { cc with sent := cc.sent + chunk cc }, by simp; omega, st53.then s57, h57, by rw [List.map_append]; exact ro57, ⟨cf.own, cf.peer, cf.base, cf.got, by show 0 ≤ cc.sent + chunk cc; omega, cr.2.2, cf.out, cf.inn⟩, hk, fun _ => ?_, (fun e => by rw [hkn] at e; cases e), ?_⟩, ?_⟩
      · rw [ho, outs_more d2]; simp
      · show (cc.out.length : Int) ≤ cc.sent + chunk cc + 1024 * (f' : Int)
        by_cases hc : chunk cc = 1024
        · rw [hc]; omega
        · have : chunk cc = (cc.out.length : Int) - cc.sent := by unfold chunk at hc ⊢; omega
          omega
      · rw [l57]
        rw [ro.len, hLl] at hm
        simp at hm ⊢
        omega
    · have hkn : c.known = false := by rw [← hk]; exact d1
      obtain ⟨rfl, rfl⟩ := hu hkn
      have hch : chunks cc = ([], cc) := by unfold chunks; rw [if_neg (by rw [hkn]; simp)]
      exact hj _ _ ⟨st, by rw [hch]; exact hc, by rw [hch]; exact ro, by rw [hch]; simp⟩
  rintro v2 w3 ⟨st3, h3, ro3, hl5⟩
  obtain ⟨cf, hrs, hpf⟩ := chunks_keep hf
  have eO : ∀ b : Bool, b = decide ((chunks c).2.say = true ∧ (chunks c).1 = []) → outC c = (if b then [(chunks c).2.pk (chunks c).2.sent []] else (chunks c).1, { (chunks c).2 with say := false }) := by
    intro b hb
    unfold outC
    rw [if_neg (by rw [d]; simp)]
    by_cases hh : (chunks c).2.say = true ∧ (chunks c).1 = []
    · rw [if_pos hh, hb, decide_eq_true hh]; rfl
    · rw [if_neg hh, hb, decide_eq_false hh]; rfl
  generalize chunks c = ch at *
  refine JoinP.val (fun v4 w5 => Step (fpC g vo vi) w w5 (fpC g vo vi) ∧ Cn w5 g vo vi ch.2 ∧ ∃ b, b = decide (ch.2.say = true ∧ ch.1 = []) ∧ RowsO w5 w.heap.size v4 ((if b then [ch.2.pk ch.2.sent []] else ch.1).map Pk.enc)) (fun j hj => ?_) ?_
  · refine JoinP.bool (fun b w' => w' = w3 ∧ b = decide (ch.2.say = true ∧ ch.1 = [])) (fun j1 hj1 => ?_) ?_
    · refine withAddr_some ⟨_, h3.b.cell 11, cond_intro (fun e => ⟨_, ro3.len, hj1 _ _ ⟨rfl, ?_⟩⟩) (fun e => hj1 _ _ ⟨rfl, ?_⟩)⟩
      · rw [Bool.eq_iff_iff]; simp [e]
      · rw [Bool.eq_iff_iff]; simp [e]
    · rintro b w12 ⟨rfl, hb⟩
      refine cond_intro (fun e => ?_) (fun e => ?_)
      · subst e
        have hb' := of_decide_eq_true hb.symm
        refine withAddr_some ⟨_, h3.b.cell 8, packet_c (bs := []) h3 cf (Rd.nil _) (by simp) (.inl rfl) fun v15 w16 g16 r15 n15 => oneK_of (Rd.isOne r15) (nm fun w17 e17 => ?_)⟩
        have ro' : RowsO w12 w.heap.size v2 [] := by rw [hb'.2] at ro3; exact ro3
        obtain ⟨v18, w19, k18, ro19, bl19⟩ := (ro'.grow g16).push r15 (enc_ne _) (fun q hq => ⟨Nat.le_trans st3.size (n15 q hq), fun e => by have := ro'.lt q e; have := n15 q hq; omega⟩) (by simp) (Nat.le_trans st3.size g16.size) e17
        refine ⟨v18, w19, k18, hj _ _ ⟨step_below (st3.then (Step.of_grow g16)) bl19, (h3.grow g16).stepS (Below.toStep bl19) apart, true, hb, ro19⟩⟩
      · subst e
        exact hj _ _ ⟨st3, h3, false, hb, ro3⟩
  rintro v4 w5 ⟨st5, h5, b, hb, ro5⟩
  refine withAddr_some ⟨st1_at h5.b (by show 11 < 12; omega), nm fun w7 e7 => ?_⟩
  obtain ⟨h7, s7⟩ := h5.set e7 { ch.2 with say := false } rfl rfl rfl
  have ro7 := ro5.stepS s7 hrow
  rw [eO b hb] at k
  refine ClipB_c ro7.len ⟨_, ro7.choose_spec.1.rd⟩ fun v8 h8 => k v8 w7 (st5.then s7) h7 (ro7.rows h8 (fun q hq => hq))

end Go.Proofs.Ytnmofoekabbjlaa
