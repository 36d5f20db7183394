/- The contracts of a stream's end: take, packet. -/
import Derived.Test.YtnmofoekabbjlaaConP
set_option linter.unusedVariables false
set_option linter.unusedSimpArgs false
set_option maxRecDepth 100000
namespace Go.Proofs.Ytnmofoekabbjlaa
open Go Go.CW Go.RowKit Go.Crc

theorem ackC_inn (c : Cs) (n a : Int) : (ackC c n a).inn = c.inn ∧ (ackC c n a).got = c.got ∧ (ackC c n a).own = c.own ∧ (ackC c n a).peer = c.peer := by unfold ackC; split <;> exact ⟨rfl, rfl, rfl, rfl⟩
theorem ackC_fits {c : Cs} (hf : CsFits c) (n a : Int) (ha : u32 a) : CsFits (ackC c n a) := by
  obtain ⟨h1, h2, h3, h4, h5, h6, h7, h8⟩ := hf
  unfold ackC
  split
  · refine ⟨h1, h2, ha, h4, ?_, ?_, ?_, h8⟩
    · show 0 ≤ max (c.sent - n) 0; omega
    · show max (c.sent - n) 0 ≤ ((c.out.drop n.toNat).length : Int); rw [List.length_drop]; omega
    · show (c.out.drop n.toNat).length ≤ 4096; rw [List.length_drop]; omega
  · exact ⟨h1, h2, h3, h4, h5, h6, h7, h8⟩
theorem gotC_fits {c : Cs} (hf : CsFits c) (o : Int) (bs : List UInt8) : CsFits (gotC c o bs) := by
  obtain ⟨h1, h2, h3, h4, h5, h6, h7, h8⟩ := hf
  unfold gotC
  split
  · exact ⟨h1, h2, h3, h4, h5, h6, h7, h8⟩
  · refine ⟨h1, h2, h3, ?_, h5, h6, h7, ?_⟩
    · show u32 (IntKind.wrap .u32 _)
      unfold u32; rw [w32]; omega
    · show (c.inn ++ _).length ≤ 4096
      rw [List.length_append, List.length_take]; omega
theorem takeC_fits {c : Cs} (hf : CsFits c) (a p : Int) (bs : List UInt8) (ha : u32 a) : CsFits (takeC c a p bs) := by
  have h := ackC_fits hf (gap c.base a) a ha
  unfold takeC
  split
  · exact h
  · exact gotC_fits (c := { ackC c (gap c.base a) a with say := true }) ⟨h.own, h.peer, h.base, h.got, h.s0, h.s1, h.out, h.inn⟩ _ _

theorem gap_range (a b : Int) : -2147483648 ≤ gap a b ∧ gap a b < 2147483648 := by
  unfold gap
  generalize IntKind.wrap .u32 (b - a) = x
  rw [wi32, wi64_id (by omega) (by omega)]; omega

theorem take_c {w : World} {g : Nat} {vo vi v : Value} {c : Cs} {ack pos : Int} {bs : List UInt8} {R : KV} (h : Cn w g vo vi c) (hf : CsFits c) (hv : RdX (fpC g vo vi) w v (bs.map b8)) (hb : bs.length ≤ 4096) (ha : u32 ack)
    (k : ∀ vo' vi' w', Step (fpC g vo vi) w w' (fpC g vo' vi') → Cn w' g vo' vi' (takeC c ack pos bs) → R (.tuple #[]) w') : Go.CW.Spec Try.prog 15 #[.pointer (some ⟨g, 0, none⟩), .int .u32 ack, .int .u32 pos, v] w R := by
  apply conn_Conn_take_m_wp
  have hout := hf.out
  have hinn := hf.inn
  have hs0 := hf.s0
  have hs1 := hf.s1
  have gr := gap_range c.base ack
  refine JoinP.unit (fun w0 => ∃ vo', Step (fpC g vo vi) w w0 (fpC g vo' vi) ∧ Cn w0 g vo' vi (ackC c (gap c.base ack) ack)) (fun j hj => ?_) ?_
  · refine withAddr_some ⟨_, h.b.cell 7, bin_Gap_wp _ _ _ _ ⟨_, rfl, ?_⟩⟩
    rw [show IntKind.wrap .i64 (IntKind.wrap .i32 (IntKind.wrap .u32 (ack - c.base))) = gap c.base ack from rfl]
    generalize hgap : gap c.base ack = n at *
    refine JoinP.bool (fun b w' => w' = w ∧ b = decide (0 < n ∧ n ≤ c.out.length)) (fun j1 hj1 => ?_) ?_
    · refine cond_intro (fun d => withAddr_some ⟨_, h.b.cell 6, _, RdB.len h.out.rd, hj1 _ _ ⟨rfl, ?_⟩⟩) (fun d => hj1 _ _ ⟨rfl, ?_⟩)
      · simp only [decide_eq_true_eq] at d; rw [Bool.eq_iff_iff]; simp; omega
      · simp only [decide_eq_false_iff_not] at d; rw [Bool.eq_iff_iff]; simp; omega
    · rintro b w37 ⟨rfl, rfl⟩
      refine cond_intro (fun d => ?_) (fun d => ?_)
      · simp only [decide_eq_true_eq] at d
        have hr := h.out.rd
        obtain ⟨v40, hs40, hr40, _⟩ := Rd.sub hr (lo := some (.int .i64 n)) (hi := none) (l := n.toNat) (r := c.out.length) (fun cap hc => by rw [bounds_in (by omega) (by simp; omega)]; simp) (by omega) (by simp)
        have r40 : RdB w37 v40 (c.out.drop n.toNat) := by
          have e : ((c.out.map b8).drop n.toNat).take (c.out.length - n.toNat) = (c.out.drop n.toNat).map b8 := by rw [List.map_drop, List.take_of_length_le (by simp)]
          rw [e] at hr40; exact hr40
        refine withAddr_some ⟨_, h.b.cell 6, v40, hs40, slices_Clone_c r40 (by simp; omega) fun v41 w42 g42 o42 => withAddr_some ?_⟩
        have h42 := h.grow g42
        refine oneK_of (Rd.isOne o42.rd) ⟨st1_at h42.b (by show 6 < 12; omega), nm fun w44 e44 => ?_⟩
        obtain ⟨h44, t44⟩ := h42.setO (o42.mono (Nat.zero_le _)) (fun q hq hvi => by have := o42.blk q hq; have := h.inn.ltS q hvi; omega) e44
        have s44 : Step (fpC g vo vi) w37 w44 (fpC g v41 vi) := by
          have s2 : Step (fpC g vo vi) w42 w44 (fpC g vo vi) := by subst e44; exact Step.setA w42 _ _ (by rw [add_block]; exact .inl rfl)
          exact ((Step.of_grow g42).then s2).imp (fun _ h => h) (fun q hq => by
            rcases hq with rfl | hq | hq
            · exact .inl (.inl rfl)
            · exact .inr (o42.blk q hq)
            · exact .inl (.inr (.inr hq)))
        refine withAddr_some ⟨st1_at h44.b (by show 7 < 12; omega), nm fun w46 e46 => withAddr_some ?_⟩
        obtain ⟨h46, s46⟩ := h44.set e46 { c with out := c.out.drop n.toNat, base := ack } rfl rfl rfl
        refine ⟨_, h46.b.cell 8, withAddr_some ⟨st1_at h46.b (by show 8 < 12; omega), nm fun w50 e50 => ?_⟩⟩
        have hm : (if IntKind.wrap .i64 (c.sent - n) < 0 then (0 : Int) else IntKind.wrap .i64 (c.sent - n)) = max (c.sent - n) 0 := by
          rw [wi64_id (by omega) (by omega)]; split <;> omega
        have e50' : w50 = World.setCell w46 (Addr.add ⟨g, 0, none⟩ 8) (.int .i64 (max (c.sent - n) 0)) := by rw [← hm]; exact e50
        obtain ⟨h50, s50⟩ := h46.set e50' { c with out := c.out.drop n.toNat, base := ack, sent := max (c.sent - n) 0 } rfl rfl rfl
        have hc : ackC c n ack = { c with out := c.out.drop n.toNat, base := ack, sent := max (c.sent - n) 0 } := by unfold ackC; rw [if_pos d]
        exact hj _ ⟨v41, s44.then (s46.then s50), by rw [hc]; exact h50⟩
      · simp only [decide_eq_false_iff_not] at d
        have hc : ackC c n ack = c := by unfold ackC; rw [if_neg d]
        exact hj _ ⟨vo, Step.refl _ _, by rw [hc]; exact h⟩
  rintro w0 ⟨vo', s0, h0⟩
  have hv0 := hv.step s0
  obtain ⟨a1, a2, a3, a4⟩ := ackC_inn c (gap c.base ack) ack
  refine ⟨_, RdB.len hv0.1, cond_intro (fun d => ?_) (fun d => ?_)⟩
  · have d : bs = [] := List.eq_nil_of_length_eq_zero (by simpa using d)
    have := k vo' vi w0 s0
    unfold takeC at this
    rw [if_pos d] at this
    exact this h0
  have d : bs ≠ [] := fun e => by subst e; simp at d
  have hk : ∀ vi' w', Step (fpC g vo vi) w w' (fpC g vo' vi') → Cn w' g vo' vi' (gotC { ackC c (gap c.base ack) ack with say := true } (gap pos c.got) bs) → R (.tuple #[]) w' := by
    intro vi' w' s hh
    have := k vo' vi' w' s
    unfold takeC at this
    rw [if_neg d] at this
    exact this hh
  generalize ackC c (gap c.base ack) ack = cc at *
  refine withAddr_some ⟨st1_at h0.b (by show 11 < 12; omega), nm fun w3 e3 => withAddr_some ?_⟩
  obtain ⟨h3, s3⟩ := h0.set e3 { cc with say := true } rfl rfl rfl
  have s03 := s0.then s3
  have hv3 := hv0.step s3
  refine ⟨_, h3.b.cell 10, bin_Gap_wp _ _ _ _ ⟨_, rfl, ?_⟩⟩
  rw [show IntKind.wrap .i64 (IntKind.wrap .i32 (IntKind.wrap .u32 (cc.got - pos))) = gap pos c.got from by rw [a2]; rfl]
  have gr2 := gap_range pos c.got
  generalize hold : gap pos c.got = old at *
  refine JoinP.bool (fun b w' => w' = w3 ∧ b = decide (old < 0 ∨ (bs.length : Int) ≤ old)) (fun j1 hj1 => ?_) ?_
  · refine cond_intro (fun e => hj1 _ _ ⟨rfl, ?_⟩) (fun e => ⟨_, RdB.len hv3.1, hj1 _ _ ⟨rfl, ?_⟩⟩)
    · simp only [decide_eq_true_eq] at e; rw [Bool.eq_iff_iff]; simp; omega
    · simp only [decide_eq_false_iff_not] at e; rw [Bool.eq_iff_iff]; simp; omega
  rintro b w10 ⟨rfl, rfl⟩
  refine cond_intro (fun e => ?_) (fun e => ?_)
  · simp only [decide_eq_true_eq] at e
    have hc : gotC { cc with say := true } old bs = { cc with say := true } := by unfold gotC; rw [if_pos e]
    exact hk vi w10 s03 (by rw [hc]; exact h3)
  simp only [decide_eq_false_iff_not] at e
  have r3 : RdB w10 v bs := hv3.1
  obtain ⟨v11, hs11, hr11, ob11⟩ := Rd.sub r3 (lo := some (.int .i64 old)) (hi := none) (l := old.toNat) (r := bs.length) (fun cap hc => by rw [bounds_in (by omega) (by simp; omega)]; simp) (by omega) (by simp)
  have r11 : RdB w10 v11 (bs.drop old.toNat) := by
    have e : ((bs.map b8).drop old.toNat).take (bs.length - old.toNat) = (bs.drop old.toNat).map b8 := by rw [List.map_drop, List.take_of_length_le (by simp)]
    rw [e] at hr11; exact hr11
  have hl11 : (bs.drop old.toNat).length = bs.length - old.toNat := List.length_drop
  refine ⟨v11, hs11, _, RdB.len r11, withAddr_some ⟨_, h3.b.cell 9, _, RdB.len h3.inn.rd, ?_⟩⟩
  have hin : cc.inn.length ≤ 4096 := by rw [a1]; exact hinn
  rw [hl11, wi64_id (n := 4096 - (cc.inn.length : Int)) (by omega) (by omega)]
  have hm : (if (4096 - (cc.inn.length : Int)) < ((bs.length - old.toNat : Nat) : Int) then (4096 - (cc.inn.length : Int)) else ((bs.length - old.toNat : Nat) : Int)) = ((min (bs.length - old.toNat) (4096 - cc.inn.length) : Nat) : Int) := by split <;> omega
  rw [hm]
  generalize hmm : min (bs.length - old.toNat) (4096 - cc.inn.length) = m at *
  have hm1 : m ≤ bs.length - old.toNat ∧ cc.inn.length + m ≤ 4096 := by omega
  obtain ⟨v16, hs16, hr16, ob16⟩ := Rd.sub r11 (lo := none) (hi := some (.int .i64 (m : Int))) (l := 0) (r := m) (fun cap hc => by rw [bounds_ni (by omega) (by simp at hc; omega)]; simp) (by omega) (by simp; omega)
  have r16 : RdB w10 v16 ((bs.drop old.toNat).take m) := by simpa [RdB, List.map_take, List.map_drop] using hr16
  have hl16 : ((bs.drop old.toNat).take m).length = m := by rw [List.length_take]; omega
  obtain ⟨v19, w20, k20, o20, n20⟩ := app_bytes h3.inn r16 (Nat.zero_le _) (by rw [hl16]; show cc.inn.length + m ≤ _; omega)
  refine ⟨v16, hs16, withAddr_some ⟨_, h3.b.cell 9, v19, w20, k20, withAddr_some (oneK_of (Rd.isOne o20.rd) ?_)⟩⟩
  have st := Step.of_own (S := fpC g vo' vi) n20 (fun q hq => .inr (.inr hq))
  have b20 : BK w20 g (rC { cc with say := true } vo' vi) tC := (n20.by_.block g h3.b.lt (fun e => own_ne h3.inn h3.b (by decide) e.symm)).trans h3.b
  have hn20 : ∀ q, vo'.ownBlock = some q → v19.ownBlock ≠ some q := by
    intro q hq hvi
    rcases n20.at_ with a | a
    · exact h3.ne q hq (a ▸ hvi)
    · have := a q hvi; have := h3.out.ltS q hq; omega
  have oo20 : OwnB w20 0 tb vo' cc.out := h3.out.stepS (S := fun k => vi.ownBlock = some k) (S' := fun k => vi.ownBlock = some k ∨ v19.ownBlock = some k) (Step.of_own n20 (fun q hq => hq)) (fun q hq e => h3.ne q hq e)
  refine ⟨st1_at b20 (by show 9 < 12; omega), nm fun w22 e22 => withAddr_some ?_⟩
  obtain ⟨b22, t22⟩ := setE b20 e22
  have h22 : Cn w22 g vo' v19 { cc with say := true, inn := cc.inn ++ (bs.drop old.toNat).take m } := ⟨b22, oo20.turn t22 (own_ne oo20 b20 (by decide)), o20.turn t22 (own_ne o20 b20 (by decide)), hn20⟩
  have s22 : Step (fpC g vo vi) w w22 (fpC g vo' v19) := by
    have s2 : Step (fun q => fpC g vo' vi q ∨ v19.ownBlock = some q) w20 w22 (fun q => fpC g vo' vi q ∨ v19.ownBlock = some q) := by
      subst e22; exact Step.setA w20 _ _ (by rw [add_block]; exact .inl (.inl rfl))
    have s3' : Step (fpC g vo' vi) w10 w22 (fpC g vo' v19) := (st.then s2).imp (fun _ h => h) (fun q hq => by
      rcases hq with rfl | hq | hq
      · exact .inl (.inl rfl)
      · exact .inl (.inr (.inl hq))
      · rcases n20.at_ with a | a
        · exact .inl (.inr (.inr (a ▸ hq)))
        · exact .inr (a q hq))
    exact s03.then s3'
  refine ⟨_, h22.b.cell 10, _, RdB.len r16, withAddr_some ⟨st1_at h22.b (by show 10 < 12; omega), nm fun w27 e27 => ?_⟩⟩
  rw [hl16] at e27
  obtain ⟨h27, s27⟩ := h22.set e27 { cc with say := true, inn := cc.inn ++ (bs.drop old.toNat).take m, got := IntKind.wrap .u32 (cc.got + IntKind.wrap .u32 (m : Int)) } rfl rfl rfl
  refine hk v19 w27 (s22.then s27) ?_
  have hc : gotC { cc with say := true } old bs = { cc with say := true, inn := cc.inn ++ (bs.drop old.toNat).take m, got := IntKind.wrap .u32 (cc.got + IntKind.wrap .u32 (m : Int)) } := by
    unfold gotC
    rw [if_neg e]
    simp only [hmm]
  rw [hc]; exact h27

end Go.Proofs.Ytnmofoekabbjlaa
