/- The contracts of a stream's end: New, Tick, Send, Recv, take, In. -/
import Derived.Test.YtnmofoekabbjlaaConM
import Derived.Test.YtnmofoekabbjlaaSepX
import Derived.Test.YtnmofoekabbjlaaPutW
import Derived.Test.YtnmofoekabbjlaaGCon
set_option linter.unusedVariables false
set_option linter.unusedSimpArgs false
set_option maxRecDepth 100000
namespace Go.Proofs.Ytnmofoekabbjlaa
open Go Go.CW Go.RowKit Go.Crc

abbrev tC : TypeId := 34
abbrev rC (c : Cs) (vo vi : Value) : Array Value := #[.int .u32 c.own, .bool c.first, .int .u32 c.peer, .bool c.known, .bool c.met, .bool c.reset, vo, .int .u32 c.base, .int .i64 c.sent, vi, .int .u32 c.got, .bool c.say]
structure CsFits (c : Cs) : Prop where
  own : u32 c.own
  peer : u32 c.peer
  base : u32 c.base
  got : u32 c.got
  s0 : 0 ≤ c.sent
  s1 : c.sent ≤ c.out.length
  out : c.out.length ≤ 4096
  inn : c.inn.length ≤ 4096

/-- an end at g, its bytes at vo and vi -/
structure Cn (w : World) (g : Nat) (vo vi : Value) (c : Cs) : Prop where
  b : BK w g (rC c vo vi) tC
  out : OwnB w 0 tb vo c.out
  inn : OwnB w 0 tb vi c.inn
  ne : ∀ k, vo.ownBlock = some k → vi.ownBlock ≠ some k

def fpC (g : Nat) (vo vi : Value) : Fp := fun k => k = g ∨ vo.ownBlock = some k ∨ vi.ownBlock = some k

theorem Cn.isIn {w : World} {g : Nat} {vo vi : Value} {c : Cs} (h : Cn w g vo vi c) : InW w (fpC g vo vi) := by
  rintro k (rfl | hk | hk)
  · exact h.b.lt
  · exact h.out.ltS k hk
  · exact h.inn.ltS k hk
theorem Cn.grow {w w' : World} {g : Nat} {vo vi : Value} {c : Cs} (h : Cn w g vo vi c) (k : Grow w w') : Cn w' g vo vi c := ⟨h.b.grow k, h.out.grow k, h.inn.grow k, h.ne⟩
theorem Cn.stepS {S S' : Fp} {w w' : World} {g : Nat} {vo vi : Value} {c : Cs} (h : Cn w g vo vi c) (st : Step S w w' S') (a : Apart (fpC g vo vi) S) : Cn w' g vo vi c :=
  ⟨h.b.stepS st (a g (.inl rfl)), h.out.stepS st (fun q hq => a q (.inr (.inl hq))), h.inn.stepS st (fun q hq => a q (.inr (.inr hq))), h.ne⟩

theorem Cn.set {w w' : World} {g j : Nat} {vo vi u : Value} {c : Cs} (h : Cn w g vo vi c) (e : w' = World.setCell w (Addr.add ⟨g, 0, none⟩ j) u) (c' : Cs) (hc : (rC c vo vi).setIfInBounds j u = rC c' vo vi) (ho : c'.out = c.out) (hi : c'.inn = c.inn) :
    Cn w' g vo vi c' ∧ Step (fpC g vo vi) w w' (fpC g vo vi) := by
  obtain ⟨b, t⟩ := setE h.b e
  refine ⟨⟨by rw [hc] at b; exact b, by rw [ho]; exact h.out.turn t (own_ne h.out h.b (by decide)), by rw [hi]; exact h.inn.turn t (own_ne h.inn h.b (by decide)), h.ne⟩, ?_⟩
  subst e
  exact Step.setA w _ u (by rw [add_block]; exact .inl rfl)
/-- a new row for the bytes on their way -/
theorem Cn.setO {w w' : World} {g : Nat} {vo vi vo' : Value} {c : Cs} {bs : List UInt8} (h : Cn w g vo vi c) (ho : OwnB w 0 tb vo' bs) (hn : ∀ k, vo'.ownBlock = some k → vi.ownBlock ≠ some k) (e : w' = World.setCell w (Addr.add ⟨g, 0, none⟩ 6) vo') :
    Cn w' g vo' vi { c with out := bs } ∧ Turn g w w' := by
  obtain ⟨b, t⟩ := setE h.b e
  exact ⟨⟨b, ho.turn t (own_ne ho h.b (by decide)), h.inn.turn t (own_ne h.inn h.b (by decide)), hn⟩, t⟩
theorem Cn.setI {w w' : World} {g : Nat} {vo vi vi' : Value} {c : Cs} {bs : List UInt8} (h : Cn w g vo vi c) (ho : OwnB w 0 tb vi' bs) (hn : ∀ k, vo.ownBlock = some k → vi'.ownBlock ≠ some k) (e : w' = World.setCell w (Addr.add ⟨g, 0, none⟩ 9) vi') :
    Cn w' g vo vi' { c with inn := bs } ∧ Turn g w w' := by
  obtain ⟨b, t⟩ := setE h.b e
  exact ⟨⟨b, h.out.turn t (own_ne h.out h.b (by decide)), ho.turn t (own_ne ho h.b (by decide)), hn⟩, t⟩

theorem New_c {w : World} {own : Int} {first : Bool} {R : KV} (k : ∀ w', Grow w w' → Cn w' w.heap.size (.slice none 0 0) (.slice none 0 0) (newC own first) → R (.pointer (some ⟨w.heap.size, 0, none⟩)) w') : Go.CW.Spec Try.prog 5 #[.int .u32 own, .bool first] w R := by
  apply conn_New_wp
  refine nm fun w0 e0 => ?_
  obtain ⟨b0, g0, _⟩ := alE e0
  exact k _ g0 ⟨b0, Own.nil _ _ _, Own.nil _ _ _, fun k hk => by cases hk⟩

theorem Tick_c {w : World} {g : Nat} {vo vi : Value} {c : Cs} {R : KV} (h : Cn w g vo vi c) (k : ∀ w', Step (fpC g vo vi) w w' (fpC g vo vi) → Cn w' g vo vi (tickC c) → R (.tuple #[]) w') : Go.CW.Spec Try.prog 16 #[.pointer (some ⟨g, 0, none⟩)] w R := by
  apply conn_Conn_Tick_m_wp
  refine withAddr_some ⟨st1_at h.b (by show 8 < 12; omega), nm fun w1 e1 => withAddr_some ?_⟩
  obtain ⟨h1, s1⟩ := h.set e1 { c with sent := 0 } rfl rfl rfl
  have fin : ∀ x w', x = (tickC c).say → w' = World.setCell w1 (Addr.add ⟨g, 0, none⟩ 11) (.bool x) → R (.tuple #[]) w' := by
    intro x w' hx e
    subst hx
    obtain ⟨h2, s2⟩ := h1.set e (tickC c) rfl rfl rfl
    exact k _ (s1.then s2) h2
  have fin' : ∀ x, x = (tickC c).say → St1 w1 (Addr.add ⟨g, 0, none⟩ 11) ∧ bindW (World.setCell w1 (Addr.add ⟨g, 0, none⟩ 11) (.bool x)) (fun w' => R (.tuple #[]) w') := fun x hx => ⟨st1_at h1.b (by show 11 < 12; omega), nm fun w5 e5 => fin x _ hx e5⟩
  have hl : ((c.out.length : Int) > 0) ↔ 0 < c.out.length := by omega
  refine ⟨_, h1.b.cell 11, cond_intro (fun d1 => withAddr_some (fin' _ ?_)) (fun d1 => withAddr_some ⟨_, h1.b.cell 1, cond_intro (fun d2 => withAddr_some ⟨_, h1.b.cell 3, cond_intro (fun d3 => withAddr_some (fin' _ ?_)) (fun d3 => withAddr_some ⟨_, h1.b.cell 3, cond_intro (fun d4 => withAddr_some ⟨_, h1.b.cell 4, cond_intro (fun d5 => withAddr_some (fin' _ ?_)) (fun d5 => withAddr_some ⟨_, h1.b.cell 6, _, RdB.len h1.out.rd, withAddr_some (fin' _ ?_)⟩)⟩) (fun d4 => withAddr_some ⟨_, h1.b.cell 6, _, RdB.len h1.out.rd, withAddr_some (fin' _ ?_)⟩)⟩)⟩) (fun d2 => withAddr_some ⟨_, h1.b.cell 3, cond_intro (fun d3 => withAddr_some ⟨_, h1.b.cell 4, cond_intro (fun d4 => withAddr_some (fin' _ ?_)) (fun d4 => withAddr_some ⟨_, h1.b.cell 6, _, RdB.len h1.out.rd, withAddr_some (fin' _ ?_)⟩)⟩) (fun d3 => withAddr_some ⟨_, h1.b.cell 6, _, RdB.len h1.out.rd, withAddr_some (fin' _ ?_)⟩)⟩)⟩)⟩
  all_goals simp_all [tickC]

theorem Send_c {w : World} {g : Nat} {vo vi src : Value} {c : Cs} {bs : List UInt8} {R : KV} (h : Cn w g vo vi c) (hf : CsFits c) (hr : RdB w src bs)
    (k : ∀ vo' w', Step (fpC g vo vi) w w' (fpC g vo' vi) → Cn w' g vo' vi (sendC c bs) → R (.int .i64 (sendN c bs : Nat)) w') : Go.CW.Spec Try.prog 7 #[.pointer (some ⟨g, 0, none⟩), src] w R := by
  apply conn_Conn_Send_m_wp
  have hle := hr.le
  rw [List.length_map] at hle
  have hout := hf.out
  refine withAddr_some ⟨_, h.b.cell 5, cond_intro (fun d => ?_) (fun d => ?_)⟩
  · have := k vo w (Step.refl _ _) (by simp only [sendC, d, if_true]; exact h)
    simp only [sendN, d, if_true] at this
    exact this
  refine ⟨_, RdB.len hr, withAddr_some ⟨_, h.b.cell 6, _, RdB.len h.out.rd, nm fun w6 e6 => ?_⟩⟩
  have g6 := drE e6
  have h6 := h.grow g6
  rw [wi64_id (n := 4096 - (c.out.length : Int)) (by omega) (by omega)]
  have hn : (if (4096 - (c.out.length : Int)) < (bs.length : Int) then (4096 - (c.out.length : Int)) else (bs.length : Int)) = ((sendN c bs : Nat) : Int) := by
    simp only [sendN, d, Bool.false_eq_true, if_false]
    split <;> omega
  rw [hn]
  have hsn : sendN c bs ≤ bs.length ∧ c.out.length + sendN c bs ≤ 4096 := by
    simp only [sendN, d, Bool.false_eq_true, if_false]; omega
  obtain ⟨v9, hs9, hr9, _⟩ := Rd.sub hr (lo := none) (hi := some (.int .i64 ((sendN c bs : Nat) : Int))) (l := 0) (r := sendN c bs) (fun cap hc => by rw [bounds_ni (by omega) (by simp at hc; omega)]; simp) (by omega) (by simp; omega)
  have r9 : RdB w v9 (bs.take (sendN c bs)) := by simpa [RdB, List.map_take] using hr9
  refine withAddr_some ⟨_, h6.b.cell 6, v9, hs9, nm fun w10 e10 => ?_⟩
  obtain rfl : w10 = w6 := e10.trans e6.symm
  have hlt : (bs.take (sendN c bs)).length = sendN c bs := by rw [List.length_take]; omega
  obtain ⟨v11, w12, k11, o11, n11⟩ := app_bytes h6.out (r9.grow g6) (Nat.zero_le _) (by rw [hlt]; omega)
  refine ⟨v11, w12, k11, withAddr_some (oneK_of (Rd.isOne o11.rd) ?_)⟩
  have st := Step.of_own (S := fpC g vo vi) n11 (fun q hq => .inr (.inl hq))
  have b12 : BK w12 g (rC c vo vi) tC := (n11.by_.block g h6.b.lt (fun e => own_ne h6.out h6.b (by decide) e.symm)).trans h6.b
  have hn12 : ∀ q, v11.ownBlock = some q → vi.ownBlock ≠ some q := by
    intro q hq hvi
    rcases n11.at_ with a | a
    · exact h6.ne q (a ▸ hq) hvi
    · have := a q hq; have := h6.inn.ltS q hvi; omega
  have i12 : OwnB w12 0 tb vi c.inn := by
    refine h6.inn.stepS (S := fun k => vo.ownBlock = some k) (S' := fun k => vo.ownBlock = some k ∨ v11.ownBlock = some k) (Step.of_own n11 (fun q hq => hq)) (fun q hq e => h6.ne q e hq)
  have h12 : Cn w12 g vo vi c → True := fun _ => trivial
  refine ⟨st1_at b12 (by show 6 < 12; omega), nm fun w14 e14 => nm fun w15 e15 => ?_⟩
  obtain rfl : w15 = w14 := e15.trans e14.symm
  obtain ⟨b15, t15⟩ := setE b12 e15
  have e : sendC c bs = { c with out := c.out ++ bs.take (sendN c bs) } := by unfold sendC; rw [if_neg (by rw [d]; simp)]
  refine k v11 w15 ?_ ?_
  · have s2 : Step (fun q => fpC g vo vi q ∨ v11.ownBlock = some q) w12 w15 (fun q => fpC g vo vi q ∨ v11.ownBlock = some q) := by
      subst e15; exact Step.setA w12 _ _ (by rw [add_block]; exact .inl (.inl rfl))
    exact ((Step.of_grow g6).then (st.then s2)).imp (fun _ h => h) (fun q hq => by
      rcases hq with rfl | hq | hq
      · exact .inl (.inl rfl)
      · rcases n11.at_ with a | a
        · exact .inl (.inr (.inl (a ▸ hq)))
        · exact .inr (Nat.le_trans g6.size (a q hq))
      · exact .inl (.inr (.inr hq)))
  · rw [e]
    exact ⟨b15, o11.turn t15 (own_ne o11 b12 (by decide)), i12.turn t15 (own_ne i12 b12 (by decide)), hn12⟩

theorem Recv_c {w : World} {g : Nat} {vo vi : Value} {c : Cs} {R : KV} (h : Cn w g vo vi c)
    (k : ∀ v' w', Step (fpC g vo vi) w w' (fpC g vo (.slice none 0 0)) → Cn w' g vo (.slice none 0 0) { c with inn := [] } → RdX (fpC g vo (.slice none 0 0)) w' v' (c.inn.map b8) → (∀ q, v'.ownBlock = some q → vi.ownBlock = some q) → R v' w') : Go.CW.Spec Try.prog 9 #[.pointer (some ⟨g, 0, none⟩)] w R := by
  apply conn_Conn_Recv_m_wp
  refine withAddr_some ⟨_, h.b.cell 9, slices_Clip_c h.inn.rd fun v2 r2 e2 => withAddr_some ⟨st1_at h.b (by show 9 < 12; omega), nm fun w5 e5 => ?_⟩⟩
  obtain ⟨h5, t5⟩ := h.setI (bs := []) (Own.nil w 0 tb) (fun k _ hk => by cases hk) e5
  have hb : ∀ q, v2.ownBlock = some q → vi.ownBlock = some q := fun q hq => e2 ▸ hq
  have s5 : Step (fpC g vo vi) w w5 (fpC g vo (.slice none 0 0)) := by
    subst e5
    exact (Step.setA (S := fpC g vo vi) w _ _ (by rw [add_block]; exact .inl rfl)).imp (fun _ h => h) (fun q hq => by
      rcases hq with rfl | hq | hq
      · exact .inl (.inl rfl)
      · exact .inl (.inr (.inl hq))
      · cases hq)
  refine k v2 w5 s5 h5 ⟨r2.turn t5 (fun e => own_ne h.inn h.b (by decide) (hb _ e)), fun _ q hq hs => ?_⟩ hb
  rcases hs with rfl | hs | hs
  · exact own_ne h.inn h.b (by decide) (hb _ hq)
  · exact h.ne q hs (hb _ hq)
  · cases hs

theorem Idle_c {w : World} {g : Nat} {vo vi : Value} {c : Cs} {R : KV} (h : Cn w g vo vi c) (k : R (.bool ((c.out.length : Int) == 0)) w) : Go.CW.Spec Try.prog 10 #[.pointer (some ⟨g, 0, none⟩)] w R := by
  apply conn_Conn_Idle_m_wp
  exact withAddr_some ⟨_, h.b.cell 6, _, RdB.len h.out.rd, k⟩
theorem Reset_c {w : World} {g : Nat} {vo vi : Value} {c : Cs} {R : KV} (h : Cn w g vo vi c) (k : R (.bool c.reset) w) : Go.CW.Spec Try.prog 12 #[.pointer (some ⟨g, 0, none⟩)] w R := by
  apply conn_Conn_Reset_m_wp
  exact withAddr_some ⟨_, h.b.cell 5, k⟩
theorem Up_c {w : World} {g : Nat} {vo vi : Value} {c : Cs} {R : KV} (h : Cn w g vo vi c) (k : R (.bool (c.known && c.met && !c.reset)) w) : Go.CW.Spec Try.prog 11 #[.pointer (some ⟨g, 0, none⟩)] w R := by
  apply conn_Conn_Up_m_wp
  refine JoinP.bool (fun b w' => w' = w ∧ b = (c.known && c.met && !c.reset)) (fun j hj => ?_) (by rintro b w' ⟨rfl, rfl⟩; exact k)
  refine withAddr_some ⟨_, h.b.cell 3, cond_intro (fun d1 => withAddr_some ⟨_, h.b.cell 4, cond_intro (fun d2 => withAddr_some ⟨_, h.b.cell 5, hj _ _ ⟨rfl, by simp [d1, d2]⟩⟩) (fun d2 => hj _ _ ⟨rfl, by simp [d2]⟩)⟩) (fun d1 => hj _ _ ⟨rfl, by simp [d1]⟩)⟩

end Go.Proofs.Ytnmofoekabbjlaa
