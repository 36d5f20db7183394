/- The contracts of a stream's end: In; a round of two. -/
import Derived.Test.YtnmofoekabbjlaaConO
set_option linter.unusedVariables false
set_option linter.unusedSimpArgs false
set_option maxRecDepth 100000
namespace Go.Proofs.Ytnmofoekabbjlaa
open Go Go.CW Go.RowKit Go.Crc

theorem byte_at {w : World} {v : Value} {bs : List UInt8} (h : RdB w v bs) (i : Nat) (hi : i < bs.length) : ∃ a, sliceAt v (i : Int) 1 = some a ∧ w.cell? a = some (.int .u8 ((bs.getD i 0).toNat : Int)) := by
  obtain ⟨a, h1, h2⟩ := RdB.at h (i := (i : Int)) (by omega) (by omega)
  refine ⟨a, h1, h2.trans ?_⟩
  have : bs.getD i 0 = bs[((i : Int)).toNat]'(by omega) := by
    simp only [Int.toNat_natCast]
    rw [List.getD_eq_getElem?_getD, List.getElem?_eq_getElem hi]; rfl
  rw [this]

theorem crc_Open_n {w : World} {v : Value} {bs : List UInt8} {R : KV} (hr : RdB w v bs) (hb : bs.length ≤ 1000000000000)
    (k : ∀ v' w', Grow w w' → RdB w' v' (opB bs) → NewV w v' → R (.tuple #[v', .int .i64 (opE bs)]) w') : Go.CW.Spec Try.prog 13 #[v] w R := by
  have nn : NewV w (.slice none 0 0) := fun q hq => by cases hq
  apply crc_Open_wp
  refine ⟨_, RdB.len hr, cond_intro (fun h => ?_) (fun h => ⟨_, RdB.len hr, ?_⟩)⟩
  · have h4 : bs.length < 4 := by simp at h; omega
    have := k (.slice none 0 0) w (Grow.refl w) (by simp only [opB, h4, if_true]; exact Rd.nil w) nn
    simp only [opE, h4, if_true] at this
    exact this
  · have h4 : ¬ bs.length < 4 := by simp at h; omega
    rw [wi64_id (n := (bs.length : Int) - 4) (by omega) (by omega)]
    have e : ((bs.length : Int) - 4).toNat = bs.length - 4 := by omega
    obtain ⟨v2, h2, r2, _⟩ := hr.sub (lo := none) (hi := some (.int .i64 ((bs.length : Int) - 4))) (l := 0) (r := bs.length - 4) (fun cap hc => by rw [bounds_ni (by omega) (by rw [List.length_map] at hc; omega), e]) (by omega) (by simp)
    have r2 : RdB w v2 (bodyOf bs) := by simpa [RdB, bodyOf, List.map_take] using r2
    have hbl : (bodyOf bs).length = bs.length - 4 := by simp [bodyOf]
    refine ⟨v2, h2, _, RdB.len r2, ?_⟩
    rw [hbl]
    obtain ⟨v4, h5, r4, _⟩ := hr.sub (lo := some (.int .i64 ((bs.length - 4 : Nat) : Int))) (hi := none) (l := bs.length - 4) (r := bs.length) (fun cap hc => by rw [List.length_map, bounds_in (by omega) (by omega)]; simp) (by omega) (by simp)
    have r4 : RdB w v4 (tailOf bs) := by
      have e : ((bs.map b8).drop (bs.length - 4)).take (bs.length - (bs.length - 4)) = (tailOf bs).map b8 := by
        rw [List.take_of_length_le (by simp), tailOf, List.map_drop]
      rw [e] at r4; exact r4
    refine ⟨v4, h5, ?_⟩
    have gd := Grow.dr (Grow.refl w)
    refine crc_Sum_c (r2.grow gd) fun w5 g5 => ⟨_, rfl, ?_⟩
    refine crc_low_c (B := w5.heap.size) (bs := []) (Own.nil w5 _ tb) (Nat.le_refl _) (by simp) fun v6 w6 n6 o6 => ?_
    have g6 := gd.then (g5.then (n6.below (Nat.le_refl _) (fun k hk => by cases hk)))
    refine slices_Equal_c o6.rd (r4.grow g6) fun w7 g7 => ⟨_, rfl, cond_intro (fun h8 => ?_) (fun h8 => ?_)⟩
    · have hne : ¬ tailOf bs = le4 (sum (bodyOf bs)) := by
        simp at h8; exact fun e => h8 e.symm
      have := k (.slice none 0 0) w7 (g6.then g7) (by simp only [opB, h4, hne, if_false]; exact Rd.nil w7) nn
      simp only [opE, h4, hne, if_false] at this
      exact this
    · have heq : tailOf bs = le4 (sum (bodyOf bs)) := by
        simp at h8; exact h8.symm
      refine slices_Clone_c (r2.grow (g6.then g7)) (by omega) fun v9 w9 g9 o9 => ?_
      refine slices_Clip_c o9.rd fun v10 r10 e10 => ?_
      have := k v10 w9 ((g6.then g7).then g9) (by simp only [opB, h4, heq, if_false, if_true]; exact r10) (fun q hq => Nat.le_trans (g6.then g7).size (o9.blk q (e10 ▸ hq)))
      simp only [opE, h4, heq, if_false, if_true] at this
      exact this

/-- too few bytes turn nothing -/
theorem In_short {w : World} {g : Nat} {v : Value} {bs : List UInt8} {R : KV} (hr : RdB w v bs) (hb : bs.length < 4) (k : ∀ w', Grow w w' → R (.tuple #[]) w') : Go.CW.Spec Try.prog 6 #[.pointer (some ⟨g, 0, none⟩), v] w R := by
  apply conn_Conn_In_m_wp
  have e3 : opE bs = 3 := by unfold opE; rw [if_pos hb]
  refine crc_Open_n hr (by omega) fun v2 w1 g1 r1 n1 => ⟨_, _, rfl, ?_⟩
  rw [e3]
  exact JoinP.bool (fun b w' => w' = w1 ∧ b = true) (fun j hj => cond_t (by rfl) (hj _ _ ⟨rfl, rfl⟩)) (by rintro b w' ⟨rfl, rfl⟩; exact k _ g1)

theorem num_at (p : Pk) (pf : PkFits p) (i : Nat) (hi : i < 4) : getV (p.head ++ p.bs) (1 + 4 * (i : Int)) 4 = p.nums.getD i 0 ∧ u32 (p.nums.getD i 0) := by
  have key : ∀ (pre post : List UInt8) (x : Int), u32 x → ∀ a : Int, a = (pre.length : Int) → getV (pre ++ putL x 4 ++ post) a 4 = x := by
    intro pre post x hx a ha
    have := getV_at (pre := pre) (post := post) (x := x) (n := 4) hx.1 (by omega) ha
    rw [show (4 : Int) = ((4 : Nat) : Int) from rfl, this]
    exact Int.emod_eq_of_lt hx.1 (by simpa using hx.2)
  have a0 := key [p.k] (putL p.mine 4 ++ putL p.ack 4 ++ putL p.pos 4 ++ p.bs) p.life pf.life 1 rfl
  have a1 := key ([p.k] ++ putL p.life 4) (putL p.ack 4 ++ putL p.pos 4 ++ p.bs) p.mine pf.mine 5 (by simp [putL_length])
  have a2 := key ([p.k] ++ putL p.life 4 ++ putL p.mine 4) (putL p.pos 4 ++ p.bs) p.ack pf.ack 9 (by simp [putL_length])
  have a3 := key ([p.k] ++ putL p.life 4 ++ putL p.mine 4 ++ putL p.ack 4) p.bs p.pos pf.pos 13 (by simp [putL_length])
  have : i = 0 ∨ i = 1 ∨ i = 2 ∨ i = 3 := by omega
  have e : p.head ++ p.bs = [p.k] ++ (putL p.life 4 ++ (putL p.mine 4 ++ (putL p.ack 4 ++ (putL p.pos 4 ++ p.bs)))) := by simp only [Pk.head, List.append_assoc]
  simp only [List.append_assoc] at a0 a1 a2 a3
  rw [e]
  rcases this with rfl | rfl | rfl | rfl
  · exact ⟨a0, pf.life⟩
  · exact ⟨a1, pf.mine⟩
  · exact ⟨a2, pf.ack⟩
  · exact ⟨a3, pf.pos⟩

/-- the four numbers while they are read -/
def rN (l : List Int) (i : Nat) : Array Value := #[.int .u32 (if 0 < i then l.getD 0 0 else 0), .int .u32 (if 1 < i then l.getD 1 0 else 0), .int .u32 (if 2 < i then l.getD 2 0 else 0), .int .u32 (if 3 < i then l.getD 3 0 else 0)]
theorem rN_next (l : List Int) (i : Nat) (hi : i < 4) : (rN l i).setIfInBounds i (.int .u32 (l.getD i 0)) = rN l (i + 1) := by
  have : i = 0 ∨ i = 1 ∨ i = 2 ∨ i = 3 := by omega
  rcases this with rfl | rfl | rfl | rfl <;> rfl

theorem In_c {w : World} {g : Nat} {vo vi v : Value} {c : Cs} {p : Pk} {R : KV} (h : Cn w g vo vi c) (hf : CsFits c) (pf : PkFits p) (hr : RdB w v p.enc)
    (k : ∀ vo' vi' w', Step (fpC g vo vi) w w' (fpC g vo' vi') → Cn w' g vo' vi' (inC c p) → R (.tuple #[]) w') : Go.CW.Spec Try.prog 6 #[.pointer (some ⟨g, 0, none⟩), v] w R := by
  apply conn_Conn_In_m_wp
  have hbl := pf.bs
  have hhl := Pk.head_length p
  obtain ⟨q1, q2⟩ := opE_sld (p.head ++ p.bs)
  have hle : p.enc.length ≤ 10000 := by rw [Pk.enc, sld_length, List.length_append]; omega
  refine crc_Open_n hr (by omega) fun v2 w1 g1 r1 n1 => ⟨_, _, rfl, ?_⟩
  rw [show opE p.enc = 0 from q1]
  rw [show opB p.enc = p.head ++ p.bs from q2] at r1
  have hlen : (p.head ++ p.bs).length = 17 + p.bs.length := by rw [List.length_append]; omega
  have hin := h.isIn
  have h1 := h.grow g1
  have x1 : RdX (fpC g vo vi) w1 v2 ((p.head ++ p.bs).map b8) := RdX.new r1 n1 hin
  have hk0 : (p.head ++ p.bs).getD 0 0 = p.k := rfl
  have hkk : (p.k.toNat : Int) ≤ 2 := by have := pf.k; have : p.k.toNat ≤ 2 := this; omega
  refine JoinP.bool (fun b w' => w' = w1 ∧ b = c.reset) (fun j hj => ?_) ?_
  · obtain ⟨a, ha, hc⟩ := byte_at r1 0 (by omega)
    rw [hk0] at hc
    exact cond_f (by rfl) ⟨_, RdB.len r1, cond_f (by rw [hlen]; simp; omega) ⟨a, ha, _, hc, cond_f (by simp; omega) (withAddr_some ⟨_, h1.b.cell 5, hj _ _ ⟨rfl, rfl⟩⟩)⟩⟩
  rintro b w5 ⟨rfl, rfl⟩
  refine cond_intro (fun d => ?_) (fun d => ?_)
  · have := k vo vi w5 (Step.of_grow g1)
    unfold inC at this
    rw [if_pos d] at this
    exact this h1
  refine nm fun w6 e6 => ?_
  obtain ⟨b6, g6, _⟩ := alE e6
  clear e6
  have hP : w5.heap.size < w6.heap.size := b6.lt
  refine ⟨fun (i : Int) (ww : World) => 0 ≤ i ∧ i ≤ 4 ∧ Below w5.heap.size w5 ww ∧ BK ww w5.heap.size (rN p.nums i.toNat) 38, fun (i : Int) (_ : World) => (4 - i).toNat, ⟨by omega, by omega, g6, b6⟩, ?_⟩
  dsimp only [allR, mapR2, eqN, ltN]
  rintro m i ww ⟨⟨i0, i1, gg, bn⟩, hm⟩
  have g5w : Grow w5 ww := gg
  refine cond_intro (fun e => ?_) (fun e => ?_)
  · have e : i < 4 := by simpa using e
    rw [wi64_id (n := 4 * i) (by omega) (by omega), wi64_id (n := 1 + 4 * i) (by omega) (by omega)]
    refine bin_Get_c (r1.grow g5w) ⟨by simp [IntKind.min, IntKind.bits, IntKind.signed]; omega, by simp [IntKind.max, IntKind.bits, IntKind.signed]; omega⟩ (by decide) ⟨_, _, rfl, ⟨i0, e⟩, ?_⟩
    obtain ⟨hnum, hx⟩ := num_at p pf i.toNat (by omega)
    rw [show (1 : Int) + 4 * (i.toNat : Int) = 1 + 4 * i by omega] at hnum
    rw [hnum, Nat.mul_one]
    refine ⟨st1_at bn (by show i.toNat < 4; omega), nm fun w14 e14 => ?_⟩
    rw [w32_id hx.1 hx.2] at e14
    obtain ⟨b14, t14⟩ := setE bn e14
    rw [rN_next _ _ (by omega)] at b14
    rw [wi64_id (n := i + 1) (by omega) (by omega)]
    have e1 : (i + 1).toNat = i.toNat + 1 := by omega
    exact ⟨⟨by omega, by omega, Below.turn gg t14 (Nat.le_refl _), by rw [e1]; exact b14⟩, by omega⟩
  have e : ¬ i < 4 := by simpa using e
  obtain rfl : i = 4 := by omega
  have bn : BK ww w5.heap.size #[.int .u32 p.life, .int .u32 p.mine, .int .u32 p.ack, .int .u32 p.pos] 38 := bn
  refine nm fun w15 e15 => ?_
  have g15 := drE e15
  have b15 := bn.grow g15
  have gA := g5w.then g15
  have in4 : ∀ x : Int, 0 ≤ x → x < 4 → inR x 4 := fun x h0 h1 => ⟨h0, h1⟩
  refine ⟨in4 0 (by omega) (by omega), _, b15.cell 0, in4 1 (by omega) (by omega), _, b15.cell 1, in4 2 (by omega) (by omega), _, b15.cell 2, in4 3 (by omega) (by omega), _, b15.cell 3, nm fun w20 e20 => ?_⟩
  obtain rfl : w20 = w15 := e20.trans e15.symm
  have h20 := h1.grow gA
  have x20 := x1.grow gA
  have st0 : Step (fpC g vo vi) w w20 (fpC g vo vi) := Step.of_grow (g1.then gA)
  have hinC : ∀ vo' vi' w' c', c' = inC c p → Step (fpC g vo vi) w w' (fpC g vo' vi') → Cn w' g vo' vi' c' → R (.tuple #[]) w' := by
    intro vo' vi' w' c' e s hc; subst e; exact k vo' vi' w' s hc
  refine JoinP.bool (fun b w' => w' = w20 ∧ b = decide (c.known = true ∧ p.life ≠ c.peer)) (fun j hj => ?_) ?_
  · refine withAddr_some ⟨_, h20.b.cell 3, cond_intro (fun e1 => withAddr_some ⟨_, h20.b.cell 2, hj _ _ ⟨rfl, ?_⟩⟩) (fun e1 => hj _ _ ⟨rfl, ?_⟩)⟩
    · rw [Bool.eq_iff_iff]; simp [e1]
    · rw [Bool.eq_iff_iff]; simp [e1]
  rintro b w22 ⟨rfl, rfl⟩
  refine cond_intro (fun e1 => ?_) (fun e1 => ?_)
  · have e1 := of_decide_eq_true e1
    refine withAddr_some ⟨st1_at h20.b (by show 5 < 12; omega), nm fun w24 e24 => ?_⟩
    obtain ⟨h24, s24⟩ := h20.set e24 { c with reset := true } rfl rfl rfl
    refine hinC vo vi w24 _ ?_ (st0.then s24) h24
    unfold inC
    rw [if_neg (by rw [d]; simp), if_pos e1]
  have e1 := of_decide_eq_false e1
  -- the other end is known from now on
  have three : (p.k = 0 ∨ p.mine ≠ c.own) → (withAddr (.pointer (some ⟨g, 0, none⟩)) fun a27 => St1 w22 (Addr.add a27 2) ∧ bindW (World.setCell w22 (Addr.add a27 2) (.int .u32 p.life)) fun w28 => withAddr (.pointer (some ⟨g, 0, none⟩)) fun a29 => St1 w28 (Addr.add a29 3) ∧ bindW (World.setCell w28 (Addr.add a29 3) (.bool true)) fun w30 => withAddr (.pointer (some ⟨g, 0, none⟩)) fun a31 => St1 w30 (Addr.add a31 11) ∧ bindW (World.setCell w30 (Addr.add a31 11) (.bool true)) fun w32 => R (.tuple #[]) w32) := by
    intro hq
    refine withAddr_some ⟨st1_at h20.b (by show 2 < 12; omega), nm fun w28 e28 => withAddr_some ?_⟩
    obtain ⟨h28, s28⟩ := h20.set e28 { c with peer := p.life } rfl rfl rfl
    refine ⟨st1_at h28.b (by show 3 < 12; omega), nm fun w30 e30 => withAddr_some ?_⟩
    obtain ⟨h30, s30⟩ := h28.set e30 { c with peer := p.life, known := true } rfl rfl rfl
    refine ⟨st1_at h30.b (by show 11 < 12; omega), nm fun w32 e32 => ?_⟩
    obtain ⟨h32, s32⟩ := h30.set e32 { c with peer := p.life, known := true, say := true } rfl rfl rfl
    refine hinC vo vi w32 _ ?_ (st0.then (s28.then (s30.then s32))) h32
    unfold inC
    rw [if_neg (by rw [d]; simp), if_neg e1, if_pos hq]
  obtain ⟨a25, ha25, hc25⟩ := byte_at x20.1 0 (by omega)
  rw [hk0] at hc25
  refine ⟨a25, ha25, _, hc25, cond_intro (fun e2 => ?_) (fun e2 => ?_)⟩
  · have e2 : p.k = 0 := UInt8.toNat_inj.1 (by have : (p.k.toNat : Int) = 0 := by simpa using e2
                                               show p.k.toNat = 0; omega)
    exact three (.inl e2)
  have e2 : p.k ≠ 0 := fun e => by rw [e] at e2; simp at e2
  refine withAddr_some ⟨_, h20.b.cell 0, cond_intro (fun e3 => three (.inr (by simpa using e3))) (fun e3 => ?_)⟩
  have e3 : p.mine = c.own := by simpa using e3
  have hq : ¬ (p.k = 0 ∨ p.mine ≠ c.own) := by simp [e2, e3]
  have hs : ∀ x : Bool, (x = (c.say || !c.met || p.k == 1)) → ∀ w', w' = World.setCell w22 (Addr.add ⟨g, 0, none⟩ 11) (.bool x) → Cn w' g vo vi { c with say := c.say || !c.met || p.k == 1 } ∧ Step (fpC g vo vi) w22 w' (fpC g vo vi) := by
    intro x hx w' e
    subst hx
    exact h20.set e { c with say := c.say || !c.met || p.k == 1 } rfl rfl rfl
  have st11 : St1 w22 (Addr.add ⟨g, 0, none⟩ 11) := st1_at h20.b (by show 11 < 12; omega)
  refine JoinP.unit (fun w' => Cn w' g vo vi { c with say := c.say || !c.met || p.k == 1 } ∧ Step (fpC g vo vi) w22 w' (fpC g vo vi)) (fun j hj => ?_) ?_
  · refine withAddr_some ⟨_, h20.b.cell 11, cond_intro (fun d1 => withAddr_some ⟨st11, nm fun w5' e5 => hj _ (hs _ (by simp [d1]) _ e5)⟩) (fun d1 => withAddr_some ⟨_, h20.b.cell 4, cond_intro (fun d2 => withAddr_some ⟨st11, nm fun w5' e5 => hj _ (hs _ (by simp only [Bool.not_eq_true'] at d2; simp [d2]) _ e5)⟩) (fun d2 => ⟨a25, ha25, _, hc25, withAddr_some ⟨st11, nm fun w5' e5 => hj _ (hs _ ?_ _ e5)⟩⟩)⟩)⟩
    simp only [Bool.not_eq_false'] at d2
    rw [Bool.eq_iff_iff]
    simp only [d1, d2, Bool.not_true, Bool.or_self, Bool.false_or, beq_iff_eq]
    constructor
    · intro hh; exact UInt8.toNat_inj.1 (by show p.k.toNat = 1; omega)
    · intro hh; rw [hh]; rfl
  rintro w41 ⟨h41, s41⟩
  refine withAddr_some ⟨st1_at h41.b (by show 2 < 12; omega), nm fun w43 e43 => withAddr_some ?_⟩
  obtain ⟨h43, s43⟩ := h41.set e43 { c with say := c.say || !c.met || p.k == 1, peer := p.life } rfl rfl rfl
  refine ⟨st1_at h43.b (by show 3 < 12; omega), nm fun w45 e45 => withAddr_some ?_⟩
  obtain ⟨h45, s45⟩ := h43.set e45 { c with say := c.say || !c.met || p.k == 1, peer := p.life, known := true } rfl rfl rfl
  refine ⟨st1_at h45.b (by show 4 < 12; omega), nm fun w47 e47 => ?_⟩
  obtain ⟨h47, s47⟩ := h45.set e47 { c with say := c.say || !c.met || p.k == 1, peer := p.life, known := true, met := true } rfl rfl rfl
  have sA : Step (fpC g vo vi) w22 w47 (fpC g vo vi) := s41.then (s43.then (s45.then s47))
  have x47 := x20.step sA
  obtain ⟨v48, hs48, hr48, ob48⟩ := Rd.sub x47.1 (lo := some (.int .i64 17)) (hi := none) (l := 17) (r := (p.head ++ p.bs).length) (fun cap hc => by rw [bounds_in (by omega) (by simp; omega)]; simp) (by omega) (by simp)
  have r48 : RdB w47 v48 p.bs := by
    have e : (((p.head ++ p.bs).map b8).drop 17).take ((p.head ++ p.bs).length - 17) = p.bs.map b8 := by
      rw [← List.map_drop, List.drop_append_of_le_length (by omega), List.drop_of_length_le (by omega), List.nil_append, List.take_of_length_le (by rw [List.length_map]; omega)]
    rw [e] at hr48; exact hr48
  have x48 : RdX (fpC g vo vi) w47 v48 (p.bs.map b8) := x47.part r48 ob48 (fun _ e => by have := congrArg List.length e; rw [List.length_map, hlen] at this; simp at this)
  refine ⟨v48, hs48, take_c h47 ⟨hf.own, pf.life, hf.base, hf.got, hf.s0, hf.s1, hf.out, hf.inn⟩ x48 hbl pf.ack fun vo' vi' w50 s50 h50 => ⟨rfl, ?_⟩⟩
  refine hinC vo' vi' w50 _ ?_ (st0.then (sA.then s50)) h50
  unfold inC
  rw [if_neg (by rw [d]; simp), if_neg e1, if_neg hq]

end Go.Proofs.Ytnmofoekabbjlaa
