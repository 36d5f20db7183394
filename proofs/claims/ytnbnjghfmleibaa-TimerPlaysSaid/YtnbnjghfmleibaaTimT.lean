/- A tick; what a good heap of timers does; known. -/
import Derived.Test.YtnbnjghfmleibaaTimM
set_option linter.unusedVariables false
set_option linter.unusedSimpArgs false
namespace Go.Proofs.Ytnbnjghfmleibaa
open Go Go.CW Go.RowKit

/-- true, and what was there stays -/
def Law (w : World) : KV := fun v w' => v = .bool true ∧ Grow w w'
theorem Law.calls {f : FuncId} {args : Array Value} {w : World} (h : Go.CW.Spec Try.prog f args w (Law w)) : Calls Try.prog f args w fun e w' => e = .returned (.bool true) ∧ Below w.heap.size w w' :=
  Calls.mono h fun e w' ⟨v, he, hv, hg⟩ => ⟨by rw [he, hv], hg⟩

theorem E1_at {w : World} {v : Value} {L : List Int} (h : RdR E1 w v L) {i : Int} (h0 : 0 ≤ i) (h1 : i < L.length) :
    ∃ a, sliceAt v i 1 = some a ∧ w.cell? a = some (.int .i64 (L[i.toNat]'(by omega))) := by
  obtain ⟨a, ha, hc, _⟩ := h.at h0 h1
  have := hc 0 (by decide)
  rw [add_zero] at this
  exact ⟨a, ha, this⟩

theorem slices_Clip_c {w : World} {v : Value} {L : List Int} {R : KV} (hr : RdR E1 w v L) (k : ∀ v', RdR E1 w v' L → v'.ownBlock = v.ownBlock → R v' w) : Go.CW.Spec Try.prog 26 #[v] w R := by
  apply slices_Clip___wp
  refine ⟨_, hr.len, _, hr.len, ?_⟩
  obtain ⟨a, cap, rfl, h1, h2, h3, h4⟩ := hr
  have h0 : (0 : Int) ≤ (L.length : Int) := by omega
  refine ⟨.slice a L.length L.length, ?_, k _ ⟨a, L.length, rfl, by simp, by omega, fun h => by have := h3 h; omega, h4⟩ (by cases a <;> rfl)⟩
  have e : (L.length : Int) ≤ cap := by omega
  simp only [subSlice, boundsOf, boundOf, h0, e, and_self, if_true, Int.toNat_natCast, Int.le_refl, Nat.sub_zero]
  split
  · rfl
  · cases a <;> simp [add_zero]

theorem popF_len (H : List (Int × Int)) (now : Int) : (popF H now).1.length ≤ H.length := by
  induction H using popF.induct (now := now) with
  | case1 H h ih =>
    rw [popF, dif_pos h]
    rw [remF_length] at ih
    simp only [List.length_cons]; omega
  | case2 H h => rw [popF, dif_neg h]; simp

theorem Tick_c {w : World} {b : Nat} {v : Value} {H : List (Int × Int)} {now : Int} {R : KV} (h : TS w b v H now) (hs : H.length ≤ 1000000) (hw : 0 ≤ now ∧ now ≤ 1000000000000)
    (c : ∀ v' vo w', Step (FT b v) w w' (FT b v') → TS w' b v' (popF H (now + 1)).2 (now + 1) → RdR E1 w' vo (popF H (now + 1)).1 → (∀ k, vo.ownBlock = some k → w.heap.size ≤ k ∧ k < w'.heap.size ∧ ¬ FT b v' k) → R vo w') :
    Go.CW.Spec Try.prog 11 #[.pointer (some ⟨b, 0, none⟩)] w R := by
  apply timer_Timers_Tick_m_wp
  refine withAddr_some ⟨now, h.c1, withAddr_some ?_⟩
  rw [wi64_id (n := now + 1) (by omega) (by omega)]
  obtain ⟨s1, t1⟩ := h.setNow (now + 1)
  have st1 : Step (FT b v) w (w.setCell (Addr.add ⟨b, 0, none⟩ 1) (.int .i64 (now + 1))) (FT b v) := Step.setA w _ _ (.inl (add_block _ _))
  generalize w.setCell (Addr.add ⟨b, 0, none⟩ 1) (.int .i64 (now + 1)) = w1 at *
  generalize now + 1 = n1 at *
  refine ⟨s1, fun (vo : Value) (ww : World) => ∃ v' H' out, Step (FT b v) w ww (FT b v') ∧ TS ww b v' H' n1 ∧ OwnR E1 ww 0 tI vo out ∧ (∀ k, vo.ownBlock = some k → w.heap.size ≤ k ∧ ¬ FT b v' k) ∧
      H'.length ≤ H.length ∧ out.length + H'.length ≤ H.length ∧ out ++ (popF H' n1).1 = (popF H n1).1 ∧ (popF H' n1).2 = (popF H n1).2,
    fun (vo : Value) (ww : World) => H.length - (sliceLen vo).getD 0, ?_, ?_⟩
  · exact ⟨v, H, [], st1, t1, OwnR.nil _ _ _, (fun k hk => by cases hk), Nat.le_refl _, by simp, rfl, rfl⟩
  dsimp only [allR, mapR2, eqN, ltN]
  rintro m vo ww ⟨⟨v', H', out, st, t, o, hne, hl, hl2, e1, e2⟩, hm⟩
  have hlen := o.rd.len
  rw [hlen] at hm
  simp only [Option.getD_some] at hm
  refine JoinP.bool (fun b6 w' => w' = World.drew ww ∧ b6 = decide (0 < H'.length ∧ (nth H' 0).2 ≤ n1)) (fun j hj => ?_) ?_
  · have td := t.grow (Grow.dr (Grow.refl ww))
    refine withAddr_some ⟨_, td.c0, _, td.row.rd.len, cond_intro (fun hp => ?_) (fun hp => hj _ _ ⟨rfl, ?_⟩)⟩
    · simp at hp
      obtain ⟨a, ha, _, _, _, c1, _⟩ := td.put (i := 0) (by omega) (by omega)
      rw [← nth_get _ _ (by omega)] at c1
      refine withAddr_some ⟨_, td.c0, a, ha, _, c1, withAddr_some ⟨_, td.c1, hj _ _ ⟨rfl, ?_⟩⟩⟩
      have hk : 0 < H'.length := by omega
      simp [hk]
    · simp at hp
      subst hp; rfl
  rintro b6 w7 ⟨rfl, rfl⟩
  have gd : Grow ww (World.drew ww) := Grow.dr (Grow.refl ww)
  have td := t.grow gd
  have od := o.grow gd
  refine cond_intro (fun hp => ?_) (fun hp => ?_)
  · simp only [decide_eq_true_eq] at hp
    obtain ⟨a, ha, _, _, c0, _, _⟩ := td.put (i := 0) (by omega) (by omega)
    rw [← nth_get _ _ (by omega)] at c0
    refine withAddr_some ⟨_, td.c0, a, ha, _, c0, ?_⟩
    have ga : Grow (World.drew ww) _ := Grow.al (Grow.refl (World.drew ww)) (.cells #[.int .i64 (nth H' 0).1] tI)
    obtain ⟨v12, w13, h12, o12, n12⟩ := app_ownR tyI (od.grow ga) (OwnR.lit (E := E1) (World.drew ww) (Nat.le_refl _) tI [(nth H' 0).1] 1 rfl (by simp [maxLen])).rd (by simp; omega) (Nat.zero_le _)
    refine ⟨v12, w13, h12, ?_⟩
    have ta := td.grow ga
    -- the timers are not touched by the append
    have hdis : ∀ k, FT b v' k → vo.ownBlock ≠ some k := fun k hk he => (hne k he).2 hk
    have t13 : TS w13 b v' H' n1 := ta.stable fun k hk => n12.by_.block k (ta.lt k hk) (fun e => hdis k hk e.symm)
    have st13 : Step (fun k => FT b v' k ∨ vo.ownBlock = some k) ww w13 (fun k => FT b v' k ∨ v12.ownBlock = some k) := by
      have s0 : Step (fun k => FT b v' k ∨ vo.ownBlock = some k) ww _ (fun k => FT b v' k ∨ vo.ownBlock = some k) := Step.of_grow (gd.then ga)
      refine (s0.then (Step.of_own n12 (fun k hk => .inr hk))).imp (fun k h => h) (fun k hk => ?_)
      rcases hk with hk | hk
      · exact .inl (.inl hk)
      · rcases n12.at_ with e | e
        · exact .inl (.inr (e ▸ hk))
        · exact .inr (Nat.le_trans (gd.then ga).size (e k hk))
    have hbig : ∀ k, v12.ownBlock = some k → w.heap.size ≤ k ∧ ¬ FT b v' k := by
      intro k hk
      rcases n12.at_ with e | e
      · exact hne k (e ▸ hk)
      · have h1 := e k hk
        have h2 : w.heap.size ≤ ww.heap.size := st.size
        have h3 := (gd.then ga).size
        refine ⟨by omega, fun hf => ?_⟩
        have := t.lt k hf
        omega
    refine remove_c t13 ⟨by omega, by omega⟩ (by omega) fun v'' w15 st15 t15 => ⟨rfl, ?_⟩
    have hpop : popF H' n1 = ((nth H' 0).1 :: (popF (remF H' 0) n1).1, (popF (remF H' 0) n1).2) := by rw [popF, dif_pos hp]
    rw [hpop] at e1 e2
    have o15 : OwnR E1 w15 0 tI v12 (out ++ [(nth H' 0).1]) := o12.stable fun k hk => st15.block k (o12.lt k hk).2 (hbig k hk).2
    refine ⟨⟨v'', remF H' 0, out ++ [(nth H' 0).1], ?_, t15, o15, fun k hk => ⟨(hbig k hk).1, fun hf => ?_⟩, ?_, ?_, ?_, ?_⟩, ?_⟩
    · -- from w: only the timers' own blocks and new ones
      refine ⟨st15.os.trans (st13.os.trans st.os), st15.tape.trans (st13.tape.trans st.tape), st15.output.trans (st13.output.trans st.output), Nat.le_trans st.size (Nat.le_trans st13.size st15.size), fun k hk hs => ?_, fun k hk => ?_⟩
      · have hnf : ¬ FT b v' k := fun hf => by
          rcases st.fp k hf with h | h
          · exact hs h
          · omega
        have hno : ¬ vo.ownBlock = some k := fun he => by have := (hne k he).1; omega
        have k1 := st.block k hk hs
        have k2 := st13.block k (Nat.lt_of_lt_of_le hk st.size) (fun h => h.elim hnf hno)
        have k3 := st15.block k (Nat.lt_of_lt_of_le hk (Nat.le_trans st.size st13.size)) hnf
        exact k3.trans (k2.trans k1)
      · rcases st15.fp k hk with h | h
        · exact st.fp k h
        · exact .inr (Nat.le_trans (Nat.le_trans st.size st13.size) h)
    · rcases st15.fp k hf with h | h
      · exact (hbig k hk).2 h
      · have := (o12.lt k hk).2
        omega
    · rw [remF_length]; omega
    · rw [remF_length, List.length_append]; simp; omega
    · rw [List.append_assoc]; exact e1
    · exact e2
    · rw [o15.rd.len]; simp; omega
  · simp only [decide_eq_false_iff_not] at hp
    have hpop : popF H' n1 = ([], H') := by rw [popF, dif_neg hp]
    rw [hpop] at e1 e2
    simp only [List.append_nil] at e1
    subst e1
    subst e2
    refine slices_Clip_c od.rd fun vz rz ez => c v' vz _ (st.then (Step.of_grow gd)) td rz (fun k hk => ⟨(hne k (ez ▸ hk)).1, (od.lt k (ez ▸ hk)).2, (hne k (ez ▸ hk)).2⟩)

/-! ### a good heap -/
structure Good (H : List (Int × Int)) (now : Int) : Prop where
  ok : HeapOk H
  nd : (H.map (·.1)).Nodup
  ahead : ∀ x ∈ H, now < x.2

theorem Good.nil (now : Int) : Good [] now := ⟨fun k k0 kl => by simp at kl, by simp, by simp⟩
theorem Good.of_perm {H H' : List (Int × Int)} {now : Int} (h : Good H now) (ho : HeapOk H') (p : H'.Perm H) : Good H' now :=
  ⟨ho, (p.map (·.1)).nodup_iff.2 h.nd, fun x hx => h.ahead x (p.mem_iff.1 hx)⟩
theorem inj_fst : ∀ {H : List (Int × Int)}, (H.map (·.1)).Nodup → ∀ {x y : Int × Int}, x ∈ H → y ∈ H → x.1 = y.1 → x = y
  | [], _, x, y, hx, _, _ => by cases hx
  | z :: H, h, x, y, hx, hy, e => by
    rw [List.map_cons, List.nodup_cons] at h
    rcases List.mem_cons.1 hx with h1 | h1
    · rcases List.mem_cons.1 hy with h2 | h2
      · rw [h1, h2]
      · refine absurd ?_ h.1
        rw [← h1, e]; exact List.mem_map_of_mem h2
    · rcases List.mem_cons.1 hy with h2 | h2
      · refine absurd ?_ h.1
        rw [← h2, ← e]; exact List.mem_map_of_mem h1
      · exact inj_fst h.2 h1 h2 e
theorem Good.uniq {H : List (Int × Int)} {now : Int} (h : Good H now) {x y : Int × Int} (hx : x ∈ H) (hy : y ∈ H) (e : x.1 = y.1) : x = y := inj_fst h.nd hx hy e

/-- without the one of an id -/
abbrev sans (H : List (Int × Int)) (id : Int) : List (Int × Int) := H.filter (fun x => x.1 != id)

theorem sans_of_none {H : List (Int × Int)} {id : Int} (h : ¬ fidx H id < H.length) : sans H id = H := by
  rw [fidx_lt] at h
  apply List.filter_eq_self.2
  intro x hx
  simp only [bne_iff_ne, ne_eq]
  exact fun e => h ⟨x, hx, e⟩

theorem Good.rem {H : List (Int × Int)} {now id : Int} (h : Good H now) (hf : fidx H id < H.length) : Good (remF H (fidx H id)) now ∧ (remF H (fidx H id)).Perm (sans H id) := by
  obtain ⟨r1, r2⟩ := remF_ok h.ok _ hf
  have hid := fidx_id hf
  generalize nth H (fidx H id) = x at *
  generalize remF H (fidx H id) = T at *
  have hn2 : ((x :: T).map (·.1)).Nodup := (r2.map (·.1)).nodup_iff.1 h.nd
  rw [List.map_cons, List.nodup_cons] at hn2
  refine ⟨⟨r1, hn2.2, fun y hy => h.ahead y (r2.mem_iff.2 (List.mem_cons_of_mem _ hy))⟩, ?_⟩
  have h1 := r2.filter (fun x => x.1 != id)
  have h2 : (x :: T).filter (fun x => x.1 != id) = T := by
    rw [List.filter_cons_of_neg (by simp [hid])]
    apply List.filter_eq_self.2
    intro y hy
    simp only [bne_iff_ne, ne_eq]
    intro e
    exact hn2.1 (by rw [hid, ← e]; exact List.mem_map_of_mem hy)
  rw [h2] at h1
  exact h1.symm

theorem Good.add {H : List (Int × Int)} {now id at_ : Int} (h : Good H now) (hn : ¬ fidx H id < H.length) (ha : now < at_) : Good (addF H (id, at_)) now ∧ (addF H (id, at_)).Perm ((id, at_) :: H) := by
  obtain ⟨a1, a2⟩ := addF_ok h.ok (id, at_)
  refine ⟨⟨a1, ?_, fun x hx => ?_⟩, a2⟩
  · refine (a2.map (·.1)).nodup_iff.2 ?_
    rw [List.map_cons, List.nodup_cons]
    refine ⟨fun hm => ?_, h.nd⟩
    obtain ⟨x, hx, e⟩ := List.mem_map.1 hm
    exact hn (fidx_lt.2 ⟨x, hx, e⟩)
  · rcases List.mem_cons.1 (a2.mem_iff.1 hx) with rfl | hx
    · exact ha
    · exact h.ahead x hx

theorem fidx_sans {H T : List (Int × Int)} {id : Int} (p : T.Perm (sans H id)) : ¬ fidx T id < T.length := by
  rw [fidx_lt]
  rintro ⟨x, hx, e⟩
  have := p.mem_iff.1 hx
  simp [e] at this

/-- a timer is set that may be set -/
theorem Good.set {H : List (Int × Int)} {now id n : Int} (h : Good H now) (h1 : 1 ≤ n) (h2 : n ≤ 1073741824) (h3 : fidx H id < H.length ∨ H.length < 256) :
    (setF H now id n).1 = 0 ∧ Good (setF H now id n).2 now ∧ (setF H now id n).2.Perm ((id, now + n) :: sans H id) := by
  have hn : ¬ (n < 1 ∨ n > 1073741824) := by omega
  unfold setF
  rw [if_neg hn]
  by_cases hf : fidx H id < H.length
  · rw [if_pos hf]
    obtain ⟨r1, r2⟩ := h.rem hf
    obtain ⟨a1, a2⟩ := r1.add (fidx_sans r2) (by omega : now < now + n)
    exact ⟨rfl, a1, a2.trans (r2.cons _)⟩
  · rw [if_neg hf, if_neg (by omega)]
    obtain ⟨a1, a2⟩ := h.add hf (by omega : now < now + n)
    rw [sans_of_none hf]
    exact ⟨rfl, a1, a2⟩

/-- a tick: those of it go off, rising; the others stay -/
theorem Good.tick {H : List (Int × Int)} {now : Int} (h : Good H now) :
    Good (popF H (now + 1)).2 (now + 1) ∧ (popF H (now + 1)).1.Pairwise (· < ·) ∧ (∀ id, id ∈ (popF H (now + 1)).1 ↔ (id, now + 1) ∈ H) ∧ (∀ x, x ∈ (popF H (now + 1)).2 ↔ x ∈ H ∧ x.2 ≠ now + 1) ∧
      (popF H (now + 1)).1.length + (popF H (now + 1)).2.length = H.length := by
  obtain ⟨P, p1, p2, p3, p4, p5, p6⟩ := popF_ok H (now + 1) h.ok h.nd
  have hP : ∀ x ∈ P, x.2 = now + 1 := fun x hx => by
    have := h.ahead x (p4.mem_iff.2 (List.mem_append_left _ hx))
    have := p3 x hx
    omega
  have hnd : ((P ++ (popF H (now + 1)).2).map (·.1)).Nodup := (p4.map (·.1)).nodup_iff.1 h.nd
  rw [List.map_append, List.nodup_append] at hnd
  refine ⟨⟨p5, hnd.2.1, p6⟩, ?_, fun id => ?_, fun x => ?_, ?_⟩
  · rw [p1, List.pairwise_map]
    refine List.Pairwise.imp_of_mem (fun {a b} ha hb hab => ?_) p2
    rw [lt_iff] at hab
    have := hP a ha
    have := hP b hb
    omega
  · rw [p1, List.mem_map]
    constructor
    · rintro ⟨x, hx, rfl⟩
      have e := hP x hx
      have : x = (x.1, now + 1) := by rw [← e]
      rw [← this]
      exact p4.mem_iff.2 (List.mem_append_left _ hx)
    · intro hx
      rcases List.mem_append.1 (p4.mem_iff.1 hx) with hm | hm
      · exact ⟨_, hm, rfl⟩
      · have := p6 _ hm
        simp at this
  · constructor
    · intro hx
      have := p6 x hx
      exact ⟨p4.mem_iff.2 (List.mem_append_right _ hx), by omega⟩
    · rintro ⟨hx, hne⟩
      rcases List.mem_append.1 (p4.mem_iff.1 hx) with hm | hm
      · exact absurd (hP x hm) hne
      · exact hm
  · rw [p1, List.length_map, ← List.length_append]
    exact p4.length_eq.symm

theorem perm_single {H : List (Int × Int)} {x : Int × Int} (h : H.Perm [x]) : H = [x] := List.perm_singleton.1 h

/-! ### the timers of a law, from a world on -/
structure TB (w1 ww : World) (b : Nat) (v : Value) (H : List (Int × Int)) (now : Int) : Prop where
  t : TS ww b v H now
  g : Grow w1 ww
  big : ∀ k, FT b v k → w1.heap.size ≤ k

theorem TB.grow {w1 ww w' : World} {b : Nat} {v : Value} {H : List (Int × Int)} {now : Int} (h : TB w1 ww b v H now) (g : Grow ww w') : TB w1 w' b v H now := ⟨h.t.grow g, h.g.then g, h.big⟩
theorem TB.step {w1 ww w' : World} {b : Nat} {v v' : Value} {H H' : List (Int × Int)} {now now' : Int} (h : TB w1 ww b v H now) (st : Step (FT b v) ww w' (FT b v')) (t : TS w' b v' H' now') : TB w1 w' b v' H' now' :=
  ⟨t, h.g.trans (st.to_below h.g.size h.big), fun k hk => (st.fp k hk).elim (h.big k) (fun hh => Nat.le_trans h.g.size hh)⟩
theorem TB.new {w w' : World} (g : Grow w w') (t : TS w' w.heap.size (.slice none 0 0) [] 0) : TB w w' w.heap.size (.slice none 0 0) [] 0 :=
  ⟨t, g, by rintro k (rfl | hk); exact Nat.le_refl _; cases hk⟩

theorem known_c {w : World} {R : KV} (k : ∀ w', Grow w w' → R (.bool true) w') : Go.CW.Spec Try.prog 8 #[] w R := by
  apply gemellaw10_known_wp
  refine New_c fun w1 g1 t1 => ⟨_, rfl, _, rfl, cond_f rfl ?_⟩
  have b1 := TB.new g1 t1
  obtain ⟨s0, s1, s2⟩ := (Good.nil 0).set (id := 5) (n := 2) (by omega) (by omega) (.inr (by simp))
  have e1 : (setF [] 0 5 2).2 = [(5, 2)] := perm_single s2
  refine Set_c b1.t (by simp) (by decide) (by omega) fun v2 w2 st2 t2 => ⟨_, rfl, ?_⟩
  rw [e1] at t2 s1
  rw [s0]
  have b2 := b1.step st2 t2
  refine Left_c b2.t fun w3 g3 => ?_
  have b3 := b2.grow g3
  have ef : fidx [((5 : Int), (2 : Int))] 5 = 0 := by decide
  rw [ef]
  rw [if_pos (by simp)]
  refine ⟨_, _, rfl, ?_⟩
  obtain ⟨k1, k2, k3, k4, k5⟩ := s1.tick
  refine Tick_c b3.t (by simp) (by omega) fun v4 vo4 w4 st4 t4 r4 _ => ?_
  have b4 := b3.step st4 t4
  have e4 : (popF [((5 : Int), (2 : Int))] (0 + 1)).1 = [] := by
    apply List.eq_nil_iff_forall_not_mem.2
    intro id hid
    have := (k3 id).1 hid
    simp at this
  rw [e4] at k5
  have e5 : (popF [((5 : Int), (2 : Int))] (0 + 1)).2 = [(5, 2)] := by
    have h1 := (k4 (5, 2)).2 (by simp)
    generalize (popF [((5 : Int), (2 : Int))] (0 + 1)).2 = T at *
    simp at k5
    match T, k5, h1 with
    | [x], _, h1 => simp at h1; rw [← h1]
  rw [e4] at r4
  rw [e5] at b4 k1
  obtain ⟨q1, q2, q3, q4, q5⟩ := k1.tick
  refine Tick_c b4.t (by simp) (by omega) fun v6 vo6 w6 st6 t6 r6 _ => ?_
  have b6 := b4.step st6 t6
  have e6 : (popF [((5 : Int), (2 : Int))] (0 + 1 + 1)).1 = [5] := by
    have h1 := (q3 5).2 (by simp)
    generalize (popF [((5 : Int), (2 : Int))] (0 + 1 + 1)).1 = T at *
    generalize (popF [((5 : Int), (2 : Int))] (0 + 1 + 1)).2 = T2 at *
    simp at q5
    match T, h1 with
    | [x], h1 => simp at h1; rw [h1]
    | x :: y :: T, h1 => simp at q5; omega
  have e7 : (popF [((5 : Int), (2 : Int))] (0 + 1 + 1)).2 = [] := by
    rw [e6] at q5
    simp at q5; exact q5
  rw [e6] at r6
  rw [e7] at b6
  refine JoinP.bool (fun b w' => b = true ∧ w' = w6) (fun j hj => ?_) (fun b w' ⟨h, e⟩ => by subst h; subst e; exact k _ b6.g)
  obtain ⟨a20, h20, c20⟩ := E1_at r6 (i := 0) (by omega) (by simp)
  refine cond_t (by decide) (cond_t (by decide) (cond_t rfl ⟨_, r4.len, cond_t (by decide) ⟨_, r6.len, cond_t (by decide) ⟨a20, h20, _, c20, cond_t (by decide) ?_⟩⟩⟩))
  exact Now_c b6.t ⟨_, rfl, cond_t (by decide) (Len_c b6.t ⟨_, rfl, hj _ _ ⟨by decide, rfl⟩⟩)⟩

end Go.Proofs.Ytnbnjghfmleibaa
