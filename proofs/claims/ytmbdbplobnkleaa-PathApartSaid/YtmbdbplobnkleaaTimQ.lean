/- The contracts of the timers' functions, go on. -/
import Derived.Test.YtmbdbplobnkleaaTimP
set_option linter.unusedVariables false
set_option linter.unusedSimpArgs false
namespace Go.Proofs.Ytmbdbplobnkleaa
open Go Go.CW Go.RowKit

theorem oneK_intro {v : Value} {A : Prop} (h : isOne v = true) (a : A) : oneK v A := by
  cases v <;> first | exact a | exact ⟨h, a⟩
theorem own_isOne {α : Type} {E : Enc α} {w : World} {B : Nat} {e : TypeId} {v : Value} {L : List α} (h : OwnR E w B e v L) : isOne v = true := by
  rcases h.2 with ⟨rfl, hn⟩ | ⟨g, cap, cur, rfl, _⟩ <;> rfl
theorem callU_of {P : Program} {g : FuncId} {first captured args : Array Value} {w : World} {K : KV} (hb : (P.funcs[g]?).map (fun fn => fn.body.isSome) = some true) (h : Go.CW.Spec P g (app3 first args captured) w K) :
    callU P (.func (.func g) first captured) args w K := by
  unfold callU
  simp only [hb]
  exact h

/-! ### find -/
/-- a timer's place, or how many there are -/
def fidx (H : List (Int × Int)) (id : Int) : Nat := H.findIdx (fun p => p.1 == id)
def findI (H : List (Int × Int)) (id : Int) : Int := if fidx H id < H.length then (fidx H id : Int) else -1

theorem index_c {w : World} {v : Value} {H : List (Int × Int)} {id : Int} {g : Nat} {R : KV} (h : RdR E2 w v H) (hg : BK w g #[.int .i64 id] tI)
    (c : ∀ w', Grow w w' → R (.int .i64 (findI H id)) w') : Go.CW.Spec Try.prog 37 #[v, .func (.func 38) #[] #[.pointer (some ⟨g, 0, none⟩)]] w R := by
  apply slices_IndexFunc___wp
  have hle := h.le
  have hidx : fidx H id ≤ H.length := List.findIdx_le_length
  refine ⟨_, h.len, fun (i : Int) (ww : World) => Grow w ww ∧ 0 ≤ i ∧ i ≤ fidx H id, fun (i : Int) (_ : World) => (H.length - i).toNat, ⟨Grow.refl w, by omega, by omega⟩, ?_⟩
  dsimp only [allR, mapR2, eqN, ltN]
  rintro m i ww ⟨⟨gw, h0, h1⟩, hm⟩
  refine cond_intro (fun hp => ?_) (fun hp => ?_)
  · simp at hp
    obtain ⟨a, ha, hc, _⟩ := (h.grow gw).at h0 hp
    refine ⟨a, ha, _, _, E2_ld hc, callU_of (by kernel_rfl) ?_⟩
    generalize hx : H[i.toNat]'(by omega) = x at *
    apply timer_Timers_find_1_m_wp
    have hb := BK.new ww #[.int .i64 x.1, .int .i64 x.2] tA
    have g1 : Grow ww _ := Grow.al (Grow.refl ww) (.cells #[.int .i64 x.1, .int .i64 x.2] tA)
    refine ⟨x.1, hb.cell 0, withAddr_some ⟨id, ((hg.grow gw).grow g1).at 0, _, rfl, cond_intro (fun hq => ?_) (fun hq => ?_)⟩⟩
    · have e : fidx H id = i.toNat := by
        refine (List.findIdx_eq (by omega)).2 ⟨by rw [hx]; exact hq, fun j hj => ?_⟩
        have := List.not_of_lt_findIdx (p := fun p : Int × Int => p.1 == id) (xs := H) (i := j) (by show j < fidx H id; omega)
        simpa using this
      have hc := c _ (gw.then g1)
      rw [findI, e, if_pos (by omega)] at hc
      have e2 : ((i.toNat : Nat) : Int) = i := by omega
      rw [e2] at hc; exact hc
    · rw [wi64_id (n := i + 1) (by omega) (by omega)]
      refine ⟨⟨gw.then g1, by omega, ?_⟩, by omega⟩
      have : fidx H id ≠ i.toNat := by
        intro e
        have h3 := List.findIdx_getElem (p := fun p : Int × Int => p.1 == id) (xs := H) (w := by show fidx H id < H.length; omega)
        have h4 : H[fidx H id]'(by omega) = x := by rw [← hx]; simp only [e]
        have h5 : ((H[fidx H id]'(by omega)).1 == id) = true := h3
        rw [h4, hq] at h5; cases h5
      omega
  · simp at hp
    have e : findI H id = -1 := by unfold findI; rw [if_neg (by omega)]
    have hc := c _ gw
    rw [e] at hc; exact hc

theorem find_c {w : World} {b : Nat} {v : Value} {H : List (Int × Int)} {now id : Int} {R : KV} (h : TS w b v H now)
    (c : ∀ w', Grow w w' → R (.int .i64 (findI H id)) w') : Go.CW.Spec Try.prog 25 #[.pointer (some ⟨b, 0, none⟩), .int .i64 id] w R := by
  apply timer_Timers_find_m_wp
  have g : Grow w _ := Grow.al (Grow.refl w) (.cells #[.int .i64 id] tI)
  have t := h.grow g
  refine withAddr_some ⟨_, t.c0, index_c t.row.rd (BK.new w _ _) fun w' g' => ⟨_, rfl, c _ (g.then g')⟩⟩

/-! ### remove -/
def remF (H : List (Int × Int)) (i : Nat) : List (Int × Int) :=
  if i < H.length - 1 then downF (upF ((H.set i (nth H (H.length - 1))).take (H.length - 1)) i) i else (H.set i (nth H (H.length - 1))).take (H.length - 1)

theorem upF_length (H : List (Int × Int)) (i : Nat) : (upF H i).length = H.length := by
  induction H, i using upF.induct with
  | case1 H i h ih => unfold upF; rw [dif_pos h, ih, swp_length]
  | case2 H i h => unfold upF; rw [dif_neg h]
theorem downF_length (H : List (Int × Int)) (i : Nat) : (downF H i).length = H.length := by
  induction H, i using downF.induct with
  | case1 H i h ih => unfold downF; rw [dif_pos h, ih, swp_length]
  | case2 H i h => unfold downF; rw [dif_neg h]
theorem remF_length (H : List (Int × Int)) (i : Nat) : (remF H i).length = H.length - 1 := by
  unfold remF
  split
  · rw [downF_length, upF_length]; simp
  · simp

theorem remove_c {w : World} {b : Nat} {v : Value} {H : List (Int × Int)} {now i : Int} {R : KV} (h : TS w b v H now) (hi : 0 ≤ i ∧ i < H.length) (hs : H.length ≤ 1000000000000)
    (c : ∀ v' w', Step (FT b v) w w' (FT b v') → TS w' b v' (remF H i.toNat) now → R (.tuple #[]) w') : Go.CW.Spec Try.prog 26 #[.pointer (some ⟨b, 0, none⟩), .int .i64 i] w R := by
  apply timer_Timers_remove_m_wp
  have gd : Grow w (World.drew w) := (Grow.refl w).dr
  have td := h.grow gd
  refine withAddr_some ⟨_, h.c0, _, h.row.rd.len, ?_⟩
  rw [wi64_id (n := (H.length : Int) - 1) (by omega) (by omega)]
  obtain ⟨a7, h7, _, l7, _, _, _⟩ := td.put (i := (H.length : Int) - 1) (by omega) (by omega)
  obtain ⟨a10, h10, f10, _, _, _, p10⟩ := td.put hi.1 hi.2
  have en : ((H.length : Int) - 1).toNat = H.length - 1 := by omega
  rw [← nth_get _ _ (by omega), en] at l7
  obtain ⟨s1, t1⟩ := p10 (nth H (H.length - 1))
  refine withAddr_some ⟨_, td.c0, withAddr_some ⟨_, td.c0, a7, h7, _, _, l7, a10, h10, s1, ?_⟩⟩
  have st1 := (Step.of_grow gd).then (Step.row (World.drew w) a10 #[.int .i64 (nth H (H.length - 1)).1, .int .i64 (nth H (H.length - 1)).2] f10)
  generalize stRow (World.drew w) a10 _ = w1 at *
  obtain ⟨v', hv', o', e'⟩ := t1.row.trunc (n := H.length - 1) (by simp) .i64
  have en2 : (((H.length - 1 : Nat) : Int)) = (H.length : Int) - 1 := by omega
  rw [en2] at hv'
  obtain ⟨s2, t2⟩ := t1.setV o' (by rw [e']; exact t1.ne)
  refine withAddr_some ⟨_, t1.c0, v', hv', withAddr_some (oneK_intro (own_isOne o') ⟨s2, ?_⟩)⟩
  have hfp : ∀ k, FT b v' k ↔ FT b v k := fun k => by unfold FT; rw [e']
  have st2 : Step (FT b v) w (w1.setCell (Addr.add ⟨b, 0, none⟩ 0) v') (FT b v') := by
    refine (st1.then (Step.setA w1 _ v' (.inl (add_block _ _)))).imp (fun k h => h) (fun k hk => .inl ((hfp k).1 hk))
  refine cond_intro (fun hp => ?_) (fun hp => ?_)
  · simp at hp
    refine up_c t2 ⟨by omega, by simp; omega⟩ fun w3 st3 t3 => ⟨rfl, ?_⟩
    refine down_c t3 ⟨by omega, by rw [upF_length]; simp; omega⟩ (by rw [upF_length]; simp; omega) fun w4 st4 t4 => ⟨rfl, ?_⟩
    refine c v' _ (st2.then (st3.then st4)) ?_
    unfold remF
    rw [if_pos (by omega)]; exact t4
  · simp at hp
    refine c v' _ st2 ?_
    unfold remF
    rw [if_neg (by omega)]; exact t2

/-! ### Set, Stop, Left -/
def addF (H : List (Int × Int)) (x : Int × Int) : List (Int × Int) := upF (H ++ [x]) H.length
/-- what Set answers and leaves -/
def setF (H : List (Int × Int)) (now id n : Int) : Int × List (Int × Int) :=
  if n < 1 ∨ n > 1073741824 then (1, H)
  else if fidx H id < H.length then (0, addF (remF H (fidx H id)) (id, now + n))
  else if H.length ≥ 256 then (7, H) else (0, addF H (id, now + n))

theorem Set_c {w : World} {b : Nat} {v : Value} {H : List (Int × Int)} {now id n : Int} {R : KV} (h : TS w b v H now) (hs : H.length ≤ 1000000) (hn : Fits .i64 n) (hw : 0 ≤ now ∧ now ≤ 1000000000000)
    (c : ∀ v' w', Step (FT b v) w w' (FT b v') → TS w' b v' (setF H now id n).2 now → R (.int .i64 (setF H now id n).1) w') : Go.CW.Spec Try.prog 15 #[.pointer (some ⟨b, 0, none⟩), .int .i64 id, .int .i64 n] w R := by
  apply timer_Timers_Set_m_wp
  refine JoinP.bool (fun b0 w' => w' = w ∧ b0 = decide (n < 1 ∨ n > 1073741824)) (fun j hj => ?_) ?_
  · refine cond_intro (fun hp => hj _ _ ⟨rfl, ?_⟩) (fun hp => hj _ _ ⟨rfl, ?_⟩)
    · simp at hp; have : n < 1 ∨ n > 1073741824 := by omega
      simp [this]
    · simp at hp
      rw [Bool.eq_iff_iff]; simp; omega
  rintro b0 w1 ⟨rfl, rfl⟩
  refine cond_intro (fun hp => ?_) (fun hp => ?_)
  · simp only [decide_eq_true_eq] at hp
    have := c v w1 (Step.refl _ _)
    unfold setF at this
    rw [if_pos hp] at this
    exact this h
  simp only [decide_eq_false_iff_not] at hp
  unfold setF at c
  rw [if_neg hp] at c
  refine find_c h fun w3 g3 => ⟨_, rfl, ?_⟩
  have t3 := h.grow g3
  -- what follows the removal
  refine JoinP.unit (fun w5 => ∃ v5 H5, Step (FT b v) w1 w5 (FT b v5) ∧ TS w5 b v5 H5 now ∧ H5.length ≤ 1000000 ∧ ∀ v' w', Step (FT b v) w1 w' (FT b v') → TS w' b v' (addF H5 (id, now + n)) now → R (.int .i64 0) w') (fun j hj => ?_) ?_
  · by_cases hf : fidx H id < H.length
    · have ei : findI H id = (fidx H id : Int) := by unfold findI; rw [if_pos hf]
      rw [if_pos hf] at c
      rw [ei]
      refine cond_t (by simp) ?_
      refine remove_c t3 ⟨by omega, by omega⟩ (by omega) fun v' w' st t => ⟨rfl, hj _ ⟨v', _, (Step.of_grow g3).then st, t, by rw [remF_length]; omega, ?_⟩⟩
      rw [Int.toNat_natCast]
      exact c
    · have ei : findI H id = -1 := by unfold findI; rw [if_neg hf]
      rw [if_neg hf] at c
      rw [ei]
      refine cond_f (by simp) (withAddr_some ⟨_, t3.c0, _, t3.row.rd.len, cond_intro (fun hq => ?_) (fun hq => ?_)⟩)
      · simp at hq
        rw [if_pos (by omega)] at c
        exact c v w3 (Step.of_grow g3) t3
      · simp at hq
        rw [if_neg (by omega)] at c
        exact hj _ ⟨v, H, Step.of_grow g3, t3, hs, c⟩
  · rintro w5 ⟨v5, H5, st5, t5, hl5, c5⟩
    have gd : Grow w5 (World.drew w5) := (Grow.refl w5).dr
    have td := t5.grow gd
    have ga : Grow (World.drew w5) _ := Grow.al (Grow.refl (World.drew w5)) (.cells #[.int .i64 id, .int .i64 (now + n)] tA)
    have ta := td.grow ga
    refine withAddr_some ⟨_, td.c0, withAddr_some ⟨_, td.c1, ?_⟩⟩
    rw [wi64_id (n := now + n) (by omega) (by omega)]
    obtain ⟨v11, w12, h11, o11, n11⟩ := app_ownR tyA ta.row (OwnR.lit (E := E2) (World.drew w5) (Nat.le_refl _) tA [(id, now + n)] 1 rfl (by simp [maxLen])).rd (by simp; omega) (Nat.zero_le _)
    have hne : v11.ownBlock ≠ some b := by
      rcases n11.at_ with e | e
      · rw [e]; exact ta.ne
      · intro hh
        have := e b hh
        have := ta.blk.lt
        omega
    refine ⟨⟨_, ta.c0, rfl⟩, v11, w12, h11, withAddr_some (oneK_intro (own_isOne o11) ?_)⟩
    have st12 : Step (FT b v5) w5 w12 (fun k => FT b v5 k ∨ v11.ownBlock = some k) := (Step.of_grow (gd.then ga)).then (Step.of_own n11 (fun k hk => .inr hk))
    have t12 : BK w12 b #[v5, .int .i64 now] tT := (n11.by_.block b ta.blk.lt (fun e => ta.ne e.symm)).trans ta.blk
    refine ⟨by rw [ad0]; exact t12.st1 (j := 0) (by simp), ?_⟩
    have tz : TS (w12.setCell (Addr.add ⟨b, 0, none⟩ 0) v11) b v11 (H5 ++ [(id, now + n)]) now := by
      rw [ad0]
      exact ⟨t12.set 0 v11, o11.stable fun k hk => Below.heap_setCell w12 ⟨b, 0, none⟩ v11 k (fun e => hne (by rw [hk, e])), hne⟩
    have stz : Step (FT b v5) w5 (w12.setCell (Addr.add ⟨b, 0, none⟩ 0) v11) (FT b v11) := by
      refine (st12.then (Step.setA w12 _ v11 (.inl (.inl (add_block _ _))))).imp (fun k h => h) (fun k hk => ?_)
      rcases hk with hk | hk
      · exact .inl (.inl hk)
      · rcases st12.fp k (.inr hk) with h | h
        · exact .inl h
        · exact .inr h
    generalize w12.setCell (Addr.add ⟨b, 0, none⟩ 0) v11 = wz at *
    refine withAddr_some ⟨_, tz.c0, _, tz.row.rd.len, ?_⟩
    have el : ((H5 ++ [(id, now + n)]).length : Int) = (H5.length : Int) + 1 := by simp
    rw [el, wi64_id (n := (H5.length : Int) + 1 - 1) (by omega) (by omega)]
    refine up_c tz ⟨by omega, by omega⟩ fun w18 st18 t18 => ⟨rfl, ?_⟩
    have e2 : ((H5.length : Int) + 1 - 1).toNat = H5.length := by omega
    rw [e2] at t18
    exact c5 _ _ (st5.then (stz.then st18)) t18

theorem Stop_c {w : World} {b : Nat} {v : Value} {H : List (Int × Int)} {now id : Int} {R : KV} (h : TS w b v H now) (hs : H.length ≤ 1000000)
    (c : ∀ v' w', Step (FT b v) w w' (FT b v') → TS w' b v' (if fidx H id < H.length then remF H (fidx H id) else H) now → R (.bool (decide (fidx H id < H.length))) w') : Go.CW.Spec Try.prog 36 #[.pointer (some ⟨b, 0, none⟩), .int .i64 id] w R := by
  apply timer_Timers_Stop_m_wp
  refine find_c h fun w1 g1 => ⟨_, rfl, ?_⟩
  have t1 := h.grow g1
  by_cases hf : fidx H id < H.length
  · have ei : findI H id = (fidx H id : Int) := by unfold findI; rw [if_pos hf]
    rw [if_pos hf, decide_eq_true hf] at c
    rw [ei]
    have hd : decide ((fidx H id : Int) ≥ 0) = true := by simp
    rw [hd]
    refine JoinP.unit (fun w' => R (.bool true) w') (fun j hj => ?_) (fun w' h => h)
    refine cond_t rfl (remove_c t1 ⟨by omega, by omega⟩ (by omega) fun v' w' st t => ⟨rfl, hj _ ?_⟩)
    rw [Int.toNat_natCast] at t
    exact c v' w' ((Step.of_grow g1).then st) t
  · have ei : findI H id = -1 := by unfold findI; rw [if_neg hf]
    rw [if_neg hf, decide_eq_false hf] at c
    rw [ei]
    refine JoinP.unit (fun w' => R (.bool false) w') (fun j hj => ?_) (fun w' h => h)
    exact cond_f (by simp) (hj _ (c v w1 (Step.of_grow g1) t1))

theorem New_c {w : World} {R : KV} (c : ∀ w', Grow w w' → TS w' w.heap.size (.slice none 0 0) [] 0 → R (.pointer (some ⟨w.heap.size, 0, none⟩)) w') : Go.CW.Spec Try.prog 12 #[] w R := by
  apply timer_New_wp
  exact c _ (Grow.al (Grow.refl w) _) ⟨BK.new w _ _, OwnR.nil _ _ _, by intro h; cases h⟩

end Go.Proofs.Ytmbdbplobnkleaa
