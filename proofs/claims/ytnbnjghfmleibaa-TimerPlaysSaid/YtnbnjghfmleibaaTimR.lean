/- The contracts of the document's timers. -/
import Derived.Test.YtnbnjghfmleibaaTimN
set_option linter.unusedVariables false
set_option linter.unusedSimpArgs false
namespace Go.Proofs.Ytnbnjghfmleibaa
open Go Go.CW Go.RowKit

abbrev tE : TypeId := 57
abbrev tEs : TypeId := 39
abbrev tR : TypeId := 41
theorem tyE : SlTyN Try.prog tEs tE E2.s 16 := SlTyN.of (by kernel_rfl)

/-- the document's timers in block b -/
structure RS (w : World) (b : Nat) (v : Value) (L : List (Int × Int)) (now : Int) : Prop where
  blk : BK w b #[v, .int .i64 now] tR
  row : OwnR E2 w 0 tE v L
  ne : v.ownBlock ≠ some b

section
variable {w : World} {b : Nat} {v : Value} {L : List (Int × Int)} {now : Int}
theorem RS.stable {w' : World} (h : RS w b v L now) (hk : ∀ k, FT b v k → w'.heap[k]? = w.heap[k]?) : RS w' b v L now :=
  ⟨(hk b (.inl rfl)).trans h.blk, h.row.stable fun k hv => hk k (.inr hv), h.ne⟩
theorem RS.lt (h : RS w b v L now) : ∀ k, FT b v k → k < w.heap.size := by
  rintro k (rfl | hk)
  · exact h.blk.lt
  · exact (h.row.lt k hk).2
theorem RS.grow {w' : World} (h : RS w b v L now) (g : Grow w w') : RS w' b v L now := h.stable fun k hk => g.block k (h.lt k hk)
theorem RS.c0 (h : RS w b v L now) : w.cell? (Addr.add ⟨b, 0, none⟩ 0) = some v := h.blk.cell 0
theorem RS.c1 (h : RS w b v L now) : w.cell? (Addr.add ⟨b, 0, none⟩ 1) = some (.int .i64 now) := h.blk.cell 1
theorem RS.setV {v' : Value} {L' : List (Int × Int)} (h : RS w b v L now) (ho : OwnR E2 w 0 tE v' L') (hne : v'.ownBlock ≠ some b) :
    St1 w (Addr.add ⟨b, 0, none⟩ 0) ∧ RS (w.setCell (Addr.add ⟨b, 0, none⟩ 0) v') b v' L' now := by
  rw [ad0]
  refine ⟨h.blk.st1 (j := 0) (by simp), ⟨h.blk.set 0 v', ho.stable fun k hk => Below.heap_setCell w ⟨b, 0, none⟩ v' k (fun e => hne (by rw [hk, e])), hne⟩⟩
theorem RS.setNow (h : RS w b v L now) (n : Int) :
    St1 w (Addr.add ⟨b, 0, none⟩ 1) ∧ RS (w.setCell (Addr.add ⟨b, 0, none⟩ 1) (.int .i64 n)) b v L n := by
  rw [ad0]
  refine ⟨h.blk.st1 (j := 1) (by simp), ⟨h.blk.set 1 _, h.row.stable fun k hk => Below.heap_setCell w ⟨b, 1, none⟩ _ k (fun e => h.ne (by rw [hk, e])), h.ne⟩⟩
/-- an element is read, or its second number written -/
theorem RS.elt {i : Int} (h : RS w b v L now) (h0 : 0 ≤ i) (h1 : i < L.length) :
    ∃ a, sliceAt v i 2 = some a ∧ FT b v a.block ∧ ldCells w a 2 #[.int .i64 (nth L i.toNat).1, .int .i64 (nth L i.toNat).2] ∧
      w.cell? (a.add 0) = some (.int .i64 (nth L i.toNat).1) ∧ w.cell? (a.add 1) = some (.int .i64 (nth L i.toNat).2) ∧
      St1 w (a.add 1) ∧ ∀ n, RS (w.setCell (a.add 1) (.int .i64 n)) b v (L.set i.toNat ((nth L i.toNat).1, n)) now := by
  obtain ⟨a, ha, hb, _, hc, _, hp⟩ := h.row.put h0 h1
  have hne : a.block ≠ b := fun e => h.ne (by rw [hb, e])
  rw [nth_get L i.toNat (by omega)]
  obtain ⟨s1, p1⟩ := hp 1 (by decide)
  refine ⟨a, ha, .inr hb, E2_ld hc, hc 0 (by decide), hc 1 (by decide), s1, fun n => ⟨?_, p1 _ _ rfl, h.ne⟩⟩
  exact (Below.heap_setCell w (a.add 1) _ b (by rw [add_block]; exact hne.symm)).trans h.blk
end

def atF (L : List (Int × Int)) (id : Int) : Nat := L.findIdx (fun p => decide (id ≤ p.1))
def hasF (L : List (Int × Int)) (id : Int) : Bool := decide (atF L id < L.length) && ((nth L (atF L id)).1 == id)

theorem JoinP.intbool {k : IntKind} {rest : Int → Bool → World → Prop} {body : (Int → Bool → World → Prop) → Prop} (Q : Int → Bool → World → Prop) (hb : ∀ j : Int → Bool → World → Prop, (∀ a b w, Q a b w → j a b w) → body j) (h : ∀ a b w, Q a b w → rest a b w) : JoinP [.int k, .bool] rest body := hb rest h

theorem at_c {w : World} {b : Nat} {v : Value} {L : List (Int × Int)} {now id : Int} {R : KV} (h : RS w b v L now)
    (c : ∀ w', Grow w w' → R (.tuple #[.int .i64 (atF L id : Int), .bool (hasF L id)]) w') : Go.CW.Spec Try.prog 27 #[.pointer (some ⟨b, 0, none⟩), .int .i64 id] w R := by
  apply gemelref10_Timers_at_m_wp
  have hle := h.row.rd.le
  have hidx : atF L id ≤ L.length := List.findIdx_le_length
  refine ⟨fun (i : Int) (ww : World) => Grow w ww ∧ 0 ≤ i ∧ i ≤ atF L id, fun (i : Int) (_ : World) => (L.length - i).toNat, ⟨Grow.refl w, by omega, by omega⟩, ?_⟩
  dsimp only [allR, mapR2, eqN, ltN]
  rintro m i ww ⟨⟨g, h0, h1⟩, hm⟩
  have t := h.grow g
  refine JoinP.bool (fun b3 w' => w' = ww ∧ b3 = decide (i < (atF L id : Int))) (fun j hj => ?_) ?_
  · refine withAddr_some ⟨_, t.c0, _, t.row.rd.len, cond_intro (fun hp => ?_) (fun hp => hj _ _ ⟨rfl, ?_⟩)⟩
    · simp at hp
      obtain ⟨a, ha, _, _, c0, _, _, _⟩ := t.elt h0 hp
      refine withAddr_some ⟨_, t.c0, a, ha, _, c0, hj _ _ ⟨rfl, ?_⟩⟩
      rw [nth_get L _ (by omega)]
      by_cases e : i.toNat = atF L id
      · have h3 := List.findIdx_getElem (p := fun p : Int × Int => decide (id ≤ p.1)) (xs := L) (w := by show atF L id < L.length; omega)
        have h4 : decide (id ≤ (L[i.toNat]'(by omega)).1) = true := by
          have h5 : L[i.toNat]'(by omega) = L[atF L id]'(by omega) := by simp only [e]
          rw [h5]; exact h3
        simp only [decide_eq_true_eq] at h4
        rw [Bool.eq_iff_iff]; simp only [decide_eq_true_eq]; omega
      · have h3 := List.not_of_lt_findIdx (p := fun p : Int × Int => decide (id ≤ p.1)) (xs := L) (i := i.toNat) (by show i.toNat < atF L id; omega)
        simp only [decide_eq_true_eq, Int.not_le, decide_eq_false_iff_not] at h3
        rw [Bool.eq_iff_iff]; simp only [decide_eq_true_eq]; omega
    · simp at hp
      rw [Bool.eq_iff_iff]; simp; omega
  rintro b3 w4 ⟨rfl, rfl⟩
  refine cond_intro (fun hp => ?_) (fun hp => ?_)
  · simp at hp
    rw [wi64_id (n := i + 1) (by omega) (by omega)]
    exact ⟨⟨g, by omega, by omega⟩, by omega⟩
  · simp at hp
    have ei : i = (atF L id : Int) := by omega
    subst ei
    have gd := g.dr
    have td := h.grow gd
    refine JoinP.intbool (fun n b' w' => w' = World.drew w4 ∧ n = (atF L id : Int) ∧ b' = hasF L id) (fun j hj => ?_) (fun n b' w' ⟨e1, e2, e3⟩ => by subst e1; subst e2; subst e3; exact c _ gd)
    refine withAddr_some ⟨_, td.c0, _, td.row.rd.len, cond_intro (fun hq => ?_) (fun hq => hj _ _ _ ⟨rfl, rfl, ?_⟩)⟩
    · simp at hq
      obtain ⟨a, ha, _, _, c0, _, _, _⟩ := td.elt h0 (by omega)
      rw [Int.toNat_natCast] at c0
      exact withAddr_some ⟨_, td.c0, a, ha, _, c0, hj _ _ _ ⟨rfl, rfl, by simp [hasF, hq]⟩⟩
    · simp at hq
      have : ¬ atF L id < L.length := by omega
      simp [hasF, this]

/-- what Set answers and leaves -/
def setR (L : List (Int × Int)) (id n : Int) : Int × List (Int × Int) :=
  if n < 1 ∨ n > 1073741824 then (1, L)
  else if hasF L id = true then (0, L.set (atF L id) (id, n))
  else if L.length ≥ 256 then (7, L) else (0, L.take (atF L id) ++ (id, n) :: L.drop (atF L id))

theorem own_ne {w : World} {B : Nat} {e : TypeId} {v : Value} {L : List (Int × Int)} {b : Nat} (h : OwnR E2 w B e v L) (hb : b < B) : v.ownBlock ≠ some b := fun hh => by
  have := (h.lt b hh).1
  omega

theorem SetR_c {w : World} {b : Nat} {v : Value} {L : List (Int × Int)} {now id n : Int} {R : KV} (h : RS w b v L now) (hs : L.length ≤ 1000000)
    (c : ∀ v' w', Step (FT b v) w w' (FT b v') → RS w' b v' (setR L id n).2 now → R (.int .i64 (setR L id n).1) w') : Go.CW.Spec Try.prog 15 #[.pointer (some ⟨b, 0, none⟩), .int .i64 id, .int .i64 n] w R := by
  apply gemelref10_Timers_Set_m_wp
  refine JoinP.bool (fun b0 w' => w' = w ∧ b0 = decide (n < 1 ∨ n > 1073741824)) (fun j hj => ?_) ?_
  · refine cond_intro (fun hp => hj _ _ ⟨rfl, ?_⟩) (fun hp => hj _ _ ⟨rfl, ?_⟩)
    · simp at hp; have : n < 1 ∨ n > 1073741824 := by omega
      simp [this]
    · simp at hp
      rw [Bool.eq_iff_iff]; simp; omega
  rintro b0 w1 ⟨rfl, rfl⟩
  refine cond_intro (fun hp => ?_) (fun hp => ?_)
  · simp only [decide_eq_true_eq] at hp
    have := c v w1 (Step.refl _ _)
    unfold setR at this
    rw [if_pos hp] at this
    exact this h
  simp only [decide_eq_false_iff_not] at hp
  unfold setR at c
  rw [if_neg hp] at c
  refine at_c h fun w3 g3 => ⟨_, _, rfl, ?_⟩
  have t3 := h.grow g3
  have hidx : atF L id ≤ L.length := List.findIdx_le_length
  cases hh : hasF L id
  · rw [hh] at c
    rw [if_neg (by simp)] at c
    refine cond_f rfl (withAddr_some ⟨_, t3.c0, _, t3.row.rd.len, cond_intro (fun hq => ?_) (fun hq => ?_)⟩)
    · simp at hq
      rw [if_pos (by omega)] at c
      exact c v w3 (Step.of_grow g3) t3
    · simp at hq
      rw [if_neg (by omega)] at c
      have ga : Grow w3 _ := Grow.al (Grow.refl w3) (.cells #[] tE)
      have ta := t3.grow ga
      obtain ⟨v14, h14, r14, _⟩ := ta.row.rd.sub (lo := none) (hi := some (.int .i64 (atF L id : Int))) (l := 0) (r := atF L id) (fun cap hc => by rw [bounds_ni (by omega) (by omega)]; simp) (by omega) hidx
      rw [List.drop_zero, Nat.sub_zero] at r14
      have ol : OwnR E2 (w3.alloc (.cells #[] tE)) w3.heap.size tE (.slice (some ⟨w3.heap.size, 0, none⟩) 0 0) [] := OwnR.lit w3 (Nat.le_refl _) tE [] 0 rfl (by simp [maxLen])
      obtain ⟨v15, w16, h15, o15, n15⟩ := app_ownR tyE ol r14 (by simp; omega) ga.size
      have g16 : Grow w3 w16 := ga.trans (n15.below (by rw [al_size]; omega) (fun k hk => (ol.lt k hk).1))
      refine withAddr_some ⟨_, ta.c0, v14, h14, v15, w16, h15, ?_⟩
      have gb : Grow w16 _ := Grow.al (Grow.refl w16) (.cells #[.int .i64 id, .int .i64 n] tE)
      obtain ⟨v17, w18, h17, o17, n17⟩ := app_ownR tyE (o15.grow gb) (OwnR.lit (E := E2) w16 (Nat.le_refl _) tE [(id, n)] 1 rfl (by simp [maxLen])).rd (by simp; omega) (Nat.le_trans g16.size gb.size)
      have g18 : Grow w3 w18 := (g16.then gb).trans (n17.below (Nat.le_trans g16.size gb.size) (fun k hk => ((o15.grow gb).lt k hk).1))
      have t18 := t3.grow g18
      obtain ⟨v21, h21, r21, _⟩ := t18.row.rd.sub (lo := some (.int .i64 (atF L id : Int))) (hi := none) (l := atF L id) (r := L.length) (fun cap hc => by rw [bounds_in (by omega) (by omega)]; simp) hidx (Nat.le_refl _)
      rw [List.take_of_length_le (by simp)] at r21
      obtain ⟨v22, w23, h22, o22, n22⟩ := app_ownR tyE o17 r21 (by simp; omega) g18.size
      have g23 : Grow w3 w23 := g18.trans (n22.below g18.size (fun k hk => (o17.lt k hk).1))
      have t23 := t3.grow g23
      have e22 : [] ++ L.take (atF L id) ++ [(id, n)] ++ L.drop (atF L id) = L.take (atF L id) ++ (id, n) :: L.drop (atF L id) := by simp
      rw [e22] at o22
      have hne := own_ne o22 t3.blk.lt
      obtain ⟨s24, t24⟩ := t23.setV (o22.mono (Nat.zero_le _)) hne
      refine ⟨v17, w18, h17, withAddr_some ⟨_, t18.c0, v21, h21, v22, w23, h22, withAddr_some (oneK_intro (own_isOne o22) ⟨s24, c v22 _ ?_ t24⟩)⟩⟩
      refine ((Step.of_grow (S := FT b v) (g3.then g23)).then (Step.setA w23 _ v22 (.inl (add_block _ _)))).imp (fun k h => h) (fun k hk => ?_)
      rcases hk with hk | hk
      · exact .inl (.inl hk)
      · exact .inr (Nat.le_trans g3.size (o22.lt k hk).1)
  · rw [hh] at c
    rw [if_pos rfl] at c
    have hlt : atF L id < L.length ∧ (nth L (atF L id)).1 = id := by simpa [hasF] using hh
    obtain ⟨a, ha, fa, _, _, _, s1, p1⟩ := t3.elt (i := (atF L id : Int)) (by omega) (by omega)
    have p2 := p1 n
    rw [Int.toNat_natCast, hlt.2] at p2
    exact cond_t rfl (withAddr_some ⟨_, t3.c0, a, ha, s1, c v _ ((Step.of_grow g3).then (Step.setA w3 _ _ (by rw [add_block]; exact fa))) p2⟩)

theorem StopR_c {w : World} {b : Nat} {v : Value} {L : List (Int × Int)} {now id : Int} {R : KV} (h : RS w b v L now) (hs : L.length ≤ 1000000)
    (c : ∀ v' w', Step (FT b v) w w' (FT b v') → RS w' b v' (if hasF L id = true then L.take (atF L id) ++ L.drop (atF L id + 1) else L) now → R (.bool (hasF L id)) w') : Go.CW.Spec Try.prog 16 #[.pointer (some ⟨b, 0, none⟩), .int .i64 id] w R := by
  apply gemelref10_Timers_Stop_m_wp
  refine at_c h fun w1 g1 => ⟨_, _, rfl, ?_⟩
  have t1 := h.grow g1
  refine JoinP.unit (fun w' => R (.bool (hasF L id)) w') (fun j hj => ?_) (fun w' h => h)
  cases hh : hasF L id
  · rw [hh] at c hj
    rw [if_neg (by simp)] at c
    exact cond_f rfl (hj _ (c v w1 (Step.of_grow g1) t1))
  · rw [hh] at c hj
    rw [if_pos rfl] at c
    have hlt : atF L id < L.length := by have : atF L id < L.length ∧ (nth L (atF L id)).1 = id := by simpa [hasF] using hh
                                         exact this.1
    have ga : Grow w1 _ := Grow.al (Grow.refl w1) (.cells #[] tE)
    have ta := t1.grow ga
    obtain ⟨v8, h8, r8, _⟩ := ta.row.rd.sub (lo := none) (hi := some (.int .i64 (atF L id : Int))) (l := 0) (r := atF L id) (fun cap hc => by rw [bounds_ni (by omega) (by omega)]; simp) (by omega) (by omega)
    rw [List.drop_zero, Nat.sub_zero] at r8
    have ol : OwnR E2 (w1.alloc (.cells #[] tE)) w1.heap.size tE (.slice (some ⟨w1.heap.size, 0, none⟩) 0 0) [] := OwnR.lit w1 (Nat.le_refl _) tE [] 0 rfl (by simp [maxLen])
    obtain ⟨v9, w10, h9, o9, n9⟩ := app_ownR tyE ol r8 (by simp; omega) ga.size
    have g10 : Grow w1 w10 := ga.trans (n9.below (by rw [al_size]; omega) (fun k hk => (ol.lt k hk).1))
    have t10 := t1.grow g10
    refine cond_t rfl (withAddr_some ⟨_, ta.c0, v8, h8, v9, w10, h9, withAddr_some ⟨_, t10.c0, ?_⟩⟩)
    rw [wi64_id (n := (atF L id : Int) + 1) (by omega) (by omega)]
    obtain ⟨v13, h13, r13, _⟩ := t10.row.rd.sub (lo := some (.int .i64 ((atF L id : Int) + 1))) (hi := none) (l := atF L id + 1) (r := L.length) (fun cap hc => by
      rw [bounds_in (by omega) (by omega)]
      have e : ((atF L id : Int) + 1).toNat = atF L id + 1 := by omega
      rw [e]) (by omega) (Nat.le_refl _)
    rw [List.take_of_length_le (by simp)] at r13
    obtain ⟨v14, w15, h14, o14, n14⟩ := app_ownR tyE o9 r13 (by simp; omega) g10.size
    have g15 : Grow w1 w15 := g10.trans (n14.below g10.size (fun k hk => (o9.lt k hk).1))
    have t15 := t1.grow g15
    rw [List.nil_append] at o14
    obtain ⟨s16, t16⟩ := t15.setV (o14.mono (Nat.zero_le _)) (own_ne o14 t1.blk.lt)
    refine ⟨v13, h13, v14, w15, h14, withAddr_some (oneK_intro (own_isOne o14) ⟨s16, hj _ (c v14 _ ?_ t16)⟩)⟩
    refine ((Step.of_grow (S := FT b v) (g1.then g15)).then (Step.setA w15 _ v14 (.inl (add_block _ _)))).imp (fun k h => h) (fun k hk => ?_)
    rcases hk with hk | hk
    · exact .inl (.inl hk)
    · exact .inr (Nat.le_trans g1.size (o14.lt k hk).1)

theorem LeftR_c {w : World} {b : Nat} {v : Value} {L : List (Int × Int)} {now id : Int} {R : KV} (h : RS w b v L now)
    (c : ∀ w', Grow w w' → R (if hasF L id = true then .tuple #[.int .i64 (nth L (atF L id)).2, .bool true] else .tuple #[.int .i64 0, .bool false]) w') : Go.CW.Spec Try.prog 20 #[.pointer (some ⟨b, 0, none⟩), .int .i64 id] w R := by
  apply gemelref10_Timers_Left_m_wp
  refine at_c h fun w1 g1 => ⟨_, _, rfl, ?_⟩
  have t1 := h.grow g1
  have hc := c _ g1
  cases hh : hasF L id
  · rw [hh, if_neg (by simp)] at hc
    exact cond_t rfl hc
  · rw [hh, if_pos rfl] at hc
    have hlt : atF L id < L.length ∧ (nth L (atF L id)).1 = id := by simpa [hasF] using hh
    obtain ⟨a, ha, _, _, _, c1, _, _⟩ := t1.elt (i := (atF L id : Int)) (by omega) (by omega)
    rw [Int.toNat_natCast] at c1
    exact cond_f rfl (withAddr_some ⟨_, t1.c0, a, ha, _, c1, hc⟩)

/-- the least of what is left -/
def minF : List (Int × Int) → Int → Int
  | [], n => n
  | x :: L, n => minF L (if x.2 < n then x.2 else n)
theorem minF_take (L : List (Int × Int)) (n : Int) (i : Nat) (h : i < L.length) : minF (L.take (i + 1)) n = if (nth L i).2 < minF (L.take i) n then (nth L i).2 else minF (L.take i) n := by
  induction L generalizing n i with
  | nil => simp at h
  | cons x L ih =>
    cases i with
    | zero => simp [minF, nth]
    | succ i =>
      rw [List.take_succ_cons, List.take_succ_cons]
      simp only [minF]
      rw [ih _ i (by simpa using h)]
      have : nth (x :: L) (i + 1) = nth L i := by simp [nth]
      rw [this]
      rfl

theorem NextR_c {w : World} {b : Nat} {v : Value} {L : List (Int × Int)} {now : Int} {R : KV} (h : RS w b v L now)
    (c : R (if L = [] then .tuple #[.int .i64 0, .bool false] else .tuple #[.int .i64 (minF L (nth L 0).2), .bool true]) w) : Go.CW.Spec Try.prog 21 #[.pointer (some ⟨b, 0, none⟩)] w R := by
  apply gemelref10_Timers_Next_m_wp
  have hle := h.row.rd.le
  refine withAddr_some ⟨_, h.c0, _, h.row.rd.len, cond_intro (fun hp => ?_) (fun hp => ?_)⟩
  · have e : L = [] := by simp at hp; exact hp
    rw [if_pos e] at c; exact c
  · have e : L ≠ [] := by simp at hp; exact hp
    rw [if_neg e] at c
    have hl : 0 < L.length := List.length_pos_iff.2 e
    obtain ⟨a, ha, _, _, _, c1, _, _⟩ := h.elt (i := 0) (by omega) (by omega)
    refine withAddr_some ⟨_, h.c0, a, ha, _, c1, ?_⟩
    refine ⟨fun (n i : Int) (ww : World) => ww = w ∧ 1 ≤ i ∧ i ≤ L.length ∧ n = minF (L.take i.toNat) (nth L 0).2, fun (_ i : Int) (_ : World) => (L.length - i).toNat, ⟨rfl, by omega, by omega, ?_⟩, ?_⟩
    · have := minF_take L (nth L 0).2 0 hl
      simp only [List.take_zero, minF, Nat.zero_add] at this
      rw [if_neg (by omega)] at this
      exact this.symm
    dsimp only [allR, mapR2, eqN, ltN]
    rintro m n i ww ⟨⟨rfl, h0, h1, hn⟩, hm⟩
    refine withAddr_some ⟨_, h.c0, _, h.row.rd.len, cond_intro (fun hq => ?_) (fun hq => ?_)⟩
    · simp at hq
      obtain ⟨a2, ha2, _, _, _, c2, _, _⟩ := h.elt (i := i) (by omega) hq
      have hstep := minF_take L (nth L 0).2 i.toNat (by omega)
      rw [← hn] at hstep
      refine JoinP.int (fun n' w' => w' = ww ∧ n' = minF (L.take (i.toNat + 1)) (nth L 0).2) (fun j hj => ?_) ?_
      · refine withAddr_some ⟨_, h.c0, a2, ha2, _, c2, cond_intro (fun hx => withAddr_some ⟨_, h.c0, a2, ha2, _, c2, hj _ _ ⟨rfl, ?_⟩⟩) (fun hx => hj _ _ ⟨rfl, ?_⟩)⟩
        · simp only [decide_eq_true_eq] at hx; rw [hstep, if_pos hx]
        · simp only [decide_eq_false_iff_not] at hx; rw [hstep, if_neg hx]
      · rintro n' w' ⟨rfl, rfl⟩
        rw [wi64_id (n := i + 1) (by omega) (by omega)]
        have e : (i + 1).toNat = i.toNat + 1 := by omega
        exact ⟨⟨rfl, by omega, by omega, by rw [e]⟩, by omega⟩
    · simp at hq
      rw [List.take_of_length_le (by omega)] at hn
      rw [hn]; exact c

theorem ints_c {w : World} {v u : Value} {A B : List Int} {R : KV} (hv : RdR E1 w v A) (hu : RdR E1 w u B) (k : ∀ w', Grow w w' → R (.bool (decide (A = B))) w') :
    Go.CW.Spec Try.prog 17 #[v, u] w R := by
  apply gemellaw10_ints_wp
  have hle := hv.le
  refine ⟨_, hv.len, _, hu.len, cond_intro (fun h => ?_) (fun h => ?_)⟩
  · have hne : decide (A = B) = false := by
      simp only [bne_iff_ne, ne_eq, Int.natCast_inj] at h
      exact decide_eq_false (fun e => h (by rw [e]))
    have := k w (Grow.refl w)
    rw [hne] at this; exact this
  · have hl : A.length = B.length := by simp at h; omega
    refine ⟨fun (i : Int) (ww : World) => Grow w ww ∧ 0 ≤ i ∧ i ≤ A.length ∧ A.take i.toNat = B.take i.toNat, fun (i : Int) (_ : World) => (A.length - i).toNat, ⟨Grow.refl w, by omega, by omega, by simp⟩, ?_⟩
    dsimp only [allR, mapR2, eqN, ltN]
    rintro m i ww ⟨⟨g, h0, h1, he⟩, hm⟩
    have gd := Grow.dr g
    refine ⟨_, hv.len, cond_intro (fun h2 => ?_) (fun h2 => ?_)⟩
    · simp at h2
      obtain ⟨a, ha, hc⟩ := E1_at (hv.grow gd) h0 h2
      obtain ⟨a', ha', hc'⟩ := E1_at (hu.grow gd) h0 (by omega)
      refine ⟨a, ha, _, hc, a', ha', _, hc', cond_intro (fun h3 => ?_) (fun h3 => ?_)⟩
      · have hne : decide (A = B) = false := by
          refine decide_eq_false (fun e => ?_)
          subst e
          simp at h3
        have := k _ gd
        rw [hne] at this; exact this
      · rw [wi64_id (n := i + 1) (by omega) (by omega)]
        have e : (i + 1).toNat = i.toNat + 1 := by omega
        have hb : A[i.toNat]'(by omega) = B[i.toNat]'(by omega) := by simpa using h3
        refine ⟨⟨gd, by omega, by omega, ?_⟩, by omega⟩
        rw [e, List.take_add_one, List.take_add_one, he, List.getElem?_eq_getElem (by omega), List.getElem?_eq_getElem (by omega), hb]
    · simp at h2
      rw [List.take_of_length_le (by omega), List.take_of_length_le (by omega)] at he
      have := k _ g
      rw [decide_eq_true he] at this; exact this

end Go.Proofs.Ytnbnjghfmleibaa
