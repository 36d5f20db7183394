/- The laws of the timers: each returns true. -/
import Derived.Test.YtnbnjghfmleibaaTimT
set_option linter.unusedVariables false
set_option linter.unusedSimpArgs false
namespace Go.Proofs.Ytnbnjghfmleibaa
open Go Go.CW Go.RowKit

theorem fidx_none {H : List (Int × Int)} {id : Int} (h : ∀ x ∈ H, x.1 ≠ id) : ¬ fidx H id < H.length := by
  rw [fidx_lt]
  rintro ⟨x, hx, e⟩
  exact h x hx e

theorem fits64 {n : Int} (h0 : -9223372036854775808 ≤ n) (h1 : n < 9223372036854775808) : Fits .i64 n := by
  simp only [Fits, IntKind.min, IntKind.max, IntKind.bits, IntKind.signed]
  constructor <;> simp <;> omega

/-- the timers i, each with one tick more than its byte -/
def Ofs (bs : List UInt8) (n : Nat) (H : List (Int × Int)) : Prop := ∀ x ∈ H, ∃ k : Nat, k < n ∧ x = ((k : Int), 1 + ((bs.getD k 0).toNat : Int))

theorem set_next {bs : List UInt8} {n : Nat} {H : List (Int × Int)} (hn : n < 256) (g : Good H 0) (o : Ofs bs n H) (hl : H.length = n) :
    (setF H 0 (n : Int) (1 + ((bs.getD n 0).toNat : Int))).1 = 0 ∧ Good (setF H 0 (n : Int) (1 + ((bs.getD n 0).toNat : Int))).2 0 ∧ Ofs bs (n + 1) (setF H 0 (n : Int) (1 + ((bs.getD n 0).toNat : Int))).2 ∧
      (setF H 0 (n : Int) (1 + ((bs.getD n 0).toNat : Int))).2.length = n + 1 := by
  have hc := (bs.getD n 0).toNat_lt
  obtain ⟨s0, s1, s2⟩ := g.set (id := (n : Int)) (n := 1 + ((bs.getD n 0).toNat : Int)) (by omega) (by omega) (.inr (by omega))
  have hf : ¬ fidx H (n : Int) < H.length := fidx_none (fun x hx => by
    obtain ⟨k, hk, e⟩ := o x hx
    rw [e]; simp; omega)
  rw [sans_of_none hf, Int.zero_add] at s2
  refine ⟨s0, s1, fun x hx => ?_, by rw [s2.length_eq]; simp [hl]⟩
  rcases List.mem_cons.1 (s2.mem_iff.1 hx) with h | h
  · exact ⟨n, by omega, h⟩
  · obtain ⟨k, hk, e⟩ := o x h
    exact ⟨k, by omega, e⟩

theorem byte_in {w : World} {v : Value} {bs : List UInt8} (h : RdB w v bs) {i : Int} (h0 : 0 ≤ i) (h1 : i < bs.length) :
    ∃ a, sliceAt v i 1 = some a ∧ w.cell? a = some (.int .u8 ((bs.getD i.toNat 0).toNat : Int)) := by
  obtain ⟨a, ha, hc⟩ := RdB.at h h0 h1
  refine ⟨a, ha, ?_⟩
  have : bs.getD i.toNat 0 = bs[i.toNat]'(by omega) := by simp [List.getD_eq_getElem?_getD, show i.toNat < bs.length by omega]
  rw [this]; exact hc

theorem timerOrder_s {w : World} {v0 : Value} {bs : List UInt8} (hr : RdB w v0 bs) :
    Go.CW.Spec Try.prog 3 #[v0] w (Law w) := by
  apply gemellaw10_TimerOrder_wp
  refine known_c fun w1 g1 => ⟨_, rfl, cond_f rfl ?_⟩
  have hr1 := hr.grow g1
  refine ⟨_, RdB.len hr1, cond_intro (fun h => ⟨rfl, g1⟩) (fun h => ?_)⟩
  have hl : bs.length ≤ 60 := by simp at h; omega
  refine New_c fun w5 g5 t5 => ⟨_, rfl, ?_⟩
  have b5 := TB.new g5 t5
  generalize hb : w1.heap.size = b at t5 b5
  refine ⟨fun (i : Int) (ww : World) => 0 ≤ i ∧ i ≤ bs.length ∧ ∃ v H, TB w1 ww b v H 0 ∧ Good H 0 ∧ Ofs bs i.toNat H ∧ H.length = i.toNat, fun (i : Int) (_ : World) => (bs.length - i).toNat,
    ⟨by omega, by omega, _, _, b5, Good.nil 0, (fun x hx => by cases hx), rfl⟩, ?_⟩
  dsimp only [allR, mapR2, eqN, ltN]
  rintro m i ww ⟨⟨h0, h1, v, H, tb, gd, of, hH⟩, hm⟩
  have hrw := hr1.grow tb.g
  refine ⟨_, RdB.len hrw, cond_intro (fun h2 => ?_) (fun h2 => ?_)⟩
  · simp at h2
    obtain ⟨a, ha, hc⟩ := byte_in hrw h0 h2
    refine ⟨a, ha, _, hc, ?_⟩
    have hby := (bs.getD i.toNat 0).toNat_lt
    rw [wi64_id (n := ((bs.getD i.toNat 0).toNat : Int)) (by omega) (by omega), wi64_id (n := 1 + ((bs.getD i.toNat 0).toNat : Int)) (by omega) (by omega), wi64_id (n := i + 1) (by omega) (by omega)]
    obtain ⟨s0, s1, s2, s3⟩ := set_next (bs := bs) (n := i.toNat) (by omega) gd of hH
    have ei : ((i.toNat : Nat) : Int) = i := by omega
    rw [ei] at s0 s1 s2 s3
    refine Set_c tb.t (by omega) (fits64 (by omega) (by omega)) (by omega) fun v' w' st t => ⟨_, rfl, ?_⟩
    rw [s0]
    refine cond_f (by decide) ⟨⟨by omega, by omega, v', _, tb.step st t, s1, ?_, ?_⟩, by omega⟩
    · have e : (i + 1).toNat = i.toNat + 1 := by omega
      rw [e]; exact s2
    · omega
  · simp at h2
    have ei : i.toNat = bs.length := by omega
    rw [ei] at of hH
    refine ⟨fun (seen k : Int) (ww : World) => 1 ≤ k ∧ k ≤ 257 ∧ ∃ v H, TB w1 ww b v H (k - 1) ∧ Good H (k - 1) ∧ Ofs bs bs.length H ∧ seen + H.length = bs.length ∧ 0 ≤ seen, fun (_ k : Int) (_ : World) => (257 - k).toNat,
      ⟨by omega, by omega, v, H, tb, gd, of, by omega, by omega⟩, ?_⟩
    clear tb gd of hH hm hrw h0 h1 h2
    dsimp only [allR, mapR2, eqN, ltN]
    rintro m seen k ww ⟨⟨k0, k1, v, H, tb, gd, of, hsum, hs0⟩, hm⟩
    refine cond_intro (fun h2 => ?_) (fun h2 => ?_)
    · simp at h2
      obtain ⟨q1, q2, q3, q4, q5⟩ := gd.tick
      have ek : k - 1 + 1 = k := by omega
      rw [ek] at q1 q2 q3 q4 q5
      refine Tick_c tb.t (by omega) (by omega) fun v' vo w' st t ro _ => ?_
      rw [ek] at t ro
      have tb' := tb.step st t
      generalize hids : (popF H k).1 = ids at *
      generalize (popF H k).2 = H' at *
      refine ⟨fun (i : Int) (w2 : World) => 0 ≤ i ∧ i ≤ ids.length ∧ Grow w' w2, fun (i : Int) (_ : World) => (ids.length - i).toNat, ⟨by omega, by omega, Grow.refl _⟩, ?_⟩
      dsimp only [allR, mapR2, eqN, ltN]
      rintro m' i w2 ⟨⟨i0, i1, gw⟩, hm'⟩
      have ro2 := ro.grow gw
      refine ⟨_, ro2.len, cond_intro (fun h3 => ?_) (fun h3 => ?_)⟩
      · simp at h3
        refine JoinP.bool (fun b26 w27 => b26 = false ∧ w27 = World.drew w2) (fun j hj => ?_) ?_
        · have gd2 := gw.dr
          have ro3 := ro.grow gd2
          obtain ⟨a, ha, hc⟩ := E1_at ro3 i0 h3
          have hmem : ids[i.toNat]'(by omega) ∈ ids := List.getElem_mem _
          obtain ⟨kk, hkk, ekk⟩ := of _ ((q3 _).1 hmem)
          simp only [Prod.mk.injEq] at ekk
          rw [ekk.1] at hc
          obtain ⟨a2, ha2, hc2⟩ := byte_in (hr1.grow (tb'.g.then gd2)) (i := (kk : Int)) (by omega) (by omega)
          rw [Int.toNat_natCast] at hc2
          have hby := (bs.getD kk 0).toNat_lt
          generalize (bs.getD kk 0).toNat = cb at *
          refine ⟨a, ha, _, hc, cond_f (by simp) ⟨a, ha, _, hc, _, RdB.len hr1, cond_f (by simp; omega) ⟨a, ha, _, hc, a2, ha2, _, hc2, ?_⟩⟩⟩
          rw [wi64_id (n := (cb : Int)) (by omega) (by omega), wi64_id (n := 1 + (cb : Int)) (by omega) (by omega)]
          refine cond_f (by simp; omega) (cond_intro (fun h4 => ?_) (fun h4 => hj _ _ ⟨rfl, rfl⟩))
          simp at h4
          rw [wi64_id (n := i - 1) (by omega) (by omega)]
          obtain ⟨a3, ha3, hc3⟩ := E1_at ro3 (i := i - 1) (by omega) (by omega)
          refine ⟨a, ha, _, hc, a3, ha3, _, hc3, hj _ _ ⟨?_, rfl⟩⟩
          have hlt := List.pairwise_iff_getElem.1 q2 (i - 1).toNat i.toNat (by omega) (by omega) (by omega)
          rw [ekk.1] at hlt
          rw [decide_eq_false_iff_not]; omega
        · rintro b26 w27 ⟨rfl, rfl⟩
          rw [wi64_id (n := i + 1) (by omega) (by omega)]
          exact cond_f rfl ⟨⟨by omega, by omega, gw.dr⟩, by omega⟩
      · simp at h3
        refine ⟨_, ro2.len, ?_⟩
        rw [wi64_id (n := seen + (ids.length : Int)) (by omega) (by omega), wi64_id (n := k + 1) (by omega) (by omega)]
        have ek2 : k + 1 - 1 = k := by omega
        refine ⟨⟨by omega, by omega, v', H', ?_, ?_, fun x hx => of x ((q4 x).1 hx).1, by omega, by omega⟩, by omega⟩
        · rw [ek2]; exact tb'.grow gw
        · rw [ek2]; exact q1
    · simp at h2
      have hk : k = 257 := by omega
      subst hk
      have hnil : H = [] := by
        apply List.eq_nil_iff_forall_not_mem.2
        intro x hx
        have h3 := gd.ahead x hx
        obtain ⟨kk, hkk, e⟩ := of x hx
        have hby := (bs.getD kk 0).toNat_lt
        generalize (bs.getD kk 0).toNat = cb at *
        rw [e] at h3
        dsimp only at h3; omega
      subst hnil
      refine JoinP.bool (fun b w' => b = true ∧ w' = ww) (fun j hj => ⟨_, RdB.len hr1, cond_t (by simp at hsum; simp; omega) (Len_c tb.t ⟨_, rfl, hj _ _ ⟨by decide, rfl⟩⟩)⟩) (fun b w' ⟨h, e⟩ => ?_)
      subst h; subst e
      exact ⟨rfl, g1.then tb.g⟩

theorem timerFull_s {w : World} {n id : Int} (hn : Fits .i64 n) (hid : Fits .i64 id) :
    Go.CW.Spec Try.prog 4 #[.int .i64 n, .int .i64 id] w (Law w) := by
  apply gemellaw10_TimerFull_wp
  refine known_c fun w1 g1 => ⟨_, rfl, cond_f rfl ?_⟩
  refine JoinP.bool (fun b w' => w' = w1 ∧ (b = false → 250 ≤ n ∧ n ≤ 260 ∧ 0 ≤ id ∧ id < 250)) (fun j hj => ?_) ?_
  · refine cond_intro (fun h => hj _ _ ⟨rfl, by simp⟩) (fun h => cond_intro (fun h2 => hj _ _ ⟨rfl, by simp⟩) (fun h2 => cond_intro (fun h3 => hj _ _ ⟨rfl, by simp⟩) (fun h3 => hj _ _ ⟨rfl, fun h4 => ?_⟩)))
    simp at h h2 h3 h4
    omega
  rintro b3 w4 ⟨rfl, hb3⟩
  refine cond_intro (fun h => ⟨rfl, g1⟩) (fun h => ?_)
  obtain ⟨n0, n1, i0, i1⟩ := hb3 h
  refine New_c fun w5 g5 t5 => ⟨_, rfl, ?_⟩
  have b5 := TB.new g5 t5
  generalize hb : w4.heap.size = b at t5 b5
  refine ⟨fun (i : Int) (ww : World) => 0 ≤ i ∧ i ≤ n ∧ ∃ v H, TB w4 ww b v H 0 ∧ Good H 0 ∧ H.length = min i.toNat 256 ∧ (∀ x ∈ H, 0 ≤ x.1 ∧ x.1 < i ∧ x.2 = 5) ∧ (∀ q, 0 ≤ q → q < i → q < 256 → (q, (5 : Int)) ∈ H), fun (i : Int) (_ : World) => (n - i).toNat,
    ⟨by omega, by omega, _, _, b5, Good.nil 0, rfl, (fun x hx => by cases hx), (fun q _ _ => by omega)⟩, ?_⟩
  dsimp only [allR, mapR2, eqN, ltN]
  rintro m i ww ⟨⟨h0, h1, v, H, tb, gd, hH, hall, hin⟩, hm⟩
  refine cond_intro (fun h2 => ?_) (fun h2 => ?_)
  · simp at h2
    have hf : ¬ fidx H i < H.length := fidx_none (fun x hx => by have := hall x hx; omega)
    refine Set_c tb.t (by omega) (by decide) (by omega) fun v' w' st t => ⟨_, rfl, ?_⟩
    rw [wi64_id (n := i + 1) (by omega) (by omega)]
    by_cases hfull : i < 256
    · obtain ⟨s0, s1, s2⟩ := gd.set (id := i) (n := 5) (by omega) (by omega) (.inr (by omega))
      rw [sans_of_none hf] at s2
      rw [s0]
      have hd : decide (i ≥ (256 : Int)) = false := by simp; omega
      rw [hd]
      refine cond_f (by decide) ⟨⟨by omega, by omega, v', _, tb.step st t, s1, ?_, fun x hx => ?_, fun q q0 q1 q2 => ?_⟩, by omega⟩
      · rw [s2.length_eq, List.length_cons, hH]; omega
      · rcases List.mem_cons.1 (s2.mem_iff.1 hx) with h | h
        · rw [h]; simp; omega
        · have := hall x h; omega
      · apply s2.mem_iff.2
        by_cases e : q = i
        · rw [e]; exact List.mem_cons_self
        · exact List.mem_cons_of_mem _ (hin q q0 (by omega) q2)
    · have hset : setF H 0 i 5 = (7, H) := by
        unfold setF
        rw [if_neg (by omega), if_neg hf, if_pos (by omega)]
      rw [hset] at t ⊢
      have hd : decide (i ≥ (256 : Int)) = true := by simp; omega
      rw [hd]
      refine cond_f (by simp) ⟨⟨by omega, by omega, v', _, tb.step st t, gd, ?_, fun x hx => ?_, fun q q0 q1 q2 => ?_⟩, by omega⟩
      · rw [hH]; omega
      · have := hall x hx; omega
      · exact hin q q0 (by omega) q2
  · simp at h2
    have ei : i = n := by omega
    subst ei
    have hmem := hin id i0 (by omega) (by omega)
    have hf : fidx H id < H.length := fidx_lt.2 ⟨_, hmem, rfl⟩
    obtain ⟨s0, s1, s2⟩ := gd.set (id := id) (n := 1) (by omega) (by omega) (.inl hf)
    refine Set_c tb.t (by omega) (by decide) (by omega) fun v' w' st t => ⟨_, rfl, ?_⟩
    have tb' := tb.step st t
    rw [s0]
    have hlen : (setF H 0 id 1).2.length ≤ 257 := by
      rw [s2.length_eq, List.length_cons]
      have h7 : (sans H id).length ≤ H.length := List.length_filter_le _ _
      have : H.length ≤ 256 := by rw [hH]; omega
      omega
    generalize (setF H 0 id 1).2 = G at *
    obtain ⟨q1, q2, q3, q4, q5⟩ := s1.tick
    refine Tick_c tb'.t (by omega) (by omega) fun v'' vo w'' st2 t2 ro _ => ?_
    have tb'' := tb'.step st2 t2
    have hids : (popF G (0 + 1)).1 = [id] := by
      have a1 : id ∈ (popF G (0 + 1)).1 := (q3 id).2 (s2.mem_iff.2 (by simp))
      have a2 : ∀ y ∈ (popF G (0 + 1)).1, y = id := by
        intro y hy
        have := s2.mem_iff.1 ((q3 y).1 hy)
        rcases List.mem_cons.1 this with h | h
        · simp at h; exact h
        · have h5 := hall _ (List.mem_filter.1 h).1
          simp at h5
      generalize (popF G (0 + 1)).1 = T at *
      match T, a1, a2, q2 with
      | [x], a1, a2, _ => rw [a2 x (by simp)]
      | x :: y :: T, a1, a2, q2 =>
        have h1 := a2 x (by simp)
        have h2 := a2 y (by simp)
        rw [List.pairwise_cons] at q2
        have := q2.1 y (by simp)
        omega
    rw [hids] at ro
    obtain ⟨a, ha, hc⟩ := E1_at ro (i := 0) (by omega) (by simp)
    refine JoinP.bool (fun b w' => b = true ∧ w' = w'') (fun j hj => cond_t (by decide) ⟨_, ro.len, cond_t (by simp) ⟨a, ha, _, hc, hj _ _ ⟨by simp, rfl⟩⟩⟩) (fun b w' ⟨h, e⟩ => ?_)
    subst h; subst e
    exact ⟨rfl, g1.then tb''.g⟩

end Go.Proofs.Ytnbnjghfmleibaa
