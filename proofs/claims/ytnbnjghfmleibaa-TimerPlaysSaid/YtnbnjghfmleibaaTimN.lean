/- The laws of the timers, go on: each returns true. -/
import Derived.Test.YtnbnjghfmleibaaTimL
set_option linter.unusedVariables false
set_option linter.unusedSimpArgs false
namespace Go.Proofs.Ytnbnjghfmleibaa
open Go Go.CW Go.RowKit

/-- no timer goes off at this tick -/
theorem quiet {H : List (Int × Int)} {now : Int} (g : Good H now) (h : ∀ x ∈ H, x.2 ≠ now + 1) : (popF H (now + 1)).1 = [] ∧ Good (popF H (now + 1)).2 (now + 1) ∧ (∀ x, x ∈ (popF H (now + 1)).2 ↔ x ∈ H) ∧ (popF H (now + 1)).2.length = H.length := by
  obtain ⟨q1, q2, q3, q4, q5⟩ := g.tick
  have e : (popF H (now + 1)).1 = [] := by
    apply List.eq_nil_iff_forall_not_mem.2
    intro id hid
    exact h _ ((q3 id).1 hid) rfl
  rw [e] at q5
  exact ⟨e, q1, fun x => ⟨fun hx => ((q4 x).1 hx).1, fun hx => (q4 x).2 ⟨hx, h x hx⟩⟩, by simpa using q5⟩

theorem nth_mem {H : List (Int × Int)} (h : 0 < H.length) : nth H 0 ∈ H := by
  rw [nth_get H 0 h]; exact List.getElem_mem _

theorem timerNexts_s {w : World} {v0 : Value} {bs : List UInt8} (hr : RdB w v0 bs) :
    Go.CW.Spec Try.prog 5 #[v0] w (Law w) := by
  apply gemellaw10_TimerNexts_wp
  refine known_c fun w1 g1 => ⟨_, rfl, cond_f rfl ?_⟩
  have hr1 := hr.grow g1
  refine ⟨_, RdB.len hr1, cond_intro (fun h => ⟨rfl, g1⟩) (fun h => ?_)⟩
  have hl : bs.length ≤ 30 := by simp at h; omega
  refine New_c fun w5 g5 t5 => ⟨_, rfl, ?_⟩
  have b5 := TB.new g5 t5
  generalize hb : w1.heap.size = b at t5 b5
  refine ⟨fun (i : Int) (ww : World) => 0 ≤ i ∧ i ≤ bs.length ∧ ∃ v H, TB w1 ww b v H 0 ∧ Good H 0 ∧ Ofs bs i.toNat H ∧ H.length = i.toNat, fun (i : Int) (_ : World) => (bs.length - i).toNat,
    ⟨by omega, by omega, _, _, b5, Good.nil 0, (fun x hx => by cases hx), rfl⟩, ?_⟩
  dsimp only [allR, mapR2, eqN, ltN]
  rintro m i ww ⟨⟨h0, h1, v, H, tb, gd, of, hH⟩, hm⟩
  have hrw := hr1.grow tb.g
  refine ⟨_, RdB.len hrw, cond_intro (fun h2 => ?_) (fun h2 => ?_)⟩
  · simp at h2
    obtain ⟨a, ha, hc⟩ := byte_in hrw h0 h2
    refine ⟨a, ha, _, hc, ?_⟩
    have hby := (bs.getD i.toNat 0).toNat_lt
    rw [wi64_id (n := ((bs.getD i.toNat 0).toNat : Int)) (by omega) (by omega), wi64_id (n := 1 + ((bs.getD i.toNat 0).toNat : Int)) (by omega) (by omega), wi64_id (n := i + 1) (by omega) (by omega)]
    obtain ⟨s0, s1, s2, s3⟩ := set_next (bs := bs) (n := i.toNat) (by omega) gd of hH
    have ei : ((i.toNat : Nat) : Int) = i := by omega
    rw [ei] at s0 s1 s2 s3
    refine Set_c tb.t (by omega) (fits64 (by omega) (by omega)) (by omega) fun v' w' st t => ⟨_, rfl, ?_⟩
    refine ⟨⟨by omega, by omega, v', _, tb.step st t, s1, ?_, ?_⟩, by omega⟩
    · have e : (i + 1).toNat = i.toNat + 1 := by omega
      rw [e]; exact s2
    · omega
  · simp at h2
    have ei : i.toNat = bs.length := by omega
    rw [ei] at of hH
    -- off: how many went off; k: the round; each round lets one go off at least
    refine ⟨fun (off k : Int) (ww : World) => 0 ≤ k ∧ k ≤ off ∧ ∃ v H now, TB w1 ww b v H now ∧ Good H now ∧ 0 ≤ now ∧ now ≤ 256 ∧ (∀ x ∈ H, x.2 ≤ 256) ∧ off + H.length = bs.length, fun (off k : Int) (_ : World) => (bs.length - off).toNat,
      ⟨by omega, by omega, v, H, 0, tb, gd, by omega, by omega, (fun x hx => ?_), by omega⟩, ?_⟩
    · obtain ⟨kk, hkk, e⟩ := of x hx
      have hby := (bs.getD kk 0).toNat_lt
      generalize (bs.getD kk 0).toNat = cb at *
      rw [e]; dsimp only; omega
    clear tb gd of hH hm hrw h0 h1 h2
    dsimp only [allR, mapR2, eqN, ltN]
    rintro m off k ww ⟨⟨k0, k1, v, H, now, tb, gd, now0, now1, hat, hsum⟩, hm⟩
    refine JoinP.bool (fun b20 w21 => w21 = ww ∧ b20 = decide (0 < H.length)) (fun j hj => ?_) ?_
    · refine cond_intro (fun h3 => Len_c tb.t ⟨_, rfl, hj _ _ ⟨rfl, by simp⟩⟩) (fun h3 => ?_)
      simp at h3; omega
    rintro b20 w21 ⟨rfl, rfl⟩
    refine cond_intro (fun h3 => ?_) (fun h3 => ?_)
    · simp only [decide_eq_true_eq] at h3
      refine Next_c tb.t fun w23 g23 => ?_
      rw [if_neg (fun e => by rw [e] at h3; simp at h3)]
      have tb23 := tb.grow g23
      have hmem := nth_mem h3
      have ha1 := gd.ahead _ hmem
      have ha2 := hat _ hmem
      generalize hnx : (nth H 0).2 = nx at *
      rw [wi64_id (n := nx - now) (by omega) (by omega)]
      refine ⟨_, _, rfl, ?_⟩
      refine JoinP.bool (fun b26 w27 => b26 = false ∧ w27 = w23) (fun j hj => cond_f rfl (hj _ _ ⟨by simp; omega, rfl⟩)) ?_
      rintro b26 w27 ⟨rfl, rfl⟩
      refine cond_f rfl ?_
      have hmin : ∀ x ∈ H, nx ≤ x.2 := fun x hx => by
        have := top_mem gd.ok x hx
        rw [le_iff, hnx] at this; omega
      refine ⟨fun (i : Int) (w30 : World) => 1 ≤ i ∧ i ≤ nx - now ∧ ∃ v' H', TB w1 w30 b v' H' (now + i - 1) ∧ Good H' (now + i - 1) ∧ (∀ x, x ∈ H' ↔ x ∈ H) ∧ H'.length = H.length, fun (i : Int) (_ : World) => (nx - now - i).toNat, ?_, ?_⟩
      · have e : now + 1 - 1 = now := by omega
        refine ⟨by omega, by omega, v, H, ?_, ?_, fun x => Iff.rfl, rfl⟩
        · rw [e]; exact tb23
        · rw [e]; exact gd
      dsimp only [allR, mapR2, eqN, ltN]
      rintro m' i w30 ⟨⟨i0, i1, v', H', tb', gd', hmem', hlen'⟩, hm'⟩
      refine cond_intro (fun h4 => ?_) (fun h4 => ?_)
      · simp at h4
        obtain ⟨e1, q1, q2, q3⟩ := quiet gd' (fun x hx => by have := hmin x ((hmem' x).1 hx); omega)
        refine Tick_c tb'.t (by omega) (by omega) fun v'' vo w32 st t ro _ => ?_
        rw [e1] at ro
        refine ⟨_, ro.len, cond_f (by simp) ?_⟩
        rw [wi64_id (n := i + 1) (by omega) (by omega)]
        have e : now + (i + 1) - 1 = now + i - 1 + 1 := by omega
        refine ⟨⟨by omega, by omega, v'', _, ?_, ?_, fun x => (q2 x).trans (hmem' x), by omega⟩, by omega⟩
        · rw [e]; exact tb'.step st t
        · rw [e]; exact q1
      · simp at h4
        obtain ⟨q1, q2, q3, q4, q5⟩ := gd'.tick
        refine Tick_c tb'.t (by omega) (by omega) fun v'' vo w35 st t ro _ => ?_
        have tb'' := tb'.step st t
        have enow : now + i - 1 + 1 = nx := by omega
        generalize now + i - 1 + 1 = nn at *
        subst enow
        have hpos : 0 < (popF H' nn).1.length := by
          have : (nth H 0).1 ∈ (popF H' nn).1 := (q3 _).2 ((hmem' _).2 (by rw [← hnx]; exact hmem))
          exact List.length_pos_of_mem this
        refine ⟨_, ro.len, cond_f (by simp; intro e; rw [e] at hpos; simp at hpos) ⟨_, ro.len, ?_⟩⟩
        rw [wi64_id (n := off + ((popF H' nn).1.length : Int)) (by omega) (by omega), wi64_id (n := k + 1) (by omega) (by omega)]
        exact ⟨⟨by omega, by omega, v'', _, nn, tb'', q1, by omega, by omega, fun x hx => hat x ((hmem' x).1 ((q4 x).1 hx).1), by omega⟩, by omega⟩
    · simp only [decide_eq_false_iff_not] at h3
      have hnil : H = [] := List.eq_nil_of_length_eq_zero (by omega)
      subst hnil
      refine Next_c tb.t fun w41 g41 => ?_
      rw [if_pos rfl]
      refine ⟨_, _, rfl, ?_⟩
      refine JoinP.bool (fun b w' => b = true ∧ w' = w41) (fun j hj => ⟨_, RdB.len hr1, cond_t (by simp at hsum; simp; omega) (hj _ _ ⟨rfl, rfl⟩)⟩) (fun b w' ⟨h, e⟩ => ?_)
      subst h; subst e
      exact ⟨rfl, g1.then (tb.g.then g41)⟩

theorem timerTurns_s {w : World} {a c cut : Int} {stop : Bool} (ha : Fits .i64 a) (hc : Fits .i64 c) (hcut : Fits .i64 cut) :
    Go.CW.Spec Try.prog 6 #[.int .i64 a, .int .i64 c, .int .i64 cut, .bool stop] w (Law w) := by
  apply gemellaw10_TimerTurns_wp
  refine known_c fun w1 g1 => ⟨_, rfl, cond_f rfl ?_⟩
  refine JoinP.bool (fun b w' => w' = w1 ∧ (b = false → 1 ≤ a ∧ a ≤ 60 ∧ 1 ≤ c ∧ c ≤ 60 ∧ 0 ≤ cut ∧ cut < a)) (fun j hj => ?_) ?_
  · refine cond_intro (fun h => hj _ _ ⟨rfl, by simp⟩) (fun h => cond_intro (fun h2 => hj _ _ ⟨rfl, by simp⟩) (fun h2 => cond_intro (fun h3 => hj _ _ ⟨rfl, by simp⟩) (fun h3 => cond_intro (fun h4 => hj _ _ ⟨rfl, by simp⟩) (fun h4 => cond_intro (fun h5 => hj _ _ ⟨rfl, by simp⟩) (fun h5 => hj _ _ ⟨rfl, fun h6 => ?_⟩)))))
    simp at h h2 h3 h4 h5 h6
    omega
  rintro b3 w4 ⟨rfl, hb3⟩
  refine cond_intro (fun h => ⟨rfl, g1⟩) (fun h => ?_)
  obtain ⟨a0, a1, c0, c1, u0, u1⟩ := hb3 h
  refine New_c fun w5 g5 t5 => ⟨_, rfl, ?_⟩
  have b5 := TB.new g5 t5
  generalize hb : w4.heap.size = b at t5 b5
  obtain ⟨s0, s1, s2⟩ := (Good.nil 0).set (id := 7) (n := a) (by omega) (by omega) (.inr (by simp))
  refine Set_c b5.t (by simp) ha (by omega) fun v6 w6 st6 t6 => ⟨_, rfl, ?_⟩
  have b6 := b5.step st6 t6
  have e6 : (setF [] 0 7 a).2 = [(7, a)] := by
    have := perm_single s2
    rw [this, Int.zero_add]
  rw [e6] at b6 s1
  have hf9 : ¬ fidx [((7 : Int), a)] 9 < [((7 : Int), a)].length := fidx_none (by simp)
  obtain ⟨r0, r1, r2⟩ := s1.set (id := 9) (n := 100) (by omega) (by omega) (.inr (by simp))
  rw [sans_of_none hf9] at r2
  refine Set_c b6.t (by simp) (by decide) (by omega) fun v7 w7 st7 t7 => ⟨_, rfl, ?_⟩
  have b7 := b6.step st7 t7
  generalize (setF [((7 : Int), a)] 0 9 100).2 = H7 at *
  have m7 : ∀ x, x ∈ H7 ↔ x = (9, 100) ∨ x = (7, a) := fun x => by rw [r2.mem_iff]; simp
  have l7 : H7.length = 2 := r2.length_eq
  refine ⟨fun (i : Int) (ww : World) => 0 ≤ i ∧ i ≤ cut ∧ ∃ v H, TB w4 ww b v H i ∧ Good H i ∧ (∀ x, x ∈ H ↔ x = (9, 100) ∨ x = (7, a)) ∧ H.length = 2, fun (i : Int) (_ : World) => (cut - i).toNat,
    ⟨by omega, by omega, v7, H7, b7, r1, m7, l7⟩, ?_⟩
  clear b5 b6 b7 r1 m7 l7 st6 st7 t6 t7
  dsimp only [allR, mapR2, eqN, ltN]
  rintro m i ww ⟨⟨i0, i1, v, H, tb, gd, mH, lH⟩, hm⟩
  refine cond_intro (fun h2 => ?_) (fun h2 => ?_)
  · simp at h2
    obtain ⟨e1, q1, q2, q3⟩ := quiet gd (fun x hx => by
      rcases (mH x).1 hx with rfl | rfl
      · dsimp only; omega
      · dsimp only; omega)
    refine Tick_c tb.t (by omega) (by omega) fun v' vo w' st t ro _ => ?_
    rw [e1] at ro
    rw [wi64_id (n := i + 1) (by omega) (by omega)]
    exact ⟨_, ro.len, cond_f (by simp) ⟨⟨by omega, by omega, v', _, tb.step st t, q1, fun x => (q2 x).trans (mH x), by omega⟩, by omega⟩⟩
  · simp at h2
    have ei : i = cut := by omega
    subst ei
    -- set anew
    have hf7 : fidx H 7 < H.length := fidx_lt.2 ⟨(7, a), (mH _).2 (.inr rfl), rfl⟩
    obtain ⟨y0, y1, y2⟩ := gd.set (id := 7) (n := c) (by omega) (by omega) (.inl hf7)
    have my : ∀ x, x ∈ (setF H i 7 c).2 ↔ x = (7, i + c) ∨ x = (9, 100) := fun x => by
      rw [y2.mem_iff, List.mem_cons, List.mem_filter, mH]
      constructor
      · rintro (h | ⟨h | h, hn⟩)
        · exact .inl h
        · exact .inr h
        · rw [h] at hn; simp at hn
      · rintro (h | h)
        · exact .inl h
        · exact .inr ⟨.inl h, by rw [h]; decide⟩
    have ly : (setF H i 7 c).2.length = 2 := by
      obtain ⟨z1, z2⟩ := gd.rem hf7
      have := z2.length_eq
      rw [remF_length] at this
      rw [y2.length_eq, List.length_cons, ← this, lH]
    refine JoinP.bool (fun b20 w21 => b20 = false ∧ ∃ v' H', TB w4 w21 b v' H' i ∧ Good H' i ∧ (∀ x, x ∈ H' ↔ x = (7, i + c) ∨ x = (9, 100)) ∧ H'.length = 2) (fun j hj => ?_) ?_
    · refine Set_c tb.t (by omega) hc (by omega) fun v' w' st t => ⟨_, rfl, ?_⟩
      rw [y0]
      have tb' := tb.step st t
      refine cond_f (by decide) (Len_c tb'.t ⟨_, rfl, hj _ _ ⟨by rw [ly]; decide, v', _, tb', y1, my, ly⟩⟩)
    rintro b20 w21 ⟨rfl, v', H', tb', gd', mH', lH'⟩
    refine cond_f rfl ?_
    clear tb gd mH lH hf7 y0 y1 y2 my ly
    -- stopped or not
    refine JoinP.bool (fun b22 w23 => b22 = false ∧ ∃ v'' H'', TB w4 w23 b v'' H'' i ∧ Good H'' i ∧ (∀ x, x ∈ H'' ↔ (x = (7, i + c) ∧ stop = false) ∨ x = (9, 100)) ∧ H''.length ≤ 2) (fun j hj => ?_) ?_
    · cases stop with
      | false => exact cond_f rfl (hj _ _ ⟨rfl, v', H', tb', gd', fun x => by rw [mH']; simp, by omega⟩)
      | true =>
        have hf7 : fidx H' 7 < H'.length := fidx_lt.2 ⟨(7, i + c), (mH' _).2 (.inl rfl), rfl⟩
        obtain ⟨z1, z2⟩ := gd'.rem hf7
        refine cond_t rfl (Stop_c tb'.t (by omega) fun v2 w2 st t => ⟨_, rfl, ?_⟩)
        rw [if_pos hf7] at t
        rw [decide_eq_true hf7]
        have tb2 := tb'.step st t
        generalize hG : remF H' (fidx H' 7) = G at *
        have lG : G.length = 1 := by rw [← hG, remF_length, lH']
        have hf : ¬ fidx G 7 < G.length := fidx_sans z2
        refine cond_f rfl (Stop_c tb2.t (by omega) fun v3 w3 st3 t3 => ⟨_, rfl, hj _ _ ⟨decide_eq_false hf, v3, G, ?_, z1, fun x => ?_, by omega⟩⟩)
        · rw [if_neg hf] at t3
          exact tb2.step st3 t3
        · rw [z2.mem_iff, List.mem_filter, mH']
          constructor
          · rintro ⟨h | h, hn⟩
            · rw [h] at hn; simp at hn
            · exact .inr h
          · rintro (⟨h, hn⟩ | h)
            · cases hn
            · exact ⟨.inr h, by rw [h]; decide⟩
    rintro b22 w23 ⟨rfl, v'', H'', tb'', gd'', mH'', lH''⟩
    refine cond_f rfl ?_
    clear tb' gd' mH' lH'
    -- the ticks
    refine ⟨fun (at_ k : Int) (ww : World) => 1 ≤ k ∧ k ≤ 62 ∧ ∃ v H, TB w4 ww b v H (i + k - 1) ∧ Good H (i + k - 1) ∧ (∀ x, x ∈ H → (x = (7, i + c) ∧ stop = false) ∨ x = (9, 100)) ∧ H.length ≤ 2 ∧ at_ = (if stop = false ∧ c < k then c else 0) ∧ (stop = false → k ≤ c → (7, i + c) ∈ H),
      fun (_ k : Int) (_ : World) => (62 - k).toNat, ?_, ?_⟩
    · have e : i + 1 - 1 = i := by omega
      refine ⟨by omega, by omega, v'', H'', ?_, ?_, fun x hx => (mH'' x).1 hx, lH'', by rw [if_neg (by omega)], fun hs _ => (mH'' _).2 (.inl ⟨rfl, hs⟩)⟩
      · rw [e]; exact tb''
      · rw [e]; exact gd''
    clear tb'' gd'' mH'' lH''
    dsimp only [allR, mapR2, eqN, ltN]
    rintro m at_ k ww ⟨⟨k0, k1, v, H, tb, gd, mH, lH, hat, hin⟩, hm⟩
    refine cond_intro (fun h3 => ?_) (fun h3 => ?_)
    · simp at h3
      obtain ⟨q1, q2, q3, q4, q5⟩ := gd.tick
      refine Tick_c tb.t (by omega) (by omega) fun v' vo w' st t ro _ => ?_
      have tb' := tb.step st t
      have ek : i + k - 1 + 1 = i + k := by omega
      generalize i + k - 1 + 1 = nn at *
      subst ek
      generalize hids : (popF H (i + k)).1 = ids at *
      generalize (popF H (i + k)).2 = H' at *
      have h7 : (7 ∈ ids) ↔ (stop = false ∧ k = c) := by
        rw [q3]
        constructor
        · intro hx
          rcases mH _ hx with ⟨h, hs⟩ | h
          · simp at h; exact ⟨hs, by omega⟩
          · simp at h
        · rintro ⟨hs, hk⟩
          have := hin hs (by omega)
          rw [hk]; exact this
      have hfin : ∀ at' : Int, at' = (if stop = false ∧ c < k + 1 then c else 0) → ∀ w2, Grow w' w2 → (1 ≤ k + 1 ∧ k + 1 ≤ 62 ∧ ∃ v H, TB w4 w2 b v H (i + (k + 1) - 1) ∧ Good H (i + (k + 1) - 1) ∧ (∀ x, x ∈ H → (x = (7, i + c) ∧ stop = false) ∨ x = (9, 100)) ∧ H.length ≤ 2 ∧ at' = (if stop = false ∧ c < k + 1 then c else 0) ∧ (stop = false → k + 1 ≤ c → (7, i + c) ∈ H)) ∧ (62 - (k + 1)).toNat < m := by
        intro at' hat' w2 g2
        have e : i + (k + 1) - 1 = i + k := by omega
        refine ⟨⟨by omega, by omega, v', H', ?_, ?_, fun x hx => mH x ((q4 x).1 hx).1, by omega, hat', fun hs hk => (q4 _).2 ⟨hin hs (by omega), by dsimp only; omega⟩⟩, by omega⟩
        · rw [e]; exact tb'.grow g2
        · rw [e]; exact q1
      refine ⟨fun (at2 p : Int) (w2 : World) => w2 = w' ∧ 0 ≤ p ∧ p ≤ ids.length ∧ at2 = (if 7 ∈ ids.take p.toNat then k else at_), fun (_ p : Int) (_ : World) => (ids.length - p).toNat, ⟨rfl, by omega, by omega, by simp⟩, ?_⟩
      dsimp only [allR, mapR2, eqN, ltN]
      rintro m' at2 p w2 ⟨⟨rfl, p0, p1, hat2⟩, hm'⟩
      refine ⟨_, ro.len, cond_intro (fun h4 => ?_) (fun h4 => ?_)⟩
      · simp at h4
        obtain ⟨ad, had, hcd⟩ := E1_at ro p0 h4
        have ep : (p + 1).toNat = p.toNat + 1 := by omega
        have htk : ids.take (p + 1).toNat = ids.take p.toNat ++ [ids[p.toNat]'(by omega)] := by
          rw [ep, List.take_add_one, List.getElem?_eq_getElem (by omega)]; rfl
        refine JoinP.int (fun n35 w36 => w36 = w2 ∧ n35 = (if 7 ∈ ids.take (p + 1).toNat then k else at_)) (fun j hj => ?_) ?_
        · refine ⟨ad, had, _, hcd, cond_intro (fun h5 => ?_) (fun h5 => hj _ _ ⟨rfl, ?_⟩)⟩
          · have h5 : ids[p.toNat]'(by omega) = 7 := by simpa using h5
            have hmem7 : 7 ∈ ids := by rw [← h5]; exact List.getElem_mem _
            obtain ⟨hs, hk⟩ := h7.1 hmem7
            have hnot : ¬ 7 ∈ ids.take p.toNat := by
              intro hx
              obtain ⟨q, hq, eq⟩ := List.mem_iff_getElem.1 hx
              rw [List.length_take] at hq
              rw [List.getElem_take] at eq
              have := List.pairwise_iff_getElem.1 q2 q p.toNat (by omega) (by omega) (by omega)
              omega
            rw [if_neg hnot, hat, if_neg (by omega)] at hat2
            rw [hat2]
            refine cond_f (by decide) (hj _ _ ⟨rfl, ?_⟩)
            rw [htk, if_pos (by simp [h5])]
          · have h5 : ids[p.toNat]'(by omega) ≠ 7 := by simpa using h5
            rw [hat2, htk]
            have : (7 ∈ ids.take p.toNat ++ [ids[p.toNat]'(by omega)]) ↔ 7 ∈ ids.take p.toNat := by
              simp only [List.mem_append, List.mem_singleton]
              constructor
              · rintro (h | h)
                · exact h
                · exact absurd h.symm h5
              · exact .inl
            simp only [this]
        · rintro n35 w36 ⟨rfl, rfl⟩
          rw [wi64_id (n := p + 1) (by omega) (by omega)]
          exact ⟨⟨rfl, by omega, by omega, rfl⟩, by omega⟩
      · simp at h4
        rw [wi64_id (n := k + 1) (by omega) (by omega)]
        refine hfin at2 ?_ _ (Grow.refl _)
        rw [hat2, List.take_of_length_le (by omega)]
        by_cases hs : 7 ∈ ids
        · obtain ⟨e1, e2⟩ := h7.1 hs
          rw [if_pos hs, if_pos ⟨e1, by omega⟩]; exact e2
        · rw [if_neg hs, hat]
          have hne : ¬ (stop = false ∧ k = c) := fun h => hs (h7.2 h)
          by_cases hs2 : stop = false ∧ c < k
          · rw [if_pos hs2, if_pos ⟨hs2.1, by omega⟩]
          · rw [if_neg hs2, if_neg (fun h => ?_)]
            have : k ≠ c := fun e => hne ⟨h.1, e⟩
            exact hs2 ⟨h.1, by omega⟩
    · simp at h3
      have hg := g1.then tb.g
      refine JoinP.bool (fun b w' => b = true ∧ w' = ww) (fun j hj => ?_) (fun b w' ⟨h, e⟩ => by subst h; subst e; exact ⟨rfl, hg⟩)
      cases stop with
      | false =>
        rw [if_pos ⟨rfl, by omega⟩] at hat
        subst hat
        exact cond_f rfl (cond_t rfl (hj _ _ ⟨by simp, rfl⟩))
      | true =>
        rw [if_neg (by simp)] at hat
        subst hat
        exact cond_t rfl (cond_t (by decide) (hj _ _ ⟨rfl, rfl⟩))

end Go.Proofs.Ytnbnjghfmleibaa
