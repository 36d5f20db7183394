/- The law of plays: it returns true. -/
import Derived.Test.YtnbnjghfmleibaaTimS
set_option linter.unusedVariables false
set_option linter.unusedSimpArgs false
namespace Go.Proofs.Ytnbnjghfmleibaa
open Go Go.CW Go.RowKit

abbrev tX : TypeId := 43
def E3 : Enc (Int × Int × Int) := ⟨3, fun p => [.int .i64 p.1, .int .i64 p.2.1, .int .i64 p.2.2], fun _ => rfl, by omega, fun _ => rfl⟩

/-- both timers, and an act beside them -/
structure Two (w1 ww : World) (b : Nat) (v : Value) (H : List (Int × Int)) (nt : Int) (c : Nat) (u : Value) (L : List (Int × Int)) (nr : Int) (h : Nat) (a : Int × Int × Int) : Prop where
  t : TS ww b v H nt
  r : RS ww c u L nr
  g : Grow w1 ww
  bt : ∀ k, FT b v k → w1.heap.size ≤ k
  br : ∀ k, FT c u k → w1.heap.size ≤ k
  dis : ∀ k, FT b v k → ¬ FT c u k
  act : BK ww h #[.int .i64 a.1, .int .i64 a.2.1, .int .i64 a.2.2] tX
  ht : ¬ FT b v h
  hr : ¬ FT c u h

section
variable {w1 ww w' : World} {b : Nat} {v v' : Value} {H H' : List (Int × Int)} {nt nt' : Int} {c : Nat} {u u' : Value} {L L' : List (Int × Int)} {nr nr' : Int} {h : Nat} {a : Int × Int × Int}
theorem Two.grow (z : Two w1 ww b v H nt c u L nr h a) (g : Grow ww w') : Two w1 w' b v H nt c u L nr h a :=
  ⟨z.t.grow g, z.r.grow g, z.g.then g, z.bt, z.br, z.dis, z.act.grow g, z.ht, z.hr⟩
theorem Two.stepT (z : Two w1 ww b v H nt c u L nr h a) (st : Step (FT b v) ww w' (FT b v')) (t : TS w' b v' H' nt') : Two w1 w' b v' H' nt' c u L nr h a := by
  refine ⟨t, z.r.stable fun k hk => st.block k (z.r.lt k hk) (fun hh => z.dis k hh hk), z.g.trans (st.to_below z.g.size z.bt), fun k hk => ?_, z.br, fun k hk hr => ?_, (st.block h z.act.lt z.ht).trans z.act, fun hh => ?_, z.hr⟩
  · exact (st.fp k hk).elim (z.bt k) (fun hh => Nat.le_trans z.g.size hh)
  · rcases st.fp k hk with hh | hh
    · exact z.dis k hh hr
    · have := z.r.lt k hr; omega
  · rcases st.fp h hh with hh | hh
    · exact z.ht hh
    · have := z.act.lt; omega
theorem Two.stepR (z : Two w1 ww b v H nt c u L nr h a) (st : Step (FT c u) ww w' (FT c u')) (r : RS w' c u' L' nr') : Two w1 w' b v H nt c u' L' nr' h a := by
  refine ⟨z.t.stable fun k hk => st.block k (z.t.lt k hk) (fun hh => z.dis k hk hh), r, z.g.trans (st.to_below z.g.size z.br), z.bt, fun k hk => ?_, fun k hk hr => ?_, (st.block h z.act.lt z.hr).trans z.act, z.ht, fun hh => ?_⟩
  · exact (st.fp k hk).elim (z.br k) (fun hh => Nat.le_trans z.g.size hh)
  · rcases st.fp k hr with hh | hh
    · exact z.dis k hk hh
    · have := z.t.lt k hk; omega
  · rcases st.fp h hh with hh | hh
    · exact z.hr hh
    · have := z.act.lt; omega
end

theorem timerPlays_s {w : World} {v0 : Value} {acts : List (Int × Int × Int)} (hr : RdR E3 w v0 acts) (hf : ∀ x ∈ acts, Fits .i64 x.1 ∧ Fits .i64 x.2.1 ∧ Fits .i64 x.2.2) :
    Go.CW.Spec Try.prog 7 #[v0] w (Law w) := by
  apply gemellaw10_TimerPlays_wp
  refine known_c fun w1 g1 => ⟨_, rfl, cond_f rfl ?_⟩
  have hr1 := hr.grow g1
  refine ⟨_, hr1.len, cond_intro (fun h => ⟨rfl, g1⟩) (fun h => ?_)⟩
  have hl : acts.length ≤ 300 := by simp at h; omega
  refine New_c fun w5 g5 t5 => ⟨_, rfl, ?_⟩
  have gc : Grow w5 _ := Grow.al (Grow.refl w5) (.cells #[.slice none 0 0, .int .i64 0] tR)
  have rc : RS (w5.alloc (.cells #[.slice none 0 0, .int .i64 0] tR)) w5.heap.size (.slice none 0 0) [] 0 := ⟨BK.new w5 _ _, OwnR.nil _ _ _, by intro hh; cases hh⟩
  have tc := t5.grow gc
  have hbc : w1.heap.size < w5.heap.size := t5.blk.lt
  have h15 := g5.size
  generalize hb : w1.heap.size = b at t5 tc hbc h15
  generalize hcc : w5.heap.size = c at *
  refine ⟨fun (i : Int) (ww : World) => 0 ≤ i ∧ i ≤ acts.length ∧ Grow w1 ww ∧ ∃ v H u L now, TS ww b v H now ∧ RS ww c u L now ∧ (∀ k, FT b v k → w1.heap.size ≤ k) ∧ (∀ k, FT c u k → w1.heap.size ≤ k) ∧ (∀ k, FT b v k → ¬ FT c u k) ∧
      Rel H now L ∧ H.length ≤ 256 ∧ 0 ≤ now ∧ now ≤ 20 * i, fun (i : Int) (_ : World) => (acts.length - i).toNat, ?_, ?_⟩
  · refine ⟨by omega, by omega, g5.then gc, _, _, _, _, 0, tc, rc, ?_, ?_, ?_, Rel.nil, by simp, by omega, by omega⟩
    · rintro k (rfl | hk)
      · omega
      · cases hk
    · rintro k (rfl | hk)
      · omega
      · cases hk
    · rintro k (rfl | hk) (e | hk2)
      · omega
      · cases hk2
      · cases hk
      · cases hk
  clear tc rc gc h15
  dsimp only [allR, mapR2, eqN, ltN]
  rintro m i ww ⟨⟨h0, h1, g, v, H, u, L, now, t, r, bt, br, dis, rel, hH, now0, now1⟩, hm⟩
  have hrw := hr1.grow g
  refine ⟨_, hrw.len, cond_intro (fun h2 => ?_) (fun h2 => ⟨rfl, g1.then g⟩)⟩
  simp at h2
  obtain ⟨a11, ha, hca, _⟩ := hrw.at h0 h2
  have hmem : acts[i.toNat]'(by omega) ∈ acts := List.getElem_mem _
  generalize acts[i.toNat]'(by omega) = a at *
  obtain ⟨f1, f2, f3⟩ := hf a hmem
  have ld : ldCells ww a11 3 #[.int .i64 a.1, .int .i64 a.2.1, .int .i64 a.2.2] := ldCells_of (vs := E3.enc a) rfl hca
  have b0 := BK.new ww #[.int .i64 0, .int .i64 0, .int .i64 0] tX
  have ga : Grow ww _ := Grow.al (Grow.refl ww) (.cells #[.int .i64 0, .int .i64 0, .int .i64 0] tX)
  have r0 := b0.row (ds := #[.int .i64 a.1, .int .i64 a.2.1, .int .i64 a.2.2]) rfl rfl
  have b1 := b0.strow (ds := #[.int .i64 a.1, .int .i64 a.2.1, .int .i64 a.2.2]) rfl
  have gb := Below.strow ga (p := ⟨ww.heap.size, 0, none⟩) (Nat.le_refl _) #[.int .i64 a.1, .int .i64 a.2.1, .int .i64 a.2.2]
  refine ⟨a11, ha, _, _, _, ld, r0, _, b1.cell 0, ?_⟩
  have tlt := t.lt
  have rlt := r.lt
  have z0 : Two w1 _ b v H now c u L now ww.heap.size a := ⟨t.grow gb, r.grow gb, g.then gb, bt, br, dis, b1, fun hh => by have := tlt _ hh; omega, fun hh => by have := rlt _ hh; omega⟩
  generalize stRow _ ⟨ww.heap.size, 0, none⟩ #[.int .i64 a.1, .int .i64 a.2.1, .int .i64 a.2.2] = W at *
  generalize ww.heap.size = q at *
  clear t r g tlt rlt b0 b1 ga gb r0 ld bt br dis hrw
  -- what each act leaves
  refine JoinP.unit (fun w16 => ∃ v H u L now', Two w1 w16 b v H now' c u L now' q a ∧ Rel H now' L ∧ H.length ≤ 256 ∧ 0 ≤ now' ∧ now' ≤ 20 * i + 20) (fun j hj => ?_) ?_
  · refine cond_intro (fun hop => ?_) (fun hop => cond_intro (fun hop2 => ?_) (fun hop2 => cond_intro (fun hop3 => ?_) (fun hop3 => hj _ ⟨_, _, _, _, now, z0, rel, hH, now0, by omega⟩)))
    · have zd := z0.grow (Grow.dr (Grow.refl W))
      have c1 := zd.act.cell 1
      have c2 := zd.act.cell 2
      refine ⟨_, c1, _, c2, _, c1, _, c2, ?_⟩
      obtain ⟨e1, e2, e3⟩ := rel.setT (id := a.2.1) (n := a.2.2) hH
      refine Set_c zd.t (by omega) f3 (by omega) fun v' w' st t => ⟨_, rfl, ?_⟩
      have z1 := zd.stepT st t
      refine ⟨⟨_, z1.act.cell 1, rfl⟩, ⟨_, z1.act.cell 2, rfl⟩, ?_⟩
      refine SetR_c z1.r (by have := rel.len; omega) fun u' w'' st2 r2 => ⟨_, rfl, ?_⟩
      rw [e1]
      exact cond_f (by simp) (hj _ ⟨_, _, _, _, now, z1.stepR st2 r2, e2, e3, now0, by omega⟩)
    · have zd := z0.grow (Grow.dr (Grow.refl W))
      have c1 := zd.act.cell 1
      refine ⟨_, c1, _, c1, ?_⟩
      have e2 := rel.stopT (id := a.2.1)
      refine Stop_c zd.t (by omega) fun v' w' st t => ⟨_, rfl, ?_⟩
      have z1 := zd.stepT st t
      refine ⟨⟨_, z1.act.cell 1, rfl⟩, ?_⟩
      refine StopR_c z1.r (by have := rel.len; omega) fun u' w'' st2 r2 => ⟨_, rfl, ?_⟩
      rw [rel.has a.2.1]
      refine cond_f (by simp) (hj _ ⟨_, _, _, _, now, z1.stepR st2 r2, e2, ?_, now0, by omega⟩)
      split
      · rw [remF_length]; omega
      · exact hH
    · refine ⟨fun (k : Int) (w73 : World) => 0 ≤ k ∧ k ≤ 20 ∧ ∃ v H u L, Two w1 w73 b v H (now + k) c u L (now + k) q a ∧ Rel H (now + k) L ∧ H.length ≤ 256, fun (k : Int) (_ : World) => (20 - k).toNat,
        ⟨by omega, by omega, v, H, u, L, by rw [Int.add_zero]; exact z0, by rw [Int.add_zero]; exact rel, hH⟩, ?_⟩
      clear z0 rel hH
      dsimp only [allR, mapR2, eqN, ltN]
      rintro m' k w73 ⟨⟨k0, k1, v, H, u, L, z, rel, hH⟩, hm'⟩
      refine JoinP.bool (fun b74 w75 => w75 = w73 ∧ (b74 = true → k < 20)) (fun j2 hj2 => ?_) ?_
      · refine ⟨_, z.act.cell 2, cond_intro (fun hq => hj2 _ _ ⟨rfl, fun hh => by simpa using hh⟩) (fun hq => hj2 _ _ ⟨rfl, by simp⟩)⟩
      rintro b74 w75 ⟨rfl, hk20⟩
      refine cond_intro (fun hb => ?_) (fun hb => hj _ ⟨_, _, _, _, now + k, z, rel, hH, by omega, by omega⟩)
      have hk := hk20 hb
      obtain ⟨e1, e2⟩ := rel.tickT
      refine Tick_c z.t (by omega) (by omega) fun v' vo w77 st t ro hbig => ?_
      have z1 := z.stepT st t
      have hH' : (popF H (now + k + 1)).2.length ≤ 256 := by
        have := rel.good.tick.2.2.2.2
        omega
      refine TickR_c z1.r (by have := rel.len; omega) (by omega) rel.pos fun u' uo w79 st2 r2 ro2 => ?_
      have z2 := z1.stepR st2 r2
      have rlt := z.r.lt
      have ro3 := ro.stable (w' := w79) fun k' hk' => st2.block k' (hbig k' hk').2.1 (fun hh => by
        have h1 := (hbig k' hk').1
        have h2 := rlt k' hh
        omega)
      rw [e1] at ro3
      refine ints_c ro3 ro2 fun w81 g81 => ⟨_, rfl, ?_⟩
      rw [wi64_id (n := k + 1) (by omega) (by omega)]
      have e : now + (k + 1) = now + k + 1 := by omega
      refine cond_f (by simp) ⟨⟨by omega, by omega, v', _, u', rest L, ?_, ?_, hH'⟩, by omega⟩
      · rw [e]; exact z2.grow g81
      · rw [e]; exact e2
  · clear z0 rel hH now0 now1
    rintro w16 ⟨v, H, u, L, now, z, rel, hH, now0, now1⟩
    refine ⟨_, z.act.cell 1, Left_c z.t fun w19 g19 => ?_⟩
    have z1 := z.grow g19
    have hL : ∃ n b, (if fidx H a.2.1 < H.length then (.tuple #[.int .i64 (IntKind.wrap .i64 ((nth H (fidx H a.2.1)).2 - now)), .bool true] : Value) else .tuple #[.int .i64 0, .bool false]) = .tuple #[.int .i64 n, .bool b] ∧
        (if hasF L a.2.1 = true then (.tuple #[.int .i64 (nth L (atF L a.2.1)).2, .bool true] : Value) else .tuple #[.int .i64 0, .bool false]) = .tuple #[.int .i64 n, .bool b] := by
      have hh := rel.has a.2.1
      by_cases hf : fidx H a.2.1 < H.length
      · rw [decide_eq_true hf] at hh
        rw [if_pos hf, if_pos hh, rel.leftT hf]
        have hlt : atF L a.2.1 < L.length ∧ (nth L (atF L a.2.1)).1 = a.2.1 := by simpa [hasF] using hh
        have := rel.pos (nth L (atF L a.2.1)) (by rw [nth_get L _ hlt.1]; exact List.getElem_mem _)
        rw [wi64_id (by omega) (by omega)]
        exact ⟨_, _, rfl, rfl⟩
      · rw [decide_eq_false hf] at hh
        rw [if_neg hf, if_neg (by rw [hh]; simp)]
        exact ⟨_, _, rfl, rfl⟩
    obtain ⟨n, bb, hl1, hl2⟩ := hL
    rw [hl1]
    refine ⟨_, _, rfl, _, z1.act.cell 1, LeftR_c z1.r fun w24 g24 => ?_⟩
    have z2 := z1.grow g24
    rw [hl2]
    refine ⟨_, _, rfl, Next_c z2.t fun w28 g28 => ?_⟩
    have z3 := z2.grow g28
    have hN : ∃ n b, (if H = [] then (.tuple #[.int .i64 0, .bool false] : Value) else .tuple #[.int .i64 (IntKind.wrap .i64 ((nth H 0).2 - now)), .bool true]) = .tuple #[.int .i64 n, .bool b] ∧
        (if L = [] then (.tuple #[.int .i64 0, .bool false] : Value) else .tuple #[.int .i64 (minF L (nth L 0).2), .bool true]) = .tuple #[.int .i64 n, .bool b] := by
      have hlen := rel.len
      by_cases hn : H = []
      · have : L = [] := by
          apply List.eq_nil_of_length_eq_zero
          rw [hlen, hn]; rfl
        rw [if_pos hn, if_pos this]
        exact ⟨_, _, rfl, rfl⟩
      · have h2 : L ≠ [] := fun e => hn (List.eq_nil_of_length_eq_zero (by rw [← hlen, e]; rfl))
        rw [if_neg hn, if_neg h2, rel.nextT hn]
        have hL0 : 0 < L.length := List.length_pos_iff.2 h2
        have hm0 : nth L 0 ∈ L := by rw [nth_get L 0 hL0]; exact List.getElem_mem _
        obtain ⟨m1, m2, m3⟩ := minF_spec L (nth L 0).2
        have hb : 1 ≤ minF L (nth L 0).2 ∧ minF L (nth L 0).2 ≤ 1073741824 := by
          rcases m3 with e | ⟨x, hx, e⟩
          · rw [e]; exact rel.pos _ hm0
          · rw [e]; exact rel.pos _ hx
        rw [wi64_id (by omega) (by omega)]
        exact ⟨_, _, rfl, rfl⟩
    obtain ⟨n2, bb2, hn1, hn2⟩ := hN
    rw [hn1]
    refine ⟨_, _, rfl, NextR_c z3.r ?_⟩
    rw [hn2]
    refine ⟨_, _, rfl, ?_⟩
    have z4 := z3.grow (Grow.dr (Grow.refl w28))
    refine JoinP.bool (fun b35 w' => b35 = false ∧ w' = World.drew w28) (fun j hj => ?_) ?_
    · refine cond_f (by simp) (cond_f (by simp) (cond_f (by simp) (cond_f (by simp) ⟨_, z4.r.c1, Now_c z4.t ⟨_, rfl, ⟨_, z4.r.c1, rfl⟩, cond_f (by simp) ⟨_, z4.r.c0, _, z4.r.row.rd.len, Len_c z4.t ⟨_, rfl, ⟨_, z4.r.c0, rfl⟩, hj _ _ ⟨?_, rfl⟩⟩⟩⟩⟩)))
      have := rel.len
      simp; omega
    · rintro b35 w' ⟨rfl, rfl⟩
      rw [wi64_id (n := i + 1) (by omega) (by omega)]
      exact cond_f rfl ⟨⟨by omega, by omega, z4.g, v, H, u, L, now, z4.t, z4.r, z4.bt, z4.br, z4.dis, rel, hH, now0, by omega⟩, by omega⟩

end Go.Proofs.Ytnbnjghfmleibaa
