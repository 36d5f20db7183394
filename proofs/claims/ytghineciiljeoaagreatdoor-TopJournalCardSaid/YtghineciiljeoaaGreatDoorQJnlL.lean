/- TopJournal: commands kept in a node's store, through crashes, and done by a new unit from the beginning: the unit is the same. -/
import Derived.Test.YtghineciiljeoaaGreatDoorQJrnA
import Derived.Test.YtghineciiljeoaaGreatDoorQOncA
import Derived.Test.YtghineciiljeoaaGreatDoorQKnown
set_option linter.unusedVariables false
set_option linter.unusedSimpArgs false
set_option maxRecDepth 100000
namespace Go.Proofs.YtghineciiljeoaaGreatDoor
open Go Go.CW Go.RowKit Go.Crc Go.CW.Ex
section
variable {w w' : World} {d mb n : Nat} {D : Dk} {S : SF} {s t r : Nat} {m : Int} {h : Hdr} {tv snap lv rv : Value} {es : List (List UInt8)}
theorem RdI.conv {A0 A1 : Av} {v : Value} {bs : List UInt8} (h : @RdI A0 w v bs) (g : Grow w w') (hA : ∀ q, A1.G q → A0.G q ∨ w.heap.size ≤ q) : @RdI A1 w' v bs := by
  obtain ⟨h1, h2, h3⟩ := h
  refine @RdI.mk A1 _ _ _ (h1.grow g) (h2.grow g) (fun q hq hg => (hA q hg).elim (h3 q hq) (fun hge => ?_))
  obtain ⟨cs, fr, e⟩ := h2 q hq
  have := (Array.getElem?_eq_some_iff.1 e).1
  omega
theorem DL.conv {A0 A1 : Av} (h : @DL A0 w d mb n D S) (g : Grow w w') (hA : ∀ q, A1.G q → A0.G q ∨ w.heap.size ≤ q) (hG : @GIn A1 w') : @DL A1 w' d mb n D S := by
  obtain ⟨⟨pv, cl, ob, hp, hi⟩, hm, hs, hne, hc, _⟩ := h
  refine @DL.mk A1 _ _ _ _ _ _ ⟨pv, cl, ob.grow g, hp.kept fun a u ha hv => (g.cell (World.block_lt_of_cell? w a ha)).trans ha, hi.grow g⟩ (hm.grow g) (fun x sc e => ?_) hne hc hG
  obtain ⟨k1, k2, k3, k4, k5, k6⟩ := hs x sc e
  exact @ScAt.mk A1 _ _ (k1.grow g) (k2.conv g hA) (Own.grow k3 g) (fun y hy => (k4 y hy).conv g hA) k5 k6
theorem SJ.conv {A0 A1 : Av} (sj : @SJ A0 w d mb n D S s t r m h tv snap lv rv es) (g : Grow w w') (hA : ∀ q, A1.G q → A0.G q ∨ w.heap.size ≤ q) (hG : @GIn A1 w') : @SJ A1 w' d mb n D S s t r m h tv snap lv rv es := by
  obtain ⟨dl, ⟨to_, tv'⟩, o, ⟨ro, L0, rl, rk⟩, ⟨L, l1, l2, l3⟩⟩ := sj
  refine @SJ.mk A1 _ _ _ _ _ _ _ _ _ _ _ _ _ _ _ _ (dl.conv g hA hG) (@TwAt.mk A1 _ _ _ _ _ _ _ (to_.grow g) (tv'.conv g hA)) (o.grow g) ⟨ro.grow g, L0, rl.grow g, rk⟩ ?_
  exact @EnAt.mk A1 _ _ _ _ ⟨L, l1.grow g, l2, fun i hi hi' => ⟨(l3 i hi hi').1, (l3 i hi hi').2.1, (l3 i hi hi').2.2.conv g hA⟩⟩
end
def dat3 (x : UInt8 × UInt8 × UInt8) : List UInt8 := [x.1, x.2.1, x.2.2]
def runsU (l : List (UInt8 × UInt8 × UInt8)) (U : Un) : Un := l.foldl (fun U x => (doU U 1 (plainC x.1 x.2.1 x.2.2)).2) U
theorem runsU_take {l : List (UInt8 × UInt8 × UInt8)} {i : Nat} (hi : i < l.length) (U : Un) : runsU (l.take (i + 1)) U = (doU (runsU (l.take i) U) 1 (plainC l[i].1 l[i].2.1 l[i].2.2)).2 := by
  unfold runsU
  rw [List.take_add_one, List.getElem?_eq_getElem hi, List.foldl_append]; rfl
theorem runsU_ty (l : List (UInt8 × UInt8 × UInt8)) {U : Un} (h : tyOk U) : tyOk (runsU l U) := by
  induction l generalizing U with
  | nil => exact h
  | cons x l ih => exact ih (doU_ty h _ _ _ 1)
abbrev cRd : Cm := ⟨2, 0, 32, 0, 0, 0, false, []⟩
abbrev cRs : Cm := ⟨17, 0, 0, 0, 0, 0, false, []⟩
theorem cRd_ok {U : Un} (hU : tyOk U) (i : Nat) : CmOk U i cRd := by
  have hr : regsB U.T = false := by unfold regsB; rcases hU with h | h <;> rw [h] <;> rfl
  exact ⟨by decide, by decide, by decide, by simp, fun _ _ _ => hr⟩
theorem cRs_ok {U : Un} (hU : tyOk U) (i : Nat) : CmOk U i cRs := by
  have hr : regsB U.T = false := by unfold regsB; rcases hU with h | h <;> rw [h] <;> rfl
  exact ⟨by decide, by decide, by decide, by simp, fun _ _ _ => hr⟩
theorem cRd_ty {U : Un} (hU : tyOk U) (i : Nat) : tyOk (doU U i cRd).2 := by
  unfold doU
  split
  · show tyOk (actU U i cRd).2
    unfold actU
    show tyOk (runU U cRd).2
    unfold tyOk; rw [runU_T]; exact hU
  · exact hU
theorem aj_at {w : World} {v : Value} {l : List (UInt8 × UInt8 × UInt8)} (h : RdR EA w v l) {i : Int} {n : Nat} (e : i = (n : Int)) (hi : n < l.length) :
    ∃ a, sliceAt v i 3 = some a ∧ w.cell? (Addr.add a 0) = some (.int .u8 ((l[n]).1.toNat : Int)) ∧ w.cell? (Addr.add a 1) = some (.int .u8 ((l[n]).2.1.toNat : Int)) ∧ w.cell? (Addr.add a 2) = some (.int .u8 ((l[n]).2.2.toNat : Int)) := by
  subst e
  obtain ⟨a, h1, h2, _⟩ := h.at (i := (n : Int)) (by omega) (by omega)
  exact ⟨a, h1, h2 0 (by show 0 < 3; omega), h2 1 (by show 1 < 3; omega), h2 2 (by show 2 < 3; omega)⟩
theorem bj_at {w : World} {v : Value} {l : List Bool} (h : RdR EBo w v l) {i : Int} {n : Nat} (e : i = (n : Int)) (hi : n < l.length) : ∃ a, sliceAt v i 1 = some a ∧ w.cell? a = some (.bool l[n]) := by
  subst e
  obtain ⟨a, h1, h2, _⟩ := h.at (i := (n : Int)) (by omega) (by omega)
  have := h2 0 (by show 0 < 1; omega)
  rw [add_zero] at this
  exact ⟨a, h1, this⟩
theorem rdrGrowJ {α : Type} {E : Enc α} {w w' : World} {v : Value} {L : List α} (r : RdR E w v L) (g : Grow w w') : RdR E w' v L := r.kept fun a u ha hv => (g.cell (World.block_lt_of_cell? w a ha)).trans ha
theorem rdbj_at {w : World} {v : Value} {bs : List UInt8} (h : RdB w v bs) {i : Int} {n : Nat} (e : i = (n : Int)) (hi : n < bs.length) : ∃ a, sliceAt v i 1 = some a ∧ w.cell? a = some (.int .u8 ((bs[n]).toNat : Int)) := by
  subst e
  obtain ⟨a, h1, h2⟩ := RdB.at h (i := (n : Int)) (by omega) (by omega)
  exact ⟨a, h1, by rw [h2]; rfl⟩
theorem JoinP.ptrJ {rest : Option Addr → World → Prop} {body : (Option Addr → World → Prop) → Prop} (Q : Option Addr → World → Prop) (hb : ∀ j : Option Addr → World → Prop, (∀ b w, Q b w → j b w) → body j) (h : ∀ b w, Q b w → rest b w) : JoinP [.ptr] rest body := hb rest h
theorem FU_noG [A : Av] {w : World} {u b t g1 g2 : Nat} {G : List (Int × Option Nat)} {U : Un} (h : UAt w u b t g1 g2 G U) (hA : A.G g1 ∧ A.G g2) : NoG w (FU t g1 g2) := by
  rintro q (rfl | rfl | rfl) cs fr e
  · have := h.tb.b
    unfold BK at this
    rw [this] at e
    injection e with e; injection e with _ e _
    exact absurd e (by decide)
  · exact hA.1
  · exact hA.2
theorem FU_noI [A : Av] {w : World} {u b t g1 g2 : Nat} {G : List (Int × Option Nat)} {U : Un} (h : UAt w u b t g1 g2 G U) : NoT tIn w (FU t g1 g2) := by
  rintro q (rfl | rfl | rfl)
  · exact noT_one h.tb.b (by decide) _ rfl
  · exact noT_one h.sp.dat (by decide) _ rfl
  · exact noT_one h.sp.map (by decide) _ rfl
structure JInv [Av] (W w : World) (d mb : Nat) (u b tt g1 g2 : Nat) (G : List (Int × Option Nat)) (U : Un) (es : List (List UInt8)) (i : Nat) (s : Nat) : Prop where
  gW : Grow W w
  uu : UAt w u b tt g1 g2 G U
  ub : W.heap.size ≤ tt ∧ W.heap.size ≤ g1 ∧ W.heap.size ≤ g2
  ex : ∃ (n : Nat) (S : SF) (t r : Nat) (m life : Int) (tv snap lv rv : Value) (T : Int → Option (List UInt8)) (rs : List (Int × List UInt8)), n ≤ 3 + 2 * i ∧ (1 ≤ m ∧ m ≤ 2 + (i : Int)) ∧ (1 ≤ life ∧ life ≤ 2 + (i : Int)) ∧
    SJ w d mb n ⟨354, false, 0, []⟩ S s t r m {hd0 with life := life} tv snap lv rv es ∧ JC (cont S) m (hdB {hd0 with life := life}) T ∧ RJ T 4294967296 life rs ∧ rs.length = es.length ∧
    (∀ (j : Nat) (h1 : j < rs.length) (h2 : j < es.length), rs[j].2 = entB (0 + (j : Int) + 1) es[j]) ∧
    (∀ q, FSJ d mb S s t r rv lv q → W.heap.size ≤ q ∧ q ≠ u ∧ q ≠ b ∧ q ≠ tt ∧ q ≠ g1 ∧ q ≠ g2)
theorem topJournal_c {W : World} (hE : Env W) {pv pc pp : Value} {l : List (UInt8 × UInt8 × UInt8)} {cr : List Bool} {ps : List Int} (hl : RdR EA W pv l) (hcr : RdR EBo W pc cr) (hps : RdR EI W pp ps) (hpsb : ps ≠ [] → ∀ q, pp.ownBlock = some q → q < W.heap.size) :
    Go.CW.Spec Tryz.prog 7 #[pv, pc, pp] W (Law W) := by
  apply gemeltop_TopJournal_wp
  refine known_c hE fun w1 gw1 => ⟨_, rfl, cond_f rfl ?_⟩
  refine JoinP.bool (fun q w' => (q = false → l.length ≤ 30 ∧ l.length ≤ cr.length ∧ ps.length ≤ 20) ∧ w' = w1) (fun j hj => ⟨_, hl.len, cond_intro (fun _ => hj _ _ ⟨fun e => (by cases e), rfl⟩) (fun h1 => ⟨_, hcr.len, _, hl.len, cond_intro (fun _ => hj _ _ ⟨fun e => (by cases e), rfl⟩) (fun h2 => ⟨_, hps.len, hj _ _ ⟨fun e => ?_, rfl⟩⟩)⟩)⟩) ?_
  · have k1 : ¬ (l.length : Int) > 30 := by simpa using h1
    have k2 : ¬ (cr.length : Int) < (l.length : Int) := by simpa using h2
    have k3 : ¬ (ps.length : Int) > 20 := by simpa using e
    omega
  rintro q w4 ⟨hq, rfl⟩
  refine cond_intro (fun _ => ⟨rfl, gw1⟩) (fun hq' => ?_)
  obtain ⟨hl30, hlc, hp20⟩ := hq hq'
  clear hq hq'
  apply store_Least_wp
  refine ⟨_, rfl, ?_⟩
  have zW := gw1.size
  obtain ⟨A0, hA0⟩ : ∃ A : Av, ∀ q, ¬ A.G q := ⟨⟨fun _ => False⟩, fun _ h => h⟩
  refine dNew_c (fun q hq => absurd hq (hA0 q)) (by omega) fun d mb w9 g9 hd hmb dl9 => ⟨_, _, rfl, ?_⟩
  have fd9 : ∀ q, FD d mb (fun _ => none) q → w4.heap.size ≤ q := by
    rintro q (rfl | rfl | ⟨x, sc, hs, _⟩)
    · exact hd
    · exact hmb
    · cases hs
  refine Format_cS dl9 (fun x => rfl) rfl (by omega) rfl (by simp) (by decide) fun S13 w13 st13 dl13 c13 => ⟨_, rfl, cond_f rfl ?_⟩
  have jc13 : JC (cont S13) 1 (hdB hd0) (fun _ => none) := by rw [c13]; exact JC.first _
  refine Open_cS (m := 1) (h := hd0) (es := []) (rs := []) (bs := []) dl13 rfl (by omega) rfl (by simp) (by decide) jc13 (by omega) (hd0_ok (x := 1) (by omega)) (by decide) rfl (by decide) (by decide) (RJ.empty _ _) (by simp) rfl (fun j h1 => by simp at h1) rfl (fun j h1 => by simp at h1) fun S16 s t r tv snap lv rv w16 st16 sj16 jc16 i16 new16 => ⟨_, _, rfl, cond_f rfl ?_⟩
  have fd13 : ∀ q, FD d mb S13 q → w4.heap.size ≤ q := fun q hq => (st13.fp q hq).elim (fd9 q) (fun h => by have := g9.size; omega)
  have z9 := g9.size
  have z13 := st13.size
  have z16 := st16.size
  have fs16 : ∀ q, FSJ d mb S16 s t r rv lv q → w4.heap.size ≤ q := by
    rintro q (hq | (hq | hq) | hq | hq)
    · have := new16 q (.inl hq); omega
    · have := new16 q (.inr (.inl hq)); omega
    · rcases st16.fp q hq with e | e
      · exact fd13 q e
      · omega
    · have := new16 q (.inr (.inr (.inl hq))); omega
    · have := new16 q (.inr (.inr (.inr hq))); omega
  have gW16 : Grow W w16 := ((gw1.then g9).trans (st13.to_below (gw1.then g9).size (fun q hq => by have := fd9 q hq; omega))).trans (st16.to_below (by omega) (fun q hq => by have := fd13 q hq; omega))
  have in16 := sj16.isIn
  refine uNew_c (N := 32) (by omega) (by omega) fun u b tt g1 g2 G w20 g20 hu hb htt hg1 hg2 ua na => ⟨_, _, rfl, ?_⟩
  obtain ⟨A1, hA1⟩ : ∃ A : Av, ∀ q, A.G q ↔ (q = g1 ∨ q = g2) := ⟨⟨fun q => q = g1 ∨ q = g2⟩, fun _ => Iff.rfl⟩
  have sj20 := SJ.conv (A1 := A1) sj16 g20 (fun q hq => .inr (by rcases (hA1 q).1 hq with e | e <;> omega)) (fun q hq => by
    rcases (hA1 q).1 hq with e | e
    · rw [e]; exact ua.sp.dat.lt
    · rw [e]; exact ua.sp.map.lt)
  clear sj16 i16 dl13 dl9
  clear A0 hA0
  have I0 : JInv W w20 d mb u b tt g1 g2 G ⟨32, List.replicate (8 * 32) 0, List.replicate ((32 + 7) / 8) 0, newTb⟩ ((l.take 0).map dat3) 0 s := by
    refine ⟨gW16.then g20, ua, ⟨by omega, by omega, by omega⟩, 3, S16, t, r, 2, 2, tv, snap, lv, rv, fun _ => none, [], by omega, by omega, by omega, sj20, jc16, RJ.empty _ _, by simp, fun j h1 => by simp at h1, fun q hq => ?_⟩
    have q1 := fs16 q hq
    have q2 := in16 q hq
    omega
  generalize hU0 : (⟨32, List.replicate (8 * 32) 0, List.replicate ((32 + 7) / 8) 0, newTb⟩ : Un) = U0 at *
  have tyU0 : tyOk U0 := by rw [← hU0]; exact .inl rfl
  clear sj20 jc16 jc13 c13 ua na
  refine ⟨fun (o : Option Addr) (n : Int) (w' : World) => ∃ (i : Nat) (s : Nat), n = (i : Int) ∧ i ≤ l.length ∧ o = some ⟨s, 0, none⟩ ∧ JInv W w' d mb u b tt g1 g2 G (runsU (l.take i) U0) ((l.take i).map dat3) i s,
    fun (_ : Option Addr) (n : Int) (_ : World) => ((l.length : Int) - n).toNat, ⟨0, s, rfl, by omega, rfl, I0⟩, ?_⟩
  clear I0 fs16 in16 gW16 fd9 fd13 new16 st13 st16 g20 hu hb htt hg1 hg2 g9 hd hmb z9 z13 z16
  clear s t r tv snap lv rv
  dsimp only [allR, mapR2, eqN, ltN]
  rintro mm o n w26 ⟨⟨i, s, rfl, hi, rfl, I⟩, hm⟩
  refine ⟨_, hl.len, cond_intro (fun hc => ?_) (fun hc => ?_)⟩
  · have hil : i < l.length := by have : (i : Int) < l.length := by simpa using hc
                                  omega
    have e1 : IntKind.wrap .i64 ((i : Int) + 1) = (i : Int) + 1 := wi64_id (by omega) (by omega)
    have e2 : IntKind.wrap .u64 (IntKind.wrap .i64 ((i : Int) + 1)) = (i : Int) + 1 := by rw [e1, w64_id (by omega) (by omega)]
    refine JoinP.ptrJ (fun o' w' => ∃ s', o' = some ⟨s', 0, none⟩ ∧ JInv W w' d mb u b tt g1 g2 G (runsU (l.take (i + 1)) U0) ((l.take (i + 1)).map dat3) (i + 1) s') (fun jj hjj => ?_) ?_
    · refine nm fun w31 e31 => ?_
      obtain ⟨a, ha, h0, h1, h2⟩ := aj_at (rdrGrowJ hl (I.gW.then (drE e31))) (i := (i : Int)) rfl hil
      refine ⟨a, ha, _, h0, a, ha, _, h1, a, ha, _, h2, nm fun w38 e38 => nm fun w39 e39 => nm fun w40 e40 => ?_⟩
      clear e39
      obtain ⟨b40, g40, s40⟩ := alE e40
      have g2640 := (drE e38).then g40
      obtain ⟨gW, ua, ub, n, S, t, r, m, life, tv, snap, lv, rv, T, rs, hn, hmm, hlf, sj, jc, rj, hrl, hrE, ap⟩ := I
      have rd40 : RdB w40 (.slice (some ⟨w38.heap.size, 0, none⟩) 3 3) (dat3 l[i]) := by
        have hb' : BK w40 w38.heap.size ((dat3 l[i]).map b8).toArray tb := b40
        exact bk_rdB hb' (by simp [dat3])
      have sj40 := sj.grow g2640
      have ua40 := ua.grow g2640
      have hes : ((l.take i).map dat3).length = i := by simp; omega
      have ul : u < w40.heap.size ∧ b < w40.heap.size ∧ tt < w40.heap.size ∧ g1 < w40.heap.size ∧ g2 < w40.heap.size := ⟨ua40.o.lt, ua40.sp.obj.lt, ua40.tb.b.lt, ua40.sp.dat.lt, ua40.sp.map.lt⟩
      have z40 := g2640.size
      have z38 := (drE e38).size
      have zWW := gW.size
      rw [e2]
      refine Append_cS sj40 rfl (by omega) rfl (by simp) (by decide) (hd0_ok (by omega)) (show (4294967296 : Int) < 4611686018427387904 by decide) (show (0 : Int) < 1000000 by decide) (by rw [hes]; omega) rd40 (fun q hq hf => ?_) (by simp [dat3]) (by simp [dat3]) (i := (i : Int) + 1) (by rw [hes]; show (i : Int) + 1 = 0 + (i : Int) + 1; omega) fun S2 lv2 rv2 w42 st42 sj42 c42 => ⟨_, rfl, cond_f rfl ?_⟩
      · have e : w38.heap.size = q := by simpa [Value.ownBlock] using hq
        have := sj.isIn q hf
        omega
      have ap2 : ∀ q, FSJ d mb S2 s t r rv2 lv2 q → W.heap.size ≤ q ∧ q ≠ u ∧ q ≠ b ∧ q ≠ tt ∧ q ≠ g1 ∧ q ≠ g2 := fun q hq => by
        rcases st42.fp q hq with e | e
        · exact ap q e
        · omega
      have apx : ∀ q, FSJ d mb S s t r rv lv q → q ≠ u ∧ q ≠ b ∧ q ≠ tt ∧ q ≠ g1 ∧ q ≠ g2 := fun q hq => (ap q hq).2
      have ua42 := ua40.stepF st42 (fun e => (apx _ e).1 rfl) (fun e => (apx _ e).2.1 rfl) (fun e => (apx _ e).2.2.1 rfl) (fun e => (apx _ e).2.2.2.1 rfl) (fun e => (apx _ e).2.2.2.2 rfl)
      have gW42 : Grow W w42 := (gW.then g2640).trans (st42.to_below (by omega) (fun q hq => (ap q hq).1))
      have jc42 : JC (cont S2) m (hdB {hd0 with life := life}) (updT T (98 + (rs.length : Int)) (packR (4294967296 + (rs.length : Int)) life 0 1 (entB ((i : Int) + 1) (dat3 l[i])))) := by
        rw [c42]
        have ers : ((l.take i).map dat3).length = rs.length := hrl.symm
        rw [ers]
        exact jc.wr (by omega)
      have rj42 := rj.push (bs := entB ((i : Int) + 1) (dat3 l[i])) (by omega) (by rw [entB_len]; simp [dat3])
      refine nm fun w44 e44 => ?_
      obtain ⟨a', ha', h0', h1', h2'⟩ := aj_at (rdrGrowJ hl (gW42.then (drE e44))) (i := (i : Int)) rfl hil
      refine ⟨a', ha', _, h0', a', ha', _, h1', a', ha', _, h2', nm fun w51 e51 => plain_c fun dv w53 g53 r53 n53 => ⟨_, _, _, _, _, _, _, _, rfl, ?_⟩⟩
      have g4253 := (drE e51).then g53
      have ua53 := ua42.grow g4253
      have sj53 := sj42.grow g4253
      have tyU := runsU_ty (l.take i) tyU0
      refine Do_c ua53 (i := 1) (by omega) (plain_ok tyU _ _ _ 1) r53 fun v62 w63 st63 ua63 rp63 => ?_
      obtain ⟨d63, rfl, r63, n63⟩ := rp63
      refine ⟨_, _, _, _, _, rfl, ?_⟩
      have nofu : ∀ q, FSJ d mb S2 s t r rv2 lv2 q → ¬ FU tt g1 g2 q := fun q hq hf => by
        obtain ⟨_, q1, q2, q3, q4, q5⟩ := ap2 q hq
        rcases hf with e | e | e
        · exact q3 e
        · exact q4 e
        · exact q5 e
      have sj63 := sj53.other st63 nofu (FU_noG ua53 ⟨(hA1 _).2 (.inl rfl), (hA1 _).2 (.inr rfl)⟩) (FU_noI ua53)
      have gW63 : Grow W w63 := (gW42.then g4253).trans (st63.to_below (gW42.then g4253).size (fun q hq => by rcases hq with e | e | e <;> omega))
      rw [← runsU_take hil U0] at ua63
      have etk : (l.take i).map dat3 ++ [dat3 l[i]] = (l.take (i + 1)).map dat3 := by rw [List.take_add_one, List.getElem?_eq_getElem hil, List.map_append]; rfl
      rw [etk] at sj63
      have hrl2 : (rs ++ [(life, entB ((i : Int) + 1) (dat3 l[i]))]).length = ((l.take (i + 1)).map dat3).length := by rw [← etk]; simp [hrl]
      have hrE2 : ∀ (j : Nat) (h1 : j < (rs ++ [(life, entB ((i : Int) + 1) (dat3 l[i]))]).length) (h2 : j < ((l.take (i + 1)).map dat3).length), (rs ++ [(life, entB ((i : Int) + 1) (dat3 l[i]))])[j].2 = entB (0 + (j : Int) + 1) ((l.take (i + 1)).map dat3)[j] := by
        intro j h1 h2
        have e3 : ((l.take (i + 1)).map dat3)[j] = ((l.take i).map dat3 ++ [dat3 l[i]])[j]'(by rw [etk]; exact h2) := by simp only [etk]
        rw [e3]
        by_cases hj : j < rs.length
        · rw [List.getElem_append_left hj, List.getElem_append_left (by omega)]
          exact hrE j hj (by omega)
        · have hj' : j = rs.length := by simp at h1; omega
          subst hj'
          rw [List.getElem_append_right (Nat.le_refl _), List.getElem_append_right (by omega)]
          have e4 : (0 : Int) + (rs.length : Int) + 1 = (i : Int) + 1 := by rw [hrl, hes]; omega
          rw [e4]
          simp [hrl]
      obtain ⟨a69, ha69, hc69⟩ := bj_at (rdrGrowJ hcr gW63) (i := (i : Int)) rfl (by omega)
      refine ⟨a69, ha69, _, hc69, cond_intro (fun _ => ?_) (fun _ => ?_)⟩
      · refine Crash_l sj63.dl rfl (by omega) (rdrGrowJ hps gW63) (fun hne q hq hf => by have := hpsb hne q hq; have := (ap2 q (.inr (.inl (.inr hf)))).1; omega) (by omega) fun S3 w72 st72 dl72 cc72 => ⟨rfl, On_l dl72 fun w74 st74 dl74 => ⟨rfl, ?_⟩⟩
        have jc72 := jc42.crash cc72
        have fd3 : ∀ q, FD d mb S3 q → W.heap.size ≤ q ∧ q ≠ u ∧ q ≠ b ∧ q ≠ tt ∧ q ≠ g1 ∧ q ≠ g2 := fun q hq => by
          rcases st72.fp q hq with e | e
          · exact ap2 q (.inr (.inl (.inr e)))
          · have := gW63.size
            have u1 := ua63.o.lt
            have u2 := ua63.sp.obj.lt
            have u3 := ua63.tb.b.lt
            have u4 := ua63.sp.dat.lt
            have u5 := ua63.sp.map.lt
            omega
        have fd2 : ∀ q, FD d mb S2 q → W.heap.size ≤ q ∧ q ≠ u ∧ q ≠ b ∧ q ≠ tt ∧ q ≠ g1 ∧ q ≠ g2 := fun q hq => ap2 q (.inr (.inl (.inr hq)))
        have ua72 := ua63.stepF st72 (fun e => (fd2 _ e).2.1 rfl) (fun e => (fd2 _ e).2.2.1 rfl) (fun e => (fd2 _ e).2.2.2.1 rfl) (fun e => (fd2 _ e).2.2.2.2.1 rfl) (fun e => (fd2 _ e).2.2.2.2.2 rfl)
        have ua74 := ua72.stepF st74 (fun e => (fd3 _ e).2.1 rfl) (fun e => (fd3 _ e).2.2.1 rfl) (fun e => (fd3 _ e).2.2.2.1 rfl) (fun e => (fd3 _ e).2.2.2.2.1 rfl) (fun e => (fd3 _ e).2.2.2.2.2 rfl)
        have gW74 : Grow W w74 := (gW63.trans (st72.to_below gW63.size (fun q hq => (fd2 q hq).1))).trans (st74.to_below (by have := st72.size; have := gW63.size; omega) (fun q hq => (fd3 q hq).1))
        have hes2 : ((l.take (i + 1)).map dat3).length = i + 1 := by simp; omega
        refine Open_cS (m := m) (h := {hd0 with life := life}) (es := (l.take (i + 1)).map dat3) (bs := []) dl74 rfl (by omega) rfl (by simp) (by decide) jc72 (by omega) (hd0_ok (by omega)) (by show life < 4000000000; omega) rfl (by show (4294967296 : Int) < 4611686018427387904; decide) (by show (0 : Int) < 1000000; decide) rj42 (by rw [hrl2, hes2]; omega) hrl2.symm hrE2 rfl (fun j h1 => by simp at h1) fun S4 s4 t4 r4 tv4 snap4 lv4 rv4 w76 st76 sj76 jc76 i76 new76 => ⟨_, _, rfl, ?_⟩
        have ua76 := ua74.stepF st76 (fun e => (fd3 _ e).2.1 rfl) (fun e => (fd3 _ e).2.2.1 rfl) (fun e => (fd3 _ e).2.2.2.1 rfl) (fun e => (fd3 _ e).2.2.2.2.1 rfl) (fun e => (fd3 _ e).2.2.2.2.2 rfl)
        have gW76 : Grow W w76 := gW74.trans (st76.to_below gW74.size (fun q hq => (fd3 q hq).1))
        refine JoinP.bool (fun b w' => b = false ∧ w' = w76) (fun j hj => cond_f rfl ⟨_, rfl, hj _ _ ⟨rfl, rfl⟩⟩) ?_
        rintro b79 w80 ⟨rfl, rfl⟩
        refine cond_f rfl (hjj _ _ ⟨s4, rfl, gW76, ua76, ub, n + 1 + 1, S4, t4, r4, m + 1, life + 1, tv4, snap4, lv4, rv4, _, _, by omega, by omega, by omega, sj76, jc76, rj42.life (by omega), hrl2, hrE2, fun q hq => ?_⟩)
        have u1 := ua74.o.lt
        have u2 := ua74.sp.obj.lt
        have u3 := ua74.tb.b.lt
        have u4 := ua74.sp.dat.lt
        have u5 := ua74.sp.map.lt
        have zz := gW74.size
        have hnew : w74.heap.size ≤ q → W.heap.size ≤ q ∧ q ≠ u ∧ q ≠ b ∧ q ≠ tt ∧ q ≠ g1 ∧ q ≠ g2 := fun h => by omega
        rcases hq with e | (e | e) | e | e
        · exact hnew (new76 q (.inl e))
        · exact hnew (new76 q (.inr (.inl e)))
        · rcases st76.fp q e with e' | e'
          · exact fd3 q e'
          · exact hnew e'
        · exact hnew (new76 q (.inr (.inr (.inl e))))
        · exact hnew (new76 q (.inr (.inr (.inr e))))
      · exact hjj _ _ ⟨s, rfl, gW63, ua63, ub, n + 1, S2, t, r, m, life, tv, snap, lv2, rv2, _, _, by omega, by omega, by omega, sj63, jc42, rj42, hrl2, hrE2, ap2⟩
    · rintro o' w29 ⟨s', rfl, I'⟩
      rw [e1]
      exact ⟨⟨i + 1, s', by omega, by omega, rfl, I'⟩, by omega⟩
  · have hil : i = l.length := by have : ¬ (i : Int) < l.length := by simpa using hc
                                  omega
    subst hil
    rw [List.take_length] at I
    obtain ⟨gW, ua, ub, n, S, t, r, m, life, tv, snap, lv, rv, T, rs, hn, hmm, hlf, sj, jc, rj, hrl, hrE, ap⟩ := I
    have tyU := runsU_ty l tyU0
    refine uNew_c (N := 32) (by omega) (by omega) fun u' b' tt' g1' g2' G' w84 g84 hu' hb' htt' hg1' hg2' va na => ⟨_, _, rfl, ?_⟩
    rw [hU0] at va
    have in26 := sj.isIn
    have ul : u < w26.heap.size ∧ b < w26.heap.size ∧ tt < w26.heap.size ∧ g1 < w26.heap.size ∧ g2 < w26.heap.size := ⟨ua.o.lt, ua.sp.obj.lt, ua.tb.b.lt, ua.sp.dat.lt, ua.sp.map.lt⟩
    have ua84 := ua.grow g84
    obtain ⟨A2, hA2⟩ : ∃ A : Av, ∀ q, A.G q ↔ ((q = g1 ∨ q = g2) ∨ (q = g1' ∨ q = g2')) := ⟨⟨fun q => (q = g1 ∨ q = g2) ∨ (q = g1' ∨ q = g2')⟩, fun _ => Iff.rfl⟩
    have sj84 := SJ.conv (A1 := A2) sj g84 (fun q hq => by
      rcases (hA2 q).1 hq with e | e
      · exact .inl ((hA1 q).2 e)
      · exact .inr (by rcases e with e | e <;> omega)) (fun q hq => by
      rcases (hA2 q).1 hq with (e | e) | (e | e)
      · rw [e]; exact ua84.sp.dat.lt
      · rw [e]; exact ua84.sp.map.lt
      · rw [e]; exact va.sp.dat.lt
      · rw [e]; exact va.sp.map.lt)
    clear sj
    clear A1 hA1
    have gW84 := gW.then g84
    have zW := gW.size
    have vb : W.heap.size ≤ tt' ∧ W.heap.size ≤ g1' ∧ W.heap.size ≤ g2' := by omega
    have hes : (l.map dat3).length = l.length := by simp
    refine ⟨fun (n : Int) (w' : World) => ∃ (i : Nat), n = (i : Int) ∧ i ≤ l.length ∧ Grow W w' ∧ UAt w' u b tt g1 g2 G (runsU l U0) ∧ UAt w' u' b' tt' g1' g2' G' (runsU (l.take i) U0) ∧ (∃ nn, SJ w' d mb nn ⟨354, false, 0, []⟩ S s t r m {hd0 with life := life} tv snap lv rv (l.map dat3)),
      fun (n : Int) (_ : World) => ((l.length : Int) - n).toNat, ⟨0, rfl, by omega, gW84, ua84, va, n, sj84⟩, ?_⟩
    clear ua84 va gW84 sj84 na
    dsimp only [allR, mapR2, eqN, ltN]
    rintro m2 n2 w89 ⟨⟨i, rfl, hi, gW89, ua89, va89, nn, sj89⟩, hm2⟩
    refine ⟨_, hl.len, cond_intro (fun hc2 => ?_) (fun hc2 => ?_)⟩
    · have hil : i < l.length := by have : (i : Int) < l.length := by simpa using hc2
                                    omega
      have e1 : IntKind.wrap .i64 ((i : Int) + 1) = (i : Int) + 1 := wi64_id (by omega) (by omega)
      have e2 : IntKind.wrap .u64 (IntKind.wrap .i64 ((i : Int) + 1)) = (i : Int) + 1 := by rw [e1, w64_id (by omega) (by omega)]
      rw [e2]
      refine Entry_cS sj89 (show (0 : Int) ≤ 0 ∧ (0 : Int) < 1000000 by decide) (by rw [hes]; omega) (fun e he => by
        obtain ⟨x, _, rfl⟩ := List.mem_map.1 he
        simp [dat3]) (j := i) (by rw [hes]; exact hil) (i := (i : Int) + 1) (by show (i : Int) + 1 = 0 + (i : Int) + 1; omega) fun v95 w92 g92 r95 n95 => ⟨_, _, _, _, rfl, nm fun w97 e97 => ?_⟩
      have er : (l.map dat3)[i]'(by rw [hes]; exact hil) = dat3 l[i] := by simp
      rw [er] at r95
      obtain ⟨b97, g97, s97⟩ := alE e97
      have one95 := Rd.isOne r95
      refine ⟨b97.row rfl (by show (true && (true && (isOne v95 && true))) = true; rw [one95]; rfl), nm fun w98 e98 => ?_⟩
      obtain ⟨b98, t98⟩ := rowE b97 e98 rfl
      have g98 : Grow w92 w98 := Below.turn g97 t98 (Nat.le_refl _)
      have g8998 := g92.then g98
      have r98 := r95.grow g98
      refine JoinP.bool (fun b w' => b = false ∧ w' = w98) (fun j hj => cond_f rfl ⟨_, b98.cell 2, _, RdB.len r98, hj _ _ ⟨by simp [dat3], rfl⟩⟩) ?_
      rintro b99 w100 ⟨rfl, rfl⟩
      refine cond_f rfl (nm fun w101 e101 => ?_)
      have b101 := b98.grow (drE e101)
      have r101 := r98.grow (drE e101)
      obtain ⟨q0, hq0, hc0⟩ := rdbj_at r101 (i := (0 : Int)) (n := 0) rfl (by simp [dat3])
      obtain ⟨q1, hq1, hc1⟩ := rdbj_at r101 (i := (1 : Int)) (n := 1) rfl (by simp [dat3])
      obtain ⟨q2, hq2, hc2'⟩ := rdbj_at r101 (i := (2 : Int)) (n := 2) rfl (by simp [dat3])
      refine ⟨_, b101.cell 2, q0, hq0, _, hc0, _, b101.cell 2, q1, hq1, _, hc1, _, b101.cell 2, q2, hq2, _, hc2', nm fun w111 e111 => ?_⟩
      refine plain_c (n := l[i].1) (a := l[i].2.1) (b := l[i].2.2) fun dv w113 g113 r113 n113 => ⟨_, _, _, _, _, _, _, _, rfl, ?_⟩
      have gB := g8998.then ((drE e111).then g113)
      have va113 := va89.grow gB
      have ua113 := ua89.grow gB
      have sj113 := sj89.grow gB
      have tyV := runsU_ty (l.take i) tyU0
      refine Do_c va113 (i := 1) (by omega) (plain_ok tyV _ _ _ 1) r113 fun v122 w123 st123 va123 rp123 => ?_
      obtain ⟨d123, rfl, r123, n123⟩ := rp123
      refine ⟨_, _, _, _, _, rfl, ?_⟩
      have noF : ∀ q, q < w26.heap.size → ¬ FU tt' g1' g2' q := fun q hq hf => by rcases hf with e | e | e <;> omega
      have ua123 := ua113.stepF st123 (noF _ (by omega)) (noF _ (by omega)) (noF _ (by omega)) (noF _ (by omega)) (noF _ (by omega))
      have sj123 := sj113.other st123 (fun q hq => noF q (in26 q hq)) (FU_noG va113 ⟨(hA2 _).2 (.inr (.inl rfl)), (hA2 _).2 (.inr (.inr rfl))⟩) (FU_noI va113)
      rw [← runsU_take hil U0] at va123
      rw [e1]
      exact ⟨⟨i + 1, by omega, by omega, (gW89.then gB).trans (st123.to_below (gW89.then gB).size (fun q hq => by rcases hq with e | e | e <;> omega)), ua123, va123, nn, sj123⟩, by omega⟩
    · have hil : i = l.length := by have : ¬ (i : Int) < l.length := by simpa using hc2
                                    omega
      subst hil
      rw [List.take_length] at va89
      have noV : ∀ q, q < w26.heap.size → ¬ FU tt' g1' g2' q := fun q hq hf => by rcases hf with e | e | e <;> omega
      have noU : ∀ q, w26.heap.size ≤ q → ¬ FU tt g1 g2 q := fun q hq hf => by rcases hf with e | e | e <;> omega
      generalize runsU l U0 = U at *
      refine Do_c ua89 (i := 1) (c := cRd) (by omega) (cRd_ok tyU 1) (Rd.nil w89) fun va_ w133 st133 ua133 rp133 => ?_
      obtain ⟨d1, rfl, r1, n1⟩ := rp133
      refine ⟨_, _, _, _, _, rfl, nm fun w139 e139 => ?_⟩
      obtain ⟨b139, g139, s139⟩ := alE e139
      refine ⟨b139.row rfl (one_rep (Rd.isOne r1)), nm fun w140 e140 => ?_⟩
      obtain ⟨b140, t140⟩ := rowE b139 e140 rfl
      have g140 : Grow w133 w140 := Below.turn g139 t140 (Nat.le_refl _)
      have va140 := (va89.stepF st133 (noU _ (by omega)) (noU _ (by omega)) (noU _ (by omega)) (noU _ (by omega)) (noU _ (by omega))).grow g140
      have ua140 := ua133.grow g140
      have z89 := gW89.size
      have hz : w26.heap.size ≤ w89.heap.size := by have := va89.o.lt; omega
      have z133 := st133.size
      have z140 := g140.size
      have gW140 : Grow W w140 := Grow.then (gW89.trans (st133.to_below gW89.size (fun q hq => by rcases hq with e | e | e <;> omega))) g140
      refine Do_c va140 (i := 1) (c := cRd) (by omega) (cRd_ok tyU 1) (Rd.nil w140) fun vb_ w142 st142 va142 rp142 => ?_
      obtain ⟨d2, rfl, r2, n2⟩ := rp142
      refine ⟨_, _, _, _, _, rfl, nm fun w148 e148 => ?_⟩
      obtain ⟨b148, g148, s148⟩ := alE e148
      refine ⟨b148.row rfl (one_rep (Rd.isOne r2)), nm fun w149 e149 => ?_⟩
      obtain ⟨b149, t149⟩ := rowE b148 e149 rfl
      have g149 : Grow w142 w149 := Below.turn g148 t149 (Nat.le_refl _)
      have ua149 := (ua140.stepF st142 (noV _ (by omega)) (noV _ (by omega)) (noV _ (by omega)) (noV _ (by omega)) (noV _ (by omega))).grow g149
      have va149 := va142.grow g149
      have z142 := st142.size
      have z149 := g149.size
      have vlt := va140.tb.b.lt
      have vlt1 := va140.sp.dat.lt
      have vlt2 := va140.sp.map.lt
      have v89t := va89.tb.b.lt
      have v89d := va89.sp.dat.lt
      have v89m := va89.sp.map.lt
      have noV2 : ∀ q, w89.heap.size ≤ q → ¬ FU tt' g1' g2' q := fun q hq hf => by rcases hf with e | e | e <;> omega
      have noU2 : ∀ q, w89.heap.size ≤ q → ¬ FU tt g1 g2 q := fun q hq => noU q (by omega)
      have gW149 : Grow W w149 := Grow.then (gW140.trans (st142.to_below gW140.size (fun q hq => by rcases hq with e | e | e <;> omega))) g149
      have r1' : RdB w149 d1 (doU U 1 cRd).1.d := (Rd.stepS (r1.grow g140) st142 (fun _ q hq => noV2 q (n1 q hq))).grow g149
      have r2' : RdB w149 d2 (doU U 1 cRd).1.d := r2.grow g149
      have b1' := (b140.stepS st142 (noV2 _ (by omega))).grow g149
      have tyU2 := cRd_ty tyU 1
      refine Do_c ua149 (i := 1) (c := cRs) (by omega) (cRs_ok tyU2 1) (Rd.nil w149) fun vp_ w151 st151 ua151 rp151 => ?_
      obtain ⟨d3, rfl, r3, n3⟩ := rp151
      refine ⟨_, _, _, _, _, rfl, nm fun w157 e157 => ?_⟩
      obtain ⟨b157, g157, s157⟩ := alE e157
      refine ⟨b157.row rfl (one_rep (Rd.isOne r3)), nm fun w158 e158 => ?_⟩
      obtain ⟨b158, t158⟩ := rowE b157 e158 rfl
      have g158 : Grow w151 w158 := Below.turn g157 t158 (Nat.le_refl _)
      have va158 := (va149.stepF st151 (noU _ (by omega)) (noU _ (by omega)) (noU _ (by omega)) (noU _ (by omega)) (noU _ (by omega))).grow g158
      have z151 := st151.size
      have z158 := g158.size
      have gW158 : Grow W w158 := Grow.then (gW149.trans (st151.to_below gW149.size (fun q hq => by rcases hq with e | e | e <;> omega))) g158
      have r1'' := (Rd.stepS r1' st151 (fun _ q hq => noU2 q (n1 q hq))).grow g158
      have r2'' := (Rd.stepS r2' st151 (fun _ q hq => noU2 q (by have := n2 q hq; omega))).grow g158
      have b1'' := (b1'.stepS st151 (noU2 _ (by omega))).grow g158
      have b2'' := (b149.stepS st151 (noU2 _ (by omega))).grow g158
      refine Do_c va158 (i := 1) (c := cRs) (by omega) (cRs_ok tyU2 1) (Rd.nil w158) fun vq_ w160 st160 va160 rp160 => ?_
      obtain ⟨d4, rfl, r4, n4⟩ := rp160
      refine ⟨_, _, _, _, _, rfl, nm fun w166 e166 => ?_⟩
      obtain ⟨b166, g166, s166⟩ := alE e166
      refine ⟨b166.row rfl (one_rep (Rd.isOne r4)), nm fun w167 e167 => ?_⟩
      obtain ⟨b167, t167⟩ := rowE b166 e167 rfl
      have g167 : Grow w160 w167 := Below.turn g166 t167 (Nat.le_refl _)
      have z160 := st160.size
      have z167 := g167.size
      have gW167 : Grow W w167 := Grow.then (gW158.trans (st160.to_below gW158.size (fun q hq => by rcases hq with e | e | e <;> omega))) g167
      have f1 := (Rd.stepS r1'' st160 (fun _ q hq => noV2 q (n1 q hq))).grow g167
      have f2 := (Rd.stepS r2'' st160 (fun _ q hq => noV2 q (by have := n2 q hq; omega))).grow g167
      have f3 := (Rd.stepS (r3.grow g158) st160 (fun _ q hq => noV2 q (by have := n3 q hq; omega))).grow g167
      have f4 := r4.grow g167
      have c1 := (b1''.stepS st160 (noV2 _ (by omega))).grow g167
      have c2 := (b2''.stepS st160 (noV2 _ (by omega))).grow g167
      have c3 := (b158.stepS st160 (noV2 _ (by omega))).grow g167
      refine JoinP.bool (fun bb w' => bb = true ∧ Grow W w') (fun jj hjj => ⟨_, _, _, _, _, c1.ld rfl, _, _, _, _, _, c2.ld rfl, same_c (r := (doU U 1 cRd).1) f1 f2 fun w182 g182 => ⟨_, rfl, cond_t rfl ⟨_, _, _, _, _, (c3.grow g182).ld rfl, _, _, _, _, _, (b167.grow g182).ld rfl, same_c (r := (doU (doU U 1 cRd).2 1 cRs).1) (f3.grow g182) (f4.grow g182) fun w195 g195 => ⟨_, rfl, hjj _ _ ⟨rfl, (gW167.then g182).then g195⟩⟩⟩⟩⟩) ?_
      rintro bb w169 ⟨rfl, gg⟩
      exact ⟨rfl, gg⟩
theorem ei_ofJ {w : World} {v : Value} {ps : List Int} (h : Rd w v (ps.map (Value.int .i64))) : RdR EI w v ps := by
  obtain ⟨a, cap, rfl, h1, h2, h3, h4⟩ := h
  rw [List.length_map] at h1 ⊢
  refine ⟨a, cap, rfl, h1, h2, h3, fun j u hj => h4 j u ?_⟩
  have e1 : EI.flat ps = ps.map (Value.int .i64) := by
    clear h1 h2 h3 h4 hj
    induction ps with
    | nil => rfl
    | cons a l ih => rw [Enc.flat_cons, ih]; rfl
  rw [← e1]; exact hj
theorem topJournal_s {W : World} (hE : Env W) {pv pc pp : Value} {l : List (UInt8 × UInt8 × UInt8)} {cr : List Bool} {ps : List Int} (hl : RdR EA W pv l) (hcr : RdR EBo W pc cr) (hf : ∀ n ∈ ps, Go.CW.Fits .i64 n) (hps : Rd W pp (ps.map (Value.int .i64))) :
    Go.CW.Spec Tryz.prog 7 #[pv, pc, pp] W (Law W) :=
  topJournal_c hE hl hcr (ei_ofJ hps) (fun hne q hq => Rd.lt hps (by simpa using hne) q hq)
end Go.Proofs.YtghineciiljeoaaGreatDoor
