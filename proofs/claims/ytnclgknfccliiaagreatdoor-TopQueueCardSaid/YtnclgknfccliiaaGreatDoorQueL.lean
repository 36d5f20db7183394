/- TopQueue: commands done as their set lets them start: the ordered one sees all that were ahead of it. -/
import Derived.Test.YtnclgknfccliiaaGreatDoorTsk
import Derived.Test.YtnclgknfccliiaaGreatDoorKnown
set_option linter.unusedVariables false
set_option linter.unusedSimpArgs false
set_option maxRecDepth 100000
namespace Go.Proofs.YtnclgknfccliiaaGreatDoor
open Go Go.CW Go.RowKit Go.CW.Ex

variable {w : World} {u b t g1 g2 : Nat} {G : List (Int × Option Nat)} {U : Un}

theorem UAt.stepQ {S S' : Fp} {w' : World} (h : UAt w u b t g1 g2 G U) (st : Step S w w' S') (n0 : ¬ S u) (n1 : ¬ S b) (n2 : ¬ S t) (n3 : ¬ S g1) (n4 : ¬ S g2) : UAt w' u b t g1 g2 G U :=
  ⟨(st.block u h.o.lt n0).trans h.o, h.gl, h.sp.step st n1 n3 n4, ⟨(st.block t h.tb.b.lt n2).trans h.tb.b, h.tb.len⟩, h.gn, h.ty⟩
theorem UAt.ltsQ (h : UAt w u b t g1 g2 G U) : u < w.heap.size ∧ b < w.heap.size ∧ t < w.heap.size ∧ g1 < w.heap.size ∧ g2 < w.heap.size := ⟨h.o.lt, h.sp.obj.lt, h.tb.b.lt, h.sp.dat.lt, h.sp.map.lt⟩

/-- simple tasks, and what is behind them -/
def stL (P : List Nat) (E : List Tk) : List Tk := P.map (fun (i : Nat) => (⟨(i : Int), 0, false⟩ : Tk)) ++ E
abbrev ordT : Tk := ⟨100, 1, false⟩

theorem stL_at {P : List Nat} {E : List Tk} {i : Nat} (hi : i < P.length) : (stL P E)[i]? = some ⟨(P[i] : Int), 0, false⟩ := by
  unfold stL
  rw [List.getElem?_append_left (by simpa using hi), List.getElem?_map, List.getElem?_eq_getElem hi]; rfl

theorem stL_len {P : List Nat} {E : List Tk} : (stL P E).length = P.length + E.length := by simp [stL]

theorem stL_en {P : List Nat} {E : List Tk} {i : Nat} (hi : i < P.length) : enB (stL P E) i = true := by
  unfold enB
  rw [stL_at hi]
  have : ((stL P E).take i).any (fun x => x.attr != 0) = false := by
    rw [List.any_eq_false]
    intro x hx
    have hx' : x ∈ (P.map (fun (i : Nat) => (⟨(i : Int), 0, false⟩ : Tk))).take i := by
      unfold stL at hx
      rwa [List.take_append_of_le_length (by simp; omega)] at hx
    have := List.mem_of_mem_take hx'
    obtain ⟨y, _, rfl⟩ := List.mem_map.1 this
    simp
  simp [this]

theorem stL_enO {P : List Nat} (hP : P ≠ []) : enB (stL P [ordT]) P.length = false := by
  unfold enB
  have : (stL P [ordT])[P.length]? = some ordT := by
    unfold stL
    rw [List.getElem?_append_right (by simp)]
    simp
  rw [this]
  have h0 : (P.length == 0) = false := by simpa using hP
  simp [h0, hP]

theorem enL_st {P : List Nat} (hP : P ≠ []) : enL (stL P [ordT]) (stL P [ordT]).length = P.map (fun (i : Nat) => (i : Int)) := by
  unfold enL
  rw [stL_len]
  show ((List.range (P.length + 1)).filter _).map _ = _
  rw [List.range_succ, List.filter_append, List.filter_eq_self.2 (fun i hi => stL_en (List.mem_range.1 hi))]
  have : [P.length].filter (enB (stL P [ordT])) = [] := by simp [List.filter_cons, stL_enO hP]
  rw [this, List.append_nil]
  apply List.ext_getElem
  · simp
  · intro i h1 h2
    have hi : i < P.length := by simpa using h1
    simp only [List.getElem_map, List.getElem_range]
    rw [stL_at hi]; rfl

theorem enL_o : enL (stL [] [ordT]) (stL [] [ordT]).length = [100] := by decide

theorem e4_at {v : Value} {xs : List Int} (h : RdR E4 w v xs) {i : Int} {n : Nat} (e : i = (n : Int)) (hi : n < xs.length) : ∃ a, sliceAt v i 1 = some a ∧ w.cell? a = some (.int .u32 (xs.getD n 0)) := by
  subst e
  obtain ⟨a, h1, h2, _⟩ := h.at (i := (n : Int)) (by omega) (by omega)
  have := h2 0 (by show 0 < 1; omega)
  rw [add_zero] at this
  refine ⟨a, h1, this.trans ?_⟩
  simp [E4, List.getD_eq_getElem?_getD, List.getElem?_eq_getElem hi]

theorem stL_done {P : List Nat} {E : List Tk} {i : Nat} (hi : i < P.length) (x : Tk) : ((stL P E).set i x).take i ++ ((stL P E).set i x).drop (i + 1) = stL (P.eraseIdx i) E := by
  have e1 : ((stL P E).set i x).take i = (stL P E).take i := by rw [List.take_set_of_le (by omega)]
  have e2 : ((stL P E).set i x).drop (i + 1) = (stL P E).drop (i + 1) := by rw [List.drop_set_of_lt (by omega)]
  rw [e1, e2]
  unfold stL
  rw [List.take_append_of_le_length (by simp; omega), List.drop_append_of_le_length (by simp; omega), ← List.append_assoc, ← List.map_take, ← List.map_drop, ← List.map_append, ← List.eraseIdx_eq_take_drop_succ]

theorem topQueue_t {W : World} (hE : Env W) {v p : Value} {l ps : List UInt8} (hr : RdB W v l) (hp : RdB W p ps) :
    Go.CW.Spec Tryz.prog 6 #[v, p] W (Law W) := by
  apply gemeltop_TopQueue_wp
  refine known_c hE fun w1 gw1 => ⟨_, rfl, cond_f rfl ?_⟩
  refine JoinP.bool (fun q w' => (q = false → l.length ≤ 16 ∧ 2 * l.length + 2 ≤ ps.length) ∧ w' = w1) (fun j hj => ⟨_, RdB.len hr, cond_intro (fun h1 => hj _ _ ⟨fun e => (by cases e), rfl⟩) (fun h1 => ⟨_, RdB.len hp, _, RdB.len hr, hj _ _ ⟨fun e => ?_, rfl⟩⟩)⟩) ?_
  · simp at h1
    rw [wi64_id (n := 2 * ((l.length : Nat) : Int)) (by omega) (by omega), wi64_id (by omega) (by omega)] at e
    simp at e
    omega
  rintro q w4 ⟨hq, rfl⟩
  refine cond_intro (fun _ => ⟨rfl, gw1⟩) (fun hq' => ?_)
  obtain ⟨h16, hps⟩ := hq hq'
  clear hq hq'
  refine sNew_c fun s w6 g6 hs6 s6 => ⟨_, _, rfl, ?_⟩
  refine uNew_c (N := 32) (by omega) (by omega) fun u b t g1 g2 G w10 g10 hu hb ht hg1 hg2 ua _ => ⟨_, _, rfl, ?_⟩
  have sW1 := gw1.size
  have s46 := g6.size
  have s610 := g10.size
  have hsl := s6.o.lt
  have g10' : Grow W w10 := (gw1.then g6).then g10
  obtain ⟨lu, lb, lt, lg1, lg2⟩ := ua.ltsQ
  generalize hB : w10.heap.size = B at *
  have nS : ∀ {w' : World} {v' : Value} {L : List Tk}, SetAt w' s B v' L → ∀ x, w6.heap.size ≤ x → x < B → ¬ FSet s v' x := by
    intro w' v' L h x h1 h2 hx
    rcases hx with e | e
    · omega
    · have := (h.l.lt x e).1; omega
  have nW : ∀ {w' : World} {v' : Value} {L : List Tk}, SetAt w' s B v' L → ∀ x, FSet s v' x → W.heap.size ≤ x := by
    intro w' v' L h x hx
    rcases hx with e | e
    · omega
    · have := (h.l.lt x e).1; omega
  have uS : ∀ {w' w'' : World} {v' : Value} {L : List Tk} {S' : Fp} {U : Un}, SetAt w' s B v' L → UAt w' u b t g1 g2 G U → Step (FSet s v') w' w'' S' → UAt w'' u b t g1 g2 G U := by
    intro w' w'' v' L S' U h hU st
    exact hU.stepQ st (nS h u (by omega) (by omega)) (nS h b (by omega) (by omega)) (nS h t (by omega) (by omega)) (nS h g1 (by omega) (by omega)) (nS h g2 (by omega) (by omega))
  have hFU : ∀ x, FU t g1 g2 x → W.heap.size ≤ x := fun x hx => by rcases hx with rfl | rfl | rfl <;> omega
  have sU : ∀ {w' w'' : World} {v' : Value} {L : List Tk}, SetAt w' s B v' L → Step (FU t g1 g2) w' w'' (FU t g1 g2) → SetAt w'' s B v' L := by
    intro w' w'' v' L h st
    refine ⟨h.o.stepS st (fun hx => by rcases hx with e | e | e <;> omega), h.l.stable fun q hq => st.block q (h.l.lt q hq).2 (fun hx => ?_)⟩
    have := (h.l.lt q hq).1
    rcases hx with e | e | e <;> omega
  have hset0 : SetAt w10 s B nilV (stL (List.range 0) []) := ⟨(s6.o.grow g10), OwnR.nil _ _ _⟩
  refine ⟨fun (n : Int) (w' : World) => ∃ (i : Nat) (v' : Value), n = (i : Int) ∧ i ≤ l.length ∧ Grow W w' ∧ B ≤ w'.heap.size ∧ UAt w' u b t g1 g2 G ⟨32, List.replicate (8 * 32) 0, List.replicate ((32 + 7) / 8) 0, newTb⟩ ∧ SetAt w' s B v' (stL (List.range i) []),
    fun (n : Int) (_ : World) => ((l.length : Int) - n).toNat, ⟨0, nilV, rfl, by omega, g10', by omega, ua, hset0⟩, ?_⟩
  dsimp only [allR, mapR2, eqN, ltN]
  rintro m n w15 ⟨⟨i, v', rfl, hi, g15, hB15, u15, s15⟩, hm⟩
  refine ⟨_, RdB.len hr, cond_intro (fun hc => ?_) (fun hc => ?_)⟩
  · have hlt : i < l.length := by simpa using hc
    rw [w32_id (by omega) (by omega)]
    refine Put_c s15 hB15 (.inl rfl) ?_ (by rw [stL_len]; simp; omega) fun v2 w18 st18 s18 => ⟨_, rfl, ?_⟩
    · rw [List.any_eq_false]
      intro x hx
      simp only [stL, List.append_nil, List.mem_map, List.mem_range] at hx
      obtain ⟨y, hy, rfl⟩ := hx
      simp; omega
    · rw [wi64_id (by omega) (by omega)]
      have e : stL (List.range i) [] ++ [⟨(i : Int), 0, false⟩] = stL (List.range (i + 1)) [] := by simp [stL, List.range_succ]
      rw [e] at s18
      have hs := st18.size
      exact ⟨⟨i + 1, v2, by omega, by omega, g15.trans (st18.to_below g15.size (nW s15)), by omega, uS s15 u15 st18, s18⟩, by omega⟩
  · have hie : i = l.length := by simp at hc; omega
    subst hie
    clear hc hm
    refine Put_c s15 hB15 (.inr rfl) ?_ (by rw [stL_len]; simp; omega) fun v2 w21 st21 s21 => ⟨_, rfl, ?_⟩
    · rw [List.any_eq_false]
      intro x hx
      simp only [stL, List.append_nil, List.mem_map, List.mem_range] at hx
      obtain ⟨y, hy, rfl⟩ := hx
      simp; omega
    have e : stL (List.range l.length) [] ++ [⟨(100 : Int), 1, false⟩] = stL (List.range l.length) [ordT] := by simp [stL]
    rw [e] at s21
    have hs21 := st21.size
    have g21 := g15.trans (st21.to_below g15.size (nW s15))
    have u21 := uS s15 u15 st21
    have hB21 : B ≤ w21.heap.size := by omega
    clear st21 e hs21 s15 u15 g15 hB15
    refine ⟨fun (n : Int) (w' : World) => ∃ (k : Nat) (v' : Value) (L : List Tk) (D M : List UInt8), n = (k : Int) ∧ Grow W w' ∧ B ≤ w'.heap.size ∧ UAt w' u b t g1 g2 G ⟨32, D, M, newTb⟩ ∧ SetAt w' s B v' L ∧
        ((L = [] ∧ k = l.length + 1) ∨ ∃ P : List Nat, L = stL P [ordT] ∧ k + P.length = l.length ∧ P.Nodup ∧ (∀ x ∈ P, x < l.length) ∧ ∀ i, i < l.length → i ∉ P → D[8 * i]? = l[i]?),
      fun (n : Int) (_ : World) => ((ps.length : Int) - n).toNat, ⟨0, v2, _, _, _, rfl, g21, hB21, u21, s21, .inr ⟨List.range l.length, rfl, by simp, List.nodup_range, fun x hx => List.mem_range.1 hx, fun i hi hn => absurd (List.mem_range.2 hi) hn⟩⟩, ?_⟩
    dsimp only [allR, mapR2, eqN, ltN]
    rintro m n w25 ⟨⟨k, v3, L, D, M, rfl, g25, hB25, u25, s25, hst⟩, hm⟩
    rcases hst with ⟨rfl, hk⟩ | ⟨P, rfl, hk, hnd, hlt, hD⟩
    · exact JoinP.go (sLen_c s25 ⟨_, rfl, cond_f (by simp) (cond_f rfl (sLen_c s25 ⟨_, rfl, rfl, g25⟩))⟩)
    refine JoinP.go (sLen_c s25 ⟨_, rfl, cond_t (by rw [stL_len]; simp; try omega) ⟨_, RdB.len hp, cond_t (by simp; omega) ?_⟩⟩)
    refine Enabled_c s25 (by rw [stL_len]; show P.length + 1 ≤ 1000; omega) fun e w29 g29 re ne => ?_
    have g29' := g25.then g29
    have s29 := s25.grow g29
    have u29 := u25.grow g29
    have hB29 : B ≤ w29.heap.size := Nat.le_trans hB25 g29.size
    obtain ⟨ap, hap, hcp⟩ := rd_at (hp.grow g29') (i := (k : Int)) rfl (by omega)
    have hx := (ps.getD k 0).toNat_lt
    by_cases hP : P = []
    · subst hP
      rw [enL_o] at re
      refine ⟨_, re.len, cond_f rfl ⟨ap, hap, _, hcp, _, re.len, nzK_intro (by decide) ?_⟩⟩
      obtain ⟨a, ha, hca⟩ := e4_at re (i := Int.tmod (IntKind.wrap .i64 ((ps.getD k 0).toNat : Int)) ((([(100 : Int)].length : Nat)) : Int)) (n := 0) (by
        rw [wi64_id (by omega) (by omega)]
        show Int.tmod _ (1 : Int) = 0
        exact Int.tmod_one _) (by decide)
      refine ⟨a, ha, _, hca, ?_⟩
      refine Start_c s29 (i := 0) (by decide) rfl (fun j hj => by omega) (by decide) fun w37 st37 s37 => ⟨_, rfl, JoinP.go (cond_t rfl ?_)⟩
      have u37 := uS s29 u29 st37
      have g37 := g29'.trans (st37.to_below g29'.size (nW s29))
      have hB37 : B ≤ w37.heap.size := Nat.le_trans hB29 st37.size
      refine Do_c (c := ⟨2, 0, 32, 0, 0, 0, false, []⟩) u37 (i := 0) (by omega) ⟨Nat.zero_le _, by decide, (by show Fits .i64 (0 : Int); decide), by simp, fun e => (by cases e)⟩ (Rd.nil _) fun v45 w45 st45 u45 rp45 => ?_
      have hdo : doU ⟨32, D, M, newTb⟩ 0 ⟨2, 0, 32, 0, 0, 0, false, []⟩ = (goodR (part D (0, 32)), ⟨32, D, M, newTb⟩) := by
        unfold doU actU
        rw [if_pos (by simp [allowsB, newTb]), if_neg (by decide), if_neg (by decide), if_neg (by decide), if_neg (by decide)]
        unfold runU
        rw [if_neg (by show ¬ ¬ (32 ≤ 32 ∧ 0 + 32 ≤ 32); decide), if_pos rfl]
      rw [hdo] at u45 rp45
      obtain ⟨d45, rfl, r45, n45⟩ := rp45
      have hDl : D.length = 256 := u45.sp.hD
      have r45' : RdB w45 d45 (part D (0, 32)) := r45
      have hpart : part D (0, 32) = D := by
        unfold part
        rw [Nat.mul_zero, List.drop_zero, List.take_of_length_le (by omega)]
      rw [hpart] at r45'
      have s45 := sU s37 st45
      have g45 : Grow W w45 := g37.trans (st45.to_below g37.size hFU)
      have hB45 : B ≤ w45.heap.size := Nat.le_trans hB37 st45.size
      refine ⟨_, _, _, _, _, rfl, nm fun w51 e51 => ?_⟩
      obtain ⟨b51, g51, _⟩ := alE e51
      refine ⟨b51.row rfl (one_rep (Rd.isOne r45)), nm fun w52 e52 => ?_⟩
      obtain ⟨b52, t52⟩ := rowE b51 e52 rfl
      have g52' : Grow w45 w52 := Below.turn g51 t52 (Nat.le_refl _)
      refine ⟨fun (n : Int) (w' : World) => ∃ i : Nat, n = (i : Int) ∧ i ≤ l.length ∧ Grow w52 w', fun (n : Int) (_ : World) => ((l.length : Int) - n).toNat, ⟨0, rfl, by omega, Grow.refl _⟩, ?_⟩
      dsimp only [allR, mapR2, eqN, ltN]
      rintro m2 n2 w55 ⟨⟨i, rfl, hi, g55⟩, hm2⟩
      refine ⟨_, RdB.len hr, cond_intro (fun hc => ?_) (fun hc => ?_)⟩
      · have hil : i < l.length := by simpa using hc
        refine nm fun w57 e57 => ?_
        have gd := drE e57
        have hv := hD i hil (by simp)
        have h8 : 8 * i < D.length := by omega
        have gW57 := ((g45.then g52').then g55).then gd
        obtain ⟨a59, ha59, hc59⟩ := rd_at (r45'.grow ((g52'.then g55).then gd)) (i := IntKind.wrap .i64 ((8 : Int) * (i : Int))) (n := 8 * i) (by rw [wi64_id (by omega) (by omega)]; omega) h8
        obtain ⟨a61, ha61, hc61⟩ := rd_at (hr.grow gW57) (i := (i : Int)) rfl hil
        have heq : D.getD (8 * i) 0 = l.getD i 0 := by rw [List.getD_eq_getElem?_getD, hv, ← List.getD_eq_getElem?_getD]
        rw [heq] at hc59
        refine ⟨d45, by rw [((b52.grow g55).grow gd).cell]; rfl, a59, ha59, _, hc59, a61, ha61, _, hc61, nm fun w63 e63 => cond_f (by simp) ?_⟩
        rw [wi64_id (by omega) (by omega)]
        exact ⟨⟨i + 1, by omega, by omega, g55.then (drE e63)⟩, by omega⟩
      · have g55' : Grow w45 w55 := g52'.then g55
        have s55 := s45.grow g55'
        have u55 := u45.grow g55'
        have hB55 : B ≤ w55.heap.size := Nat.le_trans hB45 g55'.size
        refine Done_c s55 (by decide) (i := 0) (by decide) rfl (fun j hj => by omega) rfl fun v4 w41 st41 s41 => ⟨_, rfl, ?_⟩
        rw [wi64_id (by omega) (by omega)]
        have g55W : Grow W w55 := g45.then g55'
        have hk0 : k = l.length := by simpa using hk
        exact ⟨⟨k + 1, v4, [], D, M, by omega, g55W.trans (st41.to_below g55W.size (nW s55)), Nat.le_trans hB55 st41.size, uS s55 u55 st41, s41, .inl ⟨rfl, by omega⟩⟩, by omega⟩
    · rw [enL_st hP] at re
      have hPl : 0 < P.length := List.length_pos_iff.2 hP
      have hml : (P.map (fun (i : Nat) => (i : Int))).length = P.length := by simp
      refine ⟨_, re.len, cond_f ?_ ⟨ap, hap, _, hcp, _, re.len, nzK_intro (by omega) ?_⟩⟩
      · rw [hml]; simp; exact hP
      obtain ⟨j, hj1, hj2⟩ : ∃ j : Nat, Int.tmod (IntKind.wrap .i64 ((ps.getD k 0).toNat : Int)) (((P.map (fun (i : Nat) => (i : Int))).length : Nat) : Int) = (j : Int) ∧ j < P.length := by
        rw [wi64_id (by omega) (by omega), Int.tmod_eq_emod_of_nonneg (by omega), hml]
        exact ⟨(ps.getD k 0).toNat % P.length, by omega, Nat.mod_lt _ hPl⟩
      obtain ⟨a, ha, hca⟩ := e4_at re hj1 (by rw [hml]; exact hj2)
      have hget : (P.map (fun (i : Nat) => (i : Int))).getD j 0 = (P[j] : Int) := by simp [List.getD_eq_getElem?_getD, List.getElem?_eq_getElem hj2]
      rw [hget] at hca
      have hPj : P[j] < l.length := hlt _ (List.getElem_mem hj2)
      have hsl2 : j < (stL P [ordT]).length := by rw [stL_len]; omega
      have hat : ∀ i (hi : i < P.length) (h2 : i < (stL P [ordT]).length), (stL P [ordT])[i] = ⟨(P[i] : Int), 0, false⟩ := fun i hi h2 => by
        have := stL_at (E := [ordT]) hi
        rw [List.getElem?_eq_getElem h2] at this
        exact Option.some.inj this
      have hne : ∀ i (hi : i < j), P[i] ≠ P[j] := fun i hi e => by
        have := (List.nodup_iff_pairwise_ne.1 hnd)
        exact (List.pairwise_iff_getElem.1 this) i j (by omega) hj2 hi e
      refine ⟨a, ha, _, hca, ?_⟩
      refine Start_c s29 (i := j) hsl2 (by rw [hat j hj2]) (fun i hi => ?_) (stL_en hj2) fun w37 st37 s37 => ⟨_, rfl, JoinP.go (cond_f (by simp; omega) ?_)⟩
      · rw [hat i (by omega)]
        have := hne i hi
        show (P[i] : Int) ≠ (P[j] : Int)
        omega
      have u37 := uS s29 u29 st37
      have g37 := g29'.trans (st37.to_below g29'.size (nW s29))
      have hB37 : B ≤ w37.heap.size := Nat.le_trans hB29 st37.size
      have sW37 := g37.size
      obtain ⟨a65, ha65, hc65⟩ := rd_at (hr.grow g37) (i := (P[j] : Int)) rfl hPj
      refine ⟨a65, ha65, _, hc65, one_c fun v67 w68 g68 r68 n68 => ?_⟩
      rw [wi64_id (by omega) (by omega)]
      have u68 := u37.grow g68
      have s68 := s37.grow g68
      have g68' := Below.then g37 sW37 g68
      have hB68 : B ≤ w68.heap.size := Nat.le_trans hB37 g68.size
      refine oneK_of (Rd.isOne r68) ?_
      generalize hxl : l.getD P[j] 0 = x at *
      refine Do_c (c := ⟨3, P[j], 1, 0, 0, 0, false, List.replicate 8 x⟩) u68 (i := 0) (by omega) ⟨by show P[j] ≤ 1000000; omega, by show 1 ≤ 1000000; omega, (by show Fits .i64 (0 : Int); decide), by simp, fun e => (by cases e)⟩ r68 fun v69 w70 st70 u70 rp70 => ?_
      have hdo : (doU ⟨32, D, M, newTb⟩ 0 ⟨3, P[j], 1, 0, 0, 0, false, List.replicate 8 x⟩).2 = ⟨32, layB D (8 * P[j]) (List.replicate 8 x), turnM M P[j] 1 true, newTb⟩ := by
        unfold doU actU
        rw [if_pos (by simp [allowsB, newTb]), if_neg (show ¬ (3 : Int) = 11 by decide), if_neg (show ¬ (3 : Int) = 12 by decide), if_neg (show ¬ (3 : Int) = 16 by decide), if_neg (show ¬ (3 : Int) = 17 by decide)]
        unfold runU
        dsimp only
        rw [if_neg (by omega), if_neg (show ¬ (3 : Int) = 2 by decide), if_pos rfl, if_neg (by simp)]
      rw [hdo] at u70
      obtain ⟨d70, rfl, _, _⟩ := rp70
      have s70 := sU s68 st70
      have g70 : Grow W w70 := g68'.trans (st70.to_below g68'.size hFU)
      have hB70 : B ≤ w70.heap.size := Nat.le_trans hB68 st70.size
      refine ⟨_, _, _, _, _, rfl, ?_⟩
      have hsl3 : j < ((stL P [ordT]).set j ⟨(stL P [ordT])[j].tag, (stL P [ordT])[j].attr, true⟩).length := by rw [List.length_set]; exact hsl2
      refine Done_c s70 (by rw [List.length_set, stL_len]; show P.length + 1 ≤ 1000; omega) (i := j) hsl3 ?_ (fun i hi => ?_) ?_ fun v4 w41 st41 s41 => ⟨_, rfl, ?_⟩
      · simp [hat j hj2]
      · rw [List.getElem_set_ne (by omega), hat i (by omega)]
        have := hne i hi
        show (P[i] : Int) ≠ (P[j] : Int)
        omega
      · simp
      rw [stL_done hj2] at s41
      rw [wi64_id (by omega) (by omega)]
      have hlen : (P.eraseIdx j).length = P.length - 1 := by rw [List.length_eraseIdx, if_pos hj2]
      refine ⟨⟨k + 1, v4, _, _, _, by omega, g70.trans (st41.to_below g70.size (nW s70)), Nat.le_trans hB70 st41.size, uS s70 u70 st41, s41, .inr ⟨P.eraseIdx j, rfl, by omega, hnd.sublist (List.eraseIdx_sublist ..), fun y hy => hlt y (List.mem_of_mem_eraseIdx hy), fun i hi hn => ?_⟩⟩, by omega⟩
      have hDl : D.length = 256 := u68.sp.hD
      rw [layB_at (by simp; omega)]
      by_cases hij : i = P[j]
      · subst hij
        rw [if_pos (by simp)]
        simp only [Nat.sub_self, List.getElem?_replicate]
        rw [if_pos (by omega), ← hxl, List.getD_eq_getElem?_getD, List.getElem?_eq_getElem hi]; rfl
      · rw [if_neg (by simp; omega)]
        refine hD i hi fun hin => hn ?_
        obtain ⟨q, hq, rfl⟩ := List.mem_iff_getElem.1 hin
        exact List.mem_eraseIdx_iff_getElem.2 ⟨q, hq, fun e => hij (by subst e; rfl), rfl⟩

theorem topQueue_s {W : World} (hE : Env W) {v p : Value} {l ps : List UInt8} (hr : RdB W v l) (hp : RdB W p ps) :
    Go.CW.Spec Tryz.prog 6 #[v, p] W (Law W) := topQueue_t hE hr hp

end Go.Proofs.YtnclgknfccliiaaGreatDoor
