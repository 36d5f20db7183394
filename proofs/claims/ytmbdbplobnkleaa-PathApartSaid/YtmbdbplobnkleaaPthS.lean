/- The contracts of a path: Submit, Out, Waiting, Done, In of a request. -/
import Derived.Test.YtmbdbplobnkleaaPthQ
set_option linter.unusedVariables false
set_option linter.unusedSimpArgs false
set_option maxRecDepth 100000
namespace Go.Proofs.Ytmbdbplobnkleaa
open Go Go.CW Go.RowKit Go.Crc

/-- a block outside S -/
structure BKX (S : Fp) (w : World) (g : Nat) (cs : Array Value) (e : TypeId) : Prop where
  b : BK w g cs e
  out : ¬ S g
theorem BKX.step {S S' : Fp} {w w' : World} {g : Nat} {cs : Array Value} {e : TypeId} (h : BKX S w g cs e) (st : Step S w w' S') : BKX S' w' g cs e :=
  ⟨h.b.stepS st h.out, fun hs => by
    rcases st.fp g hs with k | k
    · exact h.out k
    · have := h.b.lt; omega⟩
theorem BKX.grow {S : Fp} {w w' : World} {g : Nat} {cs : Array Value} {e : TypeId} (h : BKX S w g cs e) (k : Grow w w') : BKX S w' g cs e := ⟨h.b.grow k, h.out⟩

structure PkOk (S : Fp) (w : World) (p : Pkt) : Prop where
  to : p.to = 0
  ex : ∃ bs, RdX S w p.d ((sld (1 :: bs)).map b8) ∧ bs.length ≤ 100000
theorem PkOk.step {S S' : Fp} {w w' : World} {p : Pkt} (h : PkOk S w p) (st : Step S w w' S') : PkOk S' w' p := ⟨h.to, by obtain ⟨bs, h1, h2⟩ := h.ex; exact ⟨bs, h1.step st, h2⟩⟩
theorem PkOk.grow {S : Fp} {w w' : World} {p : Pkt} (h : PkOk S w p) (g : Grow w w') : PkOk S w' p := ⟨h.to, by obtain ⟨bs, h1, h2⟩ := h.ex; exact ⟨bs, h1.grow g, h2⟩⟩

theorem flr_one {L : List Ask} {nx : Int} (h : Ids L nx) : flr L nx = 1 := by
  match L, h with
  | [], h => exact h.1.trans (by simp)
  | a :: L, h => exact h.2 0 (by simp)

theorem Submit_c {w : World} {g gt : Nat} {vl vo vh : Value} {host nx : Int} {L : List Ask} {P : List Pkt} {H : List (Int × Int)} {R : KV} {c : Cmd} {d : Value} {ds : List UInt8} (h : Pa w g gt vl vo vh host nx L P H) (ids : Ids L nx) (hL : L.length ≤ 3) (hH : H.length ≤ 900) (hP : P.length ≤ 1000) (hd : RdB w d ds) (hl : ds.length ≤ 1024) (hk : 1 ≤ c.kind ∧ c.kind ≤ 18)
    (k : ∀ vl' vo' vh' a p H' w', Step (fpP g gt vl vo vh) w w' (fpP g gt vl' vo' vh') → Pa w' g gt vl' vo' vh' host (nx + 1) (L ++ [a]) (P ++ [p]) H' → Ids (L ++ [a]) (nx + 1) → H'.length ≤ H.length + 2 → PkOk (fpP g gt vl' vo' vh') w' p → NewV w p.d → R (.tuple #[.int .u64 nx, .int .i64 0]) w') : Go.CW.Spec Try.prog 6 #[.pointer (some ⟨g, 0, none⟩), .agg (rCmd c d)] w R := by
  apply mpath_Path_Submit_m_wp
  have hnx := ids.1
  refine nm fun w0 e0 => ?_
  obtain ⟨b0, g0, _⟩ := alE e0
  clear e0
  refine nm fun w1 e1 => ?_
  have g1 := drE e1
  have h1 := h.grow (g0.then g1)
  have b1 := b0.grow g1
  refine withAddr_some ⟨_, h1.b.cell 2, nm fun w4 e4 => ?_⟩
  obtain rfl : w4 = w1 := e4.trans e1.symm
  refine floor_c h1 ⟨_, rfl, ⟨_, h1.b.cell 2, rfl⟩, ?_⟩
  rw [flr_one ids]
  have hw5 : IntKind.wrap .u64 ((1 : Int) + 4) = 5 := by decide
  rw [hw5]
  refine cond_f (by simp; omega) ?_
  refine JoinP.bool (fun b w' => w' = w4 ∧ b = false) (fun j hj => ⟨_, b1.cell 0, cond_f (by simp; omega) ⟨_, b1.cell 0, cond_f (by simp; omega) ⟨_, b1.cell 3, _, RdB.len (hd.grow (g0.then g1)), hj _ _ ⟨rfl, by simp; omega⟩⟩⟩⟩) ?_
  rintro b w10 ⟨rfl, rfl⟩
  refine cond_f rfl ⟨_, b1.cell 3, slices_Clone_c (hd.grow (g0.then g1)) (by omega) fun v12 w13 g13 o13 => oneK_of (Rd.isOne o13.rd) ?_⟩
  have one12 := Rd.isOne o13.rd
  have b13 := b1.grow g13
  refine ⟨st1_at b13 (by show 3 < 8; omega), nm fun w14 e14 => ?_⟩
  obtain ⟨b14, t14⟩ := setE b13 e14
  have gA : Grow w w10 := g0.then g1
  have g14 : Grow w w14 := Below.turn (gA.then g13) t14 (Nat.le_refl _)
  have h14 := h.grow g14
  have r14 : RdB w14 v12 ds := o13.rd.turn t14 (fun e => by have := o13.blk _ e; have := gA.size; have := b0.lt; have := g1.size; omega)
  have n12 : NewV w v12 := fun q hq => by have := o13.blk q hq; have := gA.size; omega
  refine nm fun w15 e15 => ?_
  have g15 := drE e15
  have h15 := h14.grow g15
  have b15 := b14.grow g15
  refine withAddr_some ⟨_, h15.b.cell 2, _, _, _, _, _, _, _, _, b15.ld rfl, nm fun w26 e26 => ?_⟩
  obtain rfl : w26 = w15 := e26.trans e15.symm
  have ga := fun o => Grow.al (Grow.refl w26) o
  refine ⟨⟨_, (h15.grow (ga _)).b.cell 2, rfl⟩, ⟨_, _, _, _, _, _, _, _, (b15.grow (ga _)).ld rfl, rfl⟩, nm fun w36 e36 => nm fun w37 e37 => ?_⟩
  clear e36
  obtain ⟨b37, g37, _⟩ := alE e37
  clear e37
  refine ⟨b37.row rfl (by simp only [oneL, one12, one_int, one_bool, Bool.and_true]), nm fun w38 e38 => nm fun w39 e39 => ?_⟩
  clear e38
  obtain ⟨b39, t39⟩ := rowE b37 e39 rfl
  have g39 : Grow w26 w39 := Below.turn g37 t39 (Nat.le_refl _)
  have gB : Grow w w39 := (g14.then g15).then g39
  have h39 := h.grow gB
  have r39 : RdB w39 v12 ds := (r14.grow g15).grow g39
  have hin := h.isIn
  have hq : w.heap.size ≤ w26.heap.size := (g14.then g15).size
  have x39 : BKX (fpP g gt vl vo vh) w39 w26.heap.size (rAsk nx c v12) tAsk := ⟨b39, fun hs => by have := hin _ hs; omega⟩
  have d39 : RdX (fpP g gt vl vo vh) w39 v12 (ds.map b8) := RdX.new r39 n12 hin
  have tim : ∀ {w' : World} {vh' : Value} {H' : List (Int × Int)}, True := trivial
  have setlen : ∀ (H : List (Int × Int)) (id n : Int), (setF H 0 id n).2.length ≤ H.length + 1 := by
    intro H id n
    have a1 : ∀ (H : List (Int × Int)) x, (addF H x).length = H.length + 1 := fun H x => by unfold addF; rw [upF_length]; simp
    unfold setF
    split
    · exact Nat.le_succ _
    · split
      · show (addF _ _).length ≤ _
        rw [a1, remF_length]; omega
      · split
        · exact Nat.le_succ _
        · show (addF _ _).length ≤ _
          rw [a1]; omega
  refine JoinP.unit (fun w40 => ∃ vh' H1, Step (fpP g gt vl vo vh) w39 w40 (fpP g gt vl vo vh') ∧ Pa w40 g gt vl vo vh' host nx L P H1 ∧ H1.length ≤ H.length + 1) (fun j hj => ?_) ?_
  · refine withAddr_some ⟨_, h39.b.cell 3, _, h39.l.rd.len, cond_intro (fun e => withAddr_some ⟨_, h39.b.cell 6, ?_⟩) (fun e => hj _ ⟨vh, H, Step.refl _ _, h39, by omega⟩)⟩
    refine Set_c h39.t (by omega) (by decide) (by omega) fun vh' w' s' t' => ⟨_, rfl, ?_⟩
    obtain ⟨hp, sp⟩ := h39.tim s' t'
    exact hj _ ⟨vh', _, sp, hp, setlen _ _ _⟩
  rintro w40 ⟨vh', H1, s40, h40, hH1⟩
  have x40 := x39.step s40
  have d40 := d39.step s40
  refine withAddr_some ⟨_, h40.b.cell 2, withAddr_some ⟨st1_at h40.b (by show 2 < 7; omega), nm fun w44 e44 => ?_⟩⟩
  rw [w64_id (n := nx + 1) (by omega) (by omega)] at e44
  obtain ⟨h44, s44⟩ := h40.setN e44
  have x44 := x40.step s44
  have d44 := d40.step s44
  refine nm fun w45 e45 => ?_
  have g45 := drE e45
  have h45 := h44.grow g45
  have x45 := x44.grow g45
  refine withAddr_some ⟨_, h45.b.cell 3, _, _, _, _, _, _, _, _, _, x45.b.ld rfl, nm fun w57 e57 => ?_⟩
  obtain rfl : w57 = w45 := e57.trans e45.symm
  have gb := fun o => Grow.al (Grow.refl w57) o
  refine ⟨⟨_, (h45.grow (gb _)).b.cell 3, rfl⟩, nm fun w59 e59 => nm fun w60 e60 => ?_⟩
  clear e59
  have g60 : Grow w57 w60 := by rw [e60]; exact gb _
  have h60 := h45.grow g60
  have lit : OwnR EA w60 w57.heap.size tAsk (.slice (some ⟨w57.heap.size, 0, none⟩) 1 1) [⟨nx, c, v12, one12⟩] := by
    have := OwnR.lit (E := EA) w57 (Nat.le_refl _) tAsk [⟨nx, c, v12, one12⟩] 1 rfl (by simp [maxLen])
    rw [e60]; exact this
  obtain ⟨v61, w62, k61, l61, n61⟩ := app_ownR tyAsk h60.l lit.rd (by simp; omega) (Nat.zero_le _)
  refine ⟨v61, w62, k61, withAddr_some (oneK_of ?_ ?_)⟩
  · rcases l61.2 with ⟨rfl, _⟩ | ⟨g', cap, cur, rfl, _⟩ <;> rfl
  have b62 : BK w62 g #[.int .i64 host, .int .i64 0, .int .u64 (nx + 1), vl, vo, .slice none 0 0, .pointer (some ⟨gt, 0, none⟩)] tPath := (n61.by_.block g h60.b.lt (fun e => ownR_ne h60.l h60.b (by decide) e.symm)).trans h60.b
  refine ⟨st1_at b62 (by show 3 < 7; omega), nm fun w64 e64 => nm fun w65 e65 => ?_⟩
  clear e64
  obtain ⟨h65, s65⟩ := h60.pushL l61 n61 e65
  have x65 := (x45.grow g60).step s65
  have d65 := ((d44.grow g45).grow g60).step s65
  refine ⟨_, _, _, _, _, _, _, _, _, x65.b.ld rfl, send_c h65 (by omega) hP d65.1 hl (by omega) fun vo2 vh2 p H2 w76 s76 h76 hH2 pk76 pt76 => ⟨rfl, _, (x65.step s76).b.cell 0, ?_⟩⟩
  obtain ⟨bs, xp, np, lp⟩ := pk76
  have hsz : w.heap.size ≤ w65.heap.size := Nat.le_trans gB.size (Nat.le_trans s40.size (Nat.le_trans s44.size (Nat.le_trans (g45.then g60).size s65.size)))
  refine k v61 vo2 vh2 ⟨nx, c, v12, one12⟩ p H2 w76 ((Step.of_grow gB).then (s40.then (s44.then ((Step.of_grow (g45.then g60)).then (s65.then s76))))) h76 ⟨by simp; omega, fun i hi => ?_⟩ (by omega) ⟨pt76, bs, xp, lp⟩ (np.of hsz)
  by_cases hi2 : i < L.length
  · rw [List.getElem_append_left hi2]; exact ids.2 i hi2
  · have hi3 : i = L.length := by simp at hi; omega
    subst hi3
    rw [List.getElem_append_right (Nat.le_refl _)]
    simp only [Nat.sub_self, List.getElem_cons_zero]
    exact hnx

/-! ### Out, Waiting, Done, In -/
theorem RdR.clip {α : Type} {E : Enc α} {w : World} {v : Value} {L : List α} (h : RdR E w v L) : ∃ v', subSlice v E.s none (some (.int .i64 (L.length : Int))) (some (.int .i64 (L.length : Int))) = some v' ∧ RdR E w v' L ∧ v'.ownBlock = v.ownBlock := by
  obtain ⟨a, cap, rfl, h1, h2, h3, h4⟩ := h
  have h0 : (0 : Int) ≤ (L.length : Int) := by omega
  have e : (L.length : Int) ≤ cap := by omega
  refine ⟨.slice a L.length L.length, ?_, ⟨a, L.length, rfl, Nat.le_refl _, by omega, fun hh => by have := h3 hh; omega, h4⟩, by cases a <;> rfl⟩
  simp only [subSlice, boundsOf, boundOf, h0, e, and_self, if_true, Int.toNat_natCast, Int.le_refl, Nat.sub_zero]
  split
  · rfl
  · cases a <;> simp [add_zero]

theorem Out_c {w : World} {g gt : Nat} {vl vo vh : Value} {host nx : Int} {L : List Ask} {P : List Pkt} {H : List (Int × Int)} {R : KV} (h : Pa w g gt vl vo vh host nx L P H)
    (k : ∀ v' w', Step (fpP g gt vl vo vh) w w' (fpP g gt vl (.slice none 0 0) vh) → Pa w' g gt vl (.slice none 0 0) vh host nx L [] H → RdR EP w' v' P → R v' w') : Go.CW.Spec Try.prog 7 #[.pointer (some ⟨g, 0, none⟩)] w R := by
  apply mpath_Path_Out_m_wp
  refine withAddr_some ⟨_, h.b.cell 4, ?_⟩
  apply slices_Clip_17_wp
  obtain ⟨v2, hs2, r2, ob2⟩ := RdR.clip h.o.rd
  refine ⟨_, h.o.rd.len, _, h.o.rd.len, v2, hs2, withAddr_some ⟨st1_at h.b (by show 4 < 7; omega), nm fun w5 e5 => ?_⟩⟩
  have n5 : OwnNext w vo w (.slice none 0 0) := ⟨grownBy_refl _ _, .inr (fun q hq => by cases hq)⟩
  obtain ⟨h5, s5⟩ := h.pushO (P' := []) (OwnR.nil _ _ _) n5 e5
  obtain ⟨_, t5⟩ := setE h.b e5
  exact k v2 w5 s5 h5 (r2.stable fun q hq => t5.block q (fun e => ownR_ne h.o h.b (by decide) (by rw [← ob2, hq, e])))

theorem Done_c {w : World} {g gt : Nat} {vl vo vh : Value} {host nx : Int} {L : List Ask} {P : List Pkt} {H : List (Int × Int)} {R : KV} (h : Pa w g gt vl vo vh host nx L P H)
    (k : ∀ w', Step (fpP g gt vl vo vh) w w' (fpP g gt vl vo vh) → R (.slice none 0 0) w') : Go.CW.Spec Try.prog 11 #[.pointer (some ⟨g, 0, none⟩)] w R := by
  apply mpath_Path_Done_m_wp
  refine withAddr_some ⟨_, h.b.cell 5, ?_⟩
  apply slices_Clip_24_wp
  refine ⟨0, rfl, 0, rfl, _, rfl, withAddr_some ⟨st1_at h.b (by show 5 < 7; omega), nm fun w5 e5 => k w5 ?_⟩⟩
  subst e5
  exact Step.setA w _ _ (by rw [add_block]; exact .inl rfl)

def EU : Enc Int := ⟨1, fun n => [.int .u64 n], fun _ => rfl, by omega, fun _ => rfl⟩
abbrev tU : TypeId := 29
abbrev tUs : TypeId := 41
theorem tyU : SlTyN Try.prog tUs tU EU.s 8 := SlTyN.of (by kernel_rfl)

theorem Waiting_c {w : World} {g gt : Nat} {vl vo vh : Value} {host nx : Int} {L : List Ask} {P : List Pkt} {H : List (Int × Int)} {R : KV} (h : Pa w g gt vl vo vh host nx L P H) (hL : L.length ≤ 1000)
    (k : ∀ v' w', Grow w w' → RdR EU w' v' (L.map (·.id)) → R v' w') : Go.CW.Spec Try.prog 10 #[.pointer (some ⟨g, 0, none⟩)] w R := by
  apply mpath_Path_Waiting_m_wp
  refine withAddr_some ⟨_, h.b.cell 3, _, h.l.rd.len, ?_⟩
  refine ⟨fun (v : Value) (i : Int) (ww : World) => 0 ≤ i ∧ i ≤ L.length ∧ Grow w ww ∧ OwnR EU ww w.heap.size tU v ((L.map (·.id)).take i.toNat), fun (_ : Value) (i : Int) (_ : World) => ((L.length : Int) - i).toNat, ⟨by omega, by omega, Grow.refl _, OwnR.nil _ _ _⟩, ?_⟩
  dsimp only [allR, mapR2, eqN, ltN]
  rintro m v i ww ⟨⟨i0, i1, gg, ow⟩, hm⟩
  refine cond_intro (fun e => ?_) (fun e => ?_)
  · simp only [decide_eq_true_eq] at e
    obtain ⟨a, ha, hc, _⟩ := (h.l.grow gg).rd.at i0 e
    have ld : ldCells ww a 9 (rAsk (L[i.toNat]'(by omega)).id (L[i.toNat]'(by omega)).c (L[i.toNat]'(by omega)).d) := ⟨rfl, fun j hj => (hc j hj).trans (by simp [EA])⟩
    refine ⟨a, ha, _, _, _, _, _, _, _, _, _, ld, nm fun w17 e17 => ?_⟩
    obtain ⟨b17, g17, _⟩ := alE e17
    clear e17
    refine ⟨b17.row rfl (by simp only [oneL, (L[i.toNat]'(by omega)).one, one_int, one_bool, Bool.and_true]), nm fun w18 e18 => ?_⟩
    obtain ⟨b18, t18⟩ := rowE b17 e18 rfl
    clear e18
    have g18 : Grow ww w18 := Below.turn g17 t18 (Nat.le_refl _)
    refine ⟨_, b18.cell 0, nm fun w20 e20 => ?_⟩
    have g20 : Grow w18 w20 := by rw [e20]; exact Grow.al (Grow.refl _) _
    have lit : OwnR EU w20 w18.heap.size tU (.slice (some ⟨w18.heap.size, 0, none⟩) 1 1) [(L[i.toNat]'(by omega)).id] := by
      have := OwnR.lit (E := EU) w18 (Nat.le_refl _) tU [(L[i.toNat]'(by omega)).id] 1 rfl (by simp [maxLen])
      rw [e20]; exact this
    have o20 := (ow.grow g18).grow g20
    have hB : w.heap.size ≤ w20.heap.size := (gg.then (g18.then g20)).size
    obtain ⟨v21, w22, k21, o21, n21⟩ := app_ownR tyU o20 lit.rd (by simp; omega) hB
    refine ⟨v21, w22, k21, ?_⟩
    rw [wi64_id (n := i + 1) (by omega) (by omega)]
    have e1 : (i + 1).toNat = i.toNat + 1 := by omega
    refine ⟨⟨by omega, by omega, (gg.then (g18.then g20)).trans (n21.below hB (fun q hq => (o20.lt q hq).1)), ?_⟩, by omega⟩
    have hle : i.toNat < (L.map (·.id)).length := by simp; omega
    rw [e1, List.take_add_one, List.getElem?_eq_getElem hle]
    simpa using o21
  · simp only [decide_eq_false_iff_not] at e
    have et : (L.map (·.id)).take i.toNat = L.map (·.id) := List.take_of_length_le (by simp; omega)
    rw [et] at ow
    apply slices_Clip_23_wp
    obtain ⟨v2, hs2, r2, _⟩ := RdR.clip ow.rd
    exact ⟨_, ow.rd.len, _, ow.rd.len, v2, hs2, k v2 ww gg r2⟩

theorem In_req {w : World} {g : Nat} {v : Value} {from_ : Int} {bs : List UInt8} {R : KV} (hr : RdB w v (sld (1 :: bs))) (hl : bs.length ≤ 1000000) (k : ∀ w', Grow w w' → R (.tuple #[]) w') : Go.CW.Spec Try.prog 9 #[.pointer (some ⟨g, 0, none⟩), .int .i64 from_, v] w R := by
  apply mpath_Path_In_m_wp
  refine Answer_req hr (by decide) hl fun w1 g1 => ⟨_, _, _, _, _, _, _, _, _, _, rfl, nm fun w12 e12 => ?_⟩
  obtain ⟨b12, g12, _⟩ := alE e12
  clear e12
  refine ⟨b12.row rfl rfl, nm fun w13 e13 => ?_⟩
  obtain ⟨b13, t13⟩ := rowE b12 e13 rfl
  have g13 : Grow w w13 := g1.then (Below.turn g12 t13 (Nat.le_refl _))
  exact JoinP.bool (fun b w' => w' = w13 ∧ b = true) (fun j hj => cond_t rfl (hj _ _ ⟨rfl, rfl⟩)) (by rintro b w' ⟨rfl, rfl⟩; exact k _ g13)

end Go.Proofs.Ytmbdbplobnkleaa
