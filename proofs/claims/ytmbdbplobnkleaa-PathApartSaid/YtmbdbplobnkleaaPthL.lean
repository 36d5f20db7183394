/- known; the law PathApart. -/
import Derived.Test.YtmbdbplobnkleaaPthS
import Derived.Test.YtmbdbplobnkleaaSch
set_option linter.unusedVariables false
set_option linter.unusedSimpArgs false
set_option maxRecDepth 100000
namespace Go.Proofs.Ytmbdbplobnkleaa
open Go Go.CW Go.RowKit Go.Crc

/-- a command with its bytes -/
structure CmdV where
  c : Cmd
  d : Value
  one : isOne d = true
def EC : Enc CmdV := ⟨8, fun a => (rCmd a.c a.d).toList, fun _ => rfl, by omega, fun a => by simp only [oneL, a.one, one_int, one_bool, Bool.and_true]⟩
/-- commands that came in -/
def Cmds (w : World) (v : Value) (l : List CmdV) : Prop := RdR EC w v l ∧ ∀ x ∈ l, ∃ ds, RdB w x.d ds
theorem Cmds.grow {w w' : World} {v : Value} {l : List CmdV} (h : Cmds w v l) (g : Grow w w') : Cmds w' v l := ⟨h.1.grow g, fun x hx => by obtain ⟨ds, hd⟩ := h.2 x hx; exact ⟨ds, hd.grow g⟩⟩

abbrev kCmd : List CK := [.int .i64, .int .i64, .int .i64, .raw tB, .int .u64, .int .u64, .int .i64, .bool]
theorem open_cmd {H : Type} {enc : TypeId × Value → H} {w : World} {base : Nat} {spare : Nat → Bool} {held : Bool} {n : Nat} {cs : List Value} {x : DataW H × List MemPlace} (hs : ∀ b, spare b = true)
    (h : DataW.trod enc Try.prog w base spare held n tCmd cs = some x) : ∃ y : CmdV, cs = EC.enc y ∧ ∃ ds, RdB w y.d ds := by
  obtain ⟨hl, hat⟩ := open_sch 3 tCmd kCmd n cs x (by kernel_rfl) h
  match cs, hl with
  | [c0, c1, c2, c3, c4, c5, c6, c7], _ =>
    obtain ⟨q0, rfl, f0⟩ := hat 0 _ _ rfl rfl
    obtain ⟨q1, rfl, f1⟩ := hat 1 _ _ rfl rfl
    obtain ⟨q2, rfl, f2⟩ := hat 2 _ _ rfl rfl
    obtain ⟨ds, hr⟩ := raw_bytes hs (t := tB) (e := tb) (by kernel_rfl) (by kernel_rfl) (by kernel_rfl) (hat 3 _ _ rfl rfl)
    obtain ⟨q4, rfl, f4⟩ := hat 4 _ _ rfl rfl
    obtain ⟨q5, rfl, f5⟩ := hat 5 _ _ rfl rfl
    obtain ⟨q6, rfl, f6⟩ := hat 6 _ _ rfl rfl
    obtain ⟨q7, rfl⟩ := hat 7 _ _ rfl rfl
    exact ⟨⟨⟨q0, q1, q2, q4, q5, q6, q7⟩, c3, Rd.isOne hr⟩, rfl, ds, hr⟩
theorem open_cmds {H : Type} {enc : TypeId × Value → H} {w : World} {base : Nat} {spare : Nat → Bool} {held : Bool} {n : Nat} {v : Value} {x : DataW H × List MemPlace} (hs : ∀ b, spare b = true)
    (h : DataW.trod enc Try.prog w base spare held n 22 [v] = some x) : ∃ l, Cmds w v l := by
  obtain ⟨l, h1, h2⟩ := open_rec EC (Q := fun y => ∃ ds, RdB w y.d ds) (t := 22) (e := tCmd) (by kernel_rfl) (by kernel_rfl) (fun n cs x hx => by obtain ⟨y, h1, h2⟩ := open_cmd hs hx; exact ⟨y, h1, h2⟩) h
  exact ⟨l, h1, h2⟩

/-- a path laid from block B on, on which n commands wait, and as many packets -/
def PathAt (B : Nat) (w : World) (g : Nat) (host : Int) (n : Nat) (S : Fp) (T : Fp) : Prop :=
  ∃ gt vl vo vh L P H, S = fpP g gt vl vo vh ∧ Pa w g gt vl vo vh host ((n : Int) + 1) L P H ∧ Ids L ((n : Int) + 1) ∧ P.length = n ∧ H.length ≤ 2 * n ∧ (∀ q, S q → B ≤ q) ∧ ∀ p ∈ P, PkOk T w p

theorem PathAt.grow {B : Nat} {w w' : World} {g : Nat} {host : Int} {n : Nat} {S T : Fp} (h : PathAt B w g host n S T) (k : Grow w w') : PathAt B w' g host n S T := by
  obtain ⟨gt, vl, vo, vh, L, P, H, rfl, h1, h2, h3, h4, h5, h6⟩ := h
  exact ⟨gt, vl, vo, vh, L, P, H, rfl, h1.grow k, h2, h3, h4, h5, fun p hp => (h6 p hp).grow k⟩
theorem PathAt.isIn {B : Nat} {w : World} {g : Nat} {host : Int} {n : Nat} {S T : Fp} (h : PathAt B w g host n S T) : InW w S := by
  obtain ⟨gt, vl, vo, vh, L, P, H, rfl, h1, _⟩ := h; exact h1.isIn
/-- another one turned -/
theorem PathAt.other {B : Nat} {w w' : World} {g : Nat} {host : Int} {n : Nat} {S U U' : Fp} (h : PathAt B w g host n S (Both S U)) (st : Step U w w' U') (a : Apart S U) : PathAt B w' g host n S (Both S U') := by
  obtain ⟨gt, vl, vo, vh, L, P, H, rfl, h1, h2, h3, h4, h5, h6⟩ := h
  exact ⟨gt, vl, vo, vh, L, P, H, rfl, h1.stepS st a, h2, h3, h4, h5, fun p hp => (h6 p hp).step st.right⟩

/-- one more is asked for -/
theorem PathAt.submit {B : Nat} {w : World} {g : Nat} {host : Int} {n : Nat} {S U : Fp} {R : KV} {c : Cmd} {d : Value} {ds : List UInt8} (h : PathAt B w g host n S (Both S U)) (hB : B ≤ w.heap.size) (hn : n ≤ 3) (hU : InW w U) (hd : RdB w d ds) (hl : ds.length ≤ 1024) (hk : 1 ≤ c.kind ∧ c.kind ≤ 18)
    (k : ∀ S' w', Step S w w' S' → Below B w w' → PathAt B w' g host (n + 1) S' (Both S' U) → R (.tuple #[.int .u64 ((n : Int) + 1), .int .i64 0]) w') : Go.CW.Spec Try.prog 6 #[.pointer (some ⟨g, 0, none⟩), .agg (rCmd c d)] w R := by
  obtain ⟨gt, vl, vo, vh, L, P, H, rfl, h1, h2, h3, h4, h5, h6⟩ := h
  have hL : L.length = n := by have := h2.1; omega
  refine Submit_c h1 h2 (by omega) (by omega) (by omega) hd hl hk fun vl' vo' vh' a p H' w' st hp ids hH pk np => k _ w' st (st.to_below hB h5) ?_
  have e : (n : Int) + 1 + 1 = ((n + 1 : Nat) : Int) + 1 := by omega
  rw [e] at hp ids
  refine ⟨gt, vl', vo', vh', _, _, H', rfl, hp, ids, by simp [h3], by omega, fun q hq => ?_, fun p' hp' => ?_⟩
  · rcases st.fp q hq with e | e
    · exact h5 q e
    · omega
  · simp only [List.mem_append, List.mem_cons, List.not_mem_nil, or_false] at hp'
    rcases hp' with hp' | rfl
    · exact (h6 p' hp').step st.left
    · obtain ⟨bs, x, hb⟩ := pk.ex
      refine ⟨pk.to, bs, ⟨x.1, fun hne q hq hs => ?_⟩, hb⟩
      rcases hs with hs | hs
      · exact x.2 hne q hq hs
      · have := np q hq; have := hU q hs; omega

theorem known_c {w : World} {R : KV} (k : ∀ w', Grow w w' → R (.bool true) w') : Go.CW.Spec Try.prog 4 #[] w R := by
  apply gemellaw25_known_wp
  refine New_c' (by omega) fun g gt w1 g1 hgt hg p1 => ⟨_, _, rfl, ?_⟩
  refine JoinP.bool (fun b w' => w' = w1 ∧ b = false) (fun j hj => cond_f (by rfl) ⟨false, rfl, hj _ _ ⟨rfl, rfl⟩⟩) ?_
  rintro b w5 ⟨rfl, rfl⟩
  have ids0 : Ids [] 1 := ⟨rfl, fun i h => by simp at h⟩
  refine cond_f rfl (Submit_c (ds := []) (c := ⟨2, 0, 1, 0, 0, 0, false⟩) p1 ids0 (by simp) (by simp) (by simp) (Rd.nil w5) (by simp) (by decide) fun vl vo vh a p H w7 st7 h7 ids7 hH pk np => ⟨_, _, rfl, ?_⟩)
  have ge : ∀ q, fpP g gt (.slice none 0 0) (.slice none 0 0) (.slice none 0 0) q → w.heap.size ≤ q := by
    rintro q (hq | hq | hq | hq | hq)
    · omega
    · cases hq
    · cases hq
    · omega
    · cases hq
  have b7 : Below w.heap.size w w7 := (show Below w.heap.size w w5 from g1).trans (st7.to_below g1.size ge)
  have ge7 : ∀ q, fpP g gt vl vo vh q → w.heap.size ≤ q := fun q hq => by
    rcases st7.fp q hq with e | e
    · exact ge q e
    · exact Nat.le_trans g1.size e
  refine Out_c h7 fun v10 w11 st11 h11 r11 => Waiting_c h11 (by simp) fun v12 w13 g13 r13 => ?_
  have b11 : Below w.heap.size w w11 := b7.trans (st11.to_below b7.size ge7)
  have b13 : Below w.heap.size w w13 := b11.trans (g13.mono b11.size)
  have r11' := r11.grow g13
  have l10 : sliceLen v10 = some 1 := r11.len
  have l12 : sliceLen v12 = some 1 := r13.len
  refine JoinP.bool (fun b w' => b = true ∧ Below w.heap.size w w') (fun j hj => ?_) (by rintro b w' ⟨rfl, hb⟩; exact k _ hb)
  obtain ⟨a18, ha18, hc18, _⟩ := r11'.at (i := 0) (by omega) (by simp)
  obtain ⟨a21, ha21, hc21, _⟩ := r13.at (i := 0) (by omega) (by simp)
  have c18 : w13.cell? (Addr.add a18 0) = some (.int .i64 p.to) := hc18 0 (by show 0 < 2; omega)
  have c21 : w13.cell? a21 = some (.int .u64 1) := by
    have := hc21 0 (by show 0 < 1; omega)
    rw [add_zero] at this
    have hid : a.id = 1 := by have := ids7.2 0 (by simp); simpa using this
    simpa [EU, hid] using this
  have h13 := h11.grow g13
  have ge11 : ∀ q, fpP g gt vl (.slice none 0 0) vh q → w.heap.size ≤ q := fun q hq => by
    rcases st11.fp q hq with e | e
    · exact ge7 q e
    · exact Nat.le_trans b7.size e
  refine cond_t rfl (cond_t rfl ⟨1, l10, cond_t rfl ⟨a18, ha18, _, c18, cond_t (by rw [pk.to]; rfl) ⟨1, l12, cond_t rfl ⟨a21, ha21, _, c21, cond_t rfl (Done_c h13 fun w24 st24 => ⟨0, rfl, hj _ _ ⟨rfl, b13.trans (st24.to_below b13.size ge11)⟩⟩)⟩⟩⟩⟩)

theorem pathApart_s {w : World} {v u : Value} {l m : List CmdV} (hv : Cmds w v l) (hu : Cmds w u m) : Go.CW.Spec Try.prog 3 #[v, u] w (Law w) := by
  apply gemellaw25_PathApart_wp
  refine known_c fun w1 g1 => ⟨_, rfl, cond_f rfl ?_⟩
  have hv1 := hv.grow g1
  have hu1 := hu.grow g1
  refine JoinP.bool (fun b w' => w' = w1 ∧ (b = false → l.length ≤ 4 ∧ m.length ≤ 4)) (fun j hj => ?_) ?_
  · refine ⟨_, hv1.1.len, cond_intro (fun d => hj _ _ ⟨rfl, by simp⟩) (fun d => ⟨_, hu1.1.len, hj _ _ ⟨rfl, fun h3 => ?_⟩⟩)⟩
    simp at d h3
    omega
  rintro b w4 ⟨rfl, hb⟩
  refine cond_intro (fun d => ⟨rfl, g1⟩) (fun d => ?_)
  obtain ⟨hl, hm⟩ := hb d
  clear hb d
  refine New_c' (by omega) fun ga gta w6 g6 hgta hga pa => ⟨_, _, rfl, New_c' (by omega) fun gb gtb w10 g10 hgtb hgb pb => ⟨_, _, rfl, ?_⟩⟩
  have ids0 : Ids [] 1 := ⟨rfl, fun i h => by simp at h⟩
  have pa10 := pa.grow g10
  have ltA : ga < w6.heap.size := pa.b.lt
  have fp0 : ∀ (g gt : Nat) q, fpP g gt (.slice none 0 0) (.slice none 0 0) (.slice none 0 0) q → q = g ∨ q = gt := by
    rintro g gt q (hq | hq | hq | hq | hq)
    · exact .inl hq
    · cases hq
    · cases hq
    · exact .inr hq
    · cases hq
  have A0 : PathAt w4.heap.size w10 ga 0 0 (fpP ga gta (.slice none 0 0) (.slice none 0 0) (.slice none 0 0)) (Both (fpP ga gta (.slice none 0 0) (.slice none 0 0) (.slice none 0 0)) (fpP gb gtb (.slice none 0 0) (.slice none 0 0) (.slice none 0 0))) :=
    ⟨gta, _, _, _, [], [], [], rfl, pa10, ids0, rfl, by simp, fun q hq => by rcases fp0 _ _ q hq with rfl | rfl <;> omega, fun p hp => by simp at hp⟩
  have B0 : PathAt w4.heap.size w10 gb 1 0 (fpP gb gtb (.slice none 0 0) (.slice none 0 0) (.slice none 0 0)) (Both (fpP gb gtb (.slice none 0 0) (.slice none 0 0) (.slice none 0 0)) (fpP ga gta (.slice none 0 0) (.slice none 0 0) (.slice none 0 0))) :=
    ⟨gtb, _, _, _, [], [], [], rfl, pb, ids0, rfl, by simp, fun q hq => by have := g6.size; rcases fp0 _ _ q hq with rfl | rfl <;> omega, fun p hp => by simp at hp⟩
  have ap0 : Apart (fpP ga gta (.slice none 0 0) (.slice none 0 0) (.slice none 0 0)) (fpP gb gtb (.slice none 0 0) (.slice none 0 0) (.slice none 0 0)) := by
    intro q hq hq'
    rcases fp0 _ _ q hq with rfl | rfl <;> rcases fp0 _ _ _ hq' with e | e <;> omega
  have g410 : Grow w4 w10 := g6.then g10
  refine ⟨fun (i : Int) (ww : World) => 0 ≤ i ∧ i ≤ l.length ∧ Below w4.heap.size w4 ww ∧ ∃ Sa Sb, PathAt w4.heap.size ww ga 0 i.toNat Sa (Both Sa Sb) ∧ PathAt w4.heap.size ww gb 1 0 Sb (Both Sb Sa) ∧ Apart Sa Sb, fun (i : Int) (_ : World) => ((l.length : Int) - i).toNat, ⟨by omega, by omega, g410, _, _, A0, B0, ap0⟩, ?_⟩
  clear A0 B0 ap0 pa pb pa10
  dsimp only [allR, mapR2, eqN, ltN]
  rintro μ i ww ⟨⟨i0, i1, bl, Sa, Sb, pA, pB, ap⟩, hμ⟩
  have gw : Grow w4 ww := bl
  have hvw := hv1.grow gw
  refine ⟨_, hvw.1.len, cond_intro (fun d => ?_) (fun d => ?_)⟩
  · simp only [decide_eq_true_eq] at d
    obtain ⟨a, ha, hc, _⟩ := hvw.1.at i0 d
    obtain ⟨ds, hds⟩ := hvw.2 (l[i.toNat]'(by omega)) (List.getElem_mem _)
    generalize l[i.toNat]'(by omega) = x at *
    have c0 : ww.cell? (Addr.add a 0) = some (.int .i64 x.c.kind) := hc 0 (by show 0 < 8; omega)
    have c3 : ww.cell? (Addr.add a 3) = some x.d := hc 3 (by show 3 < 8; omega)
    refine JoinP.bool (fun b w' => w' = ww ∧ (b = false → 1 ≤ x.c.kind ∧ x.c.kind ≤ 18 ∧ ds.length ≤ 1024)) (fun j hj => ?_) ?_
    · refine ⟨a, ha, _, c3, _, RdB.len hds, cond_intro (fun e => hj _ _ ⟨rfl, by simp⟩) (fun e => ⟨a, ha, _, c0, cond_intro (fun e2 => hj _ _ ⟨rfl, by simp⟩) (fun e2 => ⟨a, ha, _, c0, hj _ _ ⟨rfl, fun e3 => ?_⟩⟩)⟩)⟩
      simp at e e2 e3
      omega
    rintro b w18 ⟨rfl, hb⟩
    refine cond_intro (fun e => ⟨rfl, g1.then gw⟩) (fun e => ?_)
    obtain ⟨k1, k2, k3⟩ := hb e
    have ld : ldCells w18 a 8 (rCmd x.c x.d) := ⟨rfl, fun j hj => (hc j hj).trans (by simp [EC])⟩
    refine ⟨a, ha, _, _, _, _, _, _, _, _, ld, pA.submit bl.size (by omega) pB.isIn hds k3 ⟨k1, k2⟩ fun S' w29 st29 b29 pA' => ⟨_, _, rfl, ?_⟩⟩
    refine JoinP.bool (fun b w' => w' = w29 ∧ b = false) (fun j hj => cond_f (by rfl) (hj _ _ ⟨rfl, ?_⟩)) ?_
    · rw [wi64_id (n := i + 1) (by omega) (by omega), w64_id (n := i + 1) (by omega) (by omega)]
      simp; omega
    rintro b w33 ⟨rfl, rfl⟩
    rw [wi64_id (n := i + 1) (by omega) (by omega)]
    have e1 : (i + 1).toNat = i.toNat + 1 := by omega
    refine cond_f rfl ⟨⟨by omega, by omega, bl.trans b29, S', Sb, by rw [e1]; exact pA', pB.other st29 ap.symm, (ap.symm.step pB.isIn st29).symm⟩, by omega⟩
  simp only [decide_eq_false_iff_not] at d
  obtain rfl : i = l.length := by omega
  rw [Int.toNat_natCast] at pA
  clear hμ i0 i1 d
  refine ⟨fun (i : Int) (w2 : World) => 0 ≤ i ∧ i ≤ m.length ∧ Below w4.heap.size w4 w2 ∧ ∃ Sa Sb, PathAt w4.heap.size w2 ga 0 l.length Sa (Both Sa Sb) ∧ PathAt w4.heap.size w2 gb 1 i.toNat Sb (Both Sb Sa) ∧ Apart Sa Sb, fun (i : Int) (_ : World) => ((m.length : Int) - i).toNat, ⟨by omega, by omega, bl, Sa, Sb, pA, pB, ap⟩, ?_⟩
  clear pA pB ap hvw gw bl Sa Sb
  dsimp only [allR, mapR2, eqN, ltN]
  rintro μ2 i w2 ⟨⟨i0, i1, bl, Sa, Sb, pA, pB, ap⟩, hμ2⟩
  have gw : Grow w4 w2 := bl
  have huw := hu1.grow gw
  refine ⟨_, huw.1.len, cond_intro (fun d => ?_) (fun d => ?_)⟩
  · simp only [decide_eq_true_eq] at d
    obtain ⟨a, ha, hc, _⟩ := huw.1.at i0 d
    obtain ⟨ds, hds⟩ := huw.2 (m[i.toNat]'(by omega)) (List.getElem_mem _)
    generalize m[i.toNat]'(by omega) = x at *
    have c0 : w2.cell? (Addr.add a 0) = some (.int .i64 x.c.kind) := hc 0 (by show 0 < 8; omega)
    have c3 : w2.cell? (Addr.add a 3) = some x.d := hc 3 (by show 3 < 8; omega)
    refine JoinP.bool (fun b w' => w' = w2 ∧ (b = false → 1 ≤ x.c.kind ∧ x.c.kind ≤ 18 ∧ ds.length ≤ 1024)) (fun j hj => ?_) ?_
    · refine ⟨a, ha, _, c3, _, RdB.len hds, cond_intro (fun e => hj _ _ ⟨rfl, by simp⟩) (fun e => ⟨a, ha, _, c0, cond_intro (fun e2 => hj _ _ ⟨rfl, by simp⟩) (fun e2 => ⟨a, ha, _, c0, hj _ _ ⟨rfl, fun e3 => ?_⟩⟩)⟩)⟩
      simp at e e2 e3
      omega
    rintro b w18 ⟨rfl, hb⟩
    refine cond_intro (fun e => ⟨rfl, g1.then gw⟩) (fun e => ?_)
    obtain ⟨k1, k2, k3⟩ := hb e
    have ld : ldCells w18 a 8 (rCmd x.c x.d) := ⟨rfl, fun j hj => (hc j hj).trans (by simp [EC])⟩
    refine ⟨a, ha, _, _, _, _, _, _, _, _, ld, pB.submit bl.size (by omega) pA.isIn hds k3 ⟨k1, k2⟩ fun S' w29 st29 b29 pB' => ⟨_, _, rfl, ?_⟩⟩
    refine JoinP.bool (fun b w' => w' = w29 ∧ b = false) (fun j hj => cond_f (by rfl) (hj _ _ ⟨rfl, ?_⟩)) ?_
    · rw [wi64_id (n := i + 1) (by omega) (by omega), w64_id (n := i + 1) (by omega) (by omega)]
      simp; omega
    rintro b w33 ⟨rfl, rfl⟩
    rw [wi64_id (n := i + 1) (by omega) (by omega)]
    have e1 : (i + 1).toNat = i.toNat + 1 := by omega
    refine cond_f rfl ⟨⟨by omega, by omega, bl.trans b29, Sa, S', pA.other st29 ap, by rw [e1]; exact pB', ap.step pA.isIn st29⟩, by omega⟩
  simp only [decide_eq_false_iff_not] at d
  obtain rfl : i = m.length := by omega
  rw [Int.toNat_natCast] at pB
  clear hμ2 i0 i1 d huw
  obtain ⟨gta', vla, voa, vha, La, Pa_, Ha, rfl, hA, idA, lA, HA, geA, okA⟩ := pA
  obtain ⟨gtb', vlb, vob, vhb, Lb, Pb_, Hb, rfl, hB, idB, lB, HB, geB, okB⟩ := pB
  have lLa : La.length = l.length := by have := idA.1; omega
  have lLb : Lb.length = m.length := by have := idB.1; omega
  refine Out_c hA fun v73 w74 st74 h74 r74 => ?_
  have hB74 := hB.stepS st74 ap.symm
  have ok74 : ∀ p ∈ Pa_, PkOk (Both (fpP ga gta' vla (.slice none 0 0) vha) (fpP gb gtb' vlb vob vhb)) w74 p := fun p hp => (okA p hp).step st74.left
  have b74 : Below w4.heap.size w4 w74 := bl.trans (st74.to_below bl.size geA)
  refine ⟨fun (i : Int) (ww : World) => 0 ≤ i ∧ i ≤ Pa_.length ∧ Grow w74 ww, fun (i : Int) (_ : World) => ((Pa_.length : Int) - i).toNat, ⟨by omega, by omega, Grow.refl _⟩, ?_⟩
  dsimp only [allR, mapR2, eqN, ltN]
  rintro μ3 i w77 ⟨⟨i0, i1, g77⟩, hμ3⟩
  have r77 := r74.grow g77
  have b77 : Below w4.heap.size w4 w77 := b74.trans (g77.mono b74.size)
  refine ⟨_, r77.len, cond_intro (fun d => ?_) (fun d => ?_)⟩
  · simp only [decide_eq_true_eq] at d
    obtain ⟨a, ha, hc, _⟩ := r77.at i0 d
    obtain ⟨bs, hx, hbs⟩ := ((ok74 (Pa_[i.toNat]'(by omega)) (List.getElem_mem _)).grow g77).ex
    generalize Pa_[i.toNat]'(by omega) = p at *
    have c0 : w77.cell? (Addr.add a 0) = some (.int .i64 p.to) := hc 0 (by show 0 < 2; omega)
    have c1 : w77.cell? (Addr.add a 1) = some p.d := hc 1 (by show 1 < 2; omega)
    have rb : RdB w77 p.d (sld (1 :: bs)) := hx.1
    obtain ⟨q1, q2⟩ := opE_sld (1 :: bs)
    refine ⟨a, ha, _, c1, ref_Open_c rb (by rw [sld_length]; simp; omega) fun v81 w82 g82 r82 => ⟨_, _, rfl, ?_⟩⟩
    rw [q1]
    refine cond_f (by rfl) (nm fun w85 e85 => ?_)
    have g85 := drE e85
    have gg := g82.then g85
    have cg : ∀ {a u}, w77.cell? a = some u → w85.cell? a = some u := fun h => (gg.cell (World.block_lt_of_cell? _ _ h)).trans h
    refine ⟨a, ha, _, cg c0, a, ha, _, cg c1, nm fun w90 e90 => ?_⟩
    obtain rfl : w90 = w85 := e90.trans e85.symm
    refine In_req (rb.grow gg) (by omega) fun w92 g92 => ⟨rfl, ?_⟩
    have hle : Pa_.length ≤ 10 := by omega
    rw [wi64_id (n := i + 1) (by omega) (by omega)]
    exact ⟨⟨by omega, by omega, g77.then (gg.then g92)⟩, by omega⟩
  simp only [decide_eq_false_iff_not] at d
  have hA77 := h74.grow g77
  have hB77 := hB74.grow g77
  refine JoinP.bool (fun b w' => b = true ∧ Below w4.heap.size w4 w') (fun j hj => ?_) (by rintro b w' ⟨rfl, hb⟩; exact ⟨rfl, g1.then hb⟩)
  refine Waiting_c hA77 (by omega) fun v96 w97 g97 r97 => ⟨_, r97.len, _, (hv1.grow (show Grow w4 w97 from b77.trans (g97.mono b77.size))).1.len, cond_t (by simp [lLa]) ?_⟩
  refine Waiting_c (hB77.grow g97) (by omega) fun v100 w101 g101 r101 => ?_
  have b101 : Below w4.heap.size w4 w101 := b77.trans ((g97.then g101).mono b77.size)
  refine ⟨_, r101.len, _, (hu1.grow (show Grow w4 w101 from b101)).1.len, cond_t (by simp [lLb]) ?_⟩
  refine Done_c (hB77.grow (g97.then g101)) fun w105 st105 => ⟨0, rfl, cond_t (by rfl) ?_⟩
  have b105 : Below w4.heap.size w4 w105 := b101.trans (st105.to_below b101.size geB)
  exact ⟨_, r74.len, _, (hv1.grow (show Grow w4 w105 from b105)).1.len, hj _ _ ⟨by simp; omega, b105⟩⟩

end Go.Proofs.Ytmbdbplobnkleaa
