/- TopKeys: what a unit tells of its keys is what its table tells. -/
import Derived.Test.YtnclgknfccliiaaGreatDoorLuA
import Derived.Test.YtnclgknfccliiaaGreatDoorGUn
import Derived.Test.YtnclgknfccliiaaGreatDoorKnown
set_option linter.unusedVariables false
set_option linter.unusedSimpArgs false
set_option maxRecDepth 100000
namespace Go.Proofs.YtnclgknfccliiaaGreatDoor
open Go Go.CW Go.RowKit Go.CW.Ex

variable {w : World} {u b t g1 g2 : Nat} {G : List (Int × Option Nat)} {U : Un}

theorem UAt.stepS {S S' : Fp} {w' : World} (h : UAt w u b t g1 g2 G U) (st : Step S w w' S') (n0 : ¬ S u) (n1 : ¬ S b) (n2 : ¬ S t) (n3 : ¬ S g1) (n4 : ¬ S g2) : UAt w' u b t g1 g2 G U :=
  ⟨(st.block u h.o.lt n0).trans h.o, h.gl, h.sp.step st n1 n3 n4, ⟨(st.block t h.tb.b.lt n2).trans h.tb.b, h.tb.len⟩, h.gn, h.ty⟩
theorem UAt.lts (h : UAt w u b t g1 g2 G U) : u < w.heap.size ∧ b < w.heap.size ∧ t < w.heap.size ∧ g1 < w.heap.size ∧ g2 < w.heap.size := ⟨h.o.lt, h.sp.obj.lt, h.tb.b.lt, h.sp.dat.lt, h.sp.map.lt⟩

/-- the table behind k keys -/
def tbK (ks : List Int) (k : Nat) : Tb := ⟨ks.take k ++ List.replicate (8 - k) 0, -1, 0, (k : Int)⟩

theorem tbK_reg {ks : List Int} {k : Nat} (hk : k < ks.length) (h8 : ks.length ≤ 8) (hz : ks.getD k 0 ≠ 0) : regT (tbK ks k) k (ks.getD k 0) = tbK ks (k + 1) := by
  have h1 : ¬ (ks.getD k 0 = 0 ∧ (tbK ks k).hd = (k : Int)) := fun h => hz h.1
  unfold regT
  dsimp only
  rw [if_neg h1]
  unfold tbK
  dsimp only
  have e8 : 8 - k = (8 - (k + 1)) + 1 := by omega
  have e1 : (ks.take k ++ List.replicate (8 - k) 0).set k (ks.getD k 0) = ks.take (k + 1) ++ List.replicate (8 - (k + 1)) 0 := by
    rw [List.set_append_right _ _ (by rw [List.length_take]; omega), e8, List.replicate_succ]
    have : k - (ks.take k).length = 0 := by rw [List.length_take]; omega
    have e3 : ks.take (k + 1) = ks.take k ++ [ks.getD k 0] := keys_take (T := ⟨ks, 0, 0, 0⟩) hk
    rw [this, e3, List.set_cons_zero, List.append_assoc]; rfl
  rw [e1, w32_id (by omega) (by omega)]
  simp

/-- the table that is held -/
def tbH (ks : List Int) (h : Nat) (y : Int) : Tb := ⟨ks ++ List.replicate (8 - ks.length) 0, (h : Int), y, (ks.length : Int)⟩

theorem tbH_key {ks : List Int} {h : Nat} {y : Int} {i : Nat} (hi : i < ks.length) : (tbH ks h y).keys.getD i 0 = ks.getD i 0 := by
  unfold tbH
  dsimp only
  rw [List.getD_eq_getElem?_getD, List.getElem?_append_left hi, List.getD_eq_getElem?_getD]

theorem someK_tb {ks : List Int} (hz : ∀ k ∈ ks, k ≠ 0) (n : Nat) : someK (ks ++ List.replicate n 0) = ks := by
  unfold someK
  rw [List.filter_append, List.filter_eq_self.2 (fun k hk => by simpa using hz k hk), List.filter_eq_nil_iff.2 (fun k hk => by have := List.eq_of_mem_replicate hk; simp [this])]
  simp

theorem tbH_ok {ks : List Int} {h : Nat} {y : Int} (h8 : ks.length ≤ 8) (hz : ∀ k ∈ ks, k ≠ 0) (hf : ∀ k ∈ ks, 0 ≤ k ∧ k < 18446744073709551616) (hh : h < ks.length) (hy : typedB y = true) : TOk (tbH ks h y) := by
  refine ⟨by simp [tbH]; omega, fun k hk => ?_, by show 0 ≤ (ks.length : Int) ∧ (ks.length : Int) < 4294967296; omega, .inr ⟨h, rfl, by omega, ?_, hy⟩⟩
  · simp only [tbH, List.mem_append] at hk
    rcases hk with hk | hk
    · exact hf k hk
    · rw [List.eq_of_mem_replicate hk]; omega
  · rw [tbH_key hh]
    exact hz _ (key_mem (T := ⟨ks, 0, 0, 0⟩) hh)

theorem tbK_res {ks : List Int} {h : Nat} {y : Int} (h8 : ks.length ≤ 8) (hz : ∀ k ∈ ks, k ≠ 0) (hh : h < ks.length) (hy : typedB y = true) : resT (tbK ks ks.length) h (ks.getD h 0) y = ((0, 0, 0), tbH ks h y) := by
  have hk : (tbK ks ks.length).keys.getD h 0 = ks.getD h 0 := by
    unfold tbK
    dsimp only
    rw [List.take_length, List.getD_eq_getElem?_getD, List.getElem?_append_left hh, List.getD_eq_getElem?_getD]
  have hm : mayB (tbK ks ks.length) h (ks.getD h 0) = true := by
    unfold mayB
    rw [hk]
    have : ks.getD h 0 ≠ 0 := hz _ (key_mem (T := ⟨ks, 0, 0, 0⟩) hh)
    simp only [List.getD_eq_getElem?_getD] at this ⊢
    simp [this]
  unfold resT
  rw [hm, hy, if_neg (by simp), if_neg (by simp), if_pos (show (tbK ks ks.length).hd = -1 from rfl)]
  unfold tbK tbH
  rw [List.take_length]

theorem lit4 (c : UInt8) : ∃ y : Int, [(1 : Int), 3, 5, 6].getD (c.toNat % 4) 0 = y ∧ typedB y = true ∧ y % 16 = y ∧ 0 < y ∧ y < 8 := by
  have : c.toNat % 4 = 0 ∨ c.toNat % 4 = 1 ∨ c.toNat % 4 = 2 ∨ c.toNat % 4 = 3 := by omega
  rcases this with h | h | h | h <;> rw [h] <;> refine ⟨_, rfl, by decide, by decide, by decide, by decide⟩


theorem rk_at {v : Value} {ks : List Int} (h : RdR EU w v ks) {i : Int} {n : Nat} (e : i = (n : Int)) (hi : n < ks.length) : ∃ a, sliceAt v i 1 = some a ∧ w.cell? a = some (.int .u64 (ks.getD n 0)) := by
  subst e
  obtain ⟨a, h1, h2⟩ := Lst.EU_at h (i := (n : Int)) (by omega) (by omega)
  refine ⟨a, h1, ?_⟩
  rw [h2]
  simp [List.getD_eq_getElem?_getD, List.getElem?_eq_getElem hi]

theorem and3_all : ∀ c : Fin 256, bitsI .and .u8 (c.val : Int) 3 = ((c.val % 4 : Nat) : Int) := by decide +kernel
theorem and3 (c : UInt8) : bitsI .and .u8 (c.toNat : Int) (3 : Int) = ((c.toNat % 4 : Nat) : Int) := and3_all ⟨c.toNat, c.toNat_lt⟩
theorem cdbIn16_c {R : KV} (k : ∀ w', Grow w w' → R (.int .i64 (136 : Int)) w') : Go.CW.Spec Tryz.prog 30 #[.agg #[.int .i64 (16 : Int), .int .i64 (0 : Int), .int .i64 (0 : Int), nilV, .int .u64 (0 : Int), .int .u64 (0 : Int), .int .i64 (0 : Int), .bool false]] w R := by
  apply cdb_In_wp
  refine nm fun w0 e0 => ?_
  obtain ⟨b0, g0, _⟩ := alE e0
  exact ⟨_, by rw [b0.cell]; rfl, cond_f rfl (cond_f rfl (cond_f rfl (cond_f rfl (cond_t rfl (k _ g0)))))⟩

theorem topKeys_t {W : World} (hE : Env W) {v : Value} {ks : List Int} (hr : RdR EU W v ks) (hf : ∀ k ∈ ks, 0 ≤ k ∧ k < 18446744073709551616) {p1 p2 : UInt8} :
    Go.CW.Spec Tryz.prog 5 #[v, .int .u8 (p1.toNat : Int), .int .u8 (p2.toNat : Int)] W (Law W) := by
  apply gemeltop_TopKeys_wp
  refine known_c hE fun w1 gw1 => ⟨_, rfl, cond_f rfl ?_⟩
  refine JoinP.bool (fun q w' => (q = false → ks.length ≤ 8 ∧ ks.length ≠ 0) ∧ w' = w1) (fun j hj => ⟨_, hr.len, cond_intro (fun h1 => hj _ _ ⟨fun e => (by cases e), rfl⟩) (fun h1 => ⟨_, hr.len, hj _ _ ⟨fun e => ?_, rfl⟩⟩)⟩) ?_
  · simp at h1 e
    constructor
    · omega
    · intro h0; simp [List.length_eq_zero_iff] at h0; exact e h0
  rintro q w4 ⟨hq, rfl⟩
  refine cond_intro (fun _ => ⟨rfl, gw1⟩) (fun hq' => ?_)
  obtain ⟨h8, h0⟩ := hq hq'
  clear hq hq'
  refine uNew_c (N := 2) (by omega) (by omega) fun u b t g1 g2 G w6 g6 hu hb ht hg1 hg2 ua _ => ⟨_, _, rfl, ?_⟩
  refine rNew_c fun t2 w10 g10 ht2 tb2 => ⟨_, rfl, ?_⟩
  have s4 := gw1.size
  have g10' : Grow W w10 := (gw1.then g6).then g10
  have ua10 := ua.grow g10
  obtain ⟨lu, lb, lt, lg1, lg2⟩ := ua.lts
  have s6 := g6.size
  refine ⟨fun (n : Int) (w' : World) => ∃ k : Nat, n = (k : Int) ∧ k ≤ ks.length ∧ (∀ i, i < k → ks.getD i 0 ≠ 0) ∧ Grow W w' ∧ (∃ D M, UAt w' u b t g1 g2 G ⟨2, D, M, tbK ks k⟩) ∧ TAt w' t2 (tbK ks k), fun (n : Int) (_ : World) => ((ks.length : Int) - n).toNat,
    ⟨0, rfl, by omega, fun i hi => by omega, g10', ⟨_, _, ua10⟩, tb2⟩, ?_⟩
  dsimp only [allR, mapR2, eqN, ltN]
  rintro m n w14 ⟨⟨k, rfl, hk, hz, g14, ⟨D, M, u14⟩, t14⟩, hm⟩
  have r14 := hr.grow g14
  refine ⟨_, r14.len, cond_intro (fun hc => ?_) (fun hc => ?_)⟩
  · have hlt : k < ks.length := by simpa using hc
    obtain ⟨a, ha, hca⟩ := rk_at r14 (i := (k : Int)) rfl hlt
    refine ⟨a, ha, _, hca, cond_intro (fun _ => ⟨rfl, g14⟩) (fun hne => ⟨a, ha, _, hca, ?_⟩)⟩
    have hne' : ks.getD k 0 ≠ 0 := by
      intro e; rw [e] at hne; simp at hne
    refine Do_c (c := ⟨11, 0, 0, 0, ks.getD k 0, 0, false, []⟩) u14 (i := k) (by omega) ⟨Nat.zero_le _, Nat.zero_le _, (by show Fits .i64 (0 : Int); decide), by simp, fun _ e => absurd e hne'⟩ (Rd.nil _) fun v20 w21 st21 u21 rp21 => ?_
    obtain ⟨dv, rfl, _, _⟩ := rp21
    have hB : ∀ x, FU t g1 g2 x → W.heap.size ≤ x := fun x hx => by rcases hx with rfl | rfl | rfl <;> omega
    have g21 : Grow W w21 := g14.trans (st21.to_below g14.size hB)
    have hdo : (doU ⟨2, D, M, tbK ks k⟩ k ⟨11, 0, 0, 0, ks.getD k 0, 0, false, []⟩).2 = ⟨2, D, M, tbK ks (k + 1)⟩ := by
      unfold doU actU
      rw [if_pos (by simp [allowsB, tbK]), if_pos rfl]
      dsimp only
      rw [tbK_reg hlt h8 hne']
    rw [hdo] at u21
    obtain ⟨a2, ha2, hca2⟩ := rk_at (hr.grow g21) (i := (k : Int)) rfl hlt
    refine ⟨_, _, _, _, _, rfl, a2, ha2, _, hca2, ?_⟩
    have t21 : TAt w21 t2 (tbK ks k) := ⟨t14.b.stepS st21 (fun hx => by rcases hx with e | e | e <;> omega), t14.len⟩
    refine Register_c t21 (by omega) (fun e => absurd e hne') fun w30 st30 t30 => ⟨_, _, _, _, _, _, rfl, ?_⟩
    rw [tbK_reg hlt h8 hne'] at t30
    rw [wi64_id (by omega) (by omega)]
    refine ⟨⟨k + 1, by omega, by omega, fun i hi => ?_, g21.trans (st30.to_below g21.size (fun x hx => by subst hx; omega)), ⟨D, M, u21.stepS st30 (by omega) (by omega) (by omega) (by omega) (by omega)⟩, t30⟩, by omega⟩
    rcases Nat.lt_or_ge i k with h1 | h1
    · exact hz i h1
    · have : i = k := by omega
      subst this; exact hne'
  · have hke : k = ks.length := by simp at hc; omega
    subst hke
    clear hc hm
    have hzz : ∀ x ∈ ks, x ≠ 0 := fun x hx => by
      obtain ⟨i, hi, rfl⟩ := List.mem_iff_getElem.1 hx
      have := hz i hi
      rw [List.getD_eq_getElem?_getD, List.getElem?_eq_getElem hi] at this
      exact this
    obtain ⟨hN, hhN⟩ : ∃ hN : Nat, Int.tmod (IntKind.wrap .i64 (p1.toNat : Int)) ((ks.length : Nat) : Int) = (hN : Int) ∧ hN < ks.length := by
      have := p1.toNat_lt
      rw [wi64_id (by omega) (by omega), Int.tmod_eq_emod_of_nonneg (by omega)]
      refine ⟨p1.toNat % ks.length, by omega, Nat.mod_lt _ (by omega)⟩
    obtain ⟨hN1, hN2⟩ := hhN
    have eand : bitsI .and .u8 (p2.toNat : Int) (3 : Int) = ((p2.toNat % 4 : Nat) : Int) := and3 p2
    refine ⟨_, r14.len, nzK_intro (by omega) ?_⟩
    rw [hN1, eand]
    refine nm fun w38 e38 => ?_
    obtain ⟨b38, g38', s38⟩ := alE e38
    have g38 := g14.then g38'
    have u38 := u14.grow g38'
    have t38 := t14.grow g38'
    obtain ⟨y, hy1, hy2, hy3, hy4, hy5⟩ := lit4 p2
    have hlit : ∃ a, sliceAt (.slice (some ⟨w14.heap.size, 0, none⟩) 4 4) ((p2.toNat % 4 : Nat) : Int) 1 = some a ∧ w38.cell? a = some (.int .i64 y) := by
      have h4 : p2.toNat % 4 < 4 := Nat.mod_lt _ (by omega)
      refine ⟨_, rv_at h4, ?_⟩
      rw [b38.at, ← hy1]
      have : p2.toNat % 4 = 0 ∨ p2.toNat % 4 = 1 ∨ p2.toNat % 4 = 2 ∨ p2.toNat % 4 = 3 := by omega
      rcases this with h | h | h | h <;> rw [h] <;> rfl
    obtain ⟨a39, ha39, hc39⟩ := hlit
    refine ⟨a39, ha39, _, hc39, ?_⟩
    obtain ⟨a41, ha41, hc41⟩ := rk_at (hr.grow g38) (i := (hN : Int)) rfl hN2
    refine ⟨a41, ha41, _, hc41, ?_⟩
    have hB : ∀ x, FU t g1 g2 x → W.heap.size ≤ x := fun x hx => by rcases hx with rfl | rfl | rfl <;> omega
    have hfy : Fits .i64 y := Lst.fitsI (by omega) (by omega)
    -- Reserve at the unit
    refine Do_c (c := ⟨12, 0, 0, ks.getD hN 0, 0, y, false, []⟩) u38 (i := hN) (by omega) ⟨Nat.zero_le _, Nat.zero_le _, hfy, by simp, fun e => (by cases e)⟩ (Rd.nil _) fun v43 w44 st44 u44 rp44 => ?_
    obtain ⟨dv44, rfl, _, _⟩ := rp44
    have hdo : (doU ⟨2, D, M, tbK ks ks.length⟩ hN ⟨12, 0, 0, ks.getD hN 0, 0, y, false, []⟩).2 = ⟨2, D, M, tbH ks hN y⟩ := by
      unfold doU actU
      rw [if_pos (by simp [allowsB, tbK]), if_neg (show ¬ (12 : Int) = 11 by decide), if_pos rfl]
      dsimp only
      rw [tbK_res h8 hzz hN2 hy2]
    rw [hdo] at u44
    have g44 : Grow W w44 := g38.trans (st44.to_below g38.size hB)
    obtain ⟨a50, ha50, hc50⟩ := rk_at (hr.grow g44) (i := (hN : Int)) rfl hN2
    refine ⟨_, _, _, _, _, rfl, a50, ha50, _, hc50, ?_⟩
    have t44 : TAt w44 t2 (tbK ks ks.length) := ⟨t38.b.stepS st44 (fun hx => by rcases hx with e | e | e <;> omega), t38.len⟩
    refine Reserve_c t44 (by omega) fun w53 st53 t53 => ⟨_, _, _, _, _, rfl, ?_⟩
    rw [tbK_res h8 hzz hN2 hy2] at t53
    dsimp only at t53
    have g53 : Grow W w53 := g44.trans (st53.to_below g44.size (fun x hx => by subst hx; omega))
    have u53 := u44.stepS st53 (by omega) (by omega) (by omega) (by omega) (by omega)
    have hal : ∀ kd : Int, allowsB (tbH ks hN y) hN kd = true := fun kd => by simp [allowsB, tbH]
    have hsk : someK (tbH ks hN y).keys = ks := someK_tb hzz _
    -- ReadKeys
    refine Do_c (c := ⟨16, 0, 0, 0, 0, 0, false, []⟩) u53 (i := hN) (by omega) ⟨Nat.zero_le _, Nat.zero_le _, (by show Fits .i64 (0 : Int); decide), by simp, fun e => (by cases e)⟩ (Rd.nil _) fun v59 w60 st60 u60 rp60 => ?_
    have hdo1 : doU ⟨2, D, M, tbH ks hN y⟩ hN ⟨16, 0, 0, 0, 0, 0, false, []⟩ = (goodR (Lst.keysB (ks.length : Int) ks), ⟨2, D, M, tbH ks hN y⟩) := by
      unfold doU actU
      rw [if_pos (hal _), if_neg (by decide), if_neg (by decide), if_pos rfl]
      dsimp only
      rw [hsk]; rfl
    rw [hdo1] at u60 rp60
    obtain ⟨d60, rfl, r60, n60⟩ := rp60
    have g60 : Grow W w60 := g53.trans (st60.to_below g53.size hB)
    have t60 : TAt w60 t2 (tbH ks hN y) := ⟨t53.b.stepS st60 (fun hx => by rcases hx with e | e | e <;> omega), t53.len⟩
    refine ⟨_, _, _, _, _, rfl, nm fun w66 e66 => ?_⟩
    obtain ⟨b66, g66, s66⟩ := alE e66
    refine ⟨b66.row rfl (one_rep (Rd.isOne r60)), nm fun w67 e67 => ?_⟩
    obtain ⟨b67, t67'⟩ := rowE b66 e67 rfl
    have g67' : Grow w60 w67 := Below.turn g66 t67' (Nat.le_refl _)
    have u67 := u60.grow g67'
    have t67 := t60.grow g67'
    have g67 := g60.then g67'
    have r67 := r60.grow g67'
    obtain ⟨lu60, lb60, lt60, lg160, lg260⟩ := u60.lts
    -- ReadResv
    refine Do_c (c := ⟨17, 0, 0, 0, 0, 0, false, []⟩) u67 (i := hN) (by omega) ⟨Nat.zero_le _, Nat.zero_le _, (by show Fits .i64 (0 : Int); decide), by simp, fun e => (by cases e)⟩ (Rd.nil _) fun v68 w69 st69 u69 rp69 => ?_
    have hko : keyOf (tbH ks hN y) (tbH ks hN y).hd = ks.getD hN 0 := by
      show (if 0 ≤ (hN : Int) ∧ (hN : Int) < 8 then (tbH ks hN y).keys.getD (hN : Int).toNat 0 else 0) = _
      rw [if_pos (by omega), Int.toNat_natCast, tbH_key hN2]
    have hdo2 : doU ⟨2, D, M, tbH ks hN y⟩ hN ⟨17, 0, 0, 0, 0, 0, false, []⟩ = (goodR (Lst.holdB (ks.length : Int) (ks.getD hN 0) y), ⟨2, D, M, tbH ks hN y⟩) := by
      unfold doU actU
      rw [if_pos (hal _), if_neg (by decide), if_neg (by decide), if_neg (by decide), if_pos rfl]
      dsimp only
      rw [hko]; rfl
    rw [hdo2] at u69 rp69
    obtain ⟨d69, rfl, r69, n69⟩ := rp69
    have r69 : RdB w69 d69 (Lst.holdB (ks.length : Int) (ks.getD hN 0) y) := r69
    have g69 : Grow W w69 := g67.trans (st69.to_below g67.size hB)
    have t69 : TAt w69 t2 (tbH ks hN y) := ⟨t67.b.stepS st69 (fun hx => by rcases hx with e | e | e <;> omega), t67.len⟩
    have b69 := b67.stepS st69 (fun hx => by rcases hx with e | e | e <;> omega)
    have rk69 : RdB w69 d60 (Lst.keysB (ks.length : Int) ks) := by
      refine Rd.stepS r67 st69 (fun hne q hq hF => ?_)
      have h1 := n60 q hq
      obtain ⟨_, _, l3, l4, l5⟩ := u53.lts
      rcases hF with e | e | e <;> omega
    refine ⟨_, _, _, _, _, rfl, nm fun w75 e75 => ?_⟩
    obtain ⟨b75, g75, s75⟩ := alE e75
    refine ⟨b75.row rfl (one_rep (Rd.isOne r69)), nm fun w76 e76 => ?_⟩
    obtain ⟨b76, t76'⟩ := rowE b75 e76 rfl
    have g76' : Grow w69 w76 := Below.turn g75 t76' (Nat.le_refl _)
    have bk76 := b69.grow g76'
    have g76 := g69.then g76'
    have hgn : 0 ≤ ((ks.length : Nat) : Int) ∧ ((ks.length : Nat) : Int) < 4294967296 := by omega
    have hmem : ks.getD hN 0 ∈ ks := key_mem (T := ⟨ks, 0, 0, 0⟩) hN2
    obtain ⟨ok1, ok2, ok3⟩ := Lst.keysB_ok (g := ((ks.length : Nat) : Int)) (l := ks) hgn hf
    obtain ⟨oh1, oh2, oh3, oh4⟩ := Lst.holdB_ok (g := ((ks.length : Nat) : Int)) (k := ks.getD hN 0) (t := y) hgn (hf _ hmem)
    have hcut : Lst.cutK ks = ks := List.take_of_length_le (by omega)
    have hkl : (Lst.keysB ((ks.length : Nat) : Int) ks).length ≤ 136 := by rw [Lst.keysB_length]; omega
    refine ⟨d60, by rw [bk76.cell]; rfl, Lst.ParseKeys_c (rk69.grow g76') (by omega) fun v81 w79 g79 r81 => ⟨_, _, _, rfl, ?_⟩⟩
    rw [ok1, ok2]
    rw [ok3, hcut] at r81
    have b79 := b76.grow g79
    refine ⟨d69, by rw [b79.cell]; rfl, Lst.ParseHolder_c (r69.grow (g76'.then g79)) fun w85 g85 => ⟨_, _, _, _, rfl, ?_⟩⟩
    rw [oh1, oh2, oh3, oh4, hy3, if_neg (by omega)]
    have gg85 := g79.then g85
    have bk85 := bk76.grow gg85
    have t85 := (t69.grow g76').grow gg85
    have g85W := g76.then gg85
    have r85 := r81.grow g85
    refine JoinP.bool (fun q w' => q = false ∧ Grow w85 w') (fun j hj => ?_) ?_
    · refine nm fun w121 e121 => cond_f rfl ⟨_, r85.len, _, hr.len, cond_f (by simp) (nm fun w126 e126 => ?_)⟩
      have gd := drE e126
      have bk126 := bk85.grow gd
      refine Generation_c (t85.grow gd) ⟨_, rfl, cond_f (by show (((ks.length : Nat) : Int) != ((ks.length : Nat) : Int)) = false; simp) (cond_f (by simp) ?_)⟩
      obtain ⟨a130, ha130, hc130⟩ := rk_at (hr.grow (g85W.then gd)) (i := (hN : Int)) rfl hN2
      refine ⟨a130, ha130, _, hc130, cond_f (by simp) (cond_f (by simp) ⟨d60, by rw [bk126.cell]; rfl, _, RdB.len rk69, cdbIn16_c fun w135 g135 => ⟨_, rfl, ⟨d60, by rw [(bk126.grow g135).cell]; rfl, rfl⟩, hj _ _ ⟨?_, gd.then g135⟩⟩⟩)⟩
      · rw [decide_eq_false_iff_not]; omega
    · rintro q w91 ⟨rfl, g91⟩
      refine cond_f rfl ?_
      have hok := tbH_ok (y := y) h8 hzz hf hN2 hy2
      refine tEncode_c (t85.grow g91) hok fun v92 w93 g93 r92 => tDecode_c hok r92 fun t5 w95 g95 _ t95 => ⟨_, _, rfl, ?_⟩
      have gg := ((g85W.then g91).then g93).then g95
      have r95 := ((r85.grow g91).grow g93).grow g95
      have hr95 := hr.grow gg
      refine ⟨fun (n : Int) (w' : World) => ∃ i : Nat, n = (i : Int) ∧ i ≤ ks.length ∧ Grow w95 w', fun (n : Int) (_ : World) => ((ks.length : Int) - n).toNat, ⟨0, rfl, by omega, Grow.refl _⟩, ?_⟩
      dsimp only [allR, mapR2, eqN, ltN]
      rintro m n w100 ⟨⟨i, rfl, hi, g100⟩, hm⟩
      refine ⟨_, (r95.grow g100).len, cond_intro (fun hc => ?_) (fun hc => ⟨rfl, gg.then g100⟩)⟩
      have hlt : i < ks.length := by simpa using hc
      refine JoinP.bool (fun q w' => q = false ∧ Grow w95 w') (fun j hj => ?_) ?_
      · refine nm fun w105 e105 => ?_
        have gd := drE e105
        obtain ⟨a106, ha106, hc106⟩ := rk_at (r95.grow (g100.then gd)) (i := (i : Int)) rfl hlt
        obtain ⟨a108, ha108, hc108⟩ := rk_at (hr95.grow (g100.then gd)) (i := (i : Int)) rfl hlt
        refine ⟨a106, ha106, _, hc106, a108, ha108, _, hc108, cond_f (by simp) (cond_f rfl ⟨a108, ha108, _, hc108, nm fun w114 e114 => ?_⟩)⟩
        have gd4 := drE e114
        obtain ⟨a109, ha109, hc109⟩ := rk_at (hr95.grow (g100.then gd4)) (i := (i : Int)) rfl hlt
        rw [ha108] at ha109
        cases ha109
        refine Key_c ((t95.grow g100).grow gd4) (by omega) ⟨_, rfl, ⟨_, hc109, rfl⟩, hj _ _ ⟨?_, g100.then gd4⟩⟩
        rw [tbH_key hlt]; simp
      · rintro q w103 ⟨rfl, g103⟩
        refine cond_f rfl ?_
        rw [wi64_id (by omega) (by omega)]
        exact ⟨⟨i + 1, by omega, by omega, g103⟩, by omega⟩

theorem of_u8 {n : Int} (h : Fits .u8 n) : ∃ c : UInt8, n = (c.toNat : Int) := by
  have h1 := h.u8
  refine ⟨UInt8.ofNat n.toNat, ?_⟩
  have : (UInt8.ofNat n.toNat).toNat = n.toNat % 256 := by simp
  rw [this]; omega

theorem topKeys_s {W : World} (hE : Env W) {v : Value} {ks : List Int} (hf : ∀ k ∈ ks, Fits .u64 k) (hr : Rd W v (ks.map (Value.int .u64))) {a1 a2 : Int} (h1 : Fits .u8 a1) (h2 : Fits .u8 a2) :
    Go.CW.Spec Tryz.prog 5 #[v, .int .u8 a1, .int .u8 a2] W (Law W) := by
  obtain ⟨c1, rfl⟩ := of_u8 h1
  obtain ⟨c2, rfl⟩ := of_u8 h2
  exact topKeys_t hE (Lst.EU_of hr) (fun k hk => by have := (hf k hk).u64; omega)

end Go.Proofs.YtnclgknfccliiaaGreatDoor
