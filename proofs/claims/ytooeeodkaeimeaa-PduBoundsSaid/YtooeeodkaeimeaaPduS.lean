/- The contracts of Same, Of, the reader, known. -/
import Derived.Test.YtooeeodkaeimeaaPduR
import Derived.DeepKeys
set_option linter.unusedVariables false
set_option linter.unusedSimpArgs false
set_option maxRecDepth 100000
namespace Go.Proofs.Ytooeeodkaeimeaa
open Go Go.CW Go.RowKit Go.Crc

abbrev tA : TypeId := 23
abbrev tRd : TypeId := 59

/-! ### arrays are compared -/
theorem lits_u8 (c : UInt8) : Try.prog.keyLits 1 tb [b8 c] = some [.int .u8 (bn c)] := by
  have hu : Try.prog.underlying tb = some (.int .u8) := by kernel_rfl
  have hc := c.toNat_lt
  have hw : (Lit.int .u8 (bn c)).wf = true := by
    have h : Fits .u8 (bn c) := ⟨by simp [IntKind.min, IntKind.bits, IntKind.signed, bn], by simp [IntKind.max, IntKind.bits, IntKind.signed, bn]; omega⟩
    simpa [Lit.wf, Fits] using h
  unfold Program.keyLits
  simp only [hu, b8]
  rw [if_pos ⟨trivial, hw⟩]

theorem mapM_range {α : Type} (f : Nat → Option α) : ∀ (L : List α), (∀ i (h : i < L.length), f i = some L[i]) → (List.range L.length).mapM f = some L := by
  intro L
  have : ∀ n, n ≤ L.length → (∀ i (h : i < L.length), f i = some L[i]) → (List.range n).mapM f = some (L.take n) := by
    intro n
    induction n with
    | zero => intro _ _; rfl
    | succ n ih =>
      intro hn h
      rw [List.range_succ, List.mapM_append, ih (by omega) h]
      simp only [List.mapM_cons, List.mapM_nil, h n (by omega)]
      rw [List.take_add_one, List.getElem?_eq_getElem (by omega)]
      rfl
  intro h
  rw [this _ (Nat.le_refl _) h, List.take_length]

theorem lits_arr (x : List UInt8) (hx : x.length = 16) : Try.prog.keyLits 2 tA (x.map b8) = some ((x.map fun c => [Lit.int .u8 (bn c)]).flatten) := by
  have hu : Try.prog.underlying tA = some (.array 16 tb) := by kernel_rfl
  have h16 : Try.prog.cellsOf tA = 16 := by kernel_rfl
  have h1 : Try.prog.cellsOf tb = 1 := by kernel_rfl
  unfold Program.keyLits
  simp only [hu]
  rw [if_pos (by rw [h16]; simp [hx]), h1]
  have := mapM_range (fun i => Try.prog.keyLits 1 tb (((x.map b8).drop (i * 1)).take 1)) (x.map fun c => [Lit.int .u8 (bn c)]) (by
    intro i hi
    rw [List.length_map] at hi
    have e : ((x.map b8).drop (i * 1)).take 1 = [b8 x[i]] := by
      rw [Nat.mul_one, List.take_one, List.head?_drop, List.getElem?_map, List.getElem?_eq_getElem hi]; rfl
    simp only [e, lits_u8, List.getElem_map])
  rw [List.length_map, hx] at this
  rw [this]; rfl

theorem lits_inj : ∀ x y : List UInt8, (x.map fun c => [Lit.int .u8 (bn c)]).flatten = (y.map fun c => [Lit.int .u8 (bn c)]).flatten ↔ x = y
  | [], [] => by simp
  | [], _ :: _ => by simp
  | _ :: _, [] => by simp
  | a :: x, b :: y => by
    have ih := lits_inj x y
    simp only [List.map_cons, List.flatten_cons, List.cons_append, List.nil_append, List.cons.injEq, ih, Lit.int.injEq, true_and]
    refine and_congr ?_ Iff.rfl
    unfold bn
    rw [Int.natCast_inj, UInt8.toNat_inj]

theorem arr_eq (w : World) (x y : List UInt8) (hx : x.length = 16) (hy : y.length = 16) :
    ∃ b, Sem.run Try.prog (Go.binOp .eql tA (.agg (x.map b8).toArray) (.agg (y.map b8).toArray)) w = .ok (.bool b) w ∧
      (∀ p q : Operand, Sem.run Try.prog (Go.eqGuard .eql tA p q (.agg (x.map b8).toArray) (.agg (y.map b8).toArray)) w = .ok () w) ∧ (b = true ↔ x = y) := by
  have hu : Try.prog.underlying tA = some (.array 16 tb) := by kernel_rfl
  have h16 : Try.prog.cellsOf tA = 16 := by kernel_rfl
  have hk : Try.prog.keyTypeAt 2 tA = true := by kernel_rfl
  have hm : Try.prog.eqGuardType Try.prog.depth tA = false := by kernel_rfl
  have fo : ∀ z : List UInt8, z.length = 16 → (Value.agg (z.map b8).toArray).formed Try.prog tA = true := by
    intro z hz; simp [Value.formed, hu, h16, hz]
  obtain ⟨r, hr, hiff⟩ := run_equalIn_deep (P := Try.prog) 9998 2 tA hk w 2 2 _ _ _ _ (fo x hx) (fo y hy) (lits_arr x hx) (lits_arr y hy)
  refine ⟨r, ?_, fun p q => run_eqGuard_agg w _ tA p q _ _ hm, by rw [hiff, lits_inj]⟩
  rw [run_eql_struct, hr]
  rfl

theorem _root_.Go.CW.BK.ldAt {w : World} {b : Nat} {cs cs' : Array Value} {e : TypeId} (h : BK w b cs e) {o n : Nat} (hn : cs'.size = n) (h2 : ∀ i, i < n → cs[o + i]? = cs'[i]?) : ldCells w (Addr.add ⟨b, 0, none⟩ o) n cs' :=
  ⟨hn, fun i hi => by rw [add_add, h.cell, h2 i hi]⟩

abbrev aP (p : Pd) : Array Value := #[.int .u8 (bn p.c0), .int .u8 (bn p.c1), .int .u8 (bn p.c2), .int .u8 (bn p.c3), .int .u8 (bn p.c4), .int .u8 (bn p.c5), .int .u8 (bn p.c6), .int .u8 (bn p.c7), .int .u8 (bn p.c8), .int .u8 (bn p.c9), .int .u8 (bn p.c10), .int .u8 (bn p.c11), .int .u8 (bn p.c12), .int .u8 (bn p.c13), .int .u8 (bn p.c14), .int .u8 (bn p.c15)]

theorem aP_at (p : Pd) (d : Value) (i : Nat) (hi : i < 16) : (rP p d)[10 + i]? = (aP p)[i]? := by
  have : i = 0 ∨ i = 1 ∨ i = 2 ∨ i = 3 ∨ i = 4 ∨ i = 5 ∨ i = 6 ∨ i = 7 ∨ i = 8 ∨ i = 9 ∨ i = 10 ∨ i = 11 ∨ i = 12 ∨ i = 13 ∨ i = 14 ∨ i = 15 := by omega
  rcases this with rfl | rfl | rfl | rfl | rfl | rfl | rfl | rfl | rfl | rfl | rfl | rfl | rfl | rfl | rfl | rfl <;> rfl

theorem Pd.cdb_inj {p q : Pd} (h : p.cdb = q.cdb) : p.c0 = q.c0 ∧ p.c1 = q.c1 ∧ p.c2 = q.c2 ∧ p.c3 = q.c3 ∧ p.c4 = q.c4 ∧ p.c5 = q.c5 ∧ p.c6 = q.c6 ∧ p.c7 = q.c7 ∧ p.c8 = q.c8 ∧ p.c9 = q.c9 ∧ p.c10 = q.c10 ∧ p.c11 = q.c11 ∧ p.c12 = q.c12 ∧ p.c13 = q.c13 ∧ p.c14 = q.c14 ∧ p.c15 = q.c15 := by
  simpa [Pd.cdb] using h

theorem Same_c {w : World} {p q : Pd} {dv ev : Value} {ds es : List UInt8} {R : KV} (hd : RdB w dv ds) (he : RdB w ev es) (k : ∀ b w', Grow w w' → (b = true ↔ p = q ∧ ds = es) → R (.bool b) w') : Go.CW.Spec Try.prog 8 #[vP p dv, vP q ev] w R := by
  apply gemellaw7_Same_wp
  refine nm fun w0 e0 => ?_
  obtain ⟨b0, g0, _⟩ := alE e0
  clear e0
  refine nm fun w1 e1 => ?_
  obtain ⟨b1, g1, _⟩ := alE e1
  clear e1
  have a0 := b0.grow g1
  have gg := g0.then g1
  refine JoinP.bool (fun b ww => ww = w1 ∧ (b = true ↔ p = q ∧ ds = es)) (fun j hj => ?_) (by rintro b ww ⟨rfl, h⟩; exact k _ _ gg h)
  have no : ¬ (p = q ∧ ds = es) → j false w1 := fun h => hj _ _ ⟨rfl, by simp [h]⟩
  refine ⟨_, a0.cell 0, _, b1.cell 0, cond_intro (fun f0 => ?_) (fun e => no (fun h => by rw [h.1] at e; simp at e))⟩
  refine ⟨_, a0.cell 1, _, b1.cell 1, cond_intro (fun f1 => ?_) (fun e => no (fun h => by rw [h.1] at e; simp at e))⟩
  refine ⟨_, a0.cell 2, _, b1.cell 2, cond_intro (fun f2 => ?_) (fun e => no (fun h => by rw [h.1] at e; simp at e))⟩
  refine ⟨_, a0.cell 3, _, b1.cell 3, cond_intro (fun f3 => ?_) (fun e => no (fun h => by rw [h.1] at e; simp at e))⟩
  refine ⟨_, a0.cell 4, _, b1.cell 4, cond_intro (fun f4 => ?_) (fun e => no (fun h => by rw [h.1] at e; simp at e))⟩
  refine ⟨_, a0.cell 5, _, b1.cell 5, cond_intro (fun f5 => ?_) (fun e => no (fun h => by rw [h.1] at e; simp at e))⟩
  refine ⟨_, a0.cell 6, _, b1.cell 6, cond_intro (fun f6 => ?_) (fun e => no (fun h => by rw [h.1] at e; simp at e))⟩
  refine ⟨_, a0.cell 7, _, b1.cell 7, cond_intro (fun f7 => ?_) (fun e => no (fun h => by rw [h.1] at e; simp at e))⟩
  refine ⟨_, a0.cell 8, _, b1.cell 8, cond_intro (fun f8 => ?_) (fun e => no (fun h => by rw [h.1] at e; simp at e))⟩
  refine ⟨_, a0.cell 9, _, b1.cell 9, cond_intro (fun f9 => ?_) (fun e => no (fun h => by rw [h.1] at e; simp at e))⟩
  have l0 : ldCells w1 (Addr.add ⟨w.heap.size, 0, none⟩ 10) 16 (aP p) := a0.ldAt rfl (aP_at p dv)
  have l1 : ldCells w1 (Addr.add ⟨w0.heap.size, 0, none⟩ 10) 16 (aP q) := b1.ldAt rfl (aP_at q ev)
  obtain ⟨r, hr, hg, hiff⟩ := arr_eq w1 p.cdb q.cdb rfl rfl
  refine ⟨_, _, _, _, _, _, _, _, _, _, _, _, _, _, _, _, l0, _, _, _, _, _, _, _, _, _, _, _, _, _, _, _, _, l1, r, hr, hg, cond_intro (fun f10 => ?_) (fun e => no (fun h => by rw [h.1] at hiff; rw [e] at hiff; simp at hiff))⟩
  have hc := Pd.cdb_inj (hiff.1 f10)
  refine ⟨_, a0.cell 26, _, to_text (hd.grow gg), _, b1.cell 26, _, to_text (he.grow gg), hj _ _ ⟨rfl, ?_⟩⟩
  rw [text_beq, decide_eq_true_eq]
  refine ⟨fun h => ⟨?_, h⟩, fun h => h.2⟩
  simp only [beq_iff_eq] at f0 f1 f2 f3 f4 f5 f6 f7 f8 f9
  obtain ⟨d0, d1, d2, d3, d4, d5, d6, d7, d8, d9, d10, d11, d12, d13, d14, d15⟩ := hc
  cases p; cases q
  simp only at *
  simp only [*]

theorem Of_c {w : World} {p : Pd} {dv : Value} {R : KV} (hd : isOne dv = true) (k : ∀ w', Grow w w' → R (vP p dv) w') : Go.CW.Spec Try.prog 9 #[vP p dv] w R := by
  apply gemellaw7_Of_wp
  refine nm fun w0 e0 => ?_
  obtain ⟨b0, g0, _⟩ := alE e0
  clear e0
  refine nm fun w1 e1 => ?_
  obtain ⟨b1, g1, _⟩ := alE e1
  clear e1
  have a0 := b0.grow g1
  have gg := g0.then g1
  have l0 : ldCells w1 (Addr.add ⟨w.heap.size, 0, none⟩ 10) 16 (aP p) := a0.ldAt rfl (aP_at p dv)
  have one : oneL (rP p dv).toList = true := one_rP hd
  refine ⟨_, a0.cell 0, _, a0.cell 1, _, a0.cell 2, _, a0.cell 3, _, a0.cell 4, _, a0.cell 5, _, a0.cell 6, _, a0.cell 7, _, a0.cell 8, _, a0.cell 9, _, _, _, _, _, _, _, _, _, _, _, _, _, _, _, _, l0, _, a0.cell 26, oneK_of hd ⟨b1.row rfl one, nm fun w29 e29 => ?_⟩⟩
  obtain ⟨b29, t29⟩ := rowE b1 e29 rfl
  exact ⟨_, _, _, _, _, _, _, _, _, _, _, _, _, _, _, _, _, _, _, _, _, _, _, _, _, _, _, b29.ld rfl, k _ (Below.turn gg t29 g0.size)⟩

/-! ### the reader -/
/-- a reader at g, from block B on, that holds bs and the fault e -/
structure Rdr (w : World) (B g : Nat) (v : Value) (bs : List UInt8) (e : Int) : Prop where
  b : BK w g #[v, .int .i64 e] tRd
  own : OwnB w B tb v bs
  le : B ≤ g

theorem own_ne {w : World} {B g : Nat} {e e' : TypeId} {v : Value} {xs : List Value} {cs : Array Value} (h : Own w B e v xs) (b : BK w g cs e') (hne : e ≠ e') : v.ownBlock ≠ some g := by
  rcases h.2 with ⟨rfl, _⟩ | ⟨g', cap, cur, rfl, _, hg, _⟩
  · intro e; cases e
  · intro e
    have : g' = g := by simpa [Value.ownBlock] using e
    subst this
    unfold BK at b
    rw [hg] at b
    injection b with b
    injection b with _ b
    exact hne b

theorem Rdr.ne {w : World} {B g : Nat} {v : Value} {bs : List UInt8} {e : Int} (h : Rdr w B g v bs e) : v.ownBlock ≠ some g := own_ne h.own h.b (by decide)

theorem Rdr.grow {w w' : World} {B g : Nat} {v : Value} {bs : List UInt8} {e : Int} (h : Rdr w B g v bs e) (k : Grow w w') : Rdr w' B g v bs e := ⟨h.b.grow k, h.own.grow k, h.le⟩

theorem NewReader_c {w : World} {R : KV} (k : ∀ w', Grow w w' → Rdr w' w.heap.size w.heap.size (.slice none 0 0) [] 0 → R (.pointer (some ⟨w.heap.size, 0, none⟩)) w') : Go.CW.Spec Try.prog 13 #[] w R := by
  apply pdu_NewReader_wp
  refine nm fun w0 e0 => ?_
  obtain ⟨b0, g0, _⟩ := alE e0
  exact k _ g0 ⟨b0, Own.nil _ _ _, Nat.le_refl _⟩

theorem Put_c {w : World} {B g : Nat} {v src : Value} {bs cs : List UInt8} {R : KV} (h : Rdr w B g v bs 0) (hr : RdB w src cs) (hb : bs.length + cs.length ≤ 1000000000000)
    (k : ∀ v' w', Below B w w' → Rdr w' B g v' (bs ++ cs) 0 → R (.tuple #[]) w') : Go.CW.Spec Try.prog 14 #[.pointer (some ⟨g, 0, none⟩), src] w R := by
  apply pdu_Reader_Put_m_wp
  have hB : B ≤ w.heap.size := Nat.le_trans h.le (Nat.le_of_lt h.b.lt)
  refine withAddr_some ⟨_, h.b.cell 1, cond_t rfl (withAddr_some ⟨_, h.b.cell 0, ?_⟩)⟩
  obtain ⟨v', w', k1, k2, k3⟩ := app_bytes h.own hr hB (by omega)
  have hbl : ∀ q, v.ownBlock = some q → B ≤ q := h.own.blk
  have g1 : Below B w w' := k3.below hB hbl
  have bk : BK w' g #[v, .int .i64 0] tRd := (k3.by_.block g h.b.lt (fun e => h.ne e.symm)).trans h.b
  refine ⟨v', w', k1, withAddr_some (oneK_of (Rd.isOne k2.rd) ⟨st1_at bk (by show 0 < 2; omega), nm fun w7 e7 => ?_⟩)⟩
  obtain ⟨b7, t7⟩ := setE bk e7
  have hne : v'.ownBlock ≠ some g := own_ne k2 bk (by decide)
  exact k v' w7 (Below.turn g1 t7 h.le) ⟨b7, k2.turn t7 hne, h.le⟩

theorem Put_s {w : World} {B g : Nat} {v src : Value} {bs cs : List UInt8} {e : Int} {R : KV} (h : Rdr w B g v bs e) (he : e ≠ 0) (k : R (.tuple #[]) w) : Go.CW.Spec Try.prog 14 #[.pointer (some ⟨g, 0, none⟩), src] w R := by
  apply pdu_Reader_Put_m_wp
  exact withAddr_some ⟨_, h.b.cell 1, cond_f (by simpa using he) k⟩

theorem Err_c {w : World} {B g : Nat} {v : Value} {bs : List UInt8} {e : Int} {R : KV} (h : Rdr w B g v bs e) (k : R (.int .i64 e) w) : Go.CW.Spec Try.prog 16 #[.pointer (some ⟨g, 0, none⟩)] w R := by
  apply pdu_Reader_Err_m_wp
  exact withAddr_some ⟨_, h.b.cell 1, k⟩

/-- what is left when a PDU was asked for -/
def nxB (bs : List UInt8) : List UInt8 := if decE bs = 0 then bs.drop (decN bs).toNat else if decE bs = 3 then bs else []
def nxE (bs : List UInt8) : Int := if decE bs = 0 ∨ decE bs = 3 then 0 else decE bs

theorem decN_le {bs : List UInt8} (h : decE bs = 0) : 52 ≤ decN bs ∧ decN bs ≤ bs.length := by
  unfold decE at h
  split at h
  · next h2 => exact absurd h h2
  · next h2 =>
    have := dn_le (Decidable.not_not.1 h2)
    split at h
    · next h3 => unfold decN; rw [if_pos h3]; omega
    · next h3 =>
      split at h
      · cases h
      · unfold decN; rw [if_neg h3]; omega

theorem Next_c {w : World} {B g : Nat} {v : Value} {bs : List UInt8} {R : KV} (h : Rdr w B g v bs 0) (hb : bs.length ≤ 1000000000000)
    (k : ∀ v' dv w', Below B w w' → Rdr w' B g v' (nxB bs) (nxE bs) → RdB w' dv (decDs bs) → NewV w dv → R (.tuple #[vP (if decE bs = 0 then pdOf bs else zP) dv, .bool (decide (decE bs = 0))]) w') : Go.CW.Spec Try.prog 15 #[.pointer (some ⟨g, 0, none⟩)] w R := by
  have hB : B ≤ w.heap.size := Nat.le_trans h.le (Nat.le_of_lt h.b.lt)
  apply pdu_Reader_Next_m_wp
  refine nm fun w0 e0 => ?_
  obtain ⟨b0, g0, s0⟩ := alE e0
  clear e0
  have h0 := h.grow g0
  refine withAddr_some ⟨_, h0.b.cell 1, cond_f (by rfl) (withAddr_some ⟨_, h0.b.cell 0, ?_⟩)⟩
  refine Decode_c h0.own.rd hb fun dv w34 g34 r34 n34 => ⟨_, _, _, _, _, _, _, _, _, _, _, _, _, _, _, _, _, _, _, _, _, _, _, _, _, _, _, _, _, rfl, nm fun w64 e64 => ?_⟩
  obtain ⟨b64, g64, s64⟩ := alE e64
  clear e64
  have d1' := Rd.isOne r34
  refine ⟨b64.row rfl (one_rP d1'), nm fun w65 e65 => ?_⟩
  obtain ⟨b65, t65⟩ := rowE b64 e65 rfl
  clear e65
  have hs34 : w.heap.size < w34.heap.size := Nat.lt_of_lt_of_le b0.lt g34.size
  have gA : Grow w w65 := Below.turn (g0.then (g34.then g64)) t65 (by omega)
  have h65 := h.grow gA
  have b0' := ((b0.grow g34).grow g64).turn t65 (by omega)
  have g6534 : Grow w34 w65 := Below.turn g64 t65 (Nat.le_refl _)
  have gB : Below B w w65 := gA.mono hB
  have nil1 : isOne (.slice none 0 0) = true := rfl
  refine JoinP.unit (fun w66 => ∃ v', Below B w w66 ∧ BK w66 w.heap.size (rP zP (.slice none 0 0)) tP ∧ Rdr w66 B g v' (nxB bs) (nxE bs) ∧ decE bs ≠ 0) (fun j hj => ?_) ?_
  · refine ⟨fun (ww : World) => ww = w65, fun (_ : World) => 0, rfl, ?_⟩
    dsimp only [allR, mapR2, eqN, ltN]
    rintro m ww ⟨rfl, hm⟩
    refine cond_intro (fun h5 => ?_) (fun h5 => ?_)
    · have h5 : decE bs = 0 := by simpa using h5
      obtain ⟨d1, d2⟩ := decN_le h5
      have hr := h65.own.rd
      refine withAddr_some ⟨_, h65.b.cell 0, ?_⟩
      rw [if_pos h5]
      obtain ⟨v100, hs, hr100, _⟩ := Rd.sub hr (lo := some (.int .i64 (decN bs))) (hi := none) (l := (decN bs).toNat) (r := bs.length) (fun cap hc => by rw [bounds_in (by omega) (by simp; omega)]; simp) (by omega) (by simp)
      have r100 : RdB ww v100 (bs.drop (decN bs).toNat) := by
        have e : ((bs.map b8).drop (decN bs).toNat).take (bs.length - (decN bs).toNat) = (bs.drop (decN bs).toNat).map b8 := by rw [List.map_drop, List.take_of_length_le (by simp)]
        rw [e] at hr100; exact hr100
      refine ⟨v100, hs, slices_Clone_c r100 (by simp; omega) fun v101 w102 g102 o102 => ?_⟩
      have h102 := h65.grow g102
      have b102 := b65.grow g102
      have bz102 := b0'.grow g102
      have hsz := b65.lt
      refine withAddr_some (oneK_of (Rd.isOne o102.rd) ⟨st1_at h102.b (by show 0 < 2; omega), nm fun w104 e104 => ?_⟩)
      obtain ⟨b104, t104⟩ := setE h102.b e104
      have hg : g < w.heap.size := h.b.lt
      have bp := b102.turn t104 (by omega)
      have bz := bz102.turn t104 (by omega)
      have ho : OwnB w104 B tb v101 (bs.drop (decN bs).toNat) := (o102.turn t104 (own_ne o102 h102.b (by decide))).mono (Nat.le_trans hB gA.size)
      have gC : Below B w w104 := Below.turn (gB.trans (g102.mono (Nat.le_trans hB gA.size))) t104 h.le
      have rdv : RdB w104 dv (decDs bs) := by
        have := (r34.grow g6534).grow g102
        refine this.kept fun a u ha hv => (cell_of_heap (t104.block a.block fun e => ?_)).trans ha
        have := n34 a.block hv
        have := g0.size
        omega
      refine ⟨_, _, _, _, _, _, _, _, _, _, _, _, _, _, _, _, _, _, _, _, _, _, _, _, _, _, _, bp.ld rfl, bz.row rfl (one_rP d1'), nm fun w132 e132 => ?_⟩
      obtain ⟨b132, t132⟩ := rowE bz e132 rfl
      have ht : v101.ownBlock ≠ some w.heap.size := own_ne ho bz (by decide)
      refine ⟨_, _, _, _, _, _, _, _, _, _, _, _, _, _, _, _, _, _, _, _, _, _, _, _, _, _, _, b132.ld rfl, ?_⟩
      have hn : nxB bs = bs.drop (decN bs).toNat := by unfold nxB; rw [if_pos h5]
      have he : nxE bs = 0 := by unfold nxE; rw [if_pos (.inl h5)]
      have := k v101 dv w132 (Below.turn gC t132 hB) (by rw [hn, he]; exact ⟨b104.turn t132 (by omega), ho.turn t132 ht, h.le⟩) (rdv.kept fun a u ha hv => (cell_of_heap (t132.block a.block fun e => by
        have := n34 a.block hv
        omega)).trans ha) (n34.of g0.size)
      rw [decide_eq_true h5] at this
      exact this
    · have h5 : decE bs ≠ 0 := by simpa using h5
      refine cond_intro (fun h6 => ?_) (fun h6 => ?_)
      · have h6 : decE bs = 3 := by simpa using h6
        have hn : nxB bs = bs := by unfold nxB; rw [if_neg h5, if_pos h6]
        have he : nxE bs = 0 := by unfold nxE; rw [if_pos (.inr h6)]
        exact hj _ ⟨v, gB, b0', by rw [hn, he]; exact h65, h5⟩
      · have h6 : decE bs ≠ 3 := by simpa using h6
        have hn : nxB bs = [] := by unfold nxB; rw [if_neg h5, if_neg h6]
        have he : nxE bs = decE bs := by unfold nxE; rw [if_neg (by omega)]
        have hg : g < w.heap.size := h.b.lt
        refine withAddr_some ⟨st1_at h65.b (by show 1 < 2; omega), nm fun w161 e161 => ?_⟩
        obtain ⟨b161, t161⟩ := setE h65.b e161
        refine withAddr_some ⟨st1_at b161 (by show 0 < 2; omega), nm fun w163 e163 => ?_⟩
        obtain ⟨b163, t163⟩ := setE b161 e163
        exact hj _ ⟨.slice none 0 0, Below.turn (Below.turn gB t161 h.le) t163 h.le, (b0'.turn t161 (by omega)).turn t163 (by omega), by rw [hn, he]; exact ⟨b163, Own.nil _ _ _, h.le⟩, h5⟩
  · rintro w66 ⟨v', gq, bz, hq, h5⟩
    refine ⟨bz.row rfl rfl, nm fun w67 e67 => ?_⟩
    obtain ⟨b67, t67⟩ := rowE bz e67 rfl
    refine ⟨_, _, _, _, _, _, _, _, _, _, _, _, _, _, _, _, _, _, _, _, _, _, _, _, _, _, _, b67.ld rfl, ?_⟩
    have ht : v'.ownBlock ≠ some w.heap.size := own_ne hq.own bz (by decide)
    have hg : g < w.heap.size := h.b.lt
    have hds : decDs bs = [] := by unfold decDs; rw [if_neg h5]
    have := k v' (.slice none 0 0) w67 (Below.turn gq t67 hB) ⟨hq.b.turn t67 (by omega), hq.own.turn t67 ht, h.le⟩ (by rw [hds]; exact Rd.nil _) (fun q hq => by cases hq)
    rw [if_neg h5, decide_eq_false h5] at this
    exact this

end Go.Proofs.Ytooeeodkaeimeaa
