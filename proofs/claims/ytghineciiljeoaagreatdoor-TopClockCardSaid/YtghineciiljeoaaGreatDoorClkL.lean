/- TopClock: a path asks again as its timers say. -/
import Derived.Test.YtghineciiljeoaaGreatDoorClkB
import Derived.Test.YtghineciiljeoaaGreatDoorKnown
set_option linter.unusedVariables false
set_option linter.unusedSimpArgs false
set_option maxRecDepth 100000
namespace Go.Proofs.YtghineciiljeoaaGreatDoor.Clk
open Go Go.CW Go.RowKit Go.Crc

abbrev Ak := UInt8 × UInt8 × UInt8
def EK : Enc Ak := ⟨3, fun x => [.int .u8 (x.1.toNat : Int), .int .u8 (x.2.1.toNat : Int), .int .u8 (x.2.2.toNat : Int)], fun _ => rfl, by omega, fun _ => rfl⟩
theorem ek_at {w : World} {v : Value} {l : List Ak} (h : RdR EK w v l) {i : Int} {n : Nat} (e : i = (n : Int)) (hi : n < l.length) :
    ∃ a, sliceAt v i 3 = some a ∧ w.cell? (Addr.add a 0) = some (.int .u8 ((l[n]).1.toNat : Int)) ∧ w.cell? (Addr.add a 1) = some (.int .u8 ((l[n]).2.1.toNat : Int)) ∧ w.cell? (Addr.add a 2) = some (.int .u8 ((l[n]).2.2.toNat : Int)) := by
  subst e
  obtain ⟨a, h1, h2, _⟩ := h.at (i := (n : Int)) (by omega) (by omega)
  exact ⟨a, h1, h2 0 (by show 0 < 3; omega), h2 1 (by show 1 < 3; omega), h2 2 (by show 2 < 3; omega)⟩

def toC (c : Cm) : Cmd := ⟨c.kind, (c.pos : Int), (c.n : Int), c.key, c.new, c.typ, c.force⟩
theorem plainC_ok (n a b : UInt8) : (1 ≤ (plainC n a b).kind ∧ (plainC n a b).kind ≤ 18) ∧ (plainC n a b).d.length ≤ 16 := by
  unfold plainC
  repeat' split
  all_goals exact ⟨⟨of_decide_eq_true rfl, of_decide_eq_true rfl⟩, by simp⟩

/-! ### three that lie apart -/
def S3 (A B C : Fp) : Fp := fun q => A q ∨ B q ∨ C q
section
variable {A A' B B' C C' : Fp} {w w' : World}
theorem apart_s (st : Step A w w' A') (ap : Apart A B) (hB : InW w B) : Apart A' B := fun q hq hb => (st.fp q hq).elim (fun h => ap q h hb) (fun h => by have := hB q hb; omega)
theorem apart_r (h : Apart A B) : Apart B A := fun q hb ha => h q ha hb
theorem lift1 (st : Step A w w' A') : Step (S3 A B C) w w' (S3 A' B C) := ⟨st.os, st.tape, st.output, st.size, fun q hq hs => st.block q hq (fun h => hs (.inl h)), fun q hq => by
  rcases hq with h | h | h
  · exact (st.fp q h).imp .inl id
  · exact .inl (.inr (.inl h))
  · exact .inl (.inr (.inr h))⟩
theorem lift2 (st : Step B w w' B') : Step (S3 A B C) w w' (S3 A B' C) := ⟨st.os, st.tape, st.output, st.size, fun q hq hs => st.block q hq (fun h => hs (.inr (.inl h))), fun q hq => by
  rcases hq with h | h | h
  · exact .inl (.inl h)
  · exact (st.fp q h).imp (fun x => .inr (.inl x)) id
  · exact .inl (.inr (.inr h))⟩
theorem lift3 (st : Step C w w' C') : Step (S3 A B C) w w' (S3 A B C') := ⟨st.os, st.tape, st.output, st.size, fun q hq hs => st.block q hq (fun h => hs (.inr (.inr h))), fun q hq => by
  rcases hq with h | h | h
  · exact .inl (.inl h)
  · exact .inl (.inr (.inl h))
  · exact (st.fp q h).imp (fun x => .inr (.inr x)) id⟩
end

theorem noB_bk {w : World} {g : Nat} {cs : Array Value} {ty : TypeId} (b : BK w g cs ty) (h : ty ≠ tb) : ∀ cs' fr, w.heap[g]? ≠ some (.cells cs' tb fr) := by
  intro cs' fr e
  unfold BK at b
  rw [b] at e
  injection e with e; injection e with _ e _
  exact h e
theorem noB_row {α : Type} {E : Enc α} {w : World} {B : Nat} {ty : TypeId} {v : Value} {L : List α} (h : OwnR E w B ty v L) (hne : ty ≠ tb) : ∀ q, v.ownBlock = some q → ∀ cs' fr, w.heap[q]? ≠ some (.cells cs' tb fr) := by
  intro q hq cs' fr e
  obtain ⟨cs, fr', e'⟩ := ownR_type h hq
  rw [e'] at e
  injection e with e; injection e with _ e _
  exact hne e
theorem TS.noB {w : World} {t : Nat} {v : Value} {T : List (Int × Int)} {now : Int} (h : TS w t v T now) : NoT tb w (FT t v) := by
  rintro q (rfl | hq)
  · exact noB_bk h.blk (by decide)
  · exact noB_row h.row (by decide) q hq
theorem Pa.noB {w : World} {g gt : Nat} {vl vo vh : Value} {host nx nd now : Int} {L : List Ask} {P : List Pkt} {H : List (Int × Int)} (h : Pa w g gt vl vo vh host nx nd now L P H) : NoT tb w (fpP g gt vl vo vh) := by
  rintro q (rfl | hq | hq | hq)
  · exact noB_bk h.b (by decide)
  · exact noB_row h.l (by decide) q hq
  · exact noB_row h.o (by decide) q hq
  · exact TS.noB h.t q hq

/-- a path, a net, a clock; packets in hand -/
structure CI (W w : World) (g gt x t : Nat) (vl vo vh xv tv qv : Value) (nx nd now tn sent : Int) (L : List Ask) (P Q : List Pkt) (H T : List (Int × Int)) (NL : List NPk) : Prop where
  gw : Grow W w
  big : ∀ q, S3 (fpP g gt vl vo vh) (fpN x xv) (FT t tv) q → W.heap.size ≤ q
  pp : Pa w g gt vl vo vh 1 nx nd now L P H
  nn : Ne w x xv sent NL
  tt : TS w t tv T tn
  a1 : Apart (fpP g gt vl vo vh) (fpN x xv)
  a2 : Apart (fpP g gt vl vo vh) (FT t tv)
  a3 : Apart (fpN x xv) (FT t tv)
  ids : Ids L nx
  la : ∀ a ∈ L, AskOk (S3 (fpP g gt vl vo vh) (fpN x xv) (FT t tv)) w a
  pk : ∀ p ∈ P, PkOk (S3 (fpP g gt vl vo vh) (fpN x xv) (FT t tv)) w p
  qq : RdR EP w qv Q
  qa : ∀ k, qv.ownBlock = some k → ¬ S3 (fpP g gt vl vo vh) (fpN x xv) (FT t tv) k ∧ k < w.heap.size
  qk : ∀ p ∈ Q, PkOk (S3 (fpP g gt vl vo vh) (fpN x xv) (FT t tv)) w p

section
variable {W w w' : World} {g gt x t : Nat} {vl vo vh xv tv qv : Value} {nx nd now tn sent : Int} {L : List Ask} {P Q : List Pkt} {H T : List (Int × Int)} {NL : List NPk}

theorem qa_step {A A' : Fp} {v : Value} (st : Step A w w' A') (h : ∀ k, v.ownBlock = some k → ¬ A k ∧ k < w.heap.size) : ∀ k, v.ownBlock = some k → ¬ A' k ∧ k < w'.heap.size := fun k hk => by
  obtain ⟨h1, h2⟩ := h k hk
  refine ⟨fun ha => ?_, Nat.lt_of_lt_of_le h2 st.size⟩
  rcases st.fp k ha with e | e
  · exact h1 e
  · omega
theorem big_step {A A' : Fp} (st : Step A w w' A') (gw : Grow W w) (h : ∀ k, A k → W.heap.size ≤ k) : ∀ k, A' k → W.heap.size ≤ k := fun k hk => by
  rcases st.fp k hk with e | e
  · exact h k e
  · exact Nat.le_trans gw.size e
theorem new_out {A' B C : Fp} {v : Value} {xs : List Value} (r : RdX A' w' v xs) (n : NewV w v) (hB : InW w B) (hC : InW w C) : RdX (S3 A' B C) w' v xs := ⟨r.1, fun hne q hq hs => by
  have := n q hq
  rcases hs with e | e | e
  · exact r.2 hne q hq e
  · have := hB q e; omega
  · have := hC q e; omega⟩

theorem CI.ts_in (h : CI W w g gt x t vl vo vh xv tv qv nx nd now tn sent L P Q H T NL) : InW w (FT t tv) := fun k hk => h.tt.lt k hk

theorem CI.grow (h : CI W w g gt x t vl vo vh xv tv qv nx nd now tn sent L P Q H T NL) (gr : Grow w w') : CI W w' g gt x t vl vo vh xv tv qv nx nd now tn sent L P Q H T NL :=
  ⟨h.gw.then gr, h.big, h.pp.grow gr, h.nn.grow gr, h.tt.grow gr, h.a1, h.a2, h.a3, h.ids, fun a ha => (h.la a ha).grow gr, fun p hp => (h.pk p hp).grow gr, h.qq.kept fun a u ha hv => (gr.cell (World.block_lt_of_cell? w a ha)).trans ha, fun k hk => ⟨(h.qa k hk).1, Nat.lt_of_lt_of_le (h.qa k hk).2 gr.size⟩, fun p hp => (h.qk p hp).grow gr⟩

/-- the path turned -/
theorem CI.path {vl' vo' vh' : Value} {nx' nd' now' : Int} {L' : List Ask} {P' : List Pkt} {H' : List (Int × Int)} (h : CI W w g gt x t vl vo vh xv tv qv nx nd now tn sent L P Q H T NL)
    (st : Step (fpP g gt vl vo vh) w w' (fpP g gt vl' vo' vh')) (p' : Pa w' g gt vl' vo' vh' 1 nx' nd' now' L' P' H') (ids' : Ids L' nx')
    (la' : ∀ a ∈ L', a ∈ L ∨ (AskOk (fpP g gt vl' vo' vh') w' a ∧ NewV w a.d)) (pk' : ∀ p ∈ P', p ∈ P ∨ (PkOk (fpP g gt vl' vo' vh') w' p ∧ NewV w p.d)) :
    CI W w' g gt x t vl' vo' vh' xv tv qv nx' nd' now' tn sent L' P' Q H' T NL := by
  have l1 := lift1 (B := fpN x xv) (C := FT t tv) st
  refine ⟨h.gw.trans (l1.to_below h.gw.size h.big), big_step l1 h.gw h.big, p', h.nn.stepS st (apart_r h.a1) h.pp.noB, h.tt.stable fun k hk => st.block k (h.tt.lt k hk) (fun e => h.a2 k e hk), apart_s st h.a1 h.nn.isIn, apart_s st h.a2 h.ts_in, h.a3, ids', fun a ha => ?_, fun p hp => ?_, rdrOut h.qq l1 (fun k hk => (h.qa k hk).1), qa_step l1 h.qa, fun p hp => (h.qk p hp).step l1⟩
  · rcases la' a ha with e | ⟨⟨ds, e1, e2⟩, e3⟩
    · exact (h.la a e).step l1
    · exact ⟨ds, new_out e1 e3 h.nn.isIn h.ts_in, e2⟩
  · rcases pk' p hp with e | ⟨⟨e0, bs, e1, e2⟩, e3⟩
    · exact (h.pk p e).step l1
    · exact ⟨e0, bs, new_out e1 e3 h.nn.isIn h.ts_in, e2⟩

/-- the net turned -/
theorem CI.net {xv' : Value} {sent' : Int} {NL' : List NPk} (h : CI W w g gt x t vl vo vh xv tv qv nx nd now tn sent L P Q H T NL)
    (st : Step (fpN x xv) w w' (fpN x xv')) (n' : Ne w' x xv' sent' NL') : CI W w' g gt x t vl vo vh xv' tv qv nx nd now tn sent' L P Q H T NL' := by
  have l2 := lift2 (A := fpP g gt vl vo vh) (C := FT t tv) st
  exact ⟨h.gw.trans (l2.to_below h.gw.size h.big), big_step l2 h.gw h.big, h.pp.stepS st h.a1, n', h.tt.stable fun k hk => st.block k (h.tt.lt k hk) (fun e => h.a3 k e hk), apart_r (apart_s st (apart_r h.a1) h.pp.isIn), h.a2, apart_s st h.a3 h.ts_in, h.ids, fun a ha => (h.la a ha).step l2, fun p hp => (h.pk p hp).step l2, rdrOut h.qq l2 (fun k hk => (h.qa k hk).1), qa_step l2 h.qa, fun p hp => (h.qk p hp).step l2⟩

/-- the clock turned -/
theorem CI.tim {tv' : Value} {tn' : Int} {T' : List (Int × Int)} (h : CI W w g gt x t vl vo vh xv tv qv nx nd now tn sent L P Q H T NL)
    (st : Step (FT t tv) w w' (FT t tv')) (t' : TS w' t tv' T' tn') : CI W w' g gt x t vl vo vh xv tv' qv nx nd now tn' sent L P Q H T' NL := by
  have l3 := lift3 (A := fpP g gt vl vo vh) (B := fpN x xv) st
  exact ⟨h.gw.trans (l3.to_below h.gw.size h.big), big_step l3 h.gw h.big, h.pp.stepS st h.a2, h.nn.stepS st h.a3 h.tt.noB, t', h.a1, apart_r (apart_s st (apart_r h.a2) h.pp.isIn), apart_r (apart_s st (apart_r h.a3) h.nn.isIn), h.ids, fun a ha => (h.la a ha).step l3, fun p hp => (h.pk p hp).step l3, rdrOut h.qq l3 (fun k hk => (h.qa k hk).1), qa_step l3 h.qa, fun p hp => (h.qk p hp).step l3⟩

/-- what was told is in hand -/
theorem CI.out {qv' : Value} (h : CI W w g gt x t vl vo vh xv tv qv nx nd now tn sent L P Q H T NL) (st : Step (fpP g gt vl vo vh) w w' (fpP g gt vl (.slice none 0 0) vh))
    (p' : Pa w' g gt vl (.slice none 0 0) vh 1 nx nd now L [] H) (r : RdR EP w' qv' P) (e : qv'.ownBlock = vo.ownBlock) : CI W w' g gt x t vl (.slice none 0 0) vh xv tv qv' nx nd now tn sent L [] P H T NL := by
  have l1 := lift1 (B := fpN x xv) (C := FT t tv) st
  have c := h.path st p' h.ids (fun a ha => .inl ha) (fun p hp => by cases hp)
  refine ⟨c.gw, c.big, c.pp, c.nn, c.tt, c.a1, c.a2, c.a3, c.ids, c.la, c.pk, r, fun k hk => ?_, fun p hp => (h.pk p hp).step l1⟩
  rw [e] at hk
  have hf : fpP g gt vl vo vh k := .inr (.inr (.inl hk))
  refine ⟨?_, Nat.lt_of_lt_of_le (h.pp.isIn k hf) st.size⟩
  rintro ((rfl | hs | hs | hs) | hs | hs)
  · exact ownR_ne h.pp.o h.pp.b (by decide) hk
  · exact ownR_ne2 h.pp.o h.pp.l (by decide) k hk hs
  · cases hs
  · rcases hs with rfl | hs
    · exact ownR_ne h.pp.o h.pp.t.blk (by decide) hk
    · exact ownR_ne2 h.pp.o h.pp.t.row (by decide) k hk hs
  · exact h.a1 k hf hs
  · exact h.a2 k hf hs
end

theorem initS_H {i : Nat} (hi : i + 1 ≤ 4) {L : List Ask} (hL : L.length = i) {nx : Int} (hnx : nx = (i : Int) + 1) : subH L (initH i) 0 nx = initH (i + 1) := by
  subst hnx
  have hl := init_len (n := i) (by omega)
  unfold subH
  match i, hL with
  | 0, hL =>
    have : L = [] := List.eq_nil_of_length_eq_zero hL
    rw [if_pos this, setG_eq (initH 0) 0 0 8 (by omega) (by omega) (by omega)]
    have e := setF_len (initH 0) 0 0 8
    rw [setG_eq (initH 0) 0 0 8 (by omega) (by omega) (by omega)] at e
    rw [setG_eq _ _ _ _ (by omega) (by omega) (by omega)]
    rfl
  | i + 1, hL =>
    have : L ≠ [] := fun e => by rw [e] at hL; simp at hL
    rw [if_neg this, setG_eq _ _ _ _ (by omega) (by omega) (by omega)]
    rfl

theorem ids_map {L : List Ask} {nx : Int} (h : Ids L nx) : L.map (·.id) = idsN L.length := by
  unfold idsN
  apply List.ext_getElem
  · simp
  · intro i h1 h2
    simp only [List.getElem_map, List.getElem_range]
    exact h.2 i (by simpa using h1)

theorem rdrGrow {α : Type} {E : Enc α} {w w' : World} {v : Value} {L : List α} (r : RdR E w v L) (g : Grow w w') : RdR E w' v L := r.kept fun a u ha hv => (g.cell (World.block_lt_of_cell? w a ha)).trans ha

theorem ep_at {w : World} {v : Value} {l : List Pkt} (h : RdR EP w v l) {n : Nat} (hi : n < l.length) :
    ∃ a, sliceAt v (n : Int) 2 = some a ∧ w.cell? (Addr.add a 0) = some (.int .i64 l[n].to) ∧ w.cell? (Addr.add a 1) = some l[n].d := by
  obtain ⟨a, h1, h2, _⟩ := h.at (i := (n : Int)) (by omega) (by omega)
  exact ⟨a, h1, h2 0 (by show 0 < 2; omega), h2 1 (by show 1 < 2; omega)⟩

abbrev nl : Value := .slice none 0 0

theorem topClock_c {W : World} (hE : Env W) {pv : Value} {l : List Ak} {ticks : Int} (hl : RdR EK W pv l) :
    Go.CW.Spec Tryz.prog 5 #[pv, .int .i64 ticks] W (Law W) := by
  apply gemeltop_TopClock_wp
  refine known_c hE fun w1 gw1 => ⟨_, rfl, cond_f rfl ?_⟩
  refine JoinP.bool (fun q w' => (q = false → (1 ≤ l.length ∧ l.length ≤ 4) ∧ 0 ≤ ticks ∧ ticks ≤ 60) ∧ w' = w1) (fun j hj => ?_) ?_
  · refine ⟨_, hl.len, cond_intro (fun h => hj _ _ ⟨fun e => (by cases e), rfl⟩) (fun h => ⟨_, hl.len, cond_intro (fun h2 => hj _ _ ⟨fun e => (by cases e), rfl⟩) (fun h2 => cond_intro (fun h3 => hj _ _ ⟨fun e => (by cases e), rfl⟩) (fun h3 => hj _ _ ⟨fun e => ?_, rfl⟩))⟩)⟩
    have k1 : ¬ (l.length : Int) = 0 := by simpa using h
    have k2 : ¬ (l.length : Int) > 4 := by simpa using h2
    have k3 : ¬ ticks < 0 := by simpa using h3
    have k4 : ¬ ticks > 60 := by simpa using e
    omega
  rintro q w4 ⟨hq, rfl⟩
  refine cond_intro (fun _ => ⟨rfl, gw1⟩) (fun hq' => ?_)
  obtain ⟨hln, ht⟩ := hq hq'
  clear hq hq'
  refine New_c' (by omega) fun g gt w6 g6 hgt hg p6 => ⟨_, _, rfl, ?_⟩
  refine nNew_c fun w10 g10 n10 => ⟨_, _, rfl, ?_⟩
  refine New_c fun w14 g14 t14 => ⟨_, rfl, ?_⟩
  have z1 := gw1.size
  have z6 := g6.size
  have z10 := g10.size
  have z14 := g14.size
  have hx := n10.b.lt
  have C0 : CI W w14 g gt w6.heap.size w10.heap.size nl nl nl nl nl nl 1 0 0 0 0 [] [] [] [] [] [] := by
    have in6 := p6.isIn
    have ap : ∀ k, fpP g gt nl nl nl k → k < w6.heap.size := fun k hk => in6 k hk
    have bp : ∀ k, fpP g gt nl nl nl k → w4.heap.size ≤ k := by
      rintro k (rfl | hk | hk | rfl | hk)
      · omega
      · cases hk
      · cases hk
      · exact hgt
      · cases hk
    have an : ∀ k, fpN w6.heap.size nl k → k = w6.heap.size := by
      rintro k (rfl | hk)
      · rfl
      · cases hk
    have at_ : ∀ k, FT w10.heap.size nl k → k = w10.heap.size := by
      rintro k (rfl | hk)
      · rfl
      · cases hk
    refine ⟨((gw1.then g6).then g10).then g14, ?_, (p6.grow g10).grow g14, n10.grow g14, t14, ?_, ?_, ?_, ⟨rfl, fun i hi => by simp at hi⟩, fun a ha => (by cases ha), fun p hp => (by cases hp), RdR.nil _, fun k hk => (by cases hk), fun p hp => (by cases hp)⟩
    · rintro k (hk | hk | hk)
      · have := bp k hk; omega
      · have := an k hk; omega
      · have := at_ k hk; omega
    · intro k h1 h2; have := ap k h1; have := an k h2; omega
    · intro k h1 h2; have := ap k h1; have := at_ k h2; omega
    · intro k h1 h2; have := an k h1; have := at_ k h2; omega
  generalize w6.heap.size = x at *
  generalize w10.heap.size = t at *
  clear p6 n10 t14
  refine ⟨fun (i : Int) (w' : World) => ∃ (n : Nat) (vl vo vh : Value) (L : List Ask) (P : List Pkt), i = (n : Int) ∧ n ≤ l.length ∧ L.length = n ∧ P.length = n ∧ CI W w' g gt x t vl vo vh nl nl nl ((n : Int) + 1) 0 0 0 0 L P [] (initH n) [] [],
    fun (i : Int) (_ : World) => ((l.length : Int) - i).toNat, ⟨0, nl, nl, nl, [], [], rfl, by omega, rfl, rfl, C0⟩, ?_⟩
  clear C0
  dsimp only [allR, mapR2, eqN, ltN]
  rintro m i w18 ⟨⟨n, vl, vo, vh, L, P, rfl, hn, hL, hP, C⟩, hm⟩
  refine ⟨_, hl.len, cond_intro (fun hc => ?_) (fun hc => ?_)⟩
  · have hlt : n < l.length := by have : (n : Int) < l.length := by simpa using hc
                                  omega
    refine nm fun w20 e20 => ?_
    obtain ⟨a, ha, h0, h1, h2⟩ := ek_at (rdrGrow hl (C.gw.then (drE e20))) (i := (n : Int)) rfl hlt
    refine ⟨a, ha, _, h0, a, ha, _, h1, a, ha, _, h2, nm fun w27 e27 => plain_c fun dv w29 g29 r29 n29 => ⟨_, _, _, _, _, _, _, _, rfl, ?_⟩⟩
    have C29 := C.grow ((drE e27).then g29)
    have ok := plainC_ok (l[n]).1 (l[n]).2.1 (l[n]).2.2
    have il := init_len (n := n) (by omega)
    refine Submit_c (c := toC (plainC (l[n]).1 (l[n]).2.1 (l[n]).2.2)) C29.pp (by omega) (.inl rfl) C29.ids (by omega) (by omega) (by omega) r29 (by omega) ok.1 fun vl' vo' vh' a' p' w39 st pa ids ak an pk pn => ⟨_, _, rfl, ?_⟩
    rw [initS_H (by omega) hL rfl] at pa
    have C39 := C29.path st pa ids (fun b hb => by
      rcases List.mem_append.1 hb with hb | hb
      · exact .inl hb
      · rw [List.mem_singleton.1 hb]; exact .inr ⟨ak, an⟩) (fun b hb => by
      rcases List.mem_append.1 hb with hb | hb
      · exact .inl hb
      · rw [List.mem_singleton.1 hb]; exact .inr ⟨pk, pn⟩)
    rw [wi64_id (n := (n : Int) + 1) (by omega) (by omega)]
    have e2 : ((n + 1 : Nat) : Int) + 1 = (n : Int) + 1 + 1 := by omega
    refine ⟨⟨n + 1, vl', vo', vh', L ++ [a'], P ++ [p'], by omega, by omega, by simp; omega, by simp; omega, ?_⟩, by omega⟩
    rw [e2]; exact C39
  have hn' : n = l.length := by have : ¬ (n : Int) < l.length := by simpa using hc
                                omega
  subst hn'
  refine Set_c C.tt (by simp) (by decide) (by omega) fun tv' w43 st43 t43 => ⟨_, rfl, ?_⟩
  have eT : (setF [] 0 1 4).2 = [((1 : Int), (4 : Int))] := by rw [setG_eq _ _ _ _ (by omega) (by omega) (by simp)]; rfl
  rw [eT] at t43
  have C43 := C.tim st43 t43
  refine ⟨fun (i : Int) (w' : World) => ∃ (k : Nat) (vl vo vh xv tv qv : Value) (nd sent : Int) (L : List Ask) (P Q : List Pkt) (H T : List (Int × Int)), i = (k : Int) ∧ (k : Int) ≤ ticks + 1 ∧ L.length = l.length ∧ (0 ≤ sent ∧ sent ≤ 50 * k) ∧ clkR (idsN l.length) (61 - k) k ⟨nd, H, P.length, T⟩ = true ∧ CI W w' g gt x t vl vo vh xv tv qv ((l.length : Int) + 1) nd k k sent L P Q H T [],
    fun (i : Int) (_ : World) => (ticks + 1 - i).toNat, ⟨0, vl, vo, vh, nl, tv', nl, 0, 0, L, P, [], initH l.length, [(1, 4)], rfl, by omega, hL, by omega, ?_, C43⟩, ?_⟩
  · rw [hP]; exact clk_ok (n := l.length) hln
  clear C43 t43 st43 C eT
  dsimp only [allR, mapR2, eqN, ltN]
  rintro m2 i w47 ⟨⟨k, vl, vo, vh, xv, tv, qv, nd, sent, L, P, Q, H, T, rfl, hk, hL, hs, hR, C⟩, hm2⟩
  refine cond_intro (fun hc => ?_) (fun hc => ?_)
  · have hkt : (k : Int) ≤ ticks := by simpa using hc
    have e61 : 61 - k = (60 - k) + 1 := by omega
    rw [e61] at hR
    unfold clkR at hR
    rw [Bool.and_eq_true] at hR
    obtain ⟨hO, hR⟩ := hR
    unfold clkO at hO
    simp only [Bool.and_eq_true, Nat.blt_eq, Bool.or_eq_true, decide_eq_true_eq] at hO
    obtain ⟨⟨⟨⟨⟨hH, hT⟩, hT1⟩, hm'⟩, hE0⟩, hnd⟩ := hO
    refine Out_c C.pp fun qv' w49 st49 p49 r49 e49 => ?_
    have C49 := C.out st49 p49 r49 e49
    refine ⟨fun (i : Int) (w' : World) => ∃ (j : Nat) (xv' : Value) (NL : List NPk), i = (j : Int) ∧ j ≤ P.length ∧ NL.length = j ∧ CI W w' g gt x t vl nl vh xv' tv qv' ((l.length : Int) + 1) nd k k (sent + (j : Int)) L [] P H T NL,
      fun (i : Int) (_ : World) => ((P.length : Int) - i).toNat, ⟨0, xv, [], rfl, by omega, rfl, by simpa using C49⟩, ?_⟩
    clear C49 r49 p49 st49
    dsimp only [allR, mapR2, eqN, ltN]
    rintro m3 i w52 ⟨⟨j, xv2, NL, rfl, hj, hNL, C2⟩, hm3⟩
    refine ⟨_, C2.qq.len, cond_intro (fun hc2 => ?_) (fun hc2 => ?_)⟩
    · have hjl : j < P.length := by have : (j : Int) < P.length := by simpa using hc2
                                    omega
      refine nm fun w54 e54 => ?_
      obtain ⟨a, ha, h0, h1⟩ := ep_at (C2.grow (drE e54)).qq hjl
      refine ⟨a, ha, _, h0, a, ha, _, h1, nm fun w59 e59 => ?_⟩
      have C59 := C2.grow (drE e59)
      obtain ⟨hto, bs, rx, lb⟩ := C59.qk P[j] (List.getElem_mem hjl)
      refine Send_cN C59.nn (by omega) (by omega) (by omega) (by omega) rx.1 (by rw [sld_length]; simp; omega) fun xv3 p3 w61 st61 n61 => ⟨_, rfl, cond_f rfl ?_⟩
      have C61 := C59.net st61 n61
      obtain ⟨a', ha', h0', h1'⟩ := ep_at C61.qq hjl
      obtain ⟨_, bs', rx', lb'⟩ := C61.qk P[j] (List.getElem_mem hjl)
      refine ⟨a', ha', _, h1', crc_Open_n rx'.1 (by rw [sld_length]; simp; omega) fun v67 w66 g66 r66 n66 => ⟨_, _, rfl, cond_f ?_ ?_⟩⟩
      · rw [(opE_sld _).1]; rfl
      · have C66 := C61.grow g66
        rw [wi64_id (n := (j : Int) + 1) (by omega) (by omega)]
        have e2 : sent + ((j + 1 : Nat) : Int) = sent + (j : Int) + 1 := by omega
        refine ⟨⟨j + 1, xv3, NL ++ [p3], by omega, by omega, by simp; omega, ?_⟩, by omega⟩
        rw [e2]; exact C66
    have hjP : j = P.length := by have : ¬ (j : Int) < P.length := by simpa using hc2
                                  omega
    refine JoinP.unit (fun w69 => ∃ tv2, CI W w69 g gt x t vl nl vh xv2 tv2 qv' ((l.length : Int) + 1) nd k k (sent + (j : Int)) L [] P H (clkT k ⟨nd, H, P.length, T⟩) NL) (fun jj hjj => ⟨_, C2.qq.len, cond_intro (fun hp => ?_) (fun hp => hjj _ ⟨tv, ?_⟩)⟩) ?_
    · refine Set_c C2.tt (by omega) (by decide) (by omega) fun tv3 w87 st87 t87 => ⟨_, rfl, hjj _ ⟨tv3, ?_⟩⟩
      have hp' : 0 < P.length := by have : (P.length : Int) > 0 := by simpa using hp
                                    omega
      have e5 : clkT k ⟨nd, H, P.length, T⟩ = (setF T k 1 5).2 := by
        unfold clkT
        show (bif Nat.blt 0 P.length then _ else _) = _
        rw [blt_t hp', setG_eq _ _ _ _ (by omega) (by omega) (by omega)]; rfl
      rw [e5]
      exact C2.tim st87 t87
    · have hp' : ¬ 0 < P.length := by have : ¬ (P.length : Int) > 0 := by simpa using hp
                                      omega
      have e5 : clkT k ⟨nd, H, P.length, T⟩ = T := by
        unfold clkT
        show (bif Nat.blt 0 P.length then _ else _) = _
        rw [blt_f hp']; rfl
      rw [e5]; exact C2
    rintro w69 ⟨tv2, C69⟩
    clear C2
    generalize hTk : clkT k ⟨nd, H, P.length, T⟩ = Tk at *
    refine ⟨fun (w' : World) => ∃ (xv' : Value) (NL' : List NPk), CI W w' g gt x t vl nl vh xv' tv2 qv' ((l.length : Int) + 1) nd k k (sent + (j : Int)) L [] P H Tk NL',
      fun (w' : World) => (((w'.cell? (Addr.add ⟨x, 0, none⟩ 1)).bind sliceLen).getD 0), ⟨xv2, NL, C69⟩, ?_⟩
    clear C69
    dsimp only [allR, mapR2, eqN, ltN]
    rintro m4 w71 ⟨⟨xv4, NL4, C4⟩, hm4⟩
    have cx : ∀ {w : World} {xv : Value} {sent : Int} {NL : List NPk}, Ne w x xv sent NL → (((w.cell? (Addr.add ⟨x, 0, none⟩ 1)).bind sliceLen).getD 0) = NL.length := @fun w xv sent NL h => by
      have e : w.cell? (Addr.add ⟨x, 0, none⟩ 1) = some xv := h.b.cell 1
      rw [e, Option.bind_some, h.l.rd.len]; rfl
    rw [cx C4.nn] at hm4
    refine Waiting_cN C4.nn ⟨_, rfl, cond_intro (fun hp => ?_) (fun hp => ?_)⟩
    · match NL4, C4, hm4, hp with
      | [], _, _, hp => simp at hp
      | p5 :: NL5, C4, hm4, _ =>
        refine Drop_cN C4.nn fun xv5 w76 st76 n76 => ⟨_, rfl, ⟨⟨xv5, NL5, C4.net st76 n76⟩, ?_⟩⟩
        rw [cx n76]
        simp at hm4; omega
    have h0 : NL4 = [] := by
      have : ¬ (NL4.length : Int) > 0 := by simpa using hp
      exact List.eq_nil_of_length_eq_zero (by omega)
    subst h0
    refine PTick_c C4.pp (by omega) hnd C4.ids (by omega) (by omega) (fun a ha => by
      obtain ⟨ds, e1, e2⟩ := C4.la a ha
      exact ⟨ds, e1.imp (fun q hq => .inl hq), e2⟩) fun vo6 vh6 P6 w79 st79 p79 l79 k79 => ⟨rfl, ?_⟩
    have C79 := C4.path st79 p79 C4.ids (fun a ha => .inl ha) (fun p hp => .inr (k79 p hp))
    rw [ids_map C4.ids, hL] at C79 l79
    have il : (idsN l.length).length = l.length := by simp [idsN]
    rw [tickG_eq _ _ _ _ _ (by rw [il]; omega)] at C79 l79
    refine Tick_c C79.tt (by omega) (by omega) fun tv7 v80 w81 st81 t81 r81 o81 => ⟨_, r81.len, cond_f ?_ ?_⟩
    · have hp0 := popG_eq Tk.length Tk ((k : Int) + 1) (Nat.le_refl _)
      rw [← hp0]
      have : (popG Tk.length Tk ((k : Int) + 1)).1 = [] := by simpa using hE0
      rw [this]; rfl
    have C81 := C79.tim st81 t81
    rw [wi64_id (n := (k : Int) + 1) (by omega) (by omega)]
    have e2 : ((k + 1 : Nat) : Int) = (k : Int) + 1 := by omega
    have e3 : 61 - (k + 1) = 60 - k := by omega
    refine ⟨⟨k + 1, vl, vo6, vh6, xv4, tv7, qv', _, sent + (j : Int), L, P6, P, _, _, e2.symm, by omega, hL, by omega, ?_, by rw [e2]; exact C81⟩, by omega⟩
    rw [e3, l79]
    have e4 : clkN (idsN l.length) k ⟨nd, H, P.length, T⟩ = ⟨(tickG (idsN l.length) ((k : Int) + 1) nd H 0).1, (tickG (idsN l.length) ((k : Int) + 1) nd H 0).2.1, (tickG (idsN l.length) ((k : Int) + 1) nd H 0).2.2, (popF Tk ((k : Int) + 1)).2⟩ := by
      unfold clkN
      rw [hTk, popG_eq _ _ _ (Nat.le_refl _)]
    rw [e4] at hR
    exact hR
  · refine JoinP.bool (fun b w' => b = true ∧ Grow W w') (fun jj hjj => Waiting_c C.pp (by omega) fun v93 w94 g94 r94 => ⟨_, r94.len, _, hl.len, cond_t (by simp [hL]) (Done_c (C.grow g94).pp fun w98 st98 => ⟨0, rfl, hjj _ _ ⟨rfl, ?_⟩⟩)⟩) ?_
    · exact (C.grow g94).gw.trans (st98.to_below (C.grow g94).gw.size (fun q hq => C.big q (.inl hq)))
    · rintro b w91 ⟨rfl, gg⟩
      exact ⟨rfl, gg⟩

end Go.Proofs.YtghineciiljeoaaGreatDoor.Clk

namespace Go.Proofs.YtghineciiljeoaaGreatDoor
open Go Go.CW
theorem topClock_s {W : World} (hE : Env W) {pv : Value} {l : List Clk.Ak} {ticks : Int} (hl : RdR Clk.EK W pv l) (hf : Fits .i64 ticks) :
    Go.CW.Spec Tryz.prog 5 #[pv, .int .i64 ticks] W (Law W) := Clk.topClock_c hE hl
end Go.Proofs.YtghineciiljeoaaGreatDoor
