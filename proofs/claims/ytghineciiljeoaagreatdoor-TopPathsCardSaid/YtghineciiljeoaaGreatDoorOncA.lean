/- Texts of this seat, one behind the other: OncQ, OncR, PatM. -/
import Derived.Test.YtghineciiljeoaaGreatDoorOncP
section
/- The unit: a command by its number. -/
set_option linter.unusedVariables false
set_option linter.unusedSimpArgs false
set_option maxRecDepth 100000
namespace Go.Proofs.YtghineciiljeoaaGreatDoor
open Go Go.CW Go.RowKit

variable {w w' : World} {u b t g1 g2 : Nat} {G : List (Int × Option Nat)} {U : Un}

abbrev tU6 : TypeId := 38
abbrev tMr : TypeId := 155
theorem undU6 : Tryz.prog.underlying tU6 = some (.int .u64) := by kernel_rfl
theorem undMr : Tryz.prog.underlying tMr = some (.map tU6 tRep) := by kernel_rfl

/-- replies that are kept -/
abbrev Kp := Int → Option (Value × Rp)
def repV (p : Value × Rp) : Value := .agg (rRep p.2.st p.2.key p.2.code p.1 p.2.info)
def doneF (K : Kp) : Int → Option Value := fun x => (K x).map repV
structure Gst (w : World) (B m nn : Nat) (K : Kp) : Prop where
  mp : Mp Tryz.prog tU6 .u64 w m nn (doneF K)
  d : ∀ x p, K x = some p → RdB w p.1 p.2.d ∧ p.2.d.length ≤ 1000000000 ∧ ∀ q, p.1.ownBlock = some q → B ≤ q
/-- what Once may turn -/
abbrev FO (u t g1 g2 : Nat) : Fp := fun k => k = u ∨ k = t ∨ k = g1 ∨ k = g2

theorem flat_set1 : ∀ (G : List (Int × Option Nat)) (i : Nat) (hi : i < G.length) (x : Int), (EG.flat G).set (i * 3 + 1) (.int .u64 x) = EG.flat (G.set i (x, G[i].2))
  | g :: G, 0, _, x => rfl
  | g :: G, i + 1, hi, x => by
    have e : (i + 1) * 3 + 1 = (EG.enc g).length + (i * 3 + 1) := by rw [EG.len]; show (i + 1) * 3 + 1 = 3 + (i * 3 + 1); omega
    rw [Enc.flat_cons, e, List.set_append_right _ _ (by omega), Nat.add_sub_cancel_left, flat_set1 G i (by simpa using hi) x]
    rfl
theorem rU_set1 {i : Nat} (hi : i < G.length) (x : Int) : (rU b t G).setIfInBounds (2 + i * 3 + 1) (.int .u64 x) = rU b t (G.set i (x, G[i].2)) := by
  simp only [rU, List.setIfInBounds_toArray]
  congr 1
  rw [List.set_append_right _ _ (by show 2 ≤ 2 + i * 3 + 1; omega)]
  have e : 2 + i * 3 + 1 - [Value.pointer (some ⟨b, 0, none⟩), Value.pointer (some ⟨t, 0, none⟩)].length = i * 3 + 1 := by show 2 + i * 3 + 1 - 2 = i * 3 + 1; omega
  rw [e, flat_set1 G i hi x]

theorem UAt.gcell (h : UAt w u b t g1 g2 G U) {i j : Nat} (hi : i < 8) (hj : j < 3) : w.cell? (Addr.add (Addr.add (Addr.add ⟨u, 0, none⟩ 2) (Int.toNat (i : Int) * 3)) j) = (EG.enc (G[i]'(by rw [h.gl]; exact hi)))[j]? := by
  rw [add_add, add_add, h.o.cell]
  have hl := h.gl
  simp only [rU, List.getElem?_toArray, Int.toNat_natCast]
  rw [List.getElem?_append_right (by simp <;> omega)]
  have := Enc.flat_at (E := EG) G i (by omega) j hj
  have e : (2 + i * 3 + j) - [Value.pointer (some ⟨b, 0, none⟩), Value.pointer (some ⟨t, 0, none⟩)].length = i * EG.s + j := by
    show 2 + i * 3 + j - 2 = i * 3 + j; omega
  rw [show 2 + (i * 3 + j) = 2 + i * 3 + j by omega, e, this]

/-- the guest's floor and map set -/
theorem UAt.guest (h : UAt w u b t g1 g2 G U) {i : Nat} (hi : i < 8) {x : Int} {m : Nat} {w1 w2 : World}
    (e1 : w1 = World.setCell w (Addr.add (Addr.add (Addr.add ⟨u, 0, none⟩ 2) (Int.toNat (i : Int) * 3)) 1) (.int .u64 x))
    (e2 : w2 = World.setCell w1 (Addr.add (Addr.add (Addr.add ⟨u, 0, none⟩ 2) (Int.toNat (i : Int) * 3)) 2) (.map (some m))) :
    St1 w (Addr.add (Addr.add (Addr.add ⟨u, 0, none⟩ 2) (Int.toNat (i : Int) * 3)) 1) ∧ St1 w1 (Addr.add (Addr.add (Addr.add ⟨u, 0, none⟩ 2) (Int.toNat (i : Int) * 3)) 2) ∧ UAt w2 u b t g1 g2 (G.set i (x, some m)) U ∧ Turn u w w2 := by
  have hl := h.gl
  have ad : ∀ j, Addr.add (Addr.add (Addr.add ⟨u, 0, none⟩ 2) (Int.toNat (i : Int) * 3)) j = Addr.add ⟨u, 0, none⟩ (2 + i * 3 + j) := fun j => by
    rw [add_add, add_add, Int.toNat_natCast]; congr 1; omega
  rw [ad] at e1 e2 ⊢
  have hs : ∀ G : List (Int × Option Nat), G.length = 8 → (rU b t G).size = 26 := fun G hG => by
    simp only [rU, List.size_toArray, List.length_append, Enc.flat_length, hG]; rfl
  obtain ⟨b1, t1⟩ := setE h.o e1
  rw [rU_set1 (by omega)] at b1
  have s1 : St1 w (Addr.add ⟨u, 0, none⟩ (2 + i * 3 + 1)) := st1_at h.o (by rw [hs G hl]; omega)
  have l2 : (G.set i (x, G[i].2)).length = 8 := by rw [List.length_set]; exact hl
  have s2 : St1 w1 (Addr.add ⟨u, 0, none⟩ (2 + i * 3 + 2)) := st1_at b1 (by rw [hs _ l2]; omega)
  obtain ⟨b2, t2⟩ := setE b1 e2
  rw [rU_set2 (by omega)] at b2
  have eG : (G.set i (x, G[i].2)).set i (((G.set i (x, G[i].2))[i]'(by omega)).1, some m) = G.set i (x, some m) := by
    rw [List.set_set]; simp
  rw [eG] at b2
  have tt := t1.then t2
  have st : Step (fun k => k = u) w w2 (fun k => k = u) := tt.step rfl
  have n1 : b ≠ u := bk_ne h.sp.obj h.o (by decide)
  have n2 : g1 ≠ u := bk_ne h.sp.dat h.o (by decide)
  have n3 : g2 ≠ u := bk_ne h.sp.map h.o (by decide)
  have n4 : t ≠ u := bk_ne h.tb.b h.o (by decide)
  exact ⟨s1, by rw [ad]; exact s2, ⟨b2, by rw [List.length_set]; exact hl, h.sp.step st n1 n2 n3, ⟨(tt.block t n4).trans h.tb.b, h.tb.len⟩, h.gn, h.ty⟩, tt⟩

end Go.Proofs.YtghineciiljeoaaGreatDoor

end

section
/- The unit: a command by its number, once. -/
set_option linter.unusedVariables false
set_option linter.unusedSimpArgs false
set_option maxRecDepth 100000
namespace Go.Proofs.YtghineciiljeoaaGreatDoor
open Go Go.CW Go.RowKit

variable {w w' : World} {u b t g1 g2 : Nat} {G : List (Int × Option Nat)} {U : Un}

theorem UAt.turnN {q : Nat} (h : UAt w u b t g1 g2 G U) (t' : Turn q w w') (hB : u < q ∧ b < q ∧ t < q ∧ g1 < q ∧ g2 < q) : UAt w' u b t g1 g2 G U :=
  ⟨(t'.block u (by omega)).trans h.o, h.gl, h.sp.step (t'.step (S := fun k => k = q) rfl) (by omega) (by omega) (by omega), ⟨(t'.block t (by omega)).trans h.tb.b, h.tb.len⟩, h.gn, h.ty⟩

/-- the floor behind a call -/
def flo (id fl0 fl : Int) : Int := if (if id < fl0 then id else fl0) < fl then fl else (if id < fl0 then id else fl0)
/-- what is kept -/
def keepK (K : Kp) (fl : Int) : Kp := fun x => if fl ≤ x then K x else none
def putK (K : Kp) (x : Int) (p : Value × Rp) : Kp := fun y => if y = x then some p else K y
theorem doneF_put (K : Kp) (x : Int) (p : Value × Rp) : doneF (putK K x p) = putM (doneF K) x (repV p) := by
  funext y; unfold doneF putK putM; by_cases e : y = x <;> simp [e]

theorem zRep (w : World) : (zeroValue tRep).run Tryz.prog w = .ok (.agg (rRep 0 0 0 nilV 0)) w := by kernel_rfl

/-- one round of the loop over the old map -/
def OInv (w3 : World) (m mk r nn : Nat) (K : Kp) (fl : Int) (w : World) : Prop :=
  ∃ (Kx : Kp) (nx cn : Nat) (left : Int → Bool), Mr Tryz.prog tU6 .u64 w m r nn (doneF K) left cn ∧ Mp Tryz.prog tU6 .u64 w mk nx (doneF Kx) ∧ nx + cn ≤ nn ∧ Grow w3 w ∧ ∀ x, Kx x = if left x = false ∧ fl ≤ x then K x else none

theorem Gst.stepS {B m nn : Nat} {K : Kp} {S S' : Fp} (h : Gst w B m nn K) (st : Step S w w' S') (hm : ¬ S m) (hS : ∀ k, B ≤ k → k < w.heap.size → ¬ S k) : Gst w' B m nn K :=
  ⟨h.mp.at (st.block m h.mp.lt hm), fun x p hp => by
    obtain ⟨a, b, c⟩ := h.d x p hp
    by_cases hne : p.2.d = []
    · exact ⟨Rd.stepS a st (fun hh => absurd (by rw [hne]; rfl) hh), b, c⟩
    · refine ⟨Rd.stepS a st (fun _ q hq => ?_), b, c⟩
      exact hS q (c q hq) (Rd.lt a (by simpa using hne) q hq)⟩

theorem Gst.grow {B m nn : Nat} {K : Kp} (h : Gst w B m nn K) (g : Grow w w') : Gst w' B m nn K :=
  ⟨h.mp.grow g, fun x p hp => by obtain ⟨a, b, c⟩ := h.d x p hp; exact ⟨Rd.grow a g, b, c⟩⟩

theorem grown_step {r : Nat} (g : w.grownBy w' (some r)) : Step (fun q => q = r) w w' (fun q => q = r) :=
  ⟨g.os, g.tape, g.output, g.size, fun q hq hne' => g.block q hq (fun e => hne' (Option.some.inj e)), fun q hq => .inl hq⟩
theorem UAt.stepF {S S' : Fp} (h : UAt w u b t g1 g2 G U) (st : Step S w w' S') (n0 : ¬ S u) (n1 : ¬ S b) (n2 : ¬ S t) (n3 : ¬ S g1) (n4 : ¬ S g2) : UAt w' u b t g1 g2 G U :=
  ⟨h.o.stepS st n0, h.gl, h.sp.step st (fun e => n1 e) (fun e => n3 e) (fun e => n4 e), ⟨h.tb.b.stepS st n2, h.tb.len⟩, h.gn, h.ty⟩

theorem Once_c {B m nn i : Nat} {K : Kp} {fl fl0 id : Int} {c : Cm} {dv : Value} (h : UAt w u b t g1 g2 G U) (hi : i < 8) (hG : G[i]? = some (fl, some m)) (hs : Gst w B m nn K) (hnn : nn ≤ 4) (hnf : keepK K (flo id fl0 fl) id = none → nn ≤ 3)
    (hB : u < B ∧ b < B ∧ t < B ∧ g1 < B ∧ g2 < B) (hBw : B ≤ w.heap.size)
    (hid : (Lit.int .u64 id).wf = true) (hid0 : id ≠ 0) (hfl : ¬ id < fl) (ho : CmOk U i c) (hd : RdB w dv c.d) (hdu : dv.ownBlock ≠ some u) (hdw : ∀ q, dv.ownBlock = some q → B ≤ q) (hlen : (doU U i c).1.d.length ≤ 1000000000) {R : KV}
    (k1 : ∀ p v m' w', keepK K (flo id fl0 fl) id = some p → Step (FO u t g1 g2) w w' (FO u t g1 g2) → UAt w' u b t g1 g2 (G.set i (flo id fl0 fl, some m')) U → Gst w' B m' nn (keepK K (flo id fl0 fl)) → B ≤ m' → RdB w' v p.2.d → NewV w v → R (.tuple #[.agg (rRep p.2.st p.2.key p.2.code v p.2.info), .bool false]) w')
    (k2 : ∀ v v2 m' w', keepK K (flo id fl0 fl) id = none → Step (FO u t g1 g2) w w' (FO u t g1 g2) → UAt w' u b t g1 g2 (G.set i (flo id fl0 fl, some m')) (doU U i c).2 → Gst w' B m' (nn + 1) (putK (keepK K (flo id fl0 fl)) id (v2, (doU U i c).1)) → B ≤ m' → RdB w' v (doU U i c).1.d → NewV w v →
      R (.tuple #[.agg (rRep (doU U i c).1.st (doU U i c).1.key (doU U i c).1.code v (doU U i c).1.info), .bool true]) w') :
    Go.CW.Spec Tryz.prog 19 #[.pointer (some ⟨u, 0, none⟩), .int .i64 (i : Int), .int .u64 id, .int .u64 fl0, .agg (rCmd c dv)] w R := by
  apply lu_Unit_Once_m_wp
  have hGi : ∀ h : i < G.length, G[i] = (fl, some m) := fun h => by rw [List.getElem?_eq_getElem h] at hG; exact Option.some.inj hG
  refine nm fun w0 e0 => ?_
  obtain ⟨b0, g0, s0⟩ := alE e0
  refine nm fun w1 e1 => ?_
  obtain ⟨b1, ga1, s1⟩ := alE e1
  refine nm fun w2 e2 => ?_
  obtain ⟨b2, ga2, s2⟩ := alE e2
  have g02 := (g0.then ga1).then ga2
  refine ⟨b2.row rfl rfl, nm fun w3 e3 => ?_⟩
  obtain ⟨b3, t3⟩ := rowE b2 e3 rfl
  have g3 : Grow w w3 := Below.turn g02 t3 (by omega)
  have h3 := h.grow g3
  have bc3 := ((b0.grow ga1).grow ga2).turn t3 (by omega)
  have br3 := (b1.grow ga2).turn t3 (by omega)
  have gs3 := hs.grow g3
  have z3 := g3.size
  have z32 := t3.size
  refine JoinP.bool (fun q w' => q = false ∧ w' = w3) (fun j hj => ?_) ?_
  · refine lhost_c hi ⟨_, rfl, cond_f rfl (cond_f (by simpa using hid0) (withAddr_some ⟨⟨by omega, by omega⟩, fl, ?_, hj _ _ ⟨by simpa using hfl, rfl⟩⟩))⟩
    have hc := h3.gcell hi (show 1 < 3 by omega)
    rw [hc, hGi]; rfl
  rintro q w5 ⟨rfl, rfl⟩
  refine cond_f rfl (withAddr_some ⟨⟨by omega, by omega⟩, fl, ?_, ?_⟩)
  · have hc := h3.gcell hi (show 1 < 3 by omega)
    rw [hc, hGi]; rfl
  have hmk : Sem.run Tryz.prog (Instr.makeMap 155 none) w5 = .ok (.map (some w5.heap.size)) (w5.alloc (.map #[] 0)) := rfl
  refine ⟨_, _, hmk, ?_⟩
  have ga := Grow.al (Grow.refl w5) (.map #[] 0)
  have mp0 : Mp Tryz.prog tU6 .u64 (w5.alloc (.map #[] 0)) w5.heap.size 0 (fun _ => none) := Mp.made w5
  have sza : (w5.alloc (.map #[] 0)).heap.size = w5.heap.size + 1 := by simp
  generalize w5.alloc (.map #[] 0) = wa at *
  have ha := h3.grow ga
  have gsa := gs3.grow ga
  obtain ⟨w9, cnt, hrun, mr9, g9, s9, hcnt⟩ := gsa.mp.range undU6 undMr
  refine ⟨.map (some m), ?_, _, w9, hrun, ?_⟩
  · have hc := ha.gcell hi (show 2 < 3 by omega)
    rw [hc, hGi]; rfl
  show LoopP [] _ _
  generalize hFL : (if (if id < fl0 then id else fl0) < fl then fl else if id < fl0 then id else fl0) = FL
  have hFL' : flo id fl0 fl = FL := hFL
  rw [hFL'] at k1 k2 hnf
  refine ⟨fun (w25 : World) => OInv w5 m w5.heap.size wa.heap.size nn K FL w25, fun (w25 : World) => w25.rangeLeft m wa.heap.size, ⟨fun _ => none, 0, cnt, _, mr9, mp0.grow g9, by omega, ga.then g9, fun x => ?_⟩, ?_⟩
  · by_cases hk : K x = none
    · simp [hk]
    · obtain ⟨p, hp⟩ := Option.ne_none_iff_exists'.1 hk
      simp [doneF, hp]
  dsimp only [allR, mapR2, eqN, ltN]
  rintro n w25 ⟨⟨Kx, nx, cn, left, mr, mp, hle, g25, hK⟩, hm⟩
  have hrl := mr.left_eq
  rcases mr.next undU6 0 with ⟨hall, hrun⟩ | ⟨x, v, w15, cn', hwf, hlx, hfx, hrun, mr15, hcn, hg, hsz, hent⟩
  · have hKe : Kx = keepK K FL := by funext x; rw [hK x, hall x]; unfold keepK; simp
    subst hKe
    have g0e : Grow w w25 := g3.then g25
    have h25 := h3.grow g25
    have gs25 := gs3.grow g25
    have b025 := bc3.grow g25
    have br25 := br3.grow g25
    have zw : w5.heap.size ≤ w25.heap.size := g25.size
    have mpl := mp.lt
    have z0 := h.o.lt
    -- the end of both ways
    have fin : ∀ {w' : World} {U' : Un} {mm nn' : Nat} {K' : Kp} {x0 x1 x2 x4 : Int} {x3 : Value} {ds : List UInt8} {cs : Array Value} {bb : Bool}, Md (FO u t g1 g2) w.heap.size w w' → BK w' w0.heap.size cs tRep → cs.size = 5 →
        UAt w' u b t g1 g2 (G.set i (FL, some mm)) U' → Gst w' B mm nn' K' → mm ≠ w0.heap.size → (∀ x p, K' x = some p → p.2.d ≠ [] → p.1.ownBlock ≠ some w0.heap.size) → RdB w' x3 ds → NewV w x3 → x3.ownBlock ≠ some w0.heap.size →
        (∀ v w', Step (FO u t g1 g2) w w' (FO u t g1 g2) → UAt w' u b t g1 g2 (G.set i (FL, some mm)) U' → Gst w' B mm nn' K' → RdB w' v ds → NewV w v → R (.tuple #[.agg (rRep x0 x1 x2 v x4), .bool bb]) w') →
        (StRow w' ⟨w0.heap.size, 0, none⟩ #[.int .i64 x0, .int .i64 x1, .int .i64 x2, x3, .int .i64 x4]) ∧
        bindW (stRow w' ⟨w0.heap.size, 0, none⟩ #[.int .i64 x0, .int .i64 x1, .int .i64 x2, x3, .int .i64 x4]) fun w' =>
        ∃ (n0 : Int) (n1 : Int) (n2 : Int) (v3 : Value) (n4 : Int), (ldCells w' ⟨w0.heap.size, 0, none⟩ 5 #[.int .i64 n0, .int .i64 n1, .int .i64 n2, v3, .int .i64 n4]) ∧ R (.tuple #[.agg #[.int .i64 n0, .int .i64 n1, .int .i64 n2, v3, .int .i64 n4], .bool bb]) w' := by
      intro w' U' mm nn' K' x0 x1 x2 x4 x3 ds cs bb mdd bk hcs hu hg hmm hK' hr hn hne kk
      refine ret5 bk hcs (Rd.isOne hr) fun w'' _ t' => ?_
      have hsz0 := g0.size
      refine kk x3 w'' (mdd.turn t' (.inr hsz0)).out (hu.turnN t' (by omega)) ⟨hg.mp.at (t'.block mm hmm), fun x p hp => ?_⟩ (Rd.turn hr t' hne) hn
      obtain ⟨a1, a2, a3⟩ := hg.d x p hp
      exact ⟨Rd.stepS a1 (t'.step (S := fun k => k = w0.heap.size) rfl) (fun hne q hq e => hK' x p hp (fun hh => hne (by rw [hh]; rfl)) (by rw [hq, e])), a2, a3⟩
    have m25 : Md (FO u t g1 g2) w.heap.size w w25 := (Md.refl _ _ _).grow g0e
    cases hk : keepK K FL id with
    | some p =>
      have hp : K id = some p := by unfold keepK at hk; by_cases e : FL ≤ id <;> simp [e] at hk; exact hk
      obtain ⟨pd1, pd2, pd3⟩ := hs.d id p hp
      have hlk := mp.look_ok undU6 undMr (zRep w25) hid
      have hf : doneF (keepK K FL) id = some (repV p) := by unfold doneF; rw [hk]; rfl
      rw [hf] at hlk
      refine .inl ⟨w25, hrun, _, _, _, _, _, _, hlk, nm fun w33 e33 => ?_⟩
      obtain ⟨b33, g33, s33⟩ := alE e33
      refine ⟨b33.row rfl (one_rep (Rd.isOne pd1)), nm fun w34 e34 => ?_⟩
      obtain ⟨b34, t34⟩ := rowE b33 e34 rfl
      have g34 : Grow w25 w34 := Below.turn g33 t34 (Nat.le_refl _)
      have h34 := h25.grow g34
      refine cond_t rfl ⟨(h34.guest (x := FL) (m := w5.heap.size) hi rfl rfl).1, nm fun w35 e35 => oneK_of rfl ⟨(h34.guest (m := w5.heap.size) hi e35 rfl).2.1, nm fun w36 e36 => ?_⟩⟩
      obtain ⟨_, _, u36, t36⟩ := h34.guest hi e35 e36
      have hul : u < w.heap.size := z0
      have b36 := b34.turn t36 (by omega)
      have pd36 : RdB w36 p.1 p.2.d := Rd.turn (Rd.grow pd1 (g0e.then g34)) t36 (fun e => by have := pd3 u e; omega)
      refine ⟨_, _, _, _, _, b36.ld rfl, apart_c pd36 pd2 fun v43 w43 g43 r43 n43 => ⟨_, _, _, _, _, rfl, ?_⟩⟩
      have u43 := u36.grow g43
      have m43 : Md (FO u t g1 g2) w.heap.size w w43 := ((m25.grow g34).turn t36 (.inl (.inl rfl))).grow g43
      have hs36 : w25.heap.size ≤ w36.heap.size := by have := g34.size; have := t36.size; omega
      have br43 := (((br25.grow g34).turn t36 (by have := g0.size; omega))).grow g43
      have mp43 := (((mp.grow g34).at (t36.block _ (by have := g34.size; omega)))).grow g43
      have gs43 : Gst w43 B w5.heap.size nn (keepK K FL) := by
        refine ⟨mp43.le (by omega), fun x q hq => ?_⟩
        have hq' : K x = some q := by unfold keepK at hq; by_cases e : FL ≤ x <;> simp [e] at hq; exact hq
        obtain ⟨a1, a2, a3⟩ := hs.d x q hq'
        exact ⟨Rd.grow (Rd.turn (Rd.grow a1 (g0e.then g34)) t36 (fun e => by have := a3 u e; omega)) g43, a2, a3⟩
      have hz36 : w0.heap.size < w36.heap.size := by omega
      refine fin m43 br43 rfl u43 gs43 (by omega) (fun x q hq hne e => ?_) r43 (n43.of (by omega)) (fun e => by have := n43 _ e; omega) (fun v w' st hu hg hr hn => k1 p v _ w' hk st hu hg (by omega) hr hn)
      have hq' : K x = some q := by unfold keepK at hq; by_cases e : FL ≤ x <;> simp [e] at hq; exact hq
      have := Rd.lt (hs.d x q hq').1 (by simpa using hne) _ e
      have := g0.size
      omega
    | none =>
      have hnn3 := hnf hk
      have hlk := mp.look_ok undU6 undMr (zRep w25) hid
      have hf : doneF (keepK K FL) id = none := by unfold doneF; rw [hk]; rfl
      rw [hf] at hlk
      refine .inl ⟨w25, hrun, _, _, _, _, _, _, hlk, nm fun w33 e33 => ?_⟩
      obtain ⟨b33, g33, s33⟩ := alE e33
      refine ⟨b33.row rfl rfl, nm fun w34 e34 => ?_⟩
      obtain ⟨b34, t34⟩ := rowE b33 e34 rfl
      have g34 : Grow w25 w34 := Below.turn g33 t34 (Nat.le_refl _)
      have h34 := h25.grow g34
      have mp34 := mp.grow g34
      obtain ⟨ln, hln, hlr⟩ := mp34.len undMr 0
      refine cond_f rfl ⟨_, hlr, cond_f (by simp; omega) ?_⟩
      refine ⟨(h34.guest (x := FL) (m := w5.heap.size) hi rfl rfl).1, nm fun w35 e35 => oneK_of rfl ⟨(h34.guest (m := w5.heap.size) hi e35 rfl).2.1, nm fun w36 e36 => ?_⟩⟩
      obtain ⟨_, _, u36, t36⟩ := h34.guest hi e35 e36
      have hul : u < w.heap.size := z0
      have z34 := g34.size
      have z36 := t36.size
      have b036 := (b025.grow g34).turn t36 (by omega)
      have br36 := (br25.grow g34).turn t36 (by have := g0.size; omega)
      have mp36 := mp34.at (t36.block _ (by omega))
      have m36 : Md (FO u t g1 g2) w.heap.size w w36 := (m25.grow g34).turn t36 (.inl (.inl rfl))
      have d36 : RdB w36 dv c.d := Rd.turn (Rd.grow hd (g0e.then g34)) t36 hdu
      refine ⟨_, _, _, _, _, _, _, _, b036.ld rfl, Do_c u36 hi ho d36 fun v77 w78 st78 u78 rp78 => ?_⟩
      obtain ⟨dv', rfl, rd', nv'⟩ := rp78
      have z78 := st78.size
      have nFU : ∀ k, B ≤ k → ¬ FU t g1 g2 k := fun k hk hf => by rcases hf with e | e | e <;> omega
      have z0' := g0.size
      have m78 : Md (FO u t g1 g2) w.heap.size w w78 := m36.stp st78 (fun k hf => by rcases hf with e | e | e; exact .inl (.inr (.inl e)); exact .inl (.inr (.inr (.inl e))); exact .inl (.inr (.inr (.inr e)))) (fun k hf => .inl (by rcases hf with e | e | e; exact .inl (.inr (.inl e)); exact .inl (.inr (.inr (.inl e))); exact .inl (.inr (.inr (.inr e)))))
      have br78 := br36.stepS st78 (nFU _ (by omega))
      have mp78 := mp36.at (st78.block _ mp36.lt (nFU _ (by omega)))
      refine ⟨_, _, _, _, _, rfl, ret5 br78 rfl (Rd.isOne rd') fun w84 b84 t84 => ?_⟩
      have rd84 := Rd.turn rd' t84 (fun e => by have := nv' _ e; omega)
      have mp84 := mp78.at (t84.block _ (by omega))
      have u84 := u78.turnN t84 (by omega)
      have m84 := m78.turn t84 (.inr z0')
      have z84 := t84.size
      refine apart_c rd84 hlen fun v90 w91 g91 r91 n91 => ⟨_, _, _, _, _, rfl, ?_⟩
      have z91 := g91.size
      obtain ⟨w97, hup, mp97, gb97⟩ := (mp84.grow g91).put undU6 undMr (by omega) hid (repV (v90, (doU U i c).1))
      have st97 := grown_step gb97
      have u97 := (u84.grow g91).stepF st97 (by omega) (by omega) (by omega) (by omega) (by omega)
      have b97 := (b84.grow g91).stepS st97 (by omega)
      have r97 : RdB w97 dv' (doU U i c).1.d := Rd.stepS (Rd.grow rd84 g91) st97 (fun _ q hq e => by have := nv' q hq; omega)
      have r97' : RdB w97 v90 (doU U i c).1.d := Rd.stepS r91 st97 (fun _ q hq e => by have := n91 q hq; omega)
      have m97 : Md (FO u t g1 g2) w.heap.size w w97 := (m84.grow g91).stp st97 (fun k e => .inr (by omega)) (fun k e => .inl (.inr (by omega)))
      refine ⟨w97, hup, _, _, _, _, _, b97.ld rfl, ?_⟩
      have gs97 : Gst w97 B w5.heap.size (nn + 1) (putK (keepK K FL) id (v90, (doU U i c).1)) := by
        refine ⟨by rw [doneF_put]; exact mp97.le (by omega), fun x q hq => ?_⟩
        unfold putK at hq
        by_cases e : x = id
        · rw [if_pos e] at hq
          cases hq
          exact ⟨r97', hlen, fun q hq => by have := n91 q hq; omega⟩
        · rw [if_neg e] at hq
          have hq' : K x = some q := by unfold keepK at hq; by_cases e : FL ≤ x <;> simp [e] at hq; exact hq
          obtain ⟨a1, a2, a3⟩ := hs.d x q hq'
          refine ⟨?_, a2, a3⟩
          have a36 : RdB w36 q.1 q.2.d := Rd.turn (Rd.grow a1 (g0e.then g34)) t36 (fun e => by have := a3 u e; omega)
          have a78 : RdB w78 q.1 q.2.d := Rd.stepS a36 st78 (fun _ k hk => nFU k (a3 k hk))
          have a84 : RdB w84 q.1 q.2.d := Rd.stepS a78 (t84.step (S := fun k => k = w0.heap.size) rfl) (fun hne k hk e => by have := Rd.lt a1 hne k hk; omega)
          exact Rd.stepS (Rd.grow a84 g91) st97 (fun hne k hk e => by have := Rd.lt a1 hne k hk; omega)
      refine fin m97 b97 rfl u97 gs97 (by omega) (fun x q hq hne e => ?_) r97 (nv'.of (by omega)) (fun e => by have := nv' _ e; omega) (fun v w' st hu hg hr hn => k2 v v90 _ w' hk st hu hg (by omega) hr hn)
      unfold putK at hq
      by_cases ex : x = id
      · rw [if_pos ex] at hq
        cases hq
        have := n91 _ e
        omega
      · rw [if_neg ex] at hq
        have hq' : K x = some q := by unfold keepK at hq; by_cases e : FL ≤ x <;> simp [e] at hq; exact hq
        have := Rd.lt (hs.d x q hq').1 (by simpa using hne) _ e
        omega
  · refine .inr ⟨_, _, w15, hrun, JoinP.go ?_⟩
    obtain ⟨p, hp⟩ : ∃ p, K x = some p := by
      unfold doneF at hfx
      cases e : K x with
      | none => rw [e] at hfx; cases hfx
      | some p => exact ⟨p, rfl⟩
    have hv : v = repV p := by unfold doneF at hfx; rw [hp] at hfx; simpa using hfx.symm
    subst hv
    have hone : isOne p.1 = true := Rd.isOne (hs.d x p hp).1
    have g15 : Grow w5 w15 := g25.grown hg g25.size (fun j hj => by cases hj; omega)
    have hmr : w5.heap.size ≠ wa.heap.size := by omega
    have mp15 : Mp Tryz.prog tU6 .u64 w15 w5.heap.size nx (doneF Kx) := mp.kept hg (fun e => hmr (by first | exact Option.some.inj e | exact (Option.some.inj e).symm))
    refine .inr (.inl ⟨x, _, _, _, _, _, hent, nm fun w16 e16 => ?_⟩)
    obtain ⟨b16, g16, s16⟩ := alE e16
    refine ⟨b16.row rfl (one_rep hone), nm fun w17 e17 => ?_⟩
    obtain ⟨b17, t17⟩ := rowE b16 e17 rfl
    have g17 : Grow w15 w17 := Below.turn g16 t17 (Nat.le_refl _)
    have mr17 : Mr Tryz.prog tU6 .u64 w17 m wa.heap.size nn (doneF K) (fun y => left y && !(decide (y = x))) cn' := mr15.at (g17.block _ mr15.owns.lt) (g17.block _ mr15.lt)
    have mp17 := mp15.grow g17
    have gg17 := g15.then g17
    refine cond_intro (fun hc => ?_) (fun hc => ?_)
    · have hge : FL ≤ x := by simpa using hc
      obtain ⟨w18, hup, mp18, gb18⟩ := mp17.put undU6 undMr (by omega) hwf (repV p)
      refine ⟨_, _, _, _, _, b17.ld rfl, w18, hup, ?_⟩
      have g18 : Grow w5 w18 := gg17.grown gb18 gg17.size (fun j hj => by cases hj; omega)
      have nmm : m ≠ w5.heap.size := by have := gs3.mp.lt; omega
      have mr18 : Mr Tryz.prog tU6 .u64 w18 m wa.heap.size nn (doneF K) (fun y => left y && !(decide (y = x))) cn' := mr17.at (gb18.block m mr17.owns.lt (fun e => nmm (by first | exact Option.some.inj e | exact (Option.some.inj e).symm))) (gb18.block _ mr17.lt (fun e => hmr (by first | exact Option.some.inj e | exact (Option.some.inj e).symm)))
      refine ⟨⟨putK Kx x p, nx + 1, cn', _, mr18, by rw [doneF_put]; exact mp18, by omega, g18, fun y => ?_⟩, ?_⟩
      · unfold putK
        by_cases ey : y = x
        · subst ey; simp [hp, hge]
        · rw [if_neg ey, hK y]; simp [ey]
      · rw [mr18.left_eq]; omega
    · have hlt : ¬ FL ≤ x := by simpa using hc
      refine ⟨⟨Kx, nx, cn', _, mr17, mp17, by omega, gg17, fun y => ?_⟩, ?_⟩
      · rw [hK y]
        by_cases ey : y = x
        · subst ey; simp [hlt]
        · simp [ey]
      · rw [mr17.left_eq]; omega

end Go.Proofs.YtghineciiljeoaaGreatDoor

end

section
/- Plain commands at the model of a unit. -/
set_option linter.unusedVariables false
set_option linter.unusedSimpArgs false
set_option maxRecDepth 100000
namespace Go.Proofs.YtghineciiljeoaaGreatDoor
open Go Go.CW Go.RowKit

def tyOk (U : Un) : Prop := U.T.ty = 0 ∨ U.T.ty = 1

theorem plainC_cases {P : Cm → Prop} (n a b : UInt8)
    (h1 : P ⟨3, a.toNat % 32, 1, 0, 0, 0, false, List.replicate 8 b⟩) (h2 : P ⟨2, a.toNat % 32, 1, 0, 0, 0, false, []⟩)
    (h3 : P ⟨6, a.toNat % 32, 1, 0, 0, 0, false, List.replicate 8 (b &&& 1) ++ List.replicate 8 b⟩) (h4 : P ⟨5, a.toNat % 32, 1, 0, 0, 0, false, []⟩)
    (h5 : P ⟨11, 0, 0, 0, (b.toNat : Int), 0, false, []⟩) (h6 : P ⟨12, 0, 0, (b.toNat : Int), 0, 1, false, []⟩) (h7 : P ⟨16, 0, 0, 0, 0, 0, false, []⟩) : P (plainC n a b) := by
  unfold plainC
  split
  · exact h1
  · split
    · exact h2
    · split
      · exact h3
      · split
        · exact h4
        · split
          · exact h5
          · split
            · exact h6
            · exact h7

theorem plain_ok {U : Un} (hU : tyOk U) (n a b : UInt8) (i : Nat) : CmOk U i (plainC n a b) := by
  have hr : regsB U.T = false := by unfold regsB; rcases hU with h | h <;> rw [h] <;> rfl
  have hp : a.toNat % 32 ≤ 1000000 := by omega
  refine plainC_cases (P := fun c => CmOk U i c) n a b ?_ ?_ ?_ ?_ ?_ ?_ ?_ <;>
    exact ⟨by first | exact hp | exact Nat.zero_le _, by first | exact Nat.zero_le _ | exact (show (1 : Nat) ≤ 1000000 by decide), by first | exact (show Fits .i64 (0 : Int) by decide) | exact (show Fits .i64 (1 : Int) by decide), by simp, fun _ _ _ => hr⟩

theorem runU_T (U : Un) (c : Cm) : (runU U c).2.T = U.T := by
  unfold runU
  repeat' split
  all_goals rfl

theorem regT_ty (T : Tb) (h : Nat) (x : Int) (hT : T.ty = 0 ∨ T.ty = 1) : (regT T h x).ty = 0 ∨ (regT T h x).ty = 1 := by
  unfold regT
  dsimp only
  split
  · exact .inl rfl
  · exact hT
theorem resT_ty (T : Tb) (h : Nat) (k : Int) (hT : T.ty = 0 ∨ T.ty = 1) : (resT T h k 1).2.ty = 0 ∨ (resT T h k 1).2.ty = 1 := by
  unfold resT
  repeat' split
  all_goals first | exact hT | exact .inr rfl

theorem actU_ty {U : Un} (hU : tyOk U) (n a b : UInt8) (i : Nat) : tyOk (actU U i (plainC n a b)).2 := by
  have run : ∀ c, tyOk (runU U c).2 := fun c => by unfold tyOk; rw [runU_T]; exact hU
  refine plainC_cases (P := fun c => tyOk (actU U i c).2) n a b (run _) (run _) (run _) (run _) (regT_ty _ _ _ hU) (resT_ty _ _ _ hU) hU
theorem doU_ty {U : Un} (hU : tyOk U) (n a b : UInt8) (i : Nat) : tyOk (doU U i (plainC n a b)).2 := by
  unfold doU
  split
  · exact actU_ty hU n a b i
  · exact hU

theorem runU_short {U : Un} (c : Cm) (hc : c.n ≤ 32) : (runU U c).1.d.length ≤ 1000000000 := by
  unfold runU
  repeat' split
  all_goals first | (show ([] : List UInt8).length ≤ _; simp) | (show (part U.D (c.pos, c.n)).length ≤ _; simp [part]; omega)
theorem doU_short {U : Un} (n a b : UInt8) (i : Nat) : (doU U i (plainC n a b)).1.d.length ≤ 1000000000 := by
  have nil : ([] : List UInt8).length ≤ 1000000000 := by simp
  unfold doU
  split
  · exact plainC_cases (P := fun c => (actU U i c).1.d.length ≤ 1000000000) n a b (runU_short _ (by show 1 ≤ 32; omega)) (runU_short _ (by show 1 ≤ 32; omega)) (runU_short _ (by show 1 ≤ 32; omega)) (runU_short _ (by show 1 ≤ 32; omega)) nil nil (keysB_short _ _)
  · exact nil

/-! ### rows of three bytes -/
def EA : Enc (UInt8 × UInt8 × UInt8) := ⟨3, fun x => [.int .u8 (x.1.toNat : Int), .int .u8 (x.2.1.toNat : Int), .int .u8 (x.2.2.toNat : Int)], fun _ => rfl, by omega, fun _ => rfl⟩
/-! ### rows of replies -/
def EP : Enc (Value × Rp) := ⟨5, fun p => [.int .i64 p.2.st, .int .i64 p.2.key, .int .i64 p.2.code, (if isOne p.1 then p.1 else nilV), .int .i64 p.2.info], fun _ => rfl, by omega, fun p => by
  by_cases h : isOne p.1 = true
  · rw [if_pos h]; simp [oneL, h]; simp [isOne]
  · rw [if_neg h]; rfl⟩

def EBo : Enc Bool := ⟨1, fun b => [.bool b], fun _ => rfl, by omega, fun _ => rfl⟩

theorem made_flat {α : Type} {E : Enc α} {x : α} {u : Value} (hc : u.cells.toList = E.enc x) (n : Nat) : (madeCells u.cells (n * E.s)).toList = E.flat (List.replicate n x) := by
  have hsz : u.cells.size = E.s := by rw [← Array.length_toList, hc, E.len]
  have hp := E.pos
  apply List.ext_getElem?
  intro i
  by_cases hi : i < n * E.s
  · have h1 : i / E.s < n := Nat.div_lt_of_lt_mul (by rw [Nat.mul_comm]; exact hi)
    have h2 : i % E.s < E.s := Nat.mod_lt _ hp
    have hf := Enc.flat_at (E := E) (List.replicate n x) (i / E.s) (by simpa using h1) (i % E.s) h2
    have e : i / E.s * E.s + i % E.s = i := by rw [Nat.mul_comm]; exact Nat.div_add_mod i E.s
    rw [e] at hf
    rw [hf]
    have hl : i < (madeCells u.cells (n * E.s)).toList.length := by rw [Array.length_toList, size_madeCells]; exact hi
    rw [List.getElem?_eq_getElem hl]
    simp only [List.getElem_replicate, ← hc]
    have hl2 : i % E.s < u.cells.toList.length := by rw [Array.length_toList, hsz]; exact h2
    rw [List.getElem?_eq_getElem hl2]
    have h3 : i % E.s < u.cells.size := by rw [hsz]; exact h2
    simp [madeCells, hsz, getElem!_pos u.cells (i % E.s) h3]
  · rw [List.getElem?_eq_none (by rw [Array.length_toList, size_madeCells]; omega), List.getElem?_eq_none (by rw [Enc.flat_length, List.length_replicate]; omega)]

theorem make_ownR {α : Type} {E : Enc α} {x : α} {P : Program} {t e : TypeId} {b : Nat} (T : SlTyN P t e E.s b) {u : Value} (hu : (P.info? e).bind (·.zero) = some u) (hc : u.cells.toList = E.enc x) {w : World} (n : Nat) (hn : n * (b + 1) ≤ 140737488355328) :
    ∃ v' w', Sem.run P (Instr.makeSlice t (.int .i64 (n : Int)) (.int .i64 (n : Int))) w = .ok v' w' ∧ OwnR E w' w.heap.size e v' (List.replicate n x) ∧ Grow w w' := by
  obtain ⟨i, z, hi, hz, hs, hby, hzs⟩ := T.info
  have hn' : n ≤ 140737488355328 := Nat.le_trans (Nat.le_mul_of_pos_right _ (by omega)) hn
  have hn2 : n * b ≤ 140737488355328 := Nat.le_trans (Nat.mul_le_mul_left _ (by omega)) hn
  rw [hi] at hu
  simp only [Option.bind_some, hz, Option.some.injEq] at hu
  subst hu
  obtain ⟨w', h1, h2, h3⟩ := run_make_full (P := P) w w.heap.size t e i z E.s T.und hi hz hs .i64 .i64 n (by rw [hby, Nat.mul_comm]; omega) (by simp only [maxLen]; omega) (Nat.le_refl _)
  rw [made_flat hc] at h2
  refine ⟨_, w', h1, ?_, grownBy.below h3 (Nat.le_refl _) (fun k hk => by cases hk)⟩
  unfold OwnR
  rw [List.length_replicate]
  exact h2

abbrev tReps : TypeId := 51
abbrev tBools : TypeId := 52
theorem tyReps : SlTyN Tryz.prog tReps tRep 5 56 := SlTyN.of (by kernel_rfl)
theorem mk_said {w : World} (n : Nat) (hn : n ≤ 4) : ∃ v' w', Sem.run Tryz.prog (Instr.makeSlice tReps (.int .i64 (n : Int)) (.int .i64 (n : Int))) w = .ok v' w' ∧ OwnR EP w' w.heap.size tRep v' (List.replicate n (nilV, (⟨0, 0, 0, [], 0⟩ : Rp))) ∧ Grow w w' :=
  make_ownR (E := EP) tyReps (u := .agg (rRep 0 0 0 nilV 0)) (by kernel_rfl) (by kernel_rfl) n (by omega)
theorem tyBools : SlTyN Tryz.prog tBools 4 1 1 := SlTyN.of (by kernel_rfl)
theorem mk_done {w : World} (n : Nat) (hn : n ≤ 4) : ∃ v' w', Sem.run Tryz.prog (Instr.makeSlice tBools (.int .i64 (n : Int)) (.int .i64 (n : Int))) w = .ok v' w' ∧ OwnR EBo w' w.heap.size 4 v' (List.replicate n false) ∧ Grow w w' :=
  make_ownR (E := EBo) tyBools (u := .bool false) (by kernel_rfl) (by kernel_rfl) n (by omega)

end Go.Proofs.YtghineciiljeoaaGreatDoor

end
