/- The contracts of Decode, known. -/
import Derived.Test.YtdkknncpmkajnaaCdbQ
set_option linter.unusedVariables false
set_option linter.unusedSimpArgs false
set_option maxRecDepth 100000
namespace Go.Proofs.Ytdkknncpmkajnaa
open Go Go.CW Go.RowKit

theorem u8_beq (a b : UInt8) : ((a.toNat : Int) == (b.toNat : Int)) = decide (a = b) := by
  rw [Bool.eq_iff_iff]
  simp only [beq_iff_eq, decide_eq_true_eq]
  constructor
  · intro h; exact UInt8.toNat.inj (by omega)
  · rintro rfl; rfl

theorem u8_ne0 (a : UInt8) : ((a.toNat : Int) != (0 : Int)) = !decide (a = 0) := by
  have := u8_beq a 0
  simp only [bne]
  rw [show (0 : Int) = ((0 : UInt8).toNat : Int) from rfl, this]

theorem u8_lt (a : UInt8) : (0 : Int) ≤ (a.toNat : Int) ∧ (a.toNat : Int) < 256 := by have := a.toNat_lt; omega

structure DS (w : World) (hb h1 h2 hx hc : Nat) (x : Cod) (pv : Value) (C : Array Value) (ww : World) : Prop where
  bb : BK ww hb #[pv] tB
  b1 : BK ww h1 rK0 tK
  b2 : BK ww h2 rR0 tR
  bx : BK ww hx (rC x) tC
  bc : BK ww hc C tK
  gr : Grow w ww

theorem DS.grow {w : World} {hb h1 h2 hx hc : Nat} {x : Cod} {pv : Value} {C : Array Value} {ww w' : World} (h : DS w hb h1 h2 hx hc x pv C ww) (g : Grow ww w') : DS w hb h1 h2 hx hc x pv C w' :=
  ⟨h.bb.grow g, h.b1.grow g, h.b2.grow g, h.bx.grow g, h.bc.grow g, h.gr.then g⟩

theorem DS.set {w : World} {hb h1 h2 hx hc : Nat} {x : Cod} {pv : Value} {C : Array Value} {ww : World} (h : DS w hb h1 h2 hx hc x pv C ww) (e1 : hb < hc) (e2 : h1 < hc) (e3 : h2 < hc) (e4 : hx < hc) (e5 : w.heap.size ≤ hc) (j : Nat) (y : Value) :
    DS w hb h1 h2 hx hc x pv (C.setIfInBounds j y) (ww.setCell (Addr.add ⟨hc, 0, none⟩ j) y) := by
  rw [ad0]
  exact ⟨h.bb.other (by omega) j y, h.b1.other (by omega) j y, h.b2.other (by omega) j y, h.bx.other (by omega) j y, h.bc.set j y, h.gr.setCell e5 _⟩

theorem st1_add {w : World} {b : Nat} {cs : Array Value} {e : TypeId} (h : BK w b cs e) {j : Nat} (hj : j < cs.size) : St1 w (Addr.add ⟨b, 0, none⟩ j) := by rw [ad0]; exact h.st1 hj

def atD (x : Cod) (bs : List UInt8) : Int := if x.at_ then getV bs 2 8 else 0
def nD (x : Cod) (bs : List UInt8) : Int := if x.n then getV bs 10 4 else if x.sh then ((bs.getD 13 0).toNat : Int) else 0
def tD (x : Cod) (bs : List UInt8) : Int := if x.n then 0 else if x.sh then 0 else if x.ty then ((bs.getD 2 0).toNat : Int) else 0

theorem at_getD {w : World} {v : Value} {bs : List UInt8} (h : RdB w v bs) {i : Nat} (h1 : i < bs.length) :
    ∃ a, sliceAt v (i : Int) 1 = some a ∧ w.cell? a = some (.int .u8 ((bs.getD i 0).toNat : Int)) := by
  obtain ⟨a, ha, hc⟩ := h.at (i := (i : Int)) (by omega) (by omega)
  refine ⟨a, ha, ?_⟩
  rw [hc]; simp [h1]

theorem Decode1_c {w' : World} {hb : Nat} {v : Value} {bs : List UInt8} {y : Cod} {R : KV} (bb : BK w' hb #[v] tB) (hr : RdB w' v bs) (hl : 16 ≤ bs.length)
    (hK : ∀ w'', Grow w' w'' → R (.bool (isD (bs.getD 0 0) (bs.getD 1 0) y)) w'') : Go.CW.Spec Try.prog 15 #[vC y, .pointer (some ⟨hb, 0, none⟩)] w' R := by
  refine cdb_Decode_1_wp _ _ _ _ _ _ _ _ _ _ _ _ ?_
  unfold cdb_Decode_1_F
  have nb := (BK.new w' (rC y) tC).dr
  have gn := (Grow.al (Grow.refl w') (.cells (rC y) tC)).dr
  have bb := bb.grow gn
  have hr := hr.grow gn
  have hK := hK _ gn
  generalize World.drew (World.alloc w' (.cells (rC y) tC)) = W at *
  generalize w'.heap.size = hy at *
  refine JoinP.bool (fun b w'' => w'' = W ∧ b = isD (bs.getD 0 0) (bs.getD 1 0) y) (fun j hj => ?_) (by rintro b w'' ⟨rfl, rfl⟩; exact hK)
  obtain ⟨a0, ha0, hc0⟩ := at_getD (i := 0) hr (by omega)
  obtain ⟨a1, ha1, hc1⟩ := at_getD (i := 1) hr (by omega)
  refine ⟨_, nb.cell 1, withAddr_some ⟨_, bb.at 0, a0, ha0, _, hc0, ?_⟩⟩
  rw [u8_beq]
  refine cond_intro (fun e => ⟨_, nb.cell 8, cond_intro (fun e2 => hj _ _ ⟨rfl, ?_⟩) (fun e2 => ⟨_, nb.cell 2, withAddr_some ⟨_, bb.at 0, a1, ha1, _, hc1, hj _ _ ⟨rfl, ?_⟩⟩⟩)⟩) (fun e => hj _ _ ⟨rfl, ?_⟩)
  · simp only [isD, e, e2]; rfl
  · rw [u8_beq]; simp only [isD, e, e2]; simp
  · simp only [isD, e]; rfl

theorem Decode_c {w : World} {v : Value} {bs : List UInt8} {x : Cod} {R : KV} (hr : RdB w v bs) (hl : 16 ≤ bs.length)
    (hx : codesL.find? (isD (bs.getD 0 0) (bs.getD 1 0)) = some x) (ok : okD bs x) (hat : x.at_ = true → getV bs 2 8 ≤ 4611686018427387904)
    (c : ∀ fo w', Grow w w' → R (.tuple #[vK x.k (atD x bs) (nD x bs) (.slice none 0 0) 0 0 (tD x bs) fo, vR 0 0 0 (.slice none 0 0) 0, .bool true]) w') :
    Go.CW.Spec Try.prog 9 #[v] w R := by
  apply cdb_Decode_wp
  obtain ⟨av, cv, hv, hrest⟩ := hr
  have hr : RdB w v bs := ⟨av, cv, hv, hrest⟩
  have hcl : Value.cells v = #[v] := by rw [hv]; rfl
  unfold cdb_Decode_F
  rw [hcl]
  have bb := (BK.new w #[v] tB)
  have g1 := Grow.al (Grow.refl w) (.cells #[v] tB)
  have e1 : (World.alloc w (.cells #[v] tB)).heap.size = w.heap.size + 1 := al_size _ _
  generalize World.alloc w (.cells #[v] tB) = W1 at *
  have b1 := BK.new W1 rK0 tK
  have bb := bb.al (.cells rK0 tK)
  have g2 := g1.al (.cells rK0 tK)
  have e2 : (World.alloc W1 (.cells rK0 tK)).heap.size = W1.heap.size + 1 := al_size _ _
  generalize World.alloc W1 (.cells rK0 tK) = W2 at *
  have b2 := BK.new W2 rR0 tR
  have bb := bb.al (.cells rR0 tR)
  have b1 := b1.al (.cells rR0 tR)
  have g3 := g2.al (.cells rR0 tR)
  have e3 : (World.alloc W2 (.cells rR0 tR)).heap.size = W2.heap.size + 1 := al_size _ _
  generalize World.alloc W2 (.cells rR0 tR) = W3 at *
  have hle : w.heap.size ≤ w.heap.size := Nat.le_refl _
  refine ⟨_, bb.at 0, _, (RdB.len hr), cond_f (by simp; omega) ?_⟩
  refine find_c (isD (bs.getD 0 0) (bs.getD 1 0)) (fun y w' K g hK => callU_of (by kernel_rfl) (Decode1_c (bb.grow g) (hr.grow (g3.then g)) hl hK)) fun w62 g62 => ?_
  rw [hx]
  simp only [Option.getD_some, Option.isSome_some]
  have nb := BK.new w62 (rC zC) tC
  have bx := nb.strow (ds := rC x) rfl
  have gs := Below.strow (Grow.al (Grow.refl w62) (.cells (rC zC) tC)) (p := ⟨w62.heap.size, 0, none⟩) (Nat.le_refl _) (rC x)
  refine ⟨_, _, _, _, _, _, _, _, _, _, rfl, nb.row rfl rfl, cond_f rfl ?_⟩
  have e62 : W3.heap.size ≤ w62.heap.size := g62.size
  have hzc : (World.alloc w62 (.cells #[(.int .i64 (0 : Int)), (.int .u8 (0 : Int)), (.int .u8 (0 : Int)), (.bool false), (.bool false), (.bool false), (.bool false), (.bool false), (.bool false)] tC)) = World.alloc w62 (.cells (rC zC) tC) := rfl
  have e63 : w62.heap.size + 1 ≤ (stRow (World.alloc w62 (.cells (rC zC) tC)) ⟨w62.heap.size, 0, none⟩ (rC x)).heap.size := by
    have := (bx).lt; omega
  have g62 := g62.then gs
  rw [hzc]
  generalize stRow (World.alloc w62 (.cells (rC zC) tC)) ⟨w62.heap.size, 0, none⟩ (rC x) = W4 at *
  generalize hhx : w62.heap.size = hxb at *
  have nc := BK.new W4 rK0 tK
  have bc := nc.strow (ds := rK x.k 0 0 (.slice none 0 0) 0 0 0 false) rfl
  have gc := Below.strow (Grow.al (Grow.refl W4) (.cells rK0 tK)) (p := ⟨W4.heap.size, 0, none⟩) (Nat.le_refl _) (rK x.k 0 0 (.slice none 0 0) 0 0 0 false)
  refine ⟨_, bx.cell 0, nc.row rfl rfl, ?_⟩
  have D0 : DS w w.heap.size W1.heap.size W2.heap.size hxb W4.heap.size x v (rK x.k 0 0 (.slice none 0 0) 0 0 0 false) (stRow (World.alloc W4 (.cells rK0 tK)) ⟨W4.heap.size, 0, none⟩ (rK x.k 0 0 (.slice none 0 0) 0 0 0 false)) :=
    ⟨bb.grow (g62.then gc), b1.grow (g62.then gc), b2.grow (g62.then gc), bx.grow gc, bc, g3.then (g62.then gc)⟩
  generalize stRow (World.alloc W4 (.cells rK0 tK)) ⟨W4.heap.size, 0, none⟩ (rK x.k 0 0 (.slice none 0 0) 0 0 0 false) = W5 at *
  generalize hhb : w.heap.size = hb at *
  generalize hh1 : W1.heap.size = h1 at *
  generalize hh2 : W2.heap.size = h2 at *
  generalize hhc : W4.heap.size = hc at *
  obtain ⟨v128, hv128, r128, _⟩ := hr.sub (lo := none) (hi := some (.int .i64 (16 : Int))) (l := 0) (r := 16) (fun cap hcap => by rw [bounds_ni (by omega) (by simp at hcap; omega)]; rfl) (by omega) (by simpa using hl)
  rw [List.drop_zero, Nat.sub_zero, ← List.map_take] at r128
  have l128 : (bs.take 16).length = 16 := by simp; omega
  refine ⟨_, D0.bb.at 0, v128, hv128, _, RdB.len r128, ?_⟩
  rw [l128]
  refine ⟨fun (b : Bool) (i : Int) (ww : World) => b = false ∧ 0 ≤ i ∧ i ≤ 16 ∧ ∃ fo, DS w hb h1 h2 hxb hc x v (rK x.k 0 0 (.slice none 0 0) 0 0 0 fo) ww, fun (_ : Bool) (i : Int) (_ : World) => (16 - i).toNat, ⟨rfl, by omega, by omega, false, D0⟩, ?_⟩
  dsimp only [allR, mapR2, eqN, ltN]
  rintro m b i ww ⟨⟨rfl, h0, h1', fo, D⟩, hm⟩
  refine cond_intro (fun h => ?_) (fun h => ?_)
  · simp at h
    obtain ⟨i, rfl⟩ := Int.eq_ofNat_of_zero_le h0
    have hi : i < 16 := by omega
    refine JoinP.bool (fun b w' => b = false ∧ ∃ fo, DS w hb h1 h2 hxb hc x v (rK x.k 0 0 (.slice none 0 0) 0 0 0 fo) w') (fun j hj => ?_) ?_
    · obtain ⟨a, ha, hca⟩ := at_getD (bs := bs.take 16) (i := i) (Rd.grow r128 D.gr) (by omega)
      have eg : (bs.take 16).getD i 0 = bs.getD i 0 := by simp [hi]
      rw [eg] at hca
      refine ⟨a, ha, _, hca, _, _, _, _, _, _, _, _, _, D.bx.ld rfl, named_c hi fun w149 g149 => ⟨_, rfl, ?_⟩⟩
      have D := D.grow g149
      refine cond_intro (fun e => hj _ _ ⟨rfl, fo, D⟩) (fun e => ?_)
      refine JoinP.bool (fun b w' => w' = w149 ∧ b = (decide (i = 1) && x.fo && decide (bs.getD 1 0 = 8))) (fun j1 hj1 => ?_) ?_
      · have hi1 : ((i : Int) == (1 : Int)) = decide (i = 1) := by
          rw [Bool.eq_iff_iff]; simp only [beq_iff_eq, decide_eq_true_eq]; omega
        show cond ((i : Int) == (1 : Int)) _ _
        rw [hi1]
        refine cond_intro (fun e1 => ⟨_, D.bx.cell 6, cond_intro (fun e2 => hj1 _ _ ⟨rfl, ?_⟩) (fun e2 => hj1 _ _ ⟨rfl, ?_⟩)⟩) (fun e1 => hj1 _ _ ⟨rfl, ?_⟩)
        · simp only [decide_eq_true_eq] at e1; subst e1
          rw [show (8 : Int) = ((8 : UInt8).toNat : Int) from rfl, u8_beq]; simp [e2]
        · simp [e2]
        · simp [e1]
      · rintro b w' ⟨rfl, rfl⟩
        refine cond_intro (fun e1 => ⟨st1_add D.bc (by simp), hj _ _ ⟨rfl, true, D.set (by omega) (by omega) (by omega) (by omega) (by omega) 7 _⟩⟩) (fun e1 => cond_f rfl (hj _ _ ⟨?_, fo, D⟩))
        rw [u8_ne0]
        rcases ok i hi with h | ⟨h2, h3, h4⟩ | h
        · rw [h] at e; cases e
        · rw [h3, h4, h2] at e1; simp at e1
        · simp only [h]; rfl
    · rintro b w' ⟨rfl, fo, D⟩
      rw [wi64_id (n := (i : Int) + 1) (by omega) (by omega)]
      exact ⟨⟨rfl, by omega, by omega, fo, D⟩, by omega⟩
  · have hgr := getV_range bs 2 8
    have hgn := getV_range bs 10 4
    refine JoinP.bool (fun b w' => b = false ∧ ∃ fo, DS w hb h1 h2 hxb hc x v (rK x.k (atD x bs) 0 (.slice none 0 0) 0 0 0 fo) w') (fun j hj => ?_) ?_
    · refine ⟨_, D.bx.cell 3, cond_intro (fun e => ⟨_, D.bb.at 0, bin_Get_c (hr.grow D.gr) (by decide) (by decide) ⟨_, _, rfl, ?_⟩⟩) (fun e => hj _ _ ⟨rfl, fo, ?_⟩)⟩
      · have hle := hat e
        refine JoinP.bool (fun b w' => b = false ∧ w' = ww) (fun j1 hj1 => cond_f rfl (hj1 _ _ ⟨by simp; omega, rfl⟩)) ?_
        rintro b w' ⟨rfl, rfl⟩
        refine ⟨st1_add D.bc (by simp), hj _ _ ⟨rfl, fo, ?_⟩⟩
        rw [wi64_id (n := getV bs 2 8) (by omega) (by omega)]
        have := D.set (by omega) (by omega) (by omega) (by omega) (by omega) 1 (.int .i64 (getV bs 2 8))
        have ea : atD x bs = getV bs 2 8 := by unfold atD; rw [if_pos e]
        rw [ea]; exact this
      · have ea : atD x bs = 0 := by unfold atD; rw [if_neg (by rw [e]; simp)]
        rw [ea]; exact D
    rintro b w' ⟨rfl, fo, D⟩
    refine JoinP.unit (fun w' => ∃ fo, DS w hb h1 h2 hxb hc x v (rK x.k (atD x bs) (nD x bs) (.slice none 0 0) 0 0 (tD x bs) fo) w') (fun j hj => ?_) ?_
    · refine ⟨_, D.bx.cell 4, cond_intro (fun e => ⟨_, D.bb.at 0, bin_Get_c (hr.grow D.gr) (by decide) (by decide) ⟨_, _, rfl, ?_⟩⟩) (fun e => ⟨_, D.bx.cell 5, cond_intro (fun e2 => ⟨_, D.bb.at 0, ?_⟩) (fun e2 => ⟨_, D.bx.cell 7, cond_intro (fun e3 => ⟨_, D.bb.at 0, ?_⟩) (fun e3 => hj _ ⟨fo, ?_⟩)⟩)⟩)⟩
      · refine ⟨st1_add D.bc (by simp), hj _ ⟨fo, ?_⟩⟩
        have h4 : (256 : Int) ^ (4 : Int).toNat = 4294967296 := by decide
        rw [wi64_id (n := getV bs 10 4) (by omega) (by omega)]
        have := D.set (by omega) (by omega) (by omega) (by omega) (by omega) 2 (.int .i64 (getV bs 10 4))
        have ea : nD x bs = getV bs 10 4 := by unfold nD; rw [if_pos e]
        have et : tD x bs = 0 := by unfold tD; rw [if_pos e]
        rw [ea, et]; exact this
      · obtain ⟨a, ha, hca⟩ := at_getD (i := 13) (hr.grow D.gr) (by omega)
        refine ⟨a, ha, _, hca, st1_add D.bc (by simp), hj _ ⟨fo, ?_⟩⟩
        have hu := u8_lt (bs.getD 13 0)
        rw [wi64_id (n := ((bs.getD 13 0).toNat : Int)) (by omega) (by omega)]
        have := D.set (by omega) (by omega) (by omega) (by omega) (by omega) 2 (.int .i64 ((bs.getD 13 0).toNat : Int))
        have ea : nD x bs = ((bs.getD 13 0).toNat : Int) := by unfold nD; rw [if_neg (by rw [e]; simp), if_pos e2]
        have et : tD x bs = 0 := by unfold tD; rw [if_neg (by rw [e]; simp), if_pos e2]
        rw [ea, et]; exact this
      · obtain ⟨a, ha, hca⟩ := at_getD (i := 2) (hr.grow D.gr) (by omega)
        refine ⟨a, ha, _, hca, st1_add D.bc (by simp), hj _ ⟨fo, ?_⟩⟩
        have hu := u8_lt (bs.getD 2 0)
        rw [wi64_id (n := ((bs.getD 2 0).toNat : Int)) (by omega) (by omega)]
        have := D.set (by omega) (by omega) (by omega) (by omega) (by omega) 6 (.int .i64 ((bs.getD 2 0).toNat : Int))
        have ea : nD x bs = 0 := by unfold nD; rw [if_neg (by rw [e]; simp), if_neg (by rw [e2]; simp)]
        have et : tD x bs = ((bs.getD 2 0).toNat : Int) := by unfold tD; rw [if_neg (by rw [e]; simp), if_neg (by rw [e2]; simp), if_pos e3]
        rw [ea, et]; exact this
      · have ea : nD x bs = 0 := by unfold nD; rw [if_neg (by rw [e]; simp), if_neg (by rw [e2]; simp)]
        have et : tD x bs = 0 := by unfold tD; rw [if_neg (by rw [e]; simp), if_neg (by rw [e2]; simp), if_neg (by rw [e3]; simp)]
        rw [ea, et]; exact D
    rintro w' ⟨fo, D⟩
    refine cond_f rfl ?_
    have l1 := D.bc.ld (n := 8) rfl
    have s1 := D.b1.row (ds := rK x.k (atD x bs) (nD x bs) (.slice none 0 0) 0 0 (tD x bs) fo) rfl rfl
    have q1 := D.b1.strow (ds := rK x.k (atD x bs) (nD x bs) (.slice none 0 0) 0 0 (tD x bs) fo) rfl
    have q2 := D.b2.strow_other (b' := h1) (by omega) 0 none (rK x.k (atD x bs) (nD x bs) (.slice none 0 0) 0 0 (tD x bs) fo)
    have gq := Below.strow D.gr (p := ⟨h1, 0, none⟩) (by show _ ≤ h1; omega) (rK x.k (atD x bs) (nD x bs) (.slice none 0 0) 0 0 (tD x bs) fo)
    have s2 := q2.row (ds := rR0) rfl rfl
    have p2 := q2.strow (ds := rR0) rfl
    have p1 := q1.strow_other (b' := h2) (by omega) 0 none rR0
    have gp := Below.strow gq (p := ⟨h2, 0, none⟩) (by show _ ≤ h2; omega) rR0
    exact ⟨_, _, _, _, _, _, _, _, l1, s1, s2, _, _, _, _, _, _, _, _, p1.ld (n := 8) rfl, _, _, _, _, _, p2.ld (n := 5) rfl, c fo _ gp⟩

theorem DecodeShort_c {w : World} {v : Value} {bs : List UInt8} {R : KV} (hr : RdB w v bs) (hl : bs.length < 16)
    (c : ∀ w', Grow w w' → R (.tuple #[vK0, vR 2 5 8192 (.slice none 0 0) 0, .bool false]) w') :
    Go.CW.Spec Try.prog 9 #[v] w R := by
  apply cdb_Decode_wp
  obtain ⟨av, cv, hv, hrest⟩ := hr
  have hr : RdB w v bs := ⟨av, cv, hv, hrest⟩
  have hcl : Value.cells v = #[v] := by rw [hv]; rfl
  unfold cdb_Decode_F
  rw [hcl]
  have bb := (BK.new w #[v] tB)
  have g1 := Grow.al (Grow.refl w) (.cells #[v] tB)
  have e1 : (World.alloc w (.cells #[v] tB)).heap.size = w.heap.size + 1 := al_size _ _
  generalize World.alloc w (.cells #[v] tB) = W1 at *
  have b1 := BK.new W1 rK0 tK
  have bb := bb.al (.cells rK0 tK)
  have g2 := g1.al (.cells rK0 tK)
  have e2 : (World.alloc W1 (.cells rK0 tK)).heap.size = W1.heap.size + 1 := al_size _ _
  generalize World.alloc W1 (.cells rK0 tK) = W2 at *
  have b2 := BK.new W2 rR0 tR
  have bb := bb.al (.cells rR0 tR)
  have b1 := b1.al (.cells rR0 tR)
  have g3 := g2.al (.cells rR0 tR)
  generalize World.alloc W2 (.cells rR0 tR) = W3 at *
  refine ⟨_, bb.at 0, _, (RdB.len hr), cond_t (by simp; omega) ?_⟩
  refine Wrong_c fun w6 g6 => ⟨_, _, _, _, _, rfl, ?_⟩
  have b1 := b1.grow g6
  have b2 := b2.grow g6
  have g := g3.then g6
  generalize hhb : w.heap.size = hb at *
  generalize hh1 : W1.heap.size = h1 at *
  generalize hh2 : W2.heap.size = h2 at *
  have s1 := b1.row (ds := rK0) rfl rfl
  have q1 := b1.strow (ds := rK0) rfl
  have q2 := b2.strow_other (b' := h1) (by omega) 0 none rK0
  have gq := Below.strow g (p := ⟨h1, 0, none⟩) (by show _ ≤ h1; omega) rK0
  have s2 := q2.row (ds := rR 2 5 8192 (.slice none 0 0) 0) rfl rfl
  have p2 := q2.strow (ds := rR 2 5 8192 (.slice none 0 0) 0) rfl
  have p1 := q1.strow_other (b' := h2) (by omega) 0 none (rR 2 5 8192 (.slice none 0 0) 0)
  have gp := Below.strow gq (p := ⟨h2, 0, none⟩) (by show _ ≤ h2; omega) (rR 2 5 8192 (.slice none 0 0) 0)
  exact ⟨s1, s2, _, _, _, _, _, _, _, _, p1.ld (n := 8) rfl, _, _, _, _, _, p2.ld (n := 5) rfl, c _ gp⟩

end Go.Proofs.Ytdkknncpmkajnaa
