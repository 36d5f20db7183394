/- The contracts of the table, of find, of Encode. -/
import Derived.Test.YtdkknncpmkajnaaCdbM
import Derived.Test.YtdkknncpmkajnaaCpy
import Derived.Test.YtdkknncpmkajnaaGFun
import Derived.KernelRfl
set_option linter.unusedVariables false
set_option linter.unusedSimpArgs false
set_option maxRecDepth 100000
namespace Go.Proofs.Ytdkknncpmkajnaa
open Go Go.CW Go.RowKit

abbrev tC : TypeId := 41
abbrev tK : TypeId := 27

def cdb_codes_F (w : World) (R : KV) : Prop :=
 R (.slice (some ⟨(Array.size (World.heap w)), 0, none⟩) 17 17) (World.alloc w (.cells (EC.flat codesL).toArray tC))

theorem cdb_codes_wp (w : World) (R : KV) (h : cdb_codes_F w R) : Go.CW.Spec Try.prog 18 #[] w R :=
  spec_of Try.func18 (by kernel_rfl) (show cdb_codes_F w R = _ by kernel_rfl) h

theorem codes_c {w : World} {R : KV} (c : ∀ v w', Grow w w' → RdR EC w' v codesL → R v w') : Go.CW.Spec Try.prog 18 #[] w R :=
  cdb_codes_wp _ _ (c _ _ (Grow.al (Grow.refl w) _) (OwnR.lit (E := EC) w (Nat.le_refl _) tC codesL 17 rfl (by simp [maxLen])).rd)

theorem callU_of {P : Program} {g : FuncId} {first captured args : Array Value} {w : World} {K : KV} (hb : (P.funcs[g]?).map (fun fn => fn.body.isSome) = some true) (h : Go.CW.Spec P g (app3 first args captured) w K) :
    callU P (.func (.func g) first captured) args w K := by
  unfold callU
  simp only [hb]
  exact h

abbrev vC (c : Cod) : Value := .agg #[.int .i64 c.k, .int .u8 (c.op.toNat : Int), .int .u8 (c.sub.toNat : Int), .bool c.at_, .bool c.n, .bool c.sh, .bool c.fo, .bool c.ty, .bool c.pa]
abbrev rC (c : Cod) : Array Value := #[.int .i64 c.k, .int .u8 (c.op.toNat : Int), .int .u8 (c.sub.toNat : Int), .bool c.at_, .bool c.n, .bool c.sh, .bool c.fo, .bool c.ty, .bool c.pa]

theorem find_at {α : Type} {q : α → Bool} {L : List α} {i : Nat} (hi : i < L.length) (hn : ∀ c ∈ L.take i, q c = false) (hq : q L[i] = true) : L.find? q = some L[i] := by
  conv => lhs; rw [← List.take_append_drop i L]
  rw [List.find?_append, List.find?_eq_none.2 (fun c hc => by rw [hn c hc]; simp), List.drop_eq_getElem_cons hi, List.find?_cons_of_pos hq]; rfl

theorem find_none {α : Type} {q : α → Bool} {L : List α} {i : Nat} (hi : L.length ≤ i) (hn : ∀ c ∈ L.take i, q c = false) : L.find? q = none := by
  rw [List.take_of_length_le hi] at hn
  exact List.find?_eq_none.2 (fun c hc => by rw [hn c hc]; simp)

theorem find_c {w : World} {p : Value} (q : Cod → Bool) {R : KV}
    (hq : ∀ c w' K, Grow w w' → (∀ w'', Grow w' w'' → K (.bool (q c)) w'') → callU Try.prog p #[vC c] w' K)
    (c : ∀ w', Grow w w' → R (.tuple #[vC ((codesL.find? q).getD zC), .bool (codesL.find? q).isSome]) w') : Go.CW.Spec Try.prog 11 #[p] w R := by
  apply cdb_find_wp
  have hz : (rC zC) = #[(.int .i64 (0 : Int)), (.int .u8 (0 : Int)), (.int .u8 (0 : Int)), (.bool false), (.bool false), (.bool false), (.bool false), (.bool false), (.bool false)] := rfl
  unfold cdb_find_F
  rw [← hz]
  have gA := Grow.al (Grow.al (Grow.refl w) (.cells (rC zC) tC)) (.cells (rC zC) tC)
  have bA := (BK.new w (rC zC) tC).al (.cells (rC zC) tC)
  have bB := BK.new (World.alloc w (.cells (rC zC) tC)) (rC zC) tC
  have hne : (World.alloc w (.cells (rC zC) tC)).heap.size ≠ w.heap.size := by rw [al_size]; omega
  have hle : w.heap.size ≤ (World.alloc w (.cells (rC zC) tC)).heap.size := by rw [al_size]; omega
  generalize (World.alloc w (.cells (rC zC) tC)).heap.size = hB at *
  generalize World.alloc (World.alloc w (.cells (rC zC) tC)) (.cells (rC zC) tC) = W2 at *
  refine codes_c fun v0 w1 g1 r1 => ⟨_, r1.len, ?_⟩
  refine JoinP.bool (fun b w4 => ∃ c : Cod, Grow w w4 ∧ BK w4 w.heap.size (rC zC) tC ∧ BK w4 hB (rC c) tC ∧ b = (codesL.find? q).isSome ∧ c = (codesL.find? q).getD zC) (fun j hj => ?_) ?_
  · refine ⟨fun (b : Bool) (i : Int) (ww : World) => b = false ∧ 0 ≤ i ∧ i ≤ 17 ∧ Grow w1 ww ∧ (∀ c ∈ codesL.take i.toNat, q c = false), fun (_ : Bool) (i : Int) (_ : World) => (17 - i).toNat, ⟨rfl, by omega, by omega, Grow.refl w1, by simp⟩, ?_⟩
    dsimp only [allR, mapR2, eqN, ltN]
    rintro m b i ww ⟨⟨rfl, h0, h1, g, hn⟩, hm⟩
    have hL : codesL.length = 17 := rfl
    refine cond_intro (fun h => ?_) (fun h => ?_)
    · simp only [decide_eq_true_eq] at h
      have hi : i.toNat < codesL.length := by omega
      obtain ⟨a, ha, hc, _⟩ := (r1.grow g).at h0 h
      generalize hx : codesL[i.toNat]'(by omega) = x at *
      have nb := BK.new ww (rC zC) tC
      have gn := Grow.al (Grow.refl ww) (.cells (rC zC) tC)
      have ns := nb.strow (ds := rC x) rfl
      have gs : Grow ww (stRow (World.alloc ww (.cells (rC zC) tC)) ⟨ww.heap.size, 0, none⟩ (rC x)) := Below.strow gn (Nat.le_refl _) _
      refine ⟨a, ha, _, _, _, _, _, _, _, _, _, ldCells_of (vs := EC.enc x) rfl hc, nb.row rfl rfl, _, _, _, _, _, _, _, _, _, ns.ld rfl, ?_⟩
      refine hq x _ _ (gA.then (g1.then (g.then gs))) fun w48 g48 => ⟨_, rfl, ?_⟩
      have gww : Grow w w48 := gA.then (g1.then (g.then (gs.then g48)))
      have bA48 := bA.grow (g1.then (g.then (gs.then g48)))
      have bB48 := bB.grow (g1.then (g.then (gs.then g48)))
      refine cond_intro (fun hqx => ?_) (fun hqx => ?_)
      · refine ⟨_, _, _, _, _, _, _, _, _, (ns.grow g48).ld rfl, bB48.row rfl rfl, hj _ _ ⟨x, Below.strow gww hle _, bA48.strow_other hne.symm _ _ _, bB48.strow rfl, ?_, ?_⟩⟩
        · rw [find_at hi hn (by rw [hx]; exact hqx)]; rfl
        · rw [find_at hi hn (by rw [hx]; exact hqx), hx]; rfl
      · rw [wi64_id (n := i + 1) (by omega) (by omega)]
        refine ⟨⟨rfl, by omega, by omega, g.then (gs.then g48), ?_⟩, by omega⟩
        have e : (i + 1).toNat = i.toNat + 1 := by omega
        intro c hc
        rw [e, List.take_add_one, List.getElem?_eq_getElem hi] at hc
        simp only [Option.toList_some, List.mem_append, List.mem_singleton] at hc
        rcases hc with hc | rfl
        · exact hn c hc
        · rw [hx]; exact hqx
    · simp only [decide_eq_false_iff_not] at h
      have hf := find_none (q := q) (L := codesL) (i := i.toNat) (by omega) hn
      exact hj _ _ ⟨zC, gA.then (g1.then g), bA.grow (g1.then g), bB.grow (g1.then g), by rw [hf]; rfl, by rw [hf]; rfl⟩
  · rintro b w4 ⟨x, g4, b0, b1, rfl, hx⟩
    rw [← hx] at c
    have b2 := b0.strow (ds := rC x) rfl
    have l1 := b1.ld (n := 9) rfl
    have l2 := b2.ld (n := 9) rfl
    have s1 := b0.row (ds := rC x) rfl rfl
    have hc := c _ (Below.strow g4 (p := ⟨w.heap.size, 0, none⟩) (Nat.le_refl _) (rC x))
    exact ⟨x.k, (x.op.toNat : Int), (x.sub.toNat : Int), x.at_, x.n, x.sh, x.fo, x.ty, x.pa, l1, s1, x.k, (x.op.toNat : Int), (x.sub.toNat : Int), x.at_, x.n, x.sh, x.fo, x.ty, x.pa, l2, hc⟩

/-- a command's cells -/
abbrev vK (k a n : Int) (d : Value) (key new t : Int) (f : Bool) : Value := .agg #[.int .i64 k, .int .i64 a, .int .i64 n, d, .int .u64 key, .int .u64 new, .int .i64 t, .bool f]
abbrev rK (k a n : Int) (d : Value) (key new t : Int) (f : Bool) : Array Value := #[.int .i64 k, .int .i64 a, .int .i64 n, d, .int .u64 key, .int .u64 new, .int .i64 t, .bool f]

/-- the code's own row, the command's, the bytes -/
structure ES (w : World) (B hx hc : Nat) (x : Cod) (C : Array Value) (ww : World) (v : Value) (bs : List UInt8) : Prop where
  bx : BK ww hx (rC x) tC
  bc : BK ww hc C tK
  own : OwnB ww B tb v bs
  gr : Grow w ww

theorem ES.grow {w : World} {B hx hc : Nat} {x : Cod} {C : Array Value} {ww w' : World} {v : Value} {bs : List UInt8} (h : ES w B hx hc x C ww v bs) (g : Grow ww w') : ES w B hx hc x C w' v bs :=
  ⟨h.bx.grow g, h.bc.grow g, h.own.grow g, h.gr.then g⟩
theorem ES.dr {w : World} {B hx hc : Nat} {x : Cod} {C : Array Value} {ww : World} {v : Value} {bs : List UInt8} (h : ES w B hx hc x C ww v bs) : ES w B hx hc x C ww.drew v bs := h.grow (Grow.dr (Grow.refl ww))
theorem ES.put {w : World} {B hx hc : Nat} {x : Cod} {C : Array Value} {ww : World} {v : Value} {bs : List UInt8} (hxB : hx < B) (hcB : hc < B) (hwB : w.heap.size ≤ B) (h : ES w B hx hc x C ww v bs) {i : Int} (h0 : 0 ≤ i) (h1 : i < bs.length) :
    ∃ a, sliceAt v i 1 = some a ∧ St1 ww a ∧ ∀ y : UInt8, ES w B hx hc x C (ww.setCell a (.int .u8 (y.toNat : Int))) v (bs.set i.toNat y) := by
  obtain ⟨a, ha, hc', hs, hB, hob, hw⟩ := h.own.put h0 (by simpa using h1)
  refine ⟨a, ha, hs, fun y => ⟨?_, ?_, ?_, h.gr.setCell (Nat.le_trans hwB hB) _⟩⟩
  · exact (Below.heap_setCell ww a _ hx (by omega)).trans h.bx
  · exact (Below.heap_setCell ww a _ hc (by omega)).trans h.bc
  · have := hw (b8 y)
    show Own _ B tb v ((bs.set i.toNat y).map b8)
    rw [List.map_set]; exact this
theorem ES.by_ {w : World} {B hx hc : Nat} {x : Cod} {C : Array Value} {ww w' : World} {v : Value} {bs cs : List UInt8} (hxB : hx < B) (hcB : hc < B) (hwB : w.heap.size ≤ B) (h : ES w B hx hc x C ww v bs) (o : OwnB w' B tb v cs) (g : ww.grownBy w' v.ownBlock) : ES w B hx hc x C w' v cs := by
  have hb := h.own.blk
  have hne : ∀ k, k < B → some k ≠ v.ownBlock := fun k hk e => by have := hb k e.symm; omega
  refine ⟨(g.block hx h.bx.lt (hne _ hxB)).trans h.bx, (g.block hc h.bc.lt (hne _ hcB)).trans h.bc, o, h.gr.trans (grownBy.below g h.gr.size (fun k hk => Nat.le_trans hwB (hb k hk)))⟩

theorem Encode_c {w : World} {k a n key new t : Int} {d : Value} {f : Bool} {x : Cod} {R : KV} (hx : codesL.find? (isK k) = some x)
    (ha : 0 ≤ a ∧ a < 4611686018427387904) (hn : 0 ≤ n ∧ n ≤ 255) (ht : 0 ≤ t ∧ t ≤ 15)
    (c : ∀ v w', Grow w w' → RdB w' v (encB x f t a n) → NewV w v → R (.tuple #[v, .int .i64 0]) w') :
    Go.CW.Spec Try.prog 8 #[vK k a n d key new t f] w R := by
  apply cdb_Encode_wp
  unfold cdb_Encode_F
  have hz : (rC zC) = #[(.int .i64 (0 : Int)), (.int .u8 (0 : Int)), (.int .u8 (0 : Int)), (.bool false), (.bool false), (.bool false), (.bool false), (.bool false), (.bool false)] := rfl
  rw [← hz]
  have bc := BK.new w (rK k a n d key new t f) tK
  have g0 := Grow.al (Grow.refl w) (.cells (rK k a n d key new t f) tK)
  have hcl := bc.lt
  have hcl' : w.heap.size ≤ (World.alloc w (.cells (rK k a n d key new t f) tK)).heap.size := g0.size
  generalize World.alloc w (.cells (rK k a n d key new t f) tK) = W0 at *
  refine find_c (isK k) (fun y w' K g hK => ?_) fun w1 g1 => ?_
  · refine callU_of (by kernel_rfl) (cdb_Encode_1_wp _ _ _ _ _ _ _ _ _ _ _ _ ?_)
    refine ⟨_, (BK.new w' (rC y) tC).cell 0, withAddr_some ⟨_, ((bc.grow g).al (.cells (rC y) tC)).cell 0, ?_⟩⟩
    exact hK _ (Grow.al (Grow.refl w') _)
  rw [hx]
  simp only [Option.getD_some, Option.isSome_some]
  have nb := BK.new w1 (rC zC) tC
  have bx := nb.strow (ds := rC x) rfl
  have gs : Grow w1 (stRow (World.alloc w1 (.cells (rC zC) tC)) ⟨w1.heap.size, 0, none⟩ (rC x)) := Below.strow (Grow.al (Grow.refl w1) (.cells (rC zC) tC)) (Nat.le_refl _) _
  have bcW := bc.grow (g1.then gs)
  have gW := g0.then (g1.then gs)
  have hW : Grow w (stRow (World.alloc w1 (.cells (rC zC) tC)) ⟨w1.heap.size, 0, none⟩ (rC x)) := gW
  refine ⟨_, _, _, _, _, _, _, _, _, _, rfl, nb.row rfl rfl, ?_⟩
  generalize stRow (World.alloc w1 (.cells (rC zC) tC)) ⟨w1.heap.size, 0, none⟩ (rC x) = W at *
  generalize w1.heap.size = hxb at *
  generalize w.heap.size = hcb at *
  refine JoinP.bool (fun b w' => b = false ∧ w' = W) (fun j hj => ?_) ?_
  · refine cond_f rfl (JoinP.bool (fun b w' => b = false ∧ w' = W) (fun j1 hj1 => ?_) ?_)
    · refine ⟨_, bx.cell 3, cond_intro (fun _ => ⟨_, bcW.cell 1, cond_f (by simp; omega) ⟨_, bcW.cell 2, hj1 _ _ ⟨by simp; omega, rfl⟩⟩⟩) (fun _ => hj1 _ _ ⟨rfl, rfl⟩)⟩
    rintro b w' ⟨rfl, rfl⟩
    refine cond_f rfl (JoinP.bool (fun b w'' => b = false ∧ w'' = w') (fun j1 hj1 => ?_) ?_)
    · refine ⟨_, bx.cell 4, cond_intro (fun _ => ⟨_, bcW.cell 2, hj1 _ _ ⟨by simp; omega, rfl⟩⟩) (fun _ => hj1 _ _ ⟨rfl, rfl⟩)⟩
    rintro b w' ⟨rfl, rfl⟩
    refine cond_f rfl (JoinP.bool (fun b w'' => b = false ∧ w'' = w') (fun j1 hj1 => ?_) ?_)
    · refine ⟨_, bx.cell 5, cond_intro (fun _ => ⟨_, bcW.cell 2, hj1 _ _ ⟨by simp; omega, rfl⟩⟩) (fun _ => hj1 _ _ ⟨rfl, rfl⟩)⟩
    rintro b w' ⟨rfl, rfl⟩
    refine cond_f rfl ?_
    refine ⟨_, bx.cell 7, cond_intro (fun _ => ⟨_, bcW.cell 6, cond_f (by simp; omega) ⟨_, bcW.cell 6, hj _ _ ⟨by simp; omega, rfl⟩⟩⟩) (fun _ => hj _ _ ⟨rfl, rfl⟩)⟩
  rintro b w' ⟨rfl, rfl⟩
  refine cond_f rfl ?_
  obtain ⟨v14, w15, hmk, o15, g15⟩ := make_bytes (w := w') 16 (by omega)
  have hxB : hxb < w'.heap.size := bx.lt
  have hcB : hcb < w'.heap.size := bcW.lt
  have hwB : w.heap.size ≤ w'.heap.size := hW.size
  generalize hBe : w'.heap.size = B at *
  have E0 : ES w B hxb hcb x (rK k a n d key new t f) (World.drew w15) v14 (List.replicate 16 0) :=
    ES.dr ⟨bx.grow g15, bcW.grow g15, o15, hW.then g15⟩
  obtain ⟨a18, ha18, s18, E1⟩ := E0.put hxB hcB hwB (i := 0) (by omega) (by simp)
  have E1 := E1 x.op
  obtain ⟨a20, ha20, s20, E2⟩ := E1.put hxB hcB hwB (i := 1) (by omega) (by simp)
  have E2 := E2 x.sub
  refine ⟨v14, w15, hmk, _, E0.bx.cell 1, _, E0.bx.cell 2, a18, ha18, s18, ⟨_, E1.bx.cell 2, rfl⟩, a20, ha20, s20, ?_⟩
  have e0 : ((List.replicate 16 (0 : UInt8)).set (0 : Int).toNat x.op).set (1 : Int).toNat x.sub = x.op :: x.sub :: List.replicate 14 0 := rfl
  rw [e0] at E2
  generalize World.setCell (World.setCell (World.drew w15) a18 (.int .u8 (x.op.toNat : Int))) a20 (.int .u8 (x.sub.toNat : Int)) = W2 at *
  refine JoinP.unit (fun w' => ES w B hxb hcb x (rK k a n d key new t f) w' v14 (e2 x f)) (fun j hj => ?_) ?_
  · refine JoinP.bool (fun b w' => w' = W2 ∧ b = (x.fo && f)) (fun j1 hj1 => ?_) ?_
    · refine ⟨_, E2.bx.cell 6, cond_intro (fun h => ⟨_, E2.bc.cell 7, hj1 _ _ ⟨rfl, by rw [h]; rfl⟩⟩) (fun h => hj1 _ _ ⟨rfl, by rw [h]; rfl⟩)⟩
    rintro b w' ⟨rfl, rfl⟩
    refine cond_intro (fun h => ?_) (fun h => hj _ ?_)
    · obtain ⟨a, ha, s, E⟩ := E2.put hxB hcB hwB (i := 1) (by omega) (by simp)
      refine ⟨a, ha, s, hj _ ?_⟩
      have := E 8
      unfold e2; rw [if_pos h]; exact this
    · unfold e2; rw [if_neg (by rw [h]; simp)]; exact E2
  intro w2 E3
  refine JoinP.unit (fun w' => ES w B hxb hcb x (rK k a n d key new t f) w' v14 (e3 x f t)) (fun j hj => ?_) ?_
  · refine ⟨_, E3.bx.cell 7, cond_intro (fun h => ⟨_, E3.bc.cell 6, ?_⟩) (fun h => hj _ ?_)⟩
    · obtain ⟨a, ha, s, E⟩ := E3.put hxB hcB hwB (i := 2) (by omega) (by simp [e2])
      refine ⟨a, ha, s, hj _ ?_⟩
      have := E (byt t)
      rw [w8, ← byt_toNat]
      unfold e3; rw [if_pos h]; exact this
    · unfold e3; rw [if_neg (by rw [h]; simp)]; exact E3
  intro w3 E4
  have l3 := e3_length x f t
  refine JoinP.unit (fun w' => ES w B hxb hcb x (rK k a n d key new t f) w' v14 (e4 x f t a)) (fun j hj => ?_) ?_
  · refine ⟨_, E4.bx.cell 3, cond_intro (fun h => ?_) (fun h => hj _ ?_)⟩
    · obtain ⟨v', hv', hcp⟩ := own_tail (sT := tB) (ty := 3) tyB E4.own (o := 2) (by simp [l3]) .i64
      refine ⟨v', hv', _, E4.dr.bc.cell 1, ?_⟩
      rw [w64_id (n := a) (by omega) (by omega)]
      refine bin_Put_c (bs := []) (Rd.nil _) (by simp) fun v40 w41 g41 r41 _ => ?_
      obtain ⟨w43, h43, o43, g43⟩ := hcp w41 _ v40 ((putL a 8).map b8) (E4.dr.grow g41).own rfl r41 one_b8 (by simp [putL_length, l3])
      rw [List.length_map, putL_length] at h43
      refine ⟨_, w43, h43, hj _ (ES.by_ hxB hcB hwB (E4.dr.grow g41) ?_ g43)⟩
      unfold e4; rw [if_pos h]
      simp only [List.length_map, putL_length] at o43
      simpa [OwnB] using o43
    · unfold e4; rw [if_neg (by rw [h]; simp)]; exact E4
  intro w4 E5
  have l4 := e4_length x f t a
  refine JoinP.unit (fun w' => ES w B hxb hcb x (rK k a n d key new t f) w' v14 (encB x f t a n)) (fun j hj => ?_) ?_
  · refine ⟨_, E5.bx.cell 4, cond_intro (fun h => ?_) (fun h => ⟨_, E5.bx.cell 5, cond_intro (fun h2 => ⟨_, E5.bc.cell 2, ?_⟩) (fun h2 => hj _ ?_)⟩)⟩
    · obtain ⟨v', hv', hcp⟩ := own_tail (sT := tB) (ty := 3) tyB E5.own (o := 10) (by simp [l4]) .i64
      refine ⟨v', hv', _, E5.dr.bc.cell 2, ?_⟩
      rw [w64_id (n := n) (by omega) (by omega)]
      refine bin_Put_c (bs := []) (Rd.nil _) (by simp) fun v40 w41 g41 r41 _ => ?_
      obtain ⟨w43, h43, o43, g43⟩ := hcp w41 _ v40 ((putL n 4).map b8) (E5.dr.grow g41).own rfl r41 one_b8 (by simp [putL_length, l4])
      rw [List.length_map, putL_length] at h43
      refine ⟨_, w43, h43, hj _ (ES.by_ hxB hcB hwB (E5.dr.grow g41) ?_ g43)⟩
      unfold encB; rw [if_pos h]
      simp only [List.length_map, putL_length] at o43
      simpa [OwnB] using o43
    · obtain ⟨a, ha, s, E⟩ := E5.put hxB hcB hwB (i := 13) (by omega) (by simp [l4])
      refine ⟨a, ha, s, hj _ ?_⟩
      have := E (byt n)
      rw [w8, ← byt_toNat]
      unfold encB; rw [if_neg (by rw [h]; simp), if_pos h2]; exact this
    · unfold encB; rw [if_neg (by rw [h]; simp), if_neg (by rw [h2]; simp)]; exact E5
  intro w5 E6
  exact c _ _ E6.gr E6.own.rd (fun k hk => Nat.le_trans hwB (E6.own.blk k hk))

theorem EncodeNone_c {w : World} {k a n key new t : Int} {d : Value} {f : Bool} {R : KV} (hx : codesL.find? (isK k) = none)
    (c : ∀ w', Grow w w' → R (.tuple #[.slice none 0 0, .int .i64 1]) w') :
    Go.CW.Spec Try.prog 8 #[vK k a n d key new t f] w R := by
  apply cdb_Encode_wp
  unfold cdb_Encode_F
  have hz : (rC zC) = #[(.int .i64 (0 : Int)), (.int .u8 (0 : Int)), (.int .u8 (0 : Int)), (.bool false), (.bool false), (.bool false), (.bool false), (.bool false), (.bool false)] := rfl
  rw [← hz]
  have bc := BK.new w (rK k a n d key new t f) tK
  have g0 := Grow.al (Grow.refl w) (.cells (rK k a n d key new t f) tK)
  generalize World.alloc w (.cells (rK k a n d key new t f) tK) = W0 at *
  refine find_c (isK k) (fun y w' K g hK => ?_) fun w1 g1 => ?_
  · refine callU_of (by kernel_rfl) (cdb_Encode_1_wp _ _ _ _ _ _ _ _ _ _ _ _ ?_)
    refine ⟨_, (BK.new w' (rC y) tC).cell 0, withAddr_some ⟨_, ((bc.grow g).al (.cells (rC y) tC)).cell 0, ?_⟩⟩
    exact hK _ (Grow.al (Grow.refl w') _)
  rw [hx]
  simp only [Option.getD_none, Option.isSome_none]
  have nb := BK.new w1 (rC zC) tC
  have gs : Grow w1 (stRow (World.alloc w1 (.cells (rC zC) tC)) ⟨w1.heap.size, 0, none⟩ (rC zC)) := Below.strow (Grow.al (Grow.refl w1) (.cells (rC zC) tC)) (Nat.le_refl _) _
  refine ⟨_, _, _, _, _, _, _, _, _, _, rfl, nb.row rfl rfl, ?_⟩
  refine JoinP.bool (fun b w' => b = true ∧ Grow w w') (fun j hj => cond_t rfl (hj _ _ ⟨rfl, g0.then (g1.then gs)⟩)) ?_
  rintro b w' ⟨rfl, g⟩
  exact cond_t rfl (c _ g)

end Go.Proofs.Ytdkknncpmkajnaa
