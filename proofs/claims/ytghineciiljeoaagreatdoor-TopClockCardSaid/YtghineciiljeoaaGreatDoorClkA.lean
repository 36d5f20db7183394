/- Texts of this seat, one behind the other: ClkK, ClkP, ClkQ, ClkS, ClkT, ClkN. -/
import Derived.Test.YtghineciiljeoaaGreatDoorTimA
import Derived.Test.YtghineciiljeoaaGreatDoorCrcN
import Derived.Test.YtghineciiljeoaaGreatDoorSepX
import Derived.Test.YtghineciiljeoaaGreatDoorPutW
import Derived.Test.YtghineciiljeoaaGreatDoorGCk
import Derived.Test.YtghineciiljeoaaGreatDoorDskO
section
/- Timers, reckoned by the kernel; what a path and a clock do. -/
set_option linter.unusedVariables false
set_option linter.unusedSimpArgs false
set_option maxRecDepth 100000
namespace Go.Proofs.YtghineciiljeoaaGreatDoor.Clk
open Go Go.CW Go.RowKit

theorem blt_t {a b : Nat} (h : a < b) : Nat.blt a b = true := by rw [Nat.blt_eq]; exact h
theorem blt_f {a b : Nat} (h : ¬ a < b) : Nat.blt a b = false := by rw [Bool.eq_false_iff]; intro e; rw [Nat.blt_eq] at e; exact h e
theorem and_t {a b : Bool} (h : a = true) (k : b = true) : (a && b) = true := by rw [h, k]; rfl
theorem and_f {a b : Bool} (h : ¬ (a = true ∧ b = true)) : (a && b) = false := by cases a <;> cases b <;> simp_all

def upG : Nat → List (Int × Int) → Nat → List (Int × Int)
  | 0, H, _ => H
  | f + 1, H, i => bif Nat.blt 0 i && lt (nth H i) (nth H ((i - 1) / 2)) then upG f (swp H i ((i - 1) / 2)) ((i - 1) / 2) else H
theorem upG_eq : ∀ (f : Nat) (H : List (Int × Int)) (i : Nat), i ≤ f → upG f H i = upF H i
  | 0, H, i, h => by
    unfold upF
    rw [dif_neg (by rintro ⟨h1, _⟩; omega)]; rfl
  | f + 1, H, i, h => by
    unfold upF upG
    by_cases hc : 0 < i ∧ lt (nth H i) (nth H ((i - 1) / 2)) = true
    · have hb : (Nat.blt 0 i && lt (nth H i) (nth H ((i - 1) / 2))) = true := and_t (blt_t hc.1) hc.2
      rw [dif_pos hc, hb, cond_true]
      exact upG_eq f _ _ (by omega)
    · have hb : (Nat.blt 0 i && lt (nth H i) (nth H ((i - 1) / 2))) = false := and_f (by rw [Nat.blt_eq]; exact hc)
      rw [dif_neg hc, hb, cond_false]
def downG : Nat → List (Int × Int) → Nat → List (Int × Int)
  | 0, H, _ => H
  | f + 1, H, i => bif Nat.blt (kid H i) H.length && lt (nth H (kid H i)) (nth H i) then downG f (swp H i (kid H i)) (kid H i) else H
theorem downG_eq : ∀ (f : Nat) (H : List (Int × Int)) (i : Nat), H.length ≤ f + i → downG f H i = downF H i
  | 0, H, i, h => by
    have := kid_gt H i
    unfold downF
    rw [dif_neg (by rintro ⟨h1, _⟩; omega)]; rfl
  | f + 1, H, i, h => by
    have := kid_gt H i
    unfold downF downG
    by_cases hc : kid H i < H.length ∧ lt (nth H (kid H i)) (nth H i) = true
    · have hb : (Nat.blt (kid H i) H.length && lt (nth H (kid H i)) (nth H i)) = true := and_t (blt_t hc.1) hc.2
      rw [dif_pos hc, hb, cond_true]
      exact downG_eq f _ _ (by rw [swp_length]; omega)
    · have hb : (Nat.blt (kid H i) H.length && lt (nth H (kid H i)) (nth H i)) = false := and_f (by rw [Nat.blt_eq]; exact hc)
      rw [dif_neg hc, hb, cond_false]
def remG (H : List (Int × Int)) (i : Nat) : List (Int × Int) :=
  bif Nat.blt i (H.length - 1) then downG H.length (upG H.length ((H.set i (nth H (H.length - 1))).take (H.length - 1)) i) i else (H.set i (nth H (H.length - 1))).take (H.length - 1)
theorem remG_eq (H : List (Int × Int)) (i : Nat) : remG H i = remF H i := by
  unfold remG remF
  by_cases h : i < H.length - 1
  · rw [if_pos h, blt_t h, cond_true, upG_eq _ _ _ (by omega), downG_eq _ _ _ (by rw [upF_length]; simp; omega)]
  · rw [if_neg h, blt_f h, cond_false]
def addG (H : List (Int × Int)) (x : Int × Int) : List (Int × Int) := upG H.length (H ++ [x]) H.length
theorem addG_eq (H : List (Int × Int)) (x : Int × Int) : addG H x = addF H x := upG_eq _ _ _ (Nat.le_refl _)
def setG (H : List (Int × Int)) (now id n : Int) : List (Int × Int) :=
  bif Nat.blt (fidx H id) H.length then addG (remG H (fidx H id)) (id, now + n) else addG H (id, now + n)
theorem setG_eq (H : List (Int × Int)) (now id n : Int) (h1 : 1 ≤ n) (h2 : n ≤ 1073741824) (hl : H.length < 256) : (setF H now id n).2 = setG H now id n := by
  unfold setF setG
  rw [if_neg (by omega)]
  by_cases h : fidx H id < H.length
  · rw [if_pos h, blt_t h, cond_true, addG_eq, remG_eq]
  · rw [if_neg h, if_neg (by omega), blt_f h, cond_false, addG_eq]
def popG : Nat → List (Int × Int) → Int → List Int × List (Int × Int)
  | 0, H, _ => ([], H)
  | f + 1, H, now => bif Nat.blt 0 H.length && decide ((nth H 0).2 ≤ now) then ((nth H 0).1 :: (popG f (remG H 0) now).1, (popG f (remG H 0) now).2) else ([], H)
theorem popG_eq : ∀ (f : Nat) (H : List (Int × Int)) (now : Int), H.length ≤ f → popG f H now = popF H now
  | 0, H, now, h => by
    unfold popF
    rw [dif_neg (by rintro ⟨h1, _⟩; omega)]; rfl
  | f + 1, H, now, h => by
    unfold popF popG
    by_cases hc : 0 < H.length ∧ (nth H 0).2 ≤ now
    · have hb : (Nat.blt 0 H.length && decide ((nth H 0).2 ≤ now)) = true := and_t (blt_t hc.1) (decide_eq_true hc.2)
      rw [dif_pos hc, hb, cond_true, popG_eq f _ _ (by rw [remG_eq, remF_length]; omega), remG_eq]
    · have hb : (Nat.blt 0 H.length && decide ((nth H 0).2 ≤ now)) = false := and_f (by rw [Nat.blt_eq, decide_eq_true_eq]; exact hc)
      rw [dif_neg hc, hb, cond_false]

theorem setF_len (H : List (Int × Int)) (now id n : Int) : (setF H now id n).2.length ≤ H.length + 1 := by
  have a1 : ∀ (H : List (Int × Int)) x, (addF H x).length = H.length + 1 := fun H x => by unfold addF; rw [upF_length]; simp
  unfold setF
  split
  · exact Nat.le_succ _
  · split
    · show (addF _ _).length ≤ _
      rw [a1, remF_length]; omega
    · split
      · exact Nat.le_succ _
      · show (addF _ _).length ≤ _
        rw [a1]; omega

/-! ### a path's tick -/
/-- of these numbers those that are due are sent again: the timers, how many -/
def sndF (due : List Int) (now : Int) : List Int → List (Int × Int) → Nat → List (Int × Int) × Nat
  | [], H, m => (H, m)
  | id :: r, H, m => bif due.contains id then sndF due now r (setF H now id 4).2 (m + 1) else sndF due now r H m
def sndG (due : List Int) (now : Int) : List Int → List (Int × Int) → Nat → List (Int × Int) × Nat
  | [], H, m => (H, m)
  | id :: r, H, m => bif due.contains id then sndG due now r (setG H now id 4) (m + 1) else sndG due now r H m
theorem sndG_eq (due : List Int) (now : Int) : ∀ (l : List Int) (H : List (Int × Int)) (m : Nat), H.length + l.length < 256 → sndF due now l H m = sndG due now l H m
  | [], H, m, _ => rfl
  | id :: r, H, m, h => by
    unfold sndF sndG
    simp only [List.length_cons] at h
    have e := setG_eq H now id 4 (by omega) (by omega) (by omega)
    cases hd : due.contains id
    · exact sndG_eq due now r H m (by omega)
    · simp only [cond_true, e]
      refine sndG_eq due now r _ _ ?_
      have := setF_len H now id 4
      rw [e] at this; omega

/-- the node, the timers, how many packets; behind a tick to 'now' -/
def tickF (ids : List Int) (now nd : Int) (H : List (Int × Int)) (m : Nat) : Int × List (Int × Int) × Nat :=
  let p := popF H now
  bif p.1.contains 0 then (1 - nd, sndF p.1 now ids (setF p.2 now 0 8).2 m) else (nd, sndF p.1 now ids p.2 m)
def tickG (ids : List Int) (now nd : Int) (H : List (Int × Int)) (m : Nat) : Int × List (Int × Int) × Nat :=
  let p := popG H.length H now
  bif p.1.contains 0 then (1 - nd, sndG p.1 now ids (setG p.2 now 0 8) m) else (nd, sndG p.1 now ids p.2 m)

theorem popF_len2 (H : List (Int × Int)) (now : Int) : (popF H now).2.length ≤ H.length := by
  induction H using popF.induct (now := now) with
  | case1 H h ih =>
    rw [popF, dif_pos h]
    rw [remF_length] at ih
    show (popF (remF H 0) now).2.length ≤ _
    omega
  | case2 H h => rw [popF, dif_neg h]; exact Nat.le_refl _
theorem tickG_eq (ids : List Int) (now nd : Int) (H : List (Int × Int)) (m : Nat) (h : H.length + ids.length < 250) : tickF ids now nd H m = tickG ids now nd H m := by
  unfold tickF tickG
  rw [popG_eq _ _ _ (Nat.le_refl _)]
  have hl := popF_len2 H now
  have e := setG_eq (popF H now).2 now 0 8 (by omega) (by omega) (by omega)
  dsimp only
  cases hd : (popF H now).1.contains 0
  · simp only [cond_false]
    rw [sndG_eq _ _ _ _ _ (by omega)]
  · simp only [cond_true, e]
    rw [sndG_eq _ _ _ _ _ (by have := setF_len (popF H now).2 now 0 8; rw [e] at this; omega)]

/-! ### the whole -/
/-- the path's node, its timers, how many packets wait; the clock -/
structure Sm where
  nd : Int
  H : List (Int × Int)
  m : Nat
  T : List (Int × Int)

def clkT (i : Nat) (s : Sm) : List (Int × Int) := bif Nat.blt 0 s.m then setG s.T (i : Int) 1 5 else s.T
def clkO (i : Nat) (s : Sm) : Bool := Nat.blt s.H.length 50 && Nat.blt s.T.length 50 && Nat.blt (clkT i s).length 50 && Nat.blt s.m 50 && (popG (clkT i s).length (clkT i s) ((i : Int) + 1)).1.isEmpty && (decide (s.nd = 0) || decide (s.nd = 1))
def clkN (ids : List Int) (i : Nat) (s : Sm) : Sm :=
  let t := tickG ids ((i : Int) + 1) s.nd s.H 0
  ⟨t.1, t.2.1, t.2.2, (popG (clkT i s).length (clkT i s) ((i : Int) + 1)).2⟩
def clkR (ids : List Int) : Nat → Nat → Sm → Bool
  | 0, i, s => Nat.blt s.H.length 50 && (decide (s.nd = 0) || decide (s.nd = 1))
  | f + 1, i, s => clkO i s && clkR ids f (i + 1) (clkN ids i s)

def initH : Nat → List (Int × Int)
  | 0 => []
  | 1 => setG (setG [] 0 0 8) 0 1 4
  | i + 1 => setG (initH i) 0 ((i : Int) + 1) 4
def idsN (n : Nat) : List Int := (List.range n).map fun (i : Nat) => (i : Int) + 1
def initS (n : Nat) : Sm := ⟨0, initH n, n, [(1, 4)]⟩
theorem clk_all : (clkR (idsN 1) 61 0 (initS 1) && clkR (idsN 2) 61 0 (initS 2) && clkR (idsN 3) 61 0 (initS 3) && clkR (idsN 4) 61 0 (initS 4)) = true := by kernel_rfl
theorem clk_ok {n : Nat} (h : 1 ≤ n ∧ n ≤ 4) : clkR (idsN n) 61 0 (initS n) = true := by
  have h4 := clk_all
  simp only [Bool.and_eq_true] at h4
  have : n = 1 ∨ n = 2 ∨ n = 3 ∨ n = 4 := by omega
  rcases this with rfl | rfl | rfl | rfl
  · exact h4.1.1.1
  · exact h4.1.1.2
  · exact h4.1.2
  · exact h4.2
theorem init_all : (Nat.blt (initH 0).length 20 && Nat.blt (initH 1).length 20 && Nat.blt (initH 2).length 20 && Nat.blt (initH 3).length 20 && Nat.blt (initH 4).length 20) = true := by kernel_rfl
theorem init_len {n : Nat} (h : n ≤ 4) : (initH n).length < 20 := by
  have h4 := init_all
  simp only [Bool.and_eq_true, Nat.blt_eq] at h4
  have : n = 0 ∨ n = 1 ∨ n = 2 ∨ n = 3 ∨ n = 4 := by omega
  rcases this with rfl | rfl | rfl | rfl | rfl
  · exact h4.1.1.1.1
  · exact h4.1.1.1.2
  · exact h4.1.1.2
  · exact h4.1.2
  · exact h4.2

end Go.Proofs.YtghineciiljeoaaGreatDoor.Clk

end

section
/- The contracts of an order's bytes, Request, the reader, Answer of a request. -/
set_option linter.unusedVariables false
set_option linter.unusedSimpArgs false
set_option maxRecDepth 100000
namespace Go.Proofs.YtghineciiljeoaaGreatDoor.Clk
open Go Go.CW Go.RowKit Go.Crc

structure Cmd where
  kind : Int
  pos : Int
  n : Int
  key : Int
  new : Int
  typ : Int
  force : Bool

abbrev tCmd : TypeId := 40
abbrev rCmd (c : Cmd) (d : Value) : Array Value := #[.int .i64 c.kind, .int .i64 c.pos, .int .i64 c.n, d, .int .u64 c.key, .int .u64 c.new, .int .i64 c.typ, .bool c.force]
structure CmdFits (c : Cmd) : Prop where
  kind : Fits .i64 c.kind
  pos : Fits .i64 c.pos
  n : Fits .i64 c.n
  key : Fits .u64 c.key
  new : Fits .u64 c.new
  typ : Fits .i64 c.typ

def o8 (l : List Int) : List UInt8 := l.flatMap fun x => putL x 8
theorem o8_take (l : List Int) (i : Nat) (hi : i < l.length) : o8 (l.take (i + 1)) = o8 (l.take i) ++ putL l[i] 8 := by
  rw [List.take_add_one, List.getElem?_eq_getElem hi]; unfold o8; rw [List.flatMap_append]; simp
theorem o8_len (l : List Int) : (o8 l).length = 8 * l.length := by
  induction l with
  | nil => rfl
  | cons x l ih => simp only [o8, List.flatMap_cons, List.length_append, List.length_cons, putL_length] at ih ⊢; omega
abbrev u64 (n : Int) : Int := IntKind.wrap .u64 n
def bitN (b : Bool) : Int := if b then 1 else 0
def nums (id floor : Int) (c : Cmd) : List Int := [id, floor, u64 c.kind, u64 c.pos, u64 c.n, c.key, c.new, u64 c.typ]
def ordL (host id floor : Int) (c : Cmd) (ds : List UInt8) : List UInt8 := putL (u64 host) 8 ++ o8 (nums id floor c) ++ putL (bitN c.force) 1 ++ ds
theorem ordL_len (host id floor : Int) (c : Cmd) (ds : List UInt8) : (ordL host id floor c ds).length = 73 + ds.length := by
  simp [ordL, putL_length, o8_len, nums]; omega
def reqL (host id floor : Int) (c : Cmd) (ds : List UInt8) : List UInt8 := sld ([1] ++ ordL host id floor c ds)

theorem app_full {w : World} {v u : Value} {bs cs : List UInt8} (hv : RdB w v bs) (hf : Ful v) (hu : RdB w u cs) (hl : bs.length + cs.length ≤ 1000000000) :
    ∃ v' w', Sem.run Tryz.prog (Builtin.append_ #[tB, tB] tB #[v, u]) w = .ok v' w' ∧ RdB w' v' (bs ++ cs) ∧ Grow w w' := by
  by_cases h : cs = []
  · subst h
    exact ⟨v, w, app_none tyB hv hu, by rw [List.append_nil]; exact hv, Grow.refl _⟩
  · obtain ⟨v', w', k1, k2, k3⟩ := app_ful tyB hv hf hu one_b8 (by simpa using h) (by simp only [List.length_map]; omega)
    exact ⟨v', w', k1, by have := k2.rd; rwa [← List.map_append] at this, k3⟩

theorem bit_c {w : World} {b : Bool} {R : KV} (k : R (.int .u64 (bitN b)) w) : Go.CW.Spec Tryz.prog 294 #[.bool b] w R := by
  apply node_bit_wp
  cases b <;> exact k

abbrev rOrd (host id floor : Int) (c : Cmd) (d : Value) : Array Value := #[.int .i64 host, .int .u64 id, .int .u64 floor, .int .i64 c.kind, .int .i64 c.pos, .int .i64 c.n, d, .int .u64 c.key, .int .u64 c.new, .int .i64 c.typ, .bool c.force]

theorem bytes_c {w : World} {host id floor : Int} {c : Cmd} {d : Value} {ds : List UInt8} {R : KV} (hd : RdB w d ds) (hl : ds.length ≤ 100000)
    (k : ∀ v' w', Grow w w' → RdB w' v' (ordL host id floor c ds) → R v' w') : Go.CW.Spec Tryz.prog 248 #[.agg (rOrd host id floor c d)] w R := by
  apply node_order_bytes_m_wp
  refine nm fun w0 e0 => ?_
  obtain ⟨b0, g0, _⟩ := alE e0
  clear e0
  refine ⟨_, b0.cell 0, bin_Put_w (bs := []) (Rd.nil w0) (by simp) (by omega) fun v2 w3 g3 o3 f3 n3 => ?_⟩
  have b3 := b0.grow g3
  refine ⟨_, b3.cell 1, _, b3.cell 2, _, (by rw [add_add]; exact b3.cell 3), _, (by rw [add_add]; exact b3.cell 4), _, (by rw [add_add]; exact b3.cell 5), _, (by rw [add_add]; exact b3.cell 7), _, (by rw [add_add]; exact b3.cell 8), _, (by rw [add_add]; exact b3.cell 9), nm fun w12 e12 => ?_⟩
  obtain ⟨b12, g12, _⟩ := alE e12
  clear e12
  refine ⟨8, rfl, ?_⟩
  have nl : (nums id floor c).length = 8 := rfl
  refine ⟨fun (vv : Value) (i : Int) (ww : World) => 0 ≤ i ∧ i ≤ 8 ∧ Grow w12 ww ∧ RdB ww vv (putL (u64 host) 8 ++ o8 ((nums id floor c).take i.toNat)) ∧ Ful vv, fun (_ : Value) (i : Int) (_ : World) => (8 - i).toNat, ⟨by omega, by omega, Grow.refl _, ?_, f3⟩, ?_⟩
  · have := o3.rd.grow g12
    simpa [o8] using this
  dsimp only [allR, mapR2, eqN, ltN]
  rintro m vv i ww ⟨⟨i0, i1, gg, r, fl⟩, hm⟩
  have hpl := o8_len ((nums id floor c).take i.toNat)
  rw [List.length_take, nl] at hpl
  refine cond_intro (fun e => ?_) (fun e => ?_)
  · have e : i < 8 := by simpa using e
    have hcell : ww.cell? (⟨w3.heap.size, i.toNat, none⟩ : Addr) = some (.int .u64 ((nums id floor c)[i.toNat]'(by omega))) := by
      rw [(b12.grow gg).at i.toNat]
      have : i.toNat = 0 ∨ i.toNat = 1 ∨ i.toNat = 2 ∨ i.toNat = 3 ∨ i.toNat = 4 ∨ i.toNat = 5 ∨ i.toNat = 6 ∨ i.toNat = 7 := by omega
      rcases this with e | e | e | e | e | e | e | e <;> simp only [e] <;> rfl
    refine ⟨⟨w3.heap.size, i.toNat, none⟩, ?_, _, hcell, ?_⟩
    · simp only [sliceAt]
      rw [if_pos (by omega), Nat.mul_one, ad0]
    refine bin_Put_w r (by simp only [List.length_append, putL_length]; omega) (by omega) fun v21 w22 g22 o22 f22 n22 => ?_
    rw [wi64_id (n := i + 1) (by omega) (by omega)]
    have e1 : (i + 1).toNat = i.toNat + 1 := by omega
    refine ⟨⟨by omega, by omega, gg.then g22, ?_, f22⟩, by omega⟩
    have hr := o22.rd
    rw [e1, o8_take _ _ (by omega)]
    rw [List.append_assoc] at hr
    exact hr
  · have e : ¬ i < 8 := by simpa using e
    have et : (nums id floor c).take i.toNat = nums id floor c := List.take_of_length_le (by omega)
    rw [et] at r
    have gA := (g3.then (g12.then gg))
    have bw := b0.grow gA
    refine nm fun w22 e22 => ?_
    have g22 := drE e22
    have b22 := bw.grow g22
    refine ⟨_, (by rw [add_add]; exact b22.cell 10), _, (by rw [add_add]; exact b22.cell 6), nm fun w25 e25 => bit_c ⟨_, rfl, ?_⟩⟩
    obtain rfl : w25 = w22 := e25.trans e22.symm
    refine ⟨⟨_, (by rw [add_add]; exact b22.cell 6), rfl⟩, bin_Put_w (r.grow g22) (by simp only [List.length_append, putL_length, o8_len, nl]; omega) (by omega) fun v30 w31 g31 o31 f31 n31 => ?_⟩
    refine ⟨⟨_, (by rw [add_add]; exact (b22.grow g31).cell 6), rfl⟩, ?_⟩
    have hd31 := hd.grow (g0.then (gA.then (g22.then g31)))
    obtain ⟨v33, w34, k33, r33, g33⟩ := app_full o31.rd f31 hd31 (by simp only [List.length_append, putL_length, o8_len, nl]; omega)
    exact ⟨v33, w34, k33, k v33 w34 (g0.then (gA.then (g22.then (g31.then g33)))) r33⟩

theorem Request_c {w : World} {host id floor : Int} {c : Cmd} {d : Value} {ds : List UInt8} {R : KV} (hd : RdB w d ds) (hl : ds.length ≤ 100000)
    (k : ∀ v' w', Grow w w' → RdB w' v' (reqL host id floor c ds) → NewV w v' → R v' w') : Go.CW.Spec Tryz.prog 178 #[.int .i64 host, .int .u64 id, .int .u64 floor, .agg (rCmd c d)] w R := by
  apply node_Request_wp
  refine nm fun w0 e0 => ?_
  obtain ⟨b0, g0, _⟩ := alE e0
  clear e0
  refine nm fun w1 e1 => ?_
  obtain ⟨_, g1, _⟩ := alE e1
  have o1 : OwnB w1 w0.heap.size tb (.slice (some ⟨w0.heap.size, 0, none⟩) 1 1) [1] := by
    subst e1; exact Own.lit w0 (Nat.le_refl _) tb _ 1 rfl (by simp [maxLen])
  have b1 := b0.grow g1
  refine ⟨_, _, _, _, _, _, _, _, b1.ld rfl, bytes_c (hd.grow (g0.then g1)) hl fun v10 w11 g11 r11 => ?_⟩
  have hol := ordL_len host id floor c ds
  have o11 := o1.grow g11
  have hB : w0.heap.size ≤ w11.heap.size := Nat.le_trans g1.size g11.size
  obtain ⟨v12, w13, k12, o13, n13⟩ := app_bytes o11 r11 hB (by rw [hol]; simp; omega)
  have g13 : Grow w0 w13 := (g1.then g11).trans (n13.below hB o11.blk)
  refine ⟨v12, w13, k12, crc_Seal_c o13.rd (by rw [List.length_append, hol]; simp; omega) fun v14 w15 g15 o15 => k v14 w15 (g0.then (g13.then g15)) o15.rd ?_⟩
  have hne : (sld ([1] ++ ordL host id floor c ds)).map b8 ≠ [] := by
    intro e
    have := congrArg List.length e
    rw [List.length_map, sld_length] at this
    simp at this
  obtain ⟨q, cap, cur, e, rfl, hq, _⟩ := o15.2 hne
  intro q' hq'
  have : q = q' := by simpa [Value.ownBlock] using hq'
  have := g0.size
  have := g13.size
  omega

end Go.Proofs.YtghineciiljeoaaGreatDoor.Clk

end

section
/- A path in memory; the contracts of New, floor, send, Submit. -/
set_option linter.unusedVariables false
set_option linter.unusedSimpArgs false
set_option maxRecDepth 100000
namespace Go.Proofs.YtghineciiljeoaaGreatDoor.Clk
open Go Go.CW Go.RowKit Go.Crc

theorem one_int (k : IntKind) (n : Int) : isOne (.int k n) = true := rfl
theorem one_bool (b : Bool) : isOne (.bool b) = true := rfl
structure Ask where
  id : Int
  c : Cmd
  d : Value
  one : isOne d = true
structure Pkt where
  to : Int
  d : Value
  one : isOne d = true
abbrev rAsk (id : Int) (c : Cmd) (d : Value) : Array Value := #[.int .u64 id, .int .i64 c.kind, .int .i64 c.pos, .int .i64 c.n, d, .int .u64 c.key, .int .u64 c.new, .int .i64 c.typ, .bool c.force]
def EA : Enc Ask := ⟨9, fun a => (rAsk a.id a.c a.d).toList, fun _ => rfl, by omega, fun a => by simp only [oneL, a.one, one_int, one_bool, Bool.and_true]⟩
def EP : Enc Pkt := ⟨2, fun p => [.int .i64 p.to, p.d], fun _ => rfl, by omega, fun p => by simp only [oneL, p.one, one_int, Bool.and_true]⟩
abbrev tAsk : TypeId := 178
abbrev tAsks : TypeId := 168
abbrev tPkt : TypeId := 75
abbrev tPkts : TypeId := 71
abbrev tPath : TypeId := 170
theorem tyAsk : SlTyN Tryz.prog tAsks tAsk EA.s 88 := SlTyN.of (by kernel_rfl)
theorem tyPkt : SlTyN Tryz.prog tPkts tPkt EP.s 32 := SlTyN.of (by kernel_rfl)

theorem ownR_ne {α : Type} {E : Enc α} {w : World} {B g : Nat} {e e' : TypeId} {v : Value} {L : List α} {cs : Array Value} (h : OwnR E w B e v L) (b : BK w g cs e') (hne : e ≠ e') : v.ownBlock ≠ some g := by
  rcases h.2 with ⟨rfl, _⟩ | ⟨g', cap, cur, rfl, _, hg, _⟩
  · intro e; cases e
  · intro e
    have : g' = g := by simpa [Value.ownBlock] using e
    subst this
    unfold BK at b
    rw [hg] at b
    injection b with b
    injection b with _ b
    exact hne b
theorem ownR_ne2 {α β : Type} {E : Enc α} {E' : Enc β} {w : World} {B B' : Nat} {e e' : TypeId} {v v' : Value} {L : List α} {L' : List β} (h : OwnR E w B e v L) (h' : OwnR E' w B' e' v' L') (hne : e ≠ e') : ∀ q, v.ownBlock = some q → v'.ownBlock ≠ some q := by
  intro q hq
  rcases h'.2 with ⟨rfl, _⟩ | ⟨g', cap, cur, rfl, _, hg, _⟩
  · intro e; cases e
  · intro e
    have : g' = q := by simpa [Value.ownBlock] using e
    subst this
    exact ownR_ne h (show BK w g' cur e' from hg) hne hq
theorem bk_ne {w : World} {g g' : Nat} {cs cs' : Array Value} {e e' : TypeId} (b : BK w g cs e) (b' : BK w g' cs' e') (hne : e ≠ e') : g ≠ g' := by
  rintro rfl
  unfold BK at b b'
  rw [b] at b'
  injection b' with b'
  injection b' with _ b'
  exact hne b'
theorem _root_.Go.CW.OwnR.stepS {α : Type} {E : Enc α} {S S' : Fp} {w w' : World} {B : Nat} {e : TypeId} {v : Value} {L : List α} (h : OwnR E w B e v L) (st : Step S w w' S') (hs : ∀ q, v.ownBlock = some q → ¬ S q) : OwnR E w' B e v L :=
  h.stable fun k hk => st.block k (h.lt k hk).2 (hs k hk)
theorem _root_.Go.CW.OwnR.turn {α : Type} {E : Enc α} {b : Nat} {w w' : World} {B : Nat} {e : TypeId} {v : Value} {L : List α} (h : OwnR E w B e v L) (t : Turn b w w') (hne : v.ownBlock ≠ some b) : OwnR E w' B e v L :=
  h.stable fun k hk => t.block k (fun e => hne (e ▸ hk))

/-- a path in block g: who asks, the number that comes, what waits, what is on its way, the timers -/
structure Pa (w : World) (g gt : Nat) (vl vo vh : Value) (host nx nd now : Int) (L : List Ask) (P : List Pkt) (H : List (Int × Int)) : Prop where
  b : BK w g #[.int .i64 host, .int .i64 nd, .int .u64 nx, vl, vo, .slice none 0 0, .pointer (some ⟨gt, 0, none⟩)] tPath
  l : OwnR EA w 0 tAsk vl L
  o : OwnR EP w 0 tPkt vo P
  t : TS w gt vh H now

def fpP (g gt : Nat) (vl vo vh : Value) : Fp := fun k => k = g ∨ vl.ownBlock = some k ∨ vo.ownBlock = some k ∨ FT gt vh k

section
variable {w w' : World} {g gt : Nat} {vl vo vh : Value} {host nx nd now : Int} {L : List Ask} {P : List Pkt} {H : List (Int × Int)}

theorem Pa.isIn (h : Pa w g gt vl vo vh host nx nd now L P H) : InW w (fpP g gt vl vo vh) := by
  rintro k (rfl | hk | hk | hk)
  · exact h.b.lt
  · exact (h.l.lt k hk).2
  · exact (h.o.lt k hk).2
  · exact h.t.lt k hk
theorem Pa.grow (h : Pa w g gt vl vo vh host nx nd now L P H) (k : Grow w w') : Pa w' g gt vl vo vh host nx nd now L P H := ⟨h.b.grow k, h.l.grow k, h.o.grow k, h.t.grow k⟩
theorem Pa.stepS {S S' : Fp} (h : Pa w g gt vl vo vh host nx nd now L P H) (st : Step S w w' S') (a : Apart (fpP g gt vl vo vh) S) : Pa w' g gt vl vo vh host nx nd now L P H :=
  ⟨h.b.stepS st (a g (.inl rfl)), h.l.stepS st (fun q hq => a q (.inr (.inl hq))), h.o.stepS st (fun q hq => a q (.inr (.inr (.inl hq)))), h.t.stable fun k hk => st.block k (h.t.lt k hk) (a k (.inr (.inr (.inr hk))))⟩
theorem Pa.gne (h : Pa w g gt vl vo vh host nx nd now L P H) : ∀ q, FT gt vh q → q ≠ g := by
  rintro q (rfl | hq)
  · exact (bk_ne h.b h.t.blk (by decide)).symm
  · intro e; subst e; exact ownR_ne h.t.row h.b (by decide) hq

/-- the timers turned -/
theorem Pa.tim {vh' : Value} {H' : List (Int × Int)} {now' : Int} (h : Pa w g gt vl vo vh host nx nd now L P H) (st : Step (FT gt vh) w w' (FT gt vh')) (t : TS w' gt vh' H' now') : Pa w' g gt vl vo vh' host nx nd now' L P H' ∧ Step (fpP g gt vl vo vh) w w' (fpP g gt vl vo vh') := by
  refine ⟨⟨h.b.stepS st (fun hs => h.gne g hs rfl), h.l.stepS st ?_, h.o.stepS st ?_, t⟩, ?_⟩
  · rintro q hq (rfl | hs)
    · exact ownR_ne h.l h.t.blk (by decide) hq
    · exact ownR_ne2 h.l h.t.row (by decide) q hq hs
  · rintro q hq (rfl | hs)
    · exact ownR_ne h.o h.t.blk (by decide) hq
    · exact ownR_ne2 h.o h.t.row (by decide) q hq hs
  · exact ⟨st.os, st.tape, st.output, st.size, fun k hk hs => st.block k hk (fun hf => hs (.inr (.inr (.inr hf)))), fun k hk => by
      rcases hk with rfl | hk | hk | hk
      · exact .inl (.inl rfl)
      · exact .inl (.inr (.inl hk))
      · exact .inl (.inr (.inr (.inl hk)))
      · exact (st.fp k hk).imp (fun x => .inr (.inr (.inr x))) id⟩

/-- the number that comes is turned -/
theorem Pa.setN {n : Int} (h : Pa w g gt vl vo vh host nx nd now L P H) (e : w' = World.setCell w (Addr.add ⟨g, 0, none⟩ 2) (.int .u64 n)) : Pa w' g gt vl vo vh host n nd now L P H ∧ Step (fpP g gt vl vo vh) w w' (fpP g gt vl vo vh) := by
  obtain ⟨b, t⟩ := setE h.b e
  refine ⟨⟨b, h.l.turn t (ownR_ne h.l h.b (by decide)), h.o.turn t (ownR_ne h.o h.b (by decide)), h.t.stable fun k hk => t.block k (h.gne k hk)⟩, ?_⟩
  subst e
  exact Step.setA w _ _ (by rw [add_block]; exact .inl rfl)

/-- the node is turned -/
theorem Pa.setD {n : Int} (h : Pa w g gt vl vo vh host nx nd now L P H) (e : w' = World.setCell w (Addr.add ⟨g, 0, none⟩ 1) (.int .i64 n)) : Pa w' g gt vl vo vh host nx n now L P H ∧ Step (fpP g gt vl vo vh) w w' (fpP g gt vl vo vh) := by
  obtain ⟨b, t⟩ := setE h.b e
  refine ⟨⟨b, h.l.turn t (ownR_ne h.l h.b (by decide)), h.o.turn t (ownR_ne h.o h.b (by decide)), h.t.stable fun k hk => t.block k (h.gne k hk)⟩, ?_⟩
  subst e
  exact Step.setA w _ _ (by rw [add_block]; exact .inl rfl)

/-- a packet more -/
theorem Pa.pushO {w1 : World} {vo' : Value} {P' : List Pkt} (h : Pa w g gt vl vo vh host nx nd now L P H) (o' : OwnR EP w1 0 tPkt vo' P') (n : OwnNext w vo w1 vo') (e : w' = World.setCell w1 (Addr.add ⟨g, 0, none⟩ 4) vo') : Pa w' g gt vl vo' vh host nx nd now L P' H ∧ Step (fpP g gt vl vo vh) w w' (fpP g gt vl vo' vh) := by
  have st : Step (fun q => vo.ownBlock = some q) w w1 (fun q => vo.ownBlock = some q ∨ vo'.ownBlock = some q) := Step.of_own n (fun q hq => hq)
  have b1 := h.b.stepS st (fun hs => ownR_ne h.o h.b (by decide) hs)
  have l1 := h.l.stepS st (fun q hq hs => ownR_ne2 h.l h.o (by decide) q hq hs)
  have t1 : TS w1 gt vh H now := h.t.stable fun k hk => st.block k (h.t.lt k hk) (fun hs => by
    rcases hk with rfl | hk
    · exact ownR_ne h.o h.t.blk (by decide) hs
    · exact ownR_ne2 h.t.row h.o (by decide) k hk hs)
  obtain ⟨b, t⟩ := setE b1 e
  refine ⟨⟨b, l1.turn t (ownR_ne l1 b1 (by decide)), o'.turn t (ownR_ne o' b1 (by decide)), t1.stable fun k hk => t.block k (h.gne k hk)⟩, ?_⟩
  have st2 := Step.of_own (S := fpP g gt vl vo vh) n (fun q hq => .inr (.inr (.inl hq)))
  have s3 : Step (fun q => fpP g gt vl vo vh q ∨ vo'.ownBlock = some q) w1 w' (fun q => fpP g gt vl vo vh q ∨ vo'.ownBlock = some q) := by
    subst e; exact Step.setA w1 _ _ (by rw [add_block]; exact .inl (.inl rfl))
  exact (st2.then s3).imp (fun _ h => h) (fun q hq => by
    rcases hq with rfl | hq | hq | hq
    · exact .inl (.inl rfl)
    · exact .inl (.inr (.inl hq))
    · rcases n.at_ with a | a
      · exact .inl (.inr (.inr (.inl (a ▸ hq))))
      · exact .inr (a q hq)
    · exact .inl (.inr (.inr (.inr hq))))
/-- one more that waits -/
theorem Pa.pushL {w1 : World} {vl' : Value} {L' : List Ask} (h : Pa w g gt vl vo vh host nx nd now L P H) (l' : OwnR EA w1 0 tAsk vl' L') (n : OwnNext w vl w1 vl') (e : w' = World.setCell w1 (Addr.add ⟨g, 0, none⟩ 3) vl') : Pa w' g gt vl' vo vh host nx nd now L' P H ∧ Step (fpP g gt vl vo vh) w w' (fpP g gt vl' vo vh) := by
  have st : Step (fun q => vl.ownBlock = some q) w w1 (fun q => vl.ownBlock = some q ∨ vl'.ownBlock = some q) := Step.of_own n (fun q hq => hq)
  have b1 := h.b.stepS st (fun hs => ownR_ne h.l h.b (by decide) hs)
  have o1 := h.o.stepS st (fun q hq hs => ownR_ne2 h.o h.l (by decide) q hq hs)
  have t1 : TS w1 gt vh H now := h.t.stable fun k hk => st.block k (h.t.lt k hk) (fun hs => by
    rcases hk with rfl | hk
    · exact ownR_ne h.l h.t.blk (by decide) hs
    · exact ownR_ne2 h.t.row h.l (by decide) k hk hs)
  obtain ⟨b, t⟩ := setE b1 e
  refine ⟨⟨b, l'.turn t (ownR_ne l' b1 (by decide)), o1.turn t (ownR_ne o1 b1 (by decide)), t1.stable fun k hk => t.block k (h.gne k hk)⟩, ?_⟩
  have st2 := Step.of_own (S := fpP g gt vl vo vh) n (fun q hq => .inr (.inl hq))
  have s3 : Step (fun q => fpP g gt vl vo vh q ∨ vl'.ownBlock = some q) w1 w' (fun q => fpP g gt vl vo vh q ∨ vl'.ownBlock = some q) := by
    subst e; exact Step.setA w1 _ _ (by rw [add_block]; exact .inl (.inl rfl))
  exact (st2.then s3).imp (fun _ h => h) (fun q hq => by
    rcases hq with rfl | hq | hq | hq
    · exact .inl (.inl rfl)
    · rcases n.at_ with a | a
      · exact .inl (.inr (.inl (a ▸ hq)))
      · exact .inr (a q hq)
    · exact .inl (.inr (.inr (.inl hq)))
    · exact .inl (.inr (.inr (.inr hq))))
end

/-- the numbers of those that wait -/
def Ids (L : List Ask) (nx : Int) : Prop := nx = (L.length : Int) + 1 ∧ ∀ (i : Nat) (h : i < L.length), L[i].id = (i : Int) + 1

def flr (L : List Ask) (nx : Int) : Int := match L with
  | [] => nx
  | a :: _ => a.id

theorem floor_c {w : World} {g gt : Nat} {vl vo vh : Value} {host nx nd now : Int} {L : List Ask} {P : List Pkt} {H : List (Int × Int)} {R : KV} (h : Pa w g gt vl vo vh host nx nd now L P H) (k : R (.int .u64 (flr L nx)) w) : Go.CW.Spec Tryz.prog 84 #[.pointer (some ⟨g, 0, none⟩)] w R := by
  apply mpath_Path_floor_m_wp
  refine withAddr_some ⟨_, h.b.cell 3, _, h.l.rd.len, cond_intro (fun d => ?_) (fun d => ?_)⟩
  · have d : L = [] := List.eq_nil_of_length_eq_zero (by simpa using d)
    subst d
    exact withAddr_some ⟨_, h.b.cell 2, k⟩
  · match L, h, k, d with
    | [], _, _, d => simp at d
    | a :: L, h, k, _ =>
      obtain ⟨ad, ha, hc, _⟩ := h.l.rd.at (i := 0) (by omega) (by simp)
      exact withAddr_some ⟨_, h.b.cell 3, ad, ha, _, hc 0 (by show 0 < 9; omega), k⟩

theorem New_c' {w : World} {host : Int} {R : KV} (hh : 0 ≤ host ∧ host < 8) (k : ∀ g gt w', Grow w w' → w.heap.size ≤ gt → gt < g → Pa w' g gt (.slice none 0 0) (.slice none 0 0) (.slice none 0 0) host 1 0 0 [] [] [] → R (.tuple #[.pointer (some ⟨g, 0, none⟩), .int .i64 0]) w') : Go.CW.Spec Tryz.prog 22 #[.int .i64 host] w R := by
  apply mpath_New_wp
  refine JoinP.bool (fun b w' => w' = w ∧ b = false) (fun j hj => cond_f (by simp; omega) (hj _ _ ⟨rfl, by simp; omega⟩)) ?_
  rintro b w1 ⟨rfl, rfl⟩
  refine cond_f rfl (New_c fun w3 g3 t3 => ⟨_, rfl, nm fun w5 e5 => ?_⟩)
  obtain ⟨b5, g5, _⟩ := alE e5
  exact k _ _ w5 (g3.then g5) (Nat.le_refl _) t3.blk.lt ⟨b5, OwnR.nil _ _ _, OwnR.nil _ _ _, t3.grow g5⟩

theorem _root_.Go.CW.BK.ldAt {w : World} {b : Nat} {cs cs' : Array Value} {e : TypeId} (h : BK w b cs e) {o n : Nat} (hn : cs'.size = n) (h2 : ∀ i, i < n → cs[o + i]? = cs'[i]?) : ldCells w (Addr.add ⟨b, 0, none⟩ o) n cs' :=
  ⟨hn, fun i hi => by rw [add_add, h.cell, h2 i hi]⟩

structure PkOk (S : Fp) (w : World) (p : Pkt) : Prop where
  to : p.to = 0 ∨ p.to = 1
  ex : ∃ bs, RdX S w p.d ((sld (1 :: bs)).map b8) ∧ bs.length ≤ 2000
theorem PkOk.step {S S' : Fp} {w w' : World} {p : Pkt} (h : PkOk S w p) (st : Step S w w' S') : PkOk S' w' p := ⟨h.to, by obtain ⟨bs, h1, h2⟩ := h.ex; exact ⟨bs, h1.step st, h2⟩⟩
theorem PkOk.grow {S : Fp} {w w' : World} {p : Pkt} (h : PkOk S w p) (g : Grow w w') : PkOk S w' p := ⟨h.to, by obtain ⟨bs, h1, h2⟩ := h.ex; exact ⟨bs, h1.grow g, h2⟩⟩

theorem send_c {w : World} {g gt : Nat} {vl vo vh : Value} {host nx nd now : Int} {L : List Ask} {P : List Pkt} {H : List (Int × Int)} {R : KV} {id : Int} {c : Cmd} {d : Value} {ds : List UInt8} (h : Pa w g gt vl vo vh host nx nd now L P H) (hn : 0 ≤ now ∧ now ≤ 1000) (hnd : nd = 0 ∨ nd = 1) (hH : H.length ≤ 1000) (hP : P.length ≤ 1000) (hd : RdB w d ds) (hl : ds.length ≤ 1024) (hid : 0 ≤ id ∧ id ≤ 1000)
    (k : ∀ vo' vh' p w', Step (fpP g gt vl vo vh) w w' (fpP g gt vl vo' vh') → Pa w' g gt vl vo' vh' host nx nd now L (P ++ [p]) (setF H now id 4).2 → PkOk (fpP g gt vl vo' vh') w' p → NewV w p.d → R (.tuple #[]) w') : Go.CW.Spec Tryz.prog 86 #[.pointer (some ⟨g, 0, none⟩), .agg (rAsk id c d)] w R := by
  apply mpath_Path_send_m_wp
  refine nm fun w0 e0 => ?_
  obtain ⟨b0, g0, _⟩ := alE e0
  clear e0
  refine nm fun w1 e1 => ?_
  have g1 := drE e1
  have h1 := h.grow (g0.then g1)
  have b1 := b0.grow g1
  have hsub : ∀ i, i < 8 → (rAsk id c d)[1 + i]? = (rCmd c d)[i]? := by
    intro i hi
    have : i = 0 ∨ i = 1 ∨ i = 2 ∨ i = 3 ∨ i = 4 ∨ i = 5 ∨ i = 6 ∨ i = 7 := by omega
    rcases this with rfl | rfl | rfl | rfl | rfl | rfl | rfl | rfl <;> rfl
  have ld1 : ldCells w1 (Addr.add ⟨w.heap.size, 0, none⟩ 1) 8 (rCmd c d) := b1.ldAt rfl hsub
  refine withAddr_some ⟨_, h1.b.cell 4, withAddr_some ⟨_, h1.b.cell 1, withAddr_some ⟨_, h1.b.cell 0, _, b1.cell 0, _, _, _, _, _, _, _, _, ld1, nm fun w17 e17 => ?_⟩⟩⟩
  obtain rfl : w17 = w1 := e17.trans e1.symm
  refine floor_c h1 ⟨_, rfl, ⟨_, h1.b.cell 4, rfl⟩, ⟨_, h1.b.cell 1, rfl⟩, ⟨_, h1.b.cell 0, rfl⟩, ⟨_, b1.cell 0, rfl⟩, ⟨_, _, _, _, _, _, _, _, ld1, rfl⟩, ?_⟩
  have hd1 := hd.grow (g0.then g1)
  refine Request_c hd1 (by omega) fun v33 w34 g34 r34 n34 => ?_
  have h34 := h1.grow g34
  have b34 := b1.grow g34
  have one33 := Rd.isOne r34
  have ga := fun o => Grow.al (Grow.refl w34) o
  refine ⟨⟨_, h34.b.cell 4, rfl⟩, ⟨_, h34.b.cell 1, rfl⟩, oneK_of one33 ⟨⟨_, (h34.grow (ga _)).b.cell 4, rfl⟩, nm fun w38 e38 => nm fun w39 e39 => ?_⟩⟩
  clear e38
  have gA : Grow w w34 := (g0.then g1).then g34
  have g39 : Grow w34 w39 := by rw [e39]; exact ga _
  have h39 := h34.grow g39
  have lit : OwnR EP w39 w34.heap.size tPkt (.slice (some ⟨w34.heap.size, 0, none⟩) 1 1) [⟨nd, v33, one33⟩] := by
    have := OwnR.lit (E := EP) w34 (Nat.le_refl _) tPkt [⟨nd, v33, one33⟩] 1 rfl (by simp [maxLen])
    rw [e39]; exact this
  obtain ⟨v40, w41, k40, o40, n40⟩ := app_ownR tyPkt h39.o lit.rd (by simp; omega) (Nat.zero_le _)
  refine ⟨v40, w41, k40, withAddr_some (oneK_of ?_ ?_)⟩
  · rcases o40.2 with ⟨rfl, _⟩ | ⟨g', cap, cur, rfl, _⟩ <;> rfl
  have b41 : BK w41 g #[.int .i64 host, .int .i64 nd, .int .u64 nx, vl, vo, .slice none 0 0, .pointer (some ⟨gt, 0, none⟩)] tPath := (n40.by_.block g h39.b.lt (fun e => ownR_ne h39.o h39.b (by decide) e.symm)).trans h39.b
  refine ⟨st1_at b41 (by show 4 < 7; omega), nm fun w43 e43 => nm fun w44 e44 => nm fun w45 e45 => ?_⟩
  clear e43
  obtain ⟨h44, s44⟩ := h39.pushO o40 n40 e44
  have g45 := drE e45
  have h45 := h44.grow g45
  have hin := h.isIn
  have x39 : RdX (fpP g gt vl vo vh) w39 v33 ((reqL host id (flr L nx) c ds).map b8) := (RdX.new r34 n34 h1.isIn).grow g39
  have x45 := (x39.step s44).grow g45
  -- the copy of the command stays
  have hb : w.heap.size ≠ g := by have := h.b.lt; omega
  have b45 : BK w45 w.heap.size (rAsk id c d) tAsk := by
    have b39 := b34.grow g39
    refine ((b39.stepS s44 ?_).grow g45)
    intro hf
    have := hin _ hf
    omega
  refine withAddr_some ⟨_, h45.b.cell 6, _, b45.cell 0, nm fun w49 e49 => ?_⟩
  obtain rfl : w49 = w45 := e49.trans e45.symm
  rw [wi64_id (n := id) (by omega) (by omega)]
  refine Set_c h45.t (by omega) (by decide) (by omega) fun vh' w51 s51 t51 => ⟨_, rfl, ?_⟩
  obtain ⟨h51, st51⟩ := h45.tim s51 t51
  refine k v40 vh' ⟨nd, v33, one33⟩ w51 ((Step.of_grow (gA.then g39)).then (s44.then ((Step.of_grow g45).then st51))) h51 ⟨hnd, ordL host id (flr L nx) c ds, x45.step st51, ?_⟩ (n34.of (g0.then g1).size)
  rw [ordL_len]; omega

end Go.Proofs.YtghineciiljeoaaGreatDoor.Clk

end

section
/- The contracts of a path: Submit, Out, Waiting, Done, In of a request. -/
set_option linter.unusedVariables false
set_option linter.unusedSimpArgs false
set_option maxRecDepth 100000
namespace Go.Proofs.YtghineciiljeoaaGreatDoor.Clk
open Go Go.CW Go.RowKit Go.Crc

/-- a block outside S -/
structure BKX (S : Fp) (w : World) (g : Nat) (cs : Array Value) (e : TypeId) : Prop where
  b : BK w g cs e
  out : ¬ S g
theorem BKX.step {S S' : Fp} {w w' : World} {g : Nat} {cs : Array Value} {e : TypeId} (h : BKX S w g cs e) (st : Step S w w' S') : BKX S' w' g cs e :=
  ⟨h.b.stepS st h.out, fun hs => by
    rcases st.fp g hs with k | k
    · exact h.out k
    · have := h.b.lt; omega⟩
theorem BKX.grow {S : Fp} {w w' : World} {g : Nat} {cs : Array Value} {e : TypeId} (h : BKX S w g cs e) (k : Grow w w') : BKX S w' g cs e := ⟨h.b.grow k, h.out⟩

/-- one that waits: its bytes lie outside S -/
def AskOk (S : Fp) (w : World) (a : Ask) : Prop := ∃ ds : List UInt8, RdX S w a.d (ds.map b8) ∧ ds.length ≤ 1024
theorem AskOk.step {S S' : Fp} {w w' : World} {a : Ask} (h : AskOk S w a) (st : Step S w w' S') : AskOk S' w' a := by obtain ⟨ds, h1, h2⟩ := h; exact ⟨ds, h1.step st, h2⟩
theorem AskOk.grow {S : Fp} {w w' : World} {a : Ask} (h : AskOk S w a) (g : Grow w w') : AskOk S w' a := by obtain ⟨ds, h1, h2⟩ := h; exact ⟨ds, h1.grow g, h2⟩

/-- the timers behind Submit -/
def subH (L : List Ask) (H : List (Int × Int)) (now nx : Int) : List (Int × Int) := (setF (if L = [] then (setF H now 0 8).2 else H) now nx 4).2

theorem flr_one {L : List Ask} {nx : Int} (h : Ids L nx) : flr L nx = 1 := by
  match L, h with
  | [], h => exact h.1.trans (by simp)
  | a :: L, h => exact h.2 0 (by simp)

theorem Submit_c {w : World} {g gt : Nat} {vl vo vh : Value} {host nx nd now : Int} {L : List Ask} {P : List Pkt} {H : List (Int × Int)} {R : KV} {c : Cmd} {d : Value} {ds : List UInt8} (h : Pa w g gt vl vo vh host nx nd now L P H) (hn : 0 ≤ now ∧ now ≤ 1000) (hnd : nd = 0 ∨ nd = 1) (ids : Ids L nx) (hL : L.length ≤ 3) (hH : H.length ≤ 900) (hP : P.length ≤ 1000) (hd : RdB w d ds) (hl : ds.length ≤ 1024) (hk : 1 ≤ c.kind ∧ c.kind ≤ 18)
    (k : ∀ vl' vo' vh' a p w', Step (fpP g gt vl vo vh) w w' (fpP g gt vl' vo' vh') → Pa w' g gt vl' vo' vh' host (nx + 1) nd now (L ++ [a]) (P ++ [p]) (subH L H now nx) → Ids (L ++ [a]) (nx + 1) → AskOk (fpP g gt vl' vo' vh') w' a → NewV w a.d → PkOk (fpP g gt vl' vo' vh') w' p → NewV w p.d → R (.tuple #[.int .u64 nx, .int .i64 0]) w') : Go.CW.Spec Tryz.prog 25 #[.pointer (some ⟨g, 0, none⟩), .agg (rCmd c d)] w R := by
  apply mpath_Path_Submit_m_wp
  have hnx := ids.1
  refine nm fun w0 e0 => ?_
  obtain ⟨b0, g0, _⟩ := alE e0
  clear e0
  refine nm fun w1 e1 => ?_
  have g1 := drE e1
  have h1 := h.grow (g0.then g1)
  have b1 := b0.grow g1
  refine withAddr_some ⟨_, h1.b.cell 2, nm fun w4 e4 => ?_⟩
  obtain rfl : w4 = w1 := e4.trans e1.symm
  refine floor_c h1 ⟨_, rfl, ⟨_, h1.b.cell 2, rfl⟩, ?_⟩
  rw [flr_one ids]
  have hw5 : IntKind.wrap .u64 ((1 : Int) + 4) = 5 := by decide
  rw [hw5]
  refine cond_f (by simp; omega) ?_
  refine JoinP.bool (fun b w' => w' = w4 ∧ b = false) (fun j hj => ⟨_, b1.cell 0, cond_f (by simp; omega) ⟨_, b1.cell 0, cond_f (by simp; omega) ⟨_, b1.cell 3, _, RdB.len (hd.grow (g0.then g1)), hj _ _ ⟨rfl, by simp; omega⟩⟩⟩⟩) ?_
  rintro b w10 ⟨rfl, rfl⟩
  refine cond_f rfl ⟨_, b1.cell 3, slices_Clone_c (hd.grow (g0.then g1)) (by omega) fun v12 w13 g13 o13 => oneK_of (Rd.isOne o13.rd) ?_⟩
  have one12 := Rd.isOne o13.rd
  have b13 := b1.grow g13
  refine ⟨st1_at b13 (by show 3 < 8; omega), nm fun w14 e14 => ?_⟩
  obtain ⟨b14, t14⟩ := setE b13 e14
  have gA : Grow w w10 := g0.then g1
  have g14 : Grow w w14 := Below.turn (gA.then g13) t14 (Nat.le_refl _)
  have h14 := h.grow g14
  have r14 : RdB w14 v12 ds := o13.rd.turn t14 (fun e => by have := o13.blk _ e; have := gA.size; have := b0.lt; have := g1.size; omega)
  have n12 : NewV w v12 := fun q hq => by have := o13.blk q hq; have := gA.size; omega
  refine nm fun w15 e15 => ?_
  have g15 := drE e15
  have h15 := h14.grow g15
  have b15 := b14.grow g15
  refine withAddr_some ⟨_, h15.b.cell 2, _, _, _, _, _, _, _, _, b15.ld rfl, nm fun w26 e26 => ?_⟩
  obtain rfl : w26 = w15 := e26.trans e15.symm
  have ga := fun o => Grow.al (Grow.refl w26) o
  refine ⟨⟨_, (h15.grow (ga _)).b.cell 2, rfl⟩, ⟨_, _, _, _, _, _, _, _, (b15.grow (ga _)).ld rfl, rfl⟩, nm fun w36 e36 => nm fun w37 e37 => ?_⟩
  clear e36
  obtain ⟨b37, g37, _⟩ := alE e37
  clear e37
  refine ⟨b37.row rfl (by simp only [oneL, one12, one_int, one_bool, Bool.and_true]), nm fun w38 e38 => nm fun w39 e39 => ?_⟩
  clear e38
  obtain ⟨b39, t39⟩ := rowE b37 e39 rfl
  have g39 : Grow w26 w39 := Below.turn g37 t39 (Nat.le_refl _)
  have gB : Grow w w39 := (g14.then g15).then g39
  have h39 := h.grow gB
  have r39 : RdB w39 v12 ds := (r14.grow g15).grow g39
  have hin := h.isIn
  have hq : w.heap.size ≤ w26.heap.size := (g14.then g15).size
  have x39 : BKX (fpP g gt vl vo vh) w39 w26.heap.size (rAsk nx c v12) tAsk := ⟨b39, fun hs => by have := hin _ hs; omega⟩
  have d39 : RdX (fpP g gt vl vo vh) w39 v12 (ds.map b8) := RdX.new r39 n12 hin
  refine JoinP.unit (fun w40 => ∃ vh' H1, Step (fpP g gt vl vo vh) w39 w40 (fpP g gt vl vo vh') ∧ Pa w40 g gt vl vo vh' host nx nd now L P H1 ∧ H1 = if L = [] then (setF H now 0 8).2 else H) (fun j hj => ?_) ?_
  · refine withAddr_some ⟨_, h39.b.cell 3, _, h39.l.rd.len, cond_intro (fun e => withAddr_some ⟨_, h39.b.cell 6, ?_⟩) (fun e => hj _ ⟨vh, H, Step.refl _ _, h39, by rw [if_neg (fun hh => by rw [hh] at e; simp at e)]⟩)⟩
    have hLn : L = [] := List.eq_nil_of_length_eq_zero (by simpa using e)
    refine Set_c h39.t (by omega) (by decide) (by omega) fun vh' w' s' t' => ⟨_, rfl, ?_⟩
    obtain ⟨hp, sp⟩ := h39.tim s' t'
    exact hj _ ⟨vh', _, sp, hp, by rw [if_pos hLn]⟩
  rintro w40 ⟨vh', H1, s40, h40, hH1⟩
  have hH1l : H1.length ≤ H.length + 1 := by rw [hH1]; split; exact setF_len _ _ _ _; omega
  have x40 := x39.step s40
  have d40 := d39.step s40
  refine withAddr_some ⟨_, h40.b.cell 2, withAddr_some ⟨st1_at h40.b (by show 2 < 7; omega), nm fun w44 e44 => ?_⟩⟩
  rw [w64_id (n := nx + 1) (by omega) (by omega)] at e44
  obtain ⟨h44, s44⟩ := h40.setN e44
  have x44 := x40.step s44
  have d44 := d40.step s44
  refine nm fun w45 e45 => ?_
  have g45 := drE e45
  have h45 := h44.grow g45
  have x45 := x44.grow g45
  refine withAddr_some ⟨_, h45.b.cell 3, _, _, _, _, _, _, _, _, _, x45.b.ld rfl, nm fun w57 e57 => ?_⟩
  obtain rfl : w57 = w45 := e57.trans e45.symm
  have gb := fun o => Grow.al (Grow.refl w57) o
  refine ⟨⟨_, (h45.grow (gb _)).b.cell 3, rfl⟩, nm fun w59 e59 => nm fun w60 e60 => ?_⟩
  clear e59
  have g60 : Grow w57 w60 := by rw [e60]; exact gb _
  have h60 := h45.grow g60
  have lit : OwnR EA w60 w57.heap.size tAsk (.slice (some ⟨w57.heap.size, 0, none⟩) 1 1) [⟨nx, c, v12, one12⟩] := by
    have := OwnR.lit (E := EA) w57 (Nat.le_refl _) tAsk [⟨nx, c, v12, one12⟩] 1 rfl (by simp [maxLen])
    rw [e60]; exact this
  obtain ⟨v61, w62, k61, l61, n61⟩ := app_ownR tyAsk h60.l lit.rd (by simp; omega) (Nat.zero_le _)
  refine ⟨v61, w62, k61, withAddr_some (oneK_of ?_ ?_)⟩
  · rcases l61.2 with ⟨rfl, _⟩ | ⟨g', cap, cur, rfl, _⟩ <;> rfl
  have b62 : BK w62 g #[.int .i64 host, .int .i64 nd, .int .u64 (nx + 1), vl, vo, .slice none 0 0, .pointer (some ⟨gt, 0, none⟩)] tPath := (n61.by_.block g h60.b.lt (fun e => ownR_ne h60.l h60.b (by decide) e.symm)).trans h60.b
  refine ⟨st1_at b62 (by show 3 < 7; omega), nm fun w64 e64 => nm fun w65 e65 => ?_⟩
  clear e64
  obtain ⟨h65, s65⟩ := h60.pushL l61 n61 e65
  have x65 := (x45.grow g60).step s65
  have d65 := ((d44.grow g45).grow g60).step s65
  refine ⟨_, _, _, _, _, _, _, _, _, x65.b.ld rfl, send_c h65 hn hnd (by omega) hP d65.1 hl (by omega) fun vo2 vh2 p w76 s76 h76 pk76 np => ⟨rfl, _, (x65.step s76).b.cell 0, ?_⟩⟩
  rw [hH1] at h76
  have hsz : w.heap.size ≤ w65.heap.size := Nat.le_trans gB.size (Nat.le_trans s40.size (Nat.le_trans s44.size (Nat.le_trans (g45.then g60).size s65.size)))
  refine k v61 vo2 vh2 ⟨nx, c, v12, one12⟩ p w76 ((Step.of_grow gB).then (s40.then (s44.then ((Step.of_grow (g45.then g60)).then (s65.then s76))))) h76 ⟨by simp; omega, fun i hi => ?_⟩ ⟨ds, d65.step s76, hl⟩ n12 pk76 (np.of hsz)
  by_cases hi2 : i < L.length
  · rw [List.getElem_append_left hi2]; exact ids.2 i hi2
  · have hi3 : i = L.length := by simp at hi; omega
    subst hi3
    rw [List.getElem_append_right (Nat.le_refl _)]
    simp only [Nat.sub_self, List.getElem_cons_zero]
    exact hnx

/-! ### Out, Waiting, Done, In -/
theorem RdR.clip {α : Type} {E : Enc α} {w : World} {v : Value} {L : List α} (h : RdR E w v L) : ∃ v', subSlice v E.s none (some (.int .i64 (L.length : Int))) (some (.int .i64 (L.length : Int))) = some v' ∧ RdR E w v' L ∧ v'.ownBlock = v.ownBlock := by
  obtain ⟨a, cap, rfl, h1, h2, h3, h4⟩ := h
  have h0 : (0 : Int) ≤ (L.length : Int) := by omega
  have e : (L.length : Int) ≤ cap := by omega
  refine ⟨.slice a L.length L.length, ?_, ⟨a, L.length, rfl, Nat.le_refl _, by omega, fun hh => by have := h3 hh; omega, h4⟩, by cases a <;> rfl⟩
  simp only [subSlice, boundsOf, boundOf, h0, e, and_self, if_true, Int.toNat_natCast, Int.le_refl, Nat.sub_zero]
  split
  · rfl
  · cases a <;> simp [add_zero]

theorem Out_c {w : World} {g gt : Nat} {vl vo vh : Value} {host nx nd now : Int} {L : List Ask} {P : List Pkt} {H : List (Int × Int)} {R : KV} (h : Pa w g gt vl vo vh host nx nd now L P H)
    (k : ∀ v' w', Step (fpP g gt vl vo vh) w w' (fpP g gt vl (.slice none 0 0) vh) → Pa w' g gt vl (.slice none 0 0) vh host nx nd now L [] H → RdR EP w' v' P → v'.ownBlock = vo.ownBlock → R v' w') : Go.CW.Spec Tryz.prog 27 #[.pointer (some ⟨g, 0, none⟩)] w R := by
  apply mpath_Path_Out_m_wp
  refine withAddr_some ⟨_, h.b.cell 4, ?_⟩
  apply slices_Clip_90_wp
  obtain ⟨v2, hs2, r2, ob2⟩ := RdR.clip h.o.rd
  refine ⟨_, h.o.rd.len, _, h.o.rd.len, v2, hs2, withAddr_some ⟨st1_at h.b (by show 4 < 7; omega), nm fun w5 e5 => ?_⟩⟩
  have n5 : OwnNext w vo w (.slice none 0 0) := ⟨grownBy_refl _ _, .inr (fun q hq => by cases hq)⟩
  obtain ⟨h5, s5⟩ := h.pushO (P' := []) (OwnR.nil _ _ _) n5 e5
  obtain ⟨_, t5⟩ := setE h.b e5
  exact k v2 w5 s5 h5 (r2.stable fun q hq => t5.block q (fun e => ownR_ne h.o h.b (by decide) (by rw [← ob2, hq, e]))) ob2

theorem Done_c {w : World} {g gt : Nat} {vl vo vh : Value} {host nx nd now : Int} {L : List Ask} {P : List Pkt} {H : List (Int × Int)} {R : KV} (h : Pa w g gt vl vo vh host nx nd now L P H)
    (k : ∀ w', Step (fpP g gt vl vo vh) w w' (fpP g gt vl vo vh) → R (.slice none 0 0) w') : Go.CW.Spec Tryz.prog 35 #[.pointer (some ⟨g, 0, none⟩)] w R := by
  apply mpath_Path_Done_m_wp
  refine withAddr_some ⟨_, h.b.cell 5, ?_⟩
  apply slices_Clip_101_wp
  refine ⟨0, rfl, 0, rfl, _, rfl, withAddr_some ⟨st1_at h.b (by show 5 < 7; omega), nm fun w5 e5 => k w5 ?_⟩⟩
  subst e5
  exact Step.setA w _ _ (by rw [add_block]; exact .inl rfl)

def EU : Enc Int := ⟨1, fun n => [.int .u64 n], fun _ => rfl, by omega, fun _ => rfl⟩
abbrev tU : TypeId := 38
abbrev tUs : TypeId := 81
theorem tyU : SlTyN Tryz.prog tUs tU EU.s 8 := SlTyN.of (by kernel_rfl)

theorem Waiting_c {w : World} {g gt : Nat} {vl vo vh : Value} {host nx nd now : Int} {L : List Ask} {P : List Pkt} {H : List (Int × Int)} {R : KV} (h : Pa w g gt vl vo vh host nx nd now L P H) (hL : L.length ≤ 1000)
    (k : ∀ v' w', Grow w w' → RdR EU w' v' (L.map (·.id)) → R v' w') : Go.CW.Spec Tryz.prog 34 #[.pointer (some ⟨g, 0, none⟩)] w R := by
  apply mpath_Path_Waiting_m_wp
  refine withAddr_some ⟨_, h.b.cell 3, _, h.l.rd.len, ?_⟩
  refine ⟨fun (v : Value) (i : Int) (ww : World) => 0 ≤ i ∧ i ≤ L.length ∧ Grow w ww ∧ OwnR EU ww w.heap.size tU v ((L.map (·.id)).take i.toNat), fun (_ : Value) (i : Int) (_ : World) => ((L.length : Int) - i).toNat, ⟨by omega, by omega, Grow.refl _, OwnR.nil _ _ _⟩, ?_⟩
  dsimp only [allR, mapR2, eqN, ltN]
  rintro m v i ww ⟨⟨i0, i1, gg, ow⟩, hm⟩
  refine cond_intro (fun e => ?_) (fun e => ?_)
  · simp only [decide_eq_true_eq] at e
    obtain ⟨a, ha, hc, _⟩ := (h.l.grow gg).rd.at i0 e
    have ld : ldCells ww a 9 (rAsk (L[i.toNat]'(by omega)).id (L[i.toNat]'(by omega)).c (L[i.toNat]'(by omega)).d) := ⟨rfl, fun j hj => (hc j hj).trans (by simp [EA])⟩
    refine ⟨a, ha, _, _, _, _, _, _, _, _, _, ld, nm fun w17 e17 => ?_⟩
    obtain ⟨b17, g17, _⟩ := alE e17
    clear e17
    refine ⟨b17.row rfl (by simp only [oneL, (L[i.toNat]'(by omega)).one, one_int, one_bool, Bool.and_true]), nm fun w18 e18 => ?_⟩
    obtain ⟨b18, t18⟩ := rowE b17 e18 rfl
    clear e18
    have g18 : Grow ww w18 := Below.turn g17 t18 (Nat.le_refl _)
    refine ⟨_, b18.cell 0, nm fun w20 e20 => ?_⟩
    have g20 : Grow w18 w20 := by rw [e20]; exact Grow.al (Grow.refl _) _
    have lit : OwnR EU w20 w18.heap.size tU (.slice (some ⟨w18.heap.size, 0, none⟩) 1 1) [(L[i.toNat]'(by omega)).id] := by
      have := OwnR.lit (E := EU) w18 (Nat.le_refl _) tU [(L[i.toNat]'(by omega)).id] 1 rfl (by simp [maxLen])
      rw [e20]; exact this
    have o20 := (ow.grow g18).grow g20
    have hB : w.heap.size ≤ w20.heap.size := (gg.then (g18.then g20)).size
    obtain ⟨v21, w22, k21, o21, n21⟩ := app_ownR tyU o20 lit.rd (by simp; omega) hB
    refine ⟨v21, w22, k21, ?_⟩
    rw [wi64_id (n := i + 1) (by omega) (by omega)]
    have e1 : (i + 1).toNat = i.toNat + 1 := by omega
    refine ⟨⟨by omega, by omega, (gg.then (g18.then g20)).trans (n21.below hB (fun q hq => (o20.lt q hq).1)), ?_⟩, by omega⟩
    have hle : i.toNat < (L.map (·.id)).length := by simp; omega
    rw [e1, List.take_add_one, List.getElem?_eq_getElem hle]
    simpa using o21
  · simp only [decide_eq_false_iff_not] at e
    have et : (L.map (·.id)).take i.toNat = L.map (·.id) := List.take_of_length_le (by simp; omega)
    rw [et] at ow
    apply slices_Clip_100_wp
    obtain ⟨v2, hs2, r2, _⟩ := RdR.clip ow.rd
    exact ⟨_, ow.rd.len, _, ow.rd.len, v2, hs2, k v2 ww gg r2⟩

end Go.Proofs.YtghineciiljeoaaGreatDoor.Clk

end

section
/- A path's tick. -/
set_option linter.unusedVariables false
set_option linter.unusedSimpArgs false
set_option maxRecDepth 100000
namespace Go.Proofs.YtghineciiljeoaaGreatDoor.Clk
open Go Go.CW Go.RowKit Go.Crc

theorem contains_c {w : World} {v : Value} {L : List Int} {x : Int} {R : KV} (h : RdR E1 w v L) (k : R (.bool (L.contains x)) w) : Go.CW.Spec Tryz.prog 98 #[v, .int .i64 x] w R := by
  apply slices_Contains_98_wp
  apply slices_Index_186_wp
  have hle := h.le
  refine ⟨_, h.len, fun (i : Int) (ww : World) => ww = w ∧ 0 ≤ i ∧ i ≤ L.length ∧ x ∉ L.take i.toNat, fun (i : Int) (_ : World) => (L.length - i).toNat, ⟨rfl, by omega, by omega, by simp⟩, ?_⟩
  dsimp only [allR, mapR2, eqN, ltN]
  rintro m i ww ⟨⟨rfl, h0, h1, hx⟩, hm⟩
  refine cond_intro (fun hp => ?_) (fun hp => ?_)
  · have hp : i < L.length := by simpa using hp
    obtain ⟨a, ha, hc⟩ := E1_at h h0 hp
    refine ⟨a, ha, _, hc, cond_intro (fun e => ⟨_, rfl, ?_⟩) (fun e => ?_)⟩
    · have e : x = L[i.toNat]'(by omega) := by simpa using e
      have e1 : L.contains x = true := by rw [List.contains_iff_mem, e]; exact List.getElem_mem _
      rw [decide_eq_true h0, ← e1]
      exact k
    · have e : x ≠ L[i.toNat]'(by omega) := by simpa using e
      rw [wi64_id (n := i + 1) (by omega) (by omega)]
      refine ⟨⟨rfl, by omega, by omega, ?_⟩, by omega⟩
      have e1 : (i + 1).toNat = i.toNat + 1 := by omega
      rw [e1, List.take_add_one, List.getElem?_eq_getElem (by omega)]
      simp only [Option.toList_some, List.mem_append, List.mem_singleton, not_or]
      exact ⟨hx, e⟩
  · have hp : ¬ i < L.length := by simpa using hp
    rw [List.take_of_length_le (by omega)] at hx
    have e1 : L.contains x = false := by rw [Bool.eq_false_iff]; intro e; exact hx (List.contains_iff_mem.1 e)
    refine ⟨_, rfl, ?_⟩
    rw [e1] at k
    exact k

theorem rdrOut {α : Type} {E : Enc α} {w w' : World} {v : Value} {L : List α} {T T' : Fp} (r : RdR E w v L) (st : Step T w w' T') (hn : ∀ q, v.ownBlock = some q → ¬ T q) : RdR E w' v L :=
  r.kept fun a u ha hv => (cell_of_heap (st.block a.block (World.block_lt_of_cell? w a ha) (hn _ hv))).trans ha

theorem tick_nd {ids : List Int} {now nd : Int} {H : List (Int × Int)} {m : Nat} (h : nd = 0 ∨ nd = 1) : (tickF ids now nd H m).1 = 0 ∨ (tickF ids now nd H m).1 = 1 := by
  unfold tickF
  dsimp only
  cases (popF H now).1.contains 0
  · exact h
  · show 1 - nd = 0 ∨ 1 - nd = 1
    omega

theorem PTick_c {w : World} {g gt : Nat} {vl vo vh : Value} {host nx nd now : Int} {L : List Ask} {H : List (Int × Int)} {R : KV} (h : Pa w g gt vl vo vh host nx nd now L [] H) (hn : 0 ≤ now ∧ now ≤ 900) (hnd : nd = 0 ∨ nd = 1) (ids : Ids L nx) (hL : L.length ≤ 4) (hH : H.length ≤ 900)
    (ha : ∀ a ∈ L, AskOk (fpP g gt vl vo vh) w a)
    (k : ∀ vo' vh' P' w', Step (fpP g gt vl vo vh) w w' (fpP g gt vl vo' vh') → Pa w' g gt vl vo' vh' host nx (tickF (L.map (·.id)) (now + 1) nd H 0).1 (now + 1) L P' (tickF (L.map (·.id)) (now + 1) nd H 0).2.1 → P'.length = (tickF (L.map (·.id)) (now + 1) nd H 0).2.2 →
      (∀ p ∈ P', PkOk (fpP g gt vl vo' vh') w' p ∧ NewV w p.d) → R (.tuple #[]) w') : Go.CW.Spec Tryz.prog 32 #[.pointer (some ⟨g, 0, none⟩)] w R := by
  apply mpath_Path_Tick_m_wp
  refine withAddr_some ⟨_, h.b.cell 6, Tick_c h.t (by omega) (by omega) fun vh1 v2 w3 s3 t3 r2 o2 => ?_⟩
  obtain ⟨h3, st3⟩ := h.tim s3 t3
  have hlp := popF_len2 H (now + 1)
  have hin := h.isIn
  have hne2 : ∀ q, v2.ownBlock = some q → ¬ fpP g gt vl vo vh1 q := by
    intro q hq hf
    obtain ⟨q1, q2, q3⟩ := o2 q hq
    rcases hf with rfl | hf | hf | hf
    · have := h.b.lt; omega
    · have := (h.l.lt q hf).2; omega
    · have := (h.o.lt q hf).2; omega
    · exact q3 hf
  have hlt2 : ∀ q, v2.ownBlock = some q → q < w3.heap.size := fun q hq => (o2 q hq).2.1
  generalize hdue : (popF H (now + 1)).1 = due at *
  generalize hH1 : (popF H (now + 1)).2 = H1 at *
  have hw3 := s3.size
  refine JoinP.unit (fun w4 => ∃ vh' nd' H', Step (fpP g gt vl vo vh1) w3 w4 (fpP g gt vl vo vh') ∧ Pa w4 g gt vl vo vh' host nx nd' (now + 1) L [] H' ∧ RdR E1 w4 v2 due ∧ H'.length ≤ 901 ∧ (nd' = 0 ∨ nd' = 1) ∧ tickF (L.map (·.id)) (now + 1) nd H 0 = (nd', sndF due (now + 1) (L.map (·.id)) H' 0)) (fun j hj => contains_c r2 ⟨_, rfl, cond_intro (fun e => ?_) (fun e => hj _ ⟨vh1, nd, H1, Step.refl _ _, h3, r2, by omega, hnd, by unfold tickF; simp only [hdue, hH1, e, cond_false]⟩)⟩) ?_
  · refine withAddr_some ⟨_, h3.b.cell 1, withAddr_some ⟨st1_at h3.b (by show 1 < 7; omega), nm fun w48 e48 => ?_⟩⟩
    rw [wi64_id (n := 1 - nd) (by omega) (by omega)] at e48
    obtain ⟨h48, s48⟩ := h3.setD e48
    refine withAddr_some ⟨_, h48.b.cell 6, Set_c h48.t (by omega) (by decide) (by omega) fun vh' w52 s52 t52 => ⟨_, rfl, ?_⟩⟩
    obtain ⟨h52, st52⟩ := h48.tim s52 t52
    have r48 := rdrOut r2 s48 hne2
    have r52 := rdrOut r48 st52 (fun q hq => hne2 q hq)
    exact hj _ ⟨vh', 1 - nd, _, s48.then st52, h52, r52, by have := setF_len H1 (now + 1) 0 8; omega, by omega, by unfold tickF; simp only [hdue, hH1, e, cond_true]⟩
  rintro w4 ⟨vh2, nd2, H2, st4, h4, r4, hH2, hnd2, htick⟩
  rw [htick] at k
  have hne4 : ∀ q, v2.ownBlock = some q → ¬ fpP g gt vl vo vh2 q := fun q hq hf => by
    rcases st4.fp q hf with e | e
    · exact hne2 q hq e
    · have := hlt2 q hq; omega
  have hlt4 : ∀ q, v2.ownBlock = some q → q < w4.heap.size := fun q hq => by have := hlt2 q hq; have := st4.size; omega
  have ha4 : ∀ a ∈ L, AskOk (fpP g gt vl vo vh2) w4 a := fun a hm => ((ha a hm).step st3).step st4
  have hw4 := st4.size
  refine withAddr_some ⟨_, h4.b.cell 3, _, h4.l.rd.len, ?_⟩
  refine ⟨fun (i : Int) (ww : World) => ∃ (n : Nat) (vo' vh' : Value) (P' : List Pkt) (H' : List (Int × Int)), i = (n : Int) ∧ n ≤ L.length ∧ Step (fpP g gt vl vo vh2) w4 ww (fpP g gt vl vo' vh') ∧ Pa ww g gt vl vo' vh' host nx nd2 (now + 1) L P' H' ∧ H'.length ≤ 901 + n ∧ P'.length ≤ n ∧
      sndF due (now + 1) ((L.map (·.id)).drop n) H' P'.length = sndF due (now + 1) (L.map (·.id)) H2 0 ∧ ∀ p ∈ P', PkOk (fpP g gt vl vo' vh') ww p ∧ NewV w p.d, fun (i : Int) (_ : World) => ((L.length : Int) - i).toNat,
    ⟨0, vo, vh2, [], H2, rfl, by omega, Step.refl _ _, h4, by omega, by simp, rfl, fun p hp => by cases hp⟩, ?_⟩
  dsimp only [allR, mapR2, eqN, ltN]
  rintro m i w10 ⟨⟨n, vo', vh', P', H', rfl, hnl, st10, h10, hH', hP', hsnd, hpk⟩, hm⟩
  have r10 := rdrOut r4 st10 hne4
  have hw10 := st10.size
  refine cond_intro (fun hc => ?_) (fun hc => ?_)
  · have hlt : n < L.length := by simp at hc; omega
    have hid : L[n].id = (n : Int) + 1 := ids.2 n hlt
    have hdrop : (L.map (·.id)).drop n = L[n].id :: (L.map (·.id)).drop (n + 1) := by
      rw [List.drop_eq_getElem_cons (by simpa using hlt)]; simp
    refine JoinP.unit (fun w11 => ∃ (vo' vh' : Value) (P' : List Pkt) (H' : List (Int × Int)), Step (fpP g gt vl vo vh2) w4 w11 (fpP g gt vl vo' vh') ∧ Pa w11 g gt vl vo' vh' host nx nd2 (now + 1) L P' H' ∧ H'.length ≤ 901 + (n + 1) ∧ P'.length ≤ n + 1 ∧
      sndF due (now + 1) ((L.map (·.id)).drop (n + 1)) H' P'.length = sndF due (now + 1) (L.map (·.id)) H2 0 ∧ ∀ p ∈ P', PkOk (fpP g gt vl vo' vh') w11 p ∧ NewV w p.d) (fun j hj => ?_) ?_
    · obtain ⟨a, haa, hcc, _⟩ := h10.l.rd.at (i := (n : Int)) (by omega) (by omega)
      simp only [Int.toNat_natCast] at hcc
      have ld : ldCells w10 a 9 (rAsk L[n].id L[n].c L[n].d) := ⟨rfl, fun j hj => (hcc j hj).trans (by simp [EA])⟩
      refine ⟨a, haa, _, _, _, _, _, _, _, _, _, ld, nm fun w23 e23 => ?_⟩
      obtain ⟨b23, g23, s23⟩ := alE e23
      refine ⟨b23.row rfl (by simp only [oneL, L[n].one, one_int, one_bool, Bool.and_true]), nm fun w24 e24 => ?_⟩
      obtain ⟨b24, t24⟩ := rowE b23 e24 rfl
      have g24 : Grow w10 w24 := Below.turn g23 t24 (Nat.le_refl _)
      refine ⟨_, b24.cell 0, ?_⟩
      rw [hid, wi64_id (n := (n : Int) + 1) (by omega) (by omega)]
      have r24 : RdR E1 w24 v2 due := r10.kept fun a u ha hv => (g24.cell (World.block_lt_of_cell? w10 a ha)).trans ha
      refine contains_c r24 ⟨_, rfl, cond_intro (fun e => ?_) (fun e => ?_)⟩
      · have e : due.contains ((n : Int) + 1) = false := by simpa using e
        have h24 := h10.grow g24
        refine hj _ ⟨vo', vh', P', H', st10.then (Step.of_grow g24), h24, by omega, by omega, ?_, fun p hp => ⟨(hpk p hp).1.grow g24, (hpk p hp).2⟩⟩
        rw [← hsnd, hdrop, hid]
        simp only [sndF, e, cond_false]
      · have e : due.contains ((n : Int) + 1) = true := by simpa using e
        have h24 := h10.grow g24
        obtain ⟨ds, rd, ld2⟩ := (((ha4 L[n] (List.getElem_mem hlt)).step st10).grow g24)
        refine ⟨_, _, _, _, _, _, _, _, _, b24.ld rfl, ?_⟩
        refine send_c h24 (by omega) hnd2 (by omega) (by omega) rd.1 ld2 (by omega) fun vo2 vh3 p w39 st39 h39 pk39 np39 => ⟨rfl, hj _ ⟨vo2, vh3, P' ++ [p], _, (st10.then (Step.of_grow g24)).then st39, h39, by have := setF_len H' (now + 1) L[n].id 4; omega, by simp; omega, ?_, fun p' hp' => ?_⟩⟩
        · rw [← hsnd, hdrop]
          simp only [sndF, hid, e, cond_true, List.length_append, List.length_cons, List.length_nil]
        · rcases List.mem_append.1 hp' with hp' | hp'
          · exact ⟨((hpk p' hp').1.grow g24).step st39, (hpk p' hp').2⟩
          · rw [List.mem_singleton.1 hp']
            exact ⟨pk39, np39.of (by have := g24.size; omega)⟩
    · rintro w11 ⟨vo2, vh3, P2, H3, st11, h11, q1, q2, q3, q4⟩
      rw [wi64_id (n := (n : Int) + 1) (by omega) (by omega)]
      exact ⟨⟨n + 1, vo2, vh3, P2, H3, by omega, by omega, st11, h11, q1, q2, q3, q4⟩, by omega⟩
  · have hge : n = L.length := by simp at hc; omega
    subst hge
    have e0 : (L.map (·.id)).drop L.length = [] := by rw [List.drop_eq_nil_iff]; simp
    rw [e0] at hsnd
    have e1 : sndF due (now + 1) (L.map (·.id)) H2 0 = (H', P'.length) := hsnd.symm
    rw [e1] at k
    exact k vo' vh' P' w10 ((st3.then st4).then st10) h10 rfl hpk

end Go.Proofs.YtghineciiljeoaaGreatDoor.Clk

end

section
/- Datagrams that wait: New, Send, Waiting, Drop. -/
set_option linter.unusedVariables false
set_option linter.unusedSimpArgs false
set_option maxRecDepth 100000
namespace Go.Proofs.YtghineciiljeoaaGreatDoor.Clk
open Go Go.CW Go.RowKit Go.Crc

structure NPk where
  fr : Int
  to : Int
  d : Value
  one : isOne d = true
def EN : Enc NPk := ⟨3, fun p => [.int .i64 p.fr, .int .i64 p.to, p.d], fun _ => rfl, by omega, fun p => by simp only [oneL, p.one, one_int, Bool.and_true]⟩
abbrev tNp : TypeId := 186
abbrev tNps : TypeId := 171
abbrev tNet : TypeId := 173
theorem tyNp : SlTyN Tryz.prog tNps tNp EN.s 40 := SlTyN.of (by kernel_rfl)

/-- a net of three hosts: what waits -/
structure Ne (w : World) (x : Nat) (v : Value) (sent : Int) (L : List NPk) : Prop where
  b : BK w x #[.int .i64 3, v, .int .i64 sent] tNet
  l : OwnR EN w 0 tNp v L
  d : ∀ p ∈ L, ∃ bs : List UInt8, RdI w p.d bs ∧ bs.length ≤ 8192
def fpN (x : Nat) (v : Value) : Fp := fun q => q = x ∨ v.ownBlock = some q

section
variable {w w' : World} {x : Nat} {v : Value} {sent : Int} {L : List NPk}

theorem Ne.grow (h : Ne w x v sent L) (g : Grow w w') : Ne w' x v sent L := ⟨h.b.grow g, h.l.grow g, fun p hp => by obtain ⟨bs, h1, h2⟩ := h.d p hp; exact ⟨bs, h1.grow g, h2⟩⟩
theorem Ne.isIn (h : Ne w x v sent L) : InW w (fpN x v) := by
  rintro k (rfl | hk)
  · exact h.b.lt
  · exact (h.l.lt k hk).2
theorem Ne.stepS {S S' : Fp} (h : Ne w x v sent L) (st : Step S w w' S') (a : Apart (fpN x v) S) (nb : NoT tb w S) : Ne w' x v sent L :=
  ⟨h.b.stepS st (a x (.inl rfl)), h.l.stepS st (fun q hq => a q (.inr hq)), fun p hp => by obtain ⟨bs, h1, h2⟩ := h.d p hp; exact ⟨bs, h1.step st nb, h2⟩⟩
theorem ownR_type {α : Type} {E : Enc α} {B : Nat} {e : TypeId} {v : Value} {L : List α} {q : Nat} (h : OwnR E w B e v L) (hq : v.ownBlock = some q) : ∃ cs fr, w.heap[q]? = some (.cells cs e fr) := by
  rcases h.2 with ⟨rfl, _⟩ | ⟨g, cap, cur, rfl, _, hg, _⟩
  · cases hq
  · cases hq; exact ⟨_, _, hg⟩
theorem Ne.noB (h : Ne w x v sent L) : NoT tb w (fpN x v) := by
  rintro q (rfl | hq) cs fr e
  · have := h.b
    unfold BK at this
    rw [this] at e
    injection e with e; injection e with _ e _
    exact absurd e (by decide)
  · obtain ⟨cs', fr', e'⟩ := ownR_type h.l hq
    rw [e'] at e
    injection e with e; injection e with _ e _
    exact absurd e (by decide)

/-- what waits turned -/
theorem Ne.push {w1 : World} {v' : Value} {L' : List NPk} (h : Ne w x v sent L) (st0 : Step (fun q => v.ownBlock = some q) w w1 (fun q => v.ownBlock = some q ∨ v'.ownBlock = some q)) (hv : ∀ q, v'.ownBlock = some q → v.ownBlock = some q ∨ w.heap.size ≤ q) (l' : OwnR EN w1 0 tNp v' L')
    (hd : ∀ p ∈ L', ∃ bs : List UInt8, RdI w p.d bs ∧ bs.length ≤ 8192) (e : w' = World.setCell w1 (Addr.add ⟨x, 0, none⟩ 1) v') : Ne w' x v' sent L' ∧ Step (fpN x v) w w' (fpN x v') := by
  have b1 := h.b.stepS st0 (fun hs => ownR_ne h.l h.b (by decide) hs)
  obtain ⟨b, t⟩ := setE b1 e
  have nb0 : NoT tb w (fun q => v.ownBlock = some q) := fun q hq => h.noB q (.inr hq)
  have nb1 : NoT tb w1 (fun q => q = x) := by
    rintro q rfl cs fr e
    have := b1
    unfold BK at this
    rw [this] at e
    injection e with e; injection e with _ e _
    exact absurd e (by decide)
  refine ⟨⟨b, l'.turn t (ownR_ne l' b1 (by decide)), fun p hp => ?_⟩, ?_⟩
  · obtain ⟨bs, h1, h2⟩ := hd p hp
    exact ⟨bs, (h1.step st0 nb0).step (t.step (S := fun q => q = x) rfl) nb1, h2⟩
  · have sz := t.size
    refine ⟨t.os.trans st0.os, t.tape.trans st0.tape, t.output.trans st0.output, by have := st0.size; omega, fun k hk hs => ?_, fun k hk => ?_⟩
    · exact (t.block k (fun e => hs (.inl e))).trans (st0.block k hk (fun e => hs (.inr e)))
    · rcases hk with rfl | hk
      · exact .inl (.inl rfl)
      · rcases hv k hk with e | e
        · exact .inl (.inr e)
        · exact .inr e
end

theorem bounds_iii {k k' k'' : IntKind} {a b c : Int} {len cap : Nat} (h0 : 0 ≤ a) (h1 : a ≤ b) (h2 : b ≤ c) (h3 : c ≤ cap) : boundsOf len cap (some (.int k a)) (some (.int k' b)) (some (.int k'' c)) = some (a.toNat, b.toNat, c.toNat) := by
  have h4 : (0 : Int) ≤ b := by omega
  have h5 : (0 : Int) ≤ c := by omega
  have h6 : b ≤ max c 0 := by omega
  have h7 : a ≤ max b 0 := by omega
  simp [boundsOf, boundOf, h0, h3, h4, h5, h6, h7]

theorem delete_c {w : World} {B : Nat} {v : Value} {L : List NPk} (h : OwnR EN w B tNp v L) {i : Nat} (hi : i < L.length) {R : KV} (k : ∀ v' w', v'.ownBlock = v.ownBlock → Step (fun q => v.ownBlock = some q) w w' (fun q => v.ownBlock = some q) → OwnR EN w' B tNp v' (L.take i ++ L.drop (i + 1)) → R v' w') :
    Go.CW.Spec Tryz.prog 185 #[v, .int .i64 (i : Int), .int .i64 ((i : Int) + 1)] w R := by
  have hrd := h.rd
  have hle := hrd.le
  rcases h.2 with ⟨rfl, hn⟩ | ⟨g, cap, cur, rfl, hb, hg, hn, hm, hs, ht⟩
  · omega
  have hm0 := hm
  simp only [maxLen] at hm
  have hk : BK w g cur tNp := hg
  have h3 : EN.s = 3 := rfl
  rw [h3] at hs ht
  apply slices_Delete_185_wp
  have hb1 : ∃ v1, subSlice (.slice (some ⟨g, 0, none⟩) L.length cap) 3 (some (.int .i64 (i : Int))) (some (.int .i64 ((i : Int) + 1))) (some (.int .i64 ((L.length : Nat) : Int))) = some v1 := by
    simp only [subSlice, bounds_iii (a := (i : Int)) (b := (i : Int) + 1) (c := ((L.length : Nat) : Int)) (len := L.length) (cap := cap) (by omega) (by omega) (by omega) (by omega)]
    exact ⟨_, rfl⟩
  obtain ⟨v1, hv1⟩ := hb1
  refine ⟨_, rfl, v1, hv1, cond_f (by simp; omega) ⟨_, rfl, nm fun w3 e3 => ?_⟩⟩
  refine ⟨.slice (some ⟨g, 0, none⟩) i cap, ?_, ?_⟩
  · simp only [subSlice, bounds_ni (b := (i : Int)) (len := L.length) (cap := cap) (by omega) (by omega)]
    simp [add_zero]
  have hcap : cap ≠ L.length - 1 := by omega
  refine ⟨.slice (if cap = i + 1 then some ⟨g, 0, none⟩ else some ⟨g, (i + 1) * 3, none⟩) (L.length - (i + 1)) (cap - (i + 1)), ?_, nm fun w6 e6 => ?_⟩
  · simp only [subSlice, bounds_in (a := (i : Int) + 1) (len := L.length) (cap := cap) (by omega) (by omega)]
    have e1 : ((i : Int) + 1).toNat = i + 1 := by omega
    rw [e1]
    simp only [Option.map_some, ad0]
  have gd := drE e6
  have hk6 := hk.grow gd
  obtain ⟨ei, z, hinfo, hz, hsz, hby, hzs⟩ := tyNp.info
  rw [h3] at hsz hzs
  have hflat : (EN.flat (L.drop (i + 1))).length = (L.length - (i + 1)) * 3 := by rw [Enc.flat_length, List.length_drop]; rfl
  have hrun := run_append_room (P := Tryz.prog) w6 tNps tNps tNp ei tyNp.und hinfo g i cap cur hk6 (if cap = i + 1 then ⟨g, 0, none⟩ else ⟨g, (i + 1) * 3, none⟩) (L.length - (i + 1)) (cap - (i + 1)) (EN.flat (L.drop (i + 1))) (by rw [hsz]; exact hflat)
    (fun j u hj => by
      have hj' : j < (L.length - (i + 1)) * 3 := by rw [← hflat]; exact (List.getElem?_eq_some_iff.1 hj).1
      have hne : cap ≠ i + 1 := by intro e; have : L.length - (i + 1) = 0 := by omega
                                   rw [this] at hj'; omega
      rw [if_neg hne]
      have e : Addr.add ⟨g, (i + 1) * 3, none⟩ j = ⟨g, (i + 1) * 3 + j, none⟩ := by
        unfold Addr.add; split
        · next e => subst e; rfl
        · rfl
      rw [e, hk6.at, ← Array.getElem?_toList]
      rw [(Enc.flat_split (E := EN) L (i + 1)).2, List.getElem?_drop, ← ht, List.getElem?_take] at hj
      split at hj
      · exact hj
      · cases hj)
    (Enc.flat_one _) (by omega) (by rw [hsz, hflat]; omega)
  rw [hsz, hflat] at hrun
  have hcapL : L.length * 3 ≤ cap * 3 := Nat.mul_le_mul_right _ hn
  have hv5 : (if cap = i + 1 then some (⟨g, 0, none⟩ : Addr) else some ⟨g, (i + 1) * 3, none⟩) = some (if cap = i + 1 then ⟨g, 0, none⟩ else ⟨g, (i + 1) * 3, none⟩) := by split <;> rfl
  rw [hv5]
  refine ⟨_, _, hrun, _, rfl, ?_⟩
  have hlen1 : i + (L.length - (i + 1)) = L.length - 1 := by omega
  rw [hlen1]
  generalize hnew : (cur.toList.take (i * 3) ++ EN.flat (L.drop (i + 1)) ++ cur.toList.drop (i * 3 + (L.length - (i + 1)) * 3)).toArray = cur' 
  have hsize' : cur'.size = cap * 3 := by
    rw [← hnew]; simp [hflat, hs]; omega
  have hk8 : BK (w6.setRow g cur') g cur' tNp := setRow_heap w6 g cur cur' tNp _ hk6
  have st8 : Step (fun q => q = g) w6 (w6.setRow g cur') (fun q => q = g) := ⟨rfl, rfl, rfl, by simp [World.setRow], fun q hq hne => setRow_other w6 g q cur' hne, fun _ hq => .inl hq⟩
  generalize w6.setRow g cur' = w8 at *
  refine ⟨.slice (some ⟨g, (L.length - 1) * 3, none⟩) 1 (cap - (L.length - 1)), ?_, ?_⟩
  · have e1 : ((((L.length - 1 : Nat) : Int)).toNat) = L.length - 1 := by omega
    simp only [subSlice, bounds_ii (a := ((L.length - 1 : Nat) : Int)) (b := ((L.length : Nat) : Int)) (len := L.length - 1) (cap := cap) (by omega) (by omega) (by omega)]
    rw [e1, if_neg hcap]
    simp only [Option.map_some, ad0, Int.toNat_natCast]
    congr 2; omega
  have hzl : (Builtin.zeroCells z.cells 1).toList.length = 3 := by simp [Builtin.zeroCells, hzs]
  have hone : ∀ u ∈ (Builtin.zeroCells z.cells 1).toList, u.oneCell' = true := by
    have hz' : z = .agg #[.int .i64 0, .int .i64 0, .slice none 0 0] := by
      have : (Tryz.prog.info? tNp).bind (·.zero) = some (.agg #[.int .i64 0, .int .i64 0, .slice none 0 0]) := by kernel_rfl
      rw [hinfo, Option.bind_some, hz] at this
      exact Option.some.inj this
    subst hz'
    intro u hu
    have e : (Builtin.zeroCells (Value.agg #[.int .i64 0, .int .i64 0, .slice none 0 0]).cells 1).toList = [.int .i64 0, .int .i64 0, .slice none 0 0] := by kernel_rfl
    rw [e] at hu
    simp only [List.mem_cons, List.not_mem_nil, or_false] at hu
    rcases hu with rfl | rfl | rfl <;> rfl
  have hst := run_storeCells_cells (P := Tryz.prog) g ((L.length - 1) * 3) (Builtin.zeroCells z.cells 1).toList 0 w8 (fun j hj => by rw [hk8.at]; rw [hzl] at hj; simp [hsize']; omega) (fun j _ => hk8.thaw _) hone
  simp only [Nat.add_zero] at hst
  have hclear : (Builtin.clear_ #[tNps] 0 #[.slice (some ⟨g, (L.length - 1) * 3, none⟩) 1 (cap - (L.length - 1))]).run Tryz.prog w8 = .ok undef (w8.setCells g ((L.length - 1) * 3) (Builtin.zeroCells z.cells 1).toList) := by
    simp [Builtin.clear_, run_underlying tyNp.und, zeroValue, typeInfo, hinfo, hz, hst, undef]
  refine ⟨_, _, hclear, ?_⟩
  have hset := setCells_set (Builtin.zeroCells z.cells 1).toList ((L.length - 1) * 3) w8 cur' hk8 (by rw [hzl, hsize']; omega)
  have st9 : Step (fun q => q = g) w8 (w8.setCells g ((L.length - 1) * 3) (Builtin.zeroCells z.cells 1).toList) (fun q => q = g) :=
    Step.row (S := fun q => q = g) w8 ⟨g, (L.length - 1) * 3, none⟩ (Builtin.zeroCells z.cells 1) rfl
  have hgs : (fun q => (Value.slice (some (⟨g, 0, none⟩ : Addr)) L.length cap).ownBlock = some q) = (fun q => q = g) := by
    funext q; simp [Value.ownBlock, eq_comm]
  refine k _ _ rfl ?_ ?_
  · rw [hgs]
    exact (Step.of_grow gd).then (st8.then st9)
  · have hll : (L.take i ++ L.drop (i + 1)).length = L.length - 1 := by simp; omega
    refine ⟨by rw [Enc.flat_length], .inr ⟨g, cap, _, by rw [hll], hb, hset, by rw [hll]; omega, hm0, ?_, ?_⟩⟩
    · rw [h3]; simp [hzl, hsize']; omega
    · rw [hll, h3, Enc.flat_append, (Enc.flat_split (E := EN) L i).1, h3]
      simp only
      rw [List.append_assoc, List.take_append_of_le_length (by simp [hsize']; omega), List.take_take, Nat.min_self, ← hnew]
      simp only
      rw [List.take_append_of_le_length (by simp [hflat, hs]; omega)]
      have ea : (EN.flat L).take (i * 3) = cur.toList.take (i * 3) := by rw [← ht, List.take_take]; congr 1; omega
      rw [ea, List.take_of_length_le (by simp [hflat, hs]; omega)]


theorem nNew_c {w : World} {R : KV} (k : ∀ w', Grow w w' → Ne w' w.heap.size (.slice none 0 0) 0 [] → R (.tuple #[.pointer (some ⟨w.heap.size, 0, none⟩), .int .i64 (0 : Int)]) w') : Go.CW.Spec Tryz.prog 23 #[.int .i64 (3 : Int)] w R := by
  apply net_New_wp
  refine JoinP.bool (fun b w' => w' = w ∧ b = false) (fun j hj => cond_f rfl (hj _ _ ⟨rfl, rfl⟩)) ?_
  rintro b w1 ⟨rfl, rfl⟩
  refine cond_f rfl (nm fun w2 e2 => ?_)
  obtain ⟨b2, g2, _⟩ := alE e2
  exact k w2 g2 ⟨b2, OwnR.nil _ _ _, fun p hp => by cases hp⟩

theorem host_cN {w : World} {x : Nat} {v : Value} {sent : Int} {L : List NPk} (h : Ne w x v sent L) {i : Int} (hi : 0 ≤ i ∧ i < 3) {R : KV} (k : R (.bool true) w) : Go.CW.Spec Tryz.prog 91 #[.pointer (some ⟨x, 0, none⟩), .int .i64 i] w R := by
  apply net_Net_host_m_wp
  refine JoinP.bool (fun b w' => w' = w ∧ b = true) (fun j hj => cond_t (by simp; omega) (withAddr_some ⟨_, h.b.cell 0, hj _ _ ⟨rfl, by simp; omega⟩⟩)) ?_
  rintro b w1 ⟨rfl, rfl⟩
  exact k

theorem one_np {a b : Int} {v : Value} (h : isOne v = true) : oneL [.int .i64 a, .int .i64 b, v] = true := by simp only [oneL, h, one_int, Bool.and_true]

theorem apart_c {w : World} {fr to : Int} {d : Value} {bs : List UInt8} (hd : RdB w d bs) (hl : bs.length ≤ 8192) {R : KV} (k : ∀ v' w', Grow w w' → RdI w' v' bs → NewV w v' → R (.agg #[.int .i64 fr, .int .i64 to, v']) w') :
    Go.CW.Spec Tryz.prog 92 #[.agg #[.int .i64 fr, .int .i64 to, d]] w R := by
  apply net_apart_wp
  refine nm fun w0 e0 => nm fun w1 e1 => ?_
  obtain ⟨b0, g0, s0⟩ := alE e0
  obtain ⟨b1, g1, s1⟩ := alE e1
  have b01 := b0.grow g1
  refine ⟨d, b01.cell 2, slices_Clone_c (hd.grow (g0.then g1)) (by omega) fun v3 w4 g4 o4 => _root_.Go.Proofs.YtghineciiljeoaaGreatDoor.slices_Clip_c o4.rd fun v5 r5 e5 => oneK_of (Rd.isOne r5) ?_⟩
  have i5 : RdI w4 v5 bs := ⟨r5, (RdI.own o4).is.same e5⟩
  have n5 : NewV w1 v5 := fun q hq => o4.blk q (e5 ▸ hq)
  have b4 := b01.grow g4
  have b4' := b1.grow g4
  have one5 := Rd.isOne r5
  refine ⟨st1_at b4 (by show 2 < 3; omega), nm fun w7 e7 => ?_⟩
  obtain ⟨b7, t7⟩ := setE b4 e7
  refine ⟨_, _, _, b7.ld rfl, ?_⟩
  have b7' : BK w7 w0.heap.size _ tNp := b4'.turn t7 (by omega)
  refine ⟨b7'.row rfl (one_np one5), nm fun w11 e11 => ?_⟩
  obtain ⟨b11, t11⟩ := rowE b7' e11 rfl
  refine ⟨_, _, _, b11.ld rfl, ?_⟩
  have sz := g1.size
  have n0 : NoT tb w4 (fun q => q = w.heap.size) := by
    rintro q rfl cs fr e
    have := b4
    unfold BK at this
    rw [this] at e
    injection e with e; injection e with _ e _
    exact absurd e (by decide)
  have n1 : NoT tb w7 (fun q => q = w0.heap.size) := by
    rintro q rfl cs fr e
    have := b7'
    unfold BK at this
    rw [this] at e
    injection e with e; injection e with _ e _
    exact absurd e (by decide)
  refine k v5 w11 (Below.turn (Below.turn ((g0.then g1).then g4) t7 (Nat.le_refl _)) t11 (by omega)) ((i5.step (t7.step (S := fun q => q = w.heap.size) rfl) n0).step (t11.step (S := fun q => q = w0.heap.size) rfl) n1) (n5.of (by omega))

theorem Send_cN {w : World} {x : Nat} {v : Value} {sent : Int} {L : List NPk} (h : Ne w x v sent L) (hs : 0 ≤ sent ∧ sent ≤ 1000000) (hL : L.length ≤ 1000) {fr to : Int} (hf : 0 ≤ fr ∧ fr < 3) (ht : 0 ≤ to ∧ to < 3) {d : Value} {bs : List UInt8} (hd : RdB w d bs) (hl : bs.length ≤ 8192) {R : KV}
    (k : ∀ v' p w', Step (fpN x v) w w' (fpN x v') → Ne w' x v' (sent + 1) (L ++ [p]) → R (.int .i64 (0 : Int)) w') : Go.CW.Spec Tryz.prog 28 #[.pointer (some ⟨x, 0, none⟩), .int .i64 fr, .int .i64 to, d] w R := by
  apply net_Net_Send_m_wp
  refine JoinP.bool (fun b w' => w' = w ∧ b = false) (fun j hj => host_cN h hf ⟨_, rfl, cond_f rfl (host_cN h ht ⟨_, rfl, hj _ _ ⟨rfl, rfl⟩⟩)⟩) ?_
  rintro b w1 ⟨rfl, rfl⟩
  refine cond_f rfl ⟨_, RdB.len hd, cond_f (by simp; omega) (withAddr_some ⟨_, h.b.cell 1, _, h.l.rd.len, cond_f (by simp; omega) (nm fun w6 e6 => ?_)⟩)⟩
  have h6 := h.grow (drE e6)
  refine withAddr_some ⟨v, h6.b.cell 1, oneK_of (Rd.isOne hd) (nm fun w9 e9 => ?_)⟩
  have g9 := drE e9
  refine apart_c (hd.grow g9) hl fun v14 w11 g11 i14 n14 => ⟨_, _, _, rfl, ?_⟩
  have h11 := h.grow (g9.then g11)
  have ga := fun o => Grow.al (Grow.refl w11) o
  have one14 := Rd.isOne i14.rd
  refine ⟨⟨v, h11.b.cell 1, rfl⟩, ⟨v, (h11.grow (ga _)).b.cell 1, rfl⟩, nm fun w17 e17 => nm fun w18 e18 => ?_⟩
  clear e17
  have g18 : Grow w11 w18 := by rw [e18]; exact ga _
  have h18 := h11.grow g18
  have lit : OwnR EN w18 w11.heap.size tNp (.slice (some ⟨w11.heap.size, 0, none⟩) 1 1) [⟨fr, to, v14, one14⟩] := by
    have := OwnR.lit (E := EN) w11 (Nat.le_refl _) tNp [⟨fr, to, v14, one14⟩] 1 rfl (by simp [maxLen])
    rw [e18]; exact this
  obtain ⟨v19, w20, k19, o19, n19⟩ := app_ownR tyNp h18.l lit.rd (by simp; omega) (Nat.zero_le _)
  have st20 : Step (fun q => v.ownBlock = some q) w18 w20 (fun q => v.ownBlock = some q ∨ v19.ownBlock = some q) := Step.of_own n19 (fun q hq => hq)
  refine ⟨v19, w20, k19, withAddr_some (oneK_of ?_ ?_)⟩
  · rcases o19.2 with ⟨rfl, _⟩ | ⟨g', cap, cur, rfl, _⟩ <;> rfl
  have b20 := h18.b.stepS st20 (fun hs => ownR_ne h18.l h18.b (by decide) hs)
  refine ⟨st1_at b20 (by show 1 < 3; omega), nm fun w22 e22 => nm fun w23 e23 => ?_⟩
  clear e22
  obtain ⟨h23, s23⟩ := h18.push st20 (fun q hq => by
      rcases n19.at_ with a | a
      · exact .inl (a ▸ hq)
      · exact .inr (a q hq)) o19 (fun p hp => by
      rcases List.mem_append.1 hp with hp | hp
      · exact h18.d p hp
      · rw [List.mem_singleton.1 hp]; exact ⟨bs, i14.grow g18, hl⟩) e23
  refine withAddr_some ⟨_, h23.b.cell 2, withAddr_some ⟨st1_at h23.b (by show 2 < 3; omega), nm fun w27 e27 => ?_⟩⟩
  rw [wi64_id (n := sent + 1) (by omega) (by omega)] at e27
  obtain ⟨b27, t27⟩ := setE h23.b e27
  have nb : NoT tb w23 (fun q => q = x) := fun q hq => h23.noB q (.inl hq)
  have st27 := t27.step (S := fpN x v19) (.inl rfl)
  refine k v19 _ w27 ((Step.of_grow ((g9.then g11).then g18)).then (s23.then st27)) ⟨b27, h23.l.turn t27 (ownR_ne h23.l h23.b (by decide)), fun p hp => ?_⟩
  obtain ⟨bs', h1, h2⟩ := h23.d p hp
  exact ⟨bs', h1.step (t27.step (S := fun q => q = x) rfl) nb, h2⟩

theorem Waiting_cN {w : World} {x : Nat} {v : Value} {sent : Int} {L : List NPk} (h : Ne w x v sent L) {R : KV} (k : R (.int .i64 (L.length : Int)) w) : Go.CW.Spec Tryz.prog 30 #[.pointer (some ⟨x, 0, none⟩)] w R := by
  apply net_Net_Waiting_m_wp
  exact withAddr_some ⟨_, h.b.cell 1, _, h.l.rd.len, k⟩

theorem is_cN {w : World} {x : Nat} {v : Value} {sent : Int} {L : List NPk} (h : Ne w x v sent L) (hL : 0 < L.length) {R : KV} (k : R (.bool true) w) : Go.CW.Spec Tryz.prog 251 #[.pointer (some ⟨x, 0, none⟩), .int .i64 (0 : Int)] w R := by
  apply net_Net_is_m_wp
  refine JoinP.bool (fun b w' => w' = w ∧ b = true) (fun j hj => cond_t rfl (withAddr_some ⟨_, h.b.cell 1, _, h.l.rd.len, hj _ _ ⟨rfl, by simp; omega⟩⟩)) ?_
  rintro b w1 ⟨rfl, rfl⟩
  exact k

theorem Packet_cN {w : World} {x : Nat} {v : Value} {sent : Int} {p : NPk} {L : List NPk} (h : Ne w x v sent (p :: L)) {R : KV}
    (k : ∀ v' w', Grow w w' → isOne v' = true → R (.tuple #[.agg #[.int .i64 p.fr, .int .i64 p.to, v'], .bool true]) w') : Go.CW.Spec Tryz.prog 184 #[.pointer (some ⟨x, 0, none⟩), .int .i64 (0 : Int)] w R := by
  apply net_Net_Packet_m_wp
  refine nm fun w0 e0 => ?_
  obtain ⟨b0, g0, s0⟩ := alE e0
  have h0 := h.grow g0
  refine is_cN h0 (by simp) ⟨_, rfl, cond_f rfl ?_⟩
  obtain ⟨a, ha, hc, _⟩ := h0.l.rd.at (i := 0) (by omega) (by simp)
  obtain ⟨bs, i1, l1⟩ := h0.d p (by simp)
  refine withAddr_some ⟨_, h0.b.cell 1, a, ha, p.fr, p.to, p.d, ⟨rfl, fun j hj => (hc j hj).trans (by simp [EN])⟩, apart_c i1.rd l1 fun v14 w15 g15 i15 n15 => ⟨_, _, _, rfl, ?_⟩⟩
  have b15 := b0.grow g15
  refine ⟨b15.row rfl (one_np (Rd.isOne i15.rd)), nm fun w19 e19 => ?_⟩
  obtain ⟨b19, t19⟩ := rowE b15 e19 rfl
  exact ⟨_, _, _, b19.ld rfl, k v14 w19 (Below.turn (g0.then g15) t19 (Nat.le_refl _)) (Rd.isOne i15.rd)⟩

theorem Drop_cN {w : World} {x : Nat} {v : Value} {sent : Int} {p : NPk} {L : List NPk} (h : Ne w x v sent (p :: L)) {R : KV}
    (k : ∀ v' w', Step (fpN x v) w w' (fpN x v') → Ne w' x v' sent L → R (.bool true) w') : Go.CW.Spec Tryz.prog 31 #[.pointer (some ⟨x, 0, none⟩), .int .i64 (0 : Int)] w R := by
  apply net_Net_Drop_m_wp
  apply net_Net_Deliver_m_wp
  refine nm fun w0 e0 => ?_
  obtain ⟨b0, g0, s0⟩ := alE e0
  have h0 := h.grow g0
  refine Packet_cN h0 fun v1 w2 g2 one1 => ⟨_, _, _, _, rfl, nm fun w7 e7 => ?_⟩
  obtain ⟨b7, g7, s7⟩ := alE e7
  refine ⟨b7.row rfl (one_np one1), nm fun w8 e8 => ?_⟩
  obtain ⟨b8, t8⟩ := rowE b7 e8 rfl
  have gA : Grow w w8 := Below.turn ((g0.then g2).then g7) t8 (by have := g0.size; have := g2.size; omega)
  have h8 := h.grow gA
  have z0 := g0.size
  have z2 := g2.size
  have z7 := g7.size
  have hin := h.isIn
  refine JoinP.unit (fun w9 => ∃ v', Step (fpN x v) w8 w9 (fpN x v') ∧ Ne w9 x v' sent L) (fun j hj => cond_t rfl (withAddr_some ⟨v, h8.b.cell 1, ?_⟩)) ?_
  · refine delete_c h8.l (i := 0) (by simp) fun v20 w21 e20 st21 o21 => withAddr_some (oneK_of ?_ ?_)
    · rcases o21.2 with ⟨rfl, _⟩ | ⟨g', cap, cur, rfl, _⟩ <;> rfl
    have st21' : Step (fun q => v.ownBlock = some q) w8 w21 (fun q => v.ownBlock = some q ∨ v20.ownBlock = some q) := ⟨st21.os, st21.tape, st21.output, st21.size, st21.block, fun q hq => by
      rcases hq with e | e
      · exact .inl e
      · exact .inl (e20 ▸ e)⟩
    have b21 := h8.b.stepS st21' (fun hs => ownR_ne h8.l h8.b (by decide) hs)
    refine ⟨st1_at b21 (by show 1 < 3; omega), nm fun w23 e23 => ?_⟩
    obtain ⟨h23, s23⟩ := h8.push st21' (fun q hq => .inl (e20 ▸ hq)) (by simpa using o21) (fun p' hp => h8.d p' (List.mem_cons_of_mem _ hp)) e23
    exact hj _ ⟨v20, s23, h23⟩
  rintro w9 ⟨v', st9, h9⟩
  have nf : ∀ q, w.heap.size ≤ q → ¬ fpN x v q := fun q hq hs => by have := hin q hs; omega
  have b9 : BK w9 w2.heap.size _ tNp := b8.stepS st9 (nf _ (by omega))
  have b9' : BK w9 w.heap.size #[.int .i64 (0 : Int), .int .i64 (0 : Int), .slice none 0 0] tNp := (((b0.grow g2).grow g7).turn t8 (by omega)).stepS st9 (nf _ (Nat.le_refl _))
  refine ⟨_, _, _, b9.ld rfl, b9'.row rfl (one_np one1), nm fun w13 e13 => ?_⟩
  obtain ⟨b13, t13⟩ := rowE b9' e13 rfl
  refine ⟨_, _, _, b13.ld rfl, _, _, _, _, rfl, nm fun w16 e16 => ?_⟩
  obtain ⟨b16, g16, s16⟩ := alE e16
  refine ⟨b16.row rfl (one_np one1), nm fun w17 e17 => ?_⟩
  obtain ⟨b17, t17⟩ := rowE b16 e17 rfl
  have nf' : ¬ fpN x v' w.heap.size := fun hs => by
    rcases st9.fp _ hs with e | e
    · exact nf _ (Nat.le_refl _) e
    · have := t8.size; omega
  have g17 : Grow w13 w17 := Below.turn g16 t17 (Nat.le_refl _)
  have nb : NoT tb w9 (fun q => q = w.heap.size) := by
    rintro q rfl cs fr e
    have := b9'
    unfold BK at this
    rw [this] at e
    injection e with e; injection e with _ e _
    exact absurd e (by decide)
  have h13 : Ne w13 x v' sent L := h9.stepS (t13.step (S := fun q => q = w.heap.size) rfl) (fun q hq e => nf' (e ▸ hq)) nb
  refine k v' w17 ?_ (h13.grow g17)
  have z9 := st9.size
  have z8 := t8.size
  refine ⟨g17.os.trans (t13.os.trans (st9.os.trans gA.os)), g17.tape.trans (t13.tape.trans (st9.tape.trans gA.tape)), g17.output.trans (t13.output.trans (st9.output.trans gA.output)), by have := gA.size; have := t13.size; have := g17.size; omega, fun q hq hs => ?_, fun q hq => ?_⟩
  · have q1 : q ≠ w.heap.size := by omega
    exact (g17.block q (by have := t13.size; have := gA.size; omega)).trans ((t13.block q q1).trans ((st9.block q (by have := gA.size; omega) hs).trans (gA.block q hq)))
  · rcases st9.fp q hq with e | e
    · exact .inl e
    · exact .inr (by have := gA.size; omega)

end Go.Proofs.YtghineciiljeoaaGreatDoor.Clk

end
