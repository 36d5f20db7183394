/- Texts of this seat, one behind the other: SeqU, SorU. -/
import Derived.Test.YtghineciiljeoaaGreatDoorQOncB
import Derived.Test.YtghineciiljeoaaGreatDoorQGUs
import Derived.Shelf.SlIter.Collect
import Derived.RangeFuncGives
import Derived.Shelf.Abstract
set_option linter.unusedSimpArgs false
set_option linter.unusedVariables false
set_option maxRecDepth 100000
namespace Go.Proofs.YtghineciiljeoaaGreatDoor
section
open Go Go.CW Go.RowKit Go.Maps Go.Sort Go.Shelf Go.Proofs
abbrev tUs : TypeId := 81
abbrev encV : Int → Value := Value.int .u64
theorem undUs : Tryz.prog.underlying tUs = some (.slice tU6) := by kernel_rfl
theorem keyedU6 : Keyed Tryz.prog tU6 := Maps.int_keyed undU6
theorem infoU6 : (Tryz.prog.info? tU6).map (fun i => (i.zero, i.size, i.bytes)) = some (some (.int .u64 0), 1, 8) := by kernel_rfl
theorem encV_inj {x y : Int} (h : encV x = encV y) : x = y := by simpa [encV] using h
def UCol (D : DataW Value) (left : Lit → Bool) (ss : List Int) : Prop := ss.Nodup ∧ ∀ x, x ∈ ss ↔ Maps.has D (.int .u64 x) = true ∧ left (.int .u64 x) = false
def UPerm (D : DataW Value) (ss : List Int) : Prop := ss.length ≤ Maps.size D ∧ ss.Nodup ∧ ∀ x, x ∈ ss ↔ Maps.has D (.int .u64 x) = true
theorem UCol.start (D : DataW Value) : UCol D (Maps.has D) [] := ⟨List.nodup_nil, fun x => by cases Maps.has D (.int .u64 x) <;> simp⟩
theorem UCol.step {D : DataW Value} {left : Lit → Bool} {ss : List Int} (h : UCol D left ss) {x : Int} {y : DataW Value} (hl : left (.int .u64 x) = true) (hat : ∀ zd, D.atKey (.int .u64 x) zd = y) :
    UCol D (fun z => left z && !z.sameKey (.int .u64 x)) (ss ++ [x]) := by
  have hh : Maps.has D (.int .u64 x) = true := Maps.has_true_of_atKey hat
  have hn : x ∉ ss := fun hx => by rw [((h.2 x).1 hx).2] at hl; cases hl
  refine ⟨List.nodup_append.2 ⟨h.1, by simp, fun a ha b hb e => ?_⟩, fun y => ?_⟩
  · simp at hb; subst hb; exact hn (e ▸ ha)
  · by_cases e : y = x
    · subst e; simp [hh, Lit.sameKey]
    · simp [h.2 y, e, Lit.sameKey]
set_option maxRecDepth 100000 in
set_option maxHeartbeats 1000000 in
theorem uKeys1 (F : Fence) (n : Nat) (h10 : F.fn 265) (hro : F.round = none) (hn : 1 ≤ n) (l Bm b nn : Nat) (D0 : DataW Value) (J : List Int → World → Prop)
    (hY : ∀ pre x W, J pre W → pre.length < Maps.size D0 → YieldAt F (n - 1) Tryz.prog l #[encV x] W fun e W' => e = .returned (.bool true) ∧ J (pre ++ [x]) W' ∧ KeepsWalks W W')
    (W : World) (hJ : AbidesFrom W.heap.size J) (hm : W.cell? ⟨Bm, 0, none⟩ = some (.map (some b))) (hown : W.ownsMap Tryz.prog tU6 heldR b nn D0) (h0 : J [] W) :
    CallsIn F n Tryz.prog 265 #[.func (.yield l) #[] #[], .pointer (some ⟨Bm, 0, none⟩)] W fun e W' => (∃ v, e = .returned v) ∧ ∃ ss : List Int, UPerm D0 ss ∧ J ss W' := by
  refine callsIn_of_wp Tryz.func265 rfl h10 ?_ hro
  simp only [Tryz.ntmps265, List.size_toArray, List.length_cons, List.length_nil, Nat.reduceAdd, Nat.reduceSub, Array.replicate_succ, Array.replicate_zero, List.push_toArray, List.append_toArray, List.nil_append, List.cons_append]
  gi_wp2_with (first
    | (gi_at_range; go_loud (refine wpListIn_range_own _ rfl _ tMr rfl tU6 tRep keyedU6 undMr _ b nn _ rfl hown ?_; intro w0 hrg0 hg0 hs0))
    | gi_in)
  go_frame
  gi_loopw [3] (fun _ wr => ∃ (left : Lit → Bool) (cnt : Nat) (ss : List Int), wr.ranges Tryz.prog tU6 heldR b W.heap.size nn D0 left cnt ∧ ss.length + cnt ≤ Maps.size D0 ∧ UCol D0 left ss ∧ J ss wr)
    (fun _ wr => wr.rangeLeft b W.heap.size)
  case atStart =>
    exact ⟨_, _, [], hrg0, by simp, UCol.start D0, hJ [] W w0 none h0 hg0 (fun r e => by cases e)⟩
  case round =>
    obtain ⟨left, cnt, ss, hrg, hcs, hC, hJs⟩ := hrel
    gi_wp2_with (first
      | (gi_at_next; refine wpListIn_next_ranges _ rfl _ rfl tU6 keyedU6 heldR encV id (fun key kl hk => by obtain ⟨x, hx, _⟩ := Maps.keyOf_int_inv undU6 hk; exact ⟨x, hx⟩) (fun v _ _ => ⟨v, rfl⟩) b W.heap.size nn _ _ _ rfl hrg ?_ ?_)
      | gi_in)
    · 
      intro hc0 hl0
      gi_wp2
      go_end0
      exact ⟨⟨_, rfl⟩, ss, ⟨by omega, hC.1, fun x => by rw [hC.2 x, hl0]; simp⟩, hJs⟩
    · 
      intro x c kl yd yp w2 cnt2 hkey hlk hv hat hrg2 hlt hg2 hs2 hen
      obtain ⟨x', ex, rfl, _⟩ := Maps.keyOf_int_inv undU6 hkey
      obtain rfl : x = x' := encV_inj ex
      have hJ2 : J ss w2 := hJ ss wr w2 (some W.heap.size) hJs hg2 (fun r e => by cases e; exact ⟨Nat.le_refl _, hrg.iter_walk⟩)
      obtain ⟨fn, tmps, assign, body, hy, hR⟩ := hY ss x w2 hJ2 (by omega)
      clear hs2
      gi_wp2
      refine hR.mono ?_
      rintro e W3 ⟨rfl, hJ3, hk3⟩
      gi_wp2
      have hrg3 := hrg2.of_walks hk3
      go_roundw
      case rel => exact ⟨_, cnt2, ss ++ [x], hrg3, by simp; omega, hC.step hlk hat, hJ3⟩
      case measure => rw [hrg3.left_eq, hrg.left_eq]; exact hlt
theorem uGives (F : Fence) (n : Nat) (h10 : F.fn 265) (hro : F.round = none) (hn : 1 ≤ n) (Bm b nn : Nat) (D0 : DataW Value) (w : World) (hBm : Bm < w.heap.size)
    (hm : w.cell? ⟨Bm, 0, none⟩ = some (.map (some b))) (hown : w.ownsMap Tryz.prog tU6 heldR b nn D0) :
    SeqGives F n Tryz.prog 265 #[.pointer (some ⟨Bm, 0, none⟩)] encV (fun ss => UPerm D0 ss) (Maps.size D0) w := fun l J W hW hJ hY h0 => by
  have hown' : W.ownsMap Tryz.prog tU6 heldR b nn D0 := by
    have hbl := hown.lt
    obtain ⟨es, clock, hb, Ft, hs, hD⟩ := hown
    exact ⟨es, clock, (hW.block b hbl).trans hb, Ft, hs, hD⟩
  exact uKeys1 F n h10 hro hn l Bm b nn D0 J hY W hJ ((hW.cell (p := ⟨Bm, 0, none⟩) hBm).trans hm) hown' h0
def uAssign : Code := (Code.region 2 #[{ dst := some 5, op := Op.assign (Operand.tmp 7), type := tU6, pos := "iter.go:51", after := #[], guard := none }] false)
def uBody : Code := (Code.block 1 (Code.region 3 #[{ dst := some 8, op := Op.load tUs (Operand.tmp 2), type := tUs, pos := "iter.go:52", after := #[], guard := none }, { dst := some 9, op := Op.move (Operand.tmp 5), type := tU6, pos := "iter.go:52", after := #[], guard := none }, { dst := some 10, op := Op.buildSlice tUs 1 #[(0, Operand.tmp 9)], type := tUs, pos := "iter.go:52", after := #[{ on := 1, ground := Ground.data }], guard := none }, { dst := some 11, op := Op.call { callee := Callee.builtin Builtin.append, args := #[Operand.tmp 8, Operand.tmp 10], argTypes := #[tUs, tUs] }, type := tUs, pos := "iter.go:52", after := #[{ on := 0, ground := Ground.data }, { on := 2, ground := Ground.data }], guard := none }, { dst := none, op := Op.store tUs (Operand.tmp 2) (Operand.tmp 11), type := 0, pos := "iter.go:52", after := #[{ on := 3, ground := Ground.data }, { on := 3, ground := Ground.chain }, { on := 0, ground := Ground.phase }, { on := 1, ground := Ground.phase }, { on := 2, ground := Ground.phase }, { on := 3, ground := Ground.phase }], guard := none }] false))
def uRec (fn : FuncId) (sv : Value) (Bs D : Nat) (st : LoopState) (pend : Option Code) : Loop :=
  { state := st, pending := pend, fn, tmps := #[.slice none 0 0, sv, .pointer (some ⟨Bs, 0, none⟩), undef, .slice none 0 0, undef, sv, undef, undef, undef, undef, undef, undef], params := #[7], assign := uAssign, body := uBody, defers := D }
structure UApAt (w0 : World) (fn : FuncId) (sv : Value) (Bs l D : Nat) (ss : List Int) (W : World) : Prop where
  box : ∃ v, W.heap[Bs]? = some (.cells #[v] tUs (0, 0)) ∧ W.ownsRow w0.heap.size tU6 1 v ss.length (ss.map encV) ∧ (v = .slice none 0 0 ↔ ss = [])
  L : W.heap[l]? = some (.loop (uRec fn sv Bs D .ready none))
  K : W.heap[D]? = some (.deferred (some []))
  below : Below w0.heap.size w0 W
theorem uAbides (w0 : World) (fn : FuncId) (sv : Value) (Bs l D B : Nat) (hB : w0.heap.size ≤ B) : AbidesFrom B (UApAt w0 fn sv Bs l D) := fun s W W' row h hg hrow => by
  have hrow' : ∀ r, row = some r → ∃ o : Obj, W.heap[r]? = some o ∧ o.isWalk = true := fun r e => (hrow r e).2
  obtain ⟨v, hv, hr, hn⟩ := h.box
  exact ⟨⟨v, (grownBy_keeps hg hrow' hv rfl).trans hv, ownsRow_abides_a hr hg hrow', hn⟩, (grownBy_keeps hg hrow' h.L rfl).trans h.L, (grownBy_keeps hg hrow' h.K rfl).trans h.K,
    h.below.grown hg h.below.size (fun k e => Nat.le_trans hB (hrow k e).1)⟩
set_option maxRecDepth 100000 in
set_option maxHeartbeats 2000000 in
theorem uYield (F : Fence) (m : Nat) (w0 : World) (fn : FuncId) (hfn : F.fn fn) (sv : Value) (Bs l D : Nat) (hBl : Bs ≠ l) (hDl : D ≠ l) (hDB : D ≠ Bs) (h0B : w0.heap.size ≤ Bs) (h0l : w0.heap.size ≤ l)
    (N : Nat) (hN : N ≤ maxLen) (hNb : N * 8 ≤ 140737488355328) (ss : List Int) (x : Int) (W : World) (h : UApAt w0 fn sv Bs l D ss W) (hlen : ss.length < N) :
    YieldAt F m Tryz.prog l #[encV x] W fun e W' => e = .returned (.bool true) ∧ UApAt w0 fn sv Bs l D (ss ++ [x]) W' ∧ KeepsWalks W W' := by
  obtain ⟨i0, hi, hz0, hz1, hz2⟩ := info_parts infoU6
  obtain ⟨v, hv, hrow, _⟩ := h.box
  refine ⟨fn, #[.slice none 0 0, sv, .pointer (some ⟨Bs, 0, none⟩), undef, .slice none 0 0, undef, sv, encV x, undef, undef, undef, undef, undef], uAssign, uBody, by simpa [uRec] using run_yield (P := Tryz.prog) (args := #[encV x]) h.L rfl, roundIn_of_wpIn hfn ?_⟩
  have hl : l < W.heap.size := (Array.getElem?_eq_some_iff.1 h.L).1
  have hbr := run_beginRound (P := Tryz.prog) h.L rfl
  obtain ⟨W2, hW2⟩ : ∃ W2, W.putObj l (.loop { uRec fn sv Bs D .ready none with state := .busy }) = W2 := ⟨_, rfl⟩
  rw [hW2] at hbr
  have hg2 : W.grownBy W2 (some l) := by rw [← hW2]; exact grownBy_putObj_a _ _ _
  have hk2 : KeepsWalks W W2 := by rw [← hW2]; exact KeepsWalks.putObj _ h.L rfl
  have hv2 : W2.heap[Bs]? = some (.cells #[v] tUs (0, 0)) := by rw [← hW2]; exact (World.putObj_heap_other hBl).trans hv
  have hK2 : W2.heap[D]? = some (.deferred (some [])) := by rw [← hW2]; exact (World.putObj_heap_other hDl).trans h.K
  have hL2 : W2.heap[l]? = some (.loop { uRec fn sv Bs D .ready none with state := .busy }) := by rw [← hW2]; exact World.putObj_heap_same hl
  have hrow2 : W2.ownsRow w0.heap.size tU6 1 v ss.length (ss.map encV) := hrow.kept hg2 (ownsRow_ne_a hrow h.L (fun cur e => by cases e))
  have hb2 : Below w0.heap.size w0 W2 := h.below.grown hg2 h.below.size (fun k e => by cases e; exact h0l)
  obtain ⟨hc2, hf2⟩ := cell_of_box_a hv2
  have hBlt : Bs < W2.heap.size := (Array.getElem?_eq_some_iff.1 hv2).1
  have hl2 : l < W2.heap.size := (Array.getElem?_eq_some_iff.1 hL2).1
  have hDlt : D < W2.heap.size := (Array.getElem?_eq_some_iff.1 hK2).1
  have ne_of : ∀ {j : Nat} {o : Obj}, W2.heap[j]? = some o → (∀ cur, o ≠ .cells cur tU6 (0, 0)) → some j ≠ v.ownBlock := fun hj hno => by
    rcases ownsRow_ne_a hrow2 hj hno with e | e
    · rw [e]; simp
    · exact fun e' => e e'.symm
  clear hW2
  unfold uAssign
  gi_wp2_with gi_round_op_a
  unfold uBody
  gi_wp2_with (first
    | (gi_at_builtin; refine wpListIn_append_own _ rfl _ _ tUs rfl w0.heap.size tU6 i0 (.int .u64 0) 1 8 undUs hi hz0 hz1 hz2 rfl (by decide) _ _ _ rfl (hrow2.alloc _) ⟨W2.heap.size, 0, none⟩ 1 1 [encV x] rfl rfl (cell_one_new _ _ _) (by simp [Value.oneCell', encV]) (by omega) (by omega) (by have := hb2.size; simp; omega) ?_; intro v' w3 hown' hg3 hnil3
       have hv3 : w3.heap[Bs]? = some (.cells #[v] tUs (0, 0)) := (hg3.block Bs (by simp; omega) (ne_of hv2 (fun cur e => by cases e))).trans ((Below.heap_alloc _ _ Bs hBlt).trans hv2)
       obtain ⟨hc3, hf3⟩ := cell_of_box_a hv3
       obtain ⟨g', cap', cur', rfl, hbase', hgb', hr1, hr2, hr3, hr4⟩ : ∃ g' cap' cur', v' = .slice (some ⟨g', 0, none⟩) (ss.length + 1) cap' ∧ w0.heap.size ≤ g' ∧ w3.heap[g']? = some (.cells cur' tU6 (0, 0)) ∧ ss.length + 1 ≤ cap' ∧ cap' ≤ maxLen ∧ cur'.size = cap' * 1 ∧ cur'.toList.take ((ss.length + 1) * 1) = ss.map encV ++ [encV x] := by
         rcases hown'.2 with ⟨_, h0⟩ | h'
         · exact absurd h0 (by omega)
         · exact h'
       go_frame)
    | gi_round_op_a)
  have hg3' : (W2.alloc (.cells #[encV x] tU6)).grownBy w3 v.ownBlock := hg3
  have hL3 : w3.heap[l]? = some (.loop { uRec fn sv Bs D .ready none with state := .busy }) := (hg3'.block l (by simp; omega) (ne_of hL2 (fun cur e => by cases e))).trans ((Below.heap_alloc _ _ l hl2).trans hL2)
  have hK3 : w3.heap[D]? = some (.deferred (some [])) := (hg3'.block D (by simp; omega) (ne_of hK2 (fun cur e => by cases e))).trans ((Below.heap_alloc _ _ D hDlt).trans hK2)
  obtain ⟨w4, hw4⟩ : ∃ w4, w3.setCell ⟨Bs, 0, none⟩ (.slice (some ⟨g', 0, none⟩) (ss.length + 1) cap') = w4 := ⟨_, rfl⟩
  rw [hw4]
  have hg4 : w3.grownBy w4 (some Bs) := by rw [← hw4]; exact grownBy_setCell0_a _ _ _
  have hv4 : w4.heap[Bs]? = some (.cells #[.slice (some ⟨g', 0, none⟩) (ss.length + 1) cap'] tUs (0, 0)) := by rw [← hw4]; exact heap_setCell_box_a _ hv3
  have hL4 : w4.heap[l]? = some (.loop { uRec fn sv Bs D .ready none with state := .busy }) := (hg4.block l (Array.getElem?_eq_some_iff.1 hL3).1 (fun e => hBl (by cases e; rfl))).trans hL3
  have hK4 : w4.heap[D]? = some (.deferred (some [])) := (hg4.block D (Array.getElem?_eq_some_iff.1 hK3).1 (fun e => hDB (by cases e; rfl))).trans hK3
  have hrow4 := hown'.kept hg4 (ownsRow_ne_a hown' hv3 (fun cur e => by cases e))
  have hl4 : l < w4.heap.size := (Array.getElem?_eq_some_iff.1 hL4).1
  have hb3 : Below w0.heap.size w0 w3 := (hb2.alloc hb2.size _).grown hg3' (by have := hb2.size; simp; omega) (fun k e => (hrow2.lt k e).1)
  have hb4 : Below w0.heap.size w0 w4 := hb3.grown hg4 hb3.size (fun k e => by cases e; exact h0B)
  have hk4 : KeepsWalks W w4 := ((hk2.trans (KeepsWalks.alloc _ _)).trans (KeepsWalks.of_grownBy hg3' (ownsRow_not_walk_a (hrow2.alloc _)))).trans (by rw [← hw4]; exact KeepsWalks.setCell _ _ _)
  clear hw4
  refine ⟨_, _, run_endRound none hL4, rfl, ⟨⟨_, (World.putObj_heap_other hBl).trans hv4, ?_, by simp⟩, World.putObj_heap_same hl4, (World.putObj_heap_other hDl).trans hK4, hb4.grown (grownBy_putObj_a _ _ _) hb4.size (fun k e => by cases e; exact h0l)⟩, hk4.trans (KeepsWalks.putObj _ hL4 rfl)⟩
  have := hrow4.kept (grownBy_putObj_a w4 l (.loop { { uRec fn sv Bs D .ready none with state := .busy } with state := if (none : Option Code).isNone then .ready else .done, pending := none })) (ownsRow_ne_a hrow4 hL4 (fun cur e => by cases e))
  simpa using this
set_option maxRecDepth 100000 in
set_option maxHeartbeats 2000000 in
theorem uAppend (F : Fence) (n : Nat) (h11 : F.fn 309) (hro : F.round = none) (hn : 2 ≤ n) (g : Nat) (lb : Array Value) (hFg : F.fn g) (eg : ∀ args w, (callFunc g args).run Tryz.prog w = .ok (.enter g args) w)
    (S : List Int → Prop) (N : Nat) (hN : N ≤ maxLen) (hNb : N * 8 ≤ 140737488355328) (w : World) (hseq : SeqGives F (n - 1) Tryz.prog g lb encV S N w) :
    CallsIn F n Tryz.prog 309 #[.slice none 0 0, .func (.func g) #[] lb] w fun e w' => ∃ (v : Value) (ss : List Int), e = .returned v ∧ S ss ∧ w'.ownsRow w.heap.size tU6 1 v ss.length (ss.map encV) ∧ (v = .slice none 0 0 ↔ ss = []) ∧ Below w.heap.size w w' := by
  have h1 : 1 ≤ n := by omega
  refine callsIn_of_wp_marks Tryz.func309 rfl h11 ?_ hro
  simp only [Tryz.ntmps309, List.size_toArray, List.length_cons, List.length_nil, Nat.reduceAdd, Nat.reduceSub, Array.replicate_succ, Array.replicate_zero, List.push_toArray, List.append_toArray, List.nil_append, List.cons_append]
  gi_wp2
  refine wpIn_rangeFunc ?_
  intro fn hfn
  rw [hro]
  obtain ⟨W0, hW0⟩ : ∃ W0, w.alloc (.cells #[.slice none 0 0] tUs) = W0 := ⟨_, rfl⟩
  have hs0 : W0.heap.size = w.heap.size + 1 := by rw [← hW0]; simp
  have hv0 : W0.heap[w.heap.size]? = some (.cells #[.slice none 0 0] tUs (0, 0)) := by rw [← hW0]; exact World.alloc_heap_new w _
  have hb0 : Below w.heap.size w W0 := by rw [← hW0]; exact (Below.refl _ w).alloc (Nat.le_refl _) _
  rw [hW0]
  obtain ⟨W1, hW1⟩ : ∃ W1, (W0.alloc (.deferred (some []))).alloc (.loop (uRec fn (.func (.func g) #[] lb) w.heap.size W0.heap.size .ready none)) = W1 := ⟨_, rfl⟩
  have hold : ∀ k, k < W0.heap.size → W1.heap[k]? = W0.heap[k]? := fun k hk => by
    rw [← hW1]; exact (Below.heap_alloc _ _ k (by simp; omega)).trans (Below.heap_alloc _ _ k hk)
  have hb1 : Below w.heap.size w W1 := by rw [← hW1]; exact (hb0.alloc hb0.size _).alloc (by have := hb0.size; simp; omega) _
  have hs1 : W1.heap.size = W0.heap.size + 2 := by rw [← hW1]; simp
  have hM : UApAt w fn (.func (.func g) #[] lb) w.heap.size (W0.heap.size + 1) W0.heap.size [] W1 :=
    ⟨⟨_, (hold w.heap.size (by omega)).trans hv0, ⟨rfl, .inl ⟨rfl, rfl⟩⟩, by simp⟩,
     by rw [← hW1]; have := World.alloc_heap_new (W0.alloc (.deferred (some []))) (.loop (uRec fn (.func (.func g) #[] lb) w.heap.size W0.heap.size .ready none)); rwa [World.size_alloc] at this,
     by rw [← hW1]; exact (Below.heap_alloc _ _ _ (by simp)).trans (World.alloc_heap_new W0 _), hb1⟩
  refine ⟨W0.heap.size + 1, [{ target := .collected W0.heap.size, args := #[] }], W1, { target := .fn (.func g) lb, args := #[.func (.yield (W0.heap.size + 1)) #[] #[]] }, W1, g,
    #[.func (.yield (W0.heap.size + 1)) #[] #[]] ++ lb, W1, ?_, ?_, ?_, ?_, fun _ => h1, ?_⟩
  · rw [← hW1]; exact run_enterLoop_outer _ _ _ _ _
  · simp [resolve, go_sem]
  · intro f' hf'; simp [Target.leads] at hf'; subst hf'; exact hFg
  · simp [invoke, go_sem, eg]
  · refine (hseq (W0.heap.size + 1) (UApAt w fn (.func (.func g) #[] lb) w.heap.size (W0.heap.size + 1) W0.heap.size) W1 hb1 (uAbides _ _ _ _ _ _ _ hb1.size)
      (fun pre x W hJ hl => uYield F (n - 1 - 1) w fn hfn _ w.heap.size (W0.heap.size + 1) W0.heap.size (by omega) (by omega) (by omega) (Nat.le_refl _) (by omega) N hN hNb pre x W hJ hl) hM).mono ?_
    rintro e W2 ⟨⟨v0, rfl⟩, ss, hS, h2⟩
    obtain ⟨v, hv, hrow, hnil⟩ := h2.box
    have hend := run_endLoop (P := Tryz.prog) h2.L (by simp [uRec])
    obtain ⟨W3, hW3⟩ : ∃ W3, W2.putObj (W0.heap.size + 1) (.loop { uRec fn (.func (.func g) #[] lb) w.heap.size W0.heap.size .ready none with state := .exhausted }) = W3 := ⟨_, rfl⟩
    rw [hW3] at hend
    have hg3 : W2.grownBy W3 (some (W0.heap.size + 1)) := by rw [← hW3]; exact grownBy_putObj_a _ _ _
    have hv3 : W3.heap[w.heap.size]? = some (.cells #[v] tUs (0, 0)) := by rw [← hW3]; exact (World.putObj_heap_other (by omega)).trans hv
    have hK3 : W3.heap[W0.heap.size]? = some (.deferred (some [])) := by rw [← hW3]; exact (World.putObj_heap_other (by omega)).trans h2.K
    have hrow3 := hrow.kept hg3 (ownsRow_ne_a hrow h2.L (fun cur e => by cases e))
    have hb3 : Below w.heap.size w W3 := h2.below.grown hg3 h2.below.size (fun k e => by cases e; omega)
    obtain ⟨hc3, hf3⟩ := cell_of_box_a hv3
    clear hW3
    refine ⟨none, W3, hend, ?_⟩
    gi_wp2
    rw [← hs0]
    refine ⟨by simp, .inl ⟨_, _, rfl, run_takeDeferred hK3, ?_⟩⟩
    exact ⟨_, results_tmp rfl _ _ _, v, ss, rfl, hS, hrow3.kept (grownBy_putObj_a _ _ _) (ownsRow_ne_a hrow3 hK3 (fun cur e => by cases e)), hnil, hb3.grown (grownBy_putObj_a _ _ _) hb3.size (fun k e => by cases e; omega)⟩
end
section
open Go Go.CW Go.RowKit Go.Sort Go.Shelf Go.Proofs
def EU6 : Enc Int := ⟨1, fun n => [.int .u64 n], fun _ => rfl, by omega, fun _ => rfl⟩
theorem wrap8 (n : Int) : 0 ≤ IntKind.wrap .u8 n ∧ IntKind.wrap .u8 n < 256 := by
  simp only [IntKind.wrap, IntKind.signed, IntKind.bits]
  constructor
  · exact Int.emod_nonneg _ (by decide)
  · exact Int.emod_lt_of_pos _ (by decide)
theorem len64_c {n : Int} {w : World} {R : KV} (k : ∀ x : Int, R (.int .i64 x) w) : CW.Spec Tryz.prog 306 #[.int .u64 n] w R := by
  apply q4W
  refine JoinP.go ?_
  refine cond_intro (fun _ => ?_) (fun _ => ?_)
  all_goals
    refine JoinP.go ?_
    refine cond_intro (fun _ => ?_) (fun _ => ?_)
  all_goals
    refine JoinP.go ?_
    refine cond_intro (fun _ => ?_) (fun _ => ?_)
  all_goals exact ⟨wrap8 _, k _⟩
theorem len_c {n : Int} {w : World} {R : KV} (k : ∀ x : Int, R (.int .i64 x) w) : CW.Spec Tryz.prog 260 #[.int .u64 n] w R := by
  apply q3W
  exact len64_c fun x => ⟨x, rfl, k x⟩
theorem insU_c {v : Value} {n : Int} (hn : n ≤ 1) {w : World} {R : KV} (k : R (.tuple #[]) w) : CW.Spec Tryz.prog 342 #[v, .int .i64 0, .int .i64 n] w R := by
  apply q92W
  refine ⟨fun (i : Int) (w' : World) => i = 1 ∧ w' = w, fun (_ : Int) (_ : World) => 0, ⟨by decide, rfl⟩, ?_⟩
  dsimp only [allR, mapR2, eqN, ltN]
  rintro m i w' ⟨⟨rfl, rfl⟩, hm⟩
  exact cond_f (by simp; omega) k
theorem pdqU_c {v : Value} {n x : Int} (h0 : 0 ≤ n) (hn : n ≤ 1) {w : World} {R : KV} (k : R (.tuple #[]) w) : CW.Spec Tryz.prog 310 #[v, .int .i64 0, .int .i64 n, .int .i64 x] w R := by
  apply q93W
  refine ⟨fun (a b c : Int) (p q : Bool) (w' : World) => a = 0 ∧ b = n ∧ w' = w, fun (_ _ _ : Int) (_ _ : Bool) (_ : World) => 0, ⟨rfl, rfl, rfl⟩, ?_⟩
  dsimp only [allR, mapR2, eqN, ltN]
  rintro m a b c p q w' ⟨⟨rfl, rfl, rfl⟩, hm⟩
  refine JoinP.go (cond_t ?_ (insU_c hn ⟨rfl, k⟩))
  rw [wi64_id (by omega) (by omega)]
  simp; omega
theorem sortU_c {v : Value} {n : Nat} (hl : sliceLen v = some n) (hn : n ≤ 1) {w : World} {R : KV} (k : R (.tuple #[]) w) : CW.Spec Tryz.prog 264 #[v] w R := by
  apply q90W
  exact ⟨n, hl, len_c fun x => ⟨x, rfl, pdqU_c (by omega) (by omega) ⟨rfl, k⟩⟩⟩
theorem keysU_c {m nn : Nat} {f : Int → Option Value} {w : World} (h : Mp Tryz.prog tU6 .u64 w m nn f) (hn : nn ≤ 1) {R : KV}
    (k : ∀ v w' ss, Grow w w' → RdR EU6 w' v ss → ss.length ≤ 1 → (∀ x, x ∈ ss ↔ (f x).isSome = true) → R v w') :
    CW.Spec Tryz.prog 208 #[.map (some m)] w fun v1 w1 => CW.Spec Tryz.prog 207 #[v1] w1 R := by
  obtain ⟨D, hown, h2⟩ := h
  have hsz : Maps.size D ≤ nn := Mp.size_le hown
  have hbl := hown.lt
  apply q52W
  refine nm fun w1 e1 => ?_
  have ga := Grow.al (Grow.refl w) (.cells #[.map (some m)] tMr)
  have e1' : w1 = w.alloc (.cells #[.map (some m)] tMr) := e1
  subst e1'
  apply q91W
  apply q88W
  have hseq : SeqGives Fence.wide 4 Tryz.prog 265 #[.pointer (some ⟨w.heap.size, 0, none⟩)] encV (fun ss => UPerm D ss) (Maps.size D) (w.alloc (.cells #[.map (some m)] tMr)) :=
    uGives Fence.wide 4 trivial rfl (by omega) w.heap.size m nn D _ (by simp) (by simp) (by
      obtain ⟨es, clock, hb, Ft, hs, hD⟩ := hown
      exact ⟨es, clock, (Below.heap_alloc _ _ m hbl).trans hb, Ft, hs, hD⟩)
  refine ((callsIn_wide (n := 5)).1 (uAppend Fence.wide 5 trivial rfl (by omega) 265 _ trivial (enters_of Tryz.func265 (by kernel_rfl) rfl) _ _ (by simp [maxLen]; omega) (by omega) _ hseq)).mono ?_
  rintro e w' ⟨v, ss, he, hS, hrow, hnil, hb⟩
  refine ⟨v, he, ?_⟩
  obtain ⟨hl1, _, hmem⟩ := hS
  have hr : OwnR EU6 w' (w.alloc (.cells #[.map (some m)] tMr)).heap.size tU6 v ss := by
    have e1 : EU6.flat ss = ss.map encV := by
      generalize ss = l
      induction l with
      | nil => rfl
      | cons a l ih => rw [Enc.flat_cons, ih]; rfl
    unfold OwnR
    rw [e1]; exact hrow
  refine sortU_c hr.rd.len (by omega) ⟨rfl, k v w' ss (ga.then hb) hr.rd (by omega) fun x => ?_⟩
  rw [hmem, Mp.has h2]
end
end Go.Proofs.YtghineciiljeoaaGreatDoor
