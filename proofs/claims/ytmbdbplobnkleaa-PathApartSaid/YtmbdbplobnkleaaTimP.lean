/- The contracts of the timers' functions. -/
import Derived.Test.YtmbdbplobnkleaaRec
import Derived.Test.YtmbdbplobnkleaaGFun
import Derived.KernelRfl
set_option linter.unusedVariables false
set_option linter.unusedSimpArgs false
namespace Go.Proofs.Ytmbdbplobnkleaa
open Go Go.CW Go.RowKit

abbrev tA : TypeId := 76
abbrev tAs : TypeId := 70
abbrev tT : TypeId := 72
abbrev tI : TypeId := 3
/-- two numbers, one behind the other -/
def E2 : Enc (Int × Int) := ⟨2, fun p => [.int .i64 p.1, .int .i64 p.2], fun _ => rfl, by omega, fun _ => rfl⟩
def E1 : Enc Int := ⟨1, fun n => [.int .i64 n], fun _ => rfl, by omega, fun _ => rfl⟩

theorem tyA : SlTyN Try.prog tAs tA E2.s 16 := SlTyN.of (by kernel_rfl)
/-- the timers in block b: the heap H, the tick -/
structure TS (w : World) (b : Nat) (v : Value) (H : List (Int × Int)) (now : Int) : Prop where
  blk : BK w b #[v, .int .i64 now] tT
  row : OwnR E2 w 0 tA v H
  ne : v.ownBlock ≠ some b

def FT (b : Nat) (v : Value) : Fp := fun k => k = b ∨ v.ownBlock = some k

theorem TS.stable {w w' : World} {b : Nat} {v : Value} {H : List (Int × Int)} {now : Int} (h : TS w b v H now) (hk : ∀ k, FT b v k → w'.heap[k]? = w.heap[k]?) : TS w' b v H now :=
  ⟨(hk b (.inl rfl)).trans h.blk, h.row.stable fun k hv => hk k (.inr hv), h.ne⟩
theorem TS.lt {w : World} {b : Nat} {v : Value} {H : List (Int × Int)} {now : Int} (h : TS w b v H now) : ∀ k, FT b v k → k < w.heap.size := by
  rintro k (rfl | hk)
  · exact h.blk.lt
  · exact (h.row.lt k hk).2
theorem TS.grow {w w' : World} {b : Nat} {v : Value} {H : List (Int × Int)} {now : Int} (h : TS w b v H now) (g : Grow w w') : TS w' b v H now := h.stable fun k hk => g.block k (h.lt k hk)
theorem TS.c0 {w : World} {b : Nat} {v : Value} {H : List (Int × Int)} {now : Int} (h : TS w b v H now) : w.cell? (Addr.add ⟨b, 0, none⟩ 0) = some v := h.blk.cell 0
theorem TS.c1 {w : World} {b : Nat} {v : Value} {H : List (Int × Int)} {now : Int} (h : TS w b v H now) : w.cell? (Addr.add ⟨b, 0, none⟩ 1) = some (.int .i64 now) := h.blk.cell 1

/-- the earlier one; of those of one tick the lesser -/
def lt (x y : Int × Int) : Bool := decide (x.2 < y.2) || (decide (x.2 = y.2) && decide (x.1 < y.1))

theorem E2_ld {w : World} {a : Addr} {p : Int × Int} (h : ∀ k, k < E2.s → w.cell? (a.add k) = (E2.enc p)[k]?) : ldCells w a 2 #[.int .i64 p.1, .int .i64 p.2] :=
  ldCells_of (vs := E2.enc p) rfl h

theorem JoinP.val2 {rest : Value → Value → World → Prop} {body : (Value → Value → World → Prop) → Prop} (Q : Value → Value → World → Prop) (hb : ∀ j : Value → Value → World → Prop, (∀ a b w, Q a b w → j a b w) → body j) (h : ∀ a b w, Q a b w → rest a b w) : JoinP [.val, .val] rest body := hb rest h

theorem grow_ld {w w' : World} (g : Grow w w') {a : Addr} {n : Nat} {cs : Array Value} (h : ldCells w a n cs) : ldCells w' a n cs := by
  refine ⟨h.1, fun i hi => ?_⟩
  have h2 := h.2 i hi
  have hlt : i < cs.size := by rw [h.1]; exact hi
  rw [Array.getElem?_eq_getElem hlt] at h2 ⊢
  exact (g.cell (World.block_lt_of_cell? w _ h2)).trans h2

theorem grow_cell {w w' : World} (g : Grow w w') {a : Addr} {v : Value} (h : w.cell? a = some v) : w'.cell? a = some v := (g.cell (World.block_lt_of_cell? w _ h)).trans h

theorem less_c {w : World} {b : Nat} {v : Value} {H : List (Int × Int)} {now i k : Int} {R : KV} (h : TS w b v H now) (hi : 0 ≤ i ∧ i < H.length) (hk : 0 ≤ k ∧ k < H.length)
    (c : ∀ w', Grow w w' → R (.bool (lt (H[i.toNat]'(by omega)) (H[k.toNat]'(by omega)))) w') : Go.CW.Spec Try.prog 40 #[.pointer (some ⟨b, 0, none⟩), .int .i64 i, .int .i64 k] w R := by
  apply timer_Timers_less_m_wp
  have gd : Grow w (World.drew w) := (Grow.refl w).dr
  obtain ⟨ai, hai, ci, _⟩ := (h.grow gd).row.rd.at hi.1 hi.2
  obtain ⟨ak, hak, ck, _⟩ := (h.grow gd).row.rd.at hk.1 hk.2
  generalize H[i.toNat]'(by omega) = x at *
  generalize H[k.toNat]'(by omega) = y at *
  have li := E2_ld ci
  have lk := E2_ld ck
  have c0 := (h.grow gd).c0
  refine JoinP.val2 (fun u v' w' => Grow w w' ∧ ∃ p q, u = .pointer (some ⟨p, 0, none⟩) ∧ v' = .pointer (some ⟨q, 0, none⟩) ∧ BK w' p #[.int .i64 x.1, .int .i64 x.2] tA ∧ BK w' q #[.int .i64 y.1, .int .i64 y.2] tA) (fun j hj => ?_) ?_
  · refine withAddr_some ⟨_, c0, ai, hai, _, _, li, withAddr_some ⟨_, c0, ak, hak, _, _, lk, ?_⟩⟩
    have hW1 := Grow.al (Grow.refl (World.drew w)) (.cells #[.int .i64 0, .int .i64 0] tA)
    have hW2 := Grow.al hW1 (.cells #[.int .i64 0, .int .i64 0] tA)
    have b1 := (BK.new (World.drew w) #[.int .i64 0, .int .i64 0] tA).al (.cells #[.int .i64 0, .int .i64 0] tA)
    have b2 := BK.new (World.alloc (World.drew w) (.cells #[.int .i64 0, .int .i64 0] tA)) #[.int .i64 0, .int .i64 0] tA
    have ne : (World.alloc (World.drew w) (.cells #[.int .i64 0, .int .i64 0] tA)).heap.size ≠ (World.drew w).heap.size := by rw [al_size]; omega
    have le1 : (World.drew w).heap.size ≤ (World.alloc (World.drew w) (.cells #[.int .i64 0, .int .i64 0] tA)).heap.size := by rw [al_size]; omega
    generalize World.alloc (World.alloc (World.drew w) (.cells #[.int .i64 0, .int .i64 0] tA)) (.cells #[.int .i64 0, .int .i64 0] tA) = W2 at *
    generalize World.alloc (World.drew w) (.cells #[.int .i64 0, .int .i64 0] tA) = W1 at *
    have gen : ∀ p q, BK W2 p #[.int .i64 0, .int .i64 0] tA → BK W2 q #[.int .i64 0, .int .i64 0] tA → p ≠ q → (World.drew w).heap.size ≤ p → (World.drew w).heap.size ≤ q →
        Grow (World.drew w) (stRow W2 ⟨p, 0, none⟩ #[.int .i64 x.1, .int .i64 x.2]) ∧ Grow (World.drew w) (stRow W2 ⟨q, 0, none⟩ #[.int .i64 y.1, .int .i64 y.2]) ∧
        StRow W2 ⟨p, 0, none⟩ #[.int .i64 x.1, .int .i64 x.2] ∧ StRow W2 ⟨q, 0, none⟩ #[.int .i64 y.1, .int .i64 y.2] ∧
        StRow (stRow W2 ⟨p, 0, none⟩ #[.int .i64 x.1, .int .i64 x.2]) ⟨q, 0, none⟩ #[.int .i64 y.1, .int .i64 y.2] ∧ StRow (stRow W2 ⟨q, 0, none⟩ #[.int .i64 y.1, .int .i64 y.2]) ⟨p, 0, none⟩ #[.int .i64 x.1, .int .i64 x.2] ∧
        j (.pointer (some ⟨p, 0, none⟩)) (.pointer (some ⟨q, 0, none⟩)) (stRow (stRow W2 ⟨p, 0, none⟩ #[.int .i64 x.1, .int .i64 x.2]) ⟨q, 0, none⟩ #[.int .i64 y.1, .int .i64 y.2]) ∧
        j (.pointer (some ⟨p, 0, none⟩)) (.pointer (some ⟨q, 0, none⟩)) (stRow (stRow W2 ⟨q, 0, none⟩ #[.int .i64 y.1, .int .i64 y.2]) ⟨p, 0, none⟩ #[.int .i64 x.1, .int .i64 x.2]) := by
      intro p q bp bq ne lp lq
      have hX := Below.strow hW2 (p := ⟨p, 0, none⟩) lp #[.int .i64 x.1, .int .i64 x.2]
      have hY := Below.strow hW2 (p := ⟨q, 0, none⟩) lq #[.int .i64 y.1, .int .i64 y.2]
      have bqX := bq.strow_other ne.symm 0 none #[.int .i64 x.1, .int .i64 x.2]
      have bpY := bp.strow_other ne 0 none #[.int .i64 y.1, .int .i64 y.2]
      have bpX := bp.strow (ds := #[.int .i64 x.1, .int .i64 x.2]) rfl
      have bqY := bq.strow (ds := #[.int .i64 y.1, .int .i64 y.2]) rfl
      have gXY := gd.then (Below.strow hX (p := ⟨q, 0, none⟩) lq #[.int .i64 y.1, .int .i64 y.2])
      have gYX := gd.then (Below.strow hY (p := ⟨p, 0, none⟩) lp #[.int .i64 x.1, .int .i64 x.2])
      exact ⟨hX, hY, bp.row (ds := #[.int .i64 x.1, .int .i64 x.2]) rfl rfl, bq.row (ds := #[.int .i64 y.1, .int .i64 y.2]) rfl rfl, bqX.row (ds := #[.int .i64 y.1, .int .i64 y.2]) rfl rfl, bpY.row (ds := #[.int .i64 x.1, .int .i64 x.2]) rfl rfl,
        hj _ _ _ ⟨gXY, _, _, rfl, rfl, bpX.strow_other ne 0 none #[.int .i64 y.1, .int .i64 y.2], bqX.strow (ds := #[.int .i64 y.1, .int .i64 y.2]) rfl⟩,
        hj _ _ _ ⟨gYX, _, _, rfl, rfl, bpY.strow (ds := #[.int .i64 x.1, .int .i64 x.2]) rfl, bqY.strow_other ne.symm 0 none #[.int .i64 x.1, .int .i64 x.2]⟩⟩
    obtain ⟨hX, hY, rX, rY, rXY, rYX, jXY, jYX⟩ := gen _ _ b1 b2 ne.symm (Nat.le_refl _) le1
    obtain ⟨hX', hY', rX', rY', rXY', rYX', jXY', jYX'⟩ := gen _ _ b2 b1 ne le1 (Nat.le_refl _)
    repeat' (first
      | with_reducible refine And.intro ?_ ?_
      | (with_reducible refine ⟨_, grow_cell hW1 c0, ?_⟩; rfl) | (with_reducible refine ⟨_, grow_cell hW2 c0, ?_⟩; rfl)
      | (with_reducible refine ⟨_, grow_cell hX c0, ?_⟩; rfl) | (with_reducible refine ⟨_, grow_cell hY c0, ?_⟩; rfl) | (with_reducible refine ⟨_, grow_cell hX' c0, ?_⟩; rfl) | (with_reducible refine ⟨_, grow_cell hY' c0, ?_⟩; rfl)
      | (with_reducible refine ⟨_, _, grow_ld hW1 li, ?_⟩; rfl) | (with_reducible refine ⟨_, _, grow_ld hW2 li, ?_⟩; rfl)
      | (with_reducible refine ⟨_, _, grow_ld hX li, ?_⟩; rfl) | (with_reducible refine ⟨_, _, grow_ld hY li, ?_⟩; rfl) | (with_reducible refine ⟨_, _, grow_ld hX' li, ?_⟩; rfl) | (with_reducible refine ⟨_, _, grow_ld hY' li, ?_⟩; rfl)
      | (with_reducible refine ⟨_, _, grow_ld hW1 lk, ?_⟩; rfl) | (with_reducible refine ⟨_, _, grow_ld hW2 lk, ?_⟩; rfl)
      | (with_reducible refine ⟨_, _, grow_ld hX lk, ?_⟩; rfl) | (with_reducible refine ⟨_, _, grow_ld hY lk, ?_⟩; rfl) | (with_reducible refine ⟨_, _, grow_ld hX' lk, ?_⟩; rfl) | (with_reducible refine ⟨_, _, grow_ld hY' lk, ?_⟩; rfl)
      | with_reducible exact rX | with_reducible exact rY | with_reducible exact rXY | with_reducible exact rYX | with_reducible exact jXY | with_reducible exact jYX
      | with_reducible exact rX' | with_reducible exact rY' | with_reducible exact rXY' | with_reducible exact rYX' | with_reducible exact jXY' | with_reducible exact jYX')
  · rintro u v' w' ⟨g, p, q, rfl, rfl, bp, bq⟩
    refine JoinP.bool (fun b' w2 => b' = lt x y ∧ w2 = w') (fun j hj => ?_) (fun b' w2 ⟨e, e2⟩ => by subst e; subst e2; exact c _ g)
    refine withAddr_some ⟨_, bp.cell 1, withAddr_some ⟨_, bq.cell 1, cond_intro (fun h1 => hj _ _ ⟨?_, rfl⟩) (fun h1 => withAddr_some ⟨_, bp.cell 1, withAddr_some ⟨_, bq.cell 1, cond_intro (fun h2 => withAddr_some ⟨_, bp.cell 0, withAddr_some ⟨_, bq.cell 0, hj _ _ ⟨?_, rfl⟩⟩⟩) (fun h2 => hj _ _ ⟨?_, rfl⟩)⟩⟩)⟩⟩
    · simp at h1; simp [lt, h1]
    · simp at h1 h2; simp [lt, h2]
    · simp at h1 h2; simp [lt, h2]; omega

/-! ### the heap, written -/
theorem TS.put {w : World} {b : Nat} {v : Value} {H : List (Int × Int)} {now i : Int} (h : TS w b v H now) (h0 : 0 ≤ i) (h1 : i < H.length) :
    ∃ a, sliceAt v i 2 = some a ∧ FT b v a.block ∧ ldCells w a 2 #[.int .i64 (H[i.toNat]'(by omega)).1, .int .i64 (H[i.toNat]'(by omega)).2] ∧
      w.cell? (a.add 0) = some (.int .i64 (H[i.toNat]'(by omega)).1) ∧ w.cell? (a.add 1) = some (.int .i64 (H[i.toNat]'(by omega)).2) ∧
      ∀ x : Int × Int, StRow w a #[.int .i64 x.1, .int .i64 x.2] ∧ TS (stRow w a #[.int .i64 x.1, .int .i64 x.2]) b v (H.set i.toNat x) now := by
  obtain ⟨a, ha, hb, _, hc, hp, _⟩ := h.row.put h0 h1
  have hne : a.block ≠ b := fun e => h.ne (by rw [hb, e])
  refine ⟨a, ha, .inr hb, E2_ld hc, hc 0 (by decide), hc 1 (by decide), fun x => ⟨(hp x).1, ?_, (hp x).2, h.ne⟩⟩
  exact (heap_setCells_ne a.block b hne.symm _ _ _).trans h.blk

theorem TS.setV {w : World} {b : Nat} {v v' : Value} {H H' : List (Int × Int)} {now : Int} (h : TS w b v H now) (ho : OwnR E2 w 0 tA v' H') (hne : v'.ownBlock ≠ some b) :
    St1 w (Addr.add ⟨b, 0, none⟩ 0) ∧ TS (w.setCell (Addr.add ⟨b, 0, none⟩ 0) v') b v' H' now := by
  rw [ad0]
  refine ⟨h.blk.st1 (j := 0) (by simp), ⟨h.blk.set 0 v', ho.stable fun k hk => Below.heap_setCell w ⟨b, 0, none⟩ v' k (fun e => hne (by rw [hk, e])), hne⟩⟩

theorem TS.setNow {w : World} {b : Nat} {v : Value} {H : List (Int × Int)} {now : Int} (h : TS w b v H now) (n : Int) :
    St1 w (Addr.add ⟨b, 0, none⟩ 1) ∧ TS (w.setCell (Addr.add ⟨b, 0, none⟩ 1) (.int .i64 n)) b v H n := by
  rw [ad0]
  refine ⟨h.blk.st1 (j := 1) (by simp), ⟨h.blk.set 1 _, h.row.stable fun k hk => Below.heap_setCell w ⟨b, 1, none⟩ _ k (fun e => h.ne (by rw [hk, e])), h.ne⟩⟩

/-! ### up and down -/
abbrev nth (H : List (Int × Int)) (i : Nat) : Int × Int := H.getD i (0, 0)
def swp (H : List (Int × Int)) (i k : Nat) : List (Int × Int) := (H.set i (nth H k)).set k (nth H i)
theorem swp_length (H : List (Int × Int)) (i k : Nat) : (swp H i k).length = H.length := by simp [swp]

def upF (H : List (Int × Int)) (i : Nat) : List (Int × Int) :=
  if h : 0 < i ∧ lt (nth H i) (nth H ((i - 1) / 2)) = true then upF (swp H i ((i - 1) / 2)) ((i - 1) / 2) else H
termination_by i
decreasing_by omega

def kid (H : List (Int × Int)) (i : Nat) : Nat := if 2 * i + 2 < H.length ∧ lt (nth H (2 * i + 2)) (nth H (2 * i + 1)) = true then 2 * i + 2 else 2 * i + 1

theorem kid_gt (H : List (Int × Int)) (i : Nat) : i < kid H i := by unfold kid; split <;> omega

def downF (H : List (Int × Int)) (i : Nat) : List (Int × Int) :=
  if h : kid H i < H.length ∧ lt (nth H (kid H i)) (nth H i) = true then downF (swp H i (kid H i)) (kid H i) else H
termination_by H.length - i
decreasing_by
  have := kid_gt H i
  rw [swp_length]; omega

theorem nth_get (H : List (Int × Int)) (i : Nat) (h : i < H.length) : nth H i = H[i] := by
  simp [nth, List.getD_eq_getElem?_getD, h]

/-- two elements change places -/
theorem TS.swap {w : World} {b : Nat} {v : Value} {H : List (Int × Int)} {now i k : Int} (h : TS w b v H now) (hi : 0 ≤ i ∧ i < H.length) (hk : 0 ≤ k ∧ k < H.length) :
    ∃ ai ak, sliceAt v i 2 = some ai ∧ sliceAt v k 2 = some ak ∧ ldCells w ai 2 #[.int .i64 (nth H i.toNat).1, .int .i64 (nth H i.toNat).2] ∧ ldCells w ak 2 #[.int .i64 (nth H k.toNat).1, .int .i64 (nth H k.toNat).2] ∧
      StRow w ai #[.int .i64 (nth H k.toNat).1, .int .i64 (nth H k.toNat).2] ∧
      StRow (stRow w ai #[.int .i64 (nth H k.toNat).1, .int .i64 (nth H k.toNat).2]) ak #[.int .i64 (nth H i.toNat).1, .int .i64 (nth H i.toNat).2] ∧
      TS (stRow (stRow w ai #[.int .i64 (nth H k.toNat).1, .int .i64 (nth H k.toNat).2]) ak #[.int .i64 (nth H i.toNat).1, .int .i64 (nth H i.toNat).2]) b v (swp H i.toNat k.toNat) now ∧
      Step (FT b v) w (stRow (stRow w ai #[.int .i64 (nth H k.toNat).1, .int .i64 (nth H k.toNat).2]) ak #[.int .i64 (nth H i.toNat).1, .int .i64 (nth H i.toNat).2]) (FT b v) := by
  obtain ⟨ai, hai, fi, li, _, _, pi⟩ := h.put hi.1 hi.2
  obtain ⟨ak, hak, fk, lk, _, _, _⟩ := h.put hk.1 hk.2
  rw [← nth_get H i.toNat (by omega)] at li
  rw [← nth_get H k.toNat (by omega)] at lk
  obtain ⟨s1, t1⟩ := pi (nth H k.toNat)
  obtain ⟨ak', hak', _, _, _, _, pk⟩ := t1.put hk.1 (by simpa using hk.2)
  rw [hak] at hak'
  cases hak'
  obtain ⟨s2, t2⟩ := pk (nth H i.toNat)
  exact ⟨ai, ak, hai, hak, li, lk, s1, s2, t2, (Step.row w ai _ fi).then (Step.row _ ak _ fk)⟩

theorem up_c {w : World} {b : Nat} {v : Value} {H : List (Int × Int)} {now i : Int} {R : KV} (h : TS w b v H now) (hi : 0 ≤ i ∧ i < H.length)
    (c : ∀ w', Step (FT b v) w w' (FT b v) → TS w' b v (upF H i.toNat) now → R (.tuple #[]) w') : Go.CW.Spec Try.prog 27 #[.pointer (some ⟨b, 0, none⟩), .int .i64 i] w R := by
  apply timer_Timers_up_m_wp
  have hle := h.row.rd.le
  refine ⟨fun (k : Int) (ww : World) => 0 ≤ k ∧ k < H.length ∧ Step (FT b v) w ww (FT b v) ∧ ∃ H' : List (Int × Int), TS ww b v H' now ∧ H'.length = H.length ∧ upF H' k.toNat = upF H i.toNat, fun (k : Int) (_ : World) => k.toNat,
    ⟨hi.1, hi.2, Step.refl _ _, H, h, rfl, rfl⟩, ?_⟩
  dsimp only [allR, mapR2, eqN, ltN]
  rintro m k ww ⟨⟨h0, h1, st, H', t, hl, hu⟩, hm⟩
  refine JoinP.bool (fun b3 w' => Grow ww w' ∧ b3 = decide (0 < k.toNat ∧ lt (nth H' k.toNat) (nth H' ((k.toNat - 1) / 2)) = true)) (fun j hj => ?_) ?_
  · refine cond_intro (fun hp => ?_) (fun hp => hj _ _ ⟨Grow.refl _, ?_⟩)
    · simp at hp
      rw [wi64_id (n := k - 1) (by omega) (by omega), Int.tdiv_eq_ediv_of_nonneg (by omega), wi64_id (by omega) (by omega)]
      refine less_c t (by omega) (by omega) fun w' g => ⟨_, rfl, hj _ _ ⟨g, ?_⟩⟩
      have e : ((k - 1) / 2).toNat = (k.toNat - 1) / 2 := by omega
      rw [← nth_get _ _ (by omega), ← nth_get _ _ (by omega), e]
      have hk : 0 < k.toNat := by omega
      simp [hk]
    · simp at hp
      have hk : ¬ 0 < k.toNat := by omega
      simp [hk]
  · rintro b3 w4 ⟨g, rfl⟩
    have t4 := t.grow g
    refine cond_intro (fun hp => ?_) (fun hp => ?_)
    · simp only [decide_eq_true_eq] at hp
      rw [wi64_id (n := k - 1) (by omega) (by omega), Int.tdiv_eq_ediv_of_nonneg (by omega), wi64_id (by omega) (by omega)]
      have e : ((k - 1) / 2).toNat = (k.toNat - 1) / 2 := by omega
      have gd : Grow w4 (World.drew w4) := (Grow.refl w4).dr
      have td := t4.grow gd
      obtain ⟨ai, ak, hai, hak, li, lk, s1, s2, t2, st2⟩ := td.swap (i := k) (k := (k - 1) / 2) (by omega) (by omega)
      refine withAddr_some ⟨_, td.c0, withAddr_some ⟨_, td.c0, withAddr_some ⟨_, td.c0, ak, hak, _, _, lk, withAddr_some ⟨_, td.c0, ai, hai, _, _, li, ai, hai, s1, ak, hak, s2, ?_⟩⟩⟩⟩
      refine ⟨⟨by omega, by omega, (st.then (Step.of_grow (g.then gd))).then st2, _, t2, by rw [swp_length, hl], ?_⟩, by omega⟩
      rw [← hu]
      conv => rhs; unfold upF
      rw [dif_pos hp, e]
    · simp only [decide_eq_false_iff_not] at hp
      have e : upF H' k.toNat = H' := by unfold upF; rw [dif_neg hp]
      rw [e] at hu
      subst hu
      exact c _ (st.then (Step.of_grow g)) t4

theorem down_c {w : World} {b : Nat} {v : Value} {H : List (Int × Int)} {now i : Int} {R : KV} (h : TS w b v H now) (hi : 0 ≤ i ∧ i < H.length) (hs : H.length ≤ 1000000000000)
    (c : ∀ w', Step (FT b v) w w' (FT b v) → TS w' b v (downF H i.toNat) now → R (.tuple #[]) w') : Go.CW.Spec Try.prog 39 #[.pointer (some ⟨b, 0, none⟩), .int .i64 i] w R := by
  apply timer_Timers_down_m_wp
  refine ⟨fun (k : Int) (ww : World) => 0 ≤ k ∧ k < H.length ∧ Step (FT b v) w ww (FT b v) ∧ ∃ H' : List (Int × Int), TS ww b v H' now ∧ H'.length = H.length ∧ downF H' k.toNat = downF H i.toNat, fun (k : Int) (_ : World) => (H.length - k).toNat,
    ⟨hi.1, hi.2, Step.refl _ _, H, h, rfl, rfl⟩, ?_⟩
  dsimp only [allR, mapR2, eqN, ltN]
  rintro m k ww ⟨⟨h0, h1, st, H', t, hl, hu⟩, hm⟩
  rw [wi64_id (n := 2 * k) (by omega) (by omega), wi64_id (n := 2 * k + 1) (by omega) (by omega), wi64_id (n := 2 * k + 1 + 1) (by omega) (by omega)]
  refine JoinP.int (fun n w' => Grow ww w' ∧ n = (kid H' k.toNat : Int)) (fun j hj => ?_) ?_
  · refine JoinP.bool (fun b3 w' => Grow ww w' ∧ b3 = decide (2 * k.toNat + 2 < H'.length ∧ lt (nth H' (2 * k.toNat + 2)) (nth H' (2 * k.toNat + 1)) = true)) (fun jj hjj => ?_) ?_
    · refine withAddr_some ⟨_, t.c0, _, t.row.rd.len, cond_intro (fun hp => ?_) (fun hp => hjj _ _ ⟨Grow.refl _, ?_⟩)⟩
      · simp at hp
        refine less_c t (by omega) (by omega) fun w' g => ⟨_, rfl, hjj _ _ ⟨g, ?_⟩⟩
        have e1 : (2 * k + 1 + 1).toNat = 2 * k.toNat + 2 := by omega
        have e2 : (2 * k + 1).toNat = 2 * k.toNat + 1 := by omega
        rw [← nth_get _ _ (by omega), ← nth_get _ _ (by omega), e1, e2]
        have hk : 2 * k.toNat + 2 < H'.length := by omega
        simp [hk]
      · simp at hp
        have hk : ¬ 2 * k.toNat + 2 < H'.length := by omega
        simp [hk]
    · rintro b3 w' ⟨g, rfl⟩
      refine cond_intro (fun hp => hj _ _ ⟨g, ?_⟩) (fun hp => hj _ _ ⟨g, ?_⟩)
      · simp only [decide_eq_true_eq] at hp
        unfold kid; rw [if_pos hp]; omega
      · simp only [decide_eq_false_iff_not] at hp
        unfold kid; rw [if_neg hp]; omega
  · rintro n w4 ⟨g, rfl⟩
    have t4 := t.grow g
    have hkg := kid_gt H' k.toNat
    generalize hkk : kid H' k.toNat = q at *
    refine JoinP.bool (fun b3 w' => Grow w4 w' ∧ b3 = !decide (q < H'.length ∧ lt (nth H' q) (nth H' k.toNat) = true)) (fun j hj => ?_) ?_
    · refine withAddr_some ⟨_, t4.c0, _, t4.row.rd.len, cond_intro (fun hp => hj _ _ ⟨Grow.refl _, ?_⟩) (fun hp => ?_)⟩
      · simp at hp
        have hk : ¬ q < H'.length := by omega
        simp [hk]
      · simp at hp
        refine less_c t4 (by omega) (by omega) fun w' g => ⟨_, rfl, hj _ _ ⟨g, ?_⟩⟩
        rw [← nth_get _ _ (by omega), ← nth_get _ _ (by omega), Int.toNat_natCast]
        simp [hp]
    · rintro b3 w6 ⟨g6, rfl⟩
      have t6 := t4.grow g6
      refine cond_intro (fun hp => ?_) (fun hp => ?_)
      · simp only [Bool.not_eq_true', decide_eq_false_iff_not] at hp
        have e : downF H' k.toNat = H' := by unfold downF; rw [hkk, dif_neg hp]
        rw [e] at hu
        subst hu
        exact c _ (st.then (Step.of_grow (g.then g6))) t6
      · simp only [Bool.not_eq_false', decide_eq_true_eq] at hp
        have gd : Grow w6 (World.drew w6) := (Grow.refl w6).dr
        have td := t6.grow gd
        obtain ⟨ai, ak, hai, hak, li, lk, s1, s2, t2, st2⟩ := td.swap (i := k) (k := (q : Int)) (by omega) (by omega)
        refine withAddr_some ⟨_, td.c0, withAddr_some ⟨_, td.c0, withAddr_some ⟨_, td.c0, ak, hak, _, _, lk, withAddr_some ⟨_, td.c0, ai, hai, _, _, li, ai, hai, s1, ak, hak, s2, ?_⟩⟩⟩⟩
        rw [Int.toNat_natCast] at t2 st2
        refine ⟨⟨by omega, by omega, (st.then (Step.of_grow ((g.then g6).then gd))).then st2, _, t2, by rw [swp_length, hl], ?_⟩, by omega⟩
        rw [← hu]
        conv => rhs; unfold downF
        rw [hkk, dif_pos hp, Int.toNat_natCast]

end Go.Proofs.Ytmbdbplobnkleaa
