/- Texts of this seat, one behind the other: TimP, TimQ, TimM, TimT. -/
import Derived.Test.YtghineciiljeoaaGreatDoorRec
import Derived.Test.YtghineciiljeoaaGreatDoorGTim
import Derived.KernelRfl
section
/- The contracts of the timers' functions. -/
set_option linter.unusedVariables false
set_option linter.unusedSimpArgs false
set_option maxRecDepth 100000
namespace Go.Proofs.YtghineciiljeoaaGreatDoor.Clk
open Go Go.CW Go.RowKit

abbrev tA : TypeId := 183
abbrev tAs : TypeId := 174
abbrev tT : TypeId := 176
abbrev tI : TypeId := 3
abbrev tIs : TypeId := 79

/-- two numbers, one behind the other -/
def E2 : Enc (Int × Int) := ⟨2, fun p => [.int .i64 p.1, .int .i64 p.2], fun _ => rfl, by omega, fun _ => rfl⟩
def E1 : Enc Int := ⟨1, fun n => [.int .i64 n], fun _ => rfl, by omega, fun _ => rfl⟩

theorem tyA : SlTyN Tryz.prog tAs tA E2.s 16 := SlTyN.of (by kernel_rfl)
theorem tyI : SlTyN Tryz.prog tIs tI E1.s 8 := SlTyN.of (by kernel_rfl)

/-- the timers in block b: the heap H, the tick -/
structure TS (w : World) (b : Nat) (v : Value) (H : List (Int × Int)) (now : Int) : Prop where
  blk : BK w b #[v, .int .i64 now] tT
  row : OwnR E2 w 0 tA v H
  ne : v.ownBlock ≠ some b

def FT (b : Nat) (v : Value) : Fp := fun k => k = b ∨ v.ownBlock = some k

theorem TS.stable {w w' : World} {b : Nat} {v : Value} {H : List (Int × Int)} {now : Int} (h : TS w b v H now) (hk : ∀ k, FT b v k → w'.heap[k]? = w.heap[k]?) : TS w' b v H now :=
  ⟨(hk b (.inl rfl)).trans h.blk, h.row.stable fun k hv => hk k (.inr hv), h.ne⟩
theorem TS.lt {w : World} {b : Nat} {v : Value} {H : List (Int × Int)} {now : Int} (h : TS w b v H now) : ∀ k, FT b v k → k < w.heap.size := by
  rintro k (rfl | hk)
  · exact h.blk.lt
  · exact (h.row.lt k hk).2
theorem TS.grow {w w' : World} {b : Nat} {v : Value} {H : List (Int × Int)} {now : Int} (h : TS w b v H now) (g : Grow w w') : TS w' b v H now := h.stable fun k hk => g.block k (h.lt k hk)
theorem TS.c0 {w : World} {b : Nat} {v : Value} {H : List (Int × Int)} {now : Int} (h : TS w b v H now) : w.cell? (Addr.add ⟨b, 0, none⟩ 0) = some v := h.blk.cell 0
theorem TS.c1 {w : World} {b : Nat} {v : Value} {H : List (Int × Int)} {now : Int} (h : TS w b v H now) : w.cell? (Addr.add ⟨b, 0, none⟩ 1) = some (.int .i64 now) := h.blk.cell 1

/-- the earlier one; of those of one tick the lesser -/
def lt (x y : Int × Int) : Bool := decide (x.2 < y.2) || (decide (x.2 = y.2) && decide (x.1 < y.1))

theorem E2_ld {w : World} {a : Addr} {p : Int × Int} (h : ∀ k, k < E2.s → w.cell? (a.add k) = (E2.enc p)[k]?) : ldCells w a 2 #[.int .i64 p.1, .int .i64 p.2] :=
  ldCells_of (vs := E2.enc p) rfl h

theorem JoinP.val2 {rest : Value → Value → World → Prop} {body : (Value → Value → World → Prop) → Prop} (Q : Value → Value → World → Prop) (hb : ∀ j : Value → Value → World → Prop, (∀ a b w, Q a b w → j a b w) → body j) (h : ∀ a b w, Q a b w → rest a b w) : JoinP [.val, .val] rest body := hb rest h

theorem grow_ld {w w' : World} (g : Grow w w') {a : Addr} {n : Nat} {cs : Array Value} (h : ldCells w a n cs) : ldCells w' a n cs := by
  refine ⟨h.1, fun i hi => ?_⟩
  have h2 := h.2 i hi
  have hlt : i < cs.size := by rw [h.1]; exact hi
  rw [Array.getElem?_eq_getElem hlt] at h2 ⊢
  exact (g.cell (World.block_lt_of_cell? w _ h2)).trans h2

theorem grow_cell {w w' : World} (g : Grow w w') {a : Addr} {v : Value} (h : w.cell? a = some v) : w'.cell? a = some v := (g.cell (World.block_lt_of_cell? w _ h)).trans h

theorem less_c {w : World} {b : Nat} {v : Value} {H : List (Int × Int)} {now i k : Int} {R : KV} (h : TS w b v H now) (hi : 0 ≤ i ∧ i < H.length) (hk : 0 ≤ k ∧ k < H.length)
    (c : ∀ w', Grow w w' → R (.bool (lt (H[i.toNat]'(by omega)) (H[k.toNat]'(by omega)))) w') : Go.CW.Spec Tryz.prog 182 #[.pointer (some ⟨b, 0, none⟩), .int .i64 i, .int .i64 k] w R := by
  apply timer_Timers_less_m_wp
  have gd : Grow w (World.drew w) := (Grow.refl w).dr
  obtain ⟨ai, hai, ci, _⟩ := (h.grow gd).row.rd.at hi.1 hi.2
  obtain ⟨ak, hak, ck, _⟩ := (h.grow gd).row.rd.at hk.1 hk.2
  generalize H[i.toNat]'(by omega) = x at *
  generalize H[k.toNat]'(by omega) = y at *
  have li := E2_ld ci
  have lk := E2_ld ck
  have c0 := (h.grow gd).c0
  refine JoinP.val2 (fun u v' w' => Grow w w' ∧ ∃ p q, u = .pointer (some ⟨p, 0, none⟩) ∧ v' = .pointer (some ⟨q, 0, none⟩) ∧ BK w' p #[.int .i64 x.1, .int .i64 x.2] tA ∧ BK w' q #[.int .i64 y.1, .int .i64 y.2] tA) (fun j hj => ?_) ?_
  · refine withAddr_some ⟨_, c0, ai, hai, _, _, li, withAddr_some ⟨_, c0, ak, hak, _, _, lk, ?_⟩⟩
    have hW1 := Grow.al (Grow.refl (World.drew w)) (.cells #[.int .i64 0, .int .i64 0] tA)
    have hW2 := Grow.al hW1 (.cells #[.int .i64 0, .int .i64 0] tA)
    have b1 := (BK.new (World.drew w) #[.int .i64 0, .int .i64 0] tA).al (.cells #[.int .i64 0, .int .i64 0] tA)
    have b2 := BK.new (World.alloc (World.drew w) (.cells #[.int .i64 0, .int .i64 0] tA)) #[.int .i64 0, .int .i64 0] tA
    have ne : (World.alloc (World.drew w) (.cells #[.int .i64 0, .int .i64 0] tA)).heap.size ≠ (World.drew w).heap.size := by rw [al_size]; omega
    have le1 : (World.drew w).heap.size ≤ (World.alloc (World.drew w) (.cells #[.int .i64 0, .int .i64 0] tA)).heap.size := by rw [al_size]; omega
    generalize World.alloc (World.alloc (World.drew w) (.cells #[.int .i64 0, .int .i64 0] tA)) (.cells #[.int .i64 0, .int .i64 0] tA) = W2 at *
    generalize World.alloc (World.drew w) (.cells #[.int .i64 0, .int .i64 0] tA) = W1 at *
    have gen : ∀ p q, BK W2 p #[.int .i64 0, .int .i64 0] tA → BK W2 q #[.int .i64 0, .int .i64 0] tA → p ≠ q → (World.drew w).heap.size ≤ p → (World.drew w).heap.size ≤ q →
        Grow (World.drew w) (stRow W2 ⟨p, 0, none⟩ #[.int .i64 x.1, .int .i64 x.2]) ∧ Grow (World.drew w) (stRow W2 ⟨q, 0, none⟩ #[.int .i64 y.1, .int .i64 y.2]) ∧
        StRow W2 ⟨p, 0, none⟩ #[.int .i64 x.1, .int .i64 x.2] ∧ StRow W2 ⟨q, 0, none⟩ #[.int .i64 y.1, .int .i64 y.2] ∧
        StRow (stRow W2 ⟨p, 0, none⟩ #[.int .i64 x.1, .int .i64 x.2]) ⟨q, 0, none⟩ #[.int .i64 y.1, .int .i64 y.2] ∧ StRow (stRow W2 ⟨q, 0, none⟩ #[.int .i64 y.1, .int .i64 y.2]) ⟨p, 0, none⟩ #[.int .i64 x.1, .int .i64 x.2] ∧
        j (.pointer (some ⟨p, 0, none⟩)) (.pointer (some ⟨q, 0, none⟩)) (stRow (stRow W2 ⟨p, 0, none⟩ #[.int .i64 x.1, .int .i64 x.2]) ⟨q, 0, none⟩ #[.int .i64 y.1, .int .i64 y.2]) ∧
        j (.pointer (some ⟨p, 0, none⟩)) (.pointer (some ⟨q, 0, none⟩)) (stRow (stRow W2 ⟨q, 0, none⟩ #[.int .i64 y.1, .int .i64 y.2]) ⟨p, 0, none⟩ #[.int .i64 x.1, .int .i64 x.2]) := by
      intro p q bp bq ne lp lq
      have hX := Below.strow hW2 (p := ⟨p, 0, none⟩) lp #[.int .i64 x.1, .int .i64 x.2]
      have hY := Below.strow hW2 (p := ⟨q, 0, none⟩) lq #[.int .i64 y.1, .int .i64 y.2]
      have bqX := bq.strow_other ne.symm 0 none #[.int .i64 x.1, .int .i64 x.2]
      have bpY := bp.strow_other ne 0 none #[.int .i64 y.1, .int .i64 y.2]
      have bpX := bp.strow (ds := #[.int .i64 x.1, .int .i64 x.2]) rfl
      have bqY := bq.strow (ds := #[.int .i64 y.1, .int .i64 y.2]) rfl
      have gXY := gd.then (Below.strow hX (p := ⟨q, 0, none⟩) lq #[.int .i64 y.1, .int .i64 y.2])
      have gYX := gd.then (Below.strow hY (p := ⟨p, 0, none⟩) lp #[.int .i64 x.1, .int .i64 x.2])
      exact ⟨hX, hY, bp.row (ds := #[.int .i64 x.1, .int .i64 x.2]) rfl rfl, bq.row (ds := #[.int .i64 y.1, .int .i64 y.2]) rfl rfl, bqX.row (ds := #[.int .i64 y.1, .int .i64 y.2]) rfl rfl, bpY.row (ds := #[.int .i64 x.1, .int .i64 x.2]) rfl rfl,
        hj _ _ _ ⟨gXY, _, _, rfl, rfl, bpX.strow_other ne 0 none #[.int .i64 y.1, .int .i64 y.2], bqX.strow (ds := #[.int .i64 y.1, .int .i64 y.2]) rfl⟩,
        hj _ _ _ ⟨gYX, _, _, rfl, rfl, bpY.strow (ds := #[.int .i64 x.1, .int .i64 x.2]) rfl, bqY.strow_other ne.symm 0 none #[.int .i64 x.1, .int .i64 x.2]⟩⟩
    obtain ⟨hX, hY, rX, rY, rXY, rYX, jXY, jYX⟩ := gen _ _ b1 b2 ne.symm (Nat.le_refl _) le1
    obtain ⟨hX', hY', rX', rY', rXY', rYX', jXY', jYX'⟩ := gen _ _ b2 b1 ne le1 (Nat.le_refl _)
    repeat' (first
      | with_reducible refine And.intro ?_ ?_
      | (with_reducible refine ⟨_, grow_cell hW1 c0, ?_⟩; rfl) | (with_reducible refine ⟨_, grow_cell hW2 c0, ?_⟩; rfl)
      | (with_reducible refine ⟨_, grow_cell hX c0, ?_⟩; rfl) | (with_reducible refine ⟨_, grow_cell hY c0, ?_⟩; rfl) | (with_reducible refine ⟨_, grow_cell hX' c0, ?_⟩; rfl) | (with_reducible refine ⟨_, grow_cell hY' c0, ?_⟩; rfl)
      | (with_reducible refine ⟨_, _, grow_ld hW1 li, ?_⟩; rfl) | (with_reducible refine ⟨_, _, grow_ld hW2 li, ?_⟩; rfl)
      | (with_reducible refine ⟨_, _, grow_ld hX li, ?_⟩; rfl) | (with_reducible refine ⟨_, _, grow_ld hY li, ?_⟩; rfl) | (with_reducible refine ⟨_, _, grow_ld hX' li, ?_⟩; rfl) | (with_reducible refine ⟨_, _, grow_ld hY' li, ?_⟩; rfl)
      | (with_reducible refine ⟨_, _, grow_ld hW1 lk, ?_⟩; rfl) | (with_reducible refine ⟨_, _, grow_ld hW2 lk, ?_⟩; rfl)
      | (with_reducible refine ⟨_, _, grow_ld hX lk, ?_⟩; rfl) | (with_reducible refine ⟨_, _, grow_ld hY lk, ?_⟩; rfl) | (with_reducible refine ⟨_, _, grow_ld hX' lk, ?_⟩; rfl) | (with_reducible refine ⟨_, _, grow_ld hY' lk, ?_⟩; rfl)
      | with_reducible exact rX | with_reducible exact rY | with_reducible exact rXY | with_reducible exact rYX | with_reducible exact jXY | with_reducible exact jYX
      | with_reducible exact rX' | with_reducible exact rY' | with_reducible exact rXY' | with_reducible exact rYX' | with_reducible exact jXY' | with_reducible exact jYX')
  · rintro u v' w' ⟨g, p, q, rfl, rfl, bp, bq⟩
    refine JoinP.bool (fun b' w2 => b' = lt x y ∧ w2 = w') (fun j hj => ?_) (fun b' w2 ⟨e, e2⟩ => by subst e; subst e2; exact c _ g)
    refine withAddr_some ⟨_, bp.cell 1, withAddr_some ⟨_, bq.cell 1, cond_intro (fun h1 => hj _ _ ⟨?_, rfl⟩) (fun h1 => withAddr_some ⟨_, bp.cell 1, withAddr_some ⟨_, bq.cell 1, cond_intro (fun h2 => withAddr_some ⟨_, bp.cell 0, withAddr_some ⟨_, bq.cell 0, hj _ _ ⟨?_, rfl⟩⟩⟩) (fun h2 => hj _ _ ⟨?_, rfl⟩)⟩⟩)⟩⟩
    · simp at h1; simp [lt, h1]
    · simp at h1 h2; simp [lt, h2]
    · simp at h1 h2; simp [lt, h2]; omega

/-! ### the heap, written -/
theorem TS.put {w : World} {b : Nat} {v : Value} {H : List (Int × Int)} {now i : Int} (h : TS w b v H now) (h0 : 0 ≤ i) (h1 : i < H.length) :
    ∃ a, sliceAt v i 2 = some a ∧ FT b v a.block ∧ ldCells w a 2 #[.int .i64 (H[i.toNat]'(by omega)).1, .int .i64 (H[i.toNat]'(by omega)).2] ∧
      w.cell? (a.add 0) = some (.int .i64 (H[i.toNat]'(by omega)).1) ∧ w.cell? (a.add 1) = some (.int .i64 (H[i.toNat]'(by omega)).2) ∧
      ∀ x : Int × Int, StRow w a #[.int .i64 x.1, .int .i64 x.2] ∧ TS (stRow w a #[.int .i64 x.1, .int .i64 x.2]) b v (H.set i.toNat x) now := by
  obtain ⟨a, ha, hb, _, hc, hp, _⟩ := h.row.put h0 h1
  have hne : a.block ≠ b := fun e => h.ne (by rw [hb, e])
  refine ⟨a, ha, .inr hb, E2_ld hc, hc 0 (by decide), hc 1 (by decide), fun x => ⟨(hp x).1, ?_, (hp x).2, h.ne⟩⟩
  exact (heap_setCells_ne a.block b hne.symm _ _ _).trans h.blk

theorem TS.setV {w : World} {b : Nat} {v v' : Value} {H H' : List (Int × Int)} {now : Int} (h : TS w b v H now) (ho : OwnR E2 w 0 tA v' H') (hne : v'.ownBlock ≠ some b) :
    St1 w (Addr.add ⟨b, 0, none⟩ 0) ∧ TS (w.setCell (Addr.add ⟨b, 0, none⟩ 0) v') b v' H' now := by
  rw [ad0]
  refine ⟨h.blk.st1 (j := 0) (by simp), ⟨h.blk.set 0 v', ho.stable fun k hk => Below.heap_setCell w ⟨b, 0, none⟩ v' k (fun e => hne (by rw [hk, e])), hne⟩⟩

theorem TS.setNow {w : World} {b : Nat} {v : Value} {H : List (Int × Int)} {now : Int} (h : TS w b v H now) (n : Int) :
    St1 w (Addr.add ⟨b, 0, none⟩ 1) ∧ TS (w.setCell (Addr.add ⟨b, 0, none⟩ 1) (.int .i64 n)) b v H n := by
  rw [ad0]
  refine ⟨h.blk.st1 (j := 1) (by simp), ⟨h.blk.set 1 _, h.row.stable fun k hk => Below.heap_setCell w ⟨b, 1, none⟩ _ k (fun e => h.ne (by rw [hk, e])), h.ne⟩⟩

/-! ### up and down -/
abbrev nth (H : List (Int × Int)) (i : Nat) : Int × Int := H.getD i (0, 0)
def swp (H : List (Int × Int)) (i k : Nat) : List (Int × Int) := (H.set i (nth H k)).set k (nth H i)
theorem swp_length (H : List (Int × Int)) (i k : Nat) : (swp H i k).length = H.length := by simp [swp]

def upF (H : List (Int × Int)) (i : Nat) : List (Int × Int) :=
  if h : 0 < i ∧ lt (nth H i) (nth H ((i - 1) / 2)) = true then upF (swp H i ((i - 1) / 2)) ((i - 1) / 2) else H
termination_by i
decreasing_by omega

def kid (H : List (Int × Int)) (i : Nat) : Nat := if 2 * i + 2 < H.length ∧ lt (nth H (2 * i + 2)) (nth H (2 * i + 1)) = true then 2 * i + 2 else 2 * i + 1

theorem kid_gt (H : List (Int × Int)) (i : Nat) : i < kid H i := by unfold kid; split <;> omega

def downF (H : List (Int × Int)) (i : Nat) : List (Int × Int) :=
  if h : kid H i < H.length ∧ lt (nth H (kid H i)) (nth H i) = true then downF (swp H i (kid H i)) (kid H i) else H
termination_by H.length - i
decreasing_by
  have := kid_gt H i
  rw [swp_length]; omega

theorem nth_get (H : List (Int × Int)) (i : Nat) (h : i < H.length) : nth H i = H[i] := by
  simp [nth, List.getD_eq_getElem?_getD, h]

/-- two elements change places -/
theorem TS.swap {w : World} {b : Nat} {v : Value} {H : List (Int × Int)} {now i k : Int} (h : TS w b v H now) (hi : 0 ≤ i ∧ i < H.length) (hk : 0 ≤ k ∧ k < H.length) :
    ∃ ai ak, sliceAt v i 2 = some ai ∧ sliceAt v k 2 = some ak ∧ ldCells w ai 2 #[.int .i64 (nth H i.toNat).1, .int .i64 (nth H i.toNat).2] ∧ ldCells w ak 2 #[.int .i64 (nth H k.toNat).1, .int .i64 (nth H k.toNat).2] ∧
      StRow w ai #[.int .i64 (nth H k.toNat).1, .int .i64 (nth H k.toNat).2] ∧
      StRow (stRow w ai #[.int .i64 (nth H k.toNat).1, .int .i64 (nth H k.toNat).2]) ak #[.int .i64 (nth H i.toNat).1, .int .i64 (nth H i.toNat).2] ∧
      TS (stRow (stRow w ai #[.int .i64 (nth H k.toNat).1, .int .i64 (nth H k.toNat).2]) ak #[.int .i64 (nth H i.toNat).1, .int .i64 (nth H i.toNat).2]) b v (swp H i.toNat k.toNat) now ∧
      Step (FT b v) w (stRow (stRow w ai #[.int .i64 (nth H k.toNat).1, .int .i64 (nth H k.toNat).2]) ak #[.int .i64 (nth H i.toNat).1, .int .i64 (nth H i.toNat).2]) (FT b v) := by
  obtain ⟨ai, hai, fi, li, _, _, pi⟩ := h.put hi.1 hi.2
  obtain ⟨ak, hak, fk, lk, _, _, _⟩ := h.put hk.1 hk.2
  rw [← nth_get H i.toNat (by omega)] at li
  rw [← nth_get H k.toNat (by omega)] at lk
  obtain ⟨s1, t1⟩ := pi (nth H k.toNat)
  obtain ⟨ak', hak', _, _, _, _, pk⟩ := t1.put hk.1 (by simpa using hk.2)
  rw [hak] at hak'
  cases hak'
  obtain ⟨s2, t2⟩ := pk (nth H i.toNat)
  exact ⟨ai, ak, hai, hak, li, lk, s1, s2, t2, (Step.row w ai _ fi).then (Step.row _ ak _ fk)⟩

theorem up_c {w : World} {b : Nat} {v : Value} {H : List (Int × Int)} {now i : Int} {R : KV} (h : TS w b v H now) (hi : 0 ≤ i ∧ i < H.length)
    (c : ∀ w', Step (FT b v) w w' (FT b v) → TS w' b v (upF H i.toNat) now → R (.tuple #[]) w') : Go.CW.Spec Tryz.prog 89 #[.pointer (some ⟨b, 0, none⟩), .int .i64 i] w R := by
  apply timer_Timers_up_m_wp
  have hle := h.row.rd.le
  refine ⟨fun (k : Int) (ww : World) => 0 ≤ k ∧ k < H.length ∧ Step (FT b v) w ww (FT b v) ∧ ∃ H' : List (Int × Int), TS ww b v H' now ∧ H'.length = H.length ∧ upF H' k.toNat = upF H i.toNat, fun (k : Int) (_ : World) => k.toNat,
    ⟨hi.1, hi.2, Step.refl _ _, H, h, rfl, rfl⟩, ?_⟩
  dsimp only [allR, mapR2, eqN, ltN]
  rintro m k ww ⟨⟨h0, h1, st, H', t, hl, hu⟩, hm⟩
  refine JoinP.bool (fun b3 w' => Grow ww w' ∧ b3 = decide (0 < k.toNat ∧ lt (nth H' k.toNat) (nth H' ((k.toNat - 1) / 2)) = true)) (fun j hj => ?_) ?_
  · refine cond_intro (fun hp => ?_) (fun hp => hj _ _ ⟨Grow.refl _, ?_⟩)
    · simp at hp
      rw [wi64_id (n := k - 1) (by omega) (by omega), Int.tdiv_eq_ediv_of_nonneg (by omega), wi64_id (by omega) (by omega)]
      refine less_c t (by omega) (by omega) fun w' g => ⟨_, rfl, hj _ _ ⟨g, ?_⟩⟩
      have e : ((k - 1) / 2).toNat = (k.toNat - 1) / 2 := by omega
      rw [← nth_get _ _ (by omega), ← nth_get _ _ (by omega), e]
      have hk : 0 < k.toNat := by omega
      simp [hk]
    · simp at hp
      have hk : ¬ 0 < k.toNat := by omega
      simp [hk]
  · rintro b3 w4 ⟨g, rfl⟩
    have t4 := t.grow g
    refine cond_intro (fun hp => ?_) (fun hp => ?_)
    · simp only [decide_eq_true_eq] at hp
      rw [wi64_id (n := k - 1) (by omega) (by omega), Int.tdiv_eq_ediv_of_nonneg (by omega), wi64_id (by omega) (by omega)]
      have e : ((k - 1) / 2).toNat = (k.toNat - 1) / 2 := by omega
      have gd : Grow w4 (World.drew w4) := (Grow.refl w4).dr
      have td := t4.grow gd
      obtain ⟨ai, ak, hai, hak, li, lk, s1, s2, t2, st2⟩ := td.swap (i := k) (k := (k - 1) / 2) (by omega) (by omega)
      refine withAddr_some ⟨_, td.c0, withAddr_some ⟨_, td.c0, withAddr_some ⟨_, td.c0, ak, hak, _, _, lk, withAddr_some ⟨_, td.c0, ai, hai, _, _, li, ai, hai, s1, ak, hak, s2, ?_⟩⟩⟩⟩
      refine ⟨⟨by omega, by omega, (st.then (Step.of_grow (g.then gd))).then st2, _, t2, by rw [swp_length, hl], ?_⟩, by omega⟩
      rw [← hu]
      conv => rhs; unfold upF
      rw [dif_pos hp, e]
    · simp only [decide_eq_false_iff_not] at hp
      have e : upF H' k.toNat = H' := by unfold upF; rw [dif_neg hp]
      rw [e] at hu
      subst hu
      exact c _ (st.then (Step.of_grow g)) t4

theorem down_c {w : World} {b : Nat} {v : Value} {H : List (Int × Int)} {now i : Int} {R : KV} (h : TS w b v H now) (hi : 0 ≤ i ∧ i < H.length) (hs : H.length ≤ 1000000000000)
    (c : ∀ w', Step (FT b v) w w' (FT b v) → TS w' b v (downF H i.toNat) now → R (.tuple #[]) w') : Go.CW.Spec Tryz.prog 181 #[.pointer (some ⟨b, 0, none⟩), .int .i64 i] w R := by
  apply timer_Timers_down_m_wp
  refine ⟨fun (k : Int) (ww : World) => 0 ≤ k ∧ k < H.length ∧ Step (FT b v) w ww (FT b v) ∧ ∃ H' : List (Int × Int), TS ww b v H' now ∧ H'.length = H.length ∧ downF H' k.toNat = downF H i.toNat, fun (k : Int) (_ : World) => (H.length - k).toNat,
    ⟨hi.1, hi.2, Step.refl _ _, H, h, rfl, rfl⟩, ?_⟩
  dsimp only [allR, mapR2, eqN, ltN]
  rintro m k ww ⟨⟨h0, h1, st, H', t, hl, hu⟩, hm⟩
  rw [wi64_id (n := 2 * k) (by omega) (by omega), wi64_id (n := 2 * k + 1) (by omega) (by omega), wi64_id (n := 2 * k + 1 + 1) (by omega) (by omega)]
  refine JoinP.int (fun n w' => Grow ww w' ∧ n = (kid H' k.toNat : Int)) (fun j hj => ?_) ?_
  · refine JoinP.bool (fun b3 w' => Grow ww w' ∧ b3 = decide (2 * k.toNat + 2 < H'.length ∧ lt (nth H' (2 * k.toNat + 2)) (nth H' (2 * k.toNat + 1)) = true)) (fun jj hjj => ?_) ?_
    · refine withAddr_some ⟨_, t.c0, _, t.row.rd.len, cond_intro (fun hp => ?_) (fun hp => hjj _ _ ⟨Grow.refl _, ?_⟩)⟩
      · simp at hp
        refine less_c t (by omega) (by omega) fun w' g => ⟨_, rfl, hjj _ _ ⟨g, ?_⟩⟩
        have e1 : (2 * k + 1 + 1).toNat = 2 * k.toNat + 2 := by omega
        have e2 : (2 * k + 1).toNat = 2 * k.toNat + 1 := by omega
        rw [← nth_get _ _ (by omega), ← nth_get _ _ (by omega), e1, e2]
        have hk : 2 * k.toNat + 2 < H'.length := by omega
        simp [hk]
      · simp at hp
        have hk : ¬ 2 * k.toNat + 2 < H'.length := by omega
        simp [hk]
    · rintro b3 w' ⟨g, rfl⟩
      refine cond_intro (fun hp => hj _ _ ⟨g, ?_⟩) (fun hp => hj _ _ ⟨g, ?_⟩)
      · simp only [decide_eq_true_eq] at hp
        unfold kid; rw [if_pos hp]; omega
      · simp only [decide_eq_false_iff_not] at hp
        unfold kid; rw [if_neg hp]; omega
  · rintro n w4 ⟨g, rfl⟩
    have t4 := t.grow g
    have hkg := kid_gt H' k.toNat
    generalize hkk : kid H' k.toNat = q at *
    refine JoinP.bool (fun b3 w' => Grow w4 w' ∧ b3 = !decide (q < H'.length ∧ lt (nth H' q) (nth H' k.toNat) = true)) (fun j hj => ?_) ?_
    · refine withAddr_some ⟨_, t4.c0, _, t4.row.rd.len, cond_intro (fun hp => hj _ _ ⟨Grow.refl _, ?_⟩) (fun hp => ?_)⟩
      · simp at hp
        have hk : ¬ q < H'.length := by omega
        simp [hk]
      · simp at hp
        refine less_c t4 (by omega) (by omega) fun w' g => ⟨_, rfl, hj _ _ ⟨g, ?_⟩⟩
        rw [← nth_get _ _ (by omega), ← nth_get _ _ (by omega), Int.toNat_natCast]
        simp [hp]
    · rintro b3 w6 ⟨g6, rfl⟩
      have t6 := t4.grow g6
      refine cond_intro (fun hp => ?_) (fun hp => ?_)
      · simp only [Bool.not_eq_true', decide_eq_false_iff_not] at hp
        have e : downF H' k.toNat = H' := by unfold downF; rw [hkk, dif_neg hp]
        rw [e] at hu
        subst hu
        exact c _ (st.then (Step.of_grow (g.then g6))) t6
      · simp only [Bool.not_eq_false', decide_eq_true_eq] at hp
        have gd : Grow w6 (World.drew w6) := (Grow.refl w6).dr
        have td := t6.grow gd
        obtain ⟨ai, ak, hai, hak, li, lk, s1, s2, t2, st2⟩ := td.swap (i := k) (k := (q : Int)) (by omega) (by omega)
        refine withAddr_some ⟨_, td.c0, withAddr_some ⟨_, td.c0, withAddr_some ⟨_, td.c0, ak, hak, _, _, lk, withAddr_some ⟨_, td.c0, ai, hai, _, _, li, ai, hai, s1, ak, hak, s2, ?_⟩⟩⟩⟩
        rw [Int.toNat_natCast] at t2 st2
        refine ⟨⟨by omega, by omega, (st.then (Step.of_grow ((g.then g6).then gd))).then st2, _, t2, by rw [swp_length, hl], ?_⟩, by omega⟩
        rw [← hu]
        conv => rhs; unfold downF
        rw [hkk, dif_pos hp, Int.toNat_natCast]

end Go.Proofs.YtghineciiljeoaaGreatDoor.Clk

end

section
/- The contracts of the timers' functions, go on. -/
set_option linter.unusedVariables false
set_option linter.unusedSimpArgs false
set_option maxRecDepth 100000
namespace Go.Proofs.YtghineciiljeoaaGreatDoor.Clk
open Go Go.CW Go.RowKit

theorem oneK_intro {v : Value} {A : Prop} (h : isOne v = true) (a : A) : oneK v A := by
  cases v <;> first | exact a | exact ⟨h, a⟩
theorem own_isOne {α : Type} {E : Enc α} {w : World} {B : Nat} {e : TypeId} {v : Value} {L : List α} (h : OwnR E w B e v L) : isOne v = true := by
  rcases h.2 with ⟨rfl, hn⟩ | ⟨g, cap, cur, rfl, _⟩ <;> rfl
theorem callU_of {P : Program} {g : FuncId} {first captured args : Array Value} {w : World} {K : KV} (hb : (P.funcs[g]?).map (fun fn => fn.body.isSome) = some true) (h : Go.CW.Spec P g (app3 first args captured) w K) :
    callU P (.func (.func g) first captured) args w K := by
  unfold callU
  simp only [hb]
  exact h

/-! ### find -/
/-- a timer's place, or how many there are -/
def fidx (H : List (Int × Int)) (id : Int) : Nat := H.findIdx (fun p => p.1 == id)
def findI (H : List (Int × Int)) (id : Int) : Int := if fidx H id < H.length then (fidx H id : Int) else -1

theorem index_c {w : World} {v : Value} {H : List (Int × Int)} {id : Int} {g : Nat} {R : KV} (h : RdR E2 w v H) (hg : BK w g #[.int .i64 id] tI)
    (c : ∀ w', Grow w w' → R (.int .i64 (findI H id)) w') : Go.CW.Spec Tryz.prog 179 #[v, .func (.func 180) #[] #[.pointer (some ⟨g, 0, none⟩)]] w R := by
  apply slices_IndexFunc_179_wp
  have hle := h.le
  have hidx : fidx H id ≤ H.length := List.findIdx_le_length
  refine ⟨_, h.len, fun (i : Int) (ww : World) => Grow w ww ∧ 0 ≤ i ∧ i ≤ fidx H id, fun (i : Int) (_ : World) => (H.length - i).toNat, ⟨Grow.refl w, by omega, by omega⟩, ?_⟩
  dsimp only [allR, mapR2, eqN, ltN]
  rintro m i ww ⟨⟨gw, h0, h1⟩, hm⟩
  refine cond_intro (fun hp => ?_) (fun hp => ?_)
  · simp at hp
    obtain ⟨a, ha, hc, _⟩ := (h.grow gw).at h0 hp
    refine ⟨a, ha, _, _, E2_ld hc, callU_of (by kernel_rfl) ?_⟩
    generalize hx : H[i.toNat]'(by omega) = x at *
    apply timer_Timers_find_1_m_wp
    have hb := BK.new ww #[.int .i64 x.1, .int .i64 x.2] tA
    have g1 : Grow ww _ := Grow.al (Grow.refl ww) (.cells #[.int .i64 x.1, .int .i64 x.2] tA)
    refine ⟨x.1, hb.cell 0, withAddr_some ⟨id, ((hg.grow gw).grow g1).at 0, _, rfl, cond_intro (fun hq => ?_) (fun hq => ?_)⟩⟩
    · have e : fidx H id = i.toNat := by
        refine (List.findIdx_eq (by omega)).2 ⟨by rw [hx]; exact hq, fun j hj => ?_⟩
        have := List.not_of_lt_findIdx (p := fun p : Int × Int => p.1 == id) (xs := H) (i := j) (by show j < fidx H id; omega)
        simpa using this
      have hc := c _ (gw.then g1)
      rw [findI, e, if_pos (by omega)] at hc
      have e2 : ((i.toNat : Nat) : Int) = i := by omega
      rw [e2] at hc; exact hc
    · rw [wi64_id (n := i + 1) (by omega) (by omega)]
      refine ⟨⟨gw.then g1, by omega, ?_⟩, by omega⟩
      have : fidx H id ≠ i.toNat := by
        intro e
        have h3 := List.findIdx_getElem (p := fun p : Int × Int => p.1 == id) (xs := H) (w := by show fidx H id < H.length; omega)
        have h4 : H[fidx H id]'(by omega) = x := by rw [← hx]; simp only [e]
        have h5 : ((H[fidx H id]'(by omega)).1 == id) = true := h3
        rw [h4, hq] at h5; cases h5
      omega
  · simp at hp
    have e : findI H id = -1 := by unfold findI; rw [if_neg (by omega)]
    have hc := c _ gw
    rw [e] at hc; exact hc

theorem find_c {w : World} {b : Nat} {v : Value} {H : List (Int × Int)} {now id : Int} {R : KV} (h : TS w b v H now)
    (c : ∀ w', Grow w w' → R (.int .i64 (findI H id)) w') : Go.CW.Spec Tryz.prog 87 #[.pointer (some ⟨b, 0, none⟩), .int .i64 id] w R := by
  apply timer_Timers_find_m_wp
  have g : Grow w _ := Grow.al (Grow.refl w) (.cells #[.int .i64 id] tI)
  have t := h.grow g
  refine withAddr_some ⟨_, t.c0, index_c t.row.rd (BK.new w _ _) fun w' g' => ⟨_, rfl, c _ (g.then g')⟩⟩

/-! ### remove -/
def remF (H : List (Int × Int)) (i : Nat) : List (Int × Int) :=
  if i < H.length - 1 then downF (upF ((H.set i (nth H (H.length - 1))).take (H.length - 1)) i) i else (H.set i (nth H (H.length - 1))).take (H.length - 1)

theorem upF_length (H : List (Int × Int)) (i : Nat) : (upF H i).length = H.length := by
  induction H, i using upF.induct with
  | case1 H i h ih => unfold upF; rw [dif_pos h, ih, swp_length]
  | case2 H i h => unfold upF; rw [dif_neg h]
theorem downF_length (H : List (Int × Int)) (i : Nat) : (downF H i).length = H.length := by
  induction H, i using downF.induct with
  | case1 H i h ih => unfold downF; rw [dif_pos h, ih, swp_length]
  | case2 H i h => unfold downF; rw [dif_neg h]
theorem remF_length (H : List (Int × Int)) (i : Nat) : (remF H i).length = H.length - 1 := by
  unfold remF
  split
  · rw [downF_length, upF_length]; simp
  · simp

theorem remove_c {w : World} {b : Nat} {v : Value} {H : List (Int × Int)} {now i : Int} {R : KV} (h : TS w b v H now) (hi : 0 ≤ i ∧ i < H.length) (hs : H.length ≤ 1000000000000)
    (c : ∀ v' w', Step (FT b v) w w' (FT b v') → TS w' b v' (remF H i.toNat) now → R (.tuple #[]) w') : Go.CW.Spec Tryz.prog 88 #[.pointer (some ⟨b, 0, none⟩), .int .i64 i] w R := by
  apply timer_Timers_remove_m_wp
  have gd : Grow w (World.drew w) := (Grow.refl w).dr
  have td := h.grow gd
  refine withAddr_some ⟨_, h.c0, _, h.row.rd.len, ?_⟩
  rw [wi64_id (n := (H.length : Int) - 1) (by omega) (by omega)]
  obtain ⟨a7, h7, _, l7, _, _, _⟩ := td.put (i := (H.length : Int) - 1) (by omega) (by omega)
  obtain ⟨a10, h10, f10, _, _, _, p10⟩ := td.put hi.1 hi.2
  have en : ((H.length : Int) - 1).toNat = H.length - 1 := by omega
  rw [← nth_get _ _ (by omega), en] at l7
  obtain ⟨s1, t1⟩ := p10 (nth H (H.length - 1))
  refine withAddr_some ⟨_, td.c0, withAddr_some ⟨_, td.c0, a7, h7, _, _, l7, a10, h10, s1, ?_⟩⟩
  have st1 := (Step.of_grow gd).then (Step.row (World.drew w) a10 #[.int .i64 (nth H (H.length - 1)).1, .int .i64 (nth H (H.length - 1)).2] f10)
  generalize stRow (World.drew w) a10 _ = w1 at *
  obtain ⟨v', hv', o', e'⟩ := t1.row.trunc (n := H.length - 1) (by simp) .i64
  have en2 : (((H.length - 1 : Nat) : Int)) = (H.length : Int) - 1 := by omega
  rw [en2] at hv'
  obtain ⟨s2, t2⟩ := t1.setV o' (by rw [e']; exact t1.ne)
  refine withAddr_some ⟨_, t1.c0, v', hv', withAddr_some (oneK_intro (own_isOne o') ⟨s2, ?_⟩)⟩
  have hfp : ∀ k, FT b v' k ↔ FT b v k := fun k => by unfold FT; rw [e']
  have st2 : Step (FT b v) w (w1.setCell (Addr.add ⟨b, 0, none⟩ 0) v') (FT b v') := by
    refine (st1.then (Step.setA w1 _ v' (.inl (add_block _ _)))).imp (fun k h => h) (fun k hk => .inl ((hfp k).1 hk))
  refine cond_intro (fun hp => ?_) (fun hp => ?_)
  · simp at hp
    refine up_c t2 ⟨by omega, by simp; omega⟩ fun w3 st3 t3 => ⟨rfl, ?_⟩
    refine down_c t3 ⟨by omega, by rw [upF_length]; simp; omega⟩ (by rw [upF_length]; simp; omega) fun w4 st4 t4 => ⟨rfl, ?_⟩
    refine c v' _ (st2.then (st3.then st4)) ?_
    unfold remF
    rw [if_pos (by omega)]; exact t4
  · simp at hp
    refine c v' _ st2 ?_
    unfold remF
    rw [if_neg (by omega)]; exact t2

/-! ### Set, Stop, Left -/
def addF (H : List (Int × Int)) (x : Int × Int) : List (Int × Int) := upF (H ++ [x]) H.length
/-- what Set answers and leaves -/
def setF (H : List (Int × Int)) (now id n : Int) : Int × List (Int × Int) :=
  if n < 1 ∨ n > 1073741824 then (1, H)
  else if fidx H id < H.length then (0, addF (remF H (fidx H id)) (id, now + n))
  else if H.length ≥ 256 then (7, H) else (0, addF H (id, now + n))

theorem Set_c {w : World} {b : Nat} {v : Value} {H : List (Int × Int)} {now id n : Int} {R : KV} (h : TS w b v H now) (hs : H.length ≤ 1000000) (hn : Fits .i64 n) (hw : 0 ≤ now ∧ now ≤ 1000000000000)
    (c : ∀ v' w', Step (FT b v) w w' (FT b v') → TS w' b v' (setF H now id n).2 now → R (.int .i64 (setF H now id n).1) w') : Go.CW.Spec Tryz.prog 26 #[.pointer (some ⟨b, 0, none⟩), .int .i64 id, .int .i64 n] w R := by
  apply timer_Timers_Set_m_wp
  refine JoinP.bool (fun b0 w' => w' = w ∧ b0 = decide (n < 1 ∨ n > 1073741824)) (fun j hj => ?_) ?_
  · refine cond_intro (fun hp => hj _ _ ⟨rfl, ?_⟩) (fun hp => hj _ _ ⟨rfl, ?_⟩)
    · simp at hp; have : n < 1 ∨ n > 1073741824 := by omega
      simp [this]
    · simp at hp
      rw [Bool.eq_iff_iff]; simp; omega
  rintro b0 w1 ⟨rfl, rfl⟩
  refine cond_intro (fun hp => ?_) (fun hp => ?_)
  · simp only [decide_eq_true_eq] at hp
    have := c v w1 (Step.refl _ _)
    unfold setF at this
    rw [if_pos hp] at this
    exact this h
  simp only [decide_eq_false_iff_not] at hp
  unfold setF at c
  rw [if_neg hp] at c
  refine find_c h fun w3 g3 => ⟨_, rfl, ?_⟩
  have t3 := h.grow g3
  -- what follows the removal
  refine JoinP.unit (fun w5 => ∃ v5 H5, Step (FT b v) w1 w5 (FT b v5) ∧ TS w5 b v5 H5 now ∧ H5.length ≤ 1000000 ∧ ∀ v' w', Step (FT b v) w1 w' (FT b v') → TS w' b v' (addF H5 (id, now + n)) now → R (.int .i64 0) w') (fun j hj => ?_) ?_
  · by_cases hf : fidx H id < H.length
    · have ei : findI H id = (fidx H id : Int) := by unfold findI; rw [if_pos hf]
      rw [if_pos hf] at c
      rw [ei]
      refine cond_t (by simp) ?_
      refine remove_c t3 ⟨by omega, by omega⟩ (by omega) fun v' w' st t => ⟨rfl, hj _ ⟨v', _, (Step.of_grow g3).then st, t, by rw [remF_length]; omega, ?_⟩⟩
      rw [Int.toNat_natCast]
      exact c
    · have ei : findI H id = -1 := by unfold findI; rw [if_neg hf]
      rw [if_neg hf] at c
      rw [ei]
      refine cond_f (by simp) (withAddr_some ⟨_, t3.c0, _, t3.row.rd.len, cond_intro (fun hq => ?_) (fun hq => ?_)⟩)
      · simp at hq
        rw [if_pos (by omega)] at c
        exact c v w3 (Step.of_grow g3) t3
      · simp at hq
        rw [if_neg (by omega)] at c
        exact hj _ ⟨v, H, Step.of_grow g3, t3, hs, c⟩
  · rintro w5 ⟨v5, H5, st5, t5, hl5, c5⟩
    have gd : Grow w5 (World.drew w5) := (Grow.refl w5).dr
    have td := t5.grow gd
    have ga : Grow (World.drew w5) _ := Grow.al (Grow.refl (World.drew w5)) (.cells #[.int .i64 id, .int .i64 (now + n)] tA)
    have ta := td.grow ga
    refine withAddr_some ⟨_, td.c0, withAddr_some ⟨_, td.c1, ?_⟩⟩
    rw [wi64_id (n := now + n) (by omega) (by omega)]
    obtain ⟨v11, w12, h11, o11, n11⟩ := app_ownR tyA ta.row (OwnR.lit (E := E2) (World.drew w5) (Nat.le_refl _) tA [(id, now + n)] 1 rfl (by simp [maxLen])).rd (by simp; omega) (Nat.zero_le _)
    have hne : v11.ownBlock ≠ some b := by
      rcases n11.at_ with e | e
      · rw [e]; exact ta.ne
      · intro hh
        have := e b hh
        have := ta.blk.lt
        omega
    refine ⟨⟨_, ta.c0, rfl⟩, v11, w12, h11, withAddr_some (oneK_intro (own_isOne o11) ?_)⟩
    have st12 : Step (FT b v5) w5 w12 (fun k => FT b v5 k ∨ v11.ownBlock = some k) := (Step.of_grow (gd.then ga)).then (Step.of_own n11 (fun k hk => .inr hk))
    have t12 : BK w12 b #[v5, .int .i64 now] tT := (n11.by_.block b ta.blk.lt (fun e => ta.ne e.symm)).trans ta.blk
    refine ⟨by rw [ad0]; exact t12.st1 (j := 0) (by simp), ?_⟩
    have tz : TS (w12.setCell (Addr.add ⟨b, 0, none⟩ 0) v11) b v11 (H5 ++ [(id, now + n)]) now := by
      rw [ad0]
      exact ⟨t12.set 0 v11, o11.stable fun k hk => Below.heap_setCell w12 ⟨b, 0, none⟩ v11 k (fun e => hne (by rw [hk, e])), hne⟩
    have stz : Step (FT b v5) w5 (w12.setCell (Addr.add ⟨b, 0, none⟩ 0) v11) (FT b v11) := by
      refine (st12.then (Step.setA w12 _ v11 (.inl (.inl (add_block _ _))))).imp (fun k h => h) (fun k hk => ?_)
      rcases hk with hk | hk
      · exact .inl (.inl hk)
      · rcases st12.fp k (.inr hk) with h | h
        · exact .inl h
        · exact .inr h
    generalize w12.setCell (Addr.add ⟨b, 0, none⟩ 0) v11 = wz at *
    refine withAddr_some ⟨_, tz.c0, _, tz.row.rd.len, ?_⟩
    have el : ((H5 ++ [(id, now + n)]).length : Int) = (H5.length : Int) + 1 := by simp
    rw [el, wi64_id (n := (H5.length : Int) + 1 - 1) (by omega) (by omega)]
    refine up_c tz ⟨by omega, by omega⟩ fun w18 st18 t18 => ⟨rfl, ?_⟩
    have e2 : ((H5.length : Int) + 1 - 1).toNat = H5.length := by omega
    rw [e2] at t18
    exact c5 _ _ (st5.then (stz.then st18)) t18

theorem New_c {w : World} {R : KV} (c : ∀ w', Grow w w' → TS w' w.heap.size (.slice none 0 0) [] 0 → R (.pointer (some ⟨w.heap.size, 0, none⟩)) w') : Go.CW.Spec Tryz.prog 24 #[] w R := by
  apply timer_New_wp
  exact c _ (Grow.al (Grow.refl w) _) ⟨BK.new w _ _, OwnR.nil _ _ _, by intro h; cases h⟩

end Go.Proofs.YtghineciiljeoaaGreatDoor.Clk

end

section
/- The law of the heap: what rises and sinks keeps the order; what goes off goes off in order. No program in sight. -/
set_option linter.unusedVariables false
set_option linter.unusedSimpArgs false
set_option maxRecDepth 100000
namespace Go.Proofs.YtghineciiljeoaaGreatDoor.Clk
open Go Go.CW Go.RowKit

/-- not later -/
def le (x y : Int × Int) : Prop := lt y x = false

theorem lt_iff (x y : Int × Int) : lt x y = true ↔ x.2 < y.2 ∨ (x.2 = y.2 ∧ x.1 < y.1) := by simp [lt]
theorem le_iff (x y : Int × Int) : le x y ↔ x.2 < y.2 ∨ (x.2 = y.2 ∧ x.1 ≤ y.1) := by
  unfold le
  rw [← Bool.not_eq_true, lt_iff]; omega
theorem le_refl (x : Int × Int) : le x x := by rw [le_iff]; omega
theorem le_trans {x y z : Int × Int} (h : le x y) (k : le y z) : le x z := by rw [le_iff] at *; omega
theorem le_of_lt {x y : Int × Int} (h : lt x y = true) : le x y := by rw [le_iff]; rw [lt_iff] at h; omega
theorem le_of_not {x y : Int × Int} (h : ¬ lt x y = true) : le y x := by rw [le_iff]; rw [lt_iff] at h; omega
theorem lt_of_le {x y : Int × Int} (h : le x y) (hne : x.1 ≠ y.1) : lt x y = true := by rw [le_iff] at h; rw [lt_iff]; omega

def HeapOk (H : List (Int × Int)) : Prop := ∀ k, 0 < k → k < H.length → le (nth H ((k - 1) / 2)) (nth H k)
/-- but for i, which may be too far below -/
def HeapUp (H : List (Int × Int)) (i : Nat) : Prop :=
  (∀ k, 0 < k → k < H.length → k ≠ i → le (nth H ((k - 1) / 2)) (nth H k)) ∧ (∀ k, 0 < k → k < H.length → (k - 1) / 2 = i → 0 < i → le (nth H ((i - 1) / 2)) (nth H k))
/-- but for i, which may be too far above -/
def HeapDn (H : List (Int × Int)) (i : Nat) : Prop :=
  (∀ k, 0 < k → k < H.length → (k - 1) / 2 ≠ i → le (nth H ((k - 1) / 2)) (nth H k)) ∧ (∀ k, 0 < k → k < H.length → (k - 1) / 2 = i → 0 < i → le (nth H ((i - 1) / 2)) (nth H k))

theorem nth_set (H : List (Int × Int)) (i j : Nat) (x : Int × Int) (hi : i < H.length) : nth (H.set i x) j = if j = i then x else nth H j := by
  unfold nth
  rw [List.getD_eq_getElem?_getD, List.getD_eq_getElem?_getD]
  by_cases e : j = i
  · subst e; rw [List.getElem?_set_self hi]; simp
  · rw [List.getElem?_set_ne (fun h => e h.symm), if_neg e]

theorem nth_swp (H : List (Int × Int)) {i k : Nat} (j : Nat) (hi : i < H.length) (hk : k < H.length) : nth (swp H i k) j = if j = k then nth H i else if j = i then nth H k else nth H j := by
  unfold swp
  rw [nth_set _ _ _ _ (by simpa using hk), nth_set _ _ _ _ hi]

theorem swp_perm (H : List (Int × Int)) {i k : Nat} (hi : i < H.length) (hk : k < H.length) : (swp H i k).Perm H := by
  unfold swp
  rw [nth_get H i hi, nth_get H k hk]
  exact List.set_set_perm hi hk

theorem upF_ok (H : List (Int × Int)) (i : Nat) : i < H.length → HeapUp H i → HeapOk (upF H i) ∧ (upF H i).Perm H := by
  induction H, i using upF.induct with
  | case1 H i h ih =>
    intro hi hu
    unfold upF; rw [dif_pos h]
    obtain ⟨h0, hlt⟩ := h
    have hp : (i - 1) / 2 < H.length := by omega
    have hpi : (i - 1) / 2 < i := by omega
    obtain ⟨h1, h2⟩ := hu
    generalize hpe : (i - 1) / 2 = p at *
    have hN := fun j => nth_swp H j hi hp
    have key : _ ∧ _ := ih (by rw [swp_length]; omega) (by
      refine ⟨fun k k0 kl kne => ?_, fun k k0 kl kp p0 => ?_⟩
      · rw [swp_length] at kl
        rw [hN, hN, if_neg kne]
        by_cases e : k = i
        · subst e
          rw [if_pos hpe, if_pos rfl]; exact le_of_lt hlt
        · rw [if_neg e]
          by_cases e2 : (k - 1) / 2 = p
          · rw [if_pos e2]
            exact le_trans (le_of_lt hlt) (e2 ▸ h1 k k0 kl e)
          · rw [if_neg e2]
            by_cases e3 : (k - 1) / 2 = i
            · rw [if_pos e3]
              exact h2 k k0 kl e3 h0
            · rw [if_neg e3]
              exact h1 k k0 kl e
      · rw [swp_length] at kl
        rw [hN, hN]
        have e1 : ¬ (p - 1) / 2 = p := by omega
        have e2 : ¬ (p - 1) / 2 = i := by omega
        have e3 : ¬ k = p := by omega
        rw [if_neg e1, if_neg e2, if_neg e3]
        have hpp := h1 p p0 hp (by omega)
        by_cases e : k = i
        · rw [if_pos e]; exact hpp
        · rw [if_neg e]
          exact le_trans hpp (kp ▸ h1 k k0 kl e))
    obtain ⟨k1, k2⟩ := key
    exact ⟨k1, k2.trans (swp_perm H hi hp)⟩
  | case2 H i h =>
    intro hi hu
    unfold upF; rw [dif_neg h]
    refine ⟨fun k k0 kl => ?_, List.Perm.refl _⟩
    by_cases e : k = i
    · subst e
      exact le_of_not (fun hh => h ⟨k0, hh⟩)
    · exact hu.1 k k0 kl e

theorem kid_min (H : List (Int × Int)) (i k : Nat) (k0 : 0 < k) (kl : k < H.length) (kp : (k - 1) / 2 = i) : kid H i < H.length ∧ le (nth H (kid H i)) (nth H k) ∧ (kid H i - 1) / 2 = i := by
  have hk : k = 2 * i + 1 ∨ k = 2 * i + 2 := by omega
  unfold kid
  by_cases h : 2 * i + 2 < H.length ∧ lt (nth H (2 * i + 2)) (nth H (2 * i + 1)) = true
  · rw [if_pos h]
    refine ⟨h.1, ?_, by omega⟩
    rcases hk with rfl | rfl
    · exact le_of_lt h.2
    · exact le_refl _
  · rw [if_neg h]
    refine ⟨by omega, ?_, by omega⟩
    rcases hk with rfl | rfl
    · exact le_refl _
    · exact le_of_not (fun hh => h ⟨kl, hh⟩)

theorem downF_ok (H : List (Int × Int)) (i : Nat) : i < H.length → HeapDn H i → HeapOk (downF H i) ∧ (downF H i).Perm H := by
  induction H, i using downF.induct with
  | case1 H i h ih =>
    intro hi hu
    unfold downF; rw [dif_pos h]
    obtain ⟨hq, hlt⟩ := h
    have hgt := kid_gt H i
    have hpar : (kid H i - 1) / 2 = i := by unfold kid; split <;> omega
    obtain ⟨h1, h2⟩ := hu
    have hmin := kid_min H i
    generalize kid H i = q at *
    have hN := fun j => nth_swp H j hi hq
    have key : _ ∧ _ := ih (by rw [swp_length]; exact hq) (by
      refine ⟨fun k k0 kl kne => ?_, fun k k0 kl kp p0 => ?_⟩
      · rw [swp_length] at kl
        rw [hN, hN, if_neg kne]
        by_cases e : (k - 1) / 2 = i
        · rw [if_pos e]
          by_cases e2 : k = q
          · rw [if_pos e2]; exact le_of_lt hlt
          · rw [if_neg e2]
            have e3 : ¬ k = i := by omega
            rw [if_neg e3]
            exact (hmin k k0 kl e).2.1
        · rw [if_neg e]
          have e2 : ¬ k = q := by intro h; subst h; exact e hpar
          rw [if_neg e2]
          by_cases e3 : k = i
          · rw [if_pos e3]
            subst e3
            exact h2 q (by omega) hq hpar k0
          · rw [if_neg e3]
            exact h1 k k0 kl e
      · rw [swp_length] at kl
        rw [hN, hN]
        have e1 : ¬ (q - 1) / 2 = q := by omega
        have e3 : ¬ k = q := by omega
        have e4 : ¬ k = i := by omega
        rw [if_neg e1, if_pos hpar, if_neg e3, if_neg e4]
        have := h1 k k0 kl (by omega)
        rw [kp] at this; exact this)
    obtain ⟨k1, k2⟩ := key
    exact ⟨k1, k2.trans (swp_perm H hi hq)⟩
  | case2 H i h =>
    intro hi hu
    unfold downF; rw [dif_neg h]
    refine ⟨fun k k0 kl => ?_, List.Perm.refl _⟩
    by_cases e : (k - 1) / 2 = i
    · obtain ⟨q1, q2, q3⟩ := kid_min H i k k0 kl e
      rw [e]
      exact le_trans (le_of_not (fun hh => h ⟨q1, hh⟩)) q2
    · exact hu.1 k k0 kl e

theorem addF_ok {H : List (Int × Int)} (h : HeapOk H) (x : Int × Int) : HeapOk (addF H x) ∧ (addF H x).Perm (x :: H) := by
  unfold addF
  have hl : (H ++ [x]).length = H.length + 1 := by simp
  have hn : ∀ j, j < H.length → nth (H ++ [x]) j = nth H j := by
    intro j hj
    unfold nth
    rw [List.getD_eq_getElem?_getD, List.getD_eq_getElem?_getD, List.getElem?_append_left hj]
  have key : _ ∧ _ := upF_ok (H ++ [x]) H.length (by omega) (by
    refine ⟨fun k k0 kl kne => ?_, fun k k0 kl kp p0 => ?_⟩
    · rw [hl] at kl
      rw [hn k (by omega), hn _ (by omega)]
      exact h k k0 (by omega)
    · rw [hl] at kl; omega)
  obtain ⟨h1, h2⟩ := key
  exact ⟨h1, h2.trans (List.perm_append_comm)⟩

theorem remF_ok {H : List (Int × Int)} (h : HeapOk H) (i : Nat) (hi : i < H.length) : HeapOk (remF H i) ∧ H.Perm (nth H i :: remF H i) := by
  have hlast : H = H.take (H.length - 1) ++ [nth H (H.length - 1)] := by
    rw [nth_get H _ (by omega)]
    have h1 := List.take_append_drop (H.length - 1) H
    have h2 : H.drop (H.length - 1) = [H[H.length - 1]'(by omega)] := by
      rw [List.drop_eq_getElem_cons (by omega)]
      have : H.length - 1 + 1 = H.length := by omega
      rw [this, List.drop_length]
    rw [h2] at h1; exact h1.symm
  generalize hx : nth H (H.length - 1) = x at *
  generalize hT : H.take (H.length - 1) = T at *
  have hTl : T.length = H.length - 1 := by rw [← hT]; simp
  have hTn : ∀ j, j < T.length → nth T j = nth H j := by
    intro j hj
    rw [← hT]
    unfold nth
    rw [List.getD_eq_getElem?_getD, List.getD_eq_getElem?_getD, List.getElem?_take_of_lt (by omega)]
  have hst : (H.set i x).take (H.length - 1) = T.set i x := by rw [List.take_set, hT]
  unfold remF
  rw [hx, hst]
  by_cases hlt : i < H.length - 1
  · rw [if_pos hlt]
    have hiT : i < T.length := by omega
    have hS := fun j => nth_set T i j x hiT
    have hSl : (T.set i x).length = T.length := by simp
    -- the order holds away from i
    have away : ∀ k, 0 < k → k < T.length → k ≠ i → (k - 1) / 2 ≠ i → le (nth (T.set i x) ((k - 1) / 2)) (nth (T.set i x) k) := by
      intro k k0 kl e1 e2
      rw [hS, hS, if_neg e1, if_neg e2, hTn _ kl, hTn _ (by omega)]
      exact h k k0 (by omega)
    have over : ∀ k, 0 < k → k < T.length → (k - 1) / 2 = i → 0 < i → le (nth (T.set i x) ((i - 1) / 2)) (nth (T.set i x) k) := by
      intro k k0 kl kp i0
      have e1 : ¬ (i - 1) / 2 = i := by omega
      have e2 : ¬ k = i := by omega
      rw [hS, hS, if_neg e1, if_neg e2, hTn _ (by omega), hTn _ kl]
      have a := h i i0 (by omega)
      have b := h k k0 (by omega)
      rw [kp] at b
      exact le_trans a b
    have perm : H.Perm (nth H i :: T.set i x) := by
      have hset : T.set i x = T.take i ++ x :: T.drop (i + 1) := List.set_eq_take_append_cons_drop.trans (if_pos hiT)
      have hTi : T = T.take i ++ nth H i :: T.drop (i + 1) := by
        rw [← hTn i hiT, nth_get T i hiT]; simp
      rw [hset]
      have h3 : H.Perm (x :: T) := by
        have h4 : (T ++ [x]).Perm (x :: T) := List.perm_append_comm
        rw [← hlast] at h4; exact h4
      refine h3.trans ?_
      have h5 : T.Perm (nth H i :: (T.take i ++ T.drop (i + 1))) := by
        have h6 : (T.take i ++ nth H i :: T.drop (i + 1)).Perm (nth H i :: (T.take i ++ T.drop (i + 1))) := List.perm_middle
        rw [← hTi] at h6; exact h6
      refine (h5.cons x).trans ((List.Perm.swap _ _ _).trans (List.Perm.cons _ ?_))
      exact (List.perm_middle (a := x)).symm
    by_cases hup : 0 < i ∧ lt (nth (T.set i x) i) (nth (T.set i x) ((i - 1) / 2)) = true
    · have key : HeapUp (T.set i x) i := by
        refine ⟨fun k k0 kl kne => ?_, fun k k0 kl kp i0 => over k k0 (by rw [hSl] at kl; exact kl) kp i0⟩
        rw [hSl] at kl
        by_cases e : (k - 1) / 2 = i
        · rw [e]
          exact le_trans (le_of_lt hup.2) (over k k0 kl e hup.1)
        · exact away k k0 kl kne e
      obtain ⟨u1, u2⟩ := upF_ok (T.set i x) i (by rw [hSl]; exact hiT) key
      obtain ⟨d1, d2⟩ := downF_ok (upF (T.set i x) i) i (by rw [upF_length, hSl]; exact hiT) ⟨fun k k0 kl _ => u1 k k0 kl, fun k k0 kl kp i0 => le_trans (u1 i i0 (by omega)) (kp ▸ u1 k k0 kl)⟩
      exact ⟨d1, perm.trans ((d2.trans u2).symm.cons _)⟩
    · have e : upF (T.set i x) i = T.set i x := by unfold upF; rw [dif_neg hup]
      rw [e]
      have key : _ ∧ _ := downF_ok (T.set i x) i (by rw [hSl]; exact hiT) (by
        refine ⟨fun k k0 kl kne => ?_, fun k k0 kl kp i0 => over k k0 (by rw [hSl] at kl; exact kl) kp i0⟩
        · rw [hSl] at kl
          by_cases e : k = i
          · subst e
            exact le_of_not (fun hh => hup ⟨k0, hh⟩)
          · exact away k k0 kl e kne)
      obtain ⟨d1, d2⟩ := key
      exact ⟨d1, perm.trans (d2.symm.cons _)⟩
  · rw [if_neg hlt]
    have e : T.set i x = T := by apply List.set_eq_of_length_le; omega
    have ei : i = H.length - 1 := by omega
    rw [e]
    constructor
    · intro k k0 kl
      rw [hTn _ kl, hTn _ (by omega)]
      exact h k k0 (by omega)
    · rw [ei, hx]
      have h4 : (T ++ [x]).Perm (x :: T) := List.perm_append_comm
      rw [← hlast] at h4; exact h4

/-- at the top the earliest -/
theorem top_min {H : List (Int × Int)} (h : HeapOk H) : ∀ k, k < H.length → le (nth H 0) (nth H k) := by
  intro k
  induction k using Nat.strongRecOn with
  | _ k ih =>
    intro hk
    by_cases k0 : 0 < k
    · exact le_trans (ih ((k - 1) / 2) (by omega) (by omega)) (h k k0 hk)
    · have : k = 0 := by omega
      subst this; exact le_refl _

theorem top_mem {H : List (Int × Int)} (h : HeapOk H) : ∀ x ∈ H, le (nth H 0) x := by
  intro x hx
  obtain ⟨k, hk, rfl⟩ := List.mem_iff_getElem.1 hx
  rw [← nth_get H k hk]
  exact top_min h k hk

/-! ### a tick -/
def popF (H : List (Int × Int)) (now : Int) : List Int × List (Int × Int) :=
  if h : 0 < H.length ∧ (nth H 0).2 ≤ now then ((nth H 0).1 :: (popF (remF H 0) now).1, (popF (remF H 0) now).2) else ([], H)
termination_by H.length
decreasing_by all_goals (rw [remF_length]; omega)

/-- what goes off: in order, each once; the others stay -/
theorem popF_ok (H : List (Int × Int)) (now : Int) : HeapOk H → (H.map (·.1)).Nodup →
    ∃ P, (popF H now).1 = P.map (·.1) ∧ P.Pairwise (fun a b => lt a b = true) ∧ (∀ x ∈ P, x.2 ≤ now) ∧ H.Perm (P ++ (popF H now).2) ∧ HeapOk (popF H now).2 ∧ ∀ x ∈ (popF H now).2, now < x.2 := by
  induction H using popF.induct (now := now) with
  | case1 H h ih =>
    intro ho hn
    obtain ⟨r1, r2⟩ := remF_ok ho 0 h.1
    have hn2 : ((nth H 0 :: remF H 0).map (·.1)).Nodup := (r2.map (·.1)).nodup_iff.1 hn
    rw [List.map_cons, List.nodup_cons] at hn2
    obtain ⟨P, p1, p2, p3, p4, p5, p6⟩ := ih r1 hn2.2
    have e : popF H now = ((nth H 0).1 :: (popF (remF H 0) now).1, (popF (remF H 0) now).2) := by rw [popF, dif_pos h]
    rw [e]
    refine ⟨nth H 0 :: P, by rw [p1]; rfl, ?_, ?_, ?_, p5, p6⟩
    · refine List.pairwise_cons.2 ⟨fun x hx => ?_, p2⟩
      have hm : x ∈ remF H 0 := p4.mem_iff.2 (List.mem_append_left _ hx)
      have hm2 : x ∈ H := r2.mem_iff.2 (List.mem_cons_of_mem _ hm)
      refine lt_of_le (top_mem ho x hm2) (fun he => hn2.1 ?_)
      rw [he]; exact List.mem_map_of_mem hm
    · intro x hx
      rcases List.mem_cons.1 hx with rfl | hx
      · exact h.2
      · exact p3 x hx
    · exact r2.trans (p4.cons _)
  | case2 H h =>
    intro ho hn
    have e : popF H now = ([], H) := by rw [popF, dif_neg h]
    rw [e]
    refine ⟨[], rfl, List.Pairwise.nil, by simp, List.Perm.refl _, ho, fun x hx => ?_⟩
    have hl : 0 < H.length := List.length_pos_of_mem hx
    have h1 : ¬ (nth H 0).2 ≤ now := fun hh => h ⟨hl, hh⟩
    have := top_mem ho x hx
    rw [le_iff] at this
    omega

theorem fidx_lt {H : List (Int × Int)} {id : Int} : fidx H id < H.length ↔ ∃ x ∈ H, x.1 = id := by
  unfold fidx
  rw [List.findIdx_lt_length]
  simp
theorem fidx_id {H : List (Int × Int)} {id : Int} (h : fidx H id < H.length) : (nth H (fidx H id)).1 = id := by
  rw [nth_get H _ h]
  have := List.findIdx_getElem (p := fun p : Int × Int => p.1 == id) (xs := H) (w := h)
  exact eq_of_beq this

end Go.Proofs.YtghineciiljeoaaGreatDoor.Clk

end

section
/- A tick; what a good heap of timers does; known. -/
set_option linter.unusedVariables false
set_option linter.unusedSimpArgs false
set_option maxRecDepth 100000
namespace Go.Proofs.YtghineciiljeoaaGreatDoor.Clk
open Go Go.CW Go.RowKit

/-- true, and what was there stays -/
theorem E1_at {w : World} {v : Value} {L : List Int} (h : RdR E1 w v L) {i : Int} (h0 : 0 ≤ i) (h1 : i < L.length) :
    ∃ a, sliceAt v i 1 = some a ∧ w.cell? a = some (.int .i64 (L[i.toNat]'(by omega))) := by
  obtain ⟨a, ha, hc, _⟩ := h.at h0 h1
  have := hc 0 (by decide)
  rw [add_zero] at this
  exact ⟨a, ha, this⟩

theorem slices_Clip_c {w : World} {v : Value} {L : List Int} {R : KV} (hr : RdR E1 w v L) (k : ∀ v', RdR E1 w v' L → v'.ownBlock = v.ownBlock → R v' w) : Go.CW.Spec Tryz.prog 99 #[v] w R := by
  apply slices_Clip_99_wp
  refine ⟨_, hr.len, _, hr.len, ?_⟩
  obtain ⟨a, cap, rfl, h1, h2, h3, h4⟩ := hr
  have h0 : (0 : Int) ≤ (L.length : Int) := by omega
  refine ⟨.slice a L.length L.length, ?_, k _ ⟨a, L.length, rfl, by simp, by omega, fun h => by have := h3 h; omega, h4⟩ (by cases a <;> rfl)⟩
  have e : (L.length : Int) ≤ cap := by omega
  simp only [subSlice, boundsOf, boundOf, h0, e, and_self, if_true, Int.toNat_natCast, Int.le_refl, Nat.sub_zero]
  split
  · rfl
  · cases a <;> simp [add_zero]

theorem popF_len (H : List (Int × Int)) (now : Int) : (popF H now).1.length ≤ H.length := by
  induction H using popF.induct (now := now) with
  | case1 H h ih =>
    rw [popF, dif_pos h]
    rw [remF_length] at ih
    simp only [List.length_cons]; omega
  | case2 H h => rw [popF, dif_neg h]; simp

theorem Tick_c {w : World} {b : Nat} {v : Value} {H : List (Int × Int)} {now : Int} {R : KV} (h : TS w b v H now) (hs : H.length ≤ 1000000) (hw : 0 ≤ now ∧ now ≤ 1000000000000)
    (c : ∀ v' vo w', Step (FT b v) w w' (FT b v') → TS w' b v' (popF H (now + 1)).2 (now + 1) → RdR E1 w' vo (popF H (now + 1)).1 → (∀ k, vo.ownBlock = some k → w.heap.size ≤ k ∧ k < w'.heap.size ∧ ¬ FT b v' k) → R vo w') :
    Go.CW.Spec Tryz.prog 33 #[.pointer (some ⟨b, 0, none⟩)] w R := by
  apply timer_Timers_Tick_m_wp
  refine withAddr_some ⟨now, h.c1, withAddr_some ?_⟩
  rw [wi64_id (n := now + 1) (by omega) (by omega)]
  obtain ⟨s1, t1⟩ := h.setNow (now + 1)
  have st1 : Step (FT b v) w (w.setCell (Addr.add ⟨b, 0, none⟩ 1) (.int .i64 (now + 1))) (FT b v) := Step.setA w _ _ (.inl (add_block _ _))
  generalize w.setCell (Addr.add ⟨b, 0, none⟩ 1) (.int .i64 (now + 1)) = w1 at *
  generalize now + 1 = n1 at *
  refine ⟨s1, fun (vo : Value) (ww : World) => ∃ v' H' out, Step (FT b v) w ww (FT b v') ∧ TS ww b v' H' n1 ∧ OwnR E1 ww 0 tI vo out ∧ (∀ k, vo.ownBlock = some k → w.heap.size ≤ k ∧ ¬ FT b v' k) ∧
      H'.length ≤ H.length ∧ out.length + H'.length ≤ H.length ∧ out ++ (popF H' n1).1 = (popF H n1).1 ∧ (popF H' n1).2 = (popF H n1).2,
    fun (vo : Value) (ww : World) => H.length - (sliceLen vo).getD 0, ?_, ?_⟩
  · exact ⟨v, H, [], st1, t1, OwnR.nil _ _ _, (fun k hk => by cases hk), Nat.le_refl _, by simp, rfl, rfl⟩
  dsimp only [allR, mapR2, eqN, ltN]
  rintro m vo ww ⟨⟨v', H', out, st, t, o, hne, hl, hl2, e1, e2⟩, hm⟩
  have hlen := o.rd.len
  rw [hlen] at hm
  simp only [Option.getD_some] at hm
  refine JoinP.bool (fun b6 w' => w' = World.drew ww ∧ b6 = decide (0 < H'.length ∧ (nth H' 0).2 ≤ n1)) (fun j hj => ?_) ?_
  · have td := t.grow (Grow.dr (Grow.refl ww))
    refine withAddr_some ⟨_, td.c0, _, td.row.rd.len, cond_intro (fun hp => ?_) (fun hp => hj _ _ ⟨rfl, ?_⟩)⟩
    · simp at hp
      obtain ⟨a, ha, _, _, _, c1, _⟩ := td.put (i := 0) (by omega) (by omega)
      rw [← nth_get _ _ (by omega)] at c1
      refine withAddr_some ⟨_, td.c0, a, ha, _, c1, withAddr_some ⟨_, td.c1, hj _ _ ⟨rfl, ?_⟩⟩⟩
      have hk : 0 < H'.length := by omega
      simp [hk]
    · simp at hp
      subst hp; rfl
  rintro b6 w7 ⟨rfl, rfl⟩
  have gd : Grow ww (World.drew ww) := Grow.dr (Grow.refl ww)
  have td := t.grow gd
  have od := o.grow gd
  refine cond_intro (fun hp => ?_) (fun hp => ?_)
  · simp only [decide_eq_true_eq] at hp
    obtain ⟨a, ha, _, _, c0, _, _⟩ := td.put (i := 0) (by omega) (by omega)
    rw [← nth_get _ _ (by omega)] at c0
    refine withAddr_some ⟨_, td.c0, a, ha, _, c0, ?_⟩
    have ga : Grow (World.drew ww) _ := Grow.al (Grow.refl (World.drew ww)) (.cells #[.int .i64 (nth H' 0).1] tI)
    obtain ⟨v12, w13, h12, o12, n12⟩ := app_ownR tyI (od.grow ga) (OwnR.lit (E := E1) (World.drew ww) (Nat.le_refl _) tI [(nth H' 0).1] 1 rfl (by simp [maxLen])).rd (by simp; omega) (Nat.zero_le _)
    refine ⟨v12, w13, h12, ?_⟩
    have ta := td.grow ga
    -- the timers are not touched by the append
    have hdis : ∀ k, FT b v' k → vo.ownBlock ≠ some k := fun k hk he => (hne k he).2 hk
    have t13 : TS w13 b v' H' n1 := ta.stable fun k hk => n12.by_.block k (ta.lt k hk) (fun e => hdis k hk e.symm)
    have st13 : Step (fun k => FT b v' k ∨ vo.ownBlock = some k) ww w13 (fun k => FT b v' k ∨ v12.ownBlock = some k) := by
      have s0 : Step (fun k => FT b v' k ∨ vo.ownBlock = some k) ww _ (fun k => FT b v' k ∨ vo.ownBlock = some k) := Step.of_grow (gd.then ga)
      refine (s0.then (Step.of_own n12 (fun k hk => .inr hk))).imp (fun k h => h) (fun k hk => ?_)
      rcases hk with hk | hk
      · exact .inl (.inl hk)
      · rcases n12.at_ with e | e
        · exact .inl (.inr (e ▸ hk))
        · exact .inr (Nat.le_trans (gd.then ga).size (e k hk))
    have hbig : ∀ k, v12.ownBlock = some k → w.heap.size ≤ k ∧ ¬ FT b v' k := by
      intro k hk
      rcases n12.at_ with e | e
      · exact hne k (e ▸ hk)
      · have h1 := e k hk
        have h2 : w.heap.size ≤ ww.heap.size := st.size
        have h3 := (gd.then ga).size
        refine ⟨by omega, fun hf => ?_⟩
        have := t.lt k hf
        omega
    refine remove_c t13 ⟨by omega, by omega⟩ (by omega) fun v'' w15 st15 t15 => ⟨rfl, ?_⟩
    have hpop : popF H' n1 = ((nth H' 0).1 :: (popF (remF H' 0) n1).1, (popF (remF H' 0) n1).2) := by rw [popF, dif_pos hp]
    rw [hpop] at e1 e2
    have o15 : OwnR E1 w15 0 tI v12 (out ++ [(nth H' 0).1]) := o12.stable fun k hk => st15.block k (o12.lt k hk).2 (hbig k hk).2
    refine ⟨⟨v'', remF H' 0, out ++ [(nth H' 0).1], ?_, t15, o15, fun k hk => ⟨(hbig k hk).1, fun hf => ?_⟩, ?_, ?_, ?_, ?_⟩, ?_⟩
    · -- from w: only the timers' own blocks and new ones
      refine ⟨st15.os.trans (st13.os.trans st.os), st15.tape.trans (st13.tape.trans st.tape), st15.output.trans (st13.output.trans st.output), Nat.le_trans st.size (Nat.le_trans st13.size st15.size), fun k hk hs => ?_, fun k hk => ?_⟩
      · have hnf : ¬ FT b v' k := fun hf => by
          rcases st.fp k hf with h | h
          · exact hs h
          · omega
        have hno : ¬ vo.ownBlock = some k := fun he => by have := (hne k he).1; omega
        have k1 := st.block k hk hs
        have k2 := st13.block k (Nat.lt_of_lt_of_le hk st.size) (fun h => h.elim hnf hno)
        have k3 := st15.block k (Nat.lt_of_lt_of_le hk (Nat.le_trans st.size st13.size)) hnf
        exact k3.trans (k2.trans k1)
      · rcases st15.fp k hk with h | h
        · exact st.fp k h
        · exact .inr (Nat.le_trans (Nat.le_trans st.size st13.size) h)
    · rcases st15.fp k hf with h | h
      · exact (hbig k hk).2 h
      · have := (o12.lt k hk).2
        omega
    · rw [remF_length]; omega
    · rw [remF_length, List.length_append]; simp; omega
    · rw [List.append_assoc]; exact e1
    · exact e2
    · rw [o15.rd.len]; simp; omega
  · simp only [decide_eq_false_iff_not] at hp
    have hpop : popF H' n1 = ([], H') := by rw [popF, dif_neg hp]
    rw [hpop] at e1 e2
    simp only [List.append_nil] at e1
    subst e1
    subst e2
    refine slices_Clip_c od.rd fun vz rz ez => c v' vz _ (st.then (Step.of_grow gd)) td rz (fun k hk => ⟨(hne k (ez ▸ hk)).1, (od.lt k (ez ▸ hk)).2, (hne k (ez ▸ hk)).2⟩)

/-! ### a good heap -/
structure Good (H : List (Int × Int)) (now : Int) : Prop where
  ok : HeapOk H
  nd : (H.map (·.1)).Nodup
  ahead : ∀ x ∈ H, now < x.2

theorem Good.nil (now : Int) : Good [] now := ⟨fun k k0 kl => by simp at kl, by simp, by simp⟩
theorem Good.of_perm {H H' : List (Int × Int)} {now : Int} (h : Good H now) (ho : HeapOk H') (p : H'.Perm H) : Good H' now :=
  ⟨ho, (p.map (·.1)).nodup_iff.2 h.nd, fun x hx => h.ahead x (p.mem_iff.1 hx)⟩
theorem inj_fst : ∀ {H : List (Int × Int)}, (H.map (·.1)).Nodup → ∀ {x y : Int × Int}, x ∈ H → y ∈ H → x.1 = y.1 → x = y
  | [], _, x, y, hx, _, _ => by cases hx
  | z :: H, h, x, y, hx, hy, e => by
    rw [List.map_cons, List.nodup_cons] at h
    rcases List.mem_cons.1 hx with h1 | h1
    · rcases List.mem_cons.1 hy with h2 | h2
      · rw [h1, h2]
      · refine absurd ?_ h.1
        rw [← h1, e]; exact List.mem_map_of_mem h2
    · rcases List.mem_cons.1 hy with h2 | h2
      · refine absurd ?_ h.1
        rw [← h2, ← e]; exact List.mem_map_of_mem h1
      · exact inj_fst h.2 h1 h2 e
theorem Good.uniq {H : List (Int × Int)} {now : Int} (h : Good H now) {x y : Int × Int} (hx : x ∈ H) (hy : y ∈ H) (e : x.1 = y.1) : x = y := inj_fst h.nd hx hy e

/-- without the one of an id -/
abbrev sans (H : List (Int × Int)) (id : Int) : List (Int × Int) := H.filter (fun x => x.1 != id)

theorem sans_of_none {H : List (Int × Int)} {id : Int} (h : ¬ fidx H id < H.length) : sans H id = H := by
  rw [fidx_lt] at h
  apply List.filter_eq_self.2
  intro x hx
  simp only [bne_iff_ne, ne_eq]
  exact fun e => h ⟨x, hx, e⟩

theorem Good.rem {H : List (Int × Int)} {now id : Int} (h : Good H now) (hf : fidx H id < H.length) : Good (remF H (fidx H id)) now ∧ (remF H (fidx H id)).Perm (sans H id) := by
  obtain ⟨r1, r2⟩ := remF_ok h.ok _ hf
  have hid := fidx_id hf
  generalize nth H (fidx H id) = x at *
  generalize remF H (fidx H id) = T at *
  have hn2 : ((x :: T).map (·.1)).Nodup := (r2.map (·.1)).nodup_iff.1 h.nd
  rw [List.map_cons, List.nodup_cons] at hn2
  refine ⟨⟨r1, hn2.2, fun y hy => h.ahead y (r2.mem_iff.2 (List.mem_cons_of_mem _ hy))⟩, ?_⟩
  have h1 := r2.filter (fun x => x.1 != id)
  have h2 : (x :: T).filter (fun x => x.1 != id) = T := by
    rw [List.filter_cons_of_neg (by simp [hid])]
    apply List.filter_eq_self.2
    intro y hy
    simp only [bne_iff_ne, ne_eq]
    intro e
    exact hn2.1 (by rw [hid, ← e]; exact List.mem_map_of_mem hy)
  rw [h2] at h1
  exact h1.symm

theorem Good.add {H : List (Int × Int)} {now id at_ : Int} (h : Good H now) (hn : ¬ fidx H id < H.length) (ha : now < at_) : Good (addF H (id, at_)) now ∧ (addF H (id, at_)).Perm ((id, at_) :: H) := by
  obtain ⟨a1, a2⟩ := addF_ok h.ok (id, at_)
  refine ⟨⟨a1, ?_, fun x hx => ?_⟩, a2⟩
  · refine (a2.map (·.1)).nodup_iff.2 ?_
    rw [List.map_cons, List.nodup_cons]
    refine ⟨fun hm => ?_, h.nd⟩
    obtain ⟨x, hx, e⟩ := List.mem_map.1 hm
    exact hn (fidx_lt.2 ⟨x, hx, e⟩)
  · rcases List.mem_cons.1 (a2.mem_iff.1 hx) with rfl | hx
    · exact ha
    · exact h.ahead x hx

theorem fidx_sans {H T : List (Int × Int)} {id : Int} (p : T.Perm (sans H id)) : ¬ fidx T id < T.length := by
  rw [fidx_lt]
  rintro ⟨x, hx, e⟩
  have := p.mem_iff.1 hx
  simp [e] at this

/-- a timer is set that may be set -/
theorem Good.set {H : List (Int × Int)} {now id n : Int} (h : Good H now) (h1 : 1 ≤ n) (h2 : n ≤ 1073741824) (h3 : fidx H id < H.length ∨ H.length < 256) :
    (setF H now id n).1 = 0 ∧ Good (setF H now id n).2 now ∧ (setF H now id n).2.Perm ((id, now + n) :: sans H id) := by
  have hn : ¬ (n < 1 ∨ n > 1073741824) := by omega
  unfold setF
  rw [if_neg hn]
  by_cases hf : fidx H id < H.length
  · rw [if_pos hf]
    obtain ⟨r1, r2⟩ := h.rem hf
    obtain ⟨a1, a2⟩ := r1.add (fidx_sans r2) (by omega : now < now + n)
    exact ⟨rfl, a1, a2.trans (r2.cons _)⟩
  · rw [if_neg hf, if_neg (by omega)]
    obtain ⟨a1, a2⟩ := h.add hf (by omega : now < now + n)
    rw [sans_of_none hf]
    exact ⟨rfl, a1, a2⟩

/-- a tick: those of it go off, rising; the others stay -/
theorem Good.tick {H : List (Int × Int)} {now : Int} (h : Good H now) :
    Good (popF H (now + 1)).2 (now + 1) ∧ (popF H (now + 1)).1.Pairwise (· < ·) ∧ (∀ id, id ∈ (popF H (now + 1)).1 ↔ (id, now + 1) ∈ H) ∧ (∀ x, x ∈ (popF H (now + 1)).2 ↔ x ∈ H ∧ x.2 ≠ now + 1) ∧
      (popF H (now + 1)).1.length + (popF H (now + 1)).2.length = H.length := by
  obtain ⟨P, p1, p2, p3, p4, p5, p6⟩ := popF_ok H (now + 1) h.ok h.nd
  have hP : ∀ x ∈ P, x.2 = now + 1 := fun x hx => by
    have := h.ahead x (p4.mem_iff.2 (List.mem_append_left _ hx))
    have := p3 x hx
    omega
  have hnd : ((P ++ (popF H (now + 1)).2).map (·.1)).Nodup := (p4.map (·.1)).nodup_iff.1 h.nd
  rw [List.map_append, List.nodup_append] at hnd
  refine ⟨⟨p5, hnd.2.1, p6⟩, ?_, fun id => ?_, fun x => ?_, ?_⟩
  · rw [p1, List.pairwise_map]
    refine List.Pairwise.imp_of_mem (fun {a b} ha hb hab => ?_) p2
    rw [lt_iff] at hab
    have := hP a ha
    have := hP b hb
    omega
  · rw [p1, List.mem_map]
    constructor
    · rintro ⟨x, hx, rfl⟩
      have e := hP x hx
      have : x = (x.1, now + 1) := by rw [← e]
      rw [← this]
      exact p4.mem_iff.2 (List.mem_append_left _ hx)
    · intro hx
      rcases List.mem_append.1 (p4.mem_iff.1 hx) with hm | hm
      · exact ⟨_, hm, rfl⟩
      · have := p6 _ hm
        simp at this
  · constructor
    · intro hx
      have := p6 x hx
      exact ⟨p4.mem_iff.2 (List.mem_append_right _ hx), by omega⟩
    · rintro ⟨hx, hne⟩
      rcases List.mem_append.1 (p4.mem_iff.1 hx) with hm | hm
      · exact absurd (hP x hm) hne
      · exact hm
  · rw [p1, List.length_map, ← List.length_append]
    exact p4.length_eq.symm

theorem perm_single {H : List (Int × Int)} {x : Int × Int} (h : H.Perm [x]) : H = [x] := List.perm_singleton.1 h

/-! ### the timers of a law, from a world on -/
structure TB (w1 ww : World) (b : Nat) (v : Value) (H : List (Int × Int)) (now : Int) : Prop where
  t : TS ww b v H now
  g : Grow w1 ww
  big : ∀ k, FT b v k → w1.heap.size ≤ k

theorem TB.grow {w1 ww w' : World} {b : Nat} {v : Value} {H : List (Int × Int)} {now : Int} (h : TB w1 ww b v H now) (g : Grow ww w') : TB w1 w' b v H now := ⟨h.t.grow g, h.g.then g, h.big⟩
theorem TB.step {w1 ww w' : World} {b : Nat} {v v' : Value} {H H' : List (Int × Int)} {now now' : Int} (h : TB w1 ww b v H now) (st : Step (FT b v) ww w' (FT b v')) (t : TS w' b v' H' now') : TB w1 w' b v' H' now' :=
  ⟨t, h.g.trans (st.to_below h.g.size h.big), fun k hk => (st.fp k hk).elim (h.big k) (fun hh => Nat.le_trans h.g.size hh)⟩
theorem TB.new {w w' : World} (g : Grow w w') (t : TS w' w.heap.size (.slice none 0 0) [] 0) : TB w w' w.heap.size (.slice none 0 0) [] 0 :=
  ⟨t, g, by rintro k (rfl | hk); exact Nat.le_refl _; cases hk⟩

end Go.Proofs.YtghineciiljeoaaGreatDoor.Clk

end
