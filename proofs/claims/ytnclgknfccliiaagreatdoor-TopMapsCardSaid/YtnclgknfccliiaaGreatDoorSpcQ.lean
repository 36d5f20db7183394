/- The blocks' bytes: what Encode writes, Decode reads. -/
import Derived.Test.YtnclgknfccliiaaGreatDoorSpcP
import Derived.Test.YtnclgknfccliiaaGreatDoorBitM
import Derived.Test.YtnclgknfccliiaaGreatDoorGSpd
import Derived.Test.YtnclgknfccliiaaGreatDoorSepX
set_option linter.unusedVariables false
set_option linter.unusedSimpArgs false
set_option maxRecDepth 100000
namespace Go.Proofs.YtnclgknfccliiaaGreatDoor
open Go Go.CW Go.RowKit

theorem Equal_c {w : World} {v u : Value} {bs cs : List UInt8} {R : KV} (hv : RdB w v bs) (hu : RdB w u cs) (k : R (.bool (decide (bs = cs))) w) : Go.CW.Spec Tryz.prog 57 #[v, u] w R := by
  apply bytes_Equal_wp
  refine ⟨_, to_text hv, _, to_text hu, ?_⟩
  rw [text_beq]; exact k

abbrev tM : TypeId := 47
theorem tM_u : Tryz.prog.underlying tM = some (.slice tb) := by kernel_rfl

theorem app_ty (t : TypeId) (a : Option Addr) (n c : Nat) (u : Value) (w : World) : Sem.run Tryz.prog (Builtin.append_ #[tB, tM] t #[.slice a n c, u]) w = Sem.run Tryz.prog (Builtin.append_ #[tB, tB] t #[.slice a n c, u]) w := by
  have hu : Tryz.prog.underlying tB = some (.slice tb) := tyB.und
  simp [Builtin.append_, run_underlying hu, run_underlying tM_u]

theorem RdB.from {w : World} {v : Value} {bs : List UInt8} {n : Nat} (h : RdB w v bs) (hn : n ≤ bs.length) : ∃ v', subSlice v 1 (some (.int .i64 (n : Int))) none none = some v' ∧ RdB w v' (bs.drop n) := by
  obtain ⟨v', h1, h2, _⟩ := Rd.sub h (lo := some (.int .i64 (n : Int))) (hi := none) (l := n) (r := bs.length) (fun cap hc => by rw [bounds_in (by omega) (by simp; omega)]; simp) (by omega) (by simp)
  refine ⟨v', h1, ?_⟩
  have e : List.take (bs.length - n) (List.drop n (bs.map b8)) = (bs.drop n).map b8 := by
    rw [List.take_of_length_le (by simp), List.map_drop]
  rw [e] at h2
  exact h2

/-! ### parts -/
def part (D : List UInt8) (r : Nat × Nat) : List UInt8 := (D.drop (8 * r.1)).take (8 * r.2)
def encS (N : Nat) (D M : List UInt8) : List UInt8 := putL (N : Int) 2 ++ M ++ (runsL M).flatMap (part D)

theorem part_length {N : Nat} {D : List UInt8} (hD : D.length = 8 * N) {r : Nat × Nat} (h : r.1 + r.2 ≤ N) : (part D r).length = 8 * r.2 := by
  simp [part]; omega

theorem parts_length {N : Nat} {D : List UInt8} (hD : D.length = 8 * N) : ∀ {L : List (Nat × Nat)}, (∀ r ∈ L, r.1 + r.2 ≤ N) → (L.flatMap (part D)).length = 8 * (L.map (·.2)).sum
  | [], _ => rfl
  | r :: L, h => by
    rw [List.flatMap_cons, List.length_append, part_length hD (h r (List.mem_cons_self ..)), parts_length hD (fun x hx => h x (List.mem_cons_of_mem _ hx))]
    simp [Nat.mul_add]

theorem sum_take (L : List (Nat × Nat)) (k : Nat) : ((L.take k).map (·.2)).sum ≤ (L.map (·.2)).sum := by
  have : (L.map (·.2)).sum = ((L.take k).map (·.2)).sum + ((L.drop k).map (·.2)).sum := by
    rw [← List.sum_append, ← List.map_append, List.take_append_drop]
  omega

theorem encS_length {w : World} {b g1 g2 N : Nat} {D M : List UInt8} (h : SpAt w b g1 g2 N D M) (hu : Under N M) : (encS N D M).length = 2 + M.length + 8 * popL M := by
  unfold encS
  rw [List.length_append, List.length_append, putL_length, parts_length h.hD (fun r hr => (runsL_le hu r hr).2), runsL_sum]

theorem runs_ld {w : World} {v : Value} {L : List (Nat × Nat)} (h : RdR ER w v L) {k : Nat} (hk : k < L.length) : ∃ a, sliceAt v (k : Int) 2 = some a ∧ ldCells w a 2 #[.int .i64 (L[k].1 : Int), .int .i64 (L[k].2 : Int)] := by
  obtain ⟨a, h1, h2, _⟩ := h.at (i := (k : Int)) (by omega) (by omega)
  exact ⟨a, h1, ldCells_of (vs := ER.enc L[k]) rfl (fun j hj => (h2 j hj).trans (by simp))⟩

theorem Encode_c {w : World} {b g1 g2 N : Nat} {D M : List UInt8} (h : SpAt w b g1 g2 N D M) (hu : Under N M) {R : KV} (k : ∀ v w', Grow w w' → RdB w' v (encS N D M) → R v w') :
    Go.CW.Spec Tryz.prog 20 #[.pointer (some ⟨b, 0, none⟩)] w R := by
  apply space_Space_Encode_m_wp
  have hN := h.most
  have hpos := h.pos
  have hM := h.mlen
  have hMl := h.hM
  refine nm fun w0 e0 => ?_
  have h0 := h.grow (drE e0)
  refine withAddr_some ⟨_, by rw [h0.obj.cell]; rfl, withAddr_some ⟨rv g2 M.length, by rw [h0.obj.cell]; rfl, nm fun w5 e5 => ?_⟩⟩
  have g5 : Grow w w5 := drE e5
  rw [w64_id (by omega) (by omega)]
  refine bin_Put_w (bs := []) (Rd.nil w5) (by simp) ⟨by omega, by omega⟩ fun v6 w7 g7 wr7 f7 nv7 => ?_
  have h7 := (h.grow g5).grow g7
  have g07 : Grow w w7 := g5.then g7
  refine ⟨⟨_, by rw [h7.obj.cell]; rfl, rfl⟩, ?_⟩
  have hr7 : Rd w7 v6 ((putL (N : Int) 2).map b8) := by simpa using wr7.1
  obtain ⟨v9, w10, k1, k2, k3⟩ := app_ful tyB hr7 f7 (h7.map.rd (by simp only [maxLen]; omega)) one_b8 (by intro e; rw [List.map_eq_nil_iff] at e; rw [e] at hMl; simp at hMl; omega) (by simp [putL_length]; omega)
  have h10 := h7.grow k3
  refine ⟨v9, w10, by obtain ⟨a6, c6, rfl, _⟩ := hr7; rw [app_ty]; exact k1, withAddr_some ⟨rv g2 M.length, by rw [h10.obj.cell]; rfl, ?_⟩⟩
  refine runs_c h10.map (by omega) fun v13 w14 g14 r14 t14 => ⟨_, r14.len, ?_⟩
  have h14 := h10.grow g14
  have g014 : Grow w w14 := (g07.then k3).then g14
  have o14 : OwnB w14 w7.heap.size tb v9 (putL (N : Int) 2 ++ M) := by
    have := Own.grow k2 g14
    rw [← List.map_append] at this
    exact this
  generalize hL : runsL M = L at r14
  have g714 : Grow w7 w14 := k3.then g14
  have hin : ∀ r ∈ L, r.1 + r.2 ≤ N := fun r hr => (runsL_le hu r (by rw [hL]; exact hr)).2
  have hsum : (L.map (·.2)).sum ≤ 1024 := by rw [← hL, runsL_sum]; have := popL_le M; omega
  refine ⟨fun (v17 : Value) (n18 : Int) (w19 : World) => ∃ q : Nat, n18 = (q : Int) ∧ q ≤ L.length ∧ Grow w7 w19 ∧ RdR ER w19 v13 L ∧ (∀ x, v13.ownBlock = some x → ∃ cs, BK w19 x cs tR2) ∧ OwnB w19 w7.heap.size tb v17 ((putL (N : Int) 2 ++ M) ++ (L.take q).flatMap (part D)), fun (_ : Value) (n18 : Int) (_ : World) => ((L.length : Int) - n18).toNat,
    ⟨0, rfl, Nat.zero_le _, g714, r14, fun x hx => (t14 x hx).2, by simpa using o14⟩, ?_⟩
  dsimp only [allR, mapR2, eqN, ltN]
  rintro m v17 n18 w19 ⟨⟨q, rfl, hq, g19, r19, t19, o19⟩, hm⟩
  have h19 := h7.grow g19
  refine cond_intro (fun hc => ?_) (fun hc => ?_)
  · have hlt : q < L.length := by simpa using hc
    obtain ⟨a, ha, hld⟩ := runs_ld r19 hlt
    refine ⟨a, ha, _, _, hld, nm fun w23 e23 => ?_⟩
    obtain ⟨bk, gr, sz⟩ := alE e23
    refine ⟨bk.row rfl rfl, nm fun w24 e24 => ?_⟩
    obtain ⟨bk2, tn⟩ := rowE bk e24 rfl
    have g24 : Grow w19 w24 := Below.turn gr tn (Nat.le_refl _)
    have hrin := hin L[q] (List.getElem_mem _)
    refine ⟨⟨by decide, by decide⟩, _, by rw [bk2.cell]; rfl, ⟨by decide, by decide⟩, _, by rw [bk2.cell]; rfl, ?_⟩
    refine part_c (h19.grow g24) hrin ?_
    have sz7 : w7.heap.size ≤ w24.heap.size := Nat.le_trans g19.size g24.size
    have hlen : ((L.take q).flatMap (part D)).length ≤ 8 * 1024 := by
      rw [parts_length h.hD (fun r hr => hin r (List.mem_of_mem_take hr))]
      have := sum_take L q
      omega
    obtain ⟨v29, w30, a1, a2, a3⟩ := app_bytes (Own.grow o19 g24) (part_rd (h19.grow g24) hrin) sz7 (by
      have := part_length h.hD hrin
      unfold part at this
      rw [this]
      simp only [List.length_append, putL_length]; omega)
    refine ⟨v29, w30, a1, ?_⟩
    have hle := r19.le
    rw [wi64_id (by omega) (by omega)]
    refine ⟨⟨q + 1, by omega, by omega, ?_⟩, by omega⟩
    · have st := Step.of_own (S := fun x => v17.ownBlock = some x) a3 (fun _ h => h)
      have hne : ∀ x, v13.ownBlock = some x → ¬ v17.ownBlock = some x := fun x hx => by
        obtain ⟨cs, hb⟩ := t19 x hx
        exact own_ne o19 hb (by decide)
      have hlt : ∀ x, v13.ownBlock = some x → x < w24.heap.size := fun x hx => by
        obtain ⟨cs, hb⟩ := t19 x hx
        exact (hb.grow g24).lt
      refine ⟨(g19.then g24).trans (a3.below sz7 o19.blk), (r19.grow g24).stable fun x hx => st.block x (hlt x hx) (hne x hx), fun x hx => ?_, ?_⟩
      · obtain ⟨cs, hb⟩ := t19 x hx
        exact ⟨cs, (st.block x (hlt x hx) (hne x hx)).trans (hb.grow g24)⟩
      · have e : L.take (q + 1) = L.take q ++ [L[q]] := by rw [List.take_add_one, List.getElem?_eq_getElem (by omega)]; rfl
        rw [e, List.flatMap_append, ← List.append_assoc]
        simpa [part] using a2
  · have hge : q = L.length := by simp at hc; omega
    subst hge
    rw [List.take_length] at o19
    refine slices_Clip_c o19.rd fun v' hr _ => k v' w19 (g07.then g19) ?_
    unfold encS
    rw [hL]; exact hr

end Go.Proofs.YtnclgknfccliiaaGreatDoor
