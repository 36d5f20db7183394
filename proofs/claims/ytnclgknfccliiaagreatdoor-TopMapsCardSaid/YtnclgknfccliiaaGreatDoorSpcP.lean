/- The blocks: what the functions of space do (New, In, part, Write, Unmap, Mapped, Read). -/
import Derived.Test.YtnclgknfccliiaaGreatDoorBitQ
import Derived.Test.YtnclgknfccliiaaGreatDoorPutW
import Derived.Laws.MakeOwn
import Derived.Deep.OwnRows
set_option linter.unusedVariables false
set_option linter.unusedSimpArgs false
set_option maxRecDepth 100000
namespace Go.Proofs.YtnclgknfccliiaaGreatDoor
open Go Go.CW Go.RowKit

theorem JoinP.go {rs : List Rep} {rest : FunR rs} {body : FunR rs → Prop} (h : body rest) : JoinP rs rest body := h

abbrev tSp : TypeId := 105

/-- a space's object, its blocks' bytes, its map -/
structure SpAt (w : World) (b g1 g2 N : Nat) (D M : List UInt8) : Prop where
  obj : BK w b #[.int .i64 (N : Int), rv g1 D.length, rv g2 M.length] tSp
  dat : RB w g1 D
  map : RB w g2 M
  hD : D.length = 8 * N
  hM : M.length = (N + 7) / 8
  pos : 1 ≤ N
  most : N ≤ 1024
  n1 : b ≠ g1
  n2 : b ≠ g2
  n3 : g1 ≠ g2

abbrev FSp (g1 g2 : Nat) : Fp := fun k => k = g1 ∨ k = g2

theorem SpAt.step {w w' : World} {b g1 g2 N : Nat} {D M : List UInt8} {S S' : Fp} (h : SpAt w b g1 g2 N D M) (st : Step S w w' S') (hb : ¬ S b) (h1 : ¬ S g1) (h2 : ¬ S g2) : SpAt w' b g1 g2 N D M :=
  ⟨(st.block b h.obj.lt hb).trans h.obj, h.dat.step st h1, h.map.step st h2, h.hD, h.hM, h.pos, h.most, h.n1, h.n2, h.n3⟩

theorem SpAt.grow {w w' : World} {b g1 g2 N : Nat} {D M : List UInt8} (h : SpAt w b g1 g2 N D M) (g : Grow w w') : SpAt w' b g1 g2 N D M :=
  ⟨h.obj.grow g, BK.grow h.dat g, BK.grow h.map g, h.hD, h.hM, h.pos, h.most, h.n1, h.n2, h.n3⟩

theorem SpAt.mlen {w : World} {b g1 g2 N : Nat} {D M : List UInt8} (h : SpAt w b g1 g2 N D M) : M.length ≤ 128 := by have := h.hM; have := h.most; omega

/-! ### a new row of noughts -/
theorem row_made {t : TypeId} (ht : Tryz.prog.underlying t = some (.slice tb)) {w : World} (n : Nat) (hn : n ≤ 1099511627776) :
    (Instr.makeSlice t (.int .i64 (n : Int)) (.int .i64 (n : Int))).run Tryz.prog w = .ok (rv w.heap.size n) (w.alloc (.cells ((List.replicate n (0 : UInt8)).map b8).toArray tb)) := by
  have h := run_make_row' (P := Tryz.prog) t tb (.int .u8 0) 1 ht (by kernel_rfl) rfl .i64 .i64 n (by omega) (by omega) w
  have e : madeCells #[Value.int .u8 0] n = ((List.replicate n (0 : UInt8)).map b8).toArray := by
    apply Array.ext'
    rw [madeCells_one, List.map_replicate]
    rfl
  rw [e] at h
  exact h

theorem RB.new {w : World} (n : Nat) : RB (w.alloc (.cells ((List.replicate n (0 : UInt8)).map b8).toArray tb)) w.heap.size (List.replicate n 0) := BK.new w _ _

theorem bitsNew_c {w : World} {N : Nat} (h1 : 1 ≤ N) (h2 : N ≤ 1024) {R : KV} (k : R (rv w.heap.size ((N + 7) / 8)) (w.alloc (.cells ((List.replicate ((N + 7) / 8) (0 : UInt8)).map b8).toArray tb))) :
    Go.CW.Spec Tryz.prog 14 #[.int .i64 (N : Int)] w R := by
  apply bits_New_wp
  have e : IntKind.wrap .i64 (Int.tdiv (IntKind.wrap .i64 ((N : Int) + (7 : Int))) (8 : Int)) = (((N + 7) / 8 : Nat) : Int) := by
    rw [wi64_id (n := (N : Int) + 7) (by omega) (by omega), Int.tdiv_eq_ediv_of_nonneg (by omega), wi64_id (by omega) (by omega)]
    omega
  refine JoinP.go (cond_f (by simp; omega) (cond_f (by simp; omega) ?_))
  rw [e]
  exact ⟨_, _, row_made (by kernel_rfl) _ (by omega), k⟩

theorem spaceNew_c {w : World} {N : Nat} (h1 : 1 ≤ N) (h2 : N ≤ 1024) {R : KV}
    (k : ∀ b g1 g2 w', Grow w w' → w.heap.size ≤ b → w.heap.size ≤ g1 → w.heap.size ≤ g2 → SpAt w' b g1 g2 N (List.replicate (8 * N) 0) (List.replicate ((N + 7) / 8) 0) → R (.tuple #[.pointer (some ⟨b, 0, none⟩), .int .i64 (0 : Int)]) w') :
    Go.CW.Spec Tryz.prog 13 #[.int .i64 (N : Int)] w R := by
  apply space_New_wp
  have e : IntKind.wrap .i64 ((N : Int) * (8 : Int)) = ((8 * N : Nat) : Int) := by rw [wi64_id (by omega) (by omega)]; omega
  refine JoinP.go (cond_f (by simp; omega) (cond_f (by simp; omega) (JoinP.go ?_)))
  refine nm fun w6 e6 => nm fun w7 e7 => ?_
  have g7 : Grow w w7 := drE e7
  rw [e]
  have hrep : (List.replicate (8 * N) (0 : UInt8)).length = 8 * N := by simp
  have hrep2 : (List.replicate ((N + 7) / 8) (0 : UInt8)).length = (N + 7) / 8 := by simp
  refine ⟨⟨_, _, row_made (by kernel_rfl) _ (by omega), ?_⟩, ?_⟩
  · refine bitsNew_c h1 h2 ?_
    refine nm fun w12 e12 => nm fun w13 e13 => ?_
    obtain ⟨bk, gr, sz⟩ := alE (e13.trans e12)
    have ga := Grow.al (Grow.refl w7) (.cells ((List.replicate (8 * N) (0 : UInt8)).map b8).toArray tb)
    generalize hwa : w7.alloc (.cells ((List.replicate (8 * N) (0 : UInt8)).map b8).toArray tb) = wa at *
    have r1 : RB wa w7.heap.size (List.replicate (8 * N) 0) := by rw [← hwa]; exact RB.new _
    have s1 : wa.heap.size = w7.heap.size + 1 := by rw [← hwa]; simp
    have gb := Grow.al (Grow.refl wa) (.cells ((List.replicate ((N + 7) / 8) (0 : UInt8)).map b8).toArray tb)
    generalize hwb : wa.alloc (.cells ((List.replicate ((N + 7) / 8) (0 : UInt8)).map b8).toArray tb) = wb at *
    have r2 : RB wb wa.heap.size (List.replicate ((N + 7) / 8) 0) := by rw [← hwb]; exact RB.new _
    have s2 : wb.heap.size = wa.heap.size + 1 := by rw [← hwb]; simp
    have := g7.size
    exact k _ _ _ _ (((g7.then ga).then gb).then gr) (by omega) (by omega) (by omega) ⟨by rw [hrep, hrep2]; exact bk, BK.grow (BK.grow r1 gb) gr, BK.grow r2 gr, hrep, hrep2, h1, h2, by omega, by omega, by omega⟩
  · refine bitsNew_c h1 h2 ⟨_, _, row_made (by kernel_rfl) _ (by omega), ?_⟩
    refine nm fun w12 e12 => nm fun w13 e13 => ?_
    obtain ⟨bk, gr, sz⟩ := alE (e13.trans e12)
    have ga := Grow.al (Grow.refl w7) (.cells ((List.replicate ((N + 7) / 8) (0 : UInt8)).map b8).toArray tb)
    generalize hwa : w7.alloc (.cells ((List.replicate ((N + 7) / 8) (0 : UInt8)).map b8).toArray tb) = wa at *
    have r1 : RB wa w7.heap.size (List.replicate ((N + 7) / 8) 0) := by rw [← hwa]; exact RB.new _
    have s1 : wa.heap.size = w7.heap.size + 1 := by rw [← hwa]; simp
    have gb := Grow.al (Grow.refl wa) (.cells ((List.replicate (8 * N) (0 : UInt8)).map b8).toArray tb)
    generalize hwb : wa.alloc (.cells ((List.replicate (8 * N) (0 : UInt8)).map b8).toArray tb) = wb at *
    have r2 : RB wb wa.heap.size (List.replicate (8 * N) 0) := by rw [← hwb]; exact RB.new _
    have s2 : wb.heap.size = wa.heap.size + 1 := by rw [← hwb]; simp
    have := g7.size
    exact k _ _ _ _ (((g7.then ga).then gb).then gr) (by omega) (by omega) (by omega) ⟨by rw [hrep, hrep2]; exact bk, BK.grow r2 gr, BK.grow (BK.grow r1 gb) gr, hrep, hrep2, h1, h2, by omega, by omega, by omega⟩

/-! ### looks -/
theorem In_c {w : World} {b g1 g2 N : Nat} {D M : List UInt8} (h : SpAt w b g1 g2 N D M) {at_ n : Nat} (ha : at_ ≤ 1000000) {R : KV} (k : R (.bool (decide (n ≤ 32 ∧ at_ + n ≤ N))) w) :
    Go.CW.Spec Tryz.prog 52 #[.pointer (some ⟨b, 0, none⟩), .int .i64 (at_ : Int), .int .i64 (n : Int)] w R := by
  apply space_Space_In_m_wp
  have hN := h.most
  refine JoinP.go (cond_t (by simp) (cond_intro (fun q1 => cond_t (by simp) ?_) (fun q1 => ?_)))
  · simp at q1
    refine withAddr_some ⟨_, by rw [h.obj.cell]; rfl, cond_intro (fun q2 => withAddr_some ⟨_, by rw [h.obj.cell]; rfl, ?_⟩) (fun q2 => ?_)⟩
    · simp at q2
      rw [wi64_id (by omega) (by omega)]
      have e : decide ((n : Int) ≤ (N : Int) - (at_ : Int)) = decide (n ≤ 32 ∧ at_ + n ≤ N) := by rw [decide_eq_decide]; omega
      show R (.bool (decide ((n : Int) ≤ (N : Int) - (at_ : Int)))) w
      rw [e]; exact k
    · simp at q2
      have e : decide (n ≤ 32 ∧ at_ + n ≤ N) = false := by rw [decide_eq_false_iff_not]; omega
      rw [e] at k; exact k
  · simp at q1
    have e : decide (n ≤ 32 ∧ at_ + n ≤ N) = false := by rw [decide_eq_false_iff_not]; omega
    rw [e] at k; exact k

/-- where a part lies -/
def partV (g N at_ n : Nat) : Value := .slice (if 8 * N = 8 * at_ then some ⟨g, 0, none⟩ else some ⟨g, 8 * at_, none⟩) (8 * n) (8 * N - 8 * at_)

theorem part_c {w : World} {b g1 g2 N : Nat} {D M : List UInt8} (h : SpAt w b g1 g2 N D M) {at_ n : Nat} (hn : at_ + n ≤ N) {R : KV} (k : R (partV g1 N at_ n) w) :
    Go.CW.Spec Tryz.prog 53 #[.pointer (some ⟨b, 0, none⟩), .int .i64 (at_ : Int), .int .i64 (n : Int)] w R := by
  apply space_Space_part_m_wp
  have hN := h.most
  refine withAddr_some ⟨rv g1 D.length, by rw [h.obj.cell]; rfl, _, ?_, k⟩
  rw [wi64_id (n := (at_ : Int) * 8) (by omega) (by omega), wi64_id (n := (at_ : Int) + (n : Int)) (by omega) (by omega), wi64_id (n := ((at_ : Int) + (n : Int)) * 8) (by omega) (by omega)]
  have hb : boundsOf D.length D.length (some (.int .i64 ((at_ : Int) * 8))) (some (.int .i64 (((at_ : Int) + (n : Int)) * 8))) none = some (8 * at_, 8 * at_ + 8 * n, D.length) := by
    rw [bounds_ii (by omega) (by omega) (by rw [h.hD]; omega)]
    simp; omega
  simp only [subSlice, hb, partV, Option.map_some, ad0]
  rw [h.hD]
  congr 2
  · split <;> simp
  · omega

theorem part_rd {w : World} {b g1 g2 N : Nat} {D M : List UInt8} (h : SpAt w b g1 g2 N D M) {at_ n : Nat} (hn : at_ + n ≤ N) : RdB w (partV g1 N at_ n) ((D.drop (8 * at_)).take (8 * n)) := by
  have hN := h.most
  have hD := h.hD
  have hl : ((D.drop (8 * at_)).take (8 * n)).length = 8 * n := by simp; omega
  unfold partV
  refine ⟨if 8 * N = 8 * at_ then some ⟨g1, 0, none⟩ else some ⟨g1, 8 * at_, none⟩, 8 * N - 8 * at_, by rw [List.length_map, hl], by rw [List.length_map, hl]; omega, by simp only [maxLen]; omega, fun e => (by split at e <;> cases e), fun j u hj => ?_⟩
  have hjl : j < 8 * n := by have := (List.getElem?_eq_some_iff.1 hj).1; rw [List.length_map, hl] at this; exact this
  rw [if_neg (by omega)]
  refine ⟨_, rfl, ?_⟩
  have e : (Addr.add ⟨g1, 8 * at_, none⟩ j) = ⟨g1, 8 * at_ + j, none⟩ := by
    unfold Addr.add; split
    · next e => subst e; rfl
    · rfl
  rw [e, BK.at h.dat]
  rw [List.getElem?_map, List.getElem?_take, if_pos hjl, List.getElem?_drop] at hj
  simpa using hj

theorem mapped_c {w : World} {b g1 g2 N : Nat} {D M : List UInt8} (h : SpAt w b g1 g2 N D M) {i : Nat} {R : KV} (k : R (.bool (decide (i < N) && has M i)) w) :
    Go.CW.Spec Tryz.prog 21 #[.pointer (some ⟨b, 0, none⟩), .int .i64 (i : Int)] w R := by
  apply space_Space_Mapped_m_wp
  refine JoinP.go (withAddr_some ⟨_, by rw [h.obj.cell]; rfl, cond_intro (fun q => ?_) (fun q => ?_)⟩)
  · simp at q
    refine withAddr_some ⟨_, by rw [h.obj.cell]; rfl, has_c h.map (by have := h.mlen; omega) ⟨_, rfl, ?_⟩⟩
    simpa [q] using k
  · simp at q
    have : ¬ i < N := by omega
    simpa [this] using k

/-! ### turns -/
def layB (D : List UInt8) (o : Nat) (bs : List UInt8) : List UInt8 := D.take o ++ bs ++ D.drop (o + bs.length)
theorem layB_length {D bs : List UInt8} {o : Nat} (h : o + bs.length ≤ D.length) : (layB D o bs).length = D.length := by
  simp [layB]; omega

theorem lay_step {w : World} {g : Nat} {D bs : List UInt8} (h : RB w g D) {o : Nat} (hl : o + bs.length ≤ D.length) :
    RB (w.setCells g o (bs.map b8)) g (layB D o bs) ∧ Only g w (w.setCells g o (bs.map b8)) := by
  refine ⟨?_, ?_⟩
  · have := setCells_set (bs.map b8) o w _ h (by simpa using hl)
    unfold RB
    have e : (((D.map b8).toArray.toList.take o ++ bs.map b8 ++ (D.map b8).toArray.toList.drop (o + (bs.map b8).length))).toArray = ((layB D o bs).map b8).toArray := by
      simp [layB, List.map_take, List.map_drop]
    rw [← e]; exact this
  · exact Step.row (S := fun k => k = g) w ⟨g, o, none⟩ (bs.map b8).toArray rfl

/-- bytes copied into a part -/
theorem copy_part {w : World} {b g1 g2 N : Nat} {D M : List UInt8} (h : SpAt w b g1 g2 N D M) {at_ n : Nat} (hn : at_ + n ≤ N) {v : Value} {bs : List UInt8} (hv : RdB w v bs) {tx : TypeId} :
    ∃ w', (Builtin.copy_ #[tB, tx] 3 #[partV g1 N at_ n, v]).run Tryz.prog w = .ok (.int .i64 ((min (8 * n) bs.length : Nat) : Int)) w' ∧ Only g1 w w' ∧ SpAt w' b g1 g2 N (layB D (8 * at_) (bs.take (8 * n))) M := by
  obtain ⟨a, cap, rfl, q1, q2, q3, q4⟩ := hv
  have hN := h.most
  have hD := h.hD
  rw [List.length_map] at q1 ⊢
  have hu : Tryz.prog.underlying tB = some (.slice tb) := by kernel_rfl
  have hs : (Tryz.prog.info? tb).map (·.size) = some 1 := by kernel_rfl
  by_cases h0 : min (8 * n) bs.length = 0
  · have hr := run_copy_none (P := Tryz.prog) w tB tx 3 tb (if 8 * N = 8 * at_ then some ⟨g1, 0, none⟩ else some ⟨g1, 8 * at_, none⟩) a (8 * n) (8 * N - 8 * at_) bs.length cap hu hs (by show min _ _ = 0; omega)
    refine ⟨w, ?_, Step.refl _ _, ?_⟩
    · rw [h0]; exact hr
    · have hb : bs.take (8 * n) = [] := by
        apply List.eq_nil_of_length_eq_zero; rw [List.length_take]; omega
      rw [hb]
      have : layB D (8 * at_) [] = D := by simp [layB]
      rw [this]; exact h
  · cases a with
    | none => have := q3 rfl; omega
    | some a =>
      have hlt : ¬ (8 * N = 8 * at_) := by omega
      have hcl : (((bs.take (8 * n)).map b8)).length = Nat.min bs.length (8 * n) := by rw [List.length_map, List.length_take]; show min _ _ = min _ _; omega
      have hr := run_copy_cells (P := Tryz.prog) w tB tx 3 tb g1 (8 * at_) (8 * n) (8 * N - 8 * at_) a bs.length cap ((bs.take (8 * n)).map b8) hu hs hcl
        (fun j u hj => by
          rw [List.map_take, List.getElem?_take] at hj
          split at hj
          · obtain ⟨x, hx, hc⟩ := q4 j u hj; cases hx; exact hc
          · cases hj)
        (fun j hj => by
          have hj' : j < 8 * n := by rw [List.length_map, List.length_take] at hj; omega
          rw [BK.at h.dat]; simp; omega)
        (fun j _ => BK.thaw h.dat _) (fun u hu => by obtain ⟨c, _, rfl⟩ := List.mem_map.1 hu; rfl)
      have hle : 8 * at_ + (bs.take (8 * n)).length ≤ D.length := by rw [List.length_take]; omega
      obtain ⟨s1, s2⟩ := lay_step h.dat hle
      refine ⟨_, ?_, s2, ⟨?_, s1, ?_, by rw [layB_length hle]; exact hD, h.hM, h.pos, h.most, h.n1, h.n2, h.n3⟩⟩
      · unfold partV
        rw [if_neg hlt, hr]
        have : (((bs.take (8 * n)).map b8)).length = min (8 * n) bs.length := by rw [List.length_map, List.length_take]
        rw [this]; rfl
      · rw [layB_length hle]
        exact (s2.block b h.obj.lt h.n1).trans h.obj
      · exact h.map.step s2 (fun e => h.n3 e.symm)

theorem SpAt.turned {w w' : World} {b g1 g2 N : Nat} {D M M' : List UInt8} (h : SpAt w b g1 g2 N D M) (st : Only g2 w w') (hm : RB w' g2 M') (hl : M'.length = M.length) : SpAt w' b g1 g2 N D M' :=
  ⟨by rw [hl]; exact (st.block b h.obj.lt h.n2).trans h.obj, h.dat.step st h.n3, hm, h.hD, hl.trans h.hM, h.pos, h.most, h.n1, h.n2, h.n3⟩

theorem set_c {w : World} {g : Nat} {M : List UInt8} (h : RB w g M) (hn : M.length ≤ 1048576) {f n : Nat} (hf : f ≤ 8388608) (hn2 : n ≤ 8388608) {R : KV} (k : ∀ (c : Int) w', Only g w w' → RB w' g (turnM M f n true) → R (.int .i64 c) w') :
    Go.CW.Spec Tryz.prog 16 #[rv g M.length, .int .i64 (f : Int), .int .i64 (n : Int)] w R := by
  apply bits_Map_Set_m_wp
  exact turn_c h hn hf hn2 fun c w' st hr => ⟨_, rfl, k c w' st hr⟩

theorem unset_c {w : World} {g : Nat} {M : List UInt8} (h : RB w g M) (hn : M.length ≤ 1048576) {f n : Nat} (hf : f ≤ 8388608) (hn2 : n ≤ 8388608) {R : KV} (k : ∀ (c : Int) w', Only g w w' → RB w' g (turnM M f n false) → R (.int .i64 c) w') :
    Go.CW.Spec Tryz.prog 18 #[rv g M.length, .int .i64 (f : Int), .int .i64 (n : Int)] w R := by
  apply bits_Map_Unset_m_wp
  exact turn_c h hn hf hn2 fun c w' st hr => ⟨_, rfl, k c w' st hr⟩

theorem Only.two {g1 g2 : Nat} {w w1 w2 : World} (a : Only g1 w w1) (b : Only g2 w1 w2) : Step (FSp g1 g2) w w2 (FSp g1 g2) :=
  (a.imp (T := FSp g1 g2) (T' := FSp g1 g2) (fun k h => .inl h) (fun k h => .inl h)).then (b.imp (T := FSp g1 g2) (T' := FSp g1 g2) (fun k h => .inr h) (fun k h => .inl h))

theorem write_c {w : World} {b g1 g2 N : Nat} {D M : List UInt8} (h : SpAt w b g1 g2 N D M) {at_ n : Nat} {v : Value} {bs : List UInt8} (hv : RdB w v bs) (hl : bs.length = 8 * n) (ha : at_ ≤ 1000000) {R : KV}
    (bad : ¬ (n ≤ 32 ∧ at_ + n ≤ N) → R (.int .i64 (1 : Int)) w)
    (k : n ≤ 32 → at_ + n ≤ N → ∀ w', Step (FSp g1 g2) w w' (FSp g1 g2) → SpAt w' b g1 g2 N (layB D (8 * at_) bs) (turnM M at_ n true) → R (.int .i64 (0 : Int)) w') :
    Go.CW.Spec Tryz.prog 15 #[.pointer (some ⟨b, 0, none⟩), .int .i64 (at_ : Int), v] w R := by
  apply space_Space_Write_m_wp
  have hle := hv.le
  rw [List.length_map] at hle
  have hlen := RdB.len hv
  have e1 : IntKind.wrap .i64 (Int.tdiv ((bs.length : Nat) : Int) (8 : Int)) = (n : Int) := by
    rw [Int.tdiv_eq_ediv_of_nonneg (by omega), wi64_id (by omega) (by omega)]; omega
  refine ⟨_, hlen, ?_⟩
  rw [e1]
  refine JoinP.bool (fun q w' => q = !(decide (n ≤ 32 ∧ at_ + n ≤ N)) ∧ w' = w) (fun j hj => ⟨_, hlen, cond_f ?_ (In_c h ha ⟨_, rfl, hj _ _ ⟨rfl, rfl⟩⟩)⟩) ?_
  · rw [Int.tmod_eq_emod_of_nonneg (by omega)]
    have : ((bs.length : Nat) : Int) % 8 = 0 := by omega
    rw [this]; rfl
  rintro q w' ⟨rfl, rfl⟩
  refine cond_intro (fun hq => bad (fun hc => by rw [decide_eq_true hc] at hq; cases hq)) (fun hq => ?_)
  have hq' : n ≤ 32 ∧ at_ + n ≤ N := by simpa using hq
  refine part_c h hq'.2 ?_
  obtain ⟨w6, hc, st, sp⟩ := copy_part h hq'.2 hv (tx := tB)
  refine ⟨_, w6, hc, withAddr_some ⟨_, by rw [sp.obj.cell]; rfl, ?_⟩⟩
  have hN := h.most
  refine set_c sp.map (by have := sp.mlen; omega) (by omega) (by omega) fun c w10 st2 hm => ⟨_, rfl, ?_⟩
  refine k hq'.1 hq'.2 w10 (st.two st2) ?_
  have ht : bs.take (8 * n) = bs := List.take_of_length_le (by omega)
  rw [ht] at sp
  exact sp.turned st2 hm (turnM_length _ _ _ _)

theorem clear_run {w : World} {g o n cap : Nat} {D : List UInt8} (h : RB w g D) (hl : o + n ≤ D.length) : (Builtin.clear_ #[tB] 0 #[.slice (some ⟨g, o, none⟩) n cap]).run Tryz.prog w = .ok undef (w.setCells g o ((List.replicate n (0 : UInt8)).map b8)) := by
  have hu : Tryz.prog.underlying tB = some (.slice tb) := by kernel_rfl
  have hz : (Tryz.prog.info? tb).bind (·.zero) = some (.int .u8 0) := by kernel_rfl
  obtain ⟨info, hi, hzz⟩ : ∃ info, Tryz.prog.info? tb = some info ∧ info.zero = some (.int .u8 0) := by
    cases hi : Tryz.prog.info? tb with
    | none => rw [hi] at hz; cases hz
    | some info => rw [hi] at hz; exact ⟨info, rfl, hz⟩
  have hst := run_storeCells_cells (P := Tryz.prog) g o ((List.replicate n (0 : UInt8)).map b8) 0 w (fun j hj => by rw [BK.at h]; simp at hj ⊢; omega) (fun j _ => BK.thaw h _) (fun u hu => by obtain ⟨c, _, rfl⟩ := List.mem_map.1 hu; rfl)
  simp only [Nat.add_zero, List.map_replicate] at hst
  have hzc : (Builtin.zeroCells (Value.int .u8 0).cells n).toList = List.replicate n (b8 0) := by
    have := madeCells_one (.int .u8 0) n
    show ((Array.range (n * 1)).map _).toList = _
    rw [Nat.mul_one]
    exact this
  rw [List.map_replicate]
  cases n with
  | zero => simp [Builtin.clear_, run_underlying hu, undef, World.setCells]
  | succ n => simp [Builtin.clear_, run_underlying hu, zeroValue, typeInfo, hi, hzz, hzc, hst, undef]

theorem unmap_c {w : World} {b g1 g2 N : Nat} {D M : List UInt8} (h : SpAt w b g1 g2 N D M) {at_ n : Nat} (ha : at_ ≤ 1000000) {R : KV}
    (bad : ¬ (n ≤ 32 ∧ at_ + n ≤ N) → R (.int .i64 (1 : Int)) w)
    (k : n ≤ 32 → at_ + n ≤ N → ∀ w', Step (FSp g1 g2) w w' (FSp g1 g2) → SpAt w' b g1 g2 N (layB D (8 * at_) (List.replicate (8 * n) 0)) (turnM M at_ n false) → R (.int .i64 (0 : Int)) w') :
    Go.CW.Spec Tryz.prog 17 #[.pointer (some ⟨b, 0, none⟩), .int .i64 (at_ : Int), .int .i64 (n : Int)] w R := by
  apply space_Space_Unmap_m_wp
  refine In_c h ha ⟨_, rfl, cond_intro (fun hq => bad (fun hc => by rw [decide_eq_true hc] at hq; cases hq)) (fun hq => ?_)⟩
  have hq' : n ≤ 32 ∧ at_ + n ≤ N := by simpa using hq
  refine part_c h hq'.2 ?_
  have hN := h.most
  have hD := h.hD
  obtain ⟨w6, hc, st, sp⟩ : ∃ w6, (Builtin.clear_ #[tB] 0 #[partV g1 N at_ n]).run Tryz.prog w = .ok undef w6 ∧ Only g1 w w6 ∧ SpAt w6 b g1 g2 N (layB D (8 * at_) (List.replicate (8 * n) 0)) M := by
    have hle : 8 * at_ + (List.replicate (8 * n) (0 : UInt8)).length ≤ D.length := by simp; omega
    obtain ⟨s1, s2⟩ := lay_step h.dat hle
    by_cases h0 : n = 0
    · subst h0
      refine ⟨w, ?_, Step.refl _ _, ?_⟩
      · unfold partV
        have hu : Tryz.prog.underlying tB = some (.slice tb) := by kernel_rfl
        split <;> simp [Builtin.clear_, run_underlying hu, undef]
      · have : layB D (8 * at_) (List.replicate (8 * 0) 0) = D := by simp [layB]
        rw [this]; exact h
    · refine ⟨_, ?_, s2, ⟨?_, s1, h.map.step s2 (fun e => h.n3 e.symm), by rw [layB_length hle]; exact hD, h.hM, h.pos, h.most, h.n1, h.n2, h.n3⟩⟩
      · unfold partV
        rw [if_neg (by omega)]
        exact clear_run h.dat (by omega)
      · rw [layB_length hle]; exact (s2.block b h.obj.lt h.n1).trans h.obj
  refine ⟨_, w6, hc, withAddr_some ⟨_, by rw [sp.obj.cell]; rfl, ?_⟩⟩
  refine unset_c sp.map (by have := sp.mlen; omega) (by omega) (by omega) fun c w10 st2 hm => ⟨_, rfl, ?_⟩
  exact k hq'.1 hq'.2 w10 (st.two st2) (sp.turned st2 hm (turnM_length _ _ _ _))

end Go.Proofs.YtnclgknfccliiaaGreatDoor
