/- TopMaps: the blocks that are mapped are those of the map beside. -/
import Derived.Test.YtnclgknfccliiaaGreatDoorSpcR
import Derived.Test.YtnclgknfccliiaaGreatDoorKnown
set_option linter.unusedVariables false
set_option linter.unusedSimpArgs false
set_option maxRecDepth 100000
namespace Go.Proofs.YtnclgknfccliiaaGreatDoor
open Go Go.CW Go.RowKit Go.CW.Ex

theorem and63_all : ∀ c : Fin 256, bitsI .and .u8 (c.val : Int) 63 = ((c.val % 64 : Nat) : Int) := by decide +kernel
theorem and63 (c : UInt8) : IntKind.wrap .i64 (bitsI .and .u8 (c.toNat : Int) (63 : Int)) = ((c.toNat % 64 : Nat) : Int) := by
  have := and63_all ⟨c.toNat, c.toNat_lt⟩
  rw [this, wi64_id (by omega) (by omega)]
theorem and7_all : ∀ c : Fin 256, bitsI .and .u8 (c.val : Int) 7 = ((c.val % 8 : Nat) : Int) := by decide +kernel
theorem and7 (c : UInt8) : IntKind.wrap .i64 (bitsI .and .u8 (c.toNat : Int) (7 : Int)) = ((c.toNat % 8 : Nat) : Int) := by
  have := and7_all ⟨c.toNat, c.toNat_lt⟩
  rw [this, wi64_id (by omega) (by omega)]

theorem layB_zero {a o n : Nat} (h : o + n ≤ a) : layB (List.replicate a (0 : UInt8)) o (List.replicate n 0) = List.replicate a 0 := by
  apply List.eq_replicate_iff.2
  refine ⟨by rw [layB_length (by simp; omega)]; simp, fun b hb => ?_⟩
  unfold layB at hb
  simp only [List.mem_append] at hb
  rcases hb with (hb | hb) | hb
  · exact List.eq_of_mem_replicate (List.mem_of_mem_take hb)
  · exact List.eq_of_mem_replicate hb
  · exact List.eq_of_mem_replicate (List.mem_of_mem_drop hb)

theorem under_of {M : List UInt8} {N : Nat} (h : 8 * M.length ≤ N) : Under N M := by
  intro i hi
  unfold has
  rw [decide_eq_false (by omega)]; rfl

theorem zero_of {N : Nat} {M : List UInt8} : Zero0 N (List.replicate (8 * N) 0) M := by
  intro j hj _
  rw [List.getElem?_replicate, if_pos hj]

theorem topMaps_s {W : World} (hE : Env W) {v : Value} {bs : List UInt8} (hv : RdB W v bs) : Go.CW.Spec Tryz.prog 4 #[v] W (Law W) := by
  apply gemeltop_TopMaps_wp
  refine known_c hE fun w1 g1 => ⟨_, rfl, cond_f rfl ⟨_, (hv.grow g1).len, cond_intro (fun _ => ⟨rfl, g1⟩) (fun hb => ?_)⟩⟩
  have hlen : bs.length ≤ 40 := by simp at hb; omega
  refine spaceNew_c (N := 64) (by omega) (by omega) fun b q1 q2 w5 g5 hb1 hq1 hq2 sp => ⟨_, _, rfl, ?_⟩
  refine bitsNew_c (N := 64) (by omega) (by omega) ?_
  have ga := Grow.al (Grow.refl w5) (.cells ((List.replicate ((64 + 7) / 8) (0 : UInt8)).map b8).toArray tb)
  have r9 : RB (w5.alloc (.cells ((List.replicate ((64 + 7) / 8) (0 : UInt8)).map b8).toArray tb)) w5.heap.size (List.replicate ((64 + 7) / 8) 0) := RB.new _
  generalize w5.alloc (.cells ((List.replicate ((64 + 7) / 8) (0 : UInt8)).map b8).toArray tb) = w9 at *
  have sp9 := sp.grow ga
  have g9 : Grow W w9 := (g1.then g5).then ga
  have l1 := sp.obj.lt
  have l2 := sp.dat.lt
  have l3 := sp.map.lt
  have s5 : W.heap.size ≤ w5.heap.size := (g1.then g5).size
  have s1 : W.heap.size ≤ w1.heap.size := g1.size
  generalize hq3 : w5.heap.size = q3 at *
  refine ⟨fun (n11 : Int) (w12 : World) => ∃ (k : Nat) (M : List UInt8), n11 = (k : Int) ∧ k ≤ bs.length + 1 ∧ Grow W w12 ∧ SpAt w12 b q1 q2 64 (List.replicate (8 * 64) 0) M ∧ RB w12 q3 M, fun (n11 : Int) (_ : World) => ((bs.length : Int) + 2 - n11).toNat,
    ⟨0, _, rfl, by omega, g9, sp9, r9⟩, ?_⟩
  dsimp only [allR, mapR2, eqN, ltN]
  rintro m n11 w12 ⟨⟨k, M, rfl, hk, g12, sp12, r12⟩, hm⟩
  have hM : M.length = 8 := sp12.hM
  have ev : rv q3 ((64 + 7) / 8) = rv q3 M.length := by rw [hM]
  rw [ev]
  refine ⟨_, (hv.grow g12).len, ?_⟩
  rw [wi64_id (n := (k : Int) + 1) (by omega) (by omega)]
  refine cond_intro (fun hc => ?_) (fun hc => ?_)
  · have hlt : k + 1 < bs.length := by simp at hc; omega
    refine JoinP.unit (fun w14 => ∃ M', Grow W w14 ∧ SpAt w14 b q1 q2 64 (List.replicate (8 * 64) 0) M' ∧ RB w14 q3 M') (fun j hj => ?_) ?_
    · obtain ⟨a1, ha1, hc1⟩ := RdB.at (hv.grow g12) (i := (k : Int)) (by omega) (by omega)
      obtain ⟨a2, ha2, hc2⟩ := RdB.at (hv.grow g12) (i := ((k : Int) + 1)) (by omega) (by omega)
      refine ⟨a1, ha1, _, hc1, a2, ha2, _, hc2, ?_⟩
      generalize bs[(k : Int).toNat]'_ = c
      generalize bs[((k : Int) + 1).toNat]'_ = d
      rw [and63, and7]
      have hn8 : d.toNat % 8 < 8 := Nat.mod_lt _ (by omega)
      have hn64 : c.toNat % 64 < 64 := Nat.mod_lt _ (by omega)
      generalize d.toNat % 8 = n at *
      generalize c.toNat % 64 = at_ at *
      rw [wi64_id (n := (at_ : Int) + (n : Int)) (by omega) (by omega)]
      refine cond_intro (fun _ => hj _ ⟨M, g12, sp12, r12⟩) (fun hin => ?_)
      have hin' : at_ + n ≤ 64 := by simp at hin; omega
      refine ⟨a1, ha1, _, hc1, cond_intro (fun _ => ?_) (fun _ => ?_)⟩
      · have e8 : IntKind.wrap .i64 ((8 : Int) * (n : Int)) = ((8 * n : Nat) : Int) := by rw [wi64_id (by omega) (by omega)]; omega
        rw [e8]
        refine ⟨_, _, row_made (by kernel_rfl) _ (by omega), ?_⟩
        have gz := Grow.al (Grow.refl w12) (.cells ((List.replicate (8 * n) (0 : UInt8)).map b8).toArray tb)
        have rz : RB (w12.alloc (.cells ((List.replicate (8 * n) (0 : UInt8)).map b8).toArray tb)) w12.heap.size (List.replicate (8 * n) 0) := RB.new _
        generalize w12.alloc (.cells ((List.replicate (8 * n) (0 : UInt8)).map b8).toArray tb) = w23 at *
        have rdz := rz.rd (by simp [maxLen]; omega)
        rw [List.length_replicate] at rdz
        refine write_c (n := n) (sp12.grow gz) rdz (by simp) (by omega) (fun hbad => absurd ⟨by omega, hin'⟩ hbad) fun _ _ w25 st sp25 => ⟨_, rfl, ?_⟩
        have g25 : Grow W w25 := (g12.then gz).trans (st.to_below ((g12.then gz).size) (fun x hx => by rcases hx with rfl | rfl <;> omega))
        have r25 : RB w25 q3 M := RB.step (BK.grow r12 gz) st (fun hx => by rcases hx with e | e <;> omega)
        refine set_c (M := M) (g := q3) (f := at_) (n := n) (by exact r25) (by omega) (by omega) (by omega) fun c' w28 st2 hm2 => ⟨_, rfl, hj _ ⟨turnM M at_ n true, ?_, ?_, hm2⟩⟩
        · exact g25.trans (st2.to_below g25.size (fun x hx => by subst hx; omega))
        · rw [layB_zero (by omega)] at sp25
          exact sp25.step st2 (by omega) (by omega) (by omega)
      · refine unmap_c sp12 (by omega) (fun hbad => absurd ⟨by omega, hin'⟩ hbad) fun _ _ w25 st sp25 => ⟨_, rfl, ?_⟩
        have g25 : Grow W w25 := g12.trans (st.to_below g12.size (fun x hx => by rcases hx with rfl | rfl <;> omega))
        have r25 : RB w25 q3 M := RB.step r12 st (fun hx => by rcases hx with e | e <;> omega)
        refine unset_c (M := M) (g := q3) (f := at_) (n := n) (by exact r25) (by omega) (by omega) (by omega) fun c' w28 st2 hm2 => ⟨_, rfl, hj _ ⟨turnM M at_ n false, ?_, ?_, hm2⟩⟩
        · exact g25.trans (st2.to_below g25.size (fun x hx => by subst hx; omega))
        · rw [layB_zero (by omega)] at sp25
          exact sp25.step st2 (by omega) (by omega) (by omega)
    · rintro w14 ⟨M', g14, sp14, r14⟩
      rw [wi64_id (by omega) (by omega)]
      exact ⟨⟨k + 2, M', by omega, by omega, g14, sp14, r14⟩, by omega⟩
  · have hu : Under 64 M := under_of (by omega)
    refine Encode_c sp12 hu fun v36 w37 g37 r37 => ?_
    refine Decode_c (sp12.grow g37) hu zero_of r37 fun b' p1 p2 w39 g39 hb' hp1 hp2 sp39 => ⟨_, _, rfl, ?_⟩
    refine JoinP.bool (fun q w' => q = false ∧ w' = w39) (fun j hj => cond_f rfl ⟨_, rfl, hj _ _ ⟨rfl, rfl⟩⟩) ?_
    rintro q w43 ⟨rfl, rfl⟩
    have g43 := (g12.then g37).then g39
    have sp43 := (sp12.grow g37).grow g39
    have r43 : RB w43 q3 M := BK.grow (BK.grow r12 g37) g39
    refine cond_f rfl ?_
    refine ⟨fun (n45 : Int) (w46 : World) => ∃ i : Nat, n45 = (i : Int) ∧ i ≤ 64 ∧ w46 = w43, fun (n45 : Int) (_ : World) => ((64 : Int) - n45).toNat, ⟨0, rfl, by omega, rfl⟩, ?_⟩
    dsimp only [allR, mapR2, eqN, ltN]
    rintro m2 n45 w46 ⟨⟨i, rfl, hi, rfl⟩, hm2⟩
    refine cond_intro (fun hc2 => ?_) (fun hc2 => ?_)
    · have hi' : i < 64 := by simp at hc2; omega
      refine JoinP.bool (fun q w' => q = false ∧ w' = w46) (fun j hj => ?_) ?_
      · refine mapped_c sp43 ⟨_, rfl, ?_⟩
        refine has_c (g := q3) (M := M) (by exact r43) (by omega) ⟨_, rfl, cond_f (by simp [hi']) ?_⟩
        refine mapped_c sp39 ⟨_, rfl, has_c (g := q3) (M := M) (by exact r43) (by omega) ⟨_, rfl, hj _ _ ⟨by simp [hi'], rfl⟩⟩⟩
      · rintro q w' ⟨rfl, rfl⟩
        refine cond_f rfl ?_
        rw [wi64_id (by omega) (by omega)]
        exact ⟨⟨i + 1, by omega, by omega, rfl⟩, by omega⟩
    · refine Encode_c sp43 hu fun v62 w63 g63 r63 => ⟨_, r63.len, ?_⟩
      refine count_c (g := q3) (M := M) (by exact BK.grow r43 g63) (by omega) ⟨_, rfl, ?_⟩
      refine ⟨?_, g43.then g63⟩
      have hp := popL_le M
      rw [encS_length sp43 hu, hM, wi64_id (n := (8 : Int) * _) (by omega) (by omega), wi64_id (by omega) (by omega)]
      congr 1
      rw [beq_iff_eq]; omega

end Go.Proofs.YtnclgknfccliiaaGreatDoor
