/- The laws of the sum: each returns true. -/
import Derived.Test.YthocdclklnpkiaaCrcO
set_option linter.unusedVariables false
set_option linter.unusedSimpArgs false
namespace Go.Proofs.Ythocdclklnpkiaa
open Go Go.CW Go.RowKit Go.Crc

def kn : List UInt8 := [49, 50, 51, 52, 53, 54, 55, 56, 57]

theorem kn_sum : (U (sum kn) == (3808858755 : Int)) = true := by kernel_rfl
theorem nil_sum : (U (sum []) == (0 : Int)) = true := by kernel_rfl

theorem known_c {w : World} {R : KV} (k : ∀ w', Grow w w' → R (.bool true) w') : Go.CW.Spec Try.prog 8 #[] w R := by
  apply gemellaw2_known_wp
  obtain ⟨w0, h0, g0, hl⟩ := conv_lit (P := Try.prog) (t := tB) (e := tb) (by kernel_rfl) (by kernel_rfl) w kn 9 rfl (by simp [maxLen])
  refine ⟨_, w0, h0, ?_⟩
  have ks := kn_sum
  have kl : kn.length = 9 := rfl
  clear h0
  generalize kn = bs at *
  refine crc_Seal_c hl (by omega) fun v2 w3 g3 r3 => ?_
  refine crc_Open_c r3.rd (by rw [sld_length]; omega) fun v4 w5 g5 r5 => ?_
  obtain ⟨e0, e1⟩ := opE_sld bs
  rw [e0]
  rw [e1] at r5
  refine ⟨_, _, rfl, ?_⟩
  have g := (g0.then (g3.then g5)).dr
  have gl := (g3.then g5).dr
  refine JoinP.bool (fun b w' => b = true ∧ Grow w w') (fun j hj => ?_) (fun b w' ⟨h, g⟩ => by subst h; exact k _ g)
  refine crc_Sum_c (hl.grow gl) fun w12 g12 => ⟨_, rfl, cond_t ks ?_⟩
  have kn0 := nil_sum
  have kn1 : ([] : List UInt8).length = 0 := rfl
  have kr : RdB w12 (.slice none 0 0) [] := Rd.nil _
  generalize ([] : List UInt8) = es at kr kn0 kn1
  refine crc_Sum_c kr fun w15 g15 => ⟨_, rfl, cond_t kn0 (cond_t (by decide) ?_)⟩
  have ga := g12.then g15
  refine ⟨_, to_text (r5.grow ((Grow.dr (Grow.refl _)).then ga)), _, to_text (hl.grow (gl.then ga)), cond_t (by rw [text_beq]; simp) ?_⟩
  have hb := hl.grow (gl.then ga)
  obtain ⟨v19, h19, r19, _⟩ := hb.sub (lo := none) (hi := some (.int .i64 4)) (l := 0) (r := 4) (fun cap hc => by rw [bounds_ni (by omega) (by rw [List.length_map] at hc; omega)]; rfl) (by omega) (by rw [List.length_map]; omega)
  obtain ⟨v20, h20, r20, _⟩ := hb.sub (lo := some (.int .i64 4)) (hi := none) (l := 4) (r := bs.length) (fun cap hc => by rw [bounds_in (by omega) (by rw [List.length_map]; omega), List.length_map]; rfl) (by omega) (by simp)
  have r19 : RdB w15 v19 (bs.take 4) := by simpa [RdB, List.map_take] using r19
  have r20 : RdB w15 v20 (bs.drop 4) := by
    have e : ((bs.map b8).drop 4).take (bs.length - 4) = (bs.drop 4).map b8 := by
      rw [List.take_of_length_le (by simp), List.map_drop]
    rw [e] at r20; exact r20
  refine ⟨v19, h19, v20, h20, crc_Sum_c r19 fun w22 g22 => ⟨_, rfl, crc_More_c (r20.grow g22) fun w25 g25 => ⟨_, rfl, crc_Sum_c (hb.grow (g22.then g25)) fun w28 g28 => ⟨_, rfl, hj _ _ ⟨?_, ?_⟩⟩⟩⟩⟩
  · rw [sum_append, List.take_append_drop]; exact beq_self_eq_true _
  · exact g.then (ga.then (g22.then (g25.then g28)))

theorem crcBytes_s {w : World} {v : Value} {bs : List UInt8} {cut s : Int} (hr : RdB w v bs) (hc : Fits .i64 cut) (hs : Fits .u32 s) :
    Go.CW.Spec Try.prog 3 #[v, .int .i64 cut, .int .u32 s] w (Law w) := by
  have hc' := hc.i64
  rw [of_U hs]
  generalize BitVec.ofInt 32 s = s
  apply gemellaw2_CrcBytes_wp
  refine known_c fun w1 g1 => ⟨_, rfl, cond_f rfl ?_⟩
  have hr1 := hr.grow g1
  refine JoinP.bool (fun b w' => w' = w1 ∧ (b = false → bs.length ≤ 3000 ∧ 0 ≤ cut ∧ cut ≤ bs.length)) (fun j hj => ?_) ?_
  · refine ⟨_, RdB.len hr1, cond_intro (fun h => hj _ _ ⟨rfl, by simp⟩) (fun h => cond_intro (fun h2 => hj _ _ ⟨rfl, by simp⟩) (fun h2 => ⟨_, RdB.len hr1, hj _ _ ⟨rfl, fun h3 => ?_⟩⟩))⟩
    simp at h h2 h3
    omega
  rintro b w4 ⟨rfl, hb⟩
  refine cond_intro (fun h => ⟨rfl, g1⟩) (fun h => ?_)
  obtain ⟨hl, hc0, hc1⟩ := hb h
  refine crc_Open_c hr1 (by omega) fun v5 w6 g6 r5 => ⟨_, _, rfl, ?_⟩
  refine ref_Open_c (hr1.grow g6) (by omega) fun v9 w10 g10 r9 => ⟨_, _, rfl, ?_⟩
  have g10 := g6.then g10
  have r5 := r5.grow (by assumption : Grow w6 w10)
  refine crc_Seal_c (hr1.grow g10) (by omega) fun v13 w14 g14 r13 => ?_
  refine crc_Open_c r13.rd (by rw [sld_length]; omega) fun v15 w16 g16 r15 => ⟨_, _, rfl, ?_⟩
  obtain ⟨e0, e1⟩ := opE_sld bs
  rw [e1] at r15
  rw [e0]
  have gA := g14.then g16
  refine JoinP.bool (fun b w' => b = true ∧ Grow w4 w') (fun j hj => ?_) (fun b w' ⟨h, g⟩ => by subst h; exact ⟨rfl, g1.then g⟩)
  have gB := (g10.then gA).dr
  have gC : Grow w16 (World.drew w16) := (Grow.refl _).dr
  refine crc_Sum_c (hr1.grow gB) fun w23 g23 => ⟨_, rfl, ?_⟩
  have gB := gB.then g23
  refine ref_Sum_c (hr1.grow gB) ⟨_, rfl, cond_t (beq_self_eq_true _) ?_⟩
  refine crc_More_c (hr1.grow gB) fun w29 g29 => ⟨_, rfl, ?_⟩
  have gB := gB.then g29
  refine ref_More_c (hr1.grow gB) ⟨_, rfl, cond_t (beq_self_eq_true _) ?_⟩
  have hb := hr1.grow gB
  obtain ⟨v19, h19, r19, _⟩ := hb.sub (lo := none) (hi := some (.int .i64 cut)) (l := 0) (r := cut.toNat) (fun cap hc => by rw [List.length_map] at hc; rw [bounds_ni (by omega) (by omega)]) (by omega) (by simp; omega)
  obtain ⟨v20, h20, r20, _⟩ := hb.sub (lo := some (.int .i64 cut)) (hi := none) (l := cut.toNat) (r := bs.length) (fun cap hc => by rw [bounds_in (by omega) (by simp; omega)]; simp) (by omega) (by simp)
  have r19 : RdB w29 v19 (bs.take cut.toNat) := by simpa [RdB, List.map_take] using r19
  have r20 : RdB w29 v20 (bs.drop cut.toNat) := by
    have e : ((bs.map b8).drop cut.toNat).take (bs.length - cut.toNat) = (bs.drop cut.toNat).map b8 := by
      rw [List.take_of_length_le (by simp), List.map_drop]
    rw [e] at r20; exact r20
  refine ⟨v19, h19, v20, h20, crc_Sum_c r19 fun w37 g37 => ⟨_, rfl, crc_More_c (r20.grow g37) fun w40 g40 => ⟨_, rfl, ?_⟩⟩⟩
  have gB := gB.then (g37.then g40)
  refine ref_Sum_c (hr1.grow gB) ⟨_, rfl, cond_t ?_ ?_⟩
  · rw [sum_append, List.take_append_drop]; exact beq_self_eq_true _
  have gD : Grow w16 w40 := gC.then (g23.then (g29.then (g37.then g40)))
  refine ⟨_, to_text (r5.grow (gA.then gD)), _, to_text (r9.grow (gA.then gD)), cond_t (by rw [text_beq]; simp) (cond_t (beq_self_eq_true _) (cond_t (by decide) ?_))⟩
  refine ⟨_, to_text (r15.grow gD), _, to_text (hr1.grow gB), cond_t (by rw [text_beq]; simp) ?_⟩
  refine crc_Seal_c (hr1.grow gB) (by omega) fun v49 w50 g50 r49 => ⟨_, to_text r49.rd, ?_⟩
  have gB := gB.then g50
  refine ref_Seal_c (hr1.grow gB) (by omega) fun v52 w53 g53 r52 => ⟨⟨_, to_text (r49.rd.grow g53), rfl⟩, _, to_text r52, hj _ _ ⟨by rw [text_beq]; simp, gB.then g53⟩⟩

theorem crcCuts_s {w : World} {v : Value} {bs : List UInt8} (hr : RdB w v bs) :
    Go.CW.Spec Try.prog 7 #[v] w (Law w) := by
  apply gemellaw2_CrcCuts_wp
  refine known_c fun w1 g1 => ⟨_, rfl, cond_f rfl ?_⟩
  have hr1 := hr.grow g1
  refine ⟨_, RdB.len hr1, cond_intro (fun h => ⟨rfl, g1⟩) (fun h => ?_)⟩
  have hl : bs.length ≤ 3000 := by simp at h; omega
  refine crc_Seal_c hr1 (by omega) fun v4 w5 g5 r4 => ⟨_, RdB.len (hr1.grow g5), ?_⟩
  refine JoinP.int (fun n w' => w' = w5 ∧ 0 ≤ n ∧ n ≤ 3 ∧ n ≤ bs.length) (fun j hj => ?_) ?_
  · refine cond_intro (fun h => hj _ _ ⟨rfl, by omega, by omega, ?_⟩) (fun h => hj _ _ ⟨rfl, by omega, ?_, by omega⟩)
    · simp at h; omega
    · simp at h; omega
  rintro n w8 ⟨rfl, h0, h3, hn⟩
  have hb := hr1.grow g5
  obtain ⟨v9, h9, r9, _⟩ := hb.sub (lo := none) (hi := some (.int .i64 n)) (l := 0) (r := n.toNat) (fun cap hc => by rw [List.length_map] at hc; rw [bounds_ni (by omega) (by omega)]) (by omega) (by simp; omega)
  have r9 : RdB w8 v9 (bs.take n.toNat) := by simpa [RdB, List.map_take] using r9
  refine ⟨v9, h9, crc_Open_c r9 (by simp; omega) fun v12 w11 g11 r12 => ⟨_, _, rfl, ?_⟩⟩
  have hs : (bs.take n.toNat).length < 4 := by simp; omega
  simp only [opB, opE, hs, if_true] at r12 ⊢
  have g := g1.then (g5.then g11)
  refine JoinP.bool (fun b w' => b = true ∧ Grow w w') (fun j hj => ?_) (fun b w' ⟨h, g⟩ => by subst h; exact ⟨rfl, g⟩)
  have gd : Grow w8 (World.drew w11) := g11.dr
  refine ⟨_, RdB.len r4.rd, _, RdB.len hb, cond_t ?_ ⟨_, RdB.len hb, ?_⟩⟩
  · rw [sld_length, wi64_id (by omega) (by omega)]; simp
  obtain ⟨v20, h20, r20, _⟩ := r4.rd.sub (lo := none) (hi := some (.int .i64 (bs.length : Int))) (l := 0) (r := bs.length) (fun cap hc => by rw [List.length_map, sld_length] at hc; rw [bounds_ni (by omega) (by omega)]; simp) (by omega) (by simp [sld_length])
  have r20 : RdB w8 v20 bs := by
    have e : (((sld bs).map b8).drop 0).take (bs.length - 0) = bs.map b8 := by
      rw [List.drop_zero, Nat.sub_zero, ← List.map_take, sld, List.take_left]
    rw [e] at r20; exact r20
  refine ⟨v20, h20, _, to_text (r20.grow gd), _, to_text (hb.grow gd), cond_t (by rw [text_beq]; simp) (cond_t (by decide) ⟨_, RdB.len r12, hj _ _ ⟨by simp, g.dr⟩⟩)⟩

end Go.Proofs.Ythocdclklnpkiaa
