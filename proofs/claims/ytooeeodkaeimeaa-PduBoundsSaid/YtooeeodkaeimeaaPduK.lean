/- known returns true; the document's Encode of the empty PDU. -/
import Derived.Test.YtooeeodkaeimeaaPduS
import Derived.Test.YtooeeodkaeimeaaRfP
set_option linter.unusedVariables false
set_option linter.unusedSimpArgs false
set_option maxRecDepth 100000
namespace Go.Proofs.Ytooeeodkaeimeaa
open Go Go.CW Go.RowKit Go.Crc

def kp : Pd := { zP with tag := 9 }
def hello : List UInt8 := [104, 101, 108, 108, 111]
theorem kp_fits : PdFits kp := ⟨by decide, by decide, by decide, by decide, by decide, by decide, by decide, by decide, by decide⟩
theorem zP_fits : PdFits zP := ⟨by decide, by decide, by decide, by decide, by decide, by decide, by decide, by decide, by decide⟩
theorem enc_kp : (encP kp hello).length = 64 := by rw [encP_length]; rfl

theorem known_c {w : World} {R : KV} (k : ∀ w', Grow w w' → R (.bool true) w') : Go.CW.Spec Try.prog 5 #[] w R := by
  apply gemellaw7_known_wp
  refine nm fun w0 e0 => ?_
  obtain ⟨w2, h2, g2, r2⟩ := conv_lit (P := Try.prog) (t := tB) (e := tb) (by kernel_rfl) (by kernel_rfl) w hello 5 rfl (by simp [maxLen])
  rw [e0]
  refine ⟨_, w2, h2, oneK_of rfl (Encode_c (p := kp) kp_fits r2 fun v e w4 g4 _ _ k3 => ?_)⟩
  obtain ⟨rv, rfl, nv⟩ := k3 rfl (by decide)
  obtain ⟨q1, q2, q3, q4, q5⟩ := dec_enc kp hello kp_fits rfl (by decide)
  have hl := enc_kp
  refine ⟨_, _, rfl, Decode_c rv (by omega) fun dv w8 g8 r8 n8 => ?_⟩
  have hds : decDs (encP kp hello) = hello := by unfold decDs; rw [if_pos q1, q3]
  rw [hds] at r8
  rw [q1, if_pos rfl, if_pos rfl, q2, q4, hl]
  refine ⟨_, _, _, _, _, _, _, _, _, _, _, _, _, _, _, _, _, _, _, _, _, _, _, _, _, _, _, _, _, rfl, nm fun w38 e38 => ?_⟩
  obtain ⟨b38, g38, _⟩ := alE e38
  clear e38
  refine ⟨b38.row rfl (one_rP (Rd.isOne r8)), nm fun w39 e39 => ?_⟩
  obtain ⟨b39, t39⟩ := rowE b38 e39 rfl
  clear e39
  have g39 : Grow w8 w39 := Below.turn g38 t39 (Nat.le_refl _)
  refine NewReader_c fun w41 g41 h41 => ⟨_, rfl, false, rfl, cond_f rfl ?_⟩
  have rv41 := rv.grow (g8.then (g39.then g41))
  obtain ⟨v44, hs44, hr44, _⟩ := Rd.sub rv41 (lo := none) (hi := some (.int .i64 20)) (l := 0) (r := 20) (fun cap hc => by rw [bounds_ni (by omega) (by simp at hc; omega)]; rfl) (by omega) (by simp; omega)
  have r44 : RdB w41 v44 ((encP kp hello).take 20) := by simpa [RdB, List.map_take] using hr44
  have hl20 : ((encP kp hello).take 20).length = 20 := by rw [List.length_take]; omega
  refine ⟨v44, hs44, Put_c h41 r44 (by rw [hl20]; simp) fun v' w46 g46 h46 => ⟨rfl, ?_⟩⟩
  rw [List.nil_append] at h46
  have f20 : frontE ((encP kp hello).take 20) = 3 := by unfold frontE; rw [if_pos (by omega)]
  have d20 : decE ((encP kp hello).take 20) = 3 := by unfold decE; rw [if_pos (by rw [f20]; decide), f20]
  have n20 : nxB ((encP kp hello).take 20) = (encP kp hello).take 20 ∧ nxE ((encP kp hello).take 20) = 0 := by unfold nxB nxE; rw [d20]; exact ⟨rfl, rfl⟩
  refine Next_c h46 (by omega) fun v'' dv2 w48 g48 h48 r48 n48 => ?_
  rw [n20.1, n20.2] at h48
  rw [d20]
  have gg48 : Grow w39 w48 := (g41.trans g46).trans g48
  refine ⟨_, _, _, _, _, _, _, _, _, _, _, _, _, _, _, _, _, _, _, _, _, _, _, _, _, _, _, _, rfl, nm fun w77 e77 => ?_⟩
  obtain ⟨b77, g77, _⟩ := alE e77
  clear e77
  refine ⟨b77.row rfl (one_rP (Rd.isOne r48)), nm fun w78 e78 => ?_⟩
  obtain ⟨b78, t78⟩ := rowE b77 e78 rfl
  clear e78
  have g78 : Grow w48 w78 := Below.turn g77 t78 (Nat.le_refl _)
  have gg78 := gg48.then g78
  have rv78 := rv.grow (g8.then (g39.then gg78))
  obtain ⟨v79, hs79, hr79, _⟩ := Rd.sub rv78 (lo := some (.int .i64 20)) (hi := none) (l := 20) (r := 64) (fun cap hc => by rw [bounds_in (by omega) (by simp; omega)]; simp [hl]) (by omega) (by simp; omega)
  have r79 : RdB w78 v79 ((encP kp hello).drop 20) := by
    have e : (((encP kp hello).map b8).drop 20).take (64 - 20) = ((encP kp hello).drop 20).map b8 := by rw [List.map_drop, List.take_of_length_le (by simp; omega)]
    rw [e] at hr79; exact hr79
  have hl44 : ((encP kp hello).drop 20).length = 44 := by rw [List.length_drop]; omega
  refine ⟨v79, hs79, Put_c (h48.grow g78) r79 (by omega) fun v3 w81 g81 h81 => ⟨rfl, ?_⟩⟩
  rw [List.take_append_drop] at h81
  refine Next_c h81 (by omega) fun v4 dv3 w83 g83 h83 r83 n83 => ?_
  rw [q1, if_pos rfl, q2]
  have gg83 : Grow w39 w83 := (gg78.trans g81).trans g83
  refine ⟨_, _, _, _, _, _, _, _, _, _, _, _, _, _, _, _, _, _, _, _, _, _, _, _, _, _, _, _, rfl, nm fun w112 e112 => ?_⟩
  obtain ⟨b112, g112, _⟩ := alE e112
  clear e112
  refine ⟨b112.row rfl (one_rP (Rd.isOne r83)), nm fun w113 e113 => ?_⟩
  obtain ⟨b113, t113⟩ := rowE b112 e113 rfl
  clear e113
  have gg113 : Grow w39 w113 := gg83.then (Below.turn g112 t113 (Nat.le_refl _))
  have gW : Grow w w113 := g2.then (g4.then (g8.then (g39.then gg113)))
  refine JoinP.bool (fun b ww => b = true ∧ ww = w113) (fun j hj => ?_) (by rintro b ww ⟨rfl, rfl⟩; exact k _ gW)
  have bp := b39.grow gg113
  refine cond_t (by rfl) ⟨_, RdB.len (rv.grow (g8.then (g39.then gg113))), cond_t (by rw [hl]; rfl) (cond_t (by rfl) ⟨_, bp.cell 4, cond_t (by rfl) ⟨_, bp.cell 26, _, to_text (r8.grow (g39.then gg113)), ?_⟩⟩)⟩
  refine cond_t (by exact (text_beq hello hello).trans (by simp)) (cond_t (by rfl) (cond_t (by rfl) ⟨_, b113.cell 4, cond_t (by rfl) (Known_c ⟨_, rfl, cond_t (by rfl) (Known_c ⟨_, rfl, hj _ _ ⟨rfl, rfl⟩⟩)⟩)⟩))

end Go.Proofs.Ytooeeodkaeimeaa
