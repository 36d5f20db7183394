/- The law of keys and holders there and back: it returns true. -/
import Derived.Test.YtpbcdhpajjkldaaLstL
import Derived.Test.YtpbcdhpajjkldaaZer
set_option linter.unusedVariables false
set_option linter.unusedSimpArgs false
namespace Go.Proofs.Ytpbcdhpajjkldaa
open Go Go.CW Go.RowKit

theorem put0_8 : putL 0 8 = List.replicate 8 0 := by decide +kernel

theorem EncodeR_c {w : World} {k o : Int} {R : KV} (c : ∀ v w', Grow w w' → RdB w' v (encB k o) → R v w') : Go.CW.Spec Try.prog 17 #[.int .u64 k, .int .u64 o] w R := by
  apply gemelref6_Encode_wp
  refine gemelref1_Put_c (B := w.heap.size) (bs := []) (Own.nil w _ tb) (Nat.le_refl _) (by simp) fun v1 w1 n1 o1 => ?_
  have g1 : Grow w w1 := n1.below (Nat.le_refl _) (fun k hk => by cases hk)
  refine gemelref1_Put_c o1 g1.size (by simp [put8, putL_length]) fun v2 w2 n2 o2 => ?_
  have g2 : Grow w w2 := g1.trans (n2.below g1.size o1.blk)
  obtain ⟨v4, w5, h4, o4, n4⟩ := app_zeros (P := Try.prog) (tn := 3) (ts := 9) tyB (kn := .i64) (by kernel_rfl) (by kernel_rfl) (by kernel_rfl) o2 8 (by omega) (by simp [put8, putL_length]) g2.size
  refine ⟨v4, w5, h4, c _ _ (g2.trans (grownBy.below n4 g2.size o2.blk)) ?_⟩
  rw [← put0_8] at o4
  exact o4.rd

theorem listBack_s {w : World} {key other gen typ : Int} {v : Value} {l : List Int} (hk : Fits .u64 key) (ho : Fits .u64 other) (hg : Fits .u32 gen) (hl : ∀ x ∈ l, Fits .u64 x) (hr : Rd w v (l.map (Value.int .u64))) (ht : Fits .i64 typ) :
    Go.CW.Spec Try.prog 4 #[.int .u64 key, .int .u64 other, .int .u32 gen, v, .int .i64 typ] w (Law w) := by
  have hk' := hk.u64
  have ho' := ho.u64
  have hg' := hg.u32
  have ht' := ht.i64
  have hru := EU_of hr
  have hl' : ∀ x ∈ l, 0 ≤ x ∧ x < 18446744073709551616 := fun x hx => (hl x hx).u64
  apply gemellaw6_ListBack_wp
  refine known_c fun w1 g1 => ⟨_, rfl, cond_f rfl ?_⟩
  have hr1 := hru.grow g1
  refine ⟨_, hr1.len, cond_intro (fun h => ⟨rfl, g1⟩) (fun h => ?_)⟩
  have hl30 : l.length ≤ 30 := by simp at h; omega
  refine Encode_c fun v4 w5 g5 r4 => Keys_c hg' (hr1.grow g5) fun v6 w7 g7 r6 _ => Holder_c hg' ht fun v8 w9 g9 r8 _ => ?_
  have r4 := r4.grow (g7.then g9)
  have r6 := r6.grow g9
  have g9' := g5.then (g7.then g9)
  refine JoinP.bool (fun b w' => b = false ∧ Grow w9 w') (fun j hj => ?_) ?_
  · have gd := Grow.dr (Grow.refl w9)
    refine ⟨_, to_text (r4.grow gd), EncodeR_c fun v57 w58 g58 r57 => ⟨⟨_, to_text (r4.grow (gd.then g58)), rfl⟩, _, to_text r57, cond_f (by rw [text_beq]; simp) ?_⟩⟩
    have gd := gd.then g58
    refine ⟨_, to_text (r6.grow gd), KeysR_c hg' (hr1.grow (g9'.then gd)) fun v62 w63 g63 r62 => ⟨⟨_, to_text (r6.grow (gd.then g63)), rfl⟩, _, to_text r62, cond_f (by rw [text_beq]; simp) ?_⟩⟩
    have gd := gd.then g63
    refine ⟨_, to_text (r8.grow gd), HolderR_c hg' ht fun v67 w68 g68 r67 => ⟨⟨_, to_text (r8.grow (gd.then g68)), rfl⟩, _, to_text r67, hj _ _ ⟨by rw [text_beq]; simp, gd.then g68⟩⟩⟩
  rintro b w11 ⟨rfl, g11⟩
  refine cond_f rfl ?_
  obtain ⟨d1, d2, d3⟩ := encB_ok hk' ho'
  obtain ⟨k1, k2, k3⟩ := keysB_ok hg' hl'
  obtain ⟨h1, h2, h3, h4⟩ := holdB_ok (t := typ) hg' hk'
  have hlen := keysB_length gen l
  refine Decode_c (r4.grow g11) fun w13 g13 => ?_
  have e9 : dR (encB key other) = rep0 := by unfold dR; rw [if_pos d1]
  rw [d1, d2, d3, e9]
  refine ⟨_, _, _, _, _, _, _, _, rfl, ?_⟩
  have b0 := BK.new w13 rep0 tQ
  have gb : Grow w13 (stRow (w13.alloc (.cells rep0 tQ)) ⟨w13.heap.size, 0, none⟩ rep0) := Below.strow (Grow.al (Grow.refl w13) (.cells rep0 tQ)) (p := ⟨w13.heap.size, 0, none⟩) (Nat.le_refl _) rep0
  refine ⟨b0.row (ds := rep0) rfl rfl, ?_⟩
  generalize hW : stRow (w13.alloc (.cells rep0 tQ)) ⟨w13.heap.size, 0, none⟩ rep0 = W at *
  have e0 : (stRow (w13.alloc (.cells #[.int .i64 0, .int .i64 0, .int .i64 0, .slice none 0 0, .int .i64 0] tQ)) ⟨w13.heap.size, 0, none⟩ #[.int .i64 0, .int .i64 0, .int .i64 0, .slice none 0 0, .int .i64 0]) = W := hW
  rw [e0]
  have gW := g11.then (g13.then gb)
  refine ParseKeys_c (r6.grow gW) (by omega) fun u w23 g23 ru => ⟨_, _, _, rfl, ?_⟩
  rw [k1, k2]
  rw [k3] at ru
  have g23' := gW.then g23
  have hcl := cutK_length l
  refine JoinP.bool (fun b w' => b = false ∧ w' = w23) (fun j hj => ?_) ?_
  · refine cond_f rfl (cond_f (by simp) (cond_f (by simp) (cond_f (by decide) (cond_f (by simp) ⟨_, ru.len, _, hr1.len, cond_intro (fun h5 => ⟨_, hr1.len, ?_⟩) (fun h5 => hj _ _ ⟨rfl, rfl⟩)⟩))))
    have h5 : ¬ ((cutK l).length : Int) = (l.length : Int) := by simpa using h5
    have h16 : 16 < l.length := by omega
    exact cond_f (by simp; omega) ⟨_, ru.len, hj _ _ ⟨by rw [hcl]; simp; omega, rfl⟩⟩
  rintro b w28 ⟨rfl, rfl⟩
  refine cond_f rfl ?_
  refine ⟨fun (i : Int) (ww : World) => 0 ≤ i ∧ i ≤ (cutK l).length ∧ Grow w28 ww, fun (i : Int) (_ : World) => ((cutK l).length - i).toNat, ⟨by omega, by omega, Grow.refl _⟩, ?_⟩
  dsimp only [allR, mapR2, eqN, ltN]
  rintro m i ww ⟨⟨i0, i1, g⟩, hm⟩
  refine ⟨_, ru.len, cond_intro (fun h5 => ?_) (fun h5 => ?_)⟩
  · simp at h5
    have gd := g.dr
    obtain ⟨a1, ha1, hc1⟩ := EU_at (ru.grow gd) i0 h5
    obtain ⟨a2, ha2, hc2⟩ := EU_at (hr1.grow (g9'.then (g23'.then gd))) i0 (by omega)
    have e : (cutK l)[i.toNat]'(by omega) = l[i.toNat]'(by omega) := by simp [cutK]
    rw [e] at hc1
    refine ⟨a1, ha1, _, hc1, a2, ha2, _, hc2, cond_f (by simp) ?_⟩
    rw [wi64_id (n := i + 1) (by omega) (by omega)]
    exact ⟨⟨by omega, by omega, gd⟩, by omega⟩
  · have gf := g23'.then g
    refine ParseHolder_c (r8.grow gf) fun w38 g38 => ⟨_, _, _, _, rfl, ?_⟩
    rw [h1, h2, h3, h4, and15 ht]
    have gend := g1.then (g9'.then (gf.then g38))
    refine cond_intro (fun h6 => ?_) (fun h6 => ?_)
    · have h6 : typ % 16 = 0 := by simpa using h6
      rw [if_pos h6, h6]
      refine JoinP.bool (fun b w' => b = true ∧ w' = w38) (fun j hj => cond_t (by decide) (cond_t (by simp) (cond_t (by decide) (hj _ _ ⟨by decide, rfl⟩)))) (fun b w' ⟨h, e⟩ => ?_)
      subst h; subst e; exact ⟨rfl, gend⟩
    · have h6 : ¬ typ % 16 = 0 := by simpa using h6
      rw [if_neg h6]
      refine JoinP.bool (fun b w' => b = true ∧ w' = w38) (fun j hj => cond_t (by decide) (cond_t (by simp) (cond_t (by simp) (hj _ _ ⟨by simp, rfl⟩)))) (fun b w' ⟨h, e⟩ => ?_)
      subst h; subst e; exact ⟨rfl, gend⟩

end Go.Proofs.Ytpbcdhpajjkldaa
