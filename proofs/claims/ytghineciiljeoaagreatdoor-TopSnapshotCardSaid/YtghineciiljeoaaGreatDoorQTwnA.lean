/- Texts of this seat, one behind the other: SecM, TwnP, TwnQ, TwnR. -/
import Derived.Test.YtghineciiljeoaaGreatDoorQPad
import Derived.Test.YtghineciiljeoaaGreatDoorQExS
import Derived.Test.YtghineciiljeoaaGreatDoorQDskA
import Derived.Test.YtghineciiljeoaaGreatDoorQGUn
set_option linter.unusedSimpArgs false
set_option linter.unusedVariables false
set_option maxRecDepth 100000
namespace Go.Proofs.YtghineciiljeoaaGreatDoor
section
open Go Go.CW Go.RowKit Go.Crc
theorem padS_is {bs : List UInt8} (h0 : 0 < bs.length) (h : bs.length ≤ 508) : padS bs 508 = bs ++ List.replicate (508 - bs.length) 0 := by
 unfold padS padN
 have e : inP 508 = true := rfl
 rw [e, cond_true]
 congr 2
 omega
theorem padS_len {bs : List UInt8} (h0 : 0 < bs.length) (h : bs.length ≤ 508) : (padS bs 508).length = 508 := by
 rw [padS_is h0 h]; simp; omega
def twM : List UInt8 := [84, 87, 73, 78]
def twB (n : Int) (v : List UInt8) : List UInt8 := twM ++ putL n 8 ++ putL (v.length : Int) 2 ++ v
def packT (n : Int) (v : List UInt8) : List UInt8 := sld (padS (twB n v) 508)
theorem twB_len (n : Int) (v : List UInt8) : (twB n v).length = 14 + v.length := by simp [twB, twM, putL_length]; omega
theorem packT_len {n : Int} {v : List UInt8} (h : v.length ≤ 488) : (packT n v).length = 512 := by
 unfold packT
 rw [sld_length, padS_len (by rw [twB_len]; omega) (by rw [twB_len]; omega)]
def valT (s : List UInt8) : Int × List UInt8 := (getV (opB s) 4 8, ((opB s).drop 14).take (getV (opB s) 12 2).toNat)
def unpT (s : List UInt8) : Option (Int × List UInt8) :=
 if s.length = 512 ∧ opE s = 0 ∧ getV (opB s) 12 2 ≤ 488 ∧ packT (valT s).1 (valT s).2 = s then some (valT s) else none
theorem valT_pack {n : Int} {v : List UInt8} (h : v.length ≤ 488) (h0 : 0 ≤ n) (h1 : n < 18446744073709551616) : valT (packT n v) = (n, v) ∧ getV (opB (packT n v)) 12 2 = (v.length : Int) := by
 obtain ⟨_, hB⟩ := opE_sld (padS (twB n v) 508)
 have hb : opB (packT n v) = padS (twB n v) 508 := hB
 have hp : padS (twB n v) 508 = twM ++ putL n 8 ++ putL (v.length : Int) 2 ++ v ++ List.replicate (508 - (twB n v).length) 0 := padS_is (by rw [twB_len]; omega) (by rw [twB_len]; omega)
 generalize List.replicate (508 - (twB n v).length) (0 : UInt8) = z at hp
 have g1 : getV (opB (packT n v)) 4 8 = n := by
  rw [hb, hp]
  have := getV_at (pre := twM) (post := putL (v.length : Int) 2 ++ v ++ z) (x := n) (n := 8) h0 (by omega) (a := 4) rfl
  have e : (n % 256 ^ 8) = n := Int.emod_eq_of_lt h0 (by simpa using h1)
  rw [e] at this
  simpa [List.append_assoc] using this
 have g2 : getV (opB (packT n v)) 12 2 = (v.length : Int) := by
  rw [hb, hp]
  have := getV_at (pre := twM ++ putL n 8) (post := v ++ z) (x := (v.length : Int)) (n := 2) (by omega) (by omega) (a := 12) (by simp [twM, putL_length])
  have e : ((v.length : Int) % 256 ^ 2) = (v.length : Int) := Int.emod_eq_of_lt (by omega) (by omega)
  rw [e] at this
  simpa [List.append_assoc] using this
 refine ⟨?_, g2⟩
 unfold valT
 rw [g1, g2, hb, hp, Int.toNat_natCast]
 congr 1
 have l14 : (twM ++ putL n 8 ++ putL (v.length : Int) 2).length = 14 := by simp [twM, putL_length]
 rw [List.append_assoc (twM ++ putL n 8 ++ putL (v.length : Int) 2), List.drop_left' l14, List.take_left' rfl]
theorem unpT_pack {n : Int} {v : List UInt8} (h : v.length ≤ 488) (h0 : 0 ≤ n) (h1 : n < 18446744073709551616) : unpT (packT n v) = some (n, v) := by
 obtain ⟨a, b⟩ := valT_pack h h0 h1
 unfold unpT
 rw [a, b, if_pos ⟨packT_len h, (opE_sld _).1, by omega, rfl⟩]
def zs : List UInt8 := List.replicate 512 0
def zsum : Nat := Ex.sumE (List.replicate 508 0)
theorem zsum_is : Nat.beq zsum 0 = false := by kernel_rfl
theorem sum_zeros : (Go.Crc.sum (List.replicate 508 (0 : UInt8))).toNat ≠ 0 := by
 have hb : Ex.bytesE (List.replicate 508 0) = true := by kernel_rfl
 have := sumE_ok (List.replicate 508 0) hb
 have e : (List.replicate 508 0).map UInt8.ofNat = List.replicate 508 (0 : UInt8) := by rw [List.map_replicate]; rfl
 rw [e] at this
 rw [← this]
 intro h
 have := zsum_is
 unfold zsum at this
 rw [h] at this
 exact absurd this (by decide)
theorem le4_zero {x : BitVec 32} (h : le4 x = [0, 0, 0, 0]) : x.toNat = 0 := by
 unfold le4 at h
 simp only [List.cons.injEq, and_true] at h
 obtain ⟨h1, h2, h3, h4⟩ := h
 have f : ∀ n : Nat, UInt8.ofNat n = 0 → n % 256 = 0 := fun n hn => by
  have := congrArg UInt8.toNat hn
  simpa using this
 have := f _ h1
 have := f _ h2
 have := f _ h3
 have := f _ h4
 have := x.isLt
 omega
theorem opE_zs : opE zs ≠ 0 := by
 unfold opE
 have hl : zs.length = 512 := by simp [zs]
 have hb : bodyOf zs = List.replicate 508 0 := by
  unfold bodyOf
  rw [hl]; unfold zs; rw [List.take_replicate]; rfl
 have ht : tailOf zs = [0, 0, 0, 0] := by
  unfold tailOf
  rw [hl]; unfold zs; rw [List.drop_replicate]; rfl
 rw [hl, if_neg (by omega), hb, ht, if_neg (fun e => sum_zeros (le4_zero e.symm))]
 decide
theorem unpT_zs : unpT zs = none := by
 unfold unpT
 rw [if_neg (fun h => opE_zs h.2.1)]
def rgM : List UInt8 := [82, 73, 78, 71]
def rgB (n l p m : Int) (v : List UInt8) : List UInt8 := rgM ++ putL n 8 ++ putL l 4 ++ putL p 2 ++ putL m 2 ++ putL (v.length : Int) 2 ++ v
def packR (n l p m : Int) (v : List UInt8) : List UInt8 := sld (padS (rgB n l p m v) 508)
theorem rgB_len (n l p m : Int) (v : List UInt8) : (rgB n l p m v).length = 22 + v.length := by simp [rgB, rgM, putL_length]; omega
theorem packR_len {n l p m : Int} {v : List UInt8} (h : v.length ≤ 480) : (packR n l p m v).length = 512 := by
 unfold packR
 rw [sld_length, padS_len (by rw [rgB_len]; omega) (by rw [rgB_len]; omega)]
theorem getR_pack {n l p m : Int} {v : List UInt8} (h : v.length ≤ 480) (hn : 0 ≤ n ∧ n < 18446744073709551616) (hl : 0 ≤ l ∧ l < 4294967296) (hp : 0 ≤ p ∧ p < 65536) (hm : 0 ≤ m ∧ m < 65536) :
 opB (packR n l p m v) = padS (rgB n l p m v) 508 ∧ getV (opB (packR n l p m v)) 4 8 = n ∧ getV (opB (packR n l p m v)) 12 4 = l ∧ getV (opB (packR n l p m v)) 16 2 = p ∧ getV (opB (packR n l p m v)) 18 2 = m ∧ getV (opB (packR n l p m v)) 20 2 = (v.length : Int) ∧
  ((opB (packR n l p m v)).drop 22).take v.length = v := by
 obtain ⟨_, hB⟩ := opE_sld (padS (rgB n l p m v) 508)
 have hb : opB (packR n l p m v) = padS (rgB n l p m v) 508 := hB
 have hq : padS (rgB n l p m v) 508 = rgM ++ putL n 8 ++ putL l 4 ++ putL p 2 ++ putL m 2 ++ putL (v.length : Int) 2 ++ v ++ List.replicate (508 - (rgB n l p m v).length) 0 := padS_is (by rw [rgB_len]; omega) (by rw [rgB_len]; omega)
 generalize List.replicate (508 - (rgB n l p m v).length) (0 : UInt8) = z at hq
 refine ⟨hb, ?_, ?_, ?_, ?_, ?_, ?_⟩
 · rw [hb, hq]
   have := getV_at (pre := rgM) (post := putL l 4 ++ putL p 2 ++ putL m 2 ++ putL (v.length : Int) 2 ++ v ++ z) (x := n) (n := 8) hn.1 (by omega) (a := 4) rfl
   rw [Int.emod_eq_of_lt hn.1 (by simpa using hn.2)] at this
   simpa [List.append_assoc] using this
 · rw [hb, hq]
   have := getV_at (pre := rgM ++ putL n 8) (post := putL p 2 ++ putL m 2 ++ putL (v.length : Int) 2 ++ v ++ z) (x := l) (n := 4) hl.1 (by omega) (a := 12) (by simp [rgM, putL_length])
   rw [Int.emod_eq_of_lt hl.1 (by simpa using hl.2)] at this
   simpa [List.append_assoc] using this
 · rw [hb, hq]
   have := getV_at (pre := rgM ++ putL n 8 ++ putL l 4) (post := putL m 2 ++ putL (v.length : Int) 2 ++ v ++ z) (x := p) (n := 2) hp.1 (by omega) (a := 16) (by simp [rgM, putL_length])
   rw [Int.emod_eq_of_lt hp.1 (by simpa using hp.2)] at this
   simpa [List.append_assoc] using this
 · rw [hb, hq]
   have := getV_at (pre := rgM ++ putL n 8 ++ putL l 4 ++ putL p 2) (post := putL (v.length : Int) 2 ++ v ++ z) (x := m) (n := 2) hm.1 (by omega) (a := 18) (by simp [rgM, putL_length])
   rw [Int.emod_eq_of_lt hm.1 (by simpa using hm.2)] at this
   simpa [List.append_assoc] using this
 · rw [hb, hq]
   have := getV_at (pre := rgM ++ putL n 8 ++ putL l 4 ++ putL p 2 ++ putL m 2) (post := v ++ z) (x := (v.length : Int)) (n := 2) (by omega) (by omega) (a := 20) (by simp [rgM, putL_length])
   rw [Int.emod_eq_of_lt (by omega) (by omega)] at this
   simpa [List.append_assoc] using this
 · rw [hb, hq]
   have l22 : (rgM ++ putL n 8 ++ putL l 4 ++ putL p 2 ++ putL m 2 ++ putL (v.length : Int) 2).length = 22 := by simp [rgM, putL_length]
   rw [List.append_assoc (rgM ++ putL n 8 ++ putL l 4 ++ putL p 2 ++ putL m 2 ++ putL (v.length : Int) 2), List.drop_left' l22, List.take_left' rfl]
end
section
open Go Go.CW Go.RowKit Go.Crc
variable {w w' : World} {d mb n : Nat} {D : Dk} {S : SF}
section
variable [Av]
end
theorem app_any {v src : Value} {bs cs : List UInt8} (hv : RdB w v bs) (hf : Ful v) (hr : RdB w src cs) (hb : bs.length + cs.length ≤ 1000000000) :
 ∃ v' w', Sem.run Tryz.prog (Builtin.append_ #[tB, tB] tB #[v, src]) w = .ok v' w' ∧ RdB w' v' (bs ++ cs) ∧ Grow w w' := by
 by_cases h0 : cs = []
 · subst h0
   exact ⟨v, w, app_none tyB hv hr, by simpa using hv, Grow.refl w⟩
 · obtain ⟨v', w', h1, h2, h3⟩ := app_ful tyB hv hf hr (fun u hu => by obtain ⟨c, _, rfl⟩ := List.mem_map.1 hu; rfl) (by simpa using h0) (by simp; omega)
   refine ⟨v', w', h1, ?_, h3⟩
   have := h2.rd
   rw [← List.map_append] at this; exact this
section
variable [Av]
end
theorem wr_new {B : Nat} {v : Value} {bs : List UInt8} (h : Wr w B v (bs.map b8)) (hne : bs ≠ []) : ∀ q, v.ownBlock = some q → B ≤ q := by
 intro q hq
 obtain ⟨g', cap, cur, e, hv, hg, _⟩ := h.2 (by simpa using hne)
 rw [hv] at hq; cases hq; exact hg
section
variable [Av]
end
theorem packT_ne {m : Int} {v : List UInt8} (h : v.length ≤ 488) : packT m v ≠ [] := fun e => by
 have := packT_len (n := m) h
 rw [e] at this; simp at this
section
variable [Av]
end
theorem Pack_c {v : Value} {bs : List UInt8} {m : Int} (hr : RdB w v bs) (hl : bs.length ≤ 488) {R : KV} (k : ∀ v' w', Grow w w' → RdB w' v' (packT m bs) → NewV w v' → R (.tuple #[v', .int .i64 (0 : Int)]) w') :
 CW.Spec Tryz.prog 188 #[.int .u64 m, v] w R := by
 apply q123W
 refine ⟨_, RdB.len hr, cond_f (by simp; omega) (nm fun w1 e1 => ?_)⟩
 subst e1
 obtain ⟨w3, h3, g3, r3⟩ := conv_lit (P := Tryz.prog) (t := tB) (e := tb) (by kernel_rfl) (by kernel_rfl) w twM 4 rfl (by simp [maxLen])
 refine ⟨_, w3, h3, bin_Put_w r3 (by simp [twM]) (by omega) fun v4 w5 g5 wr5 f5 n5 => ⟨_, RdB.len (hr.grow (g3.then g5)), ?_⟩⟩
 rw [w64_id (by omega) (by omega)]
 have r4 : RdB w5 v4 (twM ++ putL m 8) := wr5.1
 refine bin_Put_w r4 (by simp [twM, putL_length]) (by omega) fun v7 w8 g8 wr8 f8 n8 => ?_
 have r7 : RdB w8 v7 (twM ++ putL m 8 ++ putL (bs.length : Int) 2) := wr8.1
 have g38 := (g3.then g5).then g8
 obtain ⟨v9, w10, hrun, r9, g10⟩ := app_any r7 f8 (hr.grow g38) (by simp [twM, putL_length]; omega)
 refine ⟨v9, w10, hrun, bin_Pad_c r9 (by simp [twM, putL_length]; omega) fun v11 w12 g12 r11 n11 => crc_Seal_c r11 (by
  have := padS_len (bs := twB m bs) (by rw [twB_len]; omega) (by rw [twB_len]; omega)
  unfold twB at this
  rw [this]; omega) fun v13 w14 g14 wr14 => ?_⟩
 have gg := ((g38.then g10).then g12)
 refine k v13 w14 (gg.then g14) wr14.1 (fun q hq => ?_)
 have := wr_new (bs := packT m bs) wr14 (packT_ne hl) q hq
 exact Nat.le_trans gg.size this
section
variable [Av]
end
theorem bytesEqual_c {v u : Value} {bs cs : List UInt8} (hv : RdB w v bs) (hu : RdB w u cs) {R : KV} (k : R (.bool (decide (bs = cs))) w) : CW.Spec Tryz.prog 134 #[v, u] w R := by
 apply q13W
 refine ⟨_, to_text hv, _, to_text hu, ?_⟩
 rw [text_beq]; exact k
section
variable [Av]
end
theorem getV_u64 {bs : List UInt8} {a k : Int} (h : k.toNat ≤ 8) : 0 ≤ getV bs a k ∧ getV bs a k < 18446744073709551616 := by
 obtain ⟨h1, h2⟩ := getV_range bs a k
 refine ⟨h1, Int.lt_of_lt_of_le h2 ?_⟩
 have := pow256 h
 calc (256 : Int) ^ k.toNat ≤ 256 ^ 8 := this
  _ = 18446744073709551616 := by decide
section
variable [Av]
theorem Unpack_c (hG : GIn w) {v : Value} {s : List UInt8} (hr : RdB w v s) (hl : s.length ≤ 100000) {R : KV}
 (k1 : ∀ m x, unpT s = some (m, x) → 0 ≤ m → m < 18446744073709551616 → ∀ v' w', Grow w w' → RdI w' v' x → NewV w v' → R (.tuple #[.int .u64 m, v', .int .i64 (0 : Int)]) w')
 (k2 : unpT s = none → ∀ (m : Int) (v' : Value) (e : Int) w', Grow w w' → e ≠ 0 → R (.tuple #[.int .u64 m, v', .int .i64 e]) w') :
 CW.Spec Tryz.prog 194 #[v] w R := by
 apply q126W
 refine ⟨_, RdB.len hr, cond_intro (fun h0 => ?_) (fun h0 => ?_)⟩
 · have h0' : s.length ≠ 512 := by simp at h0; omega
   exact k2 (by unfold unpT; rw [if_neg (fun h => h0' h.1)]) _ _ _ w (Grow.refl w) (by decide)
 have h512 : s.length = 512 := by simp at h0; omega
 refine crc_Open_c hr (by omega) fun v3 w2 g2 r3 => ⟨_, _, rfl, cond_intro (fun h1 => ?_) (fun h1 => ?_)⟩
 · have h1' : opE s ≠ 0 := by simpa using h1
   exact k2 (by unfold unpT; rw [if_neg (fun h => h1' h.2.1)]) _ _ _ w2 g2 h1'
 have h1' : opE s = 0 := by simpa using h1
 have hB : (opB s).length = 508 := by
  unfold opE at h1'
  rw [if_neg (by omega)] at h1'
  have ht : tailOf s = le4 (sum (bodyOf s)) := by
   apply Decidable.byContradiction
   intro e; rw [if_neg e] at h1'; exact absurd h1' (by decide)
  unfold opB
  rw [if_neg (by omega), if_pos ht]
  unfold bodyOf
  rw [List.length_take]; omega
 refine bin_Get_c r3 (by decide) (by decide) ⟨_, _, rfl, bin_Get_c r3 (by decide) (by decide) ⟨_, _, rfl, cond_intro (fun h2 => ?_) (fun h2 => ?_)⟩⟩
 · have h2' : ¬ getV (opB s) 12 2 ≤ 488 := by simpa using h2
   exact k2 (by unfold unpT; rw [if_neg (fun h => h2' h.2.2.1)]) _ _ _ w2 g2 (by decide)
 have h2' : getV (opB s) 12 2 ≤ 488 := by simpa using h2
 have hm := getV_u64 (bs := opB s) (a := 4) (k := 8) (by decide)
 have h3 := (getV_range (opB s) 12 2).1
 rw [wi64_id (n := getV (opB s) 12 2) (by omega) (by omega), wi64_id (by omega) (by omega)]
 obtain ⟨v13, hs13, hr13, _⟩ := Rd.sub r3 (lo := some (.int .i64 (14 : Int))) (hi := some (.int .i64 ((14 : Int) + getV (opB s) 12 2))) (l := 14) (r := 14 + (getV (opB s) 12 2).toNat) (fun cap hc => by
  rw [List.length_map] at hc
  rw [bounds_ii (by omega) (by omega) (by omega)]
  congr 2; congr 1; omega) (by omega) (by rw [List.length_map]; omega)
 have r13 : RdB w2 v13 (valT s).2 := by
  have e : 14 + (getV (opB s) 12 2).toNat - 14 = (getV (opB s) 12 2).toNat := by omega
  rw [e, ← List.map_drop, ← List.map_take] at hr13
  exact hr13
 have hx : (valT s).2.length ≤ 488 := by
  unfold valT
  simp only [List.length_take]; omega
 refine ⟨v13, hs13, slices_Clone_c r13 (by omega) fun v14 w15 g15 o15 => slices_Clip_c o15.rd fun v16 r16 e16 => ?_⟩
 have i16 : RdI w15 v16 (valT s).2 := (RdI.own (hG.mono g2.size) o15).same r16 e16
 refine Pack_c r16 hx fun v18 w19 g19 r18 n18 => ⟨_, _, rfl, bytesEqual_c r18 (hr.grow ((g2.then g15).then g19)) ⟨_, rfl, cond_intro (fun h4 => ?_) (fun h4 => ?_)⟩⟩
 · have h4' : packT (valT s).1 (valT s).2 ≠ s := by
    intro e
    have e' : packT (getV (opB s) 4 8) (valT s).2 = s := e
    rw [decide_eq_true e'] at h4; cases h4
   exact k2 (by unfold unpT; rw [if_neg (fun h => h4' h.2.2.2)]) _ _ _ w19 ((g2.then g15).then g19) (by decide)
 · have h4' : packT (valT s).1 (valT s).2 = s := by
    apply Decidable.byContradiction
    intro e
    have e' : ¬ packT (getV (opB s) 4 8) (valT s).2 = s := e
    rw [decide_eq_false e'] at h4; cases h4
   refine k1 (valT s).1 (valT s).2 (by unfold unpT; rw [if_pos ⟨h512, h1', h2', h4'⟩]) hm.1 hm.2 v16 w19 ((g2.then g15).then g19) (i16.grow g19) (fun q hq => ?_)
   rw [e16] at hq
   exact Nat.le_trans g2.size ((Own.blk o15) q hq)
end
end
section
open Go Go.CW Go.RowKit Go.Crc
variable {w w' : World} {d mb n : Nat} {D : Dk} {S : SF}
section
variable [Av]
end
theorem callU_ofT {P : Program} {g : FuncId} {first captured args : Array Value} {w : World} {K : KV} (hb : (P.funcs[g]?).map (fun fn => fn.body.isSome) = some true) (h : CW.Spec P g (app3 first args captured) w K) :
 callU P (.func (.func g) first captured) args w K := by
 unfold callU
 simp only [hb]
 exact h
section
variable [Av]
abbrev tTw : TypeId := 311
structure TwAt (w : World) (t d : Nat) (pos m : Int) (v : Value) (bs : List UInt8) : Prop where
 o : BK w t #[.pointer (some ⟨d, 0, none⟩), .int .i64 pos, .int .u64 m, v] tTw
 v : RdI w v bs
theorem TwAt.grow {t : Nat} {pos m : Int} {v : Value} {bs : List UInt8} (h : TwAt w t d pos m v bs) (g : Grow w w') : TwAt w' t d pos m v bs := ⟨h.o.grow g, h.v.grow g⟩
theorem TwAt.step {t : Nat} {pos m : Int} {v : Value} {bs : List UInt8} {T T' : Fp} (h : TwAt w t d pos m v bs) (st : Step T w w' T') (ht : ¬ T t) (hb : NoT tb w T) : TwAt w' t d pos m v bs := ⟨h.o.stepS st ht, h.v.step st hb⟩
theorem tin_c (h : DL w d mb n D S) {x : Int} (hn : 1 ≤ D.n ∧ D.n ≤ 4294967296) {R : KV} (k : R (.bool (decide (0 ≤ x) && decide (x < D.n - 1))) w) : CW.Spec Tryz.prog 187 #[.pointer (some ⟨d, 0, none⟩), .int .i64 x] w R := by
 apply q127W
 refine JoinP.go (cond_intro (fun e => sectors_c h ⟨_, rfl, ?_⟩) (fun e => ?_))
 · have e' : decide (0 ≤ x) = true := e
   rw [wi64_id (by omega) (by omega)]
   rw [e', Bool.true_and] at k; exact k
 · have e' : decide (0 ≤ x) = false := e
   rw [e', Bool.false_and] at k; exact k
theorem value_c {t : Nat} {pos m : Int} {v : Value} {bs : List UInt8} (h : TwAt w t d pos m v bs) (hl : bs.length ≤ 1000000) {R : KV} (k : ∀ v' w', Grow w w' → RdB w' v' bs → R v' w') : CW.Spec Tryz.prog 107 #[.pointer (some ⟨t, 0, none⟩)] w R := by
 apply q125W
 exact withAddr_some ⟨v, by rw [h.o.cell]; rfl, slices_Clone_c h.v.rd (by omega) fun v2 w3 g3 o3 => slices_Clip_c o3.rd fun v4 r4 _ => k _ _ g3 r4⟩
def fmC (C : Hold) (x : Int) (b : List UInt8) : Nat → Hold
 | 0 => C
 | 1 => wrC C x []
 | 2 => wrC (wrC C x []) (x + 1) b
 | _ => flC (wrC (wrC C x []) (x + 1) b)
theorem Format_l (h : DL w d mb n D S) (ho : D.off = false) (hn : n < 999990) (ha : D.armed = 0) (hpl : D.ps.length ≤ 1000000) {x : Int} (h0 : 0 ≤ x) (h1 : x < D.n - 1) (hx : D.n ≤ 4294967296) {v : Value} {bs : List UInt8} (hv : RdB w v bs) (hl : bs.length ≤ 488) {R : KV}
 (k : ∀ S' w', Step (FD d mb S) w w' (FD d mb S') → DL w' d mb (n + 2) ⟨D.n, false, 0, D.ps⟩ S' → cont S' = flC (wrC (wrC (cont S) x []) (x + 1) (packT 1 bs)) → R (.int .i64 (0 : Int)) w') :
 CW.Spec Tryz.prog 103 #[.pointer (some ⟨d, 0, none⟩), .int .i64 x, v] w R := by
 apply q119W
 refine nm fun w0 e0 => nm fun w1 e1 => ?_
 obtain ⟨b0, g0, s0⟩ := alE e0
 obtain ⟨b1, g1, s1⟩ := alE e1
 have b01 := b0.grow g1
 have g01 := g0.then g1
 have h1' := h.grow g01
 refine ⟨_, b01.at 0, _, b1.at 0, tin_c h1' (by omega) ⟨_, rfl, cond_f (by simp [h0, h1]) ?_⟩⟩
 refine Pack_c (hv.grow g01) hl fun v9 w8 g8 r9 n9 => ⟨_, _, rfl, nm fun w11 e11 => ?_⟩
 obtain ⟨b11, g11, s11⟩ := alE e11
 refine oneK_of (Rd.isOne r9) ⟨b11.st1 (by show 0 < 1; omega), nm fun w12 e12 => cond_f rfl ?_⟩
 have e12' : w12 = World.setCell w11 (Addr.add ⟨w8.heap.size, 0, none⟩ 0) v9 := by rw [ad0]; exact e12
 obtain ⟨b12, t12⟩ := setE b11 e12'
 have g12 : Grow w8 w12 := Below.turn g11 t12 (Nat.le_refl _)
 have b0' := (b01.grow g8).grow g12
 have b1' := (b1.grow g8).grow g12
 have s8 := g8.size
 have sz0 : w.heap.size < w0.heap.size := by omega
 refine ⟨_, b0'.at 0, rfl, rfl, rfl, nm fun w14 e14 => ?_⟩
 obtain ⟨b14, g14, s14⟩ := alE e14
 have gg := ((g01.then g8).then g12).then g14
 have h14 := h.grow gg
 have B0 := b0'.grow g14
 have B1 := b1'.grow g14
 have B8 := b12.grow g14
 have r14 : RdB w14 v9 (packT 1 bs) := by
  have r12 : RdB w12 v9 (packT 1 bs) := r9.grow g12
  exact r12.grow g14
 have hlt := h.kind.lt
 have hpk := packT_len (n := 1) hl
 have hfd : ∀ {Sx : SF} {w2 : World}, Step (FD d mb S) w w2 (FD d mb Sx) → True := fun _ => trivial
 refine ⟨_, rfl, ?_⟩
 refine ⟨fun (i : Int) (w18 : World) => ∃ (j : Nat) (Sx : SF) (nx : Nat), i = (j : Int) ∧ j ≤ 3 ∧ nx ≤ n + 2 ∧ (∀ q, FD d mb Sx q → FD d mb S q ∨ w14.heap.size ≤ q) ∧ Step (FD d mb S) w14 w18 (FD d mb Sx) ∧ DL w18 d mb nx ⟨D.n, false, 0, D.ps⟩ Sx ∧ cont Sx = fmC (cont S) x (packT 1 bs) j ∧ nx ≤ n + j,
  fun (i : Int) (_ : World) => ((3 : Int) - i).toNat, ⟨0, S, n, rfl, by omega, by omega, fun q hq => .inl hq, Step.refl _ _, ?_, rfl, by omega⟩, ?_⟩
 · have := h14
   rw [show D = ⟨D.n, D.off, D.armed, D.ps⟩ from rfl, ho, ha] at this; exact this
 dsimp only [allR, mapR2, eqN, ltN]
 rintro m i w18 ⟨⟨j, Sx, nx, rfl, hj, hnx, hF, st18, h18, hC, hnj⟩, hm⟩
 have hne : ∀ q, FD d mb S q → q < w.heap.size := hlt
 have notF : ∀ q, w.heap.size ≤ q → q < w14.heap.size → ¬ FD d mb Sx q := fun q h1 h2 hq => by
  rcases hF q hq with e | e
  · have := hlt q e; omega
  · omega
 have keep : ∀ {g : Nat} {cs : Array Value} {t : TypeId}, BK w14 g cs t → w.heap.size ≤ g → BK w18 g cs t := fun b hg => b.stepS st18 (fun hq => by have := hlt _ hq; omega)
 have K0 := keep B0 (Nat.le_refl _)
 have K1 := keep B1 (by omega)
 have K8 := keep B8 (by have := g01.size; omega)
 have K12 := keep b14 (by have := g01.size; have := g12.size; omega)
 refine cond_intro (fun hc => ?_) (fun hc => ?_)
 · have hj3 : j < 3 := by have : (j : Int) < 3 := by simpa using hc
                          omega
   have hat : ∃ a, sliceAt (.slice (some ⟨w12.heap.size, 0, none⟩) 3 3) (j : Int) 1 = some a ∧ a = ⟨w12.heap.size, j, none⟩ := by
    refine ⟨_, ?_, rfl⟩
    simp only [sliceAt]
    rw [if_pos (by omega)]
    simp [ad0]
   obtain ⟨a, ha', rfl⟩ := hat
   have done : ∀ (S2 : SF) (w2 : World) (nx2 : Nat), Step (FD d mb Sx) w18 w2 (FD d mb S2) → DL w2 d mb nx2 ⟨D.n, false, 0, D.ps⟩ S2 → nx2 ≤ n + 2 → nx2 ≤ n + (j + 1) → cont S2 = fmC (cont S) x (packT 1 bs) (j + 1) →
    (∃ (j' : Nat) (Sx' : SF) (nx' : Nat), IntKind.wrap .i64 ((j : Int) + (1 : Int)) = (j' : Int) ∧ j' ≤ 3 ∧ nx' ≤ n + 2 ∧ (∀ q, FD d mb Sx' q → FD d mb S q ∨ w14.heap.size ≤ q) ∧ Step (FD d mb S) w14 w2 (FD d mb Sx') ∧ DL w2 d mb nx' ⟨D.n, false, 0, D.ps⟩ Sx' ∧ cont Sx' = fmC (cont S) x (packT 1 bs) j' ∧ nx' ≤ n + j') ∧ ((3 : Int) - IntKind.wrap .i64 ((j : Int) + (1 : Int))).toNat < m := by
    intro S2 w2 nx2 st2 h2 q1 q2 c2
    rw [wi64_id (by omega) (by omega)]
    have hF2 : ∀ q, FD d mb S2 q → FD d mb S q ∨ w14.heap.size ≤ q := fun q hq => by
     rcases st2.fp q hq with e | e
     · exact hF q e
     · exact .inr (Nat.le_trans st18.size e)
    exact ⟨⟨j + 1, S2, nx2, by omega, by omega, q1, hF2, st18.then st2, h2, c2, q2⟩, by omega⟩
   have hx0 : x < D.n := by omega
   have cases3 : j = 0 ∨ j = 1 ∨ j = 2 := by omega
   rcases cases3 with rfl | rfl | rfl
   · have c0 : w18.cell? ⟨w12.heap.size, 0, none⟩ = some (.func (.func 189) #[] #[.pointer (some ⟨w.heap.size, 0, none⟩), .pointer (some ⟨w0.heap.size, 0, none⟩)]) := by rw [K12.at]; rfl
     refine ⟨_, ha', _, c0, callU_ofT (by kernel_rfl) ?_⟩
     show CW.Spec Tryz.prog 189 #[.pointer (some ⟨w.heap.size, 0, none⟩), .pointer (some ⟨w0.heap.size, 0, none⟩)] w18 _
     apply q120W
     refine withAddr_some ⟨_, K0.at 0, withAddr_some ⟨_, K1.at 0, ?_⟩⟩
     refine Write_l h18 rfl (by omega) ⟨Int.le_refl 0, (by show (0 : Int) ≤ 1000000; decide)⟩ hpl h0 hx0 (by omega) (Rd.nil _) (fun e => absurd rfl e) (by simp) (fun _ S2 w2 st2 h2 c2 => ⟨_, rfl, _, rfl, cond_f rfl ?_⟩) (fun e => absurd e (show ¬ (0 : Int) = 1 by decide))
     exact done S2 w2 (nx + 1) st2 h2 (by omega) (by omega) (by rw [c2, hC]; rfl)
   · have c0 : w18.cell? ⟨w12.heap.size, 1, none⟩ = some (.func (.func 191) #[] #[.pointer (some ⟨w.heap.size, 0, none⟩), .pointer (some ⟨w0.heap.size, 0, none⟩), .pointer (some ⟨w8.heap.size, 0, none⟩)]) := by rw [K12.at]; rfl
     refine ⟨_, ha', _, c0, callU_ofT (by kernel_rfl) ?_⟩
     show CW.Spec Tryz.prog 191 #[.pointer (some ⟨w.heap.size, 0, none⟩), .pointer (some ⟨w0.heap.size, 0, none⟩), .pointer (some ⟨w8.heap.size, 0, none⟩)] w18 _
     apply q121W
     have n9' : ∀ q, v9.ownBlock = some q → w.heap.size ≤ q ∧ q < w14.heap.size := fun q hq => ⟨Nat.le_trans g01.size (n9 q hq), Rd.lt r14 (by simpa using packT_ne hl) q hq⟩
     have r18 : RdB w18 v9 (packT 1 bs) := Rd.stepS r14 st18 (fun _ q hq hf => by have := hlt q hf; have := n9' q hq; omega)
     refine withAddr_some ⟨_, K0.at 0, withAddr_some ⟨_, K1.at 0, withAddr_some ⟨v9, K8.at 0, ?_⟩⟩⟩
     rw [wi64_id (n := x + 1) (by omega) (by omega)]
     refine Write_l h18 rfl (by omega) ⟨Int.le_refl 0, (by show (0 : Int) ≤ 1000000; decide)⟩ hpl (by omega) (by show x + 1 < D.n; omega) (by omega) r18 (fun _ q hq => notF q (n9' q hq).1 (n9' q hq).2) (by rw [hpk]; omega) (fun _ S2 w2 st2 h2 c2 => ⟨_, rfl, _, rfl, cond_f rfl ?_⟩) (fun e => absurd e (show ¬ (0 : Int) = 1 by decide))
     exact done S2 w2 (nx + 1) st2 h2 (by omega) (by omega) (by rw [c2, hC]; rfl)
   · have c0 : w18.cell? ⟨w12.heap.size, 2, none⟩ = some (.func (.func 192) #[.pointer (some ⟨d, 0, none⟩)] #[]) := by rw [K12.at]; rfl
     refine ⟨_, ha', _, c0, callU_ofT (by kernel_rfl) ?_⟩
     show CW.Spec Tryz.prog 192 #[.pointer (some ⟨d, 0, none⟩)] w18 _
     refine Flush_l h18 rfl (by omega) ⟨Int.le_refl 0, (by show (0 : Int) ≤ 1000000; decide)⟩ hpl (fun _ S2 w2 st2 h2 c2 => ⟨_, rfl, cond_f rfl ?_⟩) (fun e => absurd e (show ¬ (0 : Int) = 1 by decide))
     exact done S2 w2 nx st2 h2 (by omega) (by omega) (by rw [c2, hC]; rfl)
 · have hj3 : j = 3 := by have : ¬ (j : Int) < 3 := by simpa using hc
                          omega
   subst hj3
   refine k Sx w18 ?_ ⟨h18.o, h18.m.le hnx, h18.s, h18.ne, fun y t ht => Nat.le_trans (h18.c y t ht) hnx, h18.gi⟩ hC
   have sg := (Step.of_grow (S := FD d mb S) gg).then st18
   exact sg
def okT (s : List UInt8) (i : Int) : Option (Int × List UInt8) := match unpT s with | some (m, v) => if m % 2 = i then some (m, v) else none | none => none
def bestT (a b : Option (Int × List UInt8)) : Option (Int × List UInt8) := match b with
 | some (m, v) => (match a with | some (m', v') => if m < m' then some (m', v') else some (m, v) | none => some (m, v))
 | none => a
def twC (C : Hold) (x : Int) : Option (Int × List UInt8) := bestT (okT (rdC C x) 0) (okT (rdC C (x + 1)) 1)
def upTo (C : Hold) (x : Int) : Nat → Option (Int × List UInt8)
 | 0 => none
 | 1 => okT (rdC C x) 0
 | _ => twC C x
end
theorem rdC_len {S : SF} (h : ∀ x s, S x = some s → (nowS s).length ≤ 512) (x : Int) : (rdC (cont S) x).length = 512 := by
 unfold rdC cont
 cases e : S x with
 | none => simp [secB]
 | some s =>
   have := h x s e
   simp only [Option.map_some]
   have : (nowC (s.kb, s.ws.map (·.2))).length ≤ 512 := this
   simp [secB]; omega
section
variable [Av]
theorem nowS_le {s : Sc} (h : ScAt w s) : (nowS s).length ≤ 512 := by
 unfold nowS nowC
 cases e : s.ws.getLast? with
 | none =>
   rw [List.getLastD_eq_getLast?, List.getLast?_map, e]; exact h.kl
 | some y =>
   rw [List.getLastD_eq_getLast?, List.getLast?_map, e]
   exact h.wl y (List.mem_of_getLast? e)
theorem Open_l (h : DL w d mb n D S) (ho : D.off = false) {x : Int} (h0 : 0 ≤ x) (h1 : x < D.n - 1) (hx : D.n ≤ 4294967296) {R : KV}
 (k1 : ∀ m bs, twC (cont S) x = some (m, bs) → ∀ t v w', Grow w w' → w.heap.size ≤ t → TwAt w' t d x m v bs → 0 ≤ m → m < 18446744073709551616 → R (.tuple #[.pointer (some ⟨t, 0, none⟩), .int .i64 (0 : Int)]) w')
 (k2 : twC (cont S) x = none → ∀ w', Grow w w' → R (.tuple #[.pointer none, .int .i64 (2 : Int)]) w') :
 CW.Spec Tryz.prog 105 #[.pointer (some ⟨d, 0, none⟩), .int .i64 x] w R := by
 apply q122W
 refine tin_c h (by omega) ⟨_, rfl, cond_f (by simp [h0, h1]) (nm fun w3 e3 => ?_)⟩
 obtain ⟨b3, g3, s3⟩ := alE e3
 refine ⟨fun (b : Bool) (i : Int) (w7 : World) => ∃ (j : Nat) (m : Int) (v : Value), i = (j : Int) ∧ j ≤ 2 ∧ Grow w w7 ∧ w.heap.size < w7.heap.size ∧ BK w7 w.heap.size #[.pointer (some ⟨d, 0, none⟩), .int .i64 x, .int .u64 m, v] tTw ∧
  (if b = true then ∃ bs, upTo (cont S) x j = some (m, bs) ∧ RdI w7 v bs ∧ 0 ≤ m ∧ m < 18446744073709551616 ∧ (∀ q, v.ownBlock = some q → w.heap.size < q) else upTo (cont S) x j = none),
  fun (_ : Bool) (i : Int) (_ : World) => ((2 : Int) - i).toNat, ⟨0, 0, nilS, rfl, by omega, g3, by omega, b3, by rw [if_neg (by decide)]; rfl⟩, ?_⟩
 dsimp only [allR, mapR2, eqN, ltN]
 rintro mm b i w7 ⟨⟨j, m, v, rfl, hj, g7, s7, b7, hst⟩, hm⟩
 refine cond_intro (fun hc => ?_) (fun hc => ?_)
 · have hj2 : j < 2 := by have : (j : Int) < 2 := by simpa using hc
                          omega
   have h7 := h.grow g7
   have hlen := rdC_len (S := S) (fun y s hs => nowS_le (h.s y s hs)) (x + (j : Int))
   refine JoinP.bool (fun b' w9 => ∃ (m' : Int) (v' : Value), Grow w w9 ∧ w.heap.size < w9.heap.size ∧ BK w9 w.heap.size #[.pointer (some ⟨d, 0, none⟩), .int .i64 x, .int .u64 m', v'] tTw ∧
    (if b' = true then ∃ bs, upTo (cont S) x (j + 1) = some (m', bs) ∧ RdI w9 v' bs ∧ 0 ≤ m' ∧ m' < 18446744073709551616 ∧ (∀ q, v'.ownBlock = some q → w.heap.size < q) else upTo (cont S) x (j + 1) = none)) (fun jj hjj => ?_) (fun b' w9 ⟨m', v', q1, q2, q3, q4⟩ => ?_)
   · rw [wi64_id (n := x + (j : Int)) (by omega) (by omega)]
     have same : okT (rdC (cont S) (x + (j : Int))) (j : Int) = none → upTo (cont S) x (j + 1) = upTo (cont S) x j := by
      intro e
      have : j = 0 ∨ j = 1 := by omega
      rcases this with rfl | rfl
      · simpa [upTo] using e
      · show twC (cont S) x = okT (rdC (cont S) x) 0
        unfold twC
        have e' : okT (rdC (cont S) (x + 1)) 1 = none := e
        rw [e']; rfl
     have stay : ∀ w9, Grow w7 w9 → okT (rdC (cont S) (x + (j : Int))) (j : Int) = none → jj b w9 := by
      intro w9 g9 e
      refine hjj _ _ ⟨m, v, g7.then g9, Nat.lt_of_lt_of_le s7 g9.size, b7.grow g9, ?_⟩
      rw [same e]
      cases b
      · rw [if_neg (by decide)] at hst ⊢; exact hst
      · rw [if_pos rfl] at hst ⊢
        obtain ⟨bs, q1, q2, q3⟩ := hst
        exact ⟨bs, q1, q2.grow g9, q3⟩
     refine Read_l h7 ho (by omega) (by omega) (by omega) fun v13 w12 g12 r12 n12 => ⟨_, _, rfl, cond_f rfl ?_⟩
     refine Unpack_c (h7.gi.mono g12.size) r12 (by rw [hlen]; omega) (fun m17 bs17 hu hm0 hm1 v18 w16 g16 i18 n18 => ⟨_, _, _, rfl, ?_⟩) (fun hu m17 v18 e w16 g16 he => ⟨_, _, _, rfl, ?_⟩)
     · have g716 := g12.then g16
       have htm : IntKind.wrap .i64 (Int.tmod m17 (2 : Int)) = m17 % 2 := by
        rw [Int.tmod_eq_emod_of_nonneg hm0, wi64_id (by omega) (by omega)]
       have hb16 := b7.grow g716
       refine JoinP.bool (fun b20 w21 => w21 = w16 ∧ (if b20 = true then m17 % 2 ≠ (j : Int) ∨ (b = true ∧ m17 < m) else m17 % 2 = (j : Int) ∧ (b = true → m ≤ m17))) (fun j24 hj24 => ?_) ?_
       · refine cond_f rfl ?_
         rw [htm]
         refine cond_intro (fun hp => hj24 _ _ ⟨rfl, ?_⟩) (fun hp => ?_)
         · rw [if_pos rfl]; exact .inl (by simpa using hp)
         · have hp' : m17 % 2 = (j : Int) := by simpa using hp
           refine cond_intro (fun hb => ⟨m, by rw [hb16.cell]; rfl, ?_⟩) (fun hb => hj24 _ _ ⟨rfl, ?_⟩)
           · refine hj24 _ _ ⟨rfl, ?_⟩
             by_cases hlt : m17 < m
             · rw [decide_eq_true hlt, if_pos rfl]; exact .inr ⟨hb, hlt⟩
             · rw [decide_eq_false hlt, if_neg (by decide)]; exact ⟨hp', fun _ => by omega⟩
           · rw [if_neg (by decide)]; exact ⟨hp', fun e => by rw [hb] at e; cases e⟩
       · rintro b20 w21 ⟨rfl, hq⟩
         have hok : m17 % 2 = (j : Int) → okT (rdC (cont S) (x + (j : Int))) (j : Int) = some (m17, bs17) := fun e => by unfold okT; rw [hu]; simp [e]
         refine cond_intro (fun e20 => ?_) (fun e20 => ?_)
         · rw [if_pos e20] at hq
           rcases hq with hq | ⟨hq1, hq2⟩
           · exact stay w21 g716 (by unfold okT; rw [hu]; simp [hq])
           · 
              by_cases hpar : m17 % 2 = (j : Int)
              · refine hjj _ _ ⟨m, v, g7.then g716, Nat.lt_of_lt_of_le s7 g716.size, hb16, ?_⟩
                rw [hq1, if_pos rfl] at hst ⊢
                obtain ⟨bs, q1, q2, q3⟩ := hst
                refine ⟨bs, ?_, q2.grow g716, q3⟩
                have : j = 0 ∨ j = 1 := by omega
                rcases this with rfl | rfl
                · cases q1
                · show twC (cont S) x = _
                  have q1' : okT (rdC (cont S) x) 0 = some (m, bs) := q1
                  have hok' : okT (rdC (cont S) (x + 1)) 1 = some (m17, bs17) := hok hpar
                  unfold twC bestT
                  rw [q1', hok']
                  simp [hq2]
              · exact stay w21 g716 (by unfold okT; rw [hu]; simp [hpar])
         · rw [if_neg (by rw [e20]; decide)] at hq
           refine ⟨st1_at hb16 (by show 2 < 4; omega), nm fun w22 e22 => ?_⟩
           obtain ⟨b22, t22⟩ := setE hb16 e22
           refine oneK_of (Rd.isOne i18.rd) ⟨st1_at b22 (by show 3 < 4; omega), nm fun w23 e23 => ?_⟩
           obtain ⟨b23, t23⟩ := setE b22 e23
           have tt := t22.then t23
           have s12 := g12.size
           have n18' : ∀ q, v18.ownBlock = some q → w.heap.size < q := fun q hq' => by have := n18 q hq'; omega
           have st : Step (fun q => q = w.heap.size) w21 w23 (fun q => q = w.heap.size) := tt.step rfl
           refine hjj _ _ ⟨m17, v18, Below.turn (g7.then g716) tt (Nat.le_refl _), by have := tt.size; have := g716.size; omega, b23, ?_⟩
           rw [if_pos rfl]
           refine ⟨bs17, ?_, i18.step st (noT_one hb16 (by decide)), hm0, hm1, n18'⟩
           have : j = 0 ∨ j = 1 := by omega
           rcases this with rfl | rfl
           · show okT (rdC (cont S) x) 0 = _
             have := hok hq.1
             simpa using this
           · show twC (cont S) x = _
             have hok' : okT (rdC (cont S) (x + 1)) 1 = some (m17, bs17) := hok hq.1
             unfold twC bestT
             rw [hok']
             cases b
             · rw [if_neg (by decide)] at hst
               have q1' : okT (rdC (cont S) x) 0 = none := hst
               rw [q1']
             · rw [if_pos rfl] at hst
               obtain ⟨bs, q1, _⟩ := hst
               have q1' : okT (rdC (cont S) x) 0 = some (m, bs) := q1
               rw [q1']
               have := hq.2 rfl
               simp; omega
     · have g716 := g12.then g16
       refine JoinP.bool (fun b20 w21 => b20 = true ∧ w21 = w16) (fun j24 hj24 => cond_t (by simpa using he) (hj24 _ _ ⟨rfl, rfl⟩)) ?_
       rintro b20 w21 ⟨rfl, rfl⟩
       exact cond_t rfl (stay w21 g716 (by unfold okT; rw [hu]))
   · rw [wi64_id (by omega) (by omega)]
     exact ⟨⟨j + 1, m', v', by omega, by omega, q1, q2, q3, q4⟩, by omega⟩
 · have hj2 : j = 2 := by have : ¬ (j : Int) < 2 := by simpa using hc
                          omega
   subst hj2
   cases b
   · rw [if_neg (by decide)] at hst
     exact cond_t rfl (k2 hst w7 g7)
   · rw [if_pos rfl] at hst
     obtain ⟨bs, q1, q2, q3, q4, q5⟩ := hst
     exact cond_f rfl (k1 m bs q1 _ v w7 g7 (Nat.le_refl _) ⟨b7, q2⟩ q3 q4)
end
end
section
open Go Go.CW Go.RowKit Go.Crc
variable {w w' : World} {d mb n : Nat} {D : Dk} {S : SF}
section
variable [Av]
def FT (t d mb : Nat) (S : SF) : Fp := fun q => q = t ∨ FD d mb S q
end
theorem step_FT {t : Nat} {S' : SF} (st : Step (FD d mb S) w w' (FD d mb S')) : Step (FT t d mb S) w w' (FT t d mb S') :=
 ⟨st.os, st.tape, st.output, st.size, fun q hq hn => st.block q hq (fun e => hn (.inr e)), fun q hq => by
  rcases hq with e | e
  · exact .inl (.inl e)
  · rcases st.fp q e with e' | e'
    · exact .inl (.inr e')
    · exact .inr e'⟩
section
variable [Av]
theorem Put_l {t : Nat} {x m : Int} {v u : Value} {bs cs : List UInt8} (h : DL w d mb n D S) (tw : TwAt w t d x m v bs) (ho : D.off = false) (hn : n < 999990) (ha : 0 ≤ D.armed ∧ D.armed ≤ 1000000) (hpl : D.ps.length ≤ 1000000)
 (h0 : 0 ≤ x) (h1 : x < D.n - 1) (hx : D.n ≤ 4294967296) (hm0 : 0 ≤ m) (hm1 : m < 18446744073709551615) (hv : RdB w u cs) (hu : ∀ q, u.ownBlock = some q → ¬ FD d mb S q) (hl : cs.length ≤ 488) {R : KV}
 (k1 : ∀ S' v' w', Step (FT t d mb S) w w' (FT t d mb S') → DL w' d mb (n + 1) ⟨D.n, false, decA (decA D.armed), D.ps⟩ S' → cont S' = flC (wrC (cont S) (x + (m + 1) % 2) (packT (m + 1) cs)) → TwAt w' t d x (m + 1) v' cs → R (.int .i64 (0 : Int)) w')
 (k2 : ∀ S' w' (e : Int), D.armed ≠ 0 → e ≠ 0 → Step (FT t d mb S) w w' (FT t d mb S') → DL w' d mb (n + 1) ⟨D.n, true, 0, D.ps⟩ S' → (Crashed (cont S) (cont S') ∨ Crashed (wrC (cont S) (x + (m + 1) % 2) (packT (m + 1) cs)) (cont S')) → R (.int .i64 e) w') :
 CW.Spec Tryz.prog 110 #[.pointer (some ⟨t, 0, none⟩), u] w R := by
 apply q124W
 have nT : ∀ {S : SF} {w : World} {n : Nat} {D : Dk} {v : Value} {bs : List UInt8}, DL w d mb n D S → TwAt w t d x m v bs → ¬ FD d mb S t := fun h tw => h.kind.not tw.o (by decide) (by decide) (by decide)
 have nB : ∀ {S : SF} {w : World} {n : Nat} {D : Dk}, DL w d mb n D S → NoT tb w (FD d mb S) := fun h => h.kind.noT (by decide) (by decide) (by decide)
 have le1 : ∀ {S : SF} {w : World} {D : Dk} {n n' : Nat}, n ≤ n' → DL w d mb n D S → DL w d mb n' D S := fun hn h => ⟨h.o, h.m.le hn, h.s, h.ne, fun y t ht => Nat.le_trans (h.c y t ht) hn, h.gi⟩
 have hmw : IntKind.wrap .u64 (m + 1) = m + 1 := w64_id (by omega) (by omega)
 refine withAddr_some ⟨_, by rw [tw.o.cell]; rfl, ?_⟩
 rw [hmw]
 refine Pack_c hv hl fun v4 w3 g3 r4 n4 => ⟨_, _, rfl, cond_f rfl (nm fun w6 e6 => ?_)⟩
 have t6 := (tw.grow g3).grow (drE e6)
 refine withAddr_some ⟨_, by rw [t6.o.cell]; rfl, withAddr_some ⟨_, by rw [t6.o.cell]; rfl, withAddr_some ⟨_, by rw [t6.o.cell]; rfl, nm fun w13 e13 => ?_⟩⟩⟩
 have gd := drE e13
 have g13 := g3.then gd
 have h13 := h.grow g13
 have t13 := tw.grow g13
 have r13 : RdB w13 v4 (packT (m + 1) cs) := r4.grow gd
 have u13 : RdB w13 u cs := hv.grow g13
 have ei : IntKind.wrap .i64 (x + IntKind.wrap .i64 (Int.tmod (IntKind.wrap .u64 (m + 1)) (2 : Int))) = x + (m + 1) % 2 := by
  rw [hmw, Int.tmod_eq_emod_of_nonneg (by omega), wi64_id (n := (m + 1) % 2) (by omega) (by omega), wi64_id (by omega) (by omega)]
 rw [ei]
 have hpk := packT_len (n := m + 1) hl
 have hlt := h.kind.lt
 have nv4 : ∀ q, v4.ownBlock = some q → ¬ FD d mb S q := fun q hq hf => by have := n4 q hq; have := hlt q hf; omega
 refine Write_l h13 ho (by omega) ha hpl (by omega) (by omega) (by omega) r13 (fun _ => nv4) (by rw [hpk]; omega) (fun ha1 S1 w15 st15 h15 c15 => ⟨_, rfl, cond_f rfl ?_⟩) (fun ha1 S1 w15 st15 h15 c15 => ⟨_, rfl, cond_t rfl ?_⟩)
 · have t15 := t13.step st15 (nT h13 t13) (nB h13)
   have u15 : RdB w15 u cs := Rd.stepS u13 st15 (fun _ => hu)
   have hda : 0 ≤ decA D.armed ∧ decA D.armed ≤ 1000000 := by unfold decA; split <;> omega
   refine withAddr_some ⟨_, by rw [t15.o.cell]; rfl, ?_⟩
   refine Flush_l h15 rfl (by omega) hda hpl (fun ha2 S2 w20 st20 h20 c20 => ⟨_, rfl, cond_f rfl (nm fun w22 e22 => ?_)⟩) (fun ha2 S2 w20 st20 h20 c20 => ⟨_, rfl, cond_t rfl ?_⟩)
   · have t20 := t15.step st20 (nT h15 t15) (nB h15)
     have t22 := t20.grow (drE e22)
     have hu1 : ∀ q, u.ownBlock = some q → cs ≠ [] → ¬ FD d mb S1 q := fun q hq hne hf => by
      rcases st15.fp q hf with e | e
      · exact hu q hq e
      · have := Rd.lt u13 (by simpa using hne) q hq; omega
     have u20 : RdB w20 u cs := Rd.stepS u15 st20 (fun hne q hq => hu1 q hq (by simpa using hne))
     refine withAddr_some ⟨_, by rw [t22.o.cell]; rfl, nm fun w25 e25 => ?_⟩
     have g25 := drE e25
     have h25 := h20.grow g25
     refine slices_Clone_c (u20.grow g25) (by omega) fun v26 w27 g27 o27 => ?_
     have t27 := (t20.grow g25).grow g27
     have h27 := h25.grow g27
     refine ⟨⟨_, by rw [t27.o.cell]; rfl, rfl⟩, withAddr_some ⟨st1_at t27.o (by show 2 < 4; omega), nm fun w30 e30 => withAddr_some (nm fun w32 e32 => oneK_of (Rd.isOne o27.rd) ?_)⟩⟩
     obtain ⟨b32, t32⟩ := setE t27.o e32
     refine ⟨st1_at b32 (by show 3 < 4; omega), nm fun w33 e33 => nm fun w34 e34 => ?_⟩
     obtain ⟨b34, t34⟩ := setE b32 e34
     have tt := t32.then t34
     have stt : Step (fun q => q = t) w27 w34 (fun q => q = t) := tt.step rfl
     have i34 : RdI w34 v26 cs := (RdI.own h25.gi o27).step stt (noT_one t27.o (by decide))
     have h34 := h27.stable stt (fun q hq e => nT h27 t27 (e ▸ hq)) (noT_one t27.o (by decide)) (noT_one t27.o (by decide))
     rw [hmw] at b34
     refine k1 S2 v26 w34 ?_ h34 (by rw [c20, c15]) ⟨b34, i34⟩
     have sA : Step (FT t d mb S) w w20 (FT t d mb S2) := ((Step.of_grow g13).then (step_FT st15)).then (step_FT st20)
     exact (sA.then (Step.of_grow (g25.then g27))).then (tt.step (.inl rfl))
   · have hne : D.armed ≠ 0 := by unfold decA at ha2; intro e; rw [e] at ha2; simp at ha2
     refine k2 S2 w20 8 hne (by decide) (((Step.of_grow g13).then (step_FT st15)).then (step_FT st20)) h20 (.inr ?_)
     rw [← c15]; exact c20
 · exact k2 S1 w15 8 (by omega) (by decide) ((Step.of_grow g13).then (step_FT st15)) (le1 (by omega) h15) (.inl c15)
end
end
end Go.Proofs.YtghineciiljeoaaGreatDoor
