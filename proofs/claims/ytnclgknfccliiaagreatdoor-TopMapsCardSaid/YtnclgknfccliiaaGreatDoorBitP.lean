/- Maps of bits: what the functions of bits do. -/
import Derived.Test.YtnclgknfccliiaaGreatDoorGSpc
import Derived.Test.YtnclgknfccliiaaGreatDoorPG
set_option linter.unusedVariables false
set_option linter.unusedSimpArgs false
set_option maxRecDepth 100000
namespace Go.Proofs.YtnclgknfccliiaaGreatDoor
open Go Go.CW Go.RowKit

/-! ### models -/
def bitOf (M : List UInt8) (i : Nat) : Bool := (M.getD (i / 8) 0).toNat.testBit (i % 8)
def has (M : List UInt8) (i : Nat) : Bool := decide (i < 8 * M.length) && bitOf M i
def flipB (M : List UInt8) (i : Nat) : List UInt8 := M.set (i / 8) (M.getD (i / 8) 0 ^^^ UInt8.ofNat (2 ^ (i % 8)))
def setB (M : List UInt8) (i : Nat) (s : Bool) : List UInt8 := bif has M i == s then M else flipB M i
def turnF (M : List UInt8) (f : Nat) : Nat → Bool → List UInt8
  | 0, _ => M
  | k + 1, s => setB (turnF M f k s) (f + k) s
def turnM (M : List UInt8) (f n : Nat) (s : Bool) : List UInt8 := turnF M f (min n (8 * M.length - f)) s

theorem flipB_length (M : List UInt8) (i : Nat) : (flipB M i).length = M.length := by simp [flipB]
theorem setB_length (M : List UInt8) (i : Nat) (s : Bool) : (setB M i s).length = M.length := by
  unfold setB; cases has M i == s <;> simp [flipB]
theorem turnF_length (M : List UInt8) (f : Nat) (s : Bool) : ∀ k, (turnF M f k s).length = M.length := by
  intro k
  induction k with
  | zero => rfl
  | succ k ih => simp only [turnF, setB_length, ih]
theorem turnM_length (M : List UInt8) (f n : Nat) (s : Bool) : (turnM M f n s).length = M.length := turnF_length _ _ _ _

/-! ### a row of bytes of its own -/
abbrev rv (g n : Nat) : Value := .slice (some ⟨g, 0, none⟩) n n
def RB (w : World) (g : Nat) (M : List UInt8) : Prop := BK w g (M.map b8).toArray tb
abbrev Only (g : Nat) (w w' : World) : Prop := Step (fun k => k = g) w w' (fun k => k = g)

theorem RB.at {w : World} {g : Nat} {M : List UInt8} (h : RB w g M) {i : Nat} (hi : i < M.length) : w.cell? ⟨g, i, none⟩ = some (.int .u8 ((M.getD i 0).toNat : Int)) := by
  rw [BK.at h]
  simp [hi, b8]

theorem rv_at {g n i : Nat} (hi : i < n) : sliceAt (rv g n) (i : Int) 1 = some ⟨g, i, none⟩ := by
  simp only [sliceAt, Int.toNat_natCast]
  rw [if_pos (by omega), ad0]
  simp

theorem RB.rd {w : World} {g : Nat} {M : List UInt8} (h : RB w g M) (hm : M.length ≤ maxLen) : RdB w (rv g M.length) M := by
  refine ⟨some ⟨g, 0, none⟩, M.length, by simp, by simp, hm, (fun e => by cases e), fun j u hj => ⟨_, rfl, ?_⟩⟩
  rw [BK.cell h]
  simpa using hj

theorem RB.step {w w' : World} {g : Nat} {M : List UInt8} {S S' : Fp} (h : RB w g M) (st : Step S w w' S') (hn : ¬ S g) : RB w' g M := (st.block g h.lt hn).trans h

/-! ### bits of a byte -/
theorem bit_val : ∀ (c : Fin 256) (j : Fin 8), (bitsI .and .u8 (Int.fdiv (c.val : Int) ((2 : Int) ^ (min j.val 8))) (1 : Int) == (1 : Int)) = c.val.testBit j.val := by decide +kernel

theorem bit_read (c : UInt8) (i : Nat) : (bitsI .and .u8 (Int.fdiv (c.toNat : Int) ((2 : Int) ^ (min (Int.toNat (Int.tmod (i : Int) (8 : Int))) 8))) (1 : Int) == (1 : Int)) = c.toNat.testBit (i % 8) := by
  have h : Int.toNat (Int.tmod (i : Int) (8 : Int)) = i % 8 := by
    have : Int.tmod (i : Int) (8 : Int) = ((i % 8 : Nat) : Int) := by rw [Int.tmod_eq_emod_of_nonneg (by omega)]; omega
    rw [this]; rfl
  rw [h]
  exact bit_val ⟨c.toNat, c.toNat_lt⟩ ⟨i % 8, Nat.mod_lt _ (by omega)⟩

theorem one_val : ∀ j : Fin 8, IntKind.wrap .u8 ((1 : Int) * ((2 : Int) ^ (min j.val 8))) = ((UInt8.ofNat (2 ^ j.val)).toNat : Int) := by decide +kernel

theorem bit_turn (c : UInt8) (i : Nat) : bitsI .xor .u8 (c.toNat : Int) (IntKind.wrap .u8 ((1 : Int) * ((2 : Int) ^ (min (Int.toNat (Int.tmod (i : Int) (8 : Int))) 8)))) = ((c ^^^ UInt8.ofNat (2 ^ (i % 8))).toNat : Int) := by
  have h : Int.toNat (Int.tmod (i : Int) (8 : Int)) = i % 8 := by
    have : Int.tmod (i : Int) (8 : Int) = ((i % 8 : Nat) : Int) := by rw [Int.tmod_eq_emod_of_nonneg (by omega)]; omega
    rw [this]; rfl
  rw [h, one_val ⟨i % 8, Nat.mod_lt _ (by omega)⟩, b8_xor]

theorem tdiv8 (i : Nat) : IntKind.wrap .i64 (Int.tdiv (i : Int) (8 : Int)) = ((i / 8 : Nat) : Int) ∨ ¬ i < 9223372036854775808 := by
  by_cases h : i < 9223372036854775808
  · left
    rw [Int.tdiv_eq_ediv_of_nonneg (by omega)]
    rw [wi64_id (by omega) (by omega)]
    omega
  · exact .inr h

theorem tdiv8' {i : Nat} (h : i < 9223372036854775808) : IntKind.wrap .i64 (Int.tdiv (i : Int) (8 : Int)) = ((i / 8 : Nat) : Int) := (tdiv8 i).resolve_right (fun e => e h)

/-! ### contracts -/
theorem in_c {w : World} {g n : Nat} {i : Int} (hn : n ≤ 1048576) {R : KV} (k : R (.bool (decide (0 ≤ i ∧ i < 8 * (n : Int)))) w) : Go.CW.Spec Tryz.prog 60 #[rv g n, .int .i64 i] w R := by
  apply bits_Map_in_m_wp
  refine JoinP.bool (fun b w' => b = decide (0 ≤ i ∧ i < 8 * (n : Int)) ∧ w' = w) (fun j hj => ?_) ?_
  · refine cond_intro (fun h => ⟨n, rfl, hj _ _ ⟨?_, rfl⟩⟩) (fun h => hj _ _ ⟨?_, rfl⟩)
    · rw [wi64_id (by omega) (by omega)]
      simp at h
      simp [h]
    · simp at h
      simp; omega
  · rintro b w' ⟨rfl, rfl⟩; exact k

theorem has_c {w : World} {g : Nat} {M : List UInt8} (h : RB w g M) (hn : M.length ≤ 1048576) {i : Nat} {R : KV} (k : R (.bool (has M i)) w) : Go.CW.Spec Tryz.prog 22 #[rv g M.length, .int .i64 (i : Int)] w R := by
  apply bits_Map_Has_m_wp
  refine JoinP.bool (fun b w' => b = has M i ∧ w' = w) (fun j hj => ?_) ?_
  · refine in_c hn ⟨_, rfl, cond_intro (fun hb => ?_) (fun hb => hj _ _ ⟨?_, rfl⟩)⟩
    · simp at hb
      have hi : i < 8 * M.length := by omega
      rw [tdiv8' (by omega)]
      refine ⟨_, rv_at (by omega), _, h.at (by omega), leK_intro ?_ (hj _ _ ⟨?_, rfl⟩)⟩
      · exact Int.tmod_nonneg _ (by omega)
      · rw [bit_read]
        simp [has, bitOf, hi]
    · simp at hb
      have : ¬ i < 8 * M.length := by omega
      simp [has, this]
  · rintro b w' ⟨rfl, rfl⟩; exact k

theorem flip_step {w : World} {g : Nat} {M : List UInt8} (h : RB w g M) {i : Nat} (hi : i < 8 * M.length) :
    RB (w.setCell ⟨g, i / 8, none⟩ (.int .u8 (((M.getD (i / 8) 0) ^^^ UInt8.ofNat (2 ^ (i % 8))).toNat : Int))) g (flipB M i) := by
  have := BK.set h (i / 8) (.int .u8 (((M.getD (i / 8) 0) ^^^ UInt8.ofNat (2 ^ (i % 8))).toNat : Int))
  unfold RB
  have e : (M.map b8).toArray.setIfInBounds (i / 8) (.int .u8 (((M.getD (i / 8) 0) ^^^ UInt8.ofNat (2 ^ (i % 8))).toNat : Int)) = ((flipB M i).map b8).toArray := by
    simp [flipB, List.map_set, b8]
  rw [← e]; exact this

theorem turn_c {w : World} {g : Nat} {M : List UInt8} (h : RB w g M) (hn : M.length ≤ 1048576) {f n : Nat} {s : Bool} (hf : f ≤ 8388608) (hn2 : n ≤ 8388608) {R : KV}
    (k : ∀ (c : Int) w', Only g w w' → RB w' g (turnM M f n s) → R (.int .i64 c) w') : Go.CW.Spec Tryz.prog 54 #[rv g M.length, .int .i64 (f : Int), .int .i64 (n : Int), .bool s] w R := by
  apply bits_Map_turn_m_wp
  have e8 : IntKind.wrap .i64 ((8 : Int) * ((M.length : Nat) : Int)) = ((8 * M.length : Nat) : Int) := by rw [wi64_id (by omega) (by omega)]; omega
  refine JoinP.bool (fun b w' => b = decide (8 * M.length ≤ f) ∧ w' = w) (fun j hj => ?_) ?_
  · refine cond_f (by simp) (cond_f (by simp) ⟨_, rfl, hj _ _ ⟨?_, rfl⟩⟩)
    rw [e8, decide_eq_decide]; omega
  rintro b w' ⟨rfl, rfl⟩
  refine cond_intro (fun hb => ?_) (fun hb => ?_)
  · simp at hb
    refine k 0 _ (Step.refl _ _) ?_
    unfold turnM
    have : min n (8 * M.length - f) = 0 := by omega
    rw [this]; exact h
  · simp at hb
    have eb : IntKind.wrap .i64 ((f : Int) + (if (IntKind.wrap .i64 ((IntKind.wrap .i64 ((8 : Int) * ((M.length : Nat) : Int))) - (f : Int))) < (n : Int) then (IntKind.wrap .i64 ((IntKind.wrap .i64 ((8 : Int) * ((M.length : Nat) : Int))) - (f : Int))) else (n : Int))) = ((f + min n (8 * M.length - f) : Nat) : Int) := by
      rw [e8, wi64_id (n := ((8 * M.length : Nat) : Int) - (f : Int)) (by omega) (by omega)]
      split <;> (rw [wi64_id (by omega) (by omega)]; omega)
    generalize hK : min n (8 * M.length - f) = K at *
    refine ⟨fun (n3 n4 : Int) (w5 : World) => ∃ j : Nat, j ≤ K ∧ n4 = ((f + j : Nat) : Int) ∧ Only g w' w5 ∧ RB w5 g (turnF M f j s), fun (n3 n4 : Int) (_ : World) => (((f + K : Nat) : Int) - n4).toNat, ⟨0, Nat.zero_le _, rfl, Step.refl _ _, h⟩, ?_⟩
    dsimp only [allR, mapR2, eqN, ltN]
    rintro m n3 n4 w5 ⟨⟨j, hj, rfl, st, hr⟩, hm⟩
    refine ⟨_, rfl, ?_⟩
    rw [eb]
    have hlen := turnF_length M f s j
    refine cond_intro (fun hlt => ?_) (fun hge => ?_)
    · simp at hlt
      have hin : f + j < 8 * M.length := by omega
      refine JoinP.int (fun _ w8 => Only g w' w8 ∧ RB w8 g (turnF M f (j + 1) s)) (fun jn hjn => ?_) ?_
      · have hh := has_c (i := f + j) hr (by rw [hlen]; exact hn) (R := fun v w => ∃ (b12 : Bool), v = .bool b12 ∧ (cond (!(b12 == s)) (bindW (World.drew w) fun w13 =>
 ∃ (a14 : Addr), ((Go.CW.sliceAt (rv g M.length) (IntKind.wrap .i64 (Int.tdiv ((f + j : Nat) : Int) (8 : Int))) 1) = (some a14)) ∧
 ∃ (n15 : Int), ((Go.World.cell? w13 a14) = (some (.int .u8 n15))) ∧
 leK (Int.tmod ((f + j : Nat) : Int) (8 : Int)) (∃ (a16 : Addr), ((Go.CW.sliceAt (rv g M.length) (IntKind.wrap .i64 (Int.tdiv ((f + j : Nat) : Int) (8 : Int))) 1) = (some a16)) ∧
 bindW (World.drew w) fun w17 =>
 (St1 w17 a16) ∧
 bindW (World.setCell w17 a16 (.int .u8 (bitsI .xor .u8 n15 (IntKind.wrap .u8 ((1 : Int) * ((2 : Int) ^ (min (Int.toNat (Int.tmod ((f + j : Nat) : Int) (8 : Int))) 8))))))) fun w18 =>
 bindW (World.setCell w17 a16 (.int .u8 (bitsI .xor .u8 n15 (IntKind.wrap .u8 ((1 : Int) * ((2 : Int) ^ (min (Int.toNat (Int.tmod ((f + j : Nat) : Int) (8 : Int))) 8))))))) fun w19 =>
 jn (IntKind.wrap .i64 (n3 + (1 : Int))) w19)) (jn n3 w))) ?_
        · rw [hlen] at hh; exact hh
        · refine ⟨_, rfl, cond_intro (fun hb2 => ?_) (fun hb2 => ?_)⟩
          · refine nm fun w13 e13 => ?_
            have r13 : RB w13 g (turnF M f j s) := by rw [e13]; exact hr
            rw [tdiv8' (by omega)]
            refine ⟨_, rv_at (by omega), _, r13.at (by rw [hlen]; omega), leK_intro (Int.tmod_nonneg _ (by omega)) ⟨_, rv_at (by omega), ?_⟩⟩
            refine nm fun w17 e17 => ?_
            have r17 : RB w17 g (turnF M f j s) := by rw [e17]; exact hr
            have hlt17 : (f + j) / 8 < ((turnF M f j s).map b8).toArray.size := by simp [hlen]; omega
            refine ⟨BK.st1 r17 hlt17, nm fun w18 e18 => nm fun w19 e19 => hjn _ _ ⟨?_, ?_⟩⟩
            · rw [e19, e17]
              exact (st.then (Step.of_grow (Grow.dr (Grow.refl _)))).then (Step.set _ _ _ _ rfl)
            · rw [e19, bit_turn]
              have := flip_step r17 (i := f + j) (by rw [hlen]; exact hin)
              have hne : (has (turnF M f j s) (f + j) == s) = false := by simpa using hb2
              simp only [turnF, setB, hne, cond_false]
              exact this
          · refine hjn _ _ ⟨st, ?_⟩
            have he : (has (turnF M f j s) (f + j) == s) = true := by simpa using hb2
            simp only [turnF, setB, he, cond_true]
            exact hr
      · rintro n7 w8 ⟨st8, hr8⟩
        rw [wi64_id (n := ((f + j : Nat) : Int) + 1) (by omega) (by omega)]
        refine ⟨⟨j + 1, by omega, by omega, st8, hr8⟩, ?_⟩
        omega
    · simp at hge
      have : j = K := by omega
      subst this
      refine k _ _ st ?_
      unfold turnM
      rw [hK]; exact hr

end Go.Proofs.YtnclgknfccliiaaGreatDoor
