/- Texts of this seat, one behind the other: BitP, BitQ, BitM, SpcP, SpcQ, SpcR. -/
import Derived.Test.YtghineciiljeoaaGreatDoorQGUn
import Derived.Test.YtghineciiljeoaaGreatDoorQPutW
import Derived.Laws.MakeOwn
import Derived.Deep.OwnRows
import Derived.Test.YtghineciiljeoaaGreatDoorQSepX
set_option linter.unusedSimpArgs false
set_option linter.unusedVariables false
set_option maxRecDepth 100000
namespace Go.Proofs.YtghineciiljeoaaGreatDoor
section
open Go Go.CW Go.RowKit
def bitOf (M : List UInt8) (i : Nat) : Bool := (M.getD (i / 8) 0).toNat.testBit (i % 8)
def has (M : List UInt8) (i : Nat) : Bool := decide (i < 8 * M.length) && bitOf M i
def flipB (M : List UInt8) (i : Nat) : List UInt8 := M.set (i / 8) (M.getD (i / 8) 0 ^^^ UInt8.ofNat (2 ^ (i % 8)))
def setB (M : List UInt8) (i : Nat) (s : Bool) : List UInt8 := bif has M i == s then M else flipB M i
def turnF (M : List UInt8) (f : Nat) : Nat → Bool → List UInt8
  | 0, _ => M
  | k + 1, s => setB (turnF M f k s) (f + k) s
def turnM (M : List UInt8) (f n : Nat) (s : Bool) : List UInt8 := turnF M f (min n (8 * M.length - f)) s
theorem flipB_length (M : List UInt8) (i : Nat) : (flipB M i).length = M.length := by simp [flipB]
theorem setB_length (M : List UInt8) (i : Nat) (s : Bool) : (setB M i s).length = M.length := by
  unfold setB; cases has M i == s <;> simp [flipB]
theorem turnF_length (M : List UInt8) (f : Nat) (s : Bool) : ∀ k, (turnF M f k s).length = M.length := by
  intro k
  induction k with
  | zero => rfl
  | succ k ih => simp only [turnF, setB_length, ih]
theorem turnM_length (M : List UInt8) (f n : Nat) (s : Bool) : (turnM M f n s).length = M.length := turnF_length _ _ _ _
abbrev rv (g n : Nat) : Value := .slice (some ⟨g, 0, none⟩) n n
def RB (w : World) (g : Nat) (M : List UInt8) : Prop := BK w g (M.map b8).toArray tb
abbrev Only (g : Nat) (w w' : World) : Prop := Step (fun k => k = g) w w' (fun k => k = g)
theorem RB.at {w : World} {g : Nat} {M : List UInt8} (h : RB w g M) {i : Nat} (hi : i < M.length) : w.cell? ⟨g, i, none⟩ = some (.int .u8 ((M.getD i 0).toNat : Int)) := by
  rw [BK.at h]
  simp [hi, b8]
theorem rv_at {g n i : Nat} (hi : i < n) : sliceAt (rv g n) (i : Int) 1 = some ⟨g, i, none⟩ := by
  simp only [sliceAt, Int.toNat_natCast]
  rw [if_pos (by omega), ad0]
  simp
theorem RB.rd {w : World} {g : Nat} {M : List UInt8} (h : RB w g M) (hm : M.length ≤ maxLen) : RdB w (rv g M.length) M := by
  refine ⟨some ⟨g, 0, none⟩, M.length, by simp, by simp, hm, (fun e => by cases e), fun j u hj => ⟨_, rfl, ?_⟩⟩
  rw [BK.cell h]
  simpa using hj
theorem RB.step {w w' : World} {g : Nat} {M : List UInt8} {S S' : Fp} (h : RB w g M) (st : Step S w w' S') (hn : ¬ S g) : RB w' g M := (st.block g h.lt hn).trans h
theorem bit_val : ∀ (c : Fin 256) (j : Fin 8), (bitsI .and .u8 (Int.fdiv (c.val : Int) ((2 : Int) ^ (min j.val 8))) (1 : Int) == (1 : Int)) = c.val.testBit j.val := by decide +kernel
theorem bit_read (c : UInt8) (i : Nat) : (bitsI .and .u8 (Int.fdiv (c.toNat : Int) ((2 : Int) ^ (min (Int.toNat (Int.tmod (i : Int) (8 : Int))) 8))) (1 : Int) == (1 : Int)) = c.toNat.testBit (i % 8) := by
  have h : Int.toNat (Int.tmod (i : Int) (8 : Int)) = i % 8 := by
    have : Int.tmod (i : Int) (8 : Int) = ((i % 8 : Nat) : Int) := by rw [Int.tmod_eq_emod_of_nonneg (by omega)]; omega
    rw [this]; rfl
  rw [h]
  exact bit_val ⟨c.toNat, c.toNat_lt⟩ ⟨i % 8, Nat.mod_lt _ (by omega)⟩
theorem one_val : ∀ j : Fin 8, IntKind.wrap .u8 ((1 : Int) * ((2 : Int) ^ (min j.val 8))) = ((UInt8.ofNat (2 ^ j.val)).toNat : Int) := by decide +kernel
theorem bit_turn (c : UInt8) (i : Nat) : bitsI .xor .u8 (c.toNat : Int) (IntKind.wrap .u8 ((1 : Int) * ((2 : Int) ^ (min (Int.toNat (Int.tmod (i : Int) (8 : Int))) 8)))) = ((c ^^^ UInt8.ofNat (2 ^ (i % 8))).toNat : Int) := by
  have h : Int.toNat (Int.tmod (i : Int) (8 : Int)) = i % 8 := by
    have : Int.tmod (i : Int) (8 : Int) = ((i % 8 : Nat) : Int) := by rw [Int.tmod_eq_emod_of_nonneg (by omega)]; omega
    rw [this]; rfl
  rw [h, one_val ⟨i % 8, Nat.mod_lt _ (by omega)⟩, b8_xor]
theorem tdiv8 (i : Nat) : IntKind.wrap .i64 (Int.tdiv (i : Int) (8 : Int)) = ((i / 8 : Nat) : Int) ∨ ¬ i < 9223372036854775808 := by
  by_cases h : i < 9223372036854775808
  · left
    rw [Int.tdiv_eq_ediv_of_nonneg (by omega)]
    rw [wi64_id (by omega) (by omega)]
    omega
  · exact .inr h
theorem tdiv8' {i : Nat} (h : i < 9223372036854775808) : IntKind.wrap .i64 (Int.tdiv (i : Int) (8 : Int)) = ((i / 8 : Nat) : Int) := (tdiv8 i).resolve_right (fun e => e h)
theorem in_c {w : World} {g n : Nat} {i : Int} (hn : n ≤ 1048576) {R : KV} (k : R (.bool (decide (0 ≤ i ∧ i < 8 * (n : Int)))) w) : CW.Spec Tryz.prog 307 #[rv g n, .int .i64 i] w R := by
  apply q10W
  refine JoinP.bool (fun b w' => b = decide (0 ≤ i ∧ i < 8 * (n : Int)) ∧ w' = w) (fun j hj => ?_) ?_
  · refine cond_intro (fun h => ⟨n, rfl, hj _ _ ⟨?_, rfl⟩⟩) (fun h => hj _ _ ⟨?_, rfl⟩)
    · rw [wi64_id (by omega) (by omega)]
      simp at h
      simp [h]
    · simp at h
      simp; omega
  · rintro b w' ⟨rfl, rfl⟩; exact k
theorem has_c {w : World} {g : Nat} {M : List UInt8} (h : RB w g M) (hn : M.length ≤ 1048576) {i : Nat} {R : KV} (k : R (.bool (has M i)) w) : CW.Spec Tryz.prog 308 #[rv g M.length, .int .i64 (i : Int)] w R := by
  apply q5W
  refine JoinP.bool (fun b w' => b = has M i ∧ w' = w) (fun j hj => ?_) ?_
  · refine in_c hn ⟨_, rfl, cond_intro (fun hb => ?_) (fun hb => hj _ _ ⟨?_, rfl⟩)⟩
    · simp at hb
      have hi : i < 8 * M.length := by omega
      rw [tdiv8' (by omega)]
      refine ⟨_, rv_at (by omega), _, h.at (by omega), leK_intro ?_ (hj _ _ ⟨?_, rfl⟩)⟩
      · exact Int.tmod_nonneg _ (by omega)
      · rw [bit_read]
        simp [has, bitOf, hi]
    · simp at hb
      have : ¬ i < 8 * M.length := by omega
      simp [has, this]
  · rintro b w' ⟨rfl, rfl⟩; exact k
theorem flip_step {w : World} {g : Nat} {M : List UInt8} (h : RB w g M) {i : Nat} (hi : i < 8 * M.length) :
    RB (w.setCell ⟨g, i / 8, none⟩ (.int .u8 (((M.getD (i / 8) 0) ^^^ UInt8.ofNat (2 ^ (i % 8))).toNat : Int))) g (flipB M i) := by
  have := BK.set h (i / 8) (.int .u8 (((M.getD (i / 8) 0) ^^^ UInt8.ofNat (2 ^ (i % 8))).toNat : Int))
  unfold RB
  have e : (M.map b8).toArray.setIfInBounds (i / 8) (.int .u8 (((M.getD (i / 8) 0) ^^^ UInt8.ofNat (2 ^ (i % 8))).toNat : Int)) = ((flipB M i).map b8).toArray := by
    simp [flipB, List.map_set, b8]
  rw [← e]; exact this
theorem turn_c {w : World} {g : Nat} {M : List UInt8} (h : RB w g M) (hn : M.length ≤ 1048576) {f n : Nat} {s : Bool} (hf : f ≤ 8388608) (hn2 : n ≤ 8388608) {R : KV}
    (k : ∀ (c : Int) w', Only g w w' → RB w' g (turnM M f n s) → R (.int .i64 c) w') : CW.Spec Tryz.prog 334 #[rv g M.length, .int .i64 (f : Int), .int .i64 (n : Int), .bool s] w R := by
  apply q11W
  have e8 : IntKind.wrap .i64 ((8 : Int) * ((M.length : Nat) : Int)) = ((8 * M.length : Nat) : Int) := by rw [wi64_id (by omega) (by omega)]; omega
  refine JoinP.bool (fun b w' => b = decide (8 * M.length ≤ f) ∧ w' = w) (fun j hj => ?_) ?_
  · refine cond_f (by simp) (cond_f (by simp) ⟨_, rfl, hj _ _ ⟨?_, rfl⟩⟩)
    rw [e8, decide_eq_decide]; omega
  rintro b w' ⟨rfl, rfl⟩
  refine cond_intro (fun hb => ?_) (fun hb => ?_)
  · simp at hb
    refine k 0 _ (Step.refl _ _) ?_
    unfold turnM
    have : min n (8 * M.length - f) = 0 := by omega
    rw [this]; exact h
  · simp at hb
    have eb : IntKind.wrap .i64 ((f : Int) + (if (IntKind.wrap .i64 ((IntKind.wrap .i64 ((8 : Int) * ((M.length : Nat) : Int))) - (f : Int))) < (n : Int) then (IntKind.wrap .i64 ((IntKind.wrap .i64 ((8 : Int) * ((M.length : Nat) : Int))) - (f : Int))) else (n : Int))) = ((f + min n (8 * M.length - f) : Nat) : Int) := by
      rw [e8, wi64_id (n := ((8 * M.length : Nat) : Int) - (f : Int)) (by omega) (by omega)]
      split <;> (rw [wi64_id (by omega) (by omega)]; omega)
    generalize hK : min n (8 * M.length - f) = K at *
    refine ⟨fun (n3 n4 : Int) (w5 : World) => ∃ j : Nat, j ≤ K ∧ n4 = ((f + j : Nat) : Int) ∧ Only g w' w5 ∧ RB w5 g (turnF M f j s), fun (n3 n4 : Int) (_ : World) => (((f + K : Nat) : Int) - n4).toNat, ⟨0, Nat.zero_le _, rfl, Step.refl _ _, h⟩, ?_⟩
    dsimp only [allR, mapR2, eqN, ltN]
    rintro m n3 n4 w5 ⟨⟨j, hj, rfl, st, hr⟩, hm⟩
    refine ⟨_, rfl, ?_⟩
    rw [eb]
    have hlen := turnF_length M f s j
    refine cond_intro (fun hlt => ?_) (fun hge => ?_)
    · simp at hlt
      have hin : f + j < 8 * M.length := by omega
      refine JoinP.int (fun _ w8 => Only g w' w8 ∧ RB w8 g (turnF M f (j + 1) s)) (fun jn hjn => ?_) ?_
      · have hh := has_c (i := f + j) hr (by rw [hlen]; exact hn) (R := fun v w => ∃ (b12 : Bool), v = .bool b12 ∧ (cond (!(b12 == s)) (bindW (World.drew w) fun w13 =>
 ∃ (a14 : Addr), ((Go.CW.sliceAt (rv g M.length) (IntKind.wrap .i64 (Int.tdiv ((f + j : Nat) : Int) (8 : Int))) 1) = (some a14)) ∧
 ∃ (n15 : Int), ((Go.World.cell? w13 a14) = (some (.int .u8 n15))) ∧
 leK (Int.tmod ((f + j : Nat) : Int) (8 : Int)) (∃ (a16 : Addr), ((Go.CW.sliceAt (rv g M.length) (IntKind.wrap .i64 (Int.tdiv ((f + j : Nat) : Int) (8 : Int))) 1) = (some a16)) ∧
 bindW (World.drew w) fun w17 =>
 (St1 w17 a16) ∧
 bindW (World.setCell w17 a16 (.int .u8 (bitsI .xor .u8 n15 (IntKind.wrap .u8 ((1 : Int) * ((2 : Int) ^ (min (Int.toNat (Int.tmod ((f + j : Nat) : Int) (8 : Int))) 8))))))) fun w18 =>
 bindW (World.setCell w17 a16 (.int .u8 (bitsI .xor .u8 n15 (IntKind.wrap .u8 ((1 : Int) * ((2 : Int) ^ (min (Int.toNat (Int.tmod ((f + j : Nat) : Int) (8 : Int))) 8))))))) fun w19 =>
 jn (IntKind.wrap .i64 (n3 + (1 : Int))) w19)) (jn n3 w))) ?_
        · rw [hlen] at hh; exact hh
        · refine ⟨_, rfl, cond_intro (fun hb2 => ?_) (fun hb2 => ?_)⟩
          · refine nm fun w13 e13 => ?_
            have r13 : RB w13 g (turnF M f j s) := by rw [e13]; exact hr
            rw [tdiv8' (by omega)]
            refine ⟨_, rv_at (by omega), _, r13.at (by rw [hlen]; omega), leK_intro (Int.tmod_nonneg _ (by omega)) ⟨_, rv_at (by omega), ?_⟩⟩
            refine nm fun w17 e17 => ?_
            have r17 : RB w17 g (turnF M f j s) := by rw [e17]; exact hr
            have hlt17 : (f + j) / 8 < ((turnF M f j s).map b8).toArray.size := by simp [hlen]; omega
            refine ⟨BK.st1 r17 hlt17, nm fun w18 e18 => nm fun w19 e19 => hjn _ _ ⟨?_, ?_⟩⟩
            · rw [e19, e17]
              exact (st.then (Step.of_grow (Grow.dr (Grow.refl _)))).then (Step.set _ _ _ _ rfl)
            · rw [e19, bit_turn]
              have := flip_step r17 (i := f + j) (by rw [hlen]; exact hin)
              have hne : (has (turnF M f j s) (f + j) == s) = false := by simpa using hb2
              simp only [turnF, setB, hne, cond_false]
              exact this
          · refine hjn _ _ ⟨st, ?_⟩
            have he : (has (turnF M f j s) (f + j) == s) = true := by simpa using hb2
            simp only [turnF, setB, he, cond_true]
            exact hr
      · rintro n7 w8 ⟨st8, hr8⟩
        rw [wi64_id (n := ((f + j : Nat) : Int) + 1) (by omega) (by omega)]
        refine ⟨⟨j + 1, by omega, by omega, st8, hr8⟩, ?_⟩
        omega
    · simp at hge
      have : j = K := by omega
      subst this
      refine k _ _ st ?_
      unfold turnM
      rw [hK]; exact hr
end
section
open Go Go.CW Go.RowKit
def tb01 (b : Bool) : Nat := bif b then 1 else 0
def popc (c : UInt8) : Nat := tb01 (c.toNat.testBit 0) + tb01 (c.toNat.testBit 1) + tb01 (c.toNat.testBit 2) + tb01 (c.toNat.testBit 3) + tb01 (c.toNat.testBit 4) + tb01 (c.toNat.testBit 5) + tb01 (c.toNat.testBit 6) + tb01 (c.toNat.testBit 7)
def popL (M : List UInt8) : Nat := (M.map popc).sum
theorem popc_le (c : UInt8) : popc c ≤ 8 := by
  have : ∀ b, tb01 b ≤ 1 := fun b => by cases b <;> simp [tb01]
  unfold popc
  have h0 := this (c.toNat.testBit 0); have h1 := this (c.toNat.testBit 1); have h2 := this (c.toNat.testBit 2); have h3 := this (c.toNat.testBit 3)
  have h4 := this (c.toNat.testBit 4); have h5 := this (c.toNat.testBit 5); have h6 := this (c.toNat.testBit 6); have h7 := this (c.toNat.testBit 7)
  omega
theorem popL_le (M : List UInt8) : popL M ≤ 8 * M.length := by
  induction M with
  | nil => simp [popL]
  | cons c M ih => have := popc_le c; simp only [popL, List.map_cons, List.sum_cons, List.length_cons] at ih ⊢; omega
def nextM (M : List UInt8) (a : Nat) (s : Bool) : Option Nat := (List.range (8 * M.length)).find? (fun i => decide (a ≤ i) && (has M i == s))
theorem nextM_some {M : List UInt8} {a j : Nat} {s : Bool} : nextM M a s = some j ↔ (a ≤ j ∧ has M j = s ∧ j < 8 * M.length ∧ ∀ i, a ≤ i → i < j → has M i ≠ s) := by
  unfold nextM
  rw [List.find?_range_eq_some]
  simp only [Bool.and_eq_true, decide_eq_true_eq, beq_iff_eq, List.mem_range, Bool.not_eq_true', Bool.and_eq_false_iff, decide_eq_false_iff_not, beq_eq_false_iff_ne]
  constructor
  · rintro ⟨⟨h1, h2⟩, h3, h4⟩
    exact ⟨h1, h2, h3, fun i hi hij => (h4 i hij).resolve_left (fun e => e hi)⟩
  · rintro ⟨h1, h2, h3, h4⟩
    exact ⟨⟨h1, h2⟩, h3, fun i hij => by by_cases hi : a ≤ i; exact .inr (h4 i hi hij); exact .inl hi⟩
theorem nextM_none {M : List UInt8} {a : Nat} {s : Bool} : nextM M a s = none ↔ ∀ i, a ≤ i → i < 8 * M.length → has M i ≠ s := by
  unfold nextM
  rw [List.find?_eq_none]
  simp only [List.mem_range, Bool.and_eq_true, decide_eq_true_eq, beq_iff_eq, not_and]
  exact ⟨fun h i h1 h2 => h i h2 h1, fun h i h1 h2 => h i h2 h1⟩
def nextV : Option Nat → Value
  | some j => .tuple #[.int .i64 (j : Int), .bool true]
  | none => .tuple #[.int .i64 (0 : Int), .bool false]
theorem next_c {w : World} {g : Nat} {M : List UInt8} (h : RB w g M) (hn : M.length ≤ 1048576) {a : Nat} (ha : a ≤ 8 * M.length) {s : Bool} {R : KV} (k : R (nextV (nextM M a s)) w) : CW.Spec Tryz.prog 261 #[rv g M.length, .int .i64 (a : Int), .bool s] w R := by
  apply q6W
  refine ⟨fun (n1 : Int) (w' : World) => w' = w ∧ ∃ i : Nat, n1 = (i : Int) ∧ a ≤ i ∧ i ≤ 8 * M.length ∧ ∀ x, a ≤ x → x < i → has M x ≠ s, fun (n1 : Int) (_ : World) => ((8 * M.length + 1 : Nat) - n1).toNat, ⟨rfl, a, ?_, Nat.le_refl _, ha, fun x h1 h2 => by omega⟩, ?_⟩
  · rw [if_neg (by omega)]
  dsimp only [allR, mapR2, eqN, ltN]
  rintro m n1 w' ⟨⟨rfl, i, rfl, h1, h2, h3⟩, hm⟩
  refine in_c hn ⟨_, rfl, cond_intro (fun hb => ?_) (fun hb => ?_)⟩
  · simp at hb
    have he : nextM M a s = none := nextM_none.2 fun x hx hx2 => h3 x hx (by omega)
    rw [he] at k
    exact k
  · simp at hb
    refine has_c h hn ⟨_, rfl, cond_intro (fun hs => ?_) (fun hs => ?_)⟩
    · have he : nextM M a s = some i := nextM_some.2 ⟨h1, by simpa using hs, by omega, h3⟩
      rw [he] at k
      exact k
    · rw [wi64_id (n := (i : Int) + 1) (by omega) (by omega)]
      refine ⟨⟨rfl, i + 1, by omega, by omega, by omega, fun x hx hx2 => ?_⟩, by omega⟩
      by_cases e : x = i
      · subst e; simpa using hs
      · exact h3 x hx (by omega)
def runEnd (M : List UInt8) (b : Nat) : Nat := (nextM M b false).getD (8 * M.length)
def runsG (M : List UInt8) : Nat → Nat → List (Nat × Nat)
  | 0, _ => []
  | f + 1, a => match nextM M a true with
    | none => []
    | some b => (b, runEnd M b - b) :: runsG M f (runEnd M b)
def runsL (M : List UInt8) : List (Nat × Nat) := runsG M (8 * M.length + 1) 0
theorem runEnd_gt {M : List UInt8} {a b : Nat} (h : nextM M a true = some b) : b < runEnd M b ∧ runEnd M b ≤ 8 * M.length := by
  obtain ⟨_, h2, h3, _⟩ := nextM_some.1 h
  unfold runEnd
  cases he : nextM M b false with
  | none => exact ⟨h3, Nat.le_refl _⟩
  | some e =>
    obtain ⟨k1, k2, k3, _⟩ := nextM_some.1 he
    refine ⟨?_, by simp; omega⟩
    simp only [Option.getD_some]
    have : e ≠ b := fun e2 => by rw [e2, h2] at k2; cases k2
    omega
def ER : Enc (Nat × Nat) := ⟨2, fun p => [.int .i64 (p.1 : Int), .int .i64 (p.2 : Int)], fun _ => rfl, by omega, fun _ => rfl⟩
abbrev tRs : TypeId := 322
abbrev tR2 : TypeId := 324
theorem tyRs : SlTyN Tryz.prog tRs tR2 ER.s 16 := SlTyN.of (by kernel_rfl)
theorem clip2_c {w : World} {B : Nat} {v : Value} {L : List (Nat × Nat)} {R : KV} (ho : OwnR ER w B tR2 v L) (k : ∀ v', RdR ER w v' L → v'.ownBlock = v.ownBlock → R v' w) : CW.Spec Tryz.prog 262 #[v] w R := by
  have hd := ho.rd
  apply q86W
  have hle := hd.le
  refine ⟨_, hd.len, _, hd.len, ?_⟩
  obtain ⟨v', h1, h2, h3⟩ : ∃ v', subSlice v 2 none (some (.int .i64 ((L.length : Nat) : Int))) (some (.int .i64 ((L.length : Nat) : Int))) = some v' ∧ RdR ER w v' L ∧ v'.ownBlock = v.ownBlock := by
    obtain ⟨a, cap, rfl, q1, q2, q3, q4⟩ := hd
    have h0 : (0 : Int) ≤ (L.length : Int) := by omega
    have e : (L.length : Int) ≤ cap := by omega
    refine ⟨.slice a L.length L.length, ?_, ⟨a, L.length, rfl, Nat.le_refl _, by omega, fun hh => by have := q3 hh; omega, q4⟩, by cases a <;> rfl⟩
    simp only [subSlice, boundsOf, boundOf, h0, e, and_self, if_true, Int.toNat_natCast, Int.le_refl, Nat.sub_zero, Nat.zero_mul]
    cases a with
    | none =>
      have := q3 rfl
      split <;> simp
    | some a => split <;> simp [add_zero]
  exact ⟨v', h1, k v' h2 h3⟩
theorem runs_c {w : World} {g : Nat} {M : List UInt8} (h : RB w g M) (hn : M.length ≤ 1048576) {R : KV} (k : ∀ v w', Grow w w' → RdR ER w' v (runsL M) → (∀ q, v.ownBlock = some q → w.heap.size ≤ q ∧ ∃ cs, BK w' q cs tR2) → R v w') : CW.Spec Tryz.prog 205 #[rv g M.length] w R := by
  apply q7W
  refine next_c (a := 0) h hn (Nat.zero_le _) ?_
  have split_ : ∀ r : Option Nat, ∃ (n2 : Int) (b3 : Bool), nextV r = (.tuple #[(.int .i64 n2), (.bool b3)]) ∧ (n2 = ((r.getD 0 : Nat) : Int)) ∧ b3 = r.isSome := by
    intro r
    cases r with
    | none => exact ⟨0, false, rfl, rfl, rfl⟩
    | some j => exact ⟨j, true, rfl, rfl, rfl⟩
  obtain ⟨n2, b3, e1, e2, e3⟩ := split_ (nextM M 0 true)
  refine ⟨n2, b3, e1, ?_⟩
  refine ⟨fun (v5 : Value) (n6 : Int) (b7 : Bool) (w8 : World) => ∃ (L : List (Nat × Nat)) (a f : Nat), runsL M = L ++ runsG M f a ∧ a ≤ 8 * M.length ∧ 8 * M.length + 1 - a ≤ f ∧ L.length ≤ a ∧ n6 = (((nextM M a true).getD 0 : Nat) : Int) ∧ b7 = (nextM M a true).isSome ∧ Grow w w8 ∧ OwnR ER w8 w.heap.size tR2 v5 L,
    fun (_ : Value) (n6 : Int) (b7 : Bool) (_ : World) => bif b7 then (8 * M.length + 1 - n6).toNat else 0, ⟨[], 0, 8 * M.length + 1, rfl, Nat.zero_le _, by omega, Nat.le_refl _, e2, e3, Grow.refl _, OwnR.nil _ _ _⟩, ?_⟩
  dsimp only [allR, mapR2, eqN, ltN]
  rintro m v5 n6 b7 w8 ⟨⟨L, a, f, hL, ha, hf, hlen, rfl, rfl, g8, ho⟩, hm⟩
  have r8 : RB w8 g M := BK.grow h g8
  refine cond_intro (fun hb => ?_) (fun hb => ?_)
  · obtain ⟨b, hbn⟩ := Option.isSome_iff_exists.1 hb
    obtain ⟨q1, q2, q3, q4⟩ := nextM_some.1 hbn
    obtain ⟨hgt, hend⟩ := runEnd_gt hbn
    rw [hbn] at hm ⊢
    simp only [Option.getD_some, Option.isSome_some, cond_true] at hm ⊢
    refine next_c (a := b) r8 hn (by omega) ?_
    obtain ⟨n11, b12, f1, f2, f3⟩ := split_ (nextM M b false)
    refine ⟨n11, b12, f1, ?_⟩
    refine JoinP.int (fun n13 w14 => n13 = (runEnd M b : Int) ∧ w14 = w8) (fun j hj => cond_intro (fun hc => ⟨_, rfl, hj _ _ ⟨?_, rfl⟩⟩) (fun hc => hj _ _ ⟨?_, rfl⟩)) ?_
    · rw [wi64_id (by omega) (by omega)]
      rw [f3] at hc
      have : nextM M b false = none := by cases he : nextM M b false with | none => rfl | some x => rw [he] at hc; simp at hc
      simp [runEnd, this]
    · rw [f2]
      rw [f3] at hc
      obtain ⟨e, he⟩ : ∃ e, nextM M b false = some e := by cases he : nextM M b false with | none => rw [he] at hc; simp at hc | some x => exact ⟨x, rfl⟩
      simp [runEnd, he]
    · rintro n13 w14 ⟨rfl, rfl⟩
      refine nm fun w15 e15 => ?_
      obtain ⟨bk15, g15, sz15⟩ := alE e15
      have hrd : RdR ER w15 (.slice (some ⟨w14.heap.size, 0, none⟩) 1 1) [(b, runEnd M b - b)] := by
        refine ⟨some ⟨w14.heap.size, 0, none⟩, 1, rfl, Nat.le_refl _, by simp [maxLen], (fun e => by cases e), fun j u hj => ⟨_, rfl, ?_⟩⟩
        rw [bk15.cell]
        have e1 : (runEnd M b : Int) - (b : Int) = ((runEnd M b - b : Nat) : Int) := by omega
        rw [e1, wi64_id (by omega) (by omega)]
        simpa [Enc.flat, ER] using hj
      obtain ⟨v16, w17, hrun, ho17, hnext⟩ := app_ownR tyRs (ho.grow g15) hrd (by simp only [List.length_cons, List.length_nil]; omega) (Nat.le_trans g8.size g15.size)
      have g17 : Grow w w17 := (g8.then g15).trans (hnext.below (Nat.le_trans g8.size g15.size) (fun q hq => (ho.lt q hq).1))
      refine ⟨v16, w17, hrun, next_c (a := runEnd M b) (BK.grow h g17) hn hend ?_⟩
      obtain ⟨n20, b21, f4, f5, f6⟩ := split_ (nextM M (runEnd M b) true)
      refine ⟨n20, b21, f4, ⟨L ++ [(b, runEnd M b - b)], runEnd M b, f - 1, ?_, hend, by omega, by simp; omega, f5, f6, g17, ho17⟩, ?_⟩
      · rw [hL]
        obtain ⟨f', rfl⟩ : ∃ f', f = f' + 1 := ⟨f - 1, by omega⟩
        simp only [runsG, hbn, Nat.add_sub_cancel, List.append_assoc, List.cons_append, List.nil_append]
      · rw [f5, f6]
        cases hx : nextM M (runEnd M b) true with
        | none => simp; omega
        | some c =>
          obtain ⟨p1, p2, p3, _⟩ := nextM_some.1 hx
          simp; omega
  · have hnone : nextM M a true = none := by cases he : nextM M a true with | none => rfl | some x => rw [he] at hb; simp at hb
    have ht : ∀ q, v5.ownBlock = some q → w.heap.size ≤ q ∧ ∃ cs, BK w8 q cs tR2 := fun q hq => by
      refine ⟨(ho.lt q hq).1, ?_⟩
      rcases ho.2 with ⟨rfl, _⟩ | ⟨g', cap, cur, rfl, _, hg, _⟩
      · cases hq
      · cases hq; exact ⟨cur, hg⟩
    refine clip2_c ho fun v' hr hb' => k v' w8 g8 ?_ (by rw [hb']; exact ht)
    have : runsL M = L := by
      rw [hL]
      cases f with
      | zero => simp [runsG]
      | succ f => simp [runsG, hnone]
    rw [this]; exact hr
end
section
open Go Go.CW Go.RowKit
def cnt (M : List UInt8) : Nat → Nat → Nat
  | _, 0 => 0
  | a, n + 1 => tb01 (has M a) + cnt M (a + 1) n
theorem cnt_add (M : List UInt8) : ∀ n a m, cnt M a (n + m) = cnt M a n + cnt M (a + n) m
  | 0, a, m => by simp [cnt]
  | n + 1, a, m => by
    have e : n + 1 + m = (n + m) + 1 := by omega
    rw [e]
    simp only [cnt]
    rw [cnt_add M n (a + 1) m]
    have e2 : a + 1 + n = a + (n + 1) := by omega
    rw [e2]; omega
theorem cnt_none {M : List UInt8} : ∀ {n a : Nat}, (∀ i, a ≤ i → i < a + n → has M i = false) → cnt M a n = 0
  | 0, a, h => rfl
  | n + 1, a, h => by
    simp only [cnt]
    rw [h a (Nat.le_refl _) (by omega), cnt_none (fun i h1 h2 => h i (by omega) (by omega))]
    rfl
theorem cnt_all {M : List UInt8} : ∀ {n a : Nat}, (∀ i, a ≤ i → i < a + n → has M i = true) → cnt M a n = n
  | 0, a, h => rfl
  | n + 1, a, h => by
    simp only [cnt]
    rw [h a (Nat.le_refl _) (by omega), cnt_all (fun i h1 h2 => h i (by omega) (by omega))]
    simp [tb01]; omega
theorem cnt_pop (M : List UInt8) : ∀ n q, q + n = M.length → cnt M (8 * q) (8 * n) = popL (M.drop q)
  | 0, q, h => by
    rw [List.drop_of_length_le (by omega)]; rfl
  | n + 1, q, h => by
    have e : 8 * (n + 1) = 8 + 8 * n := by omega
    have e2 : 8 * q + 8 = 8 * (q + 1) := by omega
    rw [e, cnt_add, e2, cnt_pop M n (q + 1) (by omega)]
    have hd : M.drop q = M.getD q 0 :: M.drop (q + 1) := by
      rw [List.getD_eq_getElem?_getD, List.getElem?_eq_getElem (by omega), Option.getD_some, ← List.drop_eq_getElem_cons]
    rw [hd]
    have hb : ∀ j, j < 8 → has M (8 * q + j) = (M.getD q 0).toNat.testBit j := by
      intro j hj
      unfold has bitOf
      have e1 : (8 * q + j) / 8 = q := by omega
      have e2 : (8 * q + j) % 8 = j := by omega
      rw [e1, e2, decide_eq_true (by omega), Bool.true_and]
    have h0 := hb 0 (by omega); have h1 := hb 1 (by omega); have h2 := hb 2 (by omega); have h3 := hb 3 (by omega)
    have h4 := hb 4 (by omega); have h5 := hb 5 (by omega); have h6 := hb 6 (by omega); have h7 := hb 7 (by omega)
    simp only [Nat.add_zero] at h0
    have hp : cnt M (8 * q) 8 = popc (M.getD q 0) := by
      simp only [cnt, popc]
      rw [← h0, ← h1, ← h2, ← h3, ← h4, ← h5, ← h6, ← h7]
      simp only [Nat.add_assoc, Nat.add_zero]
    rw [hp]
    simp [popL]
theorem popL_cnt (M : List UInt8) : popL M = cnt M 0 (8 * M.length) := by
  have := cnt_pop M M.length 0 (by omega)
  rw [Nat.mul_zero] at this
  rw [this]; rfl
theorem runEnd_is {M : List UInt8} {b : Nat} : (∀ i, b ≤ i → i < runEnd M b → has M i = true) ∧ (runEnd M b < 8 * M.length → has M (runEnd M b) = false) := by
  unfold runEnd
  cases he : nextM M b false with
  | none =>
    refine ⟨fun i h1 h2 => ?_, fun h => by simp at h⟩
    have := nextM_none.1 he i h1 (by simpa using h2)
    simpa using this
  | some e =>
    obtain ⟨k1, k2, k3, k4⟩ := nextM_some.1 he
    refine ⟨fun i h1 h2 => ?_, fun h => k2⟩
    have := k4 i h1 (by simpa using h2)
    simpa using this
theorem runsG_cover (M : List UInt8) : ∀ f a, a ≤ 8 * M.length → 8 * M.length + 1 - a ≤ f → ∀ i, ((∃ r ∈ runsG M f a, r.1 ≤ i ∧ i < r.1 + r.2) ↔ (a ≤ i ∧ has M i = true))
  | 0, a, h1, h2, i => by omega
  | f + 1, a, h1, h2, i => by
    have hlt : has M i = true → i < 8 * M.length := fun h => by
      unfold has at h; simp at h; exact h.1
    cases hn : nextM M a true with
    | none =>
      simp only [runsG, hn]
      have := nextM_none.1 hn
      constructor
      · rintro ⟨r, hr, _⟩; cases hr
      · rintro ⟨q1, q2⟩; exact absurd q2 (this i q1 (hlt q2))
    | some b =>
      obtain ⟨q1, q2, q3, q4⟩ := nextM_some.1 hn
      obtain ⟨hgt, hend⟩ := runEnd_gt hn
      have ih := runsG_cover M f (runEnd M b) hend (by omega) i
      obtain ⟨e1, e2⟩ := runEnd_is (M := M) (b := b)
      simp only [runsG, hn, List.mem_cons]
      constructor
      · rintro ⟨r, rfl | hr, k1, k2⟩
        · simp only at k1 k2
          exact ⟨by omega, e1 i k1 (by omega)⟩
        · have := ih.1 ⟨r, hr, k1, k2⟩
          exact ⟨by omega, this.2⟩
      · rintro ⟨k1, k2⟩
        by_cases c1 : i < b
        · exact absurd k2 (q4 i k1 c1)
        · by_cases c2 : i < runEnd M b
          · exact ⟨_, .inl rfl, by simp only; omega, by simp only; omega⟩
          · obtain ⟨r, hr, p⟩ := ih.2 ⟨by omega, k2⟩
            exact ⟨r, .inr hr, p⟩
theorem runsG_sum (M : List UInt8) : ∀ f a, a ≤ 8 * M.length → 8 * M.length + 1 - a ≤ f → ((runsG M f a).map (·.2)).sum = cnt M a (8 * M.length - a)
  | 0, a, h1, h2 => by omega
  | f + 1, a, h1, h2 => by
    cases hn : nextM M a true with
    | none =>
      simp only [runsG, hn]
      have := nextM_none.1 hn
      rw [cnt_none fun i k1 k2 => by have := this i k1 (by omega); simpa using this]
      rfl
    | some b =>
      obtain ⟨q1, q2, q3, q4⟩ := nextM_some.1 hn
      obtain ⟨hgt, hend⟩ := runEnd_gt hn
      have ih := runsG_sum M f (runEnd M b) hend (by omega)
      obtain ⟨e1, e2⟩ := runEnd_is (M := M) (b := b)
      simp only [runsG, hn, List.map_cons, List.sum_cons, ih]
      have s1 : 8 * M.length - a = (b - a) + ((runEnd M b - b) + (8 * M.length - runEnd M b)) := by omega
      rw [s1, cnt_add, cnt_add, cnt_none (n := b - a) (fun i k1 k2 => by have := q4 i k1 (by omega); simpa using this)]
      have s2 : a + (b - a) = b := by omega
      have s3 : b + (runEnd M b - b) = runEnd M b := by omega
      rw [s2, s3, cnt_all (n := runEnd M b - b) (fun i k1 k2 => e1 i k1 (by omega))]
      omega
theorem runsL_cover (M : List UInt8) (i : Nat) : (∃ r ∈ runsL M, r.1 ≤ i ∧ i < r.1 + r.2) ↔ has M i = true := by
  have := runsG_cover M (8 * M.length + 1) 0 (Nat.zero_le _) (by omega) i
  simpa [runsL] using this
theorem runsL_sum (M : List UInt8) : ((runsL M).map (·.2)).sum = popL M := by
  rw [popL_cnt]
  exact runsG_sum M (8 * M.length + 1) 0 (Nat.zero_le _) (by omega)
theorem runsG_pos (M : List UInt8) : ∀ f a, ∀ r ∈ runsG M f a, 0 < r.2
  | 0, a, r, h => by cases h
  | f + 1, a, r, h => by
    cases hn : nextM M a true with
    | none => simp only [runsG, hn] at h; cases h
    | some b =>
      simp only [runsG, hn, List.mem_cons] at h
      rcases h with rfl | h
      · have := runEnd_gt hn; simp only; omega
      · exact runsG_pos M f _ r h
def Under (N : Nat) (M : List UInt8) : Prop := ∀ i, N ≤ i → has M i = false
theorem runsL_le {N : Nat} {M : List UInt8} (h : Under N M) : ∀ r ∈ runsL M, 0 < r.2 ∧ r.1 + r.2 ≤ N := by
  intro r hr
  have hp : 0 < r.2 := runsG_pos M _ _ r hr
  refine ⟨hp, ?_⟩
  have := (runsL_cover M (r.1 + r.2 - 1)).1 ⟨r, hr, by omega, by omega⟩
  rcases Nat.lt_or_ge (r.1 + r.2 - 1) N with h1 | h1
  · omega
  · rw [h _ h1] at this; cases this
end
section
open Go Go.CW Go.RowKit
theorem JoinP.go {rs : List Rep} {rest : FunR rs} {body : FunR rs → Prop} (h : body rest) : JoinP rs rest body := h
abbrev tSp : TypeId := 277
structure SpAt (w : World) (b g1 g2 N : Nat) (D M : List UInt8) : Prop where
  obj : BK w b #[.int .i64 (N : Int), rv g1 D.length, rv g2 M.length] tSp
  dat : RB w g1 D
  map : RB w g2 M
  hD : D.length = 8 * N
  hM : M.length = (N + 7) / 8
  pos : 1 ≤ N
  most : N ≤ 1024
  n1 : b ≠ g1
  n2 : b ≠ g2
  n3 : g1 ≠ g2
abbrev FSp (g1 g2 : Nat) : Fp := fun k => k = g1 ∨ k = g2
theorem SpAt.step {w w' : World} {b g1 g2 N : Nat} {D M : List UInt8} {S S' : Fp} (h : SpAt w b g1 g2 N D M) (st : Step S w w' S') (hb : ¬ S b) (h1 : ¬ S g1) (h2 : ¬ S g2) : SpAt w' b g1 g2 N D M :=
  ⟨(st.block b h.obj.lt hb).trans h.obj, h.dat.step st h1, h.map.step st h2, h.hD, h.hM, h.pos, h.most, h.n1, h.n2, h.n3⟩
theorem SpAt.grow {w w' : World} {b g1 g2 N : Nat} {D M : List UInt8} (h : SpAt w b g1 g2 N D M) (g : Grow w w') : SpAt w' b g1 g2 N D M :=
  ⟨h.obj.grow g, BK.grow h.dat g, BK.grow h.map g, h.hD, h.hM, h.pos, h.most, h.n1, h.n2, h.n3⟩
theorem SpAt.mlen {w : World} {b g1 g2 N : Nat} {D M : List UInt8} (h : SpAt w b g1 g2 N D M) : M.length ≤ 128 := by have := h.hM; have := h.most; omega
theorem row_made {t : TypeId} (ht : Tryz.prog.underlying t = some (.slice tb)) {w : World} (n : Nat) (hn : n ≤ 1099511627776) :
    (Instr.makeSlice t (.int .i64 (n : Int)) (.int .i64 (n : Int))).run Tryz.prog w = .ok (rv w.heap.size n) (w.alloc (.cells ((List.replicate n (0 : UInt8)).map b8).toArray tb)) := by
  have h := run_make_row' (P := Tryz.prog) t tb (.int .u8 0) 1 ht (by kernel_rfl) rfl .i64 .i64 n (by omega) (by omega) w
  have e : madeCells #[Value.int .u8 0] n = ((List.replicate n (0 : UInt8)).map b8).toArray := by
    apply Array.ext'
    rw [madeCells_one, List.map_replicate]
    rfl
  rw [e] at h
  exact h
theorem RB.new {w : World} (n : Nat) : RB (w.alloc (.cells ((List.replicate n (0 : UInt8)).map b8).toArray tb)) w.heap.size (List.replicate n 0) := BK.new w _ _
theorem bitsNew_c {w : World} {N : Nat} (h1 : 1 ≤ N) (h2 : N ≤ 1024) {R : KV} (k : R (rv w.heap.size ((N + 7) / 8)) (w.alloc (.cells ((List.replicate ((N + 7) / 8) (0 : UInt8)).map b8).toArray tb))) :
    CW.Spec Tryz.prog 157 #[.int .i64 (N : Int)] w R := by
  apply q12W
  have e : IntKind.wrap .i64 (Int.tdiv (IntKind.wrap .i64 ((N : Int) + (7 : Int))) (8 : Int)) = (((N + 7) / 8 : Nat) : Int) := by
    rw [wi64_id (n := (N : Int) + 7) (by omega) (by omega), Int.tdiv_eq_ediv_of_nonneg (by omega), wi64_id (by omega) (by omega)]
    omega
  refine JoinP.go (cond_f (by simp; omega) (cond_f (by simp; omega) ?_))
  rw [e]
  exact ⟨_, _, row_made (by kernel_rfl) _ (by omega), k⟩
theorem spaceNew_c {w : World} {N : Nat} (h1 : 1 ≤ N) (h2 : N ≤ 1024) {R : KV}
    (k : ∀ b g1 g2 w', Grow w w' → w.heap.size ≤ b → w.heap.size ≤ g1 → w.heap.size ≤ g2 → SpAt w' b g1 g2 N (List.replicate (8 * N) 0) (List.replicate ((N + 7) / 8) 0) → R (.tuple #[.pointer (some ⟨b, 0, none⟩), .int .i64 (0 : Int)]) w') :
    CW.Spec Tryz.prog 74 #[.int .i64 (N : Int)] w R := by
  apply q95W
  have e : IntKind.wrap .i64 ((N : Int) * (8 : Int)) = ((8 * N : Nat) : Int) := by rw [wi64_id (by omega) (by omega)]; omega
  refine JoinP.go (cond_f (by simp; omega) (cond_f (by simp; omega) (JoinP.go ?_)))
  refine nm fun w6 e6 => nm fun w7 e7 => ?_
  have g7 : Grow w w7 := drE e7
  rw [e]
  have hrep : (List.replicate (8 * N) (0 : UInt8)).length = 8 * N := by simp
  have hrep2 : (List.replicate ((N + 7) / 8) (0 : UInt8)).length = (N + 7) / 8 := by simp
  refine ⟨⟨_, _, row_made (by kernel_rfl) _ (by omega), ?_⟩, ?_⟩
  · refine bitsNew_c h1 h2 ?_
    refine nm fun w12 e12 => nm fun w13 e13 => ?_
    obtain ⟨bk, gr, sz⟩ := alE (e13.trans e12)
    have ga := Grow.al (Grow.refl w7) (.cells ((List.replicate (8 * N) (0 : UInt8)).map b8).toArray tb)
    generalize hwa : w7.alloc (.cells ((List.replicate (8 * N) (0 : UInt8)).map b8).toArray tb) = wa at *
    have r1 : RB wa w7.heap.size (List.replicate (8 * N) 0) := by rw [← hwa]; exact RB.new _
    have s1 : wa.heap.size = w7.heap.size + 1 := by rw [← hwa]; simp
    have gb := Grow.al (Grow.refl wa) (.cells ((List.replicate ((N + 7) / 8) (0 : UInt8)).map b8).toArray tb)
    generalize hwb : wa.alloc (.cells ((List.replicate ((N + 7) / 8) (0 : UInt8)).map b8).toArray tb) = wb at *
    have r2 : RB wb wa.heap.size (List.replicate ((N + 7) / 8) 0) := by rw [← hwb]; exact RB.new _
    have s2 : wb.heap.size = wa.heap.size + 1 := by rw [← hwb]; simp
    have := g7.size
    exact k _ _ _ _ (((g7.then ga).then gb).then gr) (by omega) (by omega) (by omega) ⟨by rw [hrep, hrep2]; exact bk, BK.grow (BK.grow r1 gb) gr, BK.grow r2 gr, hrep, hrep2, h1, h2, by omega, by omega, by omega⟩
  · refine bitsNew_c h1 h2 ⟨_, _, row_made (by kernel_rfl) _ (by omega), ?_⟩
    refine nm fun w12 e12 => nm fun w13 e13 => ?_
    obtain ⟨bk, gr, sz⟩ := alE (e13.trans e12)
    have ga := Grow.al (Grow.refl w7) (.cells ((List.replicate ((N + 7) / 8) (0 : UInt8)).map b8).toArray tb)
    generalize hwa : w7.alloc (.cells ((List.replicate ((N + 7) / 8) (0 : UInt8)).map b8).toArray tb) = wa at *
    have r1 : RB wa w7.heap.size (List.replicate ((N + 7) / 8) 0) := by rw [← hwa]; exact RB.new _
    have s1 : wa.heap.size = w7.heap.size + 1 := by rw [← hwa]; simp
    have gb := Grow.al (Grow.refl wa) (.cells ((List.replicate (8 * N) (0 : UInt8)).map b8).toArray tb)
    generalize hwb : wa.alloc (.cells ((List.replicate (8 * N) (0 : UInt8)).map b8).toArray tb) = wb at *
    have r2 : RB wb wa.heap.size (List.replicate (8 * N) 0) := by rw [← hwb]; exact RB.new _
    have s2 : wb.heap.size = wa.heap.size + 1 := by rw [← hwb]; simp
    have := g7.size
    exact k _ _ _ _ (((g7.then ga).then gb).then gr) (by omega) (by omega) (by omega) ⟨by rw [hrep, hrep2]; exact bk, BK.grow r2 gr, BK.grow (BK.grow r1 gb) gr, hrep, hrep2, h1, h2, by omega, by omega, by omega⟩
theorem In_c {w : World} {b g1 g2 N : Nat} {D M : List UInt8} (h : SpAt w b g1 g2 N D M) {at_ n : Nat} (ha : at_ ≤ 1000000) {R : KV} (k : R (.bool (decide (n ≤ 32 ∧ at_ + n ≤ N))) w) :
    CW.Spec Tryz.prog 235 #[.pointer (some ⟨b, 0, none⟩), .int .i64 (at_ : Int), .int .i64 (n : Int)] w R := by
  apply q99W
  have hN := h.most
  refine JoinP.go (cond_t (by simp) (cond_intro (fun q1 => cond_t (by simp) ?_) (fun q1 => ?_)))
  · simp at q1
    refine withAddr_some ⟨_, by rw [h.obj.cell]; rfl, cond_intro (fun q2 => withAddr_some ⟨_, by rw [h.obj.cell]; rfl, ?_⟩) (fun q2 => ?_)⟩
    · simp at q2
      rw [wi64_id (by omega) (by omega)]
      have e : decide ((n : Int) ≤ (N : Int) - (at_ : Int)) = decide (n ≤ 32 ∧ at_ + n ≤ N) := by rw [decide_eq_decide]; omega
      show R (.bool (decide ((n : Int) ≤ (N : Int) - (at_ : Int)))) w
      rw [e]; exact k
    · simp at q2
      have e : decide (n ≤ 32 ∧ at_ + n ≤ N) = false := by rw [decide_eq_false_iff_not]; omega
      rw [e] at k; exact k
  · simp at q1
    have e : decide (n ≤ 32 ∧ at_ + n ≤ N) = false := by rw [decide_eq_false_iff_not]; omega
    rw [e] at k; exact k
def partV (g N at_ n : Nat) : Value := .slice (if 8 * N = 8 * at_ then some ⟨g, 0, none⟩ else some ⟨g, 8 * at_, none⟩) (8 * n) (8 * N - 8 * at_)
theorem part_c {w : World} {b g1 g2 N : Nat} {D M : List UInt8} (h : SpAt w b g1 g2 N D M) {at_ n : Nat} (hn : at_ + n ≤ N) {R : KV} (k : R (partV g1 N at_ n) w) :
    CW.Spec Tryz.prog 206 #[.pointer (some ⟨b, 0, none⟩), .int .i64 (at_ : Int), .int .i64 (n : Int)] w R := by
  apply q103W
  have hN := h.most
  refine withAddr_some ⟨rv g1 D.length, by rw [h.obj.cell]; rfl, _, ?_, k⟩
  rw [wi64_id (n := (at_ : Int) * 8) (by omega) (by omega), wi64_id (n := (at_ : Int) + (n : Int)) (by omega) (by omega), wi64_id (n := ((at_ : Int) + (n : Int)) * 8) (by omega) (by omega)]
  have hb : boundsOf D.length D.length (some (.int .i64 ((at_ : Int) * 8))) (some (.int .i64 (((at_ : Int) + (n : Int)) * 8))) none = some (8 * at_, 8 * at_ + 8 * n, D.length) := by
    rw [bounds_ii (by omega) (by omega) (by rw [h.hD]; omega)]
    simp; omega
  simp only [subSlice, hb, partV, Option.map_some, ad0]
  rw [h.hD]
  congr 2
  · split <;> simp
  · omega
theorem part_rd {w : World} {b g1 g2 N : Nat} {D M : List UInt8} (h : SpAt w b g1 g2 N D M) {at_ n : Nat} (hn : at_ + n ≤ N) : RdB w (partV g1 N at_ n) ((D.drop (8 * at_)).take (8 * n)) := by
  have hN := h.most
  have hD := h.hD
  have hl : ((D.drop (8 * at_)).take (8 * n)).length = 8 * n := by simp; omega
  unfold partV
  refine ⟨if 8 * N = 8 * at_ then some ⟨g1, 0, none⟩ else some ⟨g1, 8 * at_, none⟩, 8 * N - 8 * at_, by rw [List.length_map, hl], by rw [List.length_map, hl]; omega, by simp only [maxLen]; omega, fun e => (by split at e <;> cases e), fun j u hj => ?_⟩
  have hjl : j < 8 * n := by have := (List.getElem?_eq_some_iff.1 hj).1; rw [List.length_map, hl] at this; exact this
  rw [if_neg (by omega)]
  refine ⟨_, rfl, ?_⟩
  have e : (Addr.add ⟨g1, 8 * at_, none⟩ j) = ⟨g1, 8 * at_ + j, none⟩ := by
    unfold Addr.add; split
    · next e => subst e; rfl
    · rfl
  rw [e, BK.at h.dat]
  rw [List.getElem?_map, List.getElem?_take, if_pos hjl, List.getElem?_drop] at hj
  simpa using hj
def layB (D : List UInt8) (o : Nat) (bs : List UInt8) : List UInt8 := D.take o ++ bs ++ D.drop (o + bs.length)
theorem layB_length {D bs : List UInt8} {o : Nat} (h : o + bs.length ≤ D.length) : (layB D o bs).length = D.length := by
  simp [layB]; omega
theorem lay_step {w : World} {g : Nat} {D bs : List UInt8} (h : RB w g D) {o : Nat} (hl : o + bs.length ≤ D.length) :
    RB (w.setCells g o (bs.map b8)) g (layB D o bs) ∧ Only g w (w.setCells g o (bs.map b8)) := by
  refine ⟨?_, ?_⟩
  · have := setCells_set (bs.map b8) o w _ h (by simpa using hl)
    unfold RB
    have e : (((D.map b8).toArray.toList.take o ++ bs.map b8 ++ (D.map b8).toArray.toList.drop (o + (bs.map b8).length))).toArray = ((layB D o bs).map b8).toArray := by
      simp [layB, List.map_take, List.map_drop]
    rw [← e]; exact this
  · exact Step.row (S := fun k => k = g) w ⟨g, o, none⟩ (bs.map b8).toArray rfl
theorem copy_part {w : World} {b g1 g2 N : Nat} {D M : List UInt8} (h : SpAt w b g1 g2 N D M) {at_ n : Nat} (hn : at_ + n ≤ N) {v : Value} {bs : List UInt8} (hv : RdB w v bs) {tx : TypeId} :
    ∃ w', (Builtin.copy_ #[tB, tx] 3 #[partV g1 N at_ n, v]).run Tryz.prog w = .ok (.int .i64 ((min (8 * n) bs.length : Nat) : Int)) w' ∧ Only g1 w w' ∧ SpAt w' b g1 g2 N (layB D (8 * at_) (bs.take (8 * n))) M := by
  obtain ⟨a, cap, rfl, q1, q2, q3, q4⟩ := hv
  have hN := h.most
  have hD := h.hD
  rw [List.length_map] at q1 ⊢
  have hu : Tryz.prog.underlying tB = some (.slice tb) := by kernel_rfl
  have hs : (Tryz.prog.info? tb).map (·.size) = some 1 := by kernel_rfl
  by_cases h0 : min (8 * n) bs.length = 0
  · have hr := run_copy_none (P := Tryz.prog) w tB tx 3 tb (if 8 * N = 8 * at_ then some ⟨g1, 0, none⟩ else some ⟨g1, 8 * at_, none⟩) a (8 * n) (8 * N - 8 * at_) bs.length cap hu hs (by show min _ _ = 0; omega)
    refine ⟨w, ?_, Step.refl _ _, ?_⟩
    · rw [h0]; exact hr
    · have hb : bs.take (8 * n) = [] := by
        apply List.eq_nil_of_length_eq_zero; rw [List.length_take]; omega
      rw [hb]
      have : layB D (8 * at_) [] = D := by simp [layB]
      rw [this]; exact h
  · cases a with
    | none => have := q3 rfl; omega
    | some a =>
      have hlt : ¬ (8 * N = 8 * at_) := by omega
      have hcl : (((bs.take (8 * n)).map b8)).length = Nat.min bs.length (8 * n) := by rw [List.length_map, List.length_take]; show min _ _ = min _ _; omega
      have hr := run_copy_cells (P := Tryz.prog) w tB tx 3 tb g1 (8 * at_) (8 * n) (8 * N - 8 * at_) a bs.length cap ((bs.take (8 * n)).map b8) hu hs hcl
        (fun j u hj => by
          rw [List.map_take, List.getElem?_take] at hj
          split at hj
          · obtain ⟨x, hx, hc⟩ := q4 j u hj; cases hx; exact hc
          · cases hj)
        (fun j hj => by
          have hj' : j < 8 * n := by rw [List.length_map, List.length_take] at hj; omega
          rw [BK.at h.dat]; simp; omega)
        (fun j _ => BK.thaw h.dat _) (fun u hu => by obtain ⟨c, _, rfl⟩ := List.mem_map.1 hu; rfl)
      have hle : 8 * at_ + (bs.take (8 * n)).length ≤ D.length := by rw [List.length_take]; omega
      obtain ⟨s1, s2⟩ := lay_step h.dat hle
      refine ⟨_, ?_, s2, ⟨?_, s1, ?_, by rw [layB_length hle]; exact hD, h.hM, h.pos, h.most, h.n1, h.n2, h.n3⟩⟩
      · unfold partV
        rw [if_neg hlt, hr]
        have : (((bs.take (8 * n)).map b8)).length = min (8 * n) bs.length := by rw [List.length_map, List.length_take]
        rw [this]; rfl
      · rw [layB_length hle]
        exact (s2.block b h.obj.lt h.n1).trans h.obj
      · exact h.map.step s2 (fun e => h.n3 e.symm)
theorem SpAt.turned {w w' : World} {b g1 g2 N : Nat} {D M M' : List UInt8} (h : SpAt w b g1 g2 N D M) (st : Only g2 w w') (hm : RB w' g2 M') (hl : M'.length = M.length) : SpAt w' b g1 g2 N D M' :=
  ⟨by rw [hl]; exact (st.block b h.obj.lt h.n2).trans h.obj, h.dat.step st h.n3, hm, h.hD, hl.trans h.hM, h.pos, h.most, h.n1, h.n2, h.n3⟩
theorem set_c {w : World} {g : Nat} {M : List UInt8} (h : RB w g M) (hn : M.length ≤ 1048576) {f n : Nat} (hf : f ≤ 8388608) (hn2 : n ≤ 8388608) {R : KV} (k : ∀ (c : Int) w', Only g w w' → RB w' g (turnM M f n true) → R (.int .i64 c) w') :
    CW.Spec Tryz.prog 291 #[rv g M.length, .int .i64 (f : Int), .int .i64 (n : Int)] w R := by
  apply q8W
  exact turn_c h hn hf hn2 fun c w' st hr => ⟨_, rfl, k c w' st hr⟩
theorem unset_c {w : World} {g : Nat} {M : List UInt8} (h : RB w g M) (hn : M.length ≤ 1048576) {f n : Nat} (hf : f ≤ 8388608) (hn2 : n ≤ 8388608) {R : KV} (k : ∀ (c : Int) w', Only g w w' → RB w' g (turnM M f n false) → R (.int .i64 c) w') :
    CW.Spec Tryz.prog 292 #[rv g M.length, .int .i64 (f : Int), .int .i64 (n : Int)] w R := by
  apply q9W
  exact turn_c h hn hf hn2 fun c w' st hr => ⟨_, rfl, k c w' st hr⟩
theorem Only.two {g1 g2 : Nat} {w w1 w2 : World} (a : Only g1 w w1) (b : Only g2 w1 w2) : Step (FSp g1 g2) w w2 (FSp g1 g2) :=
  (a.imp (T := FSp g1 g2) (T' := FSp g1 g2) (fun k h => .inl h) (fun k h => .inl h)).then (b.imp (T := FSp g1 g2) (T' := FSp g1 g2) (fun k h => .inr h) (fun k h => .inl h))
theorem write_c {w : World} {b g1 g2 N : Nat} {D M : List UInt8} (h : SpAt w b g1 g2 N D M) {at_ n : Nat} {v : Value} {bs : List UInt8} (hv : RdB w v bs) (hl : bs.length = 8 * n) (ha : at_ ≤ 1000000) {R : KV}
    (bad : ¬ (n ≤ 32 ∧ at_ + n ≤ N) → R (.int .i64 (1 : Int)) w)
    (k : n ≤ 32 → at_ + n ≤ N → ∀ w', Step (FSp g1 g2) w w' (FSp g1 g2) → SpAt w' b g1 g2 N (layB D (8 * at_) bs) (turnM M at_ n true) → R (.int .i64 (0 : Int)) w') :
    CW.Spec Tryz.prog 237 #[.pointer (some ⟨b, 0, none⟩), .int .i64 (at_ : Int), v] w R := by
  apply q102W
  have hle := hv.le
  rw [List.length_map] at hle
  have hlen := RdB.len hv
  have e1 : IntKind.wrap .i64 (Int.tdiv ((bs.length : Nat) : Int) (8 : Int)) = (n : Int) := by
    rw [Int.tdiv_eq_ediv_of_nonneg (by omega), wi64_id (by omega) (by omega)]; omega
  refine ⟨_, hlen, ?_⟩
  rw [e1]
  refine JoinP.bool (fun q w' => q = !(decide (n ≤ 32 ∧ at_ + n ≤ N)) ∧ w' = w) (fun j hj => ⟨_, hlen, cond_f ?_ (In_c h ha ⟨_, rfl, hj _ _ ⟨rfl, rfl⟩⟩)⟩) ?_
  · rw [Int.tmod_eq_emod_of_nonneg (by omega)]
    have : ((bs.length : Nat) : Int) % 8 = 0 := by omega
    rw [this]; rfl
  rintro q w' ⟨rfl, rfl⟩
  refine cond_intro (fun hq => bad (fun hc => by rw [decide_eq_true hc] at hq; cases hq)) (fun hq => ?_)
  have hq' : n ≤ 32 ∧ at_ + n ≤ N := by simpa using hq
  refine part_c h hq'.2 ?_
  obtain ⟨w6, hc, st, sp⟩ := copy_part h hq'.2 hv (tx := tB)
  refine ⟨_, w6, hc, withAddr_some ⟨_, by rw [sp.obj.cell]; rfl, ?_⟩⟩
  have hN := h.most
  refine set_c sp.map (by have := sp.mlen; omega) (by omega) (by omega) fun c w10 st2 hm => ⟨_, rfl, ?_⟩
  refine k hq'.1 hq'.2 w10 (st.two st2) ?_
  have ht : bs.take (8 * n) = bs := List.take_of_length_le (by omega)
  rw [ht] at sp
  exact sp.turned st2 hm (turnM_length _ _ _ _)
theorem clear_run {w : World} {g o n cap : Nat} {D : List UInt8} (h : RB w g D) (hl : o + n ≤ D.length) : (Builtin.clear_ #[tB] 0 #[.slice (some ⟨g, o, none⟩) n cap]).run Tryz.prog w = .ok undef (w.setCells g o ((List.replicate n (0 : UInt8)).map b8)) := by
  have hu : Tryz.prog.underlying tB = some (.slice tb) := by kernel_rfl
  have hz : (Tryz.prog.info? tb).bind (·.zero) = some (.int .u8 0) := by kernel_rfl
  obtain ⟨info, hi, hzz⟩ : ∃ info, Tryz.prog.info? tb = some info ∧ info.zero = some (.int .u8 0) := by
    cases hi : Tryz.prog.info? tb with
    | none => rw [hi] at hz; cases hz
    | some info => rw [hi] at hz; exact ⟨info, rfl, hz⟩
  have hst := run_storeCells_cells (P := Tryz.prog) g o ((List.replicate n (0 : UInt8)).map b8) 0 w (fun j hj => by rw [BK.at h]; simp at hj ⊢; omega) (fun j _ => BK.thaw h _) (fun u hu => by obtain ⟨c, _, rfl⟩ := List.mem_map.1 hu; rfl)
  simp only [Nat.add_zero, List.map_replicate] at hst
  have hzc : (Builtin.zeroCells (Value.int .u8 0).cells n).toList = List.replicate n (b8 0) := by
    have := madeCells_one (.int .u8 0) n
    show ((Array.range (n * 1)).map _).toList = _
    rw [Nat.mul_one]
    exact this
  rw [List.map_replicate]
  cases n with
  | zero => simp [Builtin.clear_, run_underlying hu, undef, World.setCells]
  | succ n => simp [Builtin.clear_, run_underlying hu, zeroValue, typeInfo, hi, hzz, hzc, hst, undef]
theorem unmap_c {w : World} {b g1 g2 N : Nat} {D M : List UInt8} (h : SpAt w b g1 g2 N D M) {at_ n : Nat} (ha : at_ ≤ 1000000) {R : KV}
    (bad : ¬ (n ≤ 32 ∧ at_ + n ≤ N) → R (.int .i64 (1 : Int)) w)
    (k : n ≤ 32 → at_ + n ≤ N → ∀ w', Step (FSp g1 g2) w w' (FSp g1 g2) → SpAt w' b g1 g2 N (layB D (8 * at_) (List.replicate (8 * n) 0)) (turnM M at_ n false) → R (.int .i64 (0 : Int)) w') :
    CW.Spec Tryz.prog 238 #[.pointer (some ⟨b, 0, none⟩), .int .i64 (at_ : Int), .int .i64 (n : Int)] w R := by
  apply q101W
  refine In_c h ha ⟨_, rfl, cond_intro (fun hq => bad (fun hc => by rw [decide_eq_true hc] at hq; cases hq)) (fun hq => ?_)⟩
  have hq' : n ≤ 32 ∧ at_ + n ≤ N := by simpa using hq
  refine part_c h hq'.2 ?_
  have hN := h.most
  have hD := h.hD
  obtain ⟨w6, hc, st, sp⟩ : ∃ w6, (Builtin.clear_ #[tB] 0 #[partV g1 N at_ n]).run Tryz.prog w = .ok undef w6 ∧ Only g1 w w6 ∧ SpAt w6 b g1 g2 N (layB D (8 * at_) (List.replicate (8 * n) 0)) M := by
    have hle : 8 * at_ + (List.replicate (8 * n) (0 : UInt8)).length ≤ D.length := by simp; omega
    obtain ⟨s1, s2⟩ := lay_step h.dat hle
    by_cases h0 : n = 0
    · subst h0
      refine ⟨w, ?_, Step.refl _ _, ?_⟩
      · unfold partV
        have hu : Tryz.prog.underlying tB = some (.slice tb) := by kernel_rfl
        split <;> simp [Builtin.clear_, run_underlying hu, undef]
      · have : layB D (8 * at_) (List.replicate (8 * 0) 0) = D := by simp [layB]
        rw [this]; exact h
    · refine ⟨_, ?_, s2, ⟨?_, s1, h.map.step s2 (fun e => h.n3 e.symm), by rw [layB_length hle]; exact hD, h.hM, h.pos, h.most, h.n1, h.n2, h.n3⟩⟩
      · unfold partV
        rw [if_neg (by omega)]
        exact clear_run h.dat (by omega)
      · rw [layB_length hle]; exact (s2.block b h.obj.lt h.n1).trans h.obj
  refine ⟨_, w6, hc, withAddr_some ⟨_, by rw [sp.obj.cell]; rfl, ?_⟩⟩
  refine unset_c sp.map (by have := sp.mlen; omega) (by omega) (by omega) fun c w10 st2 hm => ⟨_, rfl, ?_⟩
  exact k hq'.1 hq'.2 w10 (st.two st2) (sp.turned st2 hm (turnM_length _ _ _ _))
end
section
open Go Go.CW Go.RowKit
theorem Equal_c {w : World} {v u : Value} {bs cs : List UInt8} {R : KV} (hv : RdB w v bs) (hu : RdB w u cs) (k : R (.bool (decide (bs = cs))) w) : CW.Spec Tryz.prog 134 #[v, u] w R := by
  apply q13W
  refine ⟨_, to_text hv, _, to_text hu, ?_⟩
  rw [text_beq]; exact k
abbrev tM : TypeId := 274
theorem tM_u : Tryz.prog.underlying tM = some (.slice tb) := by kernel_rfl
theorem app_ty (t : TypeId) (a : Option Addr) (n c : Nat) (u : Value) (w : World) : Sem.run Tryz.prog (Builtin.append_ #[tB, tM] t #[.slice a n c, u]) w = Sem.run Tryz.prog (Builtin.append_ #[tB, tB] t #[.slice a n c, u]) w := by
  have hu : Tryz.prog.underlying tB = some (.slice tb) := tyB.und
  simp [Builtin.append_, run_underlying hu, run_underlying tM_u]
theorem RdB.from {w : World} {v : Value} {bs : List UInt8} {n : Nat} (h : RdB w v bs) (hn : n ≤ bs.length) : ∃ v', subSlice v 1 (some (.int .i64 (n : Int))) none none = some v' ∧ RdB w v' (bs.drop n) := by
  obtain ⟨v', h1, h2, _⟩ := Rd.sub h (lo := some (.int .i64 (n : Int))) (hi := none) (l := n) (r := bs.length) (fun cap hc => by rw [bounds_in (by omega) (by simp; omega)]; simp) (by omega) (by simp)
  refine ⟨v', h1, ?_⟩
  have e : List.take (bs.length - n) (List.drop n (bs.map b8)) = (bs.drop n).map b8 := by
    rw [List.take_of_length_le (by simp), List.map_drop]
  rw [e] at h2
  exact h2
def part (D : List UInt8) (r : Nat × Nat) : List UInt8 := (D.drop (8 * r.1)).take (8 * r.2)
def encS (N : Nat) (D M : List UInt8) : List UInt8 := putL (N : Int) 2 ++ M ++ (runsL M).flatMap (part D)
theorem part_length {N : Nat} {D : List UInt8} (hD : D.length = 8 * N) {r : Nat × Nat} (h : r.1 + r.2 ≤ N) : (part D r).length = 8 * r.2 := by
  simp [part]; omega
theorem parts_length {N : Nat} {D : List UInt8} (hD : D.length = 8 * N) : ∀ {L : List (Nat × Nat)}, (∀ r ∈ L, r.1 + r.2 ≤ N) → (L.flatMap (part D)).length = 8 * (L.map (·.2)).sum
  | [], _ => rfl
  | r :: L, h => by
    rw [List.flatMap_cons, List.length_append, part_length hD (h r (List.mem_cons_self ..)), parts_length hD (fun x hx => h x (List.mem_cons_of_mem _ hx))]
    simp [Nat.mul_add]
theorem sum_take (L : List (Nat × Nat)) (k : Nat) : ((L.take k).map (·.2)).sum ≤ (L.map (·.2)).sum := by
  have : (L.map (·.2)).sum = ((L.take k).map (·.2)).sum + ((L.drop k).map (·.2)).sum := by
    rw [← List.sum_append, ← List.map_append, List.take_append_drop]
  omega
theorem encS_length {w : World} {b g1 g2 N : Nat} {D M : List UInt8} (h : SpAt w b g1 g2 N D M) (hu : Under N M) : (encS N D M).length = 2 + M.length + 8 * popL M := by
  unfold encS
  rw [List.length_append, List.length_append, putL_length, parts_length h.hD (fun r hr => (runsL_le hu r hr).2), runsL_sum]
theorem runs_ld {w : World} {v : Value} {L : List (Nat × Nat)} (h : RdR ER w v L) {k : Nat} (hk : k < L.length) : ∃ a, sliceAt v (k : Int) 2 = some a ∧ ldCells w a 2 #[.int .i64 (L[k].1 : Int), .int .i64 (L[k].2 : Int)] := by
  obtain ⟨a, h1, h2, _⟩ := h.at (i := (k : Int)) (by omega) (by omega)
  exact ⟨a, h1, ldCells_of (vs := ER.enc L[k]) rfl (fun j hj => (h2 j hj).trans (by simp))⟩
theorem Encode_c {w : World} {b g1 g2 N : Nat} {D M : List UInt8} (h : SpAt w b g1 g2 N D M) (hu : Under N M) {R : KV} (k : ∀ v w', Grow w w' → RdB w' v (encS N D M) → R v w') :
    CW.Spec Tryz.prog 125 #[.pointer (some ⟨b, 0, none⟩)] w R := by
  apply q98W
  have hN := h.most
  have hpos := h.pos
  have hM := h.mlen
  have hMl := h.hM
  refine nm fun w0 e0 => ?_
  have h0 := h.grow (drE e0)
  refine withAddr_some ⟨_, by rw [h0.obj.cell]; rfl, withAddr_some ⟨rv g2 M.length, by rw [h0.obj.cell]; rfl, nm fun w5 e5 => ?_⟩⟩
  have g5 : Grow w w5 := drE e5
  rw [w64_id (by omega) (by omega)]
  refine bin_Put_w (bs := []) (Rd.nil w5) (by simp) ⟨by omega, by omega⟩ fun v6 w7 g7 wr7 f7 nv7 => ?_
  have h7 := (h.grow g5).grow g7
  have g07 : Grow w w7 := g5.then g7
  refine ⟨⟨_, by rw [h7.obj.cell]; rfl, rfl⟩, ?_⟩
  have hr7 : Rd w7 v6 ((putL (N : Int) 2).map b8) := by simpa using wr7.1
  obtain ⟨v9, w10, k1, k2, k3⟩ := app_ful tyB hr7 f7 (h7.map.rd (by simp only [maxLen]; omega)) one_b8 (by intro e; rw [List.map_eq_nil_iff] at e; rw [e] at hMl; simp at hMl; omega) (by simp [putL_length]; omega)
  have h10 := h7.grow k3
  refine ⟨v9, w10, by obtain ⟨a6, c6, rfl, _⟩ := hr7; rw [app_ty]; exact k1, withAddr_some ⟨rv g2 M.length, by rw [h10.obj.cell]; rfl, ?_⟩⟩
  refine runs_c h10.map (by omega) fun v13 w14 g14 r14 t14 => ⟨_, r14.len, ?_⟩
  have h14 := h10.grow g14
  have g014 : Grow w w14 := (g07.then k3).then g14
  have o14 : OwnB w14 w7.heap.size tb v9 (putL (N : Int) 2 ++ M) := by
    have := Own.grow k2 g14
    rw [← List.map_append] at this
    exact this
  generalize hL : runsL M = L at r14
  have g714 : Grow w7 w14 := k3.then g14
  have hin : ∀ r ∈ L, r.1 + r.2 ≤ N := fun r hr => (runsL_le hu r (by rw [hL]; exact hr)).2
  have hsum : (L.map (·.2)).sum ≤ 1024 := by rw [← hL, runsL_sum]; have := popL_le M; omega
  refine ⟨fun (v17 : Value) (n18 : Int) (w19 : World) => ∃ q : Nat, n18 = (q : Int) ∧ q ≤ L.length ∧ Grow w7 w19 ∧ RdR ER w19 v13 L ∧ (∀ x, v13.ownBlock = some x → ∃ cs, BK w19 x cs tR2) ∧ OwnB w19 w7.heap.size tb v17 ((putL (N : Int) 2 ++ M) ++ (L.take q).flatMap (part D)), fun (_ : Value) (n18 : Int) (_ : World) => ((L.length : Int) - n18).toNat,
    ⟨0, rfl, Nat.zero_le _, g714, r14, fun x hx => (t14 x hx).2, by simpa using o14⟩, ?_⟩
  dsimp only [allR, mapR2, eqN, ltN]
  rintro m v17 n18 w19 ⟨⟨q, rfl, hq, g19, r19, t19, o19⟩, hm⟩
  have h19 := h7.grow g19
  refine cond_intro (fun hc => ?_) (fun hc => ?_)
  · have hlt : q < L.length := by simpa using hc
    obtain ⟨a, ha, hld⟩ := runs_ld r19 hlt
    refine ⟨a, ha, _, _, hld, nm fun w23 e23 => ?_⟩
    obtain ⟨bk, gr, sz⟩ := alE e23
    refine ⟨bk.row rfl rfl, nm fun w24 e24 => ?_⟩
    obtain ⟨bk2, tn⟩ := rowE bk e24 rfl
    have g24 : Grow w19 w24 := Below.turn gr tn (Nat.le_refl _)
    have hrin := hin L[q] (List.getElem_mem _)
    refine ⟨⟨by decide, by decide⟩, _, by rw [bk2.cell]; rfl, ⟨by decide, by decide⟩, _, by rw [bk2.cell]; rfl, ?_⟩
    refine part_c (h19.grow g24) hrin ?_
    have sz7 : w7.heap.size ≤ w24.heap.size := Nat.le_trans g19.size g24.size
    have hlen : ((L.take q).flatMap (part D)).length ≤ 8 * 1024 := by
      rw [parts_length h.hD (fun r hr => hin r (List.mem_of_mem_take hr))]
      have := sum_take L q
      omega
    obtain ⟨v29, w30, a1, a2, a3⟩ := app_bytes (Own.grow o19 g24) (part_rd (h19.grow g24) hrin) sz7 (by
      have := part_length h.hD hrin
      unfold part at this
      rw [this]
      simp only [List.length_append, putL_length]; omega)
    refine ⟨v29, w30, a1, ?_⟩
    have hle := r19.le
    rw [wi64_id (by omega) (by omega)]
    refine ⟨⟨q + 1, by omega, by omega, ?_⟩, by omega⟩
    · have st := Step.of_own (S := fun x => v17.ownBlock = some x) a3 (fun _ h => h)
      have hne : ∀ x, v13.ownBlock = some x → ¬ v17.ownBlock = some x := fun x hx => by
        obtain ⟨cs, hb⟩ := t19 x hx
        exact own_ne o19 hb (by decide)
      have hlt : ∀ x, v13.ownBlock = some x → x < w24.heap.size := fun x hx => by
        obtain ⟨cs, hb⟩ := t19 x hx
        exact (hb.grow g24).lt
      refine ⟨(g19.then g24).trans (a3.below sz7 o19.blk), (r19.grow g24).stable fun x hx => st.block x (hlt x hx) (hne x hx), fun x hx => ?_, ?_⟩
      · obtain ⟨cs, hb⟩ := t19 x hx
        exact ⟨cs, (st.block x (hlt x hx) (hne x hx)).trans (hb.grow g24)⟩
      · have e : L.take (q + 1) = L.take q ++ [L[q]] := by rw [List.take_add_one, List.getElem?_eq_getElem (by omega)]; rfl
        rw [e, List.flatMap_append, ← List.append_assoc]
        simpa [part] using a2
  · have hge : q = L.length := by simp at hc; omega
    subst hge
    rw [List.take_length] at o19
    refine slices_Clip_c o19.rd fun v' hr _ => k v' w19 (g07.then g19) ?_
    unfold encS
    rw [hL]; exact hr
end
section
open Go Go.CW Go.RowKit
def layR (D : List UInt8) (L : List (Nat × Nat)) (X : List UInt8) : List UInt8 := L.foldl (fun X r => layB X (8 * r.1) (part D r)) X
theorem layB_at {X bs : List UInt8} {o : Nat} (h : o + bs.length ≤ X.length) (j : Nat) : (layB X o bs)[j]? = if o ≤ j ∧ j < o + bs.length then bs[j - o]? else X[j]? := by
  have ht : (X.take o).length = o := by rw [List.length_take]; omega
  unfold layB
  rw [List.append_assoc]
  by_cases h1 : j < o
  · rw [if_neg (by omega), List.getElem?_append_left (by rw [ht]; exact h1), List.getElem?_take, if_pos h1]
  · rw [List.getElem?_append_right (by rw [ht]; omega), ht]
    by_cases h2 : j < o + bs.length
    · rw [if_pos (by omega), List.getElem?_append_left (by omega)]
    · rw [if_neg (by omega), List.getElem?_append_right (by omega), List.getElem?_drop]
      congr 1; omega
theorem layR_length {N : Nat} {D : List UInt8} (hD : D.length = 8 * N) : ∀ (L : List (Nat × Nat)) (X : List UInt8), (∀ r ∈ L, r.1 + r.2 ≤ N) → X.length = 8 * N → (layR D L X).length = 8 * N
  | [], X, _, hX => hX
  | r :: L, X, h, hX => by
    have hr := h r (List.mem_cons_self ..)
    have hp := part_length hD hr
    exact layR_length hD L _ (fun x hx => h x (List.mem_cons_of_mem _ hx)) (by rw [layB_length (by rw [hp, hX]; omega)]; exact hX)
theorem layR_at {N : Nat} {D : List UInt8} (hD : D.length = 8 * N) : ∀ (L : List (Nat × Nat)) (X : List UInt8), (∀ r ∈ L, r.1 + r.2 ≤ N) → X.length = 8 * N → ∀ j,
    ((∃ r ∈ L, r.1 ≤ j / 8 ∧ j / 8 < r.1 + r.2) → (layR D L X)[j]? = D[j]?) ∧ ((¬ ∃ r ∈ L, r.1 ≤ j / 8 ∧ j / 8 < r.1 + r.2) → (layR D L X)[j]? = X[j]?)
  | [], X, _, hX, j => ⟨(fun ⟨r, hr, _⟩ => absurd hr (by simp)), fun _ => rfl⟩
  | r :: L, X, h, hX, j => by
    have hr := h r (List.mem_cons_self ..)
    have hp := part_length hD hr
    have hle : 8 * r.1 + (part D r).length ≤ X.length := by rw [hp, hX]; omega
    obtain ⟨i1, i2⟩ := layR_at hD L (layB X (8 * r.1) (part D r)) (fun x hx => h x (List.mem_cons_of_mem _ hx)) (by rw [layB_length hle]; exact hX) j
    have hb := layB_at hle j
    rw [hp] at hb
    have hin : r.1 ≤ j / 8 ∧ j / 8 < r.1 + r.2 → (layB X (8 * r.1) (part D r))[j]? = D[j]? := fun hh => by
      rw [hb, if_pos (by omega)]
      unfold part
      rw [List.getElem?_take, if_pos (by omega), List.getElem?_drop]
      congr 1; omega
    have hout : ¬ (r.1 ≤ j / 8 ∧ j / 8 < r.1 + r.2) → (layB X (8 * r.1) (part D r))[j]? = X[j]? := fun hh => by
      rw [hb, if_neg (by omega)]
    constructor
    · rintro ⟨x, hx, hj⟩
      by_cases c : ∃ r ∈ L, r.1 ≤ j / 8 ∧ j / 8 < r.1 + r.2
      · exact i1 c
      · rcases List.mem_cons.1 hx with rfl | hx
        · exact (i2 c).trans (hin hj)
        · exact absurd ⟨x, hx, hj⟩ c
    · intro c
      have c1 : ¬ ∃ r ∈ L, r.1 ≤ j / 8 ∧ j / 8 < r.1 + r.2 := fun ⟨x, hx, hj⟩ => c ⟨x, List.mem_cons_of_mem _ hx, hj⟩
      exact (i2 c1).trans (hout fun hj => c ⟨r, List.mem_cons_self .., hj⟩)
def Zero0 (N : Nat) (D M : List UInt8) : Prop := ∀ j, j < 8 * N → has M (j / 8) = false → D[j]? = some 0
theorem layR_all {N : Nat} {D M : List UInt8} (hD : D.length = 8 * N) (hu : Under N M) (hz : Zero0 N D M) : layR D (runsL M) (List.replicate (8 * N) 0) = D := by
  have hin : ∀ r ∈ runsL M, r.1 + r.2 ≤ N := fun r hr => (runsL_le hu r hr).2
  apply List.ext_getElem?
  intro j
  obtain ⟨h1, h2⟩ := layR_at hD (runsL M) (List.replicate (8 * N) 0) hin (by simp) j
  have hc := runsL_cover M (j / 8)
  cases hh : has M (j / 8) with
  | true => exact h1 (hc.2 hh)
  | false =>
    rw [h2 (fun c => by rw [hc.1 c] at hh; cases hh)]
    by_cases hj : j < 8 * N
    · rw [hz j hj hh, List.getElem?_replicate, if_pos hj]
    · rw [List.getElem?_eq_none (by simp; omega), List.getElem?_eq_none (by omega)]
theorem copy_row {w : World} {g : Nat} {X bs : List UInt8} (h : RB w g X) (h0 : 0 < X.length) {v : Value} (hv : RdB w v bs) (hl : X.length ≤ bs.length) :
    ∃ w', (Builtin.copy_ #[tM, tB] 3 #[rv g X.length, v]).run Tryz.prog w = .ok (.int .i64 (X.length : Int)) w' ∧ Only g w w' ∧ RB w' g (bs.take X.length) := by
  obtain ⟨a, cap, rfl, q1, q2, q3, q4⟩ := hv
  rw [List.length_map] at q1 ⊢
  have hs : (Tryz.prog.info? tb).map (·.size) = some 1 := by kernel_rfl
  cases a with
  | none => have := q3 rfl; omega
  | some a =>
    have hcl : (((bs.take X.length).map b8)).length = Nat.min bs.length X.length := by rw [List.length_map, List.length_take]; show min _ _ = min _ _; omega
    have hr := run_copy_cells (P := Tryz.prog) w tM tB 3 tb g 0 X.length X.length a bs.length cap ((bs.take X.length).map b8) tM_u hs hcl
        (fun j u hj => by
          rw [List.map_take, List.getElem?_take] at hj
          split at hj
          · obtain ⟨x, hx, hc⟩ := q4 j u hj; cases hx; exact hc
          · cases hj)
        (fun j hj => by
          have hj' : j < X.length := by rw [List.length_map, List.length_take] at hj; omega
          rw [BK.at h]; simp; omega)
        (fun j _ => BK.thaw h _) (fun u hu => by obtain ⟨c, _, rfl⟩ := List.mem_map.1 hu; rfl)
    have hle : 0 + (bs.take X.length).length ≤ X.length := by rw [List.length_take]; omega
    obtain ⟨s1, s2⟩ := lay_step h hle
    refine ⟨_, ?_, s2, ?_⟩
    · rw [hr]
      have : (((bs.take X.length).map b8)).length = X.length := by rw [List.length_map, List.length_take]; omega
      rw [this]; rfl
    · have e : layB X 0 (bs.take X.length) = bs.take X.length := by
        unfold layB
        rw [List.drop_of_length_le (by rw [List.length_take]; omega)]
        simp
      rw [e] at s1
      exact s1
theorem Decode_c {w : World} {v : Value} {b0 g10 g20 N : Nat} {D M : List UInt8} {wo : World} (h0 : SpAt wo b0 g10 g20 N D M) (hu : Under N M) (hz : Zero0 N D M) (hv : RdB w v (encS N D M)) {R : KV}
    (k : ∀ b g1 g2 w', Grow w w' → w.heap.size ≤ b → w.heap.size ≤ g1 → w.heap.size ≤ g2 → SpAt w' b g1 g2 N D M → R (.tuple #[.pointer (some ⟨b, 0, none⟩), .int .i64 (0 : Int)]) w') :
    CW.Spec Tryz.prog 129 #[v] w R := by
  apply q94W
  have hN := h0.most
  have hpos := h0.pos
  have hMl := h0.hM
  have hM := h0.mlen
  have hD := h0.hD
  have hlen := encS_length h0 hu
  refine bin_Get_c hv (by decide) (by decide) ⟨_, _, rfl, ?_⟩
  have hget : getV (encS N D M) 0 2 = (N : Int) := by
    have := getV_at (pre := []) (post := M ++ (runsL M).flatMap (part D)) (x := (N : Int)) (n := 2) (by omega) (by omega) (a := 0) (by simp)
    unfold encS
    rw [List.append_assoc]
    rw [List.nil_append] at this
    rw [show ((2 : Nat) : Int) = (2 : Int) from rfl] at this
    rw [this]
    omega
  rw [hget, wi64_id (by omega) (by omega)]
  refine spaceNew_c hpos hN fun b g1 g2 w5 g5 hb hg1 hg2 sp => ⟨_, _, rfl, ?_⟩
  have hz0 : (List.replicate ((N + 7) / 8) (0 : UInt8)).length = M.length := by simp; omega
  refine JoinP.bool (fun q w' => q = false ∧ w' = w5) (fun j hj => cond_f rfl ⟨_, (hv.grow g5).len, withAddr_some ⟨_, by rw [sp.obj.cell]; rfl, _, rfl, hj _ _ ⟨?_, rfl⟩⟩⟩) ?_
  · rw [hz0, wi64_id (by omega) (by omega)]
    simp only [List.length_map, decide_eq_false_iff_not, hlen]; omega
  rintro q w' ⟨rfl, rfl⟩
  refine cond_f rfl (nm fun w10 e10 => ?_)
  have sp10 := sp.grow (drE e10)
  obtain ⟨v13, hs13, hr13⟩ := RdB.from (n := 2) (hv.grow g5) (by omega)
  refine withAddr_some ⟨_, by rw [sp10.obj.cell]; rfl, v13, hs13, nm fun w14 e14 => ?_⟩
  have gd14 := drE e14
  have sp14 := sp.grow gd14
  have g14 : Grow w w14 := g5.then gd14
  obtain ⟨w16, hc, st, rb⟩ := copy_row sp14.map (by rw [hz0]; omega) (hr13.grow gd14) (by rw [List.length_drop, hz0]; omega)
  have g16 : Grow w w16 := Step.to_below (B := w.heap.size) st g14.size (fun k hk => by subst hk; exact hg2) |> g14.trans
  rw [hz0] at rb
  have hmap : ((encS N D M).drop 2).take M.length = M := by
    unfold encS
    rw [List.append_assoc, List.drop_left' (by simp [putL_length]), List.take_left]
  rw [hmap] at rb
  have sp16 := sp14.turned st rb hz0.symm
  refine ⟨_, w16, hc, ?_⟩
  obtain ⟨v17, hs17, hr17⟩ := RdB.from (n := 2 + M.length) hv (by omega)
  rw [hz0, wi64_id (by omega) (by omega)]
  refine ⟨v17, by rw [← hs17]; rfl, withAddr_some ⟨rv g2 M.length, by rw [sp16.obj.cell]; rfl, ?_⟩⟩
  refine runs_c sp16.map (by omega) fun v20 w21 g21 r21 t21 => ⟨_, r21.len, ?_⟩
  have sp21 := sp16.grow g21
  generalize hL : runsL M = L at r21
  have hin : ∀ r ∈ L, r.1 + r.2 ≤ N := fun r hr => (runsL_le hu r (by rw [hL]; exact hr)).2
  have hrest : (encS N D M).drop (2 + M.length) = L.flatMap (part D) := by
    unfold encS
    rw [List.drop_left' (by simp [putL_length]), hL]
  rw [hrest] at hr17
  refine ⟨fun (v24 : Value) (n25 : Int) (w26 : World) => ∃ q : Nat, n25 = (q : Int) ∧ q ≤ L.length ∧ Grow w w26 ∧ SpAt w26 b g1 g2 N (layR D (L.take q) (List.replicate (8 * N) 0)) M ∧ RdB w v24 ((L.drop q).flatMap (part D)) ∧ RdR ER w26 v20 L ∧ (∀ x, v20.ownBlock = some x → x ≠ g1 ∧ x < w26.heap.size),
    fun (_ : Value) (n25 : Int) (_ : World) => ((L.length : Int) - n25).toNat, ⟨0, rfl, Nat.zero_le _, g16.then g21, by simpa [layR] using sp21, by simpa using hr17, r21, fun x hx => ?_⟩, ?_⟩
  · obtain ⟨t1, cs, t2⟩ := t21 x hx
    exact ⟨fun e => by have := sp16.dat.lt; omega, t2.lt⟩
  dsimp only [allR, mapR2, eqN, ltN]
  rintro m v24 n25 w26 ⟨⟨q, rfl, hq, g26, sp26, r24, r26, t26⟩, hm⟩
  refine cond_intro (fun hc => ?_) (fun hc => ?_)
  · have hlt : q < L.length := by simpa using hc
    obtain ⟨a, ha, hld⟩ := runs_ld r26 hlt
    refine ⟨a, ha, _, _, hld, nm fun w30 e30 => ?_⟩
    obtain ⟨bk, gr, sz⟩ := alE e30
    refine ⟨bk.row rfl rfl, nm fun w31 e31 => ?_⟩
    obtain ⟨bk2, tn⟩ := rowE bk e31 rfl
    have g31 : Grow w26 w31 := Below.turn gr tn (Nat.le_refl _)
    have hrin := hin L[q] (List.getElem_mem _)
    have hpl := part_length hD hrin
    have hdr : L.drop q = L[q] :: L.drop (q + 1) := by simp
    have hfl : (L.drop q).flatMap (part D) = part D L[q] ++ (L.drop (q + 1)).flatMap (part D) := by rw [hdr, List.flatMap_cons]
    rw [hfl] at r24
    have hle := r24.le
    rw [List.length_map] at hle
    refine JoinP.bool (fun z w' => z = false ∧ w' = w31.drew) (fun j hj => ?_) ?_
    · refine nm fun w42 e42 => ?_
      have gd := drE e42
      have bk3 := bk2.grow gd
      have sp42 := sp26.grow (g31.then gd)
      refine ⟨⟨by decide, by decide⟩, _, by rw [bk3.cell]; rfl, ⟨by decide, by decide⟩, _, by rw [bk3.cell]; rfl, withAddr_some ⟨(N : Int), by rw [sp42.obj.cell]; rfl, cond_f ?_ ⟨_, r24.len, ⟨by decide, by decide⟩, _, by rw [bk3.cell]; rfl, nm fun w50 e50 => hj _ _ ⟨?_, e50⟩⟩⟩⟩
      · rw [wi64_id (by omega) (by omega), decide_eq_false_iff_not]; omega
      · rw [wi64_id (by omega) (by omega), decide_eq_false_iff_not, List.length_append, hpl]; omega
    rintro z w33 ⟨rfl, e33⟩
    have gd := drE e33
    have g33 := g31.then gd
    have bk3 := bk2.grow gd
    refine cond_f rfl ⟨⟨by decide, by decide⟩, _, by rw [bk3.cell]; rfl, ⟨by decide, by decide⟩, _, by rw [bk3.cell]; rfl, ?_⟩
    refine part_c (sp26.grow g33) hrin ?_
    obtain ⟨w39, hcp, stp, sp39⟩ := copy_part (sp26.grow g33) hrin (r24.grow (g26.then g33)) (tx := tB)
    have hmin : min (8 * L[q].2) (part D L[q] ++ (L.drop (q + 1)).flatMap (part D)).length = 8 * L[q].2 := by rw [List.length_append, hpl]; omega
    rw [hmin] at hcp
    have htk : (part D L[q] ++ (L.drop (q + 1)).flatMap (part D)).take (8 * L[q].2) = part D L[q] := List.take_left' hpl
    rw [htk] at sp39
    have g39 : Grow w w39 := (Step.to_below (B := w.heap.size) stp ((g26.then g33).size) (fun k hk => by subst hk; exact hg1)) |> (g26.then g33).trans
    obtain ⟨v40, hs40, hr40⟩ := RdB.from (n := 8 * L[q].2) r24 (by rw [List.length_append, hpl]; omega)
    rw [List.drop_left' hpl] at hr40
    refine ⟨_, w39, hcp, v40, hs40, ?_⟩
    have hle2 := r26.le
    rw [wi64_id (by omega) (by omega)]
    refine ⟨⟨q + 1, by omega, by omega, g39, ?_, hr40, (r26.grow g33).stable fun x hx => stp.block x (Nat.lt_of_lt_of_le (t26 x hx).2 g33.size) (t26 x hx).1, fun x hx => ⟨(t26 x hx).1, Nat.lt_of_lt_of_le (t26 x hx).2 (Nat.le_trans g33.size stp.size)⟩⟩, by omega⟩
    have e : L.take (q + 1) = L.take q ++ [L[q]] := by rw [List.take_add_one, List.getElem?_eq_getElem hlt]; rfl
    have e2 : layR D (L.take (q + 1)) (List.replicate (8 * N) 0) = layB (layR D (L.take q) (List.replicate (8 * N) 0)) (8 * L[q].1) (part D L[q]) := by
      rw [e]; unfold layR; rw [List.foldl_append]; rfl
    rw [e2]
    exact sp39
  · have hge : q = L.length := by simp at hc; omega
    subst hge
    rw [List.take_length, ← hL, layR_all hD hu hz] at sp26
    refine Encode_c sp26 hu fun v51 w52 g52 r51 => ?_
    refine Equal_c r51 (hv.grow (g26.then g52)) ⟨_, rfl, cond_f (by simp) ?_⟩
    exact k b g1 g2 w52 (g26.then g52) hb hg1 hg2 (sp26.grow g52)
end
end Go.Proofs.YtghineciiljeoaaGreatDoor
