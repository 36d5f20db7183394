/- Maps of bits: Count, Next, Runs. -/
import Derived.Test.YtnclgknfccliiaaGreatDoorBitP
import Derived.Test.YtnclgknfccliiaaGreatDoorGClp
set_option linter.unusedVariables false
set_option linter.unusedSimpArgs false
set_option maxRecDepth 100000
namespace Go.Proofs.YtnclgknfccliiaaGreatDoor
open Go Go.CW Go.RowKit

/-! ### how many are set -/
def tb01 (b : Bool) : Nat := bif b then 1 else 0
def popc (c : UInt8) : Nat := tb01 (c.toNat.testBit 0) + tb01 (c.toNat.testBit 1) + tb01 (c.toNat.testBit 2) + tb01 (c.toNat.testBit 3) + tb01 (c.toNat.testBit 4) + tb01 (c.toNat.testBit 5) + tb01 (c.toNat.testBit 6) + tb01 (c.toNat.testBit 7)
def popL (M : List UInt8) : Nat := (M.map popc).sum

theorem kern_val : ∀ c : Fin 256, c.val ≠ 0 → bitsI .and .u8 (c.val : Int) (IntKind.wrap .u8 ((c.val : Int) - (1 : Int))) = ((UInt8.ofNat c.val &&& (UInt8.ofNat c.val - 1)).toNat : Int) ∧ popc (UInt8.ofNat c.val &&& (UInt8.ofNat c.val - 1)) + 1 = popc (UInt8.ofNat c.val) ∧ (UInt8.ofNat c.val &&& (UInt8.ofNat c.val - 1)).toNat < c.val := by decide +kernel

theorem kern_step (c : UInt8) (h : c.toNat ≠ 0) : bitsI .and .u8 (c.toNat : Int) (IntKind.wrap .u8 ((c.toNat : Int) - (1 : Int))) = ((c &&& (c - 1)).toNat : Int) ∧ popc (c &&& (c - 1)) + 1 = popc c ∧ (c &&& (c - 1)).toNat < c.toNat := by
  have := kern_val ⟨c.toNat, c.toNat_lt⟩ h
  simpa using this

theorem popc_le (c : UInt8) : popc c ≤ 8 := by
  have : ∀ b, tb01 b ≤ 1 := fun b => by cases b <;> simp [tb01]
  unfold popc
  have h0 := this (c.toNat.testBit 0); have h1 := this (c.toNat.testBit 1); have h2 := this (c.toNat.testBit 2); have h3 := this (c.toNat.testBit 3)
  have h4 := this (c.toNat.testBit 4); have h5 := this (c.toNat.testBit 5); have h6 := this (c.toNat.testBit 6); have h7 := this (c.toNat.testBit 7)
  omega

theorem popL_take (M : List UInt8) (i : Nat) (h : i < M.length) : popL (M.take (i + 1)) = popL (M.take i) + popc (M.getD i 0) := by
  have e : M.getD i 0 = M[i] := by rw [List.getD_eq_getElem?_getD, List.getElem?_eq_getElem h]; rfl
  rw [List.take_succ_eq_append_getElem h, e]
  unfold popL
  rw [List.map_append, List.sum_append]
  rfl

theorem popL_le (M : List UInt8) : popL M ≤ 8 * M.length := by
  induction M with
  | nil => simp [popL]
  | cons c M ih => have := popc_le c; simp only [popL, List.map_cons, List.sum_cons, List.length_cons] at ih ⊢; omega

theorem count_c {w : World} {g : Nat} {M : List UInt8} (h : RB w g M) (hn : M.length ≤ 1048576) {R : KV} (k : R (.int .i64 (popL M : Int)) w) : Go.CW.Spec Tryz.prog 23 #[rv g M.length] w R := by
  apply bits_Map_Count_m_wp
  have hle := popL_le M
  refine ⟨_, rfl, fun (n2 n3 : Int) (w' : World) => w' = w ∧ ∃ i : Nat, i ≤ M.length ∧ n3 = (i : Int) ∧ n2 = (popL (M.take i) : Int), fun (_ n3 : Int) (_ : World) => ((M.length : Int) - n3).toNat, ⟨rfl, 0, Nat.zero_le _, rfl, rfl⟩, ?_⟩
  dsimp only [allR, mapR2, eqN, ltN]
  rintro m n2 n3 w' ⟨⟨rfl, i, hi, rfl, rfl⟩, hm⟩
  have htl := popL_le (M.take i)
  simp only [List.length_take] at htl
  refine cond_intro (fun hlt => ?_) (fun hge => ?_)
  · simp at hlt
    refine ⟨_, rv_at hlt, _, h.at hlt, ?_⟩
    have hp8 := popc_le (M.getD i 0)
    refine ⟨fun (n8 n9 : Int) (w2 : World) => w2 = w' ∧ ∃ c : UInt8, n9 = (c.toNat : Int) ∧ 0 ≤ n8 ∧ n8 + popc c = ((popL (M.take i) + popc (M.getD i 0) : Nat) : Int), fun (_ n9 : Int) (_ : World) => n9.toNat, ⟨rfl, _, rfl, by omega, by omega⟩, ?_⟩
    dsimp only [allR, mapR2, eqN, ltN]
    rintro m2 n8 n9 w2 ⟨⟨rfl, c, rfl, h8, hc⟩, hm2⟩
    refine cond_intro (fun hpos => ?_) (fun hz => ?_)
    · simp at hpos
      obtain ⟨k1, k2, k3⟩ := kern_step c (by omega)
      rw [k1, wi64_id (n := n8 + 1) (by omega) (by omega)]
      refine ⟨⟨rfl, _, rfl, by omega, by omega⟩, ?_⟩
      omega
    · simp at hz
      have hc0 : c.toNat = 0 := by omega
      have hcz : c = 0 := UInt8.toNat_inj.1 hc0
      have hp0 : popc c = 0 := by rw [hcz]; rfl
      rw [wi64_id (n := (i : Int) + 1) (by omega) (by omega)]
      refine ⟨⟨rfl, i + 1, by omega, by omega, ?_⟩, ?_⟩
      · rw [popL_take M i hlt]; omega
      · change ((M.length : Int) - ((i : Int) + 1)).toNat < m
        omega
  · simp at hge
    have : i = M.length := by omega
    subst this
    rw [List.take_of_length_le (Nat.le_refl _)]
    exact k

/-! ### the next one -/
def nextM (M : List UInt8) (a : Nat) (s : Bool) : Option Nat := (List.range (8 * M.length)).find? (fun i => decide (a ≤ i) && (has M i == s))

theorem nextM_some {M : List UInt8} {a j : Nat} {s : Bool} : nextM M a s = some j ↔ (a ≤ j ∧ has M j = s ∧ j < 8 * M.length ∧ ∀ i, a ≤ i → i < j → has M i ≠ s) := by
  unfold nextM
  rw [List.find?_range_eq_some]
  simp only [Bool.and_eq_true, decide_eq_true_eq, beq_iff_eq, List.mem_range, Bool.not_eq_true', Bool.and_eq_false_iff, decide_eq_false_iff_not, beq_eq_false_iff_ne]
  constructor
  · rintro ⟨⟨h1, h2⟩, h3, h4⟩
    exact ⟨h1, h2, h3, fun i hi hij => (h4 i hij).resolve_left (fun e => e hi)⟩
  · rintro ⟨h1, h2, h3, h4⟩
    exact ⟨⟨h1, h2⟩, h3, fun i hij => by by_cases hi : a ≤ i; exact .inr (h4 i hi hij); exact .inl hi⟩

theorem nextM_none {M : List UInt8} {a : Nat} {s : Bool} : nextM M a s = none ↔ ∀ i, a ≤ i → i < 8 * M.length → has M i ≠ s := by
  unfold nextM
  rw [List.find?_eq_none]
  simp only [List.mem_range, Bool.and_eq_true, decide_eq_true_eq, beq_iff_eq, not_and]
  exact ⟨fun h i h1 h2 => h i h2 h1, fun h i h1 h2 => h i h2 h1⟩

def nextV : Option Nat → Value
  | some j => .tuple #[.int .i64 (j : Int), .bool true]
  | none => .tuple #[.int .i64 (0 : Int), .bool false]

theorem next_c {w : World} {g : Nat} {M : List UInt8} (h : RB w g M) (hn : M.length ≤ 1048576) {a : Nat} (ha : a ≤ 8 * M.length) {s : Bool} {R : KV} (k : R (nextV (nextM M a s)) w) : Go.CW.Spec Tryz.prog 103 #[rv g M.length, .int .i64 (a : Int), .bool s] w R := by
  apply bits_Map_Next_m_wp
  refine ⟨fun (n1 : Int) (w' : World) => w' = w ∧ ∃ i : Nat, n1 = (i : Int) ∧ a ≤ i ∧ i ≤ 8 * M.length ∧ ∀ x, a ≤ x → x < i → has M x ≠ s, fun (n1 : Int) (_ : World) => ((8 * M.length + 1 : Nat) - n1).toNat, ⟨rfl, a, ?_, Nat.le_refl _, ha, fun x h1 h2 => by omega⟩, ?_⟩
  · rw [if_neg (by omega)]
  dsimp only [allR, mapR2, eqN, ltN]
  rintro m n1 w' ⟨⟨rfl, i, rfl, h1, h2, h3⟩, hm⟩
  refine in_c hn ⟨_, rfl, cond_intro (fun hb => ?_) (fun hb => ?_)⟩
  · simp at hb
    have he : nextM M a s = none := nextM_none.2 fun x hx hx2 => h3 x hx (by omega)
    rw [he] at k
    exact k
  · simp at hb
    refine has_c h hn ⟨_, rfl, cond_intro (fun hs => ?_) (fun hs => ?_)⟩
    · have he : nextM M a s = some i := nextM_some.2 ⟨h1, by simpa using hs, by omega, h3⟩
      rw [he] at k
      exact k
    · rw [wi64_id (n := (i : Int) + 1) (by omega) (by omega)]
      refine ⟨⟨rfl, i + 1, by omega, by omega, by omega, fun x hx hx2 => ?_⟩, by omega⟩
      by_cases e : x = i
      · subst e; simpa using hs
      · exact h3 x hx (by omega)

/-! ### rows of set ones -/
def runEnd (M : List UInt8) (b : Nat) : Nat := (nextM M b false).getD (8 * M.length)

def runsG (M : List UInt8) : Nat → Nat → List (Nat × Nat)
  | 0, _ => []
  | f + 1, a => match nextM M a true with
    | none => []
    | some b => (b, runEnd M b - b) :: runsG M f (runEnd M b)

def runsL (M : List UInt8) : List (Nat × Nat) := runsG M (8 * M.length + 1) 0

theorem runEnd_gt {M : List UInt8} {a b : Nat} (h : nextM M a true = some b) : b < runEnd M b ∧ runEnd M b ≤ 8 * M.length := by
  obtain ⟨_, h2, h3, _⟩ := nextM_some.1 h
  unfold runEnd
  cases he : nextM M b false with
  | none => exact ⟨h3, Nat.le_refl _⟩
  | some e =>
    obtain ⟨k1, k2, k3, _⟩ := nextM_some.1 he
    refine ⟨?_, by simp; omega⟩
    simp only [Option.getD_some]
    have : e ≠ b := fun e2 => by rw [e2, h2] at k2; cases k2
    omega

/-- two numbers -/
def ER : Enc (Nat × Nat) := ⟨2, fun p => [.int .i64 (p.1 : Int), .int .i64 (p.2 : Int)], fun _ => rfl, by omega, fun _ => rfl⟩
abbrev tRs : TypeId := 110
abbrev tR2 : TypeId := 112
theorem tyRs : SlTyN Tryz.prog tRs tR2 ER.s 16 := SlTyN.of (by kernel_rfl)

theorem clip2_c {w : World} {B : Nat} {v : Value} {L : List (Nat × Nat)} {R : KV} (ho : OwnR ER w B tR2 v L) (k : ∀ v', RdR ER w v' L → v'.ownBlock = v.ownBlock → R v' w) : Go.CW.Spec Tryz.prog 104 #[v] w R := by
  have hd := ho.rd
  apply slices_Clip__2_104_wp
  have hle := hd.le
  refine ⟨_, hd.len, _, hd.len, ?_⟩
  obtain ⟨v', h1, h2, h3⟩ : ∃ v', subSlice v 2 none (some (.int .i64 ((L.length : Nat) : Int))) (some (.int .i64 ((L.length : Nat) : Int))) = some v' ∧ RdR ER w v' L ∧ v'.ownBlock = v.ownBlock := by
    obtain ⟨a, cap, rfl, q1, q2, q3, q4⟩ := hd
    have h0 : (0 : Int) ≤ (L.length : Int) := by omega
    have e : (L.length : Int) ≤ cap := by omega
    refine ⟨.slice a L.length L.length, ?_, ⟨a, L.length, rfl, Nat.le_refl _, by omega, fun hh => by have := q3 hh; omega, q4⟩, by cases a <;> rfl⟩
    simp only [subSlice, boundsOf, boundOf, h0, e, and_self, if_true, Int.toNat_natCast, Int.le_refl, Nat.sub_zero, Nat.zero_mul]
    cases a with
    | none =>
      have := q3 rfl
      split <;> simp
    | some a => split <;> simp [add_zero]
  exact ⟨v', h1, k v' h2 h3⟩

theorem runs_c {w : World} {g : Nat} {M : List UInt8} (h : RB w g M) (hn : M.length ≤ 1048576) {R : KV} (k : ∀ v w', Grow w w' → RdR ER w' v (runsL M) → (∀ q, v.ownBlock = some q → w.heap.size ≤ q ∧ ∃ cs, BK w' q cs tR2) → R v w') : Go.CW.Spec Tryz.prog 56 #[rv g M.length] w R := by
  apply bits_Map_Runs_m_wp
  refine next_c (a := 0) h hn (Nat.zero_le _) ?_
  have split_ : ∀ r : Option Nat, ∃ (n2 : Int) (b3 : Bool), nextV r = (.tuple #[(.int .i64 n2), (.bool b3)]) ∧ (n2 = ((r.getD 0 : Nat) : Int)) ∧ b3 = r.isSome := by
    intro r
    cases r with
    | none => exact ⟨0, false, rfl, rfl, rfl⟩
    | some j => exact ⟨j, true, rfl, rfl, rfl⟩
  obtain ⟨n2, b3, e1, e2, e3⟩ := split_ (nextM M 0 true)
  refine ⟨n2, b3, e1, ?_⟩
  refine ⟨fun (v5 : Value) (n6 : Int) (b7 : Bool) (w8 : World) => ∃ (L : List (Nat × Nat)) (a f : Nat), runsL M = L ++ runsG M f a ∧ a ≤ 8 * M.length ∧ 8 * M.length + 1 - a ≤ f ∧ L.length ≤ a ∧ n6 = (((nextM M a true).getD 0 : Nat) : Int) ∧ b7 = (nextM M a true).isSome ∧ Grow w w8 ∧ OwnR ER w8 w.heap.size tR2 v5 L,
    fun (_ : Value) (n6 : Int) (b7 : Bool) (_ : World) => bif b7 then (8 * M.length + 1 - n6).toNat else 0, ⟨[], 0, 8 * M.length + 1, rfl, Nat.zero_le _, by omega, Nat.le_refl _, e2, e3, Grow.refl _, OwnR.nil _ _ _⟩, ?_⟩
  dsimp only [allR, mapR2, eqN, ltN]
  rintro m v5 n6 b7 w8 ⟨⟨L, a, f, hL, ha, hf, hlen, rfl, rfl, g8, ho⟩, hm⟩
  have r8 : RB w8 g M := BK.grow h g8
  refine cond_intro (fun hb => ?_) (fun hb => ?_)
  · obtain ⟨b, hbn⟩ := Option.isSome_iff_exists.1 hb
    obtain ⟨q1, q2, q3, q4⟩ := nextM_some.1 hbn
    obtain ⟨hgt, hend⟩ := runEnd_gt hbn
    rw [hbn] at hm ⊢
    simp only [Option.getD_some, Option.isSome_some, cond_true] at hm ⊢
    refine next_c (a := b) r8 hn (by omega) ?_
    obtain ⟨n11, b12, f1, f2, f3⟩ := split_ (nextM M b false)
    refine ⟨n11, b12, f1, ?_⟩
    refine JoinP.int (fun n13 w14 => n13 = (runEnd M b : Int) ∧ w14 = w8) (fun j hj => cond_intro (fun hc => ⟨_, rfl, hj _ _ ⟨?_, rfl⟩⟩) (fun hc => hj _ _ ⟨?_, rfl⟩)) ?_
    · rw [wi64_id (by omega) (by omega)]
      rw [f3] at hc
      have : nextM M b false = none := by cases he : nextM M b false with | none => rfl | some x => rw [he] at hc; simp at hc
      simp [runEnd, this]
    · rw [f2]
      rw [f3] at hc
      obtain ⟨e, he⟩ : ∃ e, nextM M b false = some e := by cases he : nextM M b false with | none => rw [he] at hc; simp at hc | some x => exact ⟨x, rfl⟩
      simp [runEnd, he]
    · rintro n13 w14 ⟨rfl, rfl⟩
      refine nm fun w15 e15 => ?_
      obtain ⟨bk15, g15, sz15⟩ := alE e15
      have hrd : RdR ER w15 (.slice (some ⟨w14.heap.size, 0, none⟩) 1 1) [(b, runEnd M b - b)] := by
        refine ⟨some ⟨w14.heap.size, 0, none⟩, 1, rfl, Nat.le_refl _, by simp [maxLen], (fun e => by cases e), fun j u hj => ⟨_, rfl, ?_⟩⟩
        rw [bk15.cell]
        have e1 : (runEnd M b : Int) - (b : Int) = ((runEnd M b - b : Nat) : Int) := by omega
        rw [e1, wi64_id (by omega) (by omega)]
        simpa [Enc.flat, ER] using hj
      obtain ⟨v16, w17, hrun, ho17, hnext⟩ := app_ownR tyRs (ho.grow g15) hrd (by simp only [List.length_cons, List.length_nil]; omega) (Nat.le_trans g8.size g15.size)
      have g17 : Grow w w17 := (g8.then g15).trans (hnext.below (Nat.le_trans g8.size g15.size) (fun q hq => (ho.lt q hq).1))
      refine ⟨v16, w17, hrun, next_c (a := runEnd M b) (BK.grow h g17) hn hend ?_⟩
      obtain ⟨n20, b21, f4, f5, f6⟩ := split_ (nextM M (runEnd M b) true)
      refine ⟨n20, b21, f4, ⟨L ++ [(b, runEnd M b - b)], runEnd M b, f - 1, ?_, hend, by omega, by simp; omega, f5, f6, g17, ho17⟩, ?_⟩
      · rw [hL]
        obtain ⟨f', rfl⟩ : ∃ f', f = f' + 1 := ⟨f - 1, by omega⟩
        simp only [runsG, hbn, Nat.add_sub_cancel, List.append_assoc, List.cons_append, List.nil_append]
      · rw [f5, f6]
        cases hx : nextM M (runEnd M b) true with
        | none => simp; omega
        | some c =>
          obtain ⟨p1, p2, p3, _⟩ := nextM_some.1 hx
          simp; omega
  · have hnone : nextM M a true = none := by cases he : nextM M a true with | none => rfl | some x => rw [he] at hb; simp at hb
    have ht : ∀ q, v5.ownBlock = some q → w.heap.size ≤ q ∧ ∃ cs, BK w8 q cs tR2 := fun q hq => by
      refine ⟨(ho.lt q hq).1, ?_⟩
      rcases ho.2 with ⟨rfl, _⟩ | ⟨g', cap, cur, rfl, _, hg, _⟩
      · cases hq
      · cases hq; exact ⟨cur, hg⟩
    refine clip2_c ho fun v' hr hb' => k v' w8 g8 ?_ (by rw [hb']; exact ht)
    have : runsL M = L := by
      rw [hL]
      cases f with
      | zero => simp [runsG]
      | succ f => simp [runsG, hnone]
    rw [this]; exact hr

end Go.Proofs.YtnclgknfccliiaaGreatDoor
