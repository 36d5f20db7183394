/- The laws of the numbers: each returns true. -/
import Derived.Test.YtfdnnlfakfjklaaBinP
set_option linter.unusedVariables false
set_option linter.unusedSimpArgs false
namespace Go.Proofs.Ytfdnnlfakfjklaa
open Go Go.CW Go.RowKit

/-- true, and what was there stays -/
def Law (w : World) : KV := fun v w' => v = .bool true ∧ Grow w w'

theorem Law.calls {f : FuncId} {args : Array Value} {w : World} (h : Go.CW.Spec Try.prog f args w (Law w)) : Calls Try.prog f args w fun e w' => e = .returned (.bool true) ∧ Below w.heap.size w w' :=
  Calls.mono h fun e w' ⟨v, he, hv, hg⟩ => ⟨by rw [he, hv], hg⟩

theorem binSerials_s {w : World} {a b n d : Int} (ha : Fits .u32 a) (hb : Fits .u32 b) (hn : Fits .u32 n) (hd : Fits .u32 d) :
    Go.CW.Spec Try.prog 4 #[.int .u32 a, .int .u32 b, .int .u32 n, .int .u32 d] w (Law w) := by
  have ha' := ha.u32
  have hb' := hb.u32
  have hd' := hd.u32
  apply gemellaw1_BinSerials_wp
  refine gemellaw1_known_c fun w1 g1 => ⟨_, rfl, cond_f rfl ?_⟩
  refine JoinP.bool (fun b w' => b = false ∧ w' = w1) (fun j hj => ?_) ?_
  · refine bin_Gap_c ⟨_, rfl, gemelref1_Gap_c ⟨_, rfl, cond_f (by simp) ?_⟩⟩
    refine bin_Less_c ⟨_, rfl, gemelref1_Less_c ⟨_, rfl, cond_f (by simp) ?_⟩⟩
    exact bin_Within_c ⟨_, rfl, gemelref1_Within_c ⟨_, rfl, hj _ _ ⟨by simp, rfl⟩⟩⟩
  rintro b1 w2 ⟨rfl, rfl⟩
  refine cond_f rfl ?_
  refine JoinP.bool (fun b w' => b = false ∧ w' = w2) (fun j hj => ?_) ?_
  · have e1 : gapN (IntKind.wrap .u32 (a + d)) (IntKind.wrap .u32 (b + d)) = gapN a b := by rw [w32, w32]; unfold gapN; omega
    have e2 : (IntKind.wrap .u32 (b + d) - IntKind.wrap .u32 (a + d)) % 4294967296 = (b - a) % 4294967296 := by rw [w32, w32]; omega
    refine bin_Gap_c ⟨_, rfl, bin_Gap_c ⟨_, rfl, cond_f (by rw [e1]; simp) ?_⟩⟩
    refine bin_Within_c ⟨_, rfl, bin_Within_c ⟨_, rfl, cond_f (by rw [e2]; simp) ?_⟩⟩
    refine bin_Less_c ⟨_, rfl, hj _ _ ⟨?_, rfl⟩⟩
    simp [gapN]
  rintro b1 w3 ⟨rfl, rfl⟩
  refine cond_f rfl ?_
  refine JoinP.bool (fun b w' => b = true ∧ w' = w3) (fun j hj => ?_) ?_
  · refine cond_intro (fun h => hj _ _ ⟨rfl, rfl⟩) (fun h => bin_Gap_c ⟨_, rfl, bin_Gap_c ⟨_, rfl, hj _ _ ⟨?_, rfl⟩⟩⟩)
    rw [w32] at h
    simp at h
    rw [wi64]
    simp only [gapN, beq_iff_eq]
    omega
  rintro b1 w4 ⟨rfl, rfl⟩
  exact ⟨rfl, g1⟩

theorem binWindows_s {w : World} {lo n far : Int} (ha : Fits .u32 lo) (hb : Fits .u8 n) (hn : Fits .u32 far) :
    Go.CW.Spec Try.prog 5 #[.int .u32 lo, .int .u8 n, .int .u32 far] w (Law w) := by
  have ha' := ha.u32
  have hb' := hb.u8
  have hd' := hn.u32
  apply gemellaw1_BinWindows_wp
  refine gemellaw1_known_c fun w1 g1 => ⟨_, rfl, cond_f rfl ?_⟩
  refine ⟨fun (i : Int) (ww : World) => ww = w1 ∧ 0 ≤ i ∧ i ≤ 300, fun (i : Int) (ww : World) => (300 - i).toNat, ⟨rfl, by omega, by omega⟩, ?_⟩
  dsimp only [allR, mapR2, eqN, ltN]
  rintro m i ww ⟨⟨rfl, h0, h1⟩, hm⟩
  have en : IntKind.wrap .u32 n = n := by rw [w32]; omega
  rw [en]
  refine cond_intro (fun h => ?_) (fun h => ?_)
  · simp at h
    refine bin_Within_c ⟨_, rfl, cond_f ?_ ⟨⟨rfl, ?_, ?_⟩, ?_⟩⟩
    · have e : (IntKind.wrap .u32 (lo + i) - lo) % 4294967296 = i := by rw [w32]; omega
      rw [e]; simp
    all_goals rw [w32]; omega
  · refine JoinP.bool (fun b w' => b = true ∧ w' = ww) (fun j hj => ?_) (fun b w' ⟨h1, h2⟩ => by subst h1; subst h2; exact ⟨rfl, g1⟩)
    have e : (IntKind.wrap .u32 (lo + far) - lo) % 4294967296 = far := by rw [w32]; omega
    refine bin_Within_c ⟨_, rfl, cond_t (by rw [e]; simp) (bin_Within_c ⟨_, rfl, hj _ _ ⟨?_, rfl⟩⟩)⟩
    simp; omega

theorem binOrder_s {w : World} {lo a b c : Int} (hl : Fits .u32 lo) (ha : Fits .u32 a) (hb : Fits .u32 b) (hc : Fits .u32 c) :
    Go.CW.Spec Try.prog 7 #[.int .u32 lo, .int .u32 a, .int .u32 b, .int .u32 c] w (Law w) := by
  have hl' := hl.u32
  have ha' := ha.u32
  have hb' := hb.u32
  have hc' := hc.u32
  apply gemellaw1_BinOrder_wp
  have key : ∀ x y : Int, 0 ≤ x ∧ x < 4294967296 → 0 ≤ y ∧ y < 4294967296 → gapN (IntKind.wrap .u32 (lo + Int.fdiv x 2)) (IntKind.wrap .u32 (lo + Int.fdiv y 2)) = y / 2 - x / 2 := by
    intro x y hx hy
    rw [w32, w32, Int.fdiv_eq_ediv_of_nonneg _ (by omega), Int.fdiv_eq_ediv_of_nonneg _ (by omega)]; unfold gapN; omega
  refine gemellaw1_known_c fun w1 g1 => ⟨_, rfl, cond_f rfl ?_⟩
  refine JoinP.bool (fun b w' => b = false ∧ w' = w1) (fun j hj => ?_) ?_
  · refine bin_Less_c ⟨_, rfl, gemelref1_Less_c ⟨_, rfl, cond_f (by simp) ?_⟩⟩
    refine bin_Less_c ⟨_, rfl, cond_intro (fun h => bin_Less_c ⟨_, rfl, hj _ _ ⟨?_, rfl⟩⟩) (fun h => hj _ _ ⟨rfl, rfl⟩)⟩
    rw [key _ _ ha' hb'] at h
    rw [key _ _ hb' ha']
    simp at h ⊢; omega
  rintro b1 w2 ⟨rfl, rfl⟩
  refine cond_f rfl ?_
  refine JoinP.bool (fun b w' => b = false ∧ w' = w2) (fun j hj => ?_) ?_
  · refine bin_Less_c ⟨_, rfl, cond_intro (fun h => bin_Less_c ⟨_, rfl, cond_intro (fun h' => bin_Less_c ⟨_, rfl, hj _ _ ⟨?_, rfl⟩⟩) (fun h' => hj _ _ ⟨rfl, rfl⟩)⟩) (fun h => hj _ _ ⟨rfl, rfl⟩)⟩
    rw [key _ _ ha' hb'] at h
    rw [key _ _ hb' hc'] at h'
    rw [key _ _ ha' hc']
    simp at h h' ⊢; omega
  rintro b1 w3 ⟨rfl, rfl⟩
  refine cond_f rfl ?_
  refine bin_Less_c ⟨_, rfl, ?_, g1⟩
  rw [key _ _ ha' hb', Int.fdiv_eq_ediv_of_nonneg _ (by omega), Int.fdiv_eq_ediv_of_nonneg _ (by omega)]
  simp

theorem binHalves_s {w : World} {a x : Int} (ha : Fits .u32 a) (hx : Fits .u32 x) :
    Go.CW.Spec Try.prog 9 #[.int .u32 a, .int .u32 x] w (Law w) := by
  have ha' := ha.u32
  have hx' := hx.u32
  apply gemellaw1_BinHalves_wp
  refine gemellaw1_known_c fun w1 g1 => ⟨_, rfl, cond_f rfl ?_⟩
  refine bin_Within_c ⟨_, rfl, bin_Within_c ⟨_, rfl, ?_⟩⟩
  refine JoinP.bool (fun b w' => b = true ∧ w' = w1) (fun j hj => ?_) (fun b w' ⟨h1, h2⟩ => by subst h1; subst h2; exact ⟨rfl, g1⟩)
  have e1 : IntKind.wrap .u32 (a + 2147483648) = (a + 2147483648) % 4294967296 := w32 _
  rw [e1]
  refine cond_t ?_ (bin_Gap_c ⟨_, rfl, cond_t ?_ (bin_Within_c ⟨_, rfl, cond_t ?_ (bin_Gap_c ⟨_, rfl, bin_Gap_c ⟨_, rfl, hj _ _ ⟨?_, rfl⟩⟩⟩)⟩)⟩)
  · simp only [Bool.not_eq_true', beq_eq_false_iff_ne, ne_eq, decide_eq_decide]
    intro h
    by_cases h1 : (x - a) % 4294967296 < 2147483648
    · have := h.1 h1; omega
    · have h2 : ¬ _ := fun h3 => h1 (h.2 h3)
      omega
  · simp only [beq_iff_eq, decide_eq_decide, gapN]
    apply decide_eq_decide.2
    constructor <;> intro h <;> omega
  · simp only [Bool.not_eq_true', decide_eq_false_iff_not]; omega
  · simp only [beq_iff_eq, gapN]; omega

end Go.Proofs.Ytfdnnlfakfjklaa
