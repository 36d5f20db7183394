/- The contracts of Wrong, named, Decode, run, In, Out, known. -/
import Derived.Test.YtdkknncpmkajnaaCdbP
set_option linter.unusedVariables false
set_option linter.unusedSimpArgs false
set_option maxRecDepth 100000
namespace Go.Proofs.Ytdkknncpmkajnaa
open Go Go.CW Go.RowKit

abbrev tR : TypeId := 35
abbrev vR (s k c : Int) (d : Value) (i : Int) : Value := .agg #[.int .i64 s, .int .i64 k, .int .i64 c, d, .int .i64 i]
abbrev rR (s k c : Int) (d : Value) (i : Int) : Array Value := #[.int .i64 s, .int .i64 k, .int .i64 c, d, .int .i64 i]
abbrev vK0 : Value := vK 0 0 0 (.slice none 0 0) 0 0 0 false
abbrev rK0 : Array Value := rK 0 0 0 (.slice none 0 0) 0 0 0 false
abbrev rR0 : Array Value := rR 0 0 0 (.slice none 0 0) 0

theorem Wrong_c {w : World} {k c : Int} {R : KV} (h : ∀ w', Grow w w' → R (vR 2 k c (.slice none 0 0) 0) w') : Go.CW.Spec Try.prog 14 #[.int .i64 k, .int .i64 c] w R := by
  apply sense_Wrong_wp
  have nb := BK.new w rR0 tR
  have gs := Below.strow (Grow.al (Grow.refl w) (.cells rR0 tR)) (p := ⟨w.heap.size, 0, none⟩) (Nat.le_refl _) (rR 2 k c (.slice none 0 0) 0)
  have b1 := nb.strow (ds := rR 2 k c (.slice none 0 0) 0) rfl
  exact ⟨nb.row rfl rfl, 2, k, c, .slice none 0 0, 0, b1.ld rfl, h _ gs⟩

theorem named_c {w : World} {x : Cod} {i : Nat} {R : KV} (hi : i < 16) (h : ∀ w', Grow w w' → R (.bool (named x i)) w') : Go.CW.Spec Try.prog 16 #[vC x, .int .i64 (i : Int)] w R := by
  apply cdb_code_named_m_wp
  have nb := BK.new w (rC x) tC
  have gs := Grow.al (Grow.refl w) (.cells (rC x) tC)
  have h := h _ gs
  unfold cdb_code_named_m_F
  generalize World.alloc w (.cells (rC x) tC) = W at *
  refine JoinP.bool (fun b w' => w' = W ∧ b = named x i) (fun j hj => ?_) ?_
  · have hc : i = 0 ∨ i = 1 ∨ i = 2 ∨ i = 3 ∨ i = 4 ∨ i = 5 ∨ i = 6 ∨ i = 7 ∨ i = 8 ∨ i = 9 ∨ i = 10 ∨ i = 11 ∨ i = 12 ∨ i = 13 ∨ i = 14 ∨ i = 15 := by omega
    have J1 : ∀ (P : Bool → World → Prop) (body : (Bool → World → Prop) → Prop) (b : Bool), (∀ j : Bool → World → Prop, j b W → body j) → P b W → JoinP [.bool] P body := fun P body b hb hp => hb P hp
    rcases hc with rfl | rfl | rfl | rfl | rfl | rfl | rfl | rfl | rfl | rfl | rfl | rfl | rfl | rfl | rfl | rfl
    · exact cond_t rfl (hj _ _ ⟨rfl, rfl⟩)
    · refine cond_f rfl (J1 _ _ x.pa (fun j k => cond_t rfl ⟨_, nb.cell 8, k⟩) (cond_intro (fun e => hj _ _ ⟨rfl, by simp [named, e]⟩) fun e => ?_))
      refine J1 _ _ false (fun j k => cond_f rfl k) (cond_f rfl ?_)
      refine J1 _ _ false (fun j k => cond_f rfl k) (cond_f rfl ?_)
      refine J1 _ _ false (fun j k => cond_f rfl k) (cond_f rfl ?_)
      exact cond_f rfl (hj _ _ ⟨rfl, by simp [named, e]⟩)
    · refine cond_f rfl (J1 _ _ false (fun j k => cond_f rfl k) (cond_f rfl ?_))
      refine J1 _ _ x.ty (fun j k => cond_t rfl ⟨_, nb.cell 7, k⟩) (cond_intro (fun e => hj _ _ ⟨rfl, by simp [named, e]⟩) fun e => ?_)
      refine J1 _ _ x.at_ (fun j k => cond_t rfl (cond_t rfl ⟨_, nb.cell 3, k⟩)) (cond_intro (fun e => hj _ _ ⟨rfl, by simp [named, e]⟩) fun e2 => ?_)
      refine J1 _ _ false (fun j k => cond_f rfl k) (cond_f rfl ?_)
      exact cond_f rfl (hj _ _ ⟨rfl, by simp [named, e, e2]⟩)
    iterate 7
      · refine cond_f rfl (J1 _ _ false (fun j k => cond_f rfl k) (cond_f rfl ?_))
        refine J1 _ _ false (fun j k => cond_f rfl k) (cond_f rfl ?_)
        refine J1 _ _ x.at_ (fun j k => cond_t rfl (cond_t rfl ⟨_, nb.cell 3, k⟩)) (cond_intro (fun e => hj _ _ ⟨rfl, by simp [named, e]⟩) fun e2 => ?_)
        refine J1 _ _ false (fun j k => cond_f rfl k) (cond_f rfl ?_)
        exact cond_f rfl (hj _ _ ⟨rfl, by simp [named, e2]⟩)
    iterate 3
      · refine cond_f rfl (J1 _ _ false (fun j k => cond_f rfl k) (cond_f rfl ?_))
        refine J1 _ _ false (fun j k => cond_f rfl k) (cond_f rfl ?_)
        refine J1 _ _ false (fun j k => cond_t rfl (cond_f rfl k)) (cond_f rfl ?_)
        refine J1 _ _ x.n (fun j k => cond_t rfl (cond_t rfl ⟨_, nb.cell 4, k⟩)) (cond_intro (fun e => hj _ _ ⟨rfl, by simp [named, e]⟩) fun e2 => ?_)
        exact cond_f rfl (hj _ _ ⟨rfl, by simp [named, e2]⟩)
    · refine cond_f rfl (J1 _ _ false (fun j k => cond_f rfl k) (cond_f rfl ?_))
      refine J1 _ _ false (fun j k => cond_f rfl k) (cond_f rfl ?_)
      refine J1 _ _ false (fun j k => cond_t rfl (cond_f rfl k)) (cond_f rfl ?_)
      refine J1 _ _ x.n (fun j k => cond_t rfl (cond_t rfl ⟨_, nb.cell 4, k⟩)) (cond_intro (fun e => hj _ _ ⟨rfl, by simp [named, e]⟩) fun e2 => ?_)
      exact cond_t rfl ⟨_, nb.cell 5, hj _ _ ⟨rfl, by simp [named, e2]⟩⟩
    iterate 2
      · refine cond_f rfl (J1 _ _ false (fun j k => cond_f rfl k) (cond_f rfl ?_))
        refine J1 _ _ false (fun j k => cond_f rfl k) (cond_f rfl ?_)
        refine J1 _ _ false (fun j k => cond_t rfl (cond_f rfl k)) (cond_f rfl ?_)
        refine J1 _ _ false (fun j k => cond_t rfl (cond_f rfl k)) (cond_f rfl ?_)
        exact cond_f rfl (hj _ _ ⟨rfl, by simp [named]⟩)
  rintro b w' ⟨rfl, rfl⟩
  exact cond_intro (fun e => by rw [e] at h; exact h) (fun e => by rw [e] at h; exact h)

theorem run_c {w : World} {n : Int} {R : KV} (h : R (.int .i64 (if n < 0 ∨ 32 < n then 0 else n * 8)) w) : Go.CW.Spec Try.prog 10 #[.int .i64 n] w R := by
  apply cdb_run_wp
  refine JoinP.bool (fun b w' => w' = w ∧ b = decide (n < 0 ∨ 32 < n)) (fun j hj => cond_intro (fun e => hj _ _ ⟨rfl, ?_⟩) (fun e => hj _ _ ⟨rfl, ?_⟩)) ?_
  · simp only [decide_eq_true_eq] at e; simp [e]
  · simp only [decide_eq_false_iff_not] at e; simp [e]
  rintro b w' ⟨rfl, rfl⟩
  refine cond_intro (fun e => ?_) (fun e => ?_)
  · simp only [decide_eq_true_eq] at e
    rw [if_pos e] at h; exact h
  · simp only [decide_eq_false_iff_not] at e
    rw [if_neg e] at h
    rw [wi64_id (n := n * 8) (by omega) (by omega)]; exact h

def runI (n : Int) : Int := if n < 0 ∨ 32 < n then 0 else n * 8
def inI (k n : Int) : Int := if k = 2 then runI n else if k = 7 then 8 else if k = 8 then 36 else if k = 9 then 18 else if k = 16 then 136 else if k = 17 then 24 else 0
def outI (k n : Int) : Int := if k = 3 then runI n else if k = 6 then 2 * runI n else if k = 10 ∨ k = 11 ∨ k = 12 ∨ k = 13 ∨ k = 14 ∨ k = 15 then 24 else 0
theorem runI_range (n : Int) : 0 ≤ runI n ∧ runI n ≤ 256 := by unfold runI; split <;> omega

theorem In_c {w : World} {k a n key new t : Int} {d : Value} {f : Bool} {R : KV} (c : ∀ w', Grow w w' → R (.int .i64 (inI k n)) w') :
    Go.CW.Spec Try.prog 7 #[vK k a n d key new t f] w R := by
  apply cdb_In_wp
  have nb := BK.new w (rK k a n d key new t f) tK
  have c := c _ (Grow.al (Grow.refl w) (.cells (rK k a n d key new t f) tK))
  unfold cdb_In_F
  generalize World.alloc w (.cells (rK k a n d key new t f) tK) = W at *
  refine ⟨_, nb.cell 0, cond_intro (fun e => ⟨_, nb.cell 2, run_c ⟨_, rfl, ?_⟩⟩) (fun e => ?_)⟩
  · simp only [beq_iff_eq] at e
    rw [inI, if_pos e] at c; exact c
  simp only [beq_eq_false_iff_ne] at e
  rw [inI, if_neg e] at c
  refine cond_intro (fun e => ?_) (fun e => ?_)
  · simp only [beq_iff_eq] at e; rw [if_pos e] at c; exact c
  simp only [beq_eq_false_iff_ne] at e
  rw [if_neg e] at c
  refine cond_intro (fun e => ?_) (fun e => ?_)
  · simp only [beq_iff_eq] at e; rw [if_pos e] at c; exact c
  simp only [beq_eq_false_iff_ne] at e
  rw [if_neg e] at c
  refine cond_intro (fun e => ?_) (fun e => ?_)
  · simp only [beq_iff_eq] at e; rw [if_pos e] at c; exact c
  simp only [beq_eq_false_iff_ne] at e
  rw [if_neg e] at c
  refine cond_intro (fun e => ?_) (fun e => ?_)
  · simp only [beq_iff_eq] at e; rw [if_pos e] at c; exact c
  simp only [beq_eq_false_iff_ne] at e
  rw [if_neg e] at c
  refine cond_intro (fun e => ?_) (fun e => ?_)
  · simp only [beq_iff_eq] at e; rw [if_pos e] at c; exact c
  simp only [beq_eq_false_iff_ne] at e
  rw [if_neg e] at c
  exact c

theorem Out_c {w : World} {k a n key new t : Int} {d : Value} {f : Bool} {R : KV} (c : ∀ w', Grow w w' → R (.int .i64 (outI k n)) w') :
    Go.CW.Spec Try.prog 6 #[vK k a n d key new t f] w R := by
  apply cdb_Out_wp
  have nb := BK.new w (rK k a n d key new t f) tK
  have c := c _ (Grow.al (Grow.refl w) (.cells (rK k a n d key new t f) tK))
  unfold cdb_Out_F
  generalize World.alloc w (.cells (rK k a n d key new t f) tK) = W at *
  refine ⟨_, nb.cell 0, cond_intro (fun e => ⟨_, nb.cell 2, run_c ⟨_, rfl, ?_⟩⟩) (fun e => ?_)⟩
  · simp only [beq_iff_eq] at e
    rw [outI, if_pos e] at c; exact c
  simp only [beq_eq_false_iff_ne] at e
  rw [outI, if_neg e] at c
  refine cond_intro (fun e => ⟨_, nb.cell 2, run_c ⟨_, rfl, ?_⟩⟩) (fun e => ?_)
  · simp only [beq_iff_eq] at e; rw [if_pos e] at c
    have := runI_range n
    unfold runI at this c
    rw [wi64_id (by omega) (by omega)]; exact c
  simp only [beq_eq_false_iff_ne] at e
  rw [if_neg e] at c
  refine JoinP.bool (fun b w' => w' = W ∧ b = decide (k = 10 ∨ k = 11 ∨ k = 12 ∨ k = 13 ∨ k = 14 ∨ k = 15)) (fun j hj => ?_) ?_
  · have hq : ∀ b, b = decide (k = 10 ∨ k = 11 ∨ k = 12 ∨ k = 13 ∨ k = 14 ∨ k = 15) → j b W := fun b hb => hj _ _ ⟨rfl, hb⟩
    refine cond_intro (fun e => hq _ ?_) (fun e0 => cond_intro (fun e => hq _ ?_) (fun e1 => cond_intro (fun e => hq _ ?_) (fun e2 => cond_intro (fun e => hq _ ?_) (fun e3 => cond_intro (fun e => hq _ ?_) (fun e4 => hq _ ?_)))))
    all_goals first | (simp_all; done) | (by_cases h15 : k = 15 <;> simp_all)
  rintro b w' ⟨rfl, rfl⟩
  refine cond_intro (fun e => ?_) (fun e => ?_)
  · simp only [decide_eq_true_eq] at e
    rw [if_pos e] at c; exact c
  · simp only [decide_eq_false_iff_not] at e
    rw [if_neg e] at c; exact c

end Go.Proofs.Ytdkknncpmkajnaa
