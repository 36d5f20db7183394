/- The contracts of a stream's end: packet, Out. -/
import Derived.Test.YtnmofoekabbjlaaConQ
set_option linter.unusedVariables false
set_option linter.unusedSimpArgs false
set_option maxRecDepth 100000
namespace Go.Proofs.Ytnmofoekabbjlaa
open Go Go.CW Go.RowKit Go.Crc

def puts (l : List Int) : List UInt8 := l.flatMap fun x => putL x 4
theorem puts_take (l : List Int) (i : Nat) (hi : i < l.length) : puts (l.take (i + 1)) = puts (l.take i) ++ putL l[i] 4 := by
  rw [List.take_add_one, List.getElem?_eq_getElem hi]; unfold puts; rw [List.flatMap_append]; simp
theorem puts_len (l : List Int) : (puts l).length = 4 * l.length := by
  induction l with
  | nil => rfl
  | cons x l ih => simp only [puts, List.flatMap_cons, List.length_append, List.length_cons, putL_length] at ih ⊢; omega
def Pk.nums (p : Pk) : List Int := [p.life, p.mine, p.ack, p.pos]
theorem Pk.head_eq (p : Pk) : p.head = [p.k] ++ puts p.nums := by simp [Pk.head, puts, Pk.nums, List.append_assoc]

theorem pk_u32 {c : Cs} (hf : CsFits c) (f : Int) (bs : List UInt8) : ∀ x ∈ (c.pk f bs).nums, u32 x := by
  have h4 : u32 (IntKind.wrap .u32 (c.base + IntKind.wrap .u32 f)) := by unfold u32; rw [w32 (c.base + _)]; omega
  intro x hx
  simp only [Pk.nums, Cs.pk, List.mem_cons, List.not_mem_nil, or_false] at hx
  rcases hx with rfl | rfl | rfl | rfl
  · exact hf.own
  · exact hf.peer
  · exact hf.got
  · exact h4
theorem pk_fits {c : Cs} (hf : CsFits c) (f : Int) (bs : List UInt8) (hb : bs.length ≤ 4096) : PkFits (c.pk f bs) := by
  have h := pk_u32 hf f bs
  refine ⟨?_, h _ (by simp [Pk.nums]), h _ (by simp [Pk.nums]), h _ (by simp [Pk.nums]), h _ (by simp [Pk.nums]), hb⟩
  show c.kind ≤ 2
  unfold Cs.kind
  split
  · decide
  · split <;> decide

theorem packet_c {w : World} {g : Nat} {vo vi v : Value} {c : Cs} {f : Int} {bs : List UInt8} {R : KV} (h : Cn w g vo vi c) (hf : CsFits c) (hv : RdB w v bs) (hb : bs.length ≤ 4096) (hn : v = .slice none 0 0 ∨ bs ≠ [])
    (k : ∀ v' w', Grow w w' → RdB w' v' (c.pk f bs).enc → NewV w v' → R v' w') : Go.CW.Spec Try.prog 24 #[.pointer (some ⟨g, 0, none⟩), .int .i64 f, v] w R := by
  apply conn_Conn_packet_m_wp
  refine nm fun w0 e0 => ?_
  obtain ⟨b0, g0, _⟩ := alE e0
  clear e0
  have h0 := h.grow g0
  refine JoinP.unit (fun w1 => Grow w w1 ∧ BK w1 w.heap.size #[b8 c.kind] tb) (fun j hj => ?_) ?_
  · have sa : sliceAt (.slice (some ⟨w.heap.size, 0, none⟩) 1 1) 0 1 = some ⟨w.heap.size, 0, none⟩ := rfl
    have wr : ∀ (x : Int) w', w' = World.setCell w0 ⟨w.heap.size, 0, none⟩ (.int .u8 x) → Grow w w' ∧ BK w' w.heap.size #[.int .u8 x] tb := by
      intro x w' e
      have e2 : w' = World.setCell w0 (Addr.add ⟨w.heap.size, 0, none⟩ 0) (.int .u8 x) := by rw [add_zero]; exact e
      obtain ⟨b1, t1⟩ := setE b0 e2
      exact ⟨Below.turn g0 t1 (Nat.le_refl _), b1⟩
    have st : St1 w0 ⟨w.heap.size, 0, none⟩ := b0.st1 (by show 0 < 1; omega)
    refine withAddr_some ⟨_, h0.b.cell 4, cond_intro (fun d => ⟨_, sa, st, nm fun w32 e32 => ?_⟩) (fun d => withAddr_some ⟨_, h0.b.cell 3, cond_intro (fun d2 => ⟨_, sa, st, nm fun w36 e36 => ?_⟩) (fun d2 => ?_)⟩)⟩
    · have hk : c.kind = 2 := by unfold Cs.kind; rw [if_pos d]
      exact hj _ (by rw [hk]; exact wr 2 _ e32)
    · have hk : c.kind = 1 := by unfold Cs.kind; rw [if_neg (by rw [d]; simp), if_pos d2]
      exact hj _ (by rw [hk]; exact wr 1 _ e36)
    · have hk : c.kind = 0 := by unfold Cs.kind; rw [if_neg (by rw [d]; simp), if_neg (by rw [d2]; simp)]
      exact hj _ (by rw [hk]; exact ⟨g0, b0⟩)
  rintro w1 ⟨g1, b1⟩
  refine nm fun w2 e2 => ?_
  have g2 := g1.then (drE e2)
  have h2 := h.grow g2
  have b2 := b1.grow (drE e2)
  refine withAddr_some ⟨_, h2.b.cell 0, withAddr_some ⟨_, h2.b.cell 2, withAddr_some ⟨_, h2.b.cell 10, withAddr_some ⟨_, h2.b.cell 7, nm fun w11 e11 => ?_⟩⟩⟩⟩
  obtain rfl : w11 = w2 := e11.trans e2.symm
  refine nm fun w12 e12 => ⟨4, rfl, nm fun w14 e14 => ?_⟩
  clear e12
  obtain ⟨b14, g14, _⟩ := alE e14
  clear e14
  have nl : (c.pk f bs).nums.length = 4 := rfl
  have hu := pk_u32 hf f bs
  refine ⟨fun (vv : Value) (i : Int) (ww : World) => 0 ≤ i ∧ i ≤ 4 ∧ Grow w14 ww ∧ RdB ww vv ([c.kind] ++ puts ((c.pk f bs).nums.take i.toNat)) ∧ Ful vv, fun (_ : Value) (i : Int) (_ : World) => (4 - i).toNat, ⟨by omega, by omega, Grow.refl _, ?_, Ful.mk _ _⟩, ?_⟩
  · have := rd_mid (b2.grow g14) 0 1 (by simp) (by simp [maxLen])
    rw [add_zero] at this
    exact this
  dsimp only [allR, mapR2, eqN, ltN]
  rintro m vv i ww ⟨⟨i0, i1, gg, r, fl⟩, hm⟩
  have hpl := puts_len ((c.pk f bs).nums.take i.toNat)
  rw [List.length_take, nl] at hpl
  have g14w : Grow w ww := (g2.then g14).then gg
  refine cond_intro (fun d => ?_) (fun d => ?_)
  · have d : i < 4 := by simpa using d
    have hcell : ww.cell? (⟨w11.heap.size, i.toNat, none⟩ : Addr) = some (.int .u32 ((c.pk f bs).nums[i.toNat]'(by omega))) := by
      rw [(b14.grow gg).at i.toNat]
      have : i.toNat = 0 ∨ i.toNat = 1 ∨ i.toNat = 2 ∨ i.toNat = 3 := by omega
      rcases this with e | e | e | e <;> simp only [e] <;> rfl
    refine ⟨⟨w11.heap.size, i.toNat, none⟩, ?_, _, hcell, ?_⟩
    · simp only [sliceAt]
      rw [if_pos (by omega), Nat.mul_one, ad0]
    have hx := hu ((c.pk f bs).nums[i.toNat]'(by omega)) (List.getElem_mem _)
    rw [w64_id hx.1 (by have := hx.2; omega)]
    refine bin_Put_w r (by simp only [List.length_append, List.length_cons, List.length_nil]; omega) (by omega) fun v21 w22 g22 o22 f22 n22 => ?_
    rw [wi64_id (n := i + 1) (by omega) (by omega)]
    have e : (i + 1).toNat = i.toNat + 1 := by omega
    refine ⟨⟨by omega, by omega, gg.then g22, ?_, f22⟩, by omega⟩
    have hr := o22.rd
    rw [e, puts_take _ _ (by omega)]
    rw [List.append_assoc] at hr
    exact hr
  · have d : ¬ i < 4 := by simpa using d
    have et : (c.pk f bs).nums.take i.toNat = (c.pk f bs).nums := List.take_of_length_le (by omega)
    rw [et, show [c.kind] ++ puts (c.pk f bs).nums = (c.pk f bs).head from (Pk.head_eq (c.pk f bs)).symm] at r
    have hhl := Pk.head_length (c.pk f bs)
    have hvw := hv.grow g14w
    have key : ∃ v23 w24, Sem.run Try.prog (Builtin.append_ #[tB, tB] tB #[vv, v]) ww = .ok v23 w24 ∧ RdB w24 v23 ((c.pk f bs).head ++ bs) ∧ Grow ww w24 := by
      by_cases hbs : bs = []
      · rcases hn with rfl | hn
        · subst hbs
          exact ⟨vv, ww, app_none tyB r, by rw [List.append_nil]; exact r, Grow.refl _⟩
        · exact absurd hbs hn
      · obtain ⟨v23, w24, k1, k2, k3⟩ := app_ful tyB r fl hvw one_b8 (by simpa using hbs) (by simp only [List.length_map, hhl]; omega)
        exact ⟨v23, w24, k1, by have := k2.rd; rwa [← List.map_append] at this, k3⟩
    obtain ⟨v23, w24, k23, r23, g24⟩ := key
    refine ⟨v23, w24, k23, crc_Seal_c r23 (by rw [List.length_append, hhl]; omega) fun v25 w26 g26 o26 => ?_⟩
    have hne : ((sld ((c.pk f bs).head ++ bs)).map b8) ≠ [] := by
      intro e
      have := congrArg List.length e
      rw [List.length_map, sld_length, List.length_append, hhl] at this
      simp at this
    refine k v25 w26 (g14w.then (g24.then g26)) o26.rd ?_
    obtain ⟨q, cap, cur, e, rfl, hq, _⟩ := o26.2 hne
    intro q' hq'
    have : q = q' := by simpa [Value.ownBlock] using hq'
    have := (g14w.then g24).size
    omega

/-! ### the packets -/
abbrev tBB : TypeId := 22
theorem tyBB : SlTy Try.prog tBB tB 24 := SlTy.of (by kernel_rfl)

/-- packets in rows of one's own, from block B on -/
def RowsO (w : World) (B : Nat) (v : Value) (l : List (List UInt8)) : Prop :=
  ∃ vs : List Value, Own w B tB v vs ∧ vs.length = l.length ∧ ∀ (i : Nat) (h : i < vs.length) (h' : i < l.length), RdB w vs[i] l[i] ∧ l[i] ≠ [] ∧ ∀ q, vs[i].ownBlock = some q → B ≤ q ∧ v.ownBlock ≠ some q

theorem RowsO.nil (w : World) (B : Nat) : RowsO w B (.slice none 0 0) [] := ⟨[], Own.nil _ _ _, rfl, fun i h => by simp at h⟩
theorem RowsO.len {w : World} {B : Nat} {v : Value} {l : List (List UInt8)} (h : RowsO w B v l) : sliceLen v = some l.length := by
  obtain ⟨vs, h1, h2, _⟩ := h
  rw [← h2]; exact h1.rd.len
theorem RowsO.lt {w : World} {B : Nat} {v : Value} {l : List (List UInt8)} (h : RowsO w B v l) : ∀ q, v.ownBlock = some q → q < w.heap.size := by
  obtain ⟨vs, h1, _⟩ := h
  exact h1.ltS
theorem RowsO.grow {w w' : World} {B : Nat} {v : Value} {l : List (List UInt8)} (h : RowsO w B v l) (g : Grow w w') : RowsO w' B v l := by
  obtain ⟨vs, h1, h2, h3⟩ := h
  exact ⟨vs, h1.grow g, h2, fun i hi hi' => ⟨(h3 i hi hi').1.grow g, (h3 i hi hi').2⟩⟩
theorem RowsO.stepS {S S' : Fp} {w w' : World} {B : Nat} {v : Value} {l : List (List UInt8)} (h : RowsO w B v l) (st : Step S w w' S') (hs : ∀ q, S q → q < B) : RowsO w' B v l := by
  obtain ⟨vs, h1, h2, h3⟩ := h
  refine ⟨vs, h1.stepS st (fun q hq hS => by have := hs q hS; have := (World.ownsRow.lt h1 q hq).1; omega), h2, fun i hi hi' => ⟨(h3 i hi hi').1.stepS st (fun _ q hq hS => by have := hs q hS; have := ((h3 i hi hi').2.2 q hq).1; omega), (h3 i hi hi').2⟩⟩
theorem RowsO.rows {w : World} {B : Nat} {v v' : Value} {l : List (List UInt8)} (h : RowsO w B v l) (hv : ∀ vs, Rd w v vs → Rd w v' vs ∧ v'.ownBlock = v.ownBlock) {S : Fp} (hs : ∀ q, S q → q < B) : RowsX S w v' l := by
  obtain ⟨vs, h1, h2, h3⟩ := h
  obtain ⟨k1, k2⟩ := hv vs h1.rd
  refine ⟨vs, ⟨k1, fun _ q hq hS => ?_⟩, h2, fun i hi hi' => ⟨(h3 i hi hi').1, fun _ q hq hS => ?_⟩⟩
  · rw [k2] at hq
    have := hs q hS; have := (World.ownsRow.lt h1 q hq).1; omega
  · have := hs q hS; have := ((h3 i hi hi').2.2 q hq).1; omega

/-- one more -/
theorem RowsO.push {w w0 : World} {B : Nat} {v u : Value} {l : List (List UInt8)} {x : List UInt8} (h : RowsO w B v l) (hu : RdB w u x) (hx : x ≠ []) (hn : ∀ q, u.ownBlock = some q → B ≤ q ∧ v.ownBlock ≠ some q) (hl : l.length ≤ 1000) (hB : B ≤ w.heap.size) (e : w0 = World.alloc w (.cells #[u] tB)) :
    ∃ v' w', Sem.run Try.prog (Builtin.append_ #[tBB, tBB] tBB #[v, .slice (some ⟨w.heap.size, 0, none⟩) 1 1]) w0 = .ok v' w' ∧ RowsO w' B v' (l ++ [x]) ∧ Below B w w' := by
  obtain ⟨vs, h1, h2, h3⟩ := h
  obtain ⟨b0, g0, _⟩ := alE e
  have r0 : Rd w0 (.slice (some ⟨w.heap.size, 0, none⟩) 1 1) [u] := by
    have := rd_mid b0 0 1 (by simp) (by simp [maxLen])
    rw [add_zero] at this
    exact this
  have one : u.oneCell' = true := by obtain ⟨a, cap, rfl, _⟩ := hu; rfl
  obtain ⟨v', w', k1, k2, k3⟩ := app_own tyBB (h1.grow g0) r0 (by intro y hy; simp at hy; subst hy; exact one) (by simp; omega) (Nat.le_trans hB g0.size)
  have bl : Below B w0 w' := k3.below (Nat.le_trans hB g0.size) (fun q hq => (World.ownsRow.lt h1 q hq).1)
  refine ⟨v', w', k1, ⟨vs ++ [u], k2, by simp [h2], fun i hi hi' => ?_⟩, (g0.mono hB).trans bl⟩
  -- the rows' bytes stay: of what was there the list's own block alone has turned
  have keep : ∀ {y : Value} {bs : List UInt8}, RdB w y bs → bs ≠ [] → (∀ q, y.ownBlock = some q → B ≤ q ∧ v.ownBlock ≠ some q) → RdB w' y bs ∧ bs ≠ [] ∧ ∀ q, y.ownBlock = some q → B ≤ q ∧ v'.ownBlock ≠ some q := by
    intro y bs hy hb hq
    refine ⟨(hy.grow g0).kept fun a c ha hv => ?_, hb, fun q hyq => ⟨(hq q hyq).1, fun e' => ?_⟩⟩
    · exact (cell_of_heap (k3.by_.block a.block (World.block_lt_of_cell? _ _ ha) (fun e => (hq a.block hv).2 e.symm))).trans ha
    · have hlt := Rd.lt hy (by simpa using hb) q hyq
      rcases k3.at_ with a | a
      · exact (hq q hyq).2 (a ▸ e')
      · have := a q e'; have := g0.size; omega
  by_cases hii : i < vs.length
  · have e1 : (vs ++ [u])[i] = vs[i] := List.getElem_append_left hii
    have e2 : (l ++ [x])[i] = l[i]'(by omega) := List.getElem_append_left (by omega)
    rw [e1, e2]
    have := h3 i hii (by omega)
    exact keep this.1 this.2.1 this.2.2
  · have hi2 : i = vs.length := by simp at hi; omega
    subst hi2
    have e1 : (vs ++ [u])[vs.length]'(by simp) = u := by simp
    have e2 : (l ++ [x])[vs.length]'hi' = x := by
      have : vs.length = l.length := h2
      simp [this]
    rw [e1, e2]
    exact keep hu hx hn

theorem ClipB_c {w : World} {v : Value} {R : KV} {n : Nat} (hr : sliceLen v = some n) (hn : ∃ xs, Rd w v xs) (k : ∀ v', (∀ vs, Rd w v vs → Rd w v' vs ∧ v'.ownBlock = v.ownBlock) → R v' w) : Go.CW.Spec Try.prog 25 #[v] w R := by
  apply slices_ClipB___wp
  obtain ⟨xs, a, cap, rfl, h1, h2, h3, h4⟩ := hn
  cases hr
  refine ⟨_, rfl, _, rfl, ?_⟩
  have h0 : (0 : Int) ≤ (xs.length : Int) := by omega
  have e : (xs.length : Int) ≤ cap := by omega
  refine ⟨.slice a xs.length xs.length, ?_, k _ fun vs hv => ⟨?_, by cases a <;> rfl⟩⟩
  · simp only [subSlice, boundsOf, boundOf, h0, e, and_self, if_true, Int.toNat_natCast, Int.le_refl, Nat.sub_zero]
    split
    · rfl
    · cases a <;> simp [add_zero]
  · obtain ⟨a', cap', hv', l1, l2, l3, l4⟩ := hv
    injection hv' with q1 q2 q3
    subst q1; subst q3
    exact ⟨a, xs.length, by rw [q2], by omega, by omega, fun hh => by have := h3 hh; omega, l4⟩

end Go.Proofs.Ytnmofoekabbjlaa
