/- Texts of this seat, one behind the other: TskP, TskQ, TskR, TskS, TskT, TskU. -/
import Derived.Test.YtnclgknfccliiaaGreatDoorLuA
import Derived.Test.YtnclgknfccliiaaGreatDoorGTsk
section
/- A set of tasks: find, whether one may start, those that may, Put at the end, Start, Done. -/
set_option linter.unusedVariables false
set_option linter.unusedSimpArgs false
set_option maxRecDepth 100000
namespace Go.Proofs.YtnclgknfccliiaaGreatDoor
open Go Go.CW Go.RowKit

theorem callU_of {P : Program} {g : FuncId} {first captured args : Array Value} {w : World} {K : KV} (hb : (P.funcs[g]?).map (fun fn => fn.body.isSome) = some true) (h : Go.CW.Spec P g (app3 first args captured) w K) :
    callU P (.func (.func g) first captured) args w K := by
  unfold callU
  simp only [hb]
  exact h

structure Tk where
  tag : Int
  attr : Int
  on : Bool
def ET : Enc Tk := ⟨3, fun x => [.int .u32 x.tag, .int .i64 x.attr, .bool x.on], fun _ => rfl, by omega, fun _ => rfl⟩
abbrev tTk : TypeId := 132
abbrev tTks : TypeId := 126
abbrev tSt : TypeId := 128
theorem tyTk : SlTyN Tryz.prog tTks tTk ET.s 24 := SlTyN.of (by kernel_rfl)

/-- a set's object; its row -/
structure SetAt (w : World) (s B : Nat) (v : Value) (L : List Tk) : Prop where
  o : BK w s #[.int .i64 (64 : Int), v] tSt
  l : OwnR ET w B tTk v L

variable {w : World} {s B : Nat} {v : Value} {L : List Tk}
theorem SetAt.grow {w' : World} (h : SetAt w s B v L) (g : Grow w w') : SetAt w' s B v L := ⟨h.o.grow g, h.l.grow g⟩

/-- the first place that is such; -1 -/
def idxP (p : Tk → Bool) (L : List Tk) : Int := match L.findIdx? p with | some i => (i : Int) | none => -1

theorem tk_ld (h : RdR ET w v L) {k : Nat} (hk : k < L.length) : ∃ a, sliceAt v (k : Int) 3 = some a ∧ ldCells w a 3 #[.int .u32 L[k].tag, .int .i64 L[k].attr, .bool L[k].on] := by
  obtain ⟨a, h1, h2, _⟩ := h.at (i := (k : Int)) (by omega) (by omega)
  exact ⟨a, h1, ldCells_of (vs := ET.enc L[k]) rfl (fun j hj => (h2 j hj).trans (by simp))⟩

theorem indexFunc_c {f : Value} {p : Tk → Bool} (h : RdR ET w v L)
    (hf : ∀ (x : Tk) (w' : World) (K : KV), Grow w w' → (∀ w'', Grow w' w'' → K (.bool (p x)) w'') → callU Tryz.prog f #[.agg #[.int .u32 x.tag, .int .i64 x.attr, .bool x.on]] w' K) {R : KV}
    (k : ∀ w', Grow w w' → R (.int .i64 (idxP p L)) w') : Go.CW.Spec Tryz.prog 73 #[v, f] w R := by
  apply slices_IndexFunc_73_wp
  refine ⟨_, h.len, ?_⟩
  refine ⟨fun (n : Int) (w' : World) => ∃ i : Nat, n = (i : Int) ∧ i ≤ L.length ∧ Grow w w' ∧ ∀ j (hj : j < i) (hl : j < L.length), p L[j] = false, fun (n : Int) (_ : World) => ((L.length : Int) - n).toNat, ⟨0, rfl, by omega, Grow.refl _, fun j hj => by omega⟩, ?_⟩
  dsimp only [allR, mapR2, eqN, ltN]
  rintro m n w' ⟨⟨i, rfl, hi, g, hb⟩, hm⟩
  have hle := h.le
  refine cond_intro (fun hc => ?_) (fun hc => ?_)
  · have hlt : i < L.length := by simpa using hc
    obtain ⟨a, ha, hld⟩ := tk_ld (h.grow g) hlt
    refine ⟨a, ha, _, _, _, hld, hf L[i] w' _ g fun w'' g'' => ⟨_, rfl, cond_intro (fun hp => ?_) (fun hp => ?_)⟩⟩
    · have e : idxP p L = (i : Int) := by
        unfold idxP
        have : L.findIdx? p = some i := by
          rw [List.findIdx?_eq_some_iff_getElem]
          exact ⟨hlt, hp, fun j hj => by simpa using hb j hj (by omega)⟩
        rw [this]
      have := k w'' (g.then g'')
      rw [e] at this
      exact this
    · rw [wi64_id (by omega) (by omega)]
      refine ⟨⟨i + 1, by omega, by omega, g.then g'', fun j hj hl => ?_⟩, by omega⟩
      rcases Nat.lt_or_ge j i with h1 | h1
      · exact hb j h1 hl
      · have : j = i := by omega
        subst this; exact hp
  · have hge : i = L.length := by simp at hc; omega
    subst hge
    have e : idxP p L = -1 := by
      unfold idxP
      have : L.findIdx? p = none := by
        rw [List.findIdx?_eq_none_iff]
        intro x hx
        obtain ⟨j, hj, rfl⟩ := List.mem_iff_getElem.1 hx
        exact hb j hj hj
      rw [this]
    have := k w' g
    rw [e] at this
    exact this

theorem find_c (h : SetAt w s B v L) {tag : Int} {R : KV} (k : ∀ w', Grow w w' → R (.int .i64 (idxP (fun x => x.tag == tag) L)) w') : Go.CW.Spec Tryz.prog 72 #[.pointer (some ⟨s, 0, none⟩), .int .u32 tag] w R := by
  apply task_Set_find_m_wp
  refine nm fun w0 e0 => ?_
  obtain ⟨b0, g0, _⟩ := alE e0
  have h0 := h.grow g0
  refine withAddr_some ⟨_, by rw [h0.o.cell]; rfl, indexFunc_c (p := fun x => x.tag == tag) h0.l.rd (fun x w' K g hK => callU_of (by kernel_rfl) ?_) fun w4 g4 => ⟨_, rfl, k _ (g0.then g4)⟩⟩
  refine task_Set_find_1_m_wp _ _ _ _ _ _ ?_
  refine nm fun w1 e1 => ?_
  obtain ⟨b1, g1, _⟩ := alE e1
  refine ⟨_, by rw [b1.cell]; rfl, withAddr_some ⟨tag, ?_, hK _ g1⟩⟩
  have := ((b0.grow g).grow g1).at 0
  rw [this]; rfl

end Go.Proofs.YtnclgknfccliiaaGreatDoor

end

section
/- A set of tasks: whether a place may start; those that may. -/
set_option linter.unusedVariables false
set_option linter.unusedSimpArgs false
set_option maxRecDepth 100000
namespace Go.Proofs.YtnclgknfccliiaaGreatDoor
open Go Go.CW Go.RowKit

variable {w : World} {s B : Nat} {v : Value} {L : List Tk}

theorem idxP_any (p : Tk → Bool) (L : List Tk) : decide (idxP p L ≥ (0 : Int)) = L.any p := by
  unfold idxP
  cases h : L.findIdx? p with
  | none =>
    rw [List.findIdx?_eq_none_iff] at h
    have : L.any p = false := by
      rw [List.any_eq_false]
      intro x hx; simp [h x hx]
    rw [this]; decide
  | some i =>
    rw [List.findIdx?_eq_some_iff_getElem] at h
    obtain ⟨h1, h2, _⟩ := h
    have : L.any p = true := List.any_eq_true.2 ⟨_, List.getElem_mem h1, h2⟩
    rw [this]; simp

/-- whether a place may start -/
def enB (L : List Tk) (i : Nat) : Bool :=
  match L[i]? with
  | none => false
  | some t => bif t.on then false else bif t.attr == 2 then true else bif t.attr == 1 then i == 0 else !((L.take i).any fun x => x.attr != 0)

theorem enabled_c (h : SetAt w s B v L) {i : Nat} (hi : i < L.length) {R : KV} (k : ∀ w', Grow w w' → R (.bool (enB L i)) w') : Go.CW.Spec Tryz.prog 76 #[.pointer (some ⟨s, 0, none⟩), .int .i64 (i : Int)] w R := by
  apply task_Set_enabled_m_wp
  unfold enB at k
  rw [List.getElem?_eq_getElem hi] at k
  dsimp only at k
  obtain ⟨a, ha, hld⟩ := tk_ld h.l.rd hi
  refine withAddr_some ⟨v, by rw [h.o.cell]; rfl, a, ha, _, _, _, hld, nm fun w6 e6 => ?_⟩
  obtain ⟨b6, g6, _⟩ := alE e6
  refine ⟨b6.row rfl rfl, nm fun w7 e7 => ?_⟩
  obtain ⟨b7, t7⟩ := rowE b6 e7 rfl
  have g7 : Grow w w7 := Below.turn g6 t7 (Nat.le_refl _)
  have h7 := h.grow g7
  have k := k
  refine ⟨_, by rw [b7.cell]; rfl, cond_intro (fun h1 => ?_) (fun h1 => ?_)⟩
  · rw [h1] at k; exact k _ g7
  · rw [h1, cond_false] at k
    refine ⟨_, by rw [b7.cell]; rfl, cond_intro (fun h2 => ?_) (fun h2 => ⟨_, by rw [b7.cell]; rfl, cond_intro (fun h3 => ?_) (fun h3 => ?_)⟩)⟩
    · rw [h2] at k; exact k _ g7
    · rw [h2, h3, cond_false, cond_true] at k
      have e : ((i : Int) == (0 : Int)) = (i == 0) := by rw [Bool.eq_iff_iff]; simp
      rw [e]; exact k _ g7
    · rw [h2, h3, cond_false, cond_false] at k
      have hle := h.l.rd.le
      obtain ⟨v13, hs13, hr13, _⟩ := RdR.sub h7.l.rd (lo := none) (hi := some (.int .i64 (i : Int))) (l := 0) (r := i) (fun cap hc => by rw [bounds_ni (by omega) (by omega)]; simp) (by omega) (by omega)
      refine withAddr_some ⟨v, by rw [h7.o.cell]; rfl, v13, hs13, ?_⟩
      rw [List.drop_zero, Nat.sub_zero] at hr13
      refine slices_ContainsFunc_110_wp _ _ _ _ ?_
      refine indexFunc_c (p := fun x => x.attr != 0) hr13 (fun x w' K g hK => callU_of (by kernel_rfl) ?_) fun w4 g4 => ⟨_, rfl, ?_⟩
      · refine task_Set_enabled_1_m_wp _ _ _ _ _ ?_
        refine nm fun w1 e1 => ?_
        obtain ⟨b1, g1, _⟩ := alE e1
        exact ⟨_, by rw [b1.cell]; rfl, hK _ g1⟩
      · rw [idxP_any]
        exact ⟨_, rfl, k _ (g7.then g4)⟩

end Go.Proofs.YtnclgknfccliiaaGreatDoor

end

section
/- A set of tasks: those that may start; Put at the end; Start. -/
set_option linter.unusedVariables false
set_option linter.unusedSimpArgs false
set_option maxRecDepth 100000
namespace Go.Proofs.YtnclgknfccliiaaGreatDoor
open Go Go.CW Go.RowKit

variable {w : World} {s B : Nat} {v : Value} {L : List Tk}

def E4 : Enc Int := ⟨1, fun n => [.int .u32 n], fun _ => rfl, by omega, fun _ => rfl⟩
abbrev tU4 : TypeId := 66
abbrev tU4s : TypeId := 81
theorem tyU4 : SlTyN Tryz.prog tU4s tU4 E4.s 4 := SlTyN.of (by kernel_rfl)

theorem clip77_c {v : Value} {L : List Int} {R : KV} (hd : RdR E4 w v L) (k : ∀ v', RdR E4 w v' L → v'.ownBlock = v.ownBlock → R v' w) : Go.CW.Spec Tryz.prog 77 #[v] w R := by
  apply slices_Clip_77_wp
  have hle := hd.le
  refine ⟨_, hd.len, _, hd.len, ?_⟩
  obtain ⟨v', h1, h2, h3⟩ : ∃ v', subSlice v 1 none (some (.int .i64 ((L.length : Nat) : Int))) (some (.int .i64 ((L.length : Nat) : Int))) = some v' ∧ RdR E4 w v' L ∧ v'.ownBlock = v.ownBlock := by
    obtain ⟨a, cap, rfl, q1, q2, q3, q4⟩ := hd
    have h0 : (0 : Int) ≤ (L.length : Int) := by omega
    have e : (L.length : Int) ≤ cap := by omega
    refine ⟨.slice a L.length L.length, ?_, ⟨a, L.length, rfl, Nat.le_refl _, by omega, fun hh => by have := q3 hh; omega, q4⟩, by cases a <;> rfl⟩
    simp only [subSlice, boundsOf, boundOf, h0, e, and_self, if_true, Int.toNat_natCast, Int.le_refl, Nat.sub_zero, Nat.zero_mul]
    cases a with
    | none =>
      have := q3 rfl
      split <;> simp
    | some a => split <;> simp [add_zero]
  exact ⟨v', h1, k v' h2 h3⟩

def enL (L : List Tk) (n : Nat) : List Int := ((List.range n).filter (enB L)).map fun i => ((L[i]?).map (·.tag)).getD 0

theorem enL_len (L : List Tk) (n : Nat) : (enL L n).length ≤ n := by
  unfold enL
  rw [List.length_map]
  have := List.length_filter_le (enB L) (List.range n)
  simpa using this

theorem Enabled_c (h : SetAt w s B v L) (hb : L.length ≤ 1000) {R : KV} (k : ∀ u w', Grow w w' → RdR E4 w' u (enL L L.length) → NewV w u → R u w') : Go.CW.Spec Tryz.prog 37 #[.pointer (some ⟨s, 0, none⟩)] w R := by
  apply task_Set_Enabled_m_wp
  refine withAddr_some ⟨v, by rw [h.o.cell]; rfl, _, h.l.rd.len, ?_⟩
  refine ⟨fun (u : Value) (n : Int) (w' : World) => ∃ i : Nat, n = (i : Int) ∧ i ≤ L.length ∧ Grow w w' ∧ OwnR E4 w' w.heap.size tU4 u (enL L i), fun (_ : Value) (n : Int) (_ : World) => ((L.length : Int) - n).toNat,
    ⟨0, rfl, by omega, Grow.refl _, OwnR.nil _ _ _⟩, ?_⟩
  dsimp only [allR, mapR2, eqN, ltN]
  rintro m u n w6 ⟨⟨i, rfl, hi, g, ho⟩, hm⟩
  refine cond_intro (fun hc => ?_) (fun hc => ?_)
  · have hlt : i < L.length := by simpa using hc
    have hen : enL L (i + 1) = enL L i ++ (bif enB L i then [L[i].tag] else []) := by
      unfold enL
      rw [List.range_succ, List.filter_append, List.map_append]
      congr 1
      cases he : enB L i <;> simp [List.filter_cons, he, List.getElem?_eq_getElem hlt]
    refine JoinP.val (fun u' w' => Grow w w' ∧ OwnR E4 w' w.heap.size tU4 u' (enL L (i + 1))) (fun j hj => ?_) ?_
    · have h6 := h.grow g
      obtain ⟨a, ha, hld⟩ := tk_ld h6.l.rd hlt
      refine ⟨a, ha, _, _, _, hld, nm fun w14 e14 => ?_⟩
      obtain ⟨b14, g14, _⟩ := alE e14
      refine ⟨b14.row rfl rfl, nm fun w15 e15 => ?_⟩
      obtain ⟨b15, t15⟩ := rowE b14 e15 rfl
      have g15 : Grow w6 w15 := Below.turn g14 t15 (Nat.le_refl _)
      refine enabled_c (h6.grow g15) hlt fun w17 g17 => ⟨_, rfl, cond_intro (fun he => ?_) (fun he => ?_)⟩
      · have he' : enB L i = false := by simpa using he
        refine hj _ _ ⟨(g.then g15).then g17, ?_⟩
        rw [hen, he', cond_false, List.append_nil]
        exact ho.grow (g15.then g17)
      · have he' : enB L i = true := by simpa using he
        refine ⟨_, by rw [(b15.grow g17).cell]; rfl, nm fun w20 e20 => ?_⟩
        obtain ⟨bk, gr, sz⟩ := alE e20
        have hrd : RdR E4 w20 (.slice (some ⟨w17.heap.size, 0, none⟩) 1 1) [L[i].tag] := by
          refine ⟨some ⟨w17.heap.size, 0, none⟩, 1, rfl, Nat.le_refl _, by simp [maxLen], (fun e => by cases e), fun j u hj => ⟨_, rfl, ?_⟩⟩
          rw [bk.cell]
          simpa [Enc.flat, E4] using hj
        have gg := (g15.then g17).then gr
        have hl := enL_len L i
        have sz' : w.heap.size ≤ w20.heap.size := Nat.le_trans g.size gg.size
        obtain ⟨v21, w22, hrun, ho22, hnext⟩ := app_ownR tyU4 (ho.grow gg) hrd (by simp only [List.length_cons, List.length_nil]; omega) sz'
        refine ⟨v21, w22, hrun, hj _ _ ⟨(g.then gg).trans (hnext.below sz' (fun q hq => (ho.lt q hq).1)), ?_⟩⟩
        rw [hen, he', cond_true]; exact ho22
    · rintro u' w' ⟨g', ho'⟩
      rw [wi64_id (by omega) (by omega)]
      exact ⟨⟨i + 1, by omega, by omega, g', ho'⟩, by omega⟩
  · have hge : i = L.length := by simp at hc; omega
    subst hge
    exact clip77_c ho.rd fun u' hr hb' => k u' w6 g hr (fun q hq => (ho.lt q (hb' ▸ hq)).1)

end Go.Proofs.YtnclgknfccliiaaGreatDoor

end

section
/- A set of tasks: New, Len, Put at the end, Start. -/
set_option linter.unusedVariables false
set_option linter.unusedSimpArgs false
set_option maxRecDepth 100000
namespace Go.Proofs.YtnclgknfccliiaaGreatDoor
open Go Go.CW Go.RowKit

variable {w : World} {s B : Nat} {v : Value} {L : List Tk}

theorem sNew_c {R : KV} (k : ∀ s w', Grow w w' → w.heap.size ≤ s → SetAt w' s w.heap.size nilV [] → R (.tuple #[.pointer (some ⟨s, 0, none⟩), .int .i64 (0 : Int)]) w') : Go.CW.Spec Tryz.prog 34 #[.int .i64 (64 : Int)] w R := by
  apply task_New_wp
  refine JoinP.go (cond_f rfl (cond_f rfl (nm fun w2 e2 => ?_)))
  obtain ⟨b2, g2, _⟩ := alE e2
  exact k _ _ g2 (Nat.le_refl _) ⟨b2, OwnR.nil _ _ _⟩

theorem sLen_c (h : SetAt w s B v L) {R : KV} (k : R (.int .i64 (L.length : Int)) w) : Go.CW.Spec Tryz.prog 36 #[.pointer (some ⟨s, 0, none⟩)] w R := by
  apply task_Set_Len_m_wp
  exact withAddr_some ⟨v, by rw [h.o.cell]; rfl, _, h.l.rd.len, k⟩

/-- what a call on the set may turn: its object, its row -/
abbrev FSet (s : Nat) (v : Value) : Fp := fun k => k = s ∨ v.ownBlock = some k

theorem idxP_none {p : Tk → Bool} {L : List Tk} (h : L.any p = false) : idxP p L = -1 := by
  unfold idxP
  have : L.findIdx? p = none := by
    rw [List.findIdx?_eq_none_iff]
    intro x hx
    have := List.any_eq_false.1 h x hx
    simpa using this
  rw [this]

theorem own_ns {cs : Array Value} (l : OwnR ET w B tTk v L) (b : BK w s cs tSt) : v.ownBlock ≠ some s := by
  rcases l.2 with ⟨rfl, _⟩ | ⟨g, cap, cur, rfl, _, hg, _⟩
  · intro e; cases e
  · intro e
    have : g = s := by simpa [Value.ownBlock] using e
    subst this
    unfold BK at b
    rw [hg] at b
    injection b with b
    injection b with _ b
    exact absurd b (by decide)
theorem own_s (h : SetAt w s B v L) : v.ownBlock ≠ some s := own_ns h.l h.o

theorem Put_c (h : SetAt w s B v L) (hs : B ≤ w.heap.size) {tag attr : Int} (ha : attr = 0 ∨ attr = 1) (hn : L.any (fun x => x.tag == tag) = false) (hl : L.length < 64) {R : KV}
    (k : ∀ v' w', Step (FSet s v) w w' (FSet s v') → SetAt w' s B v' (L ++ [⟨tag, attr, false⟩]) → R (.int .i64 (0 : Int)) w') :
    Go.CW.Spec Tryz.prog 35 #[.pointer (some ⟨s, 0, none⟩), .int .u32 tag, .int .i64 attr] w R := by
  apply task_Set_Put_m_wp
  refine JoinP.bool (fun q w' => q = false ∧ Grow w w') (fun j hj => cond_f (by simp; omega) (cond_f (by simp; omega) (find_c h fun w4 g4 => ⟨_, rfl, hj _ _ ⟨by rw [idxP_none hn]; rfl, g4⟩⟩))) ?_
  rintro q w1 ⟨rfl, g1⟩
  refine cond_f rfl (nm fun w2 e2 => ?_)
  have h2 := (h.grow g1).grow (drE e2)
  refine withAddr_some ⟨v, by rw [h2.o.cell]; rfl, _, h2.l.rd.len, withAddr_some ⟨_, by rw [h2.o.cell]; rfl, nm fun w8 e8 => cond_f (by simp; omega) ?_⟩⟩
  have g8 : Grow w w8 := g1.then (drE e8)
  have h8 := h.grow g8
  refine withAddr_some ⟨v, by rw [h8.o.cell]; rfl, _, h8.l.rd.len, ?_⟩
  refine JoinP.go (cond_f (by simp; omega) ?_)
  refine withAddr_some ⟨v, by rw [h8.o.cell]; rfl, nm fun w16 e16 => ?_⟩
  obtain ⟨b16, g16', _⟩ := alE e16
  have g16 := g8.then g16'
  have h16 := h8.grow g16'
  have hrd : RdR ET w16 (.slice (some ⟨w8.heap.size, 0, none⟩) 1 1) [⟨tag, attr, false⟩] := by
    refine ⟨some ⟨w8.heap.size, 0, none⟩, 1, rfl, Nat.le_refl _, by simp [maxLen], (fun e => by cases e), fun j u hj => ⟨_, rfl, ?_⟩⟩
    rw [b16.cell]
    simpa [Enc.flat, ET] using hj
  refine slices_Insert_75_wp _ _ _ _ _ ?_
  obtain ⟨v0, hs0, _, _⟩ := RdR.sub h16.l.rd (lo := some (.int .i64 (L.length : Int))) (hi := none) (l := L.length) (r := L.length) (fun cap hc => by rw [bounds_in (by omega) (by omega)]; simp) (by omega) (by omega)
  refine ⟨v0, hs0, _, hrd.len, cond_f rfl ⟨_, h16.l.rd.len, cond_t (by simp) ?_⟩⟩
  obtain ⟨v3, w4, hrun, ho4, hnext⟩ := app_ownR tyTk h16.l hrd (by simp only [List.length_cons, List.length_nil]; omega) (Nat.le_trans hs g16.size)
  refine ⟨v3, w4, hrun, ?_⟩
  have st := Step.of_own (S := fun x => v.ownBlock = some x) hnext (fun _ hx => hx)
  have o4 : BK w4 s #[.int .i64 (64 : Int), v] tSt := h16.o.stepS st (own_s h16)
  have one : isOne v3 = true := by rcases ho4.2 with ⟨rfl, _⟩ | ⟨g, cap, cur, rfl, _⟩ <;> rfl
  refine withAddr_some (oneK_of one ⟨st1_at o4 (by show 1 < 2; omega), nm fun w20 e20 => ?_⟩)
  obtain ⟨b20, t20⟩ := setE o4 e20
  have hne : v3.ownBlock ≠ some s := own_ns ho4 o4
  have st0 : Step (FSet s v) w w4 (fun k => FSet s v k ∨ v3.ownBlock = some k) := (Step.of_grow g16).then (Step.of_own (S := FSet s v) hnext (fun _ hx => .inr hx))
  have st1 := st0.then (t20.step (S := fun k => FSet s v k ∨ v3.ownBlock = some k) (.inl (.inl rfl)))
  refine k v3 w20 (st1.imp (fun _ hk => hk) (fun q hq => ?_)) ⟨b20, ?_⟩
  · rcases hq with e | e
    · exact .inl (.inl e)
    · exact st1.fp q (.inr e)
  · exact ho4.stable fun q hq => t20.block q (fun e => hne (e ▸ hq))

end Go.Proofs.YtnclgknfccliiaaGreatDoor

end

section
/- A set of tasks: Start; an element taken out of a row; Done. -/
set_option linter.unusedVariables false
set_option linter.unusedSimpArgs false
set_option maxRecDepth 100000
namespace Go.Proofs.YtnclgknfccliiaaGreatDoor
open Go Go.CW Go.RowKit

variable {w : World} {s B : Nat} {v : Value} {L : List Tk}

theorem idxP_some {p : Tk → Bool} {L : List Tk} {i : Nat} (hi : i < L.length) (hp : p L[i] = true) (hb : ∀ j (hj : j < i), p (L[j]'(by omega)) = false) : idxP p L = (i : Int) := by
  unfold idxP
  have : L.findIdx? p = some i := by
    rw [List.findIdx?_eq_some_iff_getElem]
    exact ⟨hi, hp, fun j hj => by simpa using hb j hj⟩
  rw [this]

theorem Start_c (h : SetAt w s B v L) {i : Nat} (hi : i < L.length) {tag : Int} (hp : L[i].tag = tag) (hb : ∀ j (hj : j < i), (L[j]'(by omega)).tag ≠ tag) (he : enB L i = true) {R : KV}
    (k : ∀ w', Step (FSet s v) w w' (FSet s v) → SetAt w' s B v (L.set i ⟨L[i].tag, L[i].attr, true⟩) → R (.int .i64 (0 : Int)) w') :
    Go.CW.Spec Tryz.prog 38 #[.pointer (some ⟨s, 0, none⟩), .int .u32 tag] w R := by
  apply task_Set_Start_m_wp
  refine find_c h fun w1 g1 => ⟨_, rfl, ?_⟩
  have hx : idxP (fun x => x.tag == tag) L = (i : Int) := idxP_some hi (by simpa using hp) (fun j hj => by simpa using hb j hj)
  rw [hx]
  have h1 := h.grow g1
  refine cond_f (by simp) (enabled_c h1 hi fun w4 g4 => ⟨_, rfl, cond_f (by rw [he]; rfl) ?_⟩)
  have h4 := h1.grow g4
  obtain ⟨a, ha, hab, _, _, _, hc⟩ := h4.l.put (i := (i : Int)) (by omega) (by omega)
  obtain ⟨c1, c2⟩ := hc 2 (by show 2 < 3; omega)
  have c3 := c2 (.bool true) ⟨L[i].tag, L[i].attr, true⟩ rfl
  rw [Int.toNat_natCast] at c3
  refine withAddr_some ⟨v, by rw [h4.o.cell]; rfl, a, ha, c1, nm fun w9 e9 => ?_⟩
  have hne : a.block ≠ s := fun e => own_s h4 (by rw [hab, e])
  have st : Step (FSet s v) w4 w9 (FSet s v) := by subst e9; exact Step.setA w4 _ _ (by rw [add_block]; exact .inr hab)
  subst e9
  refine k _ ((Step.of_grow (g1.then g4)).then st) ⟨?_, c3⟩
  have tn := Turn.set w4 (a.add 2) (.bool true)
  rw [add_block] at tn
  exact h4.o.turn tn hne.symm

end Go.Proofs.YtnclgknfccliiaaGreatDoor

end

section
/- A set of tasks: an element taken out of a row; Done. -/
set_option linter.unusedVariables false
set_option linter.unusedSimpArgs false
set_option maxRecDepth 100000
namespace Go.Proofs.YtnclgknfccliiaaGreatDoor
open Go Go.CW Go.RowKit

variable {w : World} {s B : Nat} {v : Value} {L : List Tk}

theorem bounds_iii {k k' k'' : IntKind} {a b c : Int} {len cap : Nat} (h0 : 0 ≤ a) (h1 : a ≤ b) (h2 : b ≤ c) (h3 : c ≤ cap) : boundsOf len cap (some (.int k a)) (some (.int k' b)) (some (.int k'' c)) = some (a.toNat, b.toNat, c.toNat) := by
  have h4 : (0 : Int) ≤ b := by omega
  have h5 : (0 : Int) ≤ c := by omega
  have h6 : b ≤ max c 0 := by omega
  have h7 : a ≤ max b 0 := by omega
  simp [boundsOf, boundOf, h0, h3, h4, h5, h6, h7]

theorem delete_c (h : OwnR ET w B tTk v L) {i : Nat} (hi : i < L.length) {R : KV} (k : ∀ v' w', v'.ownBlock = v.ownBlock → Step (fun q => v.ownBlock = some q) w w' (fun q => v.ownBlock = some q) → OwnR ET w' B tTk v' (L.take i ++ L.drop (i + 1)) → R v' w') :
    Go.CW.Spec Tryz.prog 78 #[v, .int .i64 (i : Int), .int .i64 ((i : Int) + 1)] w R := by
  have hrd := h.rd
  have hle := hrd.le
  rcases h.2 with ⟨rfl, hn⟩ | ⟨g, cap, cur, rfl, hb, hg, hn, hm, hs, ht⟩
  · omega
  have hm0 := hm
  simp only [maxLen] at hm
  have hk : BK w g cur tTk := hg
  have h3 : ET.s = 3 := rfl
  rw [h3] at hs ht
  apply slices_Delete_78_wp
  have hb1 : ∃ v1, subSlice (.slice (some ⟨g, 0, none⟩) L.length cap) 3 (some (.int .i64 (i : Int))) (some (.int .i64 ((i : Int) + 1))) (some (.int .i64 ((L.length : Nat) : Int))) = some v1 := by
    simp only [subSlice, bounds_iii (a := (i : Int)) (b := (i : Int) + 1) (c := ((L.length : Nat) : Int)) (len := L.length) (cap := cap) (by omega) (by omega) (by omega) (by omega)]
    exact ⟨_, rfl⟩
  obtain ⟨v1, hv1⟩ := hb1
  refine ⟨_, rfl, v1, hv1, cond_f (by simp; omega) ⟨_, rfl, nm fun w3 e3 => ?_⟩⟩
  refine ⟨.slice (some ⟨g, 0, none⟩) i cap, ?_, ?_⟩
  · simp only [subSlice, bounds_ni (b := (i : Int)) (len := L.length) (cap := cap) (by omega) (by omega)]
    simp [add_zero]
  have hcap : cap ≠ L.length - 1 := by omega
  refine ⟨.slice (if cap = i + 1 then some ⟨g, 0, none⟩ else some ⟨g, (i + 1) * 3, none⟩) (L.length - (i + 1)) (cap - (i + 1)), ?_, nm fun w6 e6 => ?_⟩
  · simp only [subSlice, bounds_in (a := (i : Int) + 1) (len := L.length) (cap := cap) (by omega) (by omega)]
    have e1 : ((i : Int) + 1).toNat = i + 1 := by omega
    rw [e1]
    simp only [Option.map_some, ad0]
  have gd := drE e6
  have hk6 := hk.grow gd
  obtain ⟨ei, z, hinfo, hz, hsz, hby, hzs⟩ := tyTk.info
  rw [h3] at hsz hzs
  have hflat : (ET.flat (L.drop (i + 1))).length = (L.length - (i + 1)) * 3 := by rw [Enc.flat_length, List.length_drop]; rfl
  have hrun := run_append_room (P := Tryz.prog) w6 tTks tTks tTk ei tyTk.und hinfo g i cap cur hk6 (if cap = i + 1 then ⟨g, 0, none⟩ else ⟨g, (i + 1) * 3, none⟩) (L.length - (i + 1)) (cap - (i + 1)) (ET.flat (L.drop (i + 1))) (by rw [hsz]; exact hflat)
    (fun j u hj => by
      have hj' : j < (L.length - (i + 1)) * 3 := by rw [← hflat]; exact (List.getElem?_eq_some_iff.1 hj).1
      have hne : cap ≠ i + 1 := by intro e; have : L.length - (i + 1) = 0 := by omega
                                   rw [this] at hj'; omega
      rw [if_neg hne]
      have e : Addr.add ⟨g, (i + 1) * 3, none⟩ j = ⟨g, (i + 1) * 3 + j, none⟩ := by
        unfold Addr.add; split
        · next e => subst e; rfl
        · rfl
      rw [e, hk6.at, ← Array.getElem?_toList]
      rw [(Enc.flat_split (E := ET) L (i + 1)).2, List.getElem?_drop, ← ht, List.getElem?_take] at hj
      split at hj
      · exact hj
      · cases hj)
    (Enc.flat_one _) (by omega) (by rw [hsz, hflat]; omega)
  rw [hsz, hflat] at hrun
  have hcapL : L.length * 3 ≤ cap * 3 := Nat.mul_le_mul_right _ hn
  have hv5 : (if cap = i + 1 then some (⟨g, 0, none⟩ : Addr) else some ⟨g, (i + 1) * 3, none⟩) = some (if cap = i + 1 then ⟨g, 0, none⟩ else ⟨g, (i + 1) * 3, none⟩) := by split <;> rfl
  rw [hv5]
  refine ⟨_, _, hrun, _, rfl, ?_⟩
  have hlen1 : i + (L.length - (i + 1)) = L.length - 1 := by omega
  rw [hlen1]
  generalize hnew : (cur.toList.take (i * 3) ++ ET.flat (L.drop (i + 1)) ++ cur.toList.drop (i * 3 + (L.length - (i + 1)) * 3)).toArray = cur' 
  have hsize' : cur'.size = cap * 3 := by
    rw [← hnew]; simp [hflat, hs]; omega
  have hk8 : BK (w6.setRow g cur') g cur' tTk := setRow_heap w6 g cur cur' tTk _ hk6
  have st8 : Step (fun q => q = g) w6 (w6.setRow g cur') (fun q => q = g) := ⟨rfl, rfl, rfl, by simp [World.setRow], fun q hq hne => setRow_other w6 g q cur' hne, fun _ hq => .inl hq⟩
  generalize w6.setRow g cur' = w8 at *
  refine ⟨.slice (some ⟨g, (L.length - 1) * 3, none⟩) 1 (cap - (L.length - 1)), ?_, ?_⟩
  · have e1 : ((((L.length - 1 : Nat) : Int)).toNat) = L.length - 1 := by omega
    simp only [subSlice, bounds_ii (a := ((L.length - 1 : Nat) : Int)) (b := ((L.length : Nat) : Int)) (len := L.length - 1) (cap := cap) (by omega) (by omega) (by omega)]
    rw [e1, if_neg hcap]
    simp only [Option.map_some, ad0, Int.toNat_natCast]
    congr 2; omega
  have hzl : (Builtin.zeroCells z.cells 1).toList.length = 3 := by simp [Builtin.zeroCells, hzs]
  have hone : ∀ u ∈ (Builtin.zeroCells z.cells 1).toList, u.oneCell' = true := by
    have hz' : z = .agg #[.int .u32 0, .int .i64 0, .bool false] := by
      have : (Tryz.prog.info? tTk).bind (·.zero) = some (.agg #[.int .u32 0, .int .i64 0, .bool false]) := by kernel_rfl
      rw [hinfo, Option.bind_some, hz] at this
      exact Option.some.inj this
    subst hz'
    intro u hu
    have e : (Builtin.zeroCells (Value.agg #[.int .u32 0, .int .i64 0, .bool false]).cells 1).toList = [.int .u32 0, .int .i64 0, .bool false] := by kernel_rfl
    rw [e] at hu
    simp only [List.mem_cons, List.not_mem_nil, or_false] at hu
    rcases hu with rfl | rfl | rfl <;> rfl
  have hst := run_storeCells_cells (P := Tryz.prog) g ((L.length - 1) * 3) (Builtin.zeroCells z.cells 1).toList 0 w8 (fun j hj => by rw [hk8.at]; rw [hzl] at hj; simp [hsize']; omega) (fun j _ => hk8.thaw _) hone
  simp only [Nat.add_zero] at hst
  have hclear : (Builtin.clear_ #[tTks] 0 #[.slice (some ⟨g, (L.length - 1) * 3, none⟩) 1 (cap - (L.length - 1))]).run Tryz.prog w8 = .ok undef (w8.setCells g ((L.length - 1) * 3) (Builtin.zeroCells z.cells 1).toList) := by
    simp [Builtin.clear_, run_underlying tyTk.und, zeroValue, typeInfo, hinfo, hz, hst, undef]
  refine ⟨_, _, hclear, ?_⟩
  have hset := setCells_set (Builtin.zeroCells z.cells 1).toList ((L.length - 1) * 3) w8 cur' hk8 (by rw [hzl, hsize']; omega)
  have st9 : Step (fun q => q = g) w8 (w8.setCells g ((L.length - 1) * 3) (Builtin.zeroCells z.cells 1).toList) (fun q => q = g) :=
    Step.row (S := fun q => q = g) w8 ⟨g, (L.length - 1) * 3, none⟩ (Builtin.zeroCells z.cells 1) rfl
  have hgs : (fun q => (Value.slice (some (⟨g, 0, none⟩ : Addr)) L.length cap).ownBlock = some q) = (fun q => q = g) := by
    funext q; simp [Value.ownBlock, eq_comm]
  refine k _ _ rfl ?_ ?_
  · rw [hgs]
    exact (Step.of_grow gd).then (st8.then st9)
  · have hll : (L.take i ++ L.drop (i + 1)).length = L.length - 1 := by simp; omega
    refine ⟨by rw [Enc.flat_length], .inr ⟨g, cap, _, by rw [hll], hb, hset, by rw [hll]; omega, hm0, ?_, ?_⟩⟩
    · rw [h3]; simp [hzl, hsize']; omega
    · rw [hll, h3, Enc.flat_append, (Enc.flat_split (E := ET) L i).1, h3]
      simp only
      rw [List.append_assoc, List.take_append_of_le_length (by simp [hsize']; omega), List.take_take, Nat.min_self, ← hnew]
      simp only
      rw [List.take_append_of_le_length (by simp [hflat, hs]; omega)]
      have ea : (ET.flat L).take (i * 3) = cur.toList.take (i * 3) := by rw [← ht, List.take_take]; congr 1; omega
      rw [ea, List.take_of_length_le (by simp [hflat, hs]; omega)]

theorem Done_c (h : SetAt w s B v L) (hn : L.length ≤ 1000) {i : Nat} (hi : i < L.length) {tag : Int} (hp : L[i].tag = tag) (hb : ∀ j (hj : j < i), (L[j]'(by omega)).tag ≠ tag) (he : L[i].on = true) {R : KV}
    (k : ∀ v' w', Step (FSet s v) w w' (FSet s v') → SetAt w' s B v' (L.take i ++ L.drop (i + 1)) → R (.int .i64 (0 : Int)) w') :
    Go.CW.Spec Tryz.prog 40 #[.pointer (some ⟨s, 0, none⟩), .int .u32 tag] w R := by
  apply task_Set_Done_m_wp
  refine find_c h fun w1 g1 => ⟨_, rfl, ?_⟩
  have hx : idxP (fun x => x.tag == tag) L = (i : Int) := idxP_some hi (by simpa using hp) (fun j hj => by simpa using hb j hj)
  rw [hx]
  have h1 := h.grow g1
  refine cond_f (by simp) ?_
  obtain ⟨a, ha, hld⟩ := tk_ld h1.l.rd hi
  have h2 := hld.2 2 (by omega)
  rw [he] at h2
  refine withAddr_some ⟨v, by rw [h1.o.cell]; rfl, a, ha, true, h2, cond_f rfl (withAddr_some ⟨v, by rw [h1.o.cell]; rfl, ?_⟩)⟩
  rw [wi64_id (by omega) (by omega)]
  refine delete_c h1.l hi fun v9 w10 hob st ho => ?_
  have one : isOne v9 = true := by rcases ho.2 with ⟨rfl, _⟩ | ⟨g, cap, cur, rfl, _⟩ <;> rfl
  have o10 : BK w10 s #[.int .i64 (64 : Int), v] tSt := h1.o.stepS st (own_s h1)
  refine withAddr_some (oneK_of one ⟨st1_at o10 (by show 1 < 2; omega), nm fun w12 e12 => ?_⟩)
  obtain ⟨b12, t12⟩ := setE o10 e12
  have hne : v9.ownBlock ≠ some s := own_ns ho o10
  have st0 : Step (FSet s v) w w10 (FSet s v) := (Step.of_grow g1).then (st.imp (T := FSet s v) (T' := FSet s v) (fun _ hq => .inr hq) (fun _ hq => .inl hq))
  have st1 := st0.then (t12.step (S := FSet s v) (.inl rfl))
  refine k v9 w12 (st1.imp (fun _ hk => hk) (fun q hq => ?_)) ⟨b12, ho.stable fun q hq => t12.block q (fun e => hne (e ▸ hq))⟩
  rcases hq with e | e
  · exact .inl (.inl e)
  · exact .inl (.inr (hob ▸ e))

end Go.Proofs.YtnclgknfccliiaaGreatDoor

end
