/- Runs in which nothing is unknown: what makes new blocks; appends, copies. For every program. -/
import Derived.Test.YtghineciiljeoaaGreatDoorExB
import Derived.Deep.AppendSrc
namespace Go.CW.Ex
open Go.RowKit

variable {P : Program} {w0 w : World} {B : Nat} {φ : PM} {h h' : H}

/-! ### a memory and another world -/
theorem Hd.live_lt (r : Hd w0 B φ h w) {c : Nat} {q : Pl} (hl : isLive (h.at c) = true) (hq : φ c = some q) : B ≤ q.blk ∧ q.blk < w.heap.size := by
  cases hm : h.at c with
  | cells e3 s3 a3 cs3 => obtain ⟨p3, j1, j2, j3, _⟩ := r.cells c _ _ _ _ hm; rw [j1] at hq; cases hq; exact ⟨j2, j3⟩
  | mp es => obtain ⟨p3, j1, j2, j3, _⟩ := r.maps c _ hm; rw [j1] at hq; cases hq; exact ⟨j2, j3⟩
  | hole => rw [hm] at hl; cases hl
  | dead => rw [hm] at hl; cases hl

theorem Hd.grow (r : Hd w0 B φ h w) {w' : World} (g : Below w.heap.size w w') : Hd w0 B φ h w' :=
  ⟨r.below.trans (g.mono r.bsize), r.base, r.most, r.fresh,
    fun b e s a cs hb => let ⟨p, j1, j2, j3, j4⟩ := r.cells b e s a cs hb; ⟨p, j1, j2, Nat.lt_of_lt_of_le j3 g.size, j4.mono (Ext.refl _) (g.block _ j3)⟩,
    fun b es hb => let ⟨p, j1, j2, j3, j4⟩ := r.maps b es hb; ⟨p, j1, j2, Nat.lt_of_lt_of_le j3 g.size, j4.mono (Ext.refl _) (g.block _ j3)⟩, r.hole, r.sep⟩

theorem Hd.turn (r : Hd w0 B φ h w) {w' : World} {g : Nat} (hg : B ≤ g) (hos : w'.os = w.os) (ht : w'.tape = w.tape) (ho : w'.output = w.output) (hs : w'.heap.size = w.heap.size) (hk : ∀ k, k ≠ g → w'.heap[k]? = w.heap[k]?)
    (hn : ∀ c q, isLive (h.at c) = true → φ c = some q → q.blk ≠ g) : Hd w0 B φ h w' :=
  ⟨⟨hos.trans r.below.os, ht.trans r.below.tape, ho.trans r.below.output, by rw [hs]; exact r.below.size, fun k hk2 => (hk k (by omega)).trans (r.below.block k hk2)⟩, r.base, r.most, r.fresh,
    fun b e s a cs hb => let ⟨p, j1, j2, j3, j4⟩ := r.cells b e s a cs hb; ⟨p, j1, j2, by rw [hs]; exact j3, j4.mono (Ext.refl _) (hk _ (hn b p (by rw [hb]; rfl) j1))⟩,
    fun b es hb => let ⟨p, j1, j2, j3, j4⟩ := r.maps b es hb; ⟨p, j1, j2, by rw [hs]; exact j3, j4.mono (Ext.refl _) (hk _ (hn b p (by rw [hb]; rfl) j1))⟩, r.hole, r.sep⟩

/-- a key is given to a block that no other one names -/
structure NewKey (φ : PM) (h h' : H) (b : Nat) (x : MB) : Prop where
  fre : φ b = none
  at_ : ∀ c, h'.at c = if c = b then x else h.at c
  most : h'.next ≤ 1000000001
  fresh : ∀ c, h'.next ≤ c → c ≠ b ∧ h.next ≤ c ∧ h'.t.get c = none

theorem Hd.add (r : Hd w0 B φ h w) {b e s : Nat} {a : Bool} {cs : List EV} (k : NewKey φ h h' b (.cells e s a cs)) {p : Pl} (hB : B ≤ p.blk) (hlt : p.blk < w.heap.size) (hc : CellsAt φ w p s cs)
    (hn : ∀ c q, isLive (h.at c) = true → φ c = some q → q.blk ≠ p.blk) : Hd w0 B (φ.set b p) h' w := by
  have hext := PM.ext_set (p := p) k.fre
  refine ⟨r.below, r.base, k.most, ?_, ?_, ?_, ?_, ?_⟩
  · intro c hcn
    obtain ⟨k1, k2, k3⟩ := k.fresh c hcn
    exact ⟨by unfold PM.set; rw [if_neg k1]; exact (r.fresh c k2).1, k3⟩
  · intro c e2 s2 a2 cs2 hcc
    rw [k.at_] at hcc
    by_cases hne : c = b
    · rw [if_pos hne] at hcc
      cases hcc
      subst hne
      exact ⟨p, by simp [PM.set], hB, hlt, hc.mono hext rfl⟩
    · rw [if_neg hne] at hcc
      obtain ⟨q, j1, j2, j3, j4⟩ := r.cells c e2 s2 a2 cs2 hcc
      exact ⟨q, hext c q j1, j2, j3, j4.mono hext rfl⟩
  · intro c es hcc
    rw [k.at_] at hcc
    by_cases hne : c = b
    · rw [if_pos hne] at hcc; cases hcc
    · rw [if_neg hne] at hcc
      obtain ⟨q, j1, j2, j3, j4⟩ := r.maps c es hcc
      exact ⟨q, hext c q j1, j2, j3, j4.mono hext rfl⟩
  · intro c hcc
    rw [k.at_] at hcc
    by_cases hne : c = b
    · rw [if_pos hne] at hcc; cases hcc
    · rw [if_neg hne] at hcc; unfold PM.set; rw [if_neg hne]; exact r.hole c hcc
  · intro c c' q q' hcl hcl' hq hq' he
    rw [k.at_] at hcl hcl'
    by_cases c1 : c = b <;> by_cases c2 : c' = b
    · rw [c1, c2]
    · rw [if_neg c2] at hcl'
      unfold PM.set at hq hq'; rw [if_pos c1] at hq; rw [if_neg c2] at hq'; cases hq
      exact absurd he.symm (hn c' q' hcl' hq')
    · rw [if_neg c1] at hcl
      unfold PM.set at hq hq'; rw [if_neg c1] at hq; rw [if_pos c2] at hq'; cases hq'
      exact absurd he (hn c q hcl hq)
    · rw [if_neg c1] at hcl; rw [if_neg c2] at hcl'
      unfold PM.set at hq hq'; rw [if_neg c1] at hq; rw [if_neg c2] at hq'
      exact r.sep c c' q q' hcl hcl' hq hq' he

theorem NewKey.new (r : Hd w0 B φ h w) {x : MB} (hn : h.new x = some h') : NewKey φ h h' h.next x := by
  obtain ⟨k1, k2, k3, k4⟩ := H.new_spec hn
  exact ⟨(r.fresh _ (Nat.le_refl _)).1, k3, by omega, fun c hc => ⟨by omega, by omega, by rw [k4, if_neg (by omega : c ≠ h.next)]; exact (r.fresh c (by omega)).2⟩⟩

theorem NewKey.mkAt (r : Hd w0 B φ h w) {key : Option Nat} {x : MB} {b : Nat} (hm : h.mkAt key x = some (b, h')) : NewKey φ h h' b x := by
  unfold H.mkAt at hm
  split at hm
  · split at hm
    · next h'' hn => cases hm; exact NewKey.new r hn
    · cases hm
  · next b' =>
    split at hm
    · next hb =>
      cases hm
      have hlt : b < h.next := r.at_lt (by rw [hb]; intro k; cases k)
      have hb2 : b < 1000000002 := by have := r.most; omega
      exact ⟨r.hole b hb, fun c => H.at_put hb2 c, by rw [H.put_next]; exact r.most, fun c hc => by
        rw [H.put_next] at hc
        exact ⟨by omega, hc, by rw [H.get_put hb2, if_neg (by omega : c ≠ b)]; exact (r.fresh c hc).2⟩⟩
    · cases hm

/-- A new row at the heap's end. -/
theorem Hd.newRow (r : Hd w0 B φ h w) {b e s : Nat} {a : Bool} {cs : List EV} (k : NewKey φ h h' b (.cells e s a cs)) {xs : List Value} (hx : upL φ cs = some xs)
    (h1 : ∀ x ∈ xs, isOne x = true) {C : Array Value} {e' lo hi : Nat} (hC : ∀ i, i < xs.length → C[i]? = xs[i]?) (hl : xs.length ≤ C.size) (hm : C.size / s ≤ maxLen) (hf : ∀ i, i < C.size → ¬ (lo ≤ i ∧ i < hi)) :
    Hd w0 B (φ.set b ⟨w.heap.size, 0, C.size, s⟩) h' (w.alloc (.cells C e' (lo, hi))) := by
  refine (r.grow (Grow.al (Grow.refl w) _)).add k r.bsize (by simp) ⟨rfl, hm, ⟨xs, hx, hl, h1, fun i hi => ?_⟩, fun i hi => ?_, fun i hi => ?_⟩ fun c q hcl hq => ?_
  · simp only [Nat.zero_add]; rw [World.cell?_alloc_mark]; exact hC i hi
  · simp only [Nat.zero_add]; rw [World.cell?_alloc_mark]; simp only at hi; simp [hi]
  · simp only [Nat.zero_add]; rw [World.frozen?_alloc_mark]; have := hf i hi; simp; omega
  · have := (r.live_lt hcl hq).2
    simp only; omega

theorem alloc_plain (w : World) (C : Array Value) (t : TypeId) : w.alloc (.cells C t) = w.alloc (.cells C t (0, 0)) := rfl

/-! ### sources -/
abbrev SrcK (P : Program) (tx : TypeId) : Prop := (∃ e', P.underlying tx = some (.slice e')) ∨ P.underlying tx = some .string

theorem srcTy_kind {size : Nat} {tx : TypeId} (h : srcTy P size tx = true) : SrcK P tx := by
  unfold srcTy at h
  split at h
  · next e he => exact .inl ⟨e, he⟩
  · next he => exact .inr he
  · cases h

theorem src_slice {size : Nat} {tx : TypeId} (hk : SrcK P tx) (a : Addr) (n c : Nat) (news : List Value) (hl : news.length = n * size) (hnews : ∀ j u, news[j]? = some u → w.cell? (a.add j) = some u)
    (h1 : ∀ u ∈ news, u.oneCell' = true) : Src P size tx (.slice (some a) n c) n news w :=
  ⟨hk, fun _ => rfl, run_firstCells_some w size n a n c news hl hnews, run_firstCells_some w.drew size n a n c news hl (by simpa using hnews), hl, h1⟩
theorem src_nil {size : Nat} {tx : TypeId} (hk : SrcK P tx) (c : Nat) : Src P size tx (.slice none 0 c) 0 [] w :=
  ⟨hk, fun _ => rfl, run_firstCells_none w size 0 0 c, run_firstCells_none w.drew size 0 0 c, by simp, fun _ h => by cases h⟩
theorem src_text {tx : TypeId} (hk : SrcK P tx) (s : ByteArray) : Src P 1 tx (.string s) s.size (byteCells s) w :=
  ⟨hk, fun _ => rfl, firstCells_string s w, firstCells_string s w.drew, by rw [byteCells_length, Nat.mul_one], fun u hu => by
    obtain ⟨_, _, rfl⟩ := List.mem_map.1 hu
    rfl⟩

/-- what a slice or a text yields -/
theorem srcE_sound (r : Hd w0 B φ h w) {size n : Nat} {x : EV} {cs : List EV} {X : Value} {tx : TypeId} (hs : srcE size h x = some (n, cs)) (hx : upV φ x = some X) (hk : SrcK P tx) :
    ∃ ys, upL φ cs = some ys ∧ Src P size tx X n ys w ∧ (∀ y ∈ ys, isOne y = true) := by
  unfold srcE at hs
  split at hs
  · cases hs
    simp only [upV, Option.some.injEq] at hx
    subst hx
    exact ⟨[], upL_nil.2 rfl, src_nil hk 0, by simp⟩
  · next b o l z =>
    cases hs
    simp only [upV] at hx
    split at hx
    · next p hp =>
      cases hx
      exact ⟨[], upL_nil.2 rfl, src_slice hk _ 0 _ [] (by simp) (by simp) (by simp), by simp⟩
    · cases hx
  · next b o len cap =>
    split at hs
    · next cs' hc =>
      split at hs
      · next l hp =>
        cases hs
        simp only [upV] at hx
        split at hx
        · next p hpp =>
          cases hx
          obtain ⟨p', ys, j1, j2, j3, j4, j5, _⟩ := r.part hc hp
          rw [hpp] at j1; cases j1
          refine ⟨ys, j2, src_slice hk _ _ _ ys j3 (fun j u hj => ?_) (fun u hu => isOne_oneCell (j4 u hu)), j4⟩
          rw [addA]
          have hjl : j < ys.length := by have := List.getElem?_eq_some_iff.1 hj; exact this.1
          rw [j5 j (by omega), hj]
        · cases hx
      · cases hs
    · cases hs
  · next b o len =>
    split at hs
    · next cs' hc =>
      split at hs
      · next l hp =>
        cases hs
        simp only [upV] at hx
        split at hx
        · next p hpp =>
          cases hx
          obtain ⟨p', ys, j1, j2, j3, j4, j5, _⟩ := r.part hc hp
          rw [hpp] at j1; cases j1
          refine ⟨ys, j2, src_slice hk _ _ _ ys j3 (fun j u hj => ?_) (fun u hu => isOne_oneCell (j4 u hu)), j4⟩
          rw [addA]
          have hjl : j < ys.length := by have := List.getElem?_eq_some_iff.1 hj; exact this.1
          rw [j5 j (by omega), hj]
        · cases hx
      · cases hs
    · cases hs
  · next q =>
    cases hb : Nat.beq size 1 && bytesE q
    · rw [hb] at hs; cases hs
    · rw [hb] at hs
      rw [Bool.and_eq_true, Nat.beq_eq] at hb
      obtain ⟨rfl, hq⟩ := hb
      cases hs
      simp only [upV, Option.some.injEq] at hx
      subst hx
      have hS := src_text (w := w) hk ⟨(q.map UInt8.ofNat).toArray⟩
      have hsz : (⟨(q.map UInt8.ofNat).toArray⟩ : ByteArray).size = lenE q 0 := by rw [lenE_eq]; show Array.size _ = _; simp
      rw [hsz] at hS
      refine ⟨_, ?_, hS, fun y hy => ?_⟩
      · have hq' := bytesE_mem hq
        clear hS hsz hq hk
        simp only [byteCells]
        induction q with
        | nil => rfl
        | cons a l ih =>
          refine upL_cons.2 ⟨.int .u8 (.ofNat a), _, rfl, ih (fun n hn => hq' n (by simp [hn])), ?_⟩
          have := hq' a (by simp)
          simp [UInt8.toNat_ofNat', Nat.mod_eq_of_lt this]
      · simp only [byteCells, List.mem_map] at hy
        obtain ⟨z, _, rfl⟩ := hy
        rfl
  · cases hs

theorem nextcap_le (n c : Nat) (h : c < n) : Builtin.nextslicecap n c ≤ 4 * n + 4096 := by
  unfold Builtin.nextslicecap
  split
  · omega
  · split
    · omega
    · have g : ∀ k c, c ≤ 4 * n → Builtin.growBy n k c ≤ 4 * n + 4096 := by
        intro k
        induction k with
        | zero => intro c hc; simp only [Builtin.growBy]; omega
        | succ k ih =>
          intro c hc
          simp only [Builtin.growBy]
          split
          · omega
          · exact ih _ (by omega)
      exact g 4 c (by omega)

theorem roomOk_iff {n b : Nat} (h : roomOk n b = true) : 4 * n + 4096 ≤ 1099511627776 ∧ (4 * n + 4096) * b ≤ 281474976710656 := by
  unfold roomOk at h
  rw [Bool.and_eq_true, Nat.ble_eq, Nat.ble_eq] at h
  exact h

theorem grown_ge (w : World) (n c : Nat) (e : TypeId) : n ≤ grownCap w n c e := by
  unfold grownCap
  simp only [Question.cut]
  omega

theorem grown_le (w : World) (n c : Nat) (e : TypeId) (h : n ≤ maxLen) : grownCap w n c e ≤ maxLen := by
  unfold grownCap
  simp only [Question.cut]
  simp only [maxLen] at h ⊢
  have := Nat.mod_lt (w.tape w.drawn (.appendCap n c e)) (y := 2 ^ 63 - n) (by omega)
  omega

theorem zeroCells_size (z : Array Value) (n : Nat) : (Builtin.zeroCells z n).size = n * z.size := by simp [Builtin.zeroCells]

/-- a row that has grown: a new block -/
theorem Hd.grown (r : Hd w0 B φ h w) {e size len : Nat} {cs : List EV} {v : EV} (hn : newRowE h e size len cs = some (v, h')) {xs : List Value} (hx : upL φ cs = some xs) (h1 : ∀ x ∈ xs, isOne x = true) (hs : 0 < size) (hlen : xs.length = len * size)
    {z : Value} (hz : z.cells.size = size) {cap e' : Nat} (hcap : len ≤ cap) (hmx : cap ≤ maxLen) :
    ∃ φ', Ext φ φ' ∧ upV φ' v = some (.slice (some ⟨w.heap.size, 0, none⟩) len cap) ∧ Hd w0 B φ' h' (w.drew.alloc (.cells (xs.toArray ++ Builtin.zeroCells z.cells (cap - len)) e')) := by
  unfold newRowE at hn
  split at hn
  · next h'' hnn =>
    cases hn
    have k := NewKey.new r hnn
    have hsz : (xs.toArray ++ Builtin.zeroCells z.cells (cap - len)).size = cap * size := by
      simp only [Array.size_append, zeroCells_size, List.size_toArray, hlen, hz, ← Nat.add_mul]
      congr 1; omega
    refine ⟨_, PM.ext_set k.fre, ?_, r.drew.newRow k hx h1 (e' := e') (lo := 0) (hi := 0) (fun i hi => ?_) (by simp) (by rw [hsz, Nat.mul_div_cancel _ hs]; exact hmx) (fun i _ => by omega)⟩
    · simp only [upV, PM.set, if_true, Nat.add_zero, Nat.sub_zero, hsz]
      simp only [Nat.mul_div_cancel _ hs]
      rfl
    · rw [Array.getElem?_append_left (by simpa using hi)]; simp
  · cases hn

theorem apUE_sound (r : Hd w0 B φ h w) {t tx ty e : TypeId} {i : TypeInfo} {z : Value} (ht : P.underlying t = some (.slice e)) (hi : P.info? e = some i) (hz : i.zero = some z) (hzs : z.cells.size = i.size) (hp : 0 < i.size)
    {b o len n : Nat} {news : List EV} {v : EV} {p : Pl} (hpp : φ b = some p) (hap : apUE h e i.size i.bytes b o len n news = some (v, h')) {x : Value} {ys : List Value} (hup : upL φ news = some ys) (hs : Src P i.size tx x n ys w)
    (h1 : ∀ y ∈ ys, isOne y = true) {A : Nat} (hA : len = 0 → (p.cap - o) / p.size = 0 → True) (hA2 : (0 < len ∨ (p.cap - o) / p.size ≠ 0) → A = p.sh + o) (hn0 : 0 < n) :
    ∃ V w', (Builtin.append_ #[t, tx] ty #[.slice (some ⟨p.blk, A, none⟩) len ((p.cap - o) / p.size), x]).run P w = .ok V w' ∧ ∃ φ', Ext φ φ' ∧ upV φ' v = some V ∧ Hd w0 B φ' h' w' := by
  unfold apUE at hap
  split at hap
  · next e' s a cs hat =>
    cases hbs : Nat.beq s i.size
    · rw [hbs] at hap; cases hap
    rw [hbs] at hap
    obtain rfl := Nat.eq_of_beq_eq_true hbs
    simp only [cond_true] at hap
    have hcs : h.cells b = some cs := by unfold H.cells; rw [hat]
    obtain ⟨p', e2, s2, a2, xs, hat2, hp', hps, hca, i1, i2, i3, i4⟩ := r.read hcs
    rw [hpp] at hp'; cases hp'
    rw [hat] at hat2; cases hat2
    have hlc : lenE cs 0 = xs.length := by rw [lenE_eq, upL_length i1]; rfl
    have hnl := hs.newsLen
    have hysl : ys.length = n * i.size := hnl
    have hsp : p.size = i.size := hps
    cases hfit : Nat.ble (o + (len + n) * i.size) (lenE cs 0)
    · -- it does not fit into what is known
      rw [hfit] at hap
      simp only [cond_false] at hap
      cases hrm : roomOk (len + n) i.bytes
      · rw [hrm] at hap; cases hap
      rw [hrm] at hap
      simp only [cond_true] at hap
      obtain ⟨q1, q2⟩ := roomOk_iff hrm
      split at hap
      · next olds hpt =>
        obtain ⟨p'', zs, l1, l2, l3, l4, l5, _, l7, l8⟩ := r.part hcs hpt
        rw [hpp] at l1; cases l1
        have hlt : b < h.next := r.at_lt (by rw [hat]; intro k; cases k)
        have rk := r.kill hlt
        have hnolive : ∀ c q, isLive ((h.put b .dead).at c) = true → φ c = some q → q.blk ≠ p.blk := by
          intro c q hcl hq he
          have hb2 : b < 1000000002 := by have := r.most; omega
          rw [H.at_put hb2] at hcl
          by_cases hcb : c = b
          · rw [if_pos hcb] at hcl; cases hcl
          · rw [if_neg hcb] at hcl
            exact hcb (r.sep c b q p hcl (by rw [hat]; rfl) hq hpp he)
        have hone : ∀ y ∈ zs ++ ys, isOne y = true := fun y hy => by
          rcases List.mem_append.1 hy with hy | hy
          · exact l4 y hy
          · exact h1 y hy
        by_cases hroom : len + n ≤ (p.cap - o) / p.size
        · -- there is room
          have hAeq : A = p.sh + o := hA2 (.inr (by omega))
          subst hAeq
          have hmul : (len + n) * i.size ≤ p.cap - o := by rw [hsp] at hroom; exact (Nat.le_div_iff_mul_le hp).1 hroom
          have hbnd : o + len * i.size + ys.length ≤ p.cap := by rw [hysl, Nat.add_assoc, ← Nat.add_mul]; omega
          have hsome : ∀ j, j < ys.length → (w.cell? ⟨p.blk, p.sh + o + len * i.size + j, none⟩).isSome = true := fun j hj => by
            have e : p.sh + o + len * i.size + j = p.sh + (o + len * i.size + j) := by omega
            rw [e]; exact hca.there _ (by omega)
          have hthaw : ∀ j, j < ys.length → w.frozen? ⟨p.blk, p.sh + o + len * i.size + j, none⟩ = false := fun j hj => by
            have e : p.sh + o + len * i.size + j = p.sh + (o + len * i.size + j) := by omega
            rw [e]; exact hca.thaw _ (by omega)
          have hrun := run_append_room_src (P := P) w t tx ty e i ht hi p.blk (p.sh + o) len _ x n ys hs hroom hsome hthaw
          refine ⟨_, _, hrun, ?_⟩
          have hfl := setCells_fields p.blk ys (p.sh + o + len * i.size) w
          have hkb := heap_setCells_ne p.blk
          have hpb := r.live_lt (c := b) (by rw [hat]; rfl) hpp
          have rt := rk.turn hpb.1 hfl.1 hfl.2.1 hfl.2.2.1 hfl.2.2.2 (fun k hk => hkb k hk ys _ w) hnolive
          unfold newRowE at hap
          split at hap
          · next h'' hnn =>
            cases hap
            have kk := NewKey.new rt hnn
            refine ⟨_, PM.ext_set kk.fre, ?_, rt.add kk (p := ⟨p.blk, p.sh + o, p.cap - o, i.size⟩) hpb.1 (by rw [hfl.2.2.2]; exact hpb.2) ⟨rfl, Nat.le_trans (Nat.div_le_div_right (Nat.sub_le _ _)) (by rw [← hsp]; exact hca.most), ⟨_, upL_append l2 hup, ?_, hone, fun j hj => ?_⟩, fun j hj => ?_, fun j hj => ?_⟩ hnolive⟩
            · simp only [upV, PM.set, if_true, Nat.add_zero, Nat.sub_zero, hsp]
            · simp only [List.length_append, l3, hysl, ← Nat.add_mul]; exact hmul
            · simp only [List.length_append, l3] at hj
              by_cases c1 : j < len * i.size
              · rw [World.cell?_setCells_out p.blk ys _ w _ (fun _ _ => .inl (by show p.sh + o + j < p.sh + o + len * i.size; omega)), l5 j c1, List.getElem?_append_left (by omega)]
              · have e2 : p.sh + o + j = p.sh + o + len * i.size + (j - len * i.size) := by omega
                simp only
                rw [e2, World.cell?_setCells_in p.blk ys _ w hsome (j - len * i.size) (by omega), List.getElem?_append_right (by omega), l3]
                exact (List.getElem?_eq_getElem (by omega)).symm
            · simp only at hj ⊢
              have := World.isSome_setCells p.blk ys (p.sh + o + len * i.size) w ⟨p.blk, p.sh + (o + j), none⟩ (hca.there _ (by omega))
              rw [← Nat.add_assoc] at this; exact this
            · simp only at hj ⊢
              rw [World.frozen?_setCells, Nat.add_assoc]; exact hca.thaw _ (by omega)
          · cases hap
        · -- there is none
          have hold : (Builtin.firstCells i.size len (.slice (some ⟨p.blk, A, none⟩) len ((p.cap - o) / p.size))).run P w.drew = .ok zs.toArray w.drew := by
            refine run_firstCells_some w.drew i.size len ⟨p.blk, A, none⟩ len _ zs l3 fun j u hj => ?_
            have hjl : j < zs.length := (List.getElem?_eq_some_iff.1 hj).1
            have hl0 : 0 < len := by
              rcases Nat.eq_zero_or_pos len with e | e
              · rw [e, Nat.zero_mul] at l3; omega
              · exact e
            obtain rfl := hA2 (.inl hl0)
            rw [addA, World.cell?_drew, l5 j (by omega), hj]
          have hnc := nextcap_le (len + n) ((p.cap - o) / p.size) (by omega)
          have hrun := run_append_grow_src (P := P) w t tx ty e i z ht hi hz (some ⟨p.blk, A, none⟩) len _ zs hold x n ys hs (by omega) (by omega) (Nat.le_trans (Nat.mul_le_mul_right _ hnc) q2)
          obtain ⟨φ', g1, g2, g3⟩ := rk.grown hap (upL_append l2 hup) hone hp (by simp only [List.length_append, l3, hysl, Nat.add_mul]) hzs (e' := e) (grown_ge w (len + n) ((p.cap - o) / p.size) e) (grown_le w (len + n) ((p.cap - o) / p.size) e (by simp only [maxLen]; omega))
          exact ⟨_, _, hrun, φ', g1, g2, g3⟩
      · cases hap
    · -- it lies within what is known
      rw [hfit] at hap
      simp only [cond_true] at hap
      have hfit' : o + (len + n) * i.size ≤ xs.length := by rw [← hlc]; exact Nat.le_of_ble_eq_true hfit
      split at hap
      · next h'' hset =>
        cases hap
        obtain ⟨p'', m1, m2, m3, m4, _⟩ := r.setCells hset hup h1
        rw [hpp] at m1; cases m1
        have hroom : len + n ≤ (p.cap - o) / p.size := by
          rw [hsp]
          exact (Nat.le_div_iff_mul_le hp).2 (by omega)
        have hAeq : A = p.sh + o := hA2 (.inr (by omega))
        subst hAeq
        have hrun := run_append_room_src (P := P) w t tx ty e i ht hi p.blk (p.sh + o) len _ x n ys hs hroom
          (fun j hj => by rw [Nat.add_assoc p.sh o]; exact m3 j hj) (fun j hj => by rw [Nat.add_assoc p.sh o]; exact m4 j hj)
        rw [Nat.add_assoc p.sh o] at hrun
        exact ⟨_, _, hrun, φ, Ext.refl _, by simp only [upV, hpp], m2⟩
      · cases hap
  · cases hap

end Go.CW.Ex
