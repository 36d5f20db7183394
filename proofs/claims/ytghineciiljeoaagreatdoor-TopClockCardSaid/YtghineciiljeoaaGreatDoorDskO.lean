/- A disk: how it lies, what it holds. -/
import Derived.Test.YtghineciiljeoaaGreatDoorMap
import Derived.Test.YtghineciiljeoaaGreatDoorSepX
import Derived.Test.YtghineciiljeoaaGreatDoorByt
import Derived.Test.YtghineciiljeoaaGreatDoorMdf
import Derived.Laws.MakeOwn
set_option linter.unusedVariables false
set_option linter.unusedSimpArgs false
set_option maxRecDepth 100000
namespace Go.Proofs.YtghineciiljeoaaGreatDoor
open Go Go.CW Go.RowKit

abbrev tDk : TypeId := 201
abbrev tSc : TypeId := 234
abbrev tBB : TypeId := 143
abbrev tIn : TypeId := 3
abbrev tIns : TypeId := 79
abbrev tMk : TypeId := 199
abbrev nilS : Value := .slice none 0 0
theorem tyBB : SlTy Tryz.prog tBB tB 24 := SlTy.of (by kernel_rfl)
theorem undIn : Tryz.prog.underlying tIn = some (.int .i64) := by kernel_rfl
theorem undMk : Tryz.prog.underlying tMk = some (.map tIn 232) := by kernel_rfl

def EI : Enc Int := ⟨1, fun n => [.int .i64 n], fun _ => rfl, by omega, fun _ => rfl⟩

/-! ### rows that nothing turns -/
/-- v's row, if it has one, has elements of this type -/
def IsT (t : TypeId) (w : World) (v : Value) : Prop := ∀ q, v.ownBlock = some q → ∃ cs fr, w.heap[q]? = some (.cells cs t fr)
/-- none of these blocks is a row of this type -/
def NoT (t : TypeId) (w : World) (S : Fp) : Prop := ∀ q, S q → ∀ cs fr, w.heap[q]? ≠ some (.cells cs t fr)

variable {w w' : World}

theorem IsT.step {t : TypeId} {v : Value} {S S' : Fp} (h : IsT t w v) (st : Step S w w' S') (hS : NoT t w S) : IsT t w' v := by
  intro q hq
  obtain ⟨cs, fr, e⟩ := h q hq
  exact ⟨cs, fr, (st.block q (Array.getElem?_eq_some_iff.1 e).1 (fun hs => hS q hs cs fr e)).trans e⟩
theorem IsT.grow {t : TypeId} {v : Value} (h : IsT t w v) (g : Grow w w') : IsT t w' v := by
  intro q hq
  obtain ⟨cs, fr, e⟩ := h q hq
  exact ⟨cs, fr, (g.block q (Array.getElem?_eq_some_iff.1 e).1).trans e⟩
theorem IsT.nil (t : TypeId) (w : World) : IsT t w nilS := fun q hq => by cases hq
theorem IsT.own {t : TypeId} {B : Nat} {v : Value} {xs : List Value} (h : Own w B t v xs) : IsT t w v := by
  intro q hq
  rcases h.2 with ⟨rfl, _⟩ | ⟨g, cap, cur, rfl, _, hg, _⟩
  · cases hq
  · cases hq; exact ⟨_, _, hg⟩
theorem IsT.not {t : TypeId} {v : Value} {S : Fp} (h : IsT t w v) (hS : NoT t w S) : ∀ q, v.ownBlock = some q → ¬ S q := fun q hq hs => by
  obtain ⟨cs, fr, e⟩ := h q hq
  exact hS q hs cs fr e
theorem IsT.same {t : TypeId} {v v' : Value} (h : IsT t w v) (e : v'.ownBlock = v.ownBlock) : IsT t w v' := fun q hq => h q (e ▸ hq)

/-- bytes that nothing turns -/
structure RdI (w : World) (v : Value) (bs : List UInt8) : Prop where
  rd : RdB w v bs
  is : IsT tb w v
theorem RdI.step {v : Value} {bs : List UInt8} {S S' : Fp} (h : RdI w v bs) (st : Step S w w' S') (hS : NoT tb w S) : RdI w' v bs :=
  ⟨Rd.stepS h.rd st (fun _ => h.is.not hS), h.is.step st hS⟩
theorem RdI.grow {v : Value} {bs : List UInt8} (h : RdI w v bs) (g : Grow w w') : RdI w' v bs := ⟨h.rd.grow g, h.is.grow g⟩
theorem RdI.nil (w : World) : RdI w nilS [] := ⟨Rd.nil w, IsT.nil _ _⟩
theorem RdI.own {B : Nat} {v : Value} {bs : List UInt8} (h : OwnB w B tb v bs) : RdI w v bs := ⟨h.rd, IsT.own h⟩

/-! ### sectors -/
/-- a sector, as it lies: its object, what is kept, the writes that wait -/
structure Sc where
  blk : Nat
  kv : Value
  kb : List UInt8
  wv : Value
  ws : List (Value × List UInt8)

structure ScAt (w : World) (s : Sc) : Prop where
  o : BK w s.blk #[s.kv, s.wv] tSc
  k : RdI w s.kv s.kb
  r : Own w 0 tB s.wv (s.ws.map (·.1))
  ws : ∀ x ∈ s.ws, RdI w x.1 x.2
  kl : s.kb.length ≤ 512
  wl : ∀ x ∈ s.ws, x.2.length ≤ 512

abbrev SF := Int → Option Sc
def ptrF (S : SF) : Int → Option Value := fun x => (S x).map fun s => .pointer (some ⟨s.blk, 0, none⟩)

/-- what a disk holds: of each sector what is kept, what waits -/
abbrev Hold := Int → Option (List UInt8 × List (List UInt8))
def cont (S : SF) : Hold := fun x => (S x).map fun s => (s.kb, s.ws.map (·.2))

/-- a disk's numbers: how many sectors; whether it is off; armed for which call; the picks -/
structure Dk where
  n : Int
  off : Bool
  armed : Int
  ps : List Int

/-- what a disk's calls may turn -/
def FD (d mb : Nat) (S : SF) : Fp := fun q => q = d ∨ q = mb ∨ ∃ x s, S x = some s ∧ (q = s.blk ∨ s.wv.ownBlock = some q)

structure DL (w : World) (d mb n : Nat) (D : Dk) (S : SF) : Prop where
  o : ∃ pv calls, BK w d #[.int .i64 D.n, .map (some mb), .bool D.off, .bool false, .int .i64 D.armed, pv, .int .i64 calls] tDk ∧ RdR EI w pv D.ps ∧ IsT tIn w pv
  m : Mp Tryz.prog tIn .i64 w mb n (ptrF S)
  s : ∀ x s, S x = some s → ScAt w s
  ne : ∀ x y s t, S x = some s → S y = some t → x ≠ y → s.blk ≠ t.blk ∧ ∀ q, s.wv.ownBlock = some q → t.wv.ownBlock ≠ some q
  c : ∀ x s, S x = some s → s.ws.length ≤ n

variable {d mb n : Nat} {D : Dk} {S : SF}

/-- of what kind the blocks are that a disk's calls may turn -/
def KindD (w : World) (F : Fp) : Prop := ∀ q, F q → (∃ es c, w.heap[q]? = some (.map es c)) ∨ ∃ cs t fr, w.heap[q]? = some (.cells cs t fr) ∧ (t = tDk ∨ t = tSc ∨ t = tB)
theorem own_blk {B : Nat} {t : TypeId} {v : Value} {xs : List Value} {q : Nat} (h : Own w B t v xs) (hq : v.ownBlock = some q) : ∃ cs fr, w.heap[q]? = some (.cells cs t fr) := IsT.own h q hq

theorem DL.kind (h : DL w d mb n D S) : KindD w (FD d mb S) := by
  rintro q (rfl | rfl | ⟨x, s, hs, rfl | hq⟩)
  · obtain ⟨pv, c, b, _⟩ := h.o; exact .inr ⟨_, _, _, b, .inl rfl⟩
  · obtain ⟨es, c, e⟩ := h.m.map; exact .inl ⟨es, c, e⟩
  · exact .inr ⟨_, _, _, (h.s x s hs).o, .inr (.inl rfl)⟩
  · obtain ⟨cs, fr, e⟩ := own_blk (h.s x s hs).r hq; exact .inr ⟨cs, _, fr, e, .inr (.inr rfl)⟩

theorem KindD.noT {F : Fp} (h : KindD w F) {t : TypeId} (h1 : t ≠ tDk) (h2 : t ≠ tSc) (h3 : t ≠ tB) : NoT t w F := by
  intro q hq cs fr e
  rcases h q hq with ⟨es, c, e'⟩ | ⟨cs', t', fr', e', ht⟩
  · rw [e] at e'; cases e'
  · rw [e] at e'
    injection e' with e'
    injection e' with _ e' _
    subst e'
    rcases ht with h | h | h
    · exact h1 h
    · exact h2 h
    · exact h3 h
theorem KindD.lt {F : Fp} (h : KindD w F) : InW w F := by
  intro q hq
  rcases h q hq with ⟨es, c, e'⟩ | ⟨cs', t', fr', e', ht⟩ <;> exact (Array.getElem?_eq_some_iff.1 e').1
theorem KindD.not {F : Fp} (h : KindD w F) {g : Nat} {cs : Array Value} {t : TypeId} (b : BK w g cs t) (h1 : t ≠ tDk) (h2 : t ≠ tSc) (h3 : t ≠ tB) : ¬ F g := fun hg => h.noT h1 h2 h3 g hg cs _ b

/-- a disk stays while none of its blocks turns, nor rows of bytes or of its picks -/
theorem DL.stable {S1 S2 : Fp} (h : DL w d mb n D S) (st : Step S1 w w' S2) (hd : ∀ q, FD d mb S q → ¬ S1 q) (hb : NoT tb w S1) (hi : NoT tIn w S1) : DL w' d mb n D S := by
  have eq : ∀ q, FD d mb S q → w'.heap[q]? = w.heap[q]? := fun q hq => st.block q (h.kind.lt q hq) (hd q hq)
  refine ⟨?_, h.m.at (eq mb (.inr (.inl rfl))), fun x s hs => ?_, h.ne, h.c⟩
  · obtain ⟨pv, c, b, r, i⟩ := h.o
    refine ⟨pv, c, (eq d (.inl rfl)).trans b, ?_, i.step st hi⟩
    refine r.kept fun a u ha hv => ?_
    have hq : a.block < w.heap.size := World.block_lt_of_cell? w a ha
    exact (cell_of_heap (st.block a.block hq (fun hs => i.not hi _ hv hs))).trans ha
  · obtain ⟨k1, k2, k3, k4, k5, k6⟩ := h.s x s hs
    refine ⟨(eq s.blk (.inr (.inr ⟨x, s, hs, .inl rfl⟩))).trans k1, k2.step st hb, ?_, fun y hy => (k4 y hy).step st hb, k5, k6⟩
    exact k3.stepS st fun q hq => hd q (.inr (.inr ⟨x, s, hs, .inr hq⟩))

theorem DL.grow (h : DL w d mb n D S) (g : Grow w w') : DL w' d mb n D S :=
  h.stable (S1 := fun _ => False) (S2 := fun _ => False) ⟨g.os, g.tape, g.output, g.size, fun k hk _ => g.block k hk, fun _ h => .inl h⟩ (fun _ _ h => h) (fun _ h => h.elim) (fun _ h => h.elim)

/-- the disk at block d, that may turn F and holds C -/
def DAt (w : World) (d : Nat) (F : Fp) (n : Nat) (D : Dk) (C : Hold) : Prop := ∃ mb S, C = cont S ∧ F = FD d mb S ∧ DL w d mb n D S

theorem DAt.grow {F : Fp} {C : Hold} (h : DAt w d F n D C) (g : Grow w w') : DAt w' d F n D C := by
  obtain ⟨mb, S, e1, e2, h3⟩ := h; exact ⟨mb, S, e1, e2, h3.grow g⟩
theorem DAt.kind {F : Fp} {C : Hold} (h : DAt w d F n D C) : KindD w F := by
  obtain ⟨mb, S, e1, e2, h3⟩ := h; rw [e2]; exact h3.kind
theorem DAt.stable {F : Fp} {C : Hold} {S1 S2 : Fp} (h : DAt w d F n D C) (st : Step S1 w w' S2) (hd : ∀ q, F q → ¬ S1 q) (hb : NoT tb w S1) (hi : NoT tIn w S1) : DAt w' d F n D C := by
  obtain ⟨mb, S, e1, rfl, h3⟩ := h; exact ⟨mb, S, e1, rfl, h3.stable st hd hb hi⟩

/-! ### what a disk holds -/
/-- as a sector is read -/
def nowC (c : List UInt8 × List (List UInt8)) : List UInt8 := c.2.getLastD c.1
def secB (bs : List UInt8) : List UInt8 := bs ++ List.replicate (512 - bs.length) 0
def rdC (C : Hold) (x : Int) : List UInt8 := secB (match C x with | some c => nowC c | none => [])
/-- written, flushed -/
def wrC (C : Hold) (x : Int) (bs : List UInt8) : Hold := fun y => if y = x then some (match C x with | some c => (c.1, c.2 ++ [bs]) | none => ([], [bs])) else C y
def flC (C : Hold) : Hold := fun y => (C y).map fun c => (nowC c, [])
/-- behind a crash: of each sector what was kept, or one of the writes that waited -/
def Crashed (C C' : Hold) : Prop := ∀ x, match C x, C' x with
  | none, none => True
  | some c, some c' => c'.2 = [] ∧ c'.1 ∈ c.1 :: c.2
  | _, _ => False

end Go.Proofs.YtghineciiljeoaaGreatDoor
