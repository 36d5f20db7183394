/- Texts of this seat, one behind the other: DskD, KeyC, DskP, DskQ, DskR, DskF. -/
import Derived.Test.YtghineciiljeoaaGreatDoorQMap
import Derived.Test.YtghineciiljeoaaGreatDoorQMdf
import Derived.Laws.MakeOwn
import Derived.Test.YtghineciiljeoaaGreatDoorQKeyz
import Derived.Lib.SlKeysI
import Derived.Test.YtghineciiljeoaaGreatDoorQGUd
import Derived.Test.YtghineciiljeoaaGreatDoorQPG
import Derived.Deep.OwnRows
set_option linter.unusedSimpArgs false
set_option linter.unusedVariables false
set_option maxRecDepth 100000
namespace Go.Proofs.YtghineciiljeoaaGreatDoor
section
open Go Go.CW Go.RowKit
abbrev tDk : TypeId := 201
abbrev tSc : TypeId := 234
abbrev tBB : TypeId := 143
abbrev tIn : TypeId := 3
abbrev tMk : TypeId := 199
abbrev nilS : Value := .slice none 0 0
theorem tyBB : SlTy Tryz.prog tBB tB 24 := SlTy.of (by kernel_rfl)
theorem undIn : Tryz.prog.underlying tIn = some (.int .i64) := by kernel_rfl
theorem undMk : Tryz.prog.underlying tMk = some (.map tIn 232) := by kernel_rfl
def EI : Enc Int := ⟨1, fun n => [.int .i64 n], fun _ => rfl, by omega, fun _ => rfl⟩
def IsT (t : TypeId) (w : World) (v : Value) : Prop := ∀ q, v.ownBlock = some q → ∃ cs fr, w.heap[q]? = some (.cells cs t fr)
def NoT (t : TypeId) (w : World) (S : Fp) : Prop := ∀ q, S q → ∀ cs fr, w.heap[q]? ≠ some (.cells cs t fr)
variable {w w' : World}
theorem IsT.step {t : TypeId} {v : Value} {S S' : Fp} (h : IsT t w v) (st : Step S w w' S') (hS : NoT t w S) : IsT t w' v := by
 intro q hq
 obtain ⟨cs, fr, e⟩ := h q hq
 exact ⟨cs, fr, (st.block q (Array.getElem?_eq_some_iff.1 e).1 (fun hs => hS q hs cs fr e)).trans e⟩
theorem IsT.grow {t : TypeId} {v : Value} (h : IsT t w v) (g : Grow w w') : IsT t w' v := by
 intro q hq
 obtain ⟨cs, fr, e⟩ := h q hq
 exact ⟨cs, fr, (g.block q (Array.getElem?_eq_some_iff.1 e).1).trans e⟩
theorem IsT.nil (t : TypeId) (w : World) : IsT t w nilS := fun q hq => by cases hq
theorem IsT.own {t : TypeId} {B : Nat} {v : Value} {xs : List Value} (h : Own w B t v xs) : IsT t w v := by
 intro q hq
 rcases h.2 with ⟨rfl, _⟩ | ⟨g, cap, cur, rfl, _, hg, _⟩
 · cases hq
 · cases hq; exact ⟨_, _, hg⟩
theorem IsT.not {t : TypeId} {v : Value} {S : Fp} (h : IsT t w v) (hS : NoT t w S) : ∀ q, v.ownBlock = some q → ¬ S q := fun q hq hs => by
 obtain ⟨cs, fr, e⟩ := h q hq
 exact hS q hs cs fr e
theorem IsT.same {t : TypeId} {v v' : Value} (h : IsT t w v) (e : v'.ownBlock = v.ownBlock) : IsT t w v' := fun q hq => h q (e ▸ hq)
class Av where
 G : Nat → Prop
def GIn [Av] (w : World) : Prop := ∀ q, Av.G q → q < w.heap.size
def NoG [Av] (w : World) (S : Fp) : Prop := ∀ q, S q → ∀ cs fr, w.heap[q]? = some (.cells cs tb fr) → Av.G q
structure RdI [Av] (w : World) (v : Value) (bs : List UInt8) : Prop where
 rd : RdB w v bs
 is : IsT tb w v
 av : ∀ q, v.ownBlock = some q → ¬ Av.G q
section
variable [Av]
theorem GIn.mono (h : GIn w) (hs : w.heap.size ≤ w'.heap.size) : GIn w' := fun q hq => Nat.lt_of_lt_of_le (h q hq) hs
theorem RdI.stepG {v : Value} {bs : List UInt8} {S S' : Fp} (h : RdI w v bs) (st : Step S w w' S') (hS : NoG w S) : RdI w' v bs := by
 have hn : ∀ q, v.ownBlock = some q → ¬ S q := fun q hq hs => by
  obtain ⟨cs, fr, e⟩ := h.is q hq
  exact h.av q hq (hS q hs cs fr e)
 refine ⟨Rd.stepS h.rd st (fun _ => hn), fun q hq => ?_, h.av⟩
 obtain ⟨cs, fr, e⟩ := h.is q hq
 exact ⟨cs, fr, (st.block q (Array.getElem?_eq_some_iff.1 e).1 (hn q hq)).trans e⟩
theorem RdI.same {v v' : Value} {bs cs : List UInt8} (h : RdI w v bs) (r : RdB w v' cs) (e : v'.ownBlock = v.ownBlock) : RdI w v' cs := ⟨r, h.is.same e, fun q hq => h.av q (e ▸ hq)⟩
theorem RdI.step {v : Value} {bs : List UInt8} {S S' : Fp} (h : RdI w v bs) (st : Step S w w' S') (hS : NoT tb w S) : RdI w' v bs :=
 ⟨Rd.stepS h.rd st (fun _ => h.is.not hS), h.is.step st hS, h.av⟩
theorem RdI.grow {v : Value} {bs : List UInt8} (h : RdI w v bs) (g : Grow w w') : RdI w' v bs := ⟨h.rd.grow g, h.is.grow g, h.av⟩
theorem RdI.nil (w : World) : RdI w nilS [] := ⟨Rd.nil w, IsT.nil _ _, fun q hq => by cases hq⟩
theorem RdI.own {w0 : World} {v : Value} {bs : List UInt8} (hG : GIn w0) (h : OwnB w w0.heap.size tb v bs) : RdI w v bs := ⟨h.rd, IsT.own h, fun q hq hg => by have := hG q hg; have := Own.blk h q hq; omega⟩
end
structure Sc where
 blk : Nat
 kv : Value
 kb : List UInt8
 wv : Value
 ws : List (Value × List UInt8)
structure ScAt [Av] (w : World) (s : Sc) : Prop where
 o : BK w s.blk #[s.kv, s.wv] tSc
 k : RdI w s.kv s.kb
 r : Own w 0 tB s.wv (s.ws.map (·.1))
 ws : ∀ x ∈ s.ws, RdI w x.1 x.2
 kl : s.kb.length ≤ 512
 wl : ∀ x ∈ s.ws, x.2.length ≤ 512
abbrev SF := Int → Option Sc
def ptrF (S : SF) : Int → Option Value := fun x => (S x).map fun s => .pointer (some ⟨s.blk, 0, none⟩)
abbrev Hold := Int → Option (List UInt8 × List (List UInt8))
def cont (S : SF) : Hold := fun x => (S x).map fun s => (s.kb, s.ws.map (·.2))
structure Dk where
 n : Int
 off : Bool
 armed : Int
 ps : List Int
def FD (d mb : Nat) (S : SF) : Fp := fun q => q = d ∨ q = mb ∨ ∃ x s, S x = some s ∧ (q = s.blk ∨ s.wv.ownBlock = some q)
structure DL [Av] (w : World) (d mb n : Nat) (D : Dk) (S : SF) : Prop where
 o : ∃ pv calls, BK w d #[.int .i64 D.n, .map (some mb), .bool D.off, .bool false, .int .i64 D.armed, pv, .int .i64 calls] tDk ∧ RdR EI w pv D.ps ∧ IsT tIn w pv
 m : Mp Tryz.prog tIn .i64 w mb n (ptrF S)
 s : ∀ x s, S x = some s → ScAt w s
 ne : ∀ x y s t, S x = some s → S y = some t → x ≠ y → s.blk ≠ t.blk ∧ ∀ q, s.wv.ownBlock = some q → t.wv.ownBlock ≠ some q
 c : ∀ x s, S x = some s → s.ws.length ≤ n
 gi : GIn w
variable {d mb n : Nat} {D : Dk} {S : SF}
def KindD (w : World) (F : Fp) : Prop := ∀ q, F q → (∃ es c, w.heap[q]? = some (.map es c)) ∨ ∃ cs t fr, w.heap[q]? = some (.cells cs t fr) ∧ (t = tDk ∨ t = tSc ∨ t = tB)
theorem own_blk {B : Nat} {t : TypeId} {v : Value} {xs : List Value} {q : Nat} (h : Own w B t v xs) (hq : v.ownBlock = some q) : ∃ cs fr, w.heap[q]? = some (.cells cs t fr) := IsT.own h q hq
theorem KindD.noT {F : Fp} (h : KindD w F) {t : TypeId} (h1 : t ≠ tDk) (h2 : t ≠ tSc) (h3 : t ≠ tB) : NoT t w F := by
 intro q hq cs fr e
 rcases h q hq with ⟨es, c, e'⟩ | ⟨cs', t', fr', e', ht⟩
 · rw [e] at e'; cases e'
 · rw [e] at e'
   injection e' with e'
   injection e' with _ e' _
   subst e'
   rcases ht with h | h | h
   · exact h1 h
   · exact h2 h
   · exact h3 h
theorem KindD.lt {F : Fp} (h : KindD w F) : InW w F := by
 intro q hq
 rcases h q hq with ⟨es, c, e'⟩ | ⟨cs', t', fr', e', ht⟩ <;> exact (Array.getElem?_eq_some_iff.1 e').1
theorem KindD.not {F : Fp} (h : KindD w F) {g : Nat} {cs : Array Value} {t : TypeId} (b : BK w g cs t) (h1 : t ≠ tDk) (h2 : t ≠ tSc) (h3 : t ≠ tB) : ¬ F g := fun hg => h.noT h1 h2 h3 g hg cs _ b
section
variable [Av]
theorem DL.kind (h : DL w d mb n D S) : KindD w (FD d mb S) := by
 rintro q (rfl | rfl | ⟨x, s, hs, rfl | hq⟩)
 · obtain ⟨pv, c, b, _⟩ := h.o; exact .inr ⟨_, _, _, b, .inl rfl⟩
 · obtain ⟨es, c, e⟩ := h.m.map; exact .inl ⟨es, c, e⟩
 · exact .inr ⟨_, _, _, (h.s x s hs).o, .inr (.inl rfl)⟩
 · obtain ⟨cs, fr, e⟩ := own_blk (h.s x s hs).r hq; exact .inr ⟨cs, _, fr, e, .inr (.inr rfl)⟩
theorem DL.stable {S1 S2 : Fp} (h : DL w d mb n D S) (st : Step S1 w w' S2) (hd : ∀ q, FD d mb S q → ¬ S1 q) (hb : NoT tb w S1) (hi : NoT tIn w S1) : DL w' d mb n D S := by
 have eq : ∀ q, FD d mb S q → w'.heap[q]? = w.heap[q]? := fun q hq => st.block q (h.kind.lt q hq) (hd q hq)
 refine ⟨?_, h.m.at (eq mb (.inr (.inl rfl))), fun x s hs => ?_, h.ne, h.c, h.gi.mono st.size⟩
 · obtain ⟨pv, c, b, r, i⟩ := h.o
   refine ⟨pv, c, (eq d (.inl rfl)).trans b, ?_, i.step st hi⟩
   refine r.kept fun a u ha hv => ?_
   have hq : a.block < w.heap.size := World.block_lt_of_cell? w a ha
   exact (cell_of_heap (st.block a.block hq (fun hs => i.not hi _ hv hs))).trans ha
 · obtain ⟨k1, k2, k3, k4, k5, k6⟩ := h.s x s hs
   refine ⟨(eq s.blk (.inr (.inr ⟨x, s, hs, .inl rfl⟩))).trans k1, k2.step st hb, ?_, fun y hy => (k4 y hy).step st hb, k5, k6⟩
   exact k3.stepS st fun q hq => hd q (.inr (.inr ⟨x, s, hs, .inr hq⟩))
theorem DL.grow (h : DL w d mb n D S) (g : Grow w w') : DL w' d mb n D S :=
 h.stable (S1 := fun _ => False) (S2 := fun _ => False) ⟨g.os, g.tape, g.output, g.size, fun k hk _ => g.block k hk, fun _ h => .inl h⟩ (fun _ _ h => h) (fun _ h => h.elim) (fun _ h => h.elim)
end
def nowC (c : List UInt8 × List (List UInt8)) : List UInt8 := c.2.getLastD c.1
def secB (bs : List UInt8) : List UInt8 := bs ++ List.replicate (512 - bs.length) 0
def rdC (C : Hold) (x : Int) : List UInt8 := secB (match C x with | some c => nowC c | none => [])
def wrC (C : Hold) (x : Int) (bs : List UInt8) : Hold := fun y => if y = x then some (match C x with | some c => (c.1, c.2 ++ [bs]) | none => ([], [bs])) else C y
def flC (C : Hold) : Hold := fun y => (C y).map fun c => (nowC c, [])
def Crashed (C C' : Hold) : Prop := ∀ x, match C x, C' x with
 | none, none => True
 | some c, some c' => c'.2 = [] ∧ c'.1 ∈ c.1 :: c.2
 | _, _ => False
end
section
open Go Go.CW Go.RowKit Go.Sort Go.Shelf Go.Proofs
theorem sortsA (m : Nat) : AnyZI.SortsIn Tryz.prog Go.Proofs.Tryz.sortedA_ren Fence.wide m :=
 ⟨fun blk off cap ss W hH hblk hsz => callsIn_wide.2 (AnyM.slices_Sort_int Go.Proofs.Tryz.sortA blk off cap ss W hH hblk hsz),
  fun p cap W => callsIn_wide.2 (AnyM.slices_Sort_int_none Go.Proofs.Tryz.sortA p cap W)⟩
theorem keys_c {w : World} {mb : Option Nat} {R : KV} (k : R (.func (.func 204) #[] #[.pointer (some ⟨w.heap.size, 0, none⟩)]) (w.alloc (.cells #[.map mb] tMk))) :
 CW.Spec Tryz.prog 123 #[.map mb] w R :=
 ((callsIn_wide (n := 5)).1 (AnyZI.keys_in Go.Proofs.Tryz.keysA Fence.wide 5 trivial rfl mb w)).mono fun e w' ⟨he, hw⟩ => ⟨_, he, by subst hw; exact k⟩
theorem mem_intKeys {w : World} {b n : Nat} {D : DataW Value} (h : w.ownsMap Tryz.prog tIn heldR b n D) (x : Int) : x ∈ intKeys D ↔ Maps.has D (.int .i64 x) = true := by
 obtain ⟨es, hD, hk⟩ := h.keysOf
 subst hD
 rw [Maps.has_eq, List.any_eq_true]
 unfold intKeys
 rw [List.mem_map]
 constructor
 · rintro ⟨p, hp, hx⟩
   obtain ⟨v, hv⟩ := hk p hp
   obtain ⟨y, _, hy, _⟩ := Maps.keyOf_int_inv undIn hv
   rw [hy] at hx
   have hx' : y = x := hx
   exact ⟨p, hp, by rw [hy, hx']; simp [Lit.sameKey]⟩
 · rintro ⟨p, hp, hx⟩
   obtain ⟨v, hv⟩ := hk p hp
   obtain ⟨y, _, hy, _⟩ := Maps.keyOf_int_inv undIn hv
   rw [hy] at hx
   simp only [Lit.sameKey, decide_eq_true_eq] at hx
   exact ⟨p, hp, by rw [hy]; exact hx.2⟩
theorem sorted_c {w : World} {b n : Nat} {f : Int → Option Value} (h : Mp Tryz.prog tIn .i64 w b n f) (hn : n ≤ 1000000) {R : KV}
 (k : ∀ v w' ss, Grow w w' → RdR EI w' v ss → NewV w v → (∀ x, x ∈ ss ↔ (f x).isSome = true) → R v w') :
 CW.Spec Tryz.prog 123 #[.map (some b)] w fun v1 w1 => CW.Spec Tryz.prog 122 #[v1] w1 R := by
 obtain ⟨D, hown, h2⟩ := h
 have hsz : Maps.size D ≤ n := by
  obtain ⟨es, clock, hb, F, hs, rfl⟩ := hown
  have e1 : Maps.size (DataW.map ((es.toList.map (Go.WideElems.rg Tryz.prog tIn heldR)).foldr DataW.insert [])) = es.size := by simp [Maps.size, length_sorted]
  rw [e1]; exact hs
 have hbl := hown.lt
 refine keys_c ?_
 have hseq : SeqGives Fence.wide 2 Tryz.prog 204 #[.pointer (some ⟨w.heap.size, 0, none⟩)] encZ (fun ss => ss.Perm (intKeys D)) (Maps.size D) (w.alloc (.cells #[.map (some b)] tMk)) :=
  AnyZI.keys_gives (ρ := Go.Proofs.Tryz.keysA_ren) { Go.Proofs.Tryz.keysA with } Fence.wide _ trivial rfl (by omega) w.heap.size b n D _ (by simp) (by simp) (by
   obtain ⟨es, clock, hb, Ft, hs, hD⟩ := hown
   exact ⟨es, clock, (Below.heap_alloc _ _ b hbl).trans hb, Ft, hs, hD⟩)
 have cS := AnyZI.sorted_in Go.Proofs.Tryz.sortedA Fence.wide 5 trivial trivial trivial trivial rfl (by omega) (sortsA _) (enters_of Tryz.func203 (by kernel_rfl) rfl) 204 #[.pointer (some ⟨w.heap.size, 0, none⟩)] trivial (enters_of Tryz.func204 (by kernel_rfl) rfl) _ _ (by simp only [maxLen]; omega) (by omega) _ hseq
 change CallsIn _ _ Tryz.prog 122 _ _ _ at cS
 refine ((callsIn_wide (n := 5)).1 cS).mono fun e w' ⟨v, ss, he, hS, hrow, hnil, hb⟩ => ⟨_, he, ?_⟩
 have ga := Grow.al (Grow.refl w) (.cells #[.map (some b)] tMk)
 have hS' : ss.Perm (intKeys D) := hS
 refine k v w' (ss.mergeSort (fun x y => decide (x ≤ y))) (ga.then hb) ?_ ?_ fun x => ?_
 · have hr : w'.ownsRow (w.alloc (.cells #[.map (some b)] tMk)).heap.size tIn 1 v ss.length ((ss.mergeSort (fun x y => decide (x ≤ y))).map encZ) := hrow
   have e1 : EI.flat (ss.mergeSort (fun x y => decide (x ≤ y))) = (ss.mergeSort (fun x y => decide (x ≤ y))).map encZ := by
    generalize ss.mergeSort (fun x y => decide (x ≤ y)) = l
    induction l with
    | nil => rfl
    | cons a l ih => rw [Enc.flat_cons, ih]; rfl
   have : OwnR EI w' (w.alloc (.cells #[.map (some b)] tMk)).heap.size tIn v (ss.mergeSort (fun x y => decide (x ≤ y))) := by
    unfold OwnR
    rw [e1, List.length_mergeSort]; exact hr
   exact this.rd
 · intro q hq
   have := (World.ownsRow.lt hrow q hq).1
   simp at this; omega
 · rw [List.mem_mergeSort, hS'.mem_iff, mem_intKeys hown, Mp.has h2]
end
section
open Go Go.CW Go.RowKit
variable {w w' : World} {d mb n : Nat} {D : Dk} {S : SF}
section
variable [Av]
end
theorem noT_one {g : Nat} {cs : Array Value} {ty t : TypeId} (b : BK w g cs ty) (h : t ≠ ty) : NoT t w (fun k => k = g) := by
 rintro q rfl cs' fr e
 unfold BK at b
 rw [b] at e
 injection e with e
 injection e with _ e _
 exact h e.symm
section
variable [Av]
end
theorem bk_neD {g g' : Nat} {cs cs' : Array Value} {e e' : TypeId} (b : BK w g cs e) (b' : BK w g' cs' e') (hne : e ≠ e') : g ≠ g' := by
 rintro rfl
 exact noT_one b (Ne.symm hne) g rfl _ _ b'
section
variable [Av]
end
theorem isT_ne {t ty : TypeId} {v : Value} {g : Nat} {cs : Array Value} (h : IsT t w v) (b : BK w g cs ty) (hne : t ≠ ty) : v.ownBlock ≠ some g := fun e => by
 obtain ⟨cs', fr, e'⟩ := h g e
 exact noT_one b hne g rfl _ _ e'
section
variable [Av]
end
theorem own_neD {B g : Nat} {t ty : TypeId} {v : Value} {xs : List Value} {cs : Array Value} (h : Own w B t v xs) (b : BK w g cs ty) (hne : t ≠ ty) : v.ownBlock ≠ some g := isT_ne (IsT.own h) b hne
section
variable [Av]
end
theorem rdr_step {v : Value} {ps : List Int} {T T' : Fp} (r : RdR EI w v ps) (i : IsT tIn w v) (st : Step T w w' T') (hi : NoT tIn w T) : RdR EI w' v ps := by
 refine r.kept fun a u ha hv => ?_
 have hq : a.block < w.heap.size := World.block_lt_of_cell? w a ha
 exact (cell_of_heap (st.block a.block hq (fun hs => i.not hi _ hv hs))).trans ha
section
variable [Av]
theorem ScAt.step {s : Sc} {T T' : Fp} (h : ScAt w s) (st : Step T w w' T') (h1 : ¬ T s.blk) (h2 : ∀ q, s.wv.ownBlock = some q → ¬ T q) (nb : NoT tb w T) : ScAt w' s :=
 ⟨(st.block s.blk h.o.lt h1).trans h.o, h.k.step st nb, h.r.stepS st h2, fun x hx => (h.ws x hx).step st nb, h.kl, h.wl⟩
theorem DL.obj {D' : Dk} (h : DL w d mb n D S) {pv : Value} {cl : Int} (t : Turn d w w') (b : BK w' d #[.int .i64 D'.n, .map (some mb), .bool D'.off, .bool false, .int .i64 D'.armed, pv, .int .i64 cl] tDk) (hp : RdR EI w pv D'.ps) (hi : IsT tIn w pv) : DL w' d mb n D' S := by
 obtain ⟨pv0, cl0, ob, _, _⟩ := h.o
 have st : Step (fun k => k = d) w w' (fun k => k = d) := t.step rfl
 have nb := noT_one ob (t := tb) (by decide)
 have ni := noT_one ob (t := tIn) (by decide)
 refine ⟨⟨pv, cl, b, rdr_step hp hi st ni, hi.step st ni⟩, h.m.at (t.block mb (h.m.ne ob)), fun x s hs => ?_, h.ne, h.c, h.gi.mono st.size⟩
 exact (h.s x s hs).step st (bk_neD (h.s x s hs).o ob (by decide)) (fun q hq e => own_neD (h.s x s hs).r ob (by decide) (e ▸ hq)) nb
theorem state_c (h : DL w d mb n D S) {R : KV} (k : R (.int .i64 (bif D.off then 8 else 0)) w) : CW.Spec Tryz.prog 253 #[.pointer (some ⟨d, 0, none⟩)] w R := by
 apply q29W
 obtain ⟨pv, cl, ob, _, _⟩ := h.o
 refine withAddr_some ⟨false, by rw [ob.cell]; rfl, cond_f rfl (withAddr_some ⟨D.off, by rw [ob.cell]; rfl, cond_intro (fun e => ?_) (fun e => ?_)⟩)⟩
 · rw [e] at k; exact k
 · rw [e] at k; exact k
theorem dIn_c (h : DL w d mb n D S) {x : Int} {R : KV} (k : R (.bool (decide (0 ≤ x) && decide (x < D.n))) w) : CW.Spec Tryz.prog 254 #[.pointer (some ⟨d, 0, none⟩), .int .i64 x] w R := by
 apply q28W
 obtain ⟨pv, cl, ob, _, _⟩ := h.o
 refine JoinP.go (cond_intro (fun e => withAddr_some ⟨D.n, by rw [ob.cell]; rfl, ?_⟩) (fun e => ?_))
 · have e' : decide (0 ≤ x) = true := e
   rw [e', Bool.true_and] at k; exact k
 · have e' : decide (0 ≤ x) = false := e
   rw [e', Bool.false_and] at k; exact k
theorem sectors_c (h : DL w d mb n D S) {R : KV} (k : R (.int .i64 D.n) w) : CW.Spec Tryz.prog 111 #[.pointer (some ⟨d, 0, none⟩)] w R := by
 apply q25W
 obtain ⟨pv, cl, ob, _, _⟩ := h.o
 exact withAddr_some ⟨_, by rw [ob.cell]; rfl, k⟩
def nowS (s : Sc) : List UInt8 := nowC (s.kb, s.ws.map (·.2))
theorem now_c {s : Sc} (h : ScAt w s) {R : KV} (k : ∀ v, RdI w v (nowS s) → (nowS s).length ≤ 512 → R v w) : CW.Spec Tryz.prog 256 #[.pointer (some ⟨s.blk, 0, none⟩)] w R := by
 apply q31W
 have hr := h.r.rd
 have hle := hr.le
 refine withAddr_some ⟨s.wv, by rw [h.o.cell]; rfl, _, hr.len, cond_intro (fun hc => ?_) (fun hc => ?_)⟩
 · have hpos : 0 < s.ws.length := by simpa using hc
   have hne : s.ws ≠ [] := List.length_pos_iff.1 hpos
   rw [List.length_map] at hle ⊢
   rw [wi64_id (by omega) (by omega)]
   obtain ⟨a, ha, hca⟩ := hr.at (i := ((s.ws.length : Nat) : Int) - 1) (u := (s.ws.getLast hne).1) (by omega) (by
    have : (((s.ws.length : Nat) : Int) - 1).toNat = s.ws.length - 1 := by omega
    rw [this, List.getElem?_map, List.getLast_eq_getElem, List.getElem?_eq_getElem (by omega)]; rfl)
   refine withAddr_some ⟨s.wv, by rw [h.o.cell]; rfl, a, ha, _, hca, ?_⟩
   have e : nowS s = (s.ws.getLast hne).2 := by
    unfold nowS nowC
    rw [List.getLastD_eq_getLast?, List.getLast?_map, List.getLast?_eq_some_getLast hne]; rfl
   have hm := List.getLast_mem hne
   exact k _ (by rw [e]; exact h.ws _ hm) (by rw [e]; exact h.wl _ hm)
 · have hz : s.ws = [] := by simp at hc; exact hc
   have e : nowS s = s.kb := by unfold nowS nowC; rw [hz]; rfl
   exact withAddr_some ⟨s.kv, by rw [h.o.cell]; rfl, k _ (by rw [e]; exact h.k) (by rw [e]; exact h.kl)⟩
theorem dNew_c (hG : GIn w) {N : Int} (h1 : 1 ≤ N ∧ N ≤ 4096) {R : KV} (k : ∀ d mb w', Grow w w' → w.heap.size ≤ d → w.heap.size ≤ mb → DL w' d mb 0 ⟨N, false, 0, []⟩ (fun _ => none) → R (.tuple #[.pointer (some ⟨d, 0, none⟩), .int .i64 (0 : Int)]) w') :
 CW.Spec Tryz.prog 36 #[.int .i64 N] w R := by
 apply q30W
 refine JoinP.go (cond_f (by simp; omega) (cond_f (by simp; omega) ?_))
 refine ⟨.map (some w.heap.size), w.alloc (.map #[] 0), rfl, oneK_of rfl ?_⟩
 have hm : Mp Tryz.prog tIn .i64 (w.alloc (.map #[] 0)) w.heap.size 0 (fun _ => none) := Mp.made w
 have ga := Grow.al (Grow.refl w) (.map #[] 0)
 have sz : (w.alloc (.map #[] 0)).heap.size = w.heap.size + 1 := by simp
 generalize w.alloc (.map #[] 0) = wa at *
 refine nm fun w4 e4 => ?_
 obtain ⟨b4, g4, s4⟩ := alE e4
 refine k _ _ _ (ga.then g4) (by omega) (Nat.le_refl _) ⟨⟨nilS, 0, b4, RdR.nil _, IsT.nil _ _⟩, hm.grow g4, fun x s hs => (by cases hs), fun x y s t hs => (by cases hs), fun x s hs => (by cases hs), hG.mono (ga.then g4).size⟩
end
theorem copy_new {g m : Nat} (h : BK w g ((List.replicate m (0 : UInt8)).map b8).toArray tb) {v : Value} {bs : List UInt8} (hv : RdB w v bs) (hl : bs.length ≤ m) {ty : TypeId} :
 ∃ (i : Int) (w2 : World), Sem.run Tryz.prog (Builtin.copy_ #[tB, tB] ty #[.slice (some ⟨g, 0, none⟩) m m, v]) w = .ok (.int .i64 i) w2 ∧ Turn g w w2 ∧ BK w2 g ((bs ++ List.replicate (m - bs.length) 0).map b8).toArray tb := by
 obtain ⟨a, cap, rfl, q1, q2, q3, q4⟩ := hv
 rw [List.length_map] at q1 ⊢
 have hu : Tryz.prog.underlying tB = some (.slice tb) := by kernel_rfl
 have hs : (Tryz.prog.info? tb).map (·.size) = some 1 := by kernel_rfl
 by_cases h0 : bs.length = 0
 · have hb : bs = [] := List.eq_nil_of_length_eq_zero h0
   subst hb
   have hr := run_copy_none (P := Tryz.prog) w tB tB ty tb (some ⟨g, 0, none⟩) a m m 0 cap hu hs (by show min _ _ = 0; omega)
   refine ⟨_, w, hr, ⟨rfl, rfl, rfl, rfl, fun _ _ => rfl⟩, ?_⟩
   simpa using h
 · cases a with
   | none => have := q3 rfl; omega
   | some a =>
     have hr := run_copy_cells (P := Tryz.prog) w tB tB ty tb g 0 m m a bs.length cap (bs.map b8) hu hs (by rw [List.length_map]; show _ = min _ _; omega)
      (fun j u hj => by obtain ⟨x, hx, hc⟩ := q4 j u hj; cases hx; exact hc)
      (fun j hj => by
       have hj' : j < m := by rw [List.length_map] at hj; omega
       rw [BK.at h]; simp; omega)
      (fun j _ => BK.thaw h _) (fun u hu => by obtain ⟨c, _, rfl⟩ := List.mem_map.1 hu; rfl)
     refine ⟨_, _, hr, Turn.row w ⟨g, 0, none⟩ (bs.map b8).toArray, ?_⟩
     have := setCells_set (bs.map b8) 0 w _ h (by simpa using hl)
     have e : (((List.replicate m (0 : UInt8)).map b8).toArray.toList.take 0 ++ bs.map b8 ++ ((List.replicate m (0 : UInt8)).map b8).toArray.toList.drop (0 + (bs.map b8).length)).toArray = ((bs ++ List.replicate (m - bs.length) 0).map b8).toArray := by
      simp
     rw [e] at this
     exact this
section
variable [Av]
end
theorem row_madeD (m : Nat) (hm : m ≤ 1099511627776) :
 (Instr.makeSlice tB (.int .i64 (m : Int)) (.int .i64 (m : Int))).run Tryz.prog w = .ok (.slice (some ⟨w.heap.size, 0, none⟩) m m) (w.alloc (.cells ((List.replicate m (0 : UInt8)).map b8).toArray tb)) := by
 have h := run_make_row' (P := Tryz.prog) tB tb (.int .u8 0) 1 (by kernel_rfl) (by kernel_rfl) rfl .i64 .i64 m (by omega) (by omega) w
 have e : madeCells #[Value.int .u8 0] m = ((List.replicate m (0 : UInt8)).map b8).toArray := by
  apply Array.ext'
  rw [madeCells_one, List.map_replicate]
  rfl
 rw [e] at h
 exact h
section
variable [Av]
end
theorem bk_rdB {g : Nat} {bs : List UInt8} (h : BK w g (bs.map b8).toArray tb) (hm : bs.length ≤ 1099511627776) : RdB w (.slice (some ⟨g, 0, none⟩) bs.length bs.length) bs :=
 ⟨some ⟨g, 0, none⟩, bs.length, by simp, by simp, by simp only [maxLen]; omega, (fun e => by cases e), fun j u hj => ⟨_, rfl, by rw [h.cell]; simpa using hj⟩⟩
section
variable [Av]
theorem Read_l (h : DL w d mb n D S) (ho : D.off = false) {x : Int} (h0 : 0 ≤ x) (h1 : x < D.n) (hx : x < 4294967296) {R : KV}
 (k : ∀ v w', Grow w w' → RdB w' v (rdC (cont S) x) → NewV w v → R (.tuple #[v, .int .i64 (0 : Int)]) w') : CW.Spec Tryz.prog 193 #[.pointer (some ⟨d, 0, none⟩), .int .i64 x] w R := by
 apply q24W
 refine state_c h ⟨_, rfl, cond_f (by rw [ho]; rfl) (dIn_c h ⟨_, rfl, cond_f (by simp [h0, h1]) ?_⟩)⟩
 refine ⟨_, _, row_madeD 512 (by omega), ?_⟩
 have ga := Grow.al (Grow.refl w) (.cells ((List.replicate 512 (0 : UInt8)).map b8).toArray tb)
 have ba : BK (w.alloc (.cells ((List.replicate 512 (0 : UInt8)).map b8).toArray tb)) w.heap.size ((List.replicate 512 (0 : UInt8)).map b8).toArray tb := BK.new _ _ _
 generalize w.alloc (.cells ((List.replicate 512 (0 : UInt8)).map b8).toArray tb) = wa at *
 have ha := h.grow ga
 obtain ⟨pv, cl, ob, _, _⟩ := ha.o
 have hlk := ha.m.look undIn undMk (z := .pointer none) (by kernel_rfl) (x := x) (by simp [Lit.wf, IntKind.min, IntKind.max, IntKind.bits, IntKind.signed]; omega)
 have e512 : ∀ bs : List UInt8, bs.length ≤ 512 → (secB bs).length = 512 := fun bs hb => by simp [secB]; omega
 have fin : ∀ bs : List UInt8, bs.length ≤ 512 → ∀ w2, Turn w.heap.size wa w2 → BK w2 w.heap.size ((secB bs).map b8).toArray tb → rdC (cont S) x = secB bs → R (.tuple #[.slice (some ⟨w.heap.size, 0, none⟩) 512 512, .int .i64 (0 : Int)]) w2 := by
  intro bs hb w2 t2 b2 e
  have := bk_rdB b2 (by rw [e512 bs hb]; omega)
  rw [e512 bs hb] at this
  exact k _ w2 (Below.turn ga t2 (Nat.le_refl _)) (by rw [e]; exact this) (fun q hq => by cases hq; exact Nat.le_refl _)
 refine JoinP.go (withAddr_some ⟨_, by rw [ob.cell]; rfl, ?_⟩)
 cases hS : S x with
 | none =>
   have e : (ptrF S x).getD (.pointer none) = .pointer none := by simp [ptrF, hS]
   rw [e] at hlk
   refine ⟨none, hlk, true, rfl, cond_f rfl ?_⟩
   refine fin [] (by simp) wa ⟨rfl, rfl, rfl, rfl, fun _ _ => rfl⟩ (by simpa [secB] using ba) ?_
   simp [rdC, cont, hS]
 | some s =>
   have e : (ptrF S x).getD (.pointer none) = .pointer (some ⟨s.blk, 0, none⟩) := by simp [ptrF, hS]
   rw [e] at hlk
   refine ⟨_, hlk, false, rfl, cond_t rfl (now_c (ha.s x s hS) fun v rv hv => ?_)⟩
   obtain ⟨i, w2, hr, t2, b2⟩ := copy_new ba rv.rd hv (ty := 3)
   refine ⟨i, w2, hr, fin (nowS s) hv w2 t2 b2 ?_⟩
   simp [rdC, cont, hS, nowS]
theorem On_l (h : DL w d mb n D S) {R : KV} (k : ∀ w', Step (FD d mb S) w w' (FD d mb S) → DL w' d mb n ⟨D.n, false, 0, D.ps⟩ S → R (.tuple #[]) w') : CW.Spec Tryz.prog 41 #[.pointer (some ⟨d, 0, none⟩)] w R := by
 apply q23W
 obtain ⟨pv, cl, ob, hp, hi⟩ := h.o
 refine withAddr_some ⟨st1_at ob (by show 2 < 7; omega), nm fun w1 e1 => ?_⟩
 obtain ⟨b1, t1⟩ := setE ob e1
 refine withAddr_some ⟨st1_at b1 (by show 4 < 7; omega), nm fun w3 e3 => ?_⟩
 obtain ⟨b3, t3⟩ := setE b1 e3
 exact k _ ((t1.then t3).step (.inl rfl)) (h.obj (t1.then t3) (D' := ⟨D.n, false, 0, D.ps⟩) b3 hp hi)
end
end
section
open Go Go.CW Go.RowKit
variable {w w' : World} {d mb n : Nat} {D : Dk} {S : SF}
section
variable [Av]
def updS (S : SF) (x : Int) (s : Sc) : SF := fun y => if y = x then some s else S y
end
theorem updS_self {x : Int} {s : Sc} : updS S x s x = some s := if_pos rfl
section
variable [Av]
end
theorem updS_ne {x y : Int} {s : Sc} (h : y ≠ x) : updS S x s y = S y := if_neg h
section
variable [Av]
theorem DL.upd (h : DL w d mb n D S) {x : Int} {s s' : Sc} (hs : S x = some s) (hb : s'.blk = s.blk) {T T' : Fp} (st : Step T w w' T') (hT : ∀ q, T q → q = s.blk ∨ s.wv.ownBlock = some q)
 (hs' : ScAt w' s') (hr : ∀ q, s'.wv.ownBlock = some q → s.wv.ownBlock = some q ∨ w.heap.size ≤ q) {n' : Nat} (hn : n ≤ n') (hc : s'.ws.length ≤ n') : DL w' d mb n' D (updS S x s') := by
 have sx := h.s x s hs
 have kinds : ∀ q, T q → ∃ cs t fr, w.heap[q]? = some (.cells cs t fr) ∧ (t = tSc ∨ t = tB) := fun q hq => by
  rcases hT q hq with rfl | hw
  · exact ⟨_, _, _, sx.o, .inl rfl⟩
  · obtain ⟨cs, fr, e⟩ := own_blk sx.r hw; exact ⟨cs, _, fr, e, .inr rfl⟩
 have noT : ∀ t, t ≠ tSc → t ≠ tB → NoT t w T := fun t h1 h2 q hq cs fr e => by
  obtain ⟨cs', t', fr', e', ht⟩ := kinds q hq
  rw [e] at e'; injection e' with e'; injection e' with _ e' _
  subst e'
  rcases ht with h | h
  · exact h1 h
  · exact h2 h
 have notB : ∀ {g : Nat} {cs : Array Value} {t : TypeId}, BK w g cs t → t ≠ tSc → t ≠ tB → ¬ T g := fun b h1 h2 hg => noT _ h1 h2 _ hg _ _ b
 have nb := noT tb (by decide) (by decide)
 have ni := noT tIn (by decide) (by decide)
 obtain ⟨pv, cl, ob, hp, hi⟩ := h.o
 have hmb : ¬ T mb := fun hq => by
  obtain ⟨cs, t, fr, e, _⟩ := kinds mb hq
  obtain ⟨es, c, e'⟩ := h.m.map
  rw [e] at e'; cases e'
 have ep : ptrF (updS S x s') = ptrF S := by
  funext y
  unfold ptrF updS
  by_cases e : y = x
  · subst e; rw [if_pos rfl, hs]; simp [hb]
  · rw [if_neg e]
 refine ⟨⟨pv, cl, (st.block d ob.lt (notB ob (by decide) (by decide))).trans ob, rdr_step hp hi st ni, hi.step st ni⟩, ?_, fun y t ht => ?_, fun y z t u ht hu hyz => ?_, fun y t ht => ?_, h.gi.mono st.size⟩
 · rw [ep]; exact (h.m.at (st.block mb h.m.lt hmb)).le hn
 · by_cases e : y = x
   · subst e; rw [updS_self] at ht; cases ht; exact hs'
   · rw [updS_ne e] at ht
     obtain ⟨n1, n2⟩ := h.ne y x t s ht hs e
     have ty := h.s y t ht
     refine ty.step st (fun hq => ?_) (fun q hq hTq => ?_) nb
     · rcases hT _ hq with e1 | e1
       · exact n1 e1
       · exact own_neD sx.r ty.o (by decide) e1
     · rcases hT _ hTq with e1 | e1
       · exact own_neD ty.r sx.o (by decide) (e1 ▸ hq)
       · exact n2 q hq e1
 · have sz : ∀ y t, S y = some t → t.blk < w.heap.size ∧ ∀ q, t.wv.ownBlock = some q → q < w.heap.size := fun y t ht => ⟨(h.s y t ht).o.lt, fun q hq => Own.ltS (h.s y t ht).r q hq⟩
   by_cases ey : y = x
   · subst ey
     rw [updS_self] at ht; cases ht
     rw [updS_ne (Ne.symm hyz)] at hu
     obtain ⟨n1, n2⟩ := h.ne y z s u hs hu hyz
     refine ⟨by rw [hb]; exact n1, fun q hq e => ?_⟩
     rcases hr q hq with e1 | e1
     · exact n2 q e1 e
     · have := (sz z u hu).2 q e; omega
   · rw [updS_ne ey] at ht
     by_cases ez : z = x
     · subst ez
       rw [updS_self] at hu; cases hu
       obtain ⟨n1, n2⟩ := h.ne y z t s ht hs hyz
       refine ⟨by rw [hb]; exact n1, fun q hq e => ?_⟩
       rcases hr q e with e1 | e1
       · exact n2 q hq e1
       · have := (sz y t ht).2 q hq; omega
     · rw [updS_ne ez] at hu
       exact h.ne y z t u ht hu hyz
 · by_cases e : y = x
   · subst e; rw [updS_self] at ht; cases ht; exact hc
   · rw [updS_ne e] at ht; exact Nat.le_trans (h.c y t ht) hn
def RelC (s s' : Sc) : Prop := s'.blk = s.blk ∧ (s' = s ∨ (s'.ws = [] ∧ s'.kb ∈ s.kb :: s.ws.map (·.2) ∧ (s'.wv = s.wv ∨ s'.wv = nilS)))
def RelO : Option Sc → Option Sc → Prop
 | none, none => True
 | some s, some s' => RelC s s'
 | _, _ => False
end
theorem RelO.refl : ∀ o : Option Sc, RelO o o
 | none => trivial
 | some s => ⟨rfl, .inl rfl⟩
section
variable [Av]
end
theorem RelO.some' {o : Option Sc} {s' : Sc} (h : RelO o (some s')) : ∃ s, o = some s ∧ RelC s s' := by
 cases o with
 | none => exact h.elim
 | some s => exact ⟨s, rfl, h⟩
section
variable [Av]
end
theorem rdr_out {v : Value} {ps : List Int} {T T' : Fp} (r : RdR EI w v ps) (st : Step T w w' T') (hn : ps ≠ [] → ∀ q, v.ownBlock = some q → ¬ T q) : RdR EI w' v ps := by
 by_cases he : ps = []
 · subst he
   obtain ⟨a, cap, rfl, h1, h2, h3, h4⟩ := r
   exact ⟨a, cap, rfl, h1, h2, h3, fun j u hj => by simp [Enc.flat] at hj⟩
 · refine r.kept fun a u ha hv => ?_
   have hq : a.block < w.heap.size := World.block_lt_of_cell? w a ha
   exact (cell_of_heap (st.block a.block hq (hn he _ hv))).trans ha
section
variable [Av]
end
theorem FD_of {x : Int} {s : Sc} (hs : S x = some s) : FD d mb S s.blk := .inr (.inr ⟨x, s, hs, .inl rfl⟩)
section
variable [Av]
end
theorem ei_at {v : Value} {xs : List Int} (h : RdR EI w v xs) {i : Int} {k : Nat} (e : i = (k : Int)) (hi : k < xs.length) : ∃ a, sliceAt v i 1 = some a ∧ w.cell? a = some (.int .i64 (xs.getD k 0)) := by
 subst e
 obtain ⟨a, h1, h2, _⟩ := h.at (i := (k : Int)) (by omega) (by omega)
 have := h2 0 (by show 0 < 1; omega)
 rw [add_zero] at this
 refine ⟨a, h1, this.trans ?_⟩
 simp [EI, List.getD_eq_getElem?_getD, List.getElem?_eq_getElem hi]
section
variable [Av]
end
theorem crashed_of {Sx : SF} (h : ∀ x, RelO (S x) (Sx x)) (hw : ∀ x s, Sx x = some s → s.ws = []) : Crashed (cont S) (cont Sx) := by
 intro x
 have hx := h x
 unfold cont
 cases h1 : S x with
 | none =>
   rw [h1] at hx
   cases h2 : Sx x with
   | none => trivial
   | some s' => rw [h2] at hx; exact hx.elim
 | some s =>
   rw [h1] at hx
   cases h2 : Sx x with
   | none => rw [h2] at hx; exact hx.elim
   | some s' =>
     rw [h2] at hx
     have e := hw x s' h2
     refine ⟨by simp [e], ?_⟩
     rcases hx.2 with rfl | ⟨_, k1, _⟩
     · exact List.mem_cons_self ..
     · exact k1
section
variable [Av]
theorem Crash_l (h : DL w d mb n D S) (ho : D.off = false) (hn : n ≤ 1000000) {v : Value} {ps : List Int} (hv : RdR EI w v ps) (hx : ps ≠ [] → ∀ q, v.ownBlock = some q → ¬ FD d mb S q) (hpl : ps.length ≤ 1000000) {R : KV}
 (k : ∀ S' w', Step (FD d mb S) w w' (FD d mb S') → DL w' d mb n ⟨D.n, true, 0, D.ps⟩ S' → Crashed (cont S) (cont S') → R (.tuple #[]) w') :
 CW.Spec Tryz.prog 47 #[.pointer (some ⟨d, 0, none⟩), v] w R := by
 apply q21W
 obtain ⟨pv, cl, ob, hp, hi⟩ := h.o
 refine withAddr_some ⟨D.off, by rw [ob.cell]; rfl, cond_f ho (withAddr_some ⟨st1_at ob (by show 2 < 7; omega), nm fun w3 e3 => ?_⟩)⟩
 obtain ⟨b3, t3⟩ := setE ob e3
 refine withAddr_some ⟨st1_at b3 (by show 4 < 7; omega), nm fun w5 e5 => ?_⟩
 obtain ⟨b5, t5⟩ := setE b3 e5
 have h5 : DL w5 d mb n ⟨D.n, true, 0, D.ps⟩ S := h.obj (t3.then t5) (D' := ⟨D.n, true, 0, D.ps⟩) b5 hp hi
 have st5 : Step (FD d mb S) w w5 (FD d mb S) := (t3.then t5).step (.inl rfl)
 refine withAddr_some ⟨false, by rw [b5.cell]; rfl, cond_f rfl (withAddr_some ⟨_, by rw [b5.cell]; rfl, ?_⟩)⟩
 refine sorted_c h5.m hn fun v12 w13 ss g13 r12 n12 hss => ⟨_, r12.len, ?_⟩
 have st13 : Step (FD d mb S) w w13 (FD d mb S) := st5.then (Step.of_grow g13)
 have h13 := h5.grow g13
 have hlt := h5.kind.lt
 have hssl := r12.le
 refine ⟨fun (i : Int) (m : Int) (w18 : World) => ∃ (j : Nat) (Sx : SF), m = (j : Int) ∧ j ≤ ss.length ∧ 0 ≤ i ∧ i ≤ (j : Int) ∧ Step (FD d mb S) w13 w18 (FD d mb S) ∧ DL w18 d mb n ⟨D.n, true, 0, D.ps⟩ Sx ∧ (∀ x, RelO (S x) (Sx x)) ∧ ∀ x ∈ ss.take j, ∀ s, Sx x = some s → s.ws = [],
  fun (_ : Int) (m : Int) (_ : World) => ((ss.length : Int) - m).toNat, ⟨0, S, rfl, by omega, by omega, by omega, Step.refl _ _, h13, fun x => RelO.refl _, fun x hx => by simp at hx⟩, ?_⟩
 dsimp only [allR, mapR2, eqN, ltN]
 rintro mm i m w18 ⟨⟨j, Sx, rfl, hj, hi0, hi1, st18, h18, hrel, hdone⟩, hm⟩
 obtain ⟨pv8, cl8, ob8, _, _⟩ := h18.o
 refine cond_intro (fun hc => ?_) (fun hc => ?_)
 · have hjl : j < ss.length := by simpa using hc
   have r18 := rdr_out r12 st18 (fun _ q hq hf => by have := n12 q hq; have := hlt q hf; omega)
   have p18 := rdr_out (rdr_out hv st13 hx) st18 hx
   have hpm := p18.le
   obtain ⟨a22, ha22, hc22⟩ := ei_at r18 (i := (j : Int)) rfl hjl
   generalize hxj : ss.getD j 0 = x at *
   have hxm : x ∈ ss := by
    rw [← hxj, List.getD_eq_getElem?_getD, List.getElem?_eq_getElem hjl]; exact List.getElem_mem hjl
   have htake : ss.take (j + 1) = ss.take j ++ [x] := by
    rw [List.take_add_one, List.getElem?_eq_getElem hjl, ← hxj, List.getD_eq_getElem?_getD, List.getElem?_eq_getElem hjl]; rfl
   obtain ⟨s0, hs0⟩ : ∃ s0, S x = some s0 := by
    have := (hss x).1 hxm
    unfold ptrF at this
    cases e : S x with
    | none => rw [e] at this; simp at this
    | some s => exact ⟨s, rfl⟩
   obtain ⟨s, hs, hrs⟩ : ∃ s, Sx x = some s ∧ RelC s0 s := by
    have := hrel x
    rw [hs0] at this
    cases e : Sx x with
    | none => rw [e] at this; exact this.elim
    | some s => rw [e] at this; exact ⟨s, rfl, this⟩
   have sx := h18.s x s hs
   have hwl := h18.c x s hs
   have hwf : (Lit.int .i64 x).wf = true := by
    have := h18.m
    obtain ⟨Dm, hown, h2⟩ := this
    have : Maps.has Dm (.int .i64 x) = true := by rw [Mp.has h2]; simp [ptrF, hs]
    have := (mem_intKeys hown x).2 this
    obtain ⟨es, hD, hk⟩ := hown.keysOf
    subst hD
    unfold intKeys at this
    obtain ⟨p, hp, hx'⟩ := List.mem_map.1 this
    obtain ⟨u, hu⟩ := hk p hp
    obtain ⟨y, _, hy, hyw⟩ := Maps.keyOf_int_inv undIn hu
    rw [hy] at hx'
    have : y = x := hx'
    subst this; exact hyw
   have hlk := h18.m.look undIn undMk (z := .pointer none) (by kernel_rfl) (x := x) hwf
   have e : (ptrF Sx x).getD (.pointer none) = .pointer (some ⟨s.blk, 0, none⟩) := by simp [ptrF, hs]
   rw [e] at hlk
   have hblk : FD d mb S s.blk := by rw [hrs.1]; exact FD_of hs0
   have next : ∀ (i' : Int) (w2 : World) (s2 : Sc), 0 ≤ i' → i' ≤ (j : Int) + 1 → Step (FD d mb S) w18 w2 (FD d mb S) → DL w2 d mb n ⟨D.n, true, 0, D.ps⟩ (updS Sx x s2) → RelC s0 s2 → s2.ws = [] →
    (∃ (j' : Nat) (Sx' : SF), IntKind.wrap .i64 ((j : Int) + (1 : Int)) = (j' : Int) ∧ j' ≤ ss.length ∧ 0 ≤ i' ∧ i' ≤ (j' : Int) ∧ Step (FD d mb S) w13 w2 (FD d mb S) ∧ DL w2 d mb n ⟨D.n, true, 0, D.ps⟩ Sx' ∧ (∀ x, RelO (S x) (Sx' x)) ∧ ∀ x ∈ ss.take j', ∀ s, Sx' x = some s → s.ws = []) ∧ ((ss.length : Int) - IntKind.wrap .i64 ((j : Int) + (1 : Int))).toNat < mm := by
    intro i' w2 s2 q0 q1 st2 h2 hr2 hw2
    rw [wi64_id (by omega) (by omega)]
    refine ⟨⟨j + 1, updS Sx x s2, by omega, by omega, q0, by omega, st18.then st2, h2, fun y => ?_, fun y hy t ht => ?_⟩, by omega⟩
    · by_cases ey : y = x
      · subst ey; rw [updS_self, hs0]; exact hr2
      · rw [updS_ne ey]; exact hrel y
    · by_cases ey : y = x
      · subst ey; rw [updS_self] at ht; cases ht; exact hw2
      · rw [updS_ne ey] at ht
        rw [htake, List.mem_append, List.mem_singleton] at hy
        rcases hy with hy | hy
        · exact hdone y hy t ht
        · exact absurd hy ey
   refine JoinP.int (fun i' w2 => 0 ≤ i' ∧ i' ≤ (j : Int) + 1 ∧ ∃ s2, Step (FD d mb S) w18 w2 (FD d mb S) ∧ DL w2 d mb n ⟨D.n, true, 0, D.ps⟩ (updS Sx x s2) ∧ RelC s0 s2 ∧ s2.ws = []) (fun jj hjj => ?_) (fun i' w2 ⟨q0, q1, s2, q2, q3, q4, q5⟩ => next i' w2 s2 q0 q1 q2 q3 q4 q5)
   refine ⟨a22, ha22, x, hc22, withAddr_some ⟨_, by rw [ob8.cell]; rfl, _, hlk, withAddr_some ⟨s.wv, by rw [sx.o.cell]; rfl, _, sx.r.rd.len, ?_⟩⟩⟩
   rw [List.length_map]
   refine cond_intro (fun h0 => ?_) (fun h0 => ?_)
   · have hw0 : s.ws = [] := by simpa using h0
     refine hjj _ _ ⟨hi0, by omega, s, Step.refl _ _, ?_, hrs, hw0⟩
     have : updS Sx x s = Sx := by
      funext y
      by_cases ey : y = x
      · subst ey; rw [updS_self, hs]
      · rw [updS_ne ey]
     rw [this]; exact h18
   · have hw0 : s.ws ≠ [] := by simpa using h0
     have hs00 : s = s0 := by
      rcases hrs.2 with e | e
      · exact e
      · exact absurd e.1 hw0
     subst hs00
     have hwpos : 0 < s.ws.length := List.length_pos_iff.2 hw0
     refine JoinP.int (fun p w2 => 0 ≤ p ∧ p ≤ (s.ws.length : Int) ∧ w2 = w18) (fun j2 hj2 => ?_) ?_
     · refine ⟨_, p18.len, cond_intro (fun hl => ?_) (fun hl => hj2 _ _ ⟨by omega, by omega, rfl⟩)⟩
       have hl' : i < (ps.length : Int) := by simpa using hl
       obtain ⟨a44, ha44, hc44⟩ := ei_at p18 (i := i) (k := i.toNat) (by omega) (by omega)
       rw [wi64_id (n := ((s.ws.length : Nat) : Int) + 1) (by omega) (by omega)]
       refine ⟨a44, ha44, _, hc44, nzK_intro (by omega) ?_⟩
       have t1 := Int.tmod_lt_of_pos (ps.getD i.toNat 0) (b := ((s.ws.length : Nat) : Int) + 1) (by omega)
       have t2 : -(((s.ws.length : Nat) : Int) + 1) < Int.tmod (ps.getD i.toNat 0) (((s.ws.length : Nat) : Int) + 1) := Int.lt_tmod_of_pos _ (by omega)
       generalize Int.tmod (ps.getD i.toNat 0) (((s.ws.length : Nat) : Int) + 1) = r at *
       refine cond_intro (fun hr => ?_) (fun hr => ?_)
       · simp at hr
         rw [wi64_id (by omega) (by omega)]
         exact hj2 _ _ ⟨by omega, by omega, rfl⟩
       · simp at hr
         exact hj2 _ _ ⟨by omega, by omega, rfl⟩
     · rintro p w31 ⟨hp0, hp1, rfl⟩
       refine JoinP.unit (fun w32 => ∃ s1, s1.blk = s.blk ∧ s1.wv = s.wv ∧ s1.ws = s.ws ∧ s1.kb ∈ s.kb :: s.ws.map (·.2) ∧ Step (FD d mb S) w31 w32 (FD d mb S) ∧ DL w32 d mb n ⟨D.n, true, 0, D.ps⟩ (updS Sx x s1)) (fun j3 hj3 => ?_) ?_
       · refine cond_intro (fun hpp => ?_) (fun hpp => ?_)
         · have hp' : 0 < p := by simpa using hpp
           rw [wi64_id (n := p - 1) (by omega) (by omega)]
           have hlt' : (p - 1).toNat < s.ws.length := by omega
           obtain ⟨a38, ha38, hc38⟩ := sx.r.rd.at (i := p - 1) (u := (s.ws[(p - 1).toNat]).1) (by omega) (by rw [List.getElem?_map, List.getElem?_eq_getElem hlt']; rfl)
           have hmem : s.ws[(p - 1).toNat] ∈ s.ws := List.getElem_mem hlt'
           generalize s.ws[(p - 1).toNat] = y at *
           have ry := sx.ws y hmem
           refine withAddr_some ⟨s.wv, by rw [sx.o.cell]; rfl, a38, ha38, y.1, hc38, withAddr_some (oneK_of (Rd.isOne ry.rd) ⟨st1_at sx.o (by show 0 < 2; omega), nm fun w41 e41 => ?_⟩)⟩
           obtain ⟨b41, t41⟩ := setE sx.o e41
           have st41 : Step (fun k => k = s.blk) w31 w41 (fun k => k = s.blk) := t41.step rfl
           have nb := noT_one sx.o (t := tb) (by decide)
           have s1 : ScAt w41 {s with kv := y.1, kb := y.2} := ⟨b41, ry.step st41 nb, sx.r.stepS st41 (fun q hq e => own_neD sx.r sx.o (by decide) (e ▸ hq)), fun z hz => (sx.ws z hz).step st41 nb, sx.wl y hmem, sx.wl⟩
           refine hj3 _ ⟨{s with kv := y.1, kb := y.2}, rfl, rfl, rfl, List.mem_cons_of_mem _ (List.mem_map.2 ⟨y, hmem, rfl⟩), t41.step hblk, h18.upd hs (s' := {s with kv := y.1, kb := y.2}) rfl st41 (fun q hq => .inl hq) s1 (fun q hq => .inl hq) (Nat.le_refl _) hwl⟩
         · refine hj3 _ ⟨s, rfl, rfl, rfl, List.mem_cons_self .., Step.refl _ _, ?_⟩
           have : updS Sx x s = Sx := by
            funext y
            by_cases ey : y = x
            · subst ey; rw [updS_self, hs]
            · rw [updS_ne ey]
           rw [this]; exact h18
       · rintro w32 ⟨s1, k1, k2, k3, k4, st32, h32⟩
         have sx1 := h32.s x s1 updS_self
         rw [← k1]
         refine withAddr_some ⟨st1_at sx1.o (by show 1 < 2; omega), nm fun w34 e34 => ?_⟩
         obtain ⟨b34, t34⟩ := setE sx1.o e34
         have st34 : Step (fun k => k = s1.blk) w32 w34 (fun k => k = s1.blk) := t34.step rfl
         have nb := noT_one sx1.o (t := tb) (by decide)
         have s2 : ScAt w34 {s1 with wv := nilS, ws := []} := ⟨b34, sx1.k.step st34 nb, Own.nil _ _ _, (fun z hz => by cases hz), sx1.kl, (fun z hz => by cases hz)⟩
         have h34 := h32.upd updS_self (s' := {s1 with wv := nilS, ws := []}) rfl st34 (fun q hq => .inl hq) s2 (fun q hq => by cases hq) (Nat.le_refl _) (Nat.zero_le _)
         have eu : updS (updS Sx x s1) x {s1 with wv := nilS, ws := []} = updS Sx x {s1 with wv := nilS, ws := []} := by
          funext y
          by_cases ey : y = x
          · subst ey; rw [updS_self, updS_self]
          · rw [updS_ne ey, updS_ne ey, updS_ne ey]
         rw [eu] at h34
         rw [wi64_id (n := i + 1) (by omega) (by omega)]
         refine hjj _ _ ⟨by omega, by omega, {s1 with wv := nilS, ws := []}, st32.then (t34.step (by rw [k1]; exact hblk)), h34, ⟨k1, .inr ⟨rfl, k4, .inr rfl⟩⟩, rfl⟩
 · have hjl : j = ss.length := by simp at hc; omega
   subst hjl
   have hws : ∀ x s, Sx x = some s → s.ws = [] := fun x s hs => by
    obtain ⟨s0, h0, _⟩ := RelO.some' (o := S x) (s' := s) (by have := hrel x; rw [hs] at this; exact this)
    exact hdone x (by rw [List.take_length]; exact (hss x).2 (by simp [ptrF, h0])) s hs
   refine k Sx w18 ⟨st18.os.trans st13.os, st18.tape.trans st13.tape, st18.output.trans st13.output, Nat.le_trans st13.size st18.size, (st13.then st18).block, fun q hq => .inl ?_⟩ h18 (crashed_of hrel hws)
   rcases hq with e | e | ⟨x, s, hs, e⟩
   · exact .inl e
   · exact .inr (.inl e)
   · obtain ⟨s0, h0, hr0⟩ := RelO.some' (o := S x) (s' := s) (by have := hrel x; rw [hs] at this; exact this)
     refine .inr (.inr ⟨x, s0, h0, ?_⟩)
     rcases e with e | e
     · exact .inl (by rw [e, hr0.1])
     · rcases hr0.2 with rfl | ⟨_, _, e1 | e1⟩
       · exact .inr e
       · exact .inr (e1 ▸ e)
       · rw [e1] at e; cases e
end
end
section
open Go Go.CW Go.RowKit
variable {w w' : World} {d mb n : Nat} {D : Dk} {S : SF}
section
variable [Av]
def decA (a : Int) : Int := if 0 < a then a - 1 else a
theorem call_l (h : DL w d mb n D S) (ho : D.off = false) (hn : n ≤ 1000000) (ha : 0 ≤ D.armed ∧ D.armed ≤ 1000000) (hpl : D.ps.length ≤ 1000000) {R : KV}
 (k1 : D.armed ≠ 1 → ∀ w', Step (FD d mb S) w w' (FD d mb S) → DL w' d mb n ⟨D.n, false, decA D.armed, D.ps⟩ S → R (.int .i64 (0 : Int)) w')
 (k2 : D.armed = 1 → ∀ S' w', Step (FD d mb S) w w' (FD d mb S') → DL w' d mb n ⟨D.n, true, 0, D.ps⟩ S' → Crashed (cont S) (cont S') → R (.int .i64 (8 : Int)) w') :
 CW.Spec Tryz.prog 255 #[.pointer (some ⟨d, 0, none⟩)] w R := by
 apply q27W
 obtain ⟨pv, cl, ob, hp, hi⟩ := h.o
 refine JoinP.unit (fun w0 => D.armed ≠ 1 ∧ Step (FD d mb S) w w0 (FD d mb S) ∧ DL w0 d mb n ⟨D.n, false, decA D.armed, D.ps⟩ S) (fun j hj => ?_) ?_
 · refine withAddr_some ⟨_, by rw [ob.cell]; rfl, cond_intro (fun hc => ?_) (fun hc => ?_)⟩
   · have hc' : 0 < D.armed := by simpa using hc
     refine withAddr_some ⟨_, by rw [ob.cell]; rfl, ?_⟩
     rw [wi64_id (by omega) (by omega)]
     refine withAddr_some ⟨st1_at ob (by show 4 < 7; omega), nm fun w11 e11 => ?_⟩
     obtain ⟨b11, t11⟩ := setE ob e11
     have h11 : DL w11 d mb n ⟨D.n, D.off, D.armed - 1, D.ps⟩ S := h.obj t11 (D' := ⟨D.n, D.off, D.armed - 1, D.ps⟩) b11 hp hi
     have st11 : Step (FD d mb S) w w11 (FD d mb S) := t11.step (.inl rfl)
     refine withAddr_some ⟨_, by rw [b11.cell]; rfl, cond_intro (fun he => ?_) (fun he => ?_)⟩
     · have he' : D.armed = 1 := by simp at he; omega
       refine withAddr_some ⟨pv, by rw [b11.cell]; rfl, ?_⟩
       obtain ⟨pv', cl', ob', hp', hi'⟩ := h11.o
       have e0 : pv' = pv := by
        have := ob'.at 5
        rw [b11.at 5] at this
        simpa using this.symm
       subst e0
       exact Crash_l h11 ho hn hp' (fun _ => hi'.not (h11.kind.noT (by decide) (by decide) (by decide))) hpl fun S' w' st h' hcr => ⟨rfl, k2 he' S' w' (st11.then st) h' hcr⟩
     · have he' : D.armed ≠ 1 := by simp at he; omega
       have e1 : decA D.armed = D.armed - 1 := if_pos hc'
       rw [ho] at h11
       exact hj _ ⟨he', st11, by rw [e1]; exact h11⟩
   · have hc' : ¬ 0 < D.armed := by simpa using hc
     have e1 : decA D.armed = D.armed := if_neg hc'
     refine hj _ ⟨by omega, Step.refl _ _, ?_⟩
     rw [e1, ← ho]; exact h
 · rintro w0 ⟨hne, st0, h0⟩
   obtain ⟨pv0, cl0, ob0, hp0, hi0⟩ := h0.o
   refine withAddr_some ⟨_, by rw [ob0.cell]; rfl, withAddr_some ⟨st1_at ob0 (by show 6 < 7; omega), nm fun w4 e4 => ?_⟩⟩
   obtain ⟨b4, t4⟩ := setE ob0 e4
   exact k1 hne w4 (st0.then (t4.step (.inl rfl))) (h0.obj t4 (D' := ⟨D.n, false, decA D.armed, D.ps⟩) b4 hp0 hi0)
theorem DL.add (h : DL w d mb n D S) {x : Int} (hS : S x = none) {sb : Nat} (hsb : w.heap.size ≤ sb) (g : w.grownBy w' (some mb)) (b : BK w' sb #[nilS, nilS] tSc) (hm : Mp Tryz.prog tIn .i64 w' mb (n + 1) (putM (ptrF S) x (.pointer (some ⟨sb, 0, none⟩)))) :
 DL w' d mb (n + 1) D (updS S x ⟨sb, nilS, [], nilS, []⟩) := by
 have st : Step (fun q => q = mb) w w' (fun q => q = mb) := ⟨g.os, g.tape, g.output, g.size, fun q hq hne => g.block q hq (fun e => hne (by cases e; rfl)), fun q hq => .inl hq⟩
 obtain ⟨es, c, em⟩ := h.m.map
 have nT : ∀ t, NoT t w (fun q => q = mb) := fun t q hq cs fr e => by
  have hq' : q = mb := hq
  subst hq'; rw [em] at e; cases e
 have nB : ∀ {g : Nat} {cs : Array Value} {t : TypeId}, BK w g cs t → g ≠ mb := fun b e => nT _ _ e _ _ b
 obtain ⟨pv, cl, ob, hp, hi⟩ := h.o
 refine ⟨⟨pv, cl, (st.block d ob.lt (nB ob)).trans ob, rdr_step hp hi st (nT _), hi.step st (nT _)⟩, ?_, fun y t ht => ?_, fun y z t u ht hu hyz => ?_, fun y t ht => ?_, h.gi.mono st.size⟩
 · have e : ptrF (updS S x ⟨sb, nilS, [], nilS, []⟩) = putM (ptrF S) x (.pointer (some ⟨sb, 0, none⟩)) := by
    funext y
    unfold ptrF putM updS
    split <;> rfl
   rw [e]; exact hm
 · by_cases e : y = x
   · subst e; rw [updS_self] at ht; cases ht
     exact ⟨b, RdI.nil _, Own.nil _ _ _, (fun z hz => by cases hz), by simp, (fun z hz => by cases hz)⟩
   · rw [updS_ne e] at ht
     have ty := h.s y t ht
     exact ty.step st (nB ty.o) (fun q hq e => (IsT.own ty.r).not (nT _) q hq e) (nT _)
 · by_cases ey : y = x
   · subst ey
     rw [updS_self] at ht; cases ht
     rw [updS_ne (Ne.symm hyz)] at hu
     have := (h.s z u hu).o.lt
     exact ⟨by show sb ≠ u.blk; omega, fun q hq => by cases hq⟩
   · rw [updS_ne ey] at ht
     by_cases ez : z = x
     · subst ez
       rw [updS_self] at hu; cases hu
       have := (h.s y t ht).o.lt
       exact ⟨by show t.blk ≠ sb; omega, fun q hq e => by cases e⟩
     · rw [updS_ne ez] at hu
       exact h.ne y z t u ht hu hyz
 · by_cases e : y = x
   · subst e; rw [updS_self] at ht; cases ht; exact Nat.zero_le _
   · rw [updS_ne e] at ht; have := h.c y t ht; omega
end
theorem wf64 {x : Int} (h0 : 0 ≤ x) (h1 : x < 4294967296) : (Lit.int .i64 x).wf = true := by
 simp [Lit.wf, IntKind.min, IntKind.max, IntKind.bits, IntKind.signed]; omega
section
variable [Av]
theorem Write_l (h : DL w d mb n D S) (ho : D.off = false) (hn : n < 999999) (ha : 0 ≤ D.armed ∧ D.armed ≤ 1000000) (hpl : D.ps.length ≤ 1000000) {x : Int} (h0 : 0 ≤ x) (h1 : x < D.n) (hx : x < 4294967296) {v : Value} {bs : List UInt8} (hv : RdB w v bs)
 (hvF : bs ≠ [] → ∀ q, v.ownBlock = some q → ¬ FD d mb S q) (hl : bs.length ≤ 512) {R : KV}
 (k1 : D.armed ≠ 1 → ∀ S' w', Step (FD d mb S) w w' (FD d mb S') → DL w' d mb (n + 1) ⟨D.n, false, decA D.armed, D.ps⟩ S' → cont S' = wrC (cont S) x bs → R (.int .i64 (0 : Int)) w')
 (k2 : D.armed = 1 → ∀ S' w', Step (FD d mb S) w w' (FD d mb S') → DL w' d mb n ⟨D.n, true, 0, D.ps⟩ S' → Crashed (cont S) (cont S') → R (.int .i64 (8 : Int)) w') :
 CW.Spec Tryz.prog 190 #[.pointer (some ⟨d, 0, none⟩), .int .i64 x, v] w R := by
 apply q26W
 refine state_c h ⟨_, rfl, cond_f (by rw [ho]; rfl) (JoinP.go ?_)⟩
 refine dIn_c h ⟨_, rfl, cond_f (by simp [h0, h1]) ⟨_, RdB.len hv, cond_f (by simp; omega) ?_⟩⟩
 refine call_l h ho (by omega) ha hpl (fun hne w6 st6 h6 => ⟨_, rfl, cond_f rfl ?_⟩) (fun he S' w' st h' hcr => ⟨_, rfl, cond_t rfl (k2 he S' w' st h' hcr)⟩)
 have k1 := k1 hne
 have hv6 : RdB w6 v bs := Rd.stepS hv st6 (fun hne' => hvF (fun e => hne' (by simp [e])))
 have wf := wf64 h0 hx
 refine JoinP.unit (fun w8 => ∃ S1 s, S1 x = some s ∧ Step (FD d mb S) w w8 (FD d mb S1) ∧ DL w8 d mb (n + 1) ⟨D.n, false, decA D.armed, D.ps⟩ S1 ∧ RdB w8 v bs ∧ s.ws.length ≤ n ∧ (∀ y, y ≠ x → S1 y = S y) ∧ (S x = some s ∨ (S x = none ∧ s.kb = [] ∧ s.ws = []))) (fun j hj => ?_) ?_
 · obtain ⟨pv, cl, ob, _, _⟩ := h6.o
   have hlk := h6.m.look undIn undMk (z := .pointer none) (by kernel_rfl) (x := x) wf
   refine withAddr_some ⟨_, by rw [ob.cell]; rfl, ?_⟩
   cases hS : S x with
   | some s =>
     have e : (ptrF S x).getD (.pointer none) = .pointer (some ⟨s.blk, 0, none⟩) := by simp [ptrF, hS]
     rw [e] at hlk
     refine ⟨_, hlk, false, rfl, cond_f rfl (hj _ ⟨S, s, hS, st6, ?_, hv6, h6.c x s hS, fun _ _ => rfl, .inl hS⟩)⟩
     exact ⟨h6.o, h6.m.le (by omega), h6.s, h6.ne, fun y t ht => Nat.le_trans (h6.c y t ht) (by omega), h6.gi⟩
   | none =>
     have e : (ptrF S x).getD (.pointer none) = .pointer none := by simp [ptrF, hS]
     rw [e] at hlk
     refine ⟨_, hlk, true, rfl, cond_t rfl (withAddr_some ⟨_, by rw [ob.cell]; rfl, nm fun w47 e47 => ?_⟩)⟩
     obtain ⟨b47, g47, s47⟩ := alE e47
     have h47 := h6.grow g47
     obtain ⟨w48, hrun, hmp, hg⟩ := h47.m.put undIn undMk (by omega) wf (.pointer (some ⟨w6.heap.size, 0, none⟩))
     have hadd : DL w48 d mb (n + 1) ⟨D.n, false, decA D.armed, D.ps⟩ (updS S x ⟨w6.heap.size, nilS, [], nilS, []⟩) := by
      have g48 : w6.grownBy w48 (some mb) := (g47.by_ (some mb)).trans hg
      refine DL.add h6 hS (Nat.le_refl _) g48 ?_ hmp
      exact (hg.block _ b47.lt (fun e => by cases e; exact absurd h6.m.lt (by omega))).trans b47
     have sg : Step (FD d mb S) w6 w48 (FD d mb (updS S x ⟨w6.heap.size, nilS, [], nilS, []⟩)) := by
      refine ⟨hg.os.trans g47.os, hg.tape.trans g47.tape, hg.output.trans g47.output, Nat.le_trans g47.size hg.size, fun q hq hne' => ?_, fun q hq => ?_⟩
      · refine (hg.block q (Nat.lt_of_lt_of_le hq g47.size) (fun e => hne' (.inr (.inl (by cases e; rfl))))).trans (g47.block q hq)
      · rcases hq with e | e | ⟨y, t, ht, e⟩
        · exact .inl (.inl e)
        · exact .inl (.inr (.inl e))
        · by_cases ey : y = x
          · subst ey; rw [updS_self] at ht; cases ht
            rcases e with e | e
            · exact .inr (by rw [e]; exact Nat.le_refl _)
            · cases e
          · rw [updS_ne ey] at ht
            exact .inl (.inr (.inr ⟨y, t, ht, e⟩))
     refine ⟨w48, hrun, hj _ ⟨_, _, updS_self, st6.then sg, hadd, Rd.stepS hv6 sg (fun hne' => hvF (fun e => hne' (by simp [e]))), Nat.zero_le _, fun y hy => updS_ne hy, .inr ⟨hS, rfl, rfl⟩⟩⟩
 · rintro w8 ⟨S1, s, hs, st8, h8, hv8, hwl, hoth, hold⟩
   have lkM : ∀ {w2 : World}, Mp Tryz.prog tIn .i64 w2 mb (n + 1) (ptrF S1) → Sem.run Tryz.prog (Instr.lookup tMk (.map (some mb)) (.int .i64 x) false) w2 = .ok (.pointer (some ⟨s.blk, 0, none⟩)) w2 := fun hm => by
    have := hm.look undIn undMk (z := .pointer none) (by kernel_rfl) (x := x) wf
    have e : (ptrF S1 x).getD (.pointer none) = .pointer (some ⟨s.blk, 0, none⟩) := by simp [ptrF, hs]
    rw [e] at this; exact this
   refine nm fun w9 e9 => ?_
   have h9 := h8.grow (drE e9)
   obtain ⟨pv, cl, ob9, _, _⟩ := h9.o
   have sx9 := h9.s x s hs
   refine withAddr_some ⟨_, by rw [ob9.cell]; rfl, _, lkM h9.m, withAddr_some ⟨_, by rw [ob9.cell]; rfl, _, lkM h9.m, withAddr_some ⟨s.wv, by rw [sx9.o.cell]; rfl, nm fun w18 e18 => ?_⟩⟩⟩
   have g18 := drE e18
   refine slices_Clone_c (hv8.grow g18) (by omega) fun v19 w20 g20 o20 => ?_
   have h20 := (h8.grow g18).grow g20
   obtain ⟨pv20, cl20, ob20, _, _⟩ := h20.o
   have sx20 := h20.s x s hs
   refine ⟨⟨_, by rw [ob20.cell]; rfl, rfl⟩, ⟨_, lkM h20.m, rfl⟩, ⟨_, by rw [ob20.cell]; rfl, rfl⟩, ⟨_, lkM h20.m, rfl⟩, ⟨_, by rw [sx20.o.cell]; rfl, rfl⟩, oneK_of (Rd.isOne o20.rd) ?_⟩
   obtain ⟨bA, gA, sA⟩ := alE (w := w20) (w' := World.alloc w20 (.cells #[v19] tB)) rfl
   have obA := ob20.grow gA
   have mA := h20.m.grow gA
   have oA := sx20.o.grow gA
   refine ⟨⟨_, by rw [obA.cell]; rfl, rfl⟩, ⟨_, lkM mA, rfl⟩, ⟨_, by rw [obA.cell]; rfl, rfl⟩, ⟨_, lkM mA, rfl⟩, ⟨_, by rw [oA.cell]; rfl, rfl⟩, nm fun w31 e31 => nm fun w32 e32 => ?_⟩
   obtain ⟨b32, g32, s32⟩ := alE e32
   have h32 := h20.grow g32
   have sx32 := h32.s x s hs
   obtain ⟨pv32, cl32, ob32, _, _⟩ := h32.o
   have rN : Rd w32 (.slice (some ⟨w20.heap.size, 0, none⟩) 1 1) [v19] := ⟨some ⟨w20.heap.size, 0, none⟩, 1, rfl, Nat.le_refl _, by simp [maxLen], (fun e => by cases e), fun j u hj => ⟨_, rfl, by rw [b32.cell]; simpa using hj⟩⟩
   obtain ⟨v33, w34, hrun, ho4, hnext⟩ := app_own tyBB sx32.r rN (by
    intro u hu
    simp only [List.mem_singleton] at hu
    subst hu
    obtain ⟨a19, c19, hv19, _⟩ := o20.rd
    rw [hv19]; rfl) (by simp only [List.length_map, List.length_cons, List.length_nil]; omega) (Nat.zero_le _)
   have stA := Step.of_own (S := fun q => s.wv.ownBlock = some q) hnext (fun _ hx => hx)
   have ob34 := ob32.stepS stA (own_neD sx32.r ob32 (by decide))
   have o34 := sx32.o.stepS stA (own_neD sx32.r sx32.o (by decide))
   have nmb : ¬ s.wv.ownBlock = some mb := fun e => by
    obtain ⟨cs, fr, e1⟩ := own_blk sx32.r e
    obtain ⟨es, c, e2⟩ := h32.m.map
    rw [e1] at e2; cases e2
   have m34 := h32.m.at (stA.block mb h32.m.lt nmb)
   have one : isOne v33 = true := Rd.isOne ho4.rd
   refine ⟨v33, w34, hrun, ⟨_, by rw [ob34.cell]; rfl, rfl⟩, ⟨_, lkM m34, rfl⟩, withAddr_some (oneK_of one ⟨st1_at o34 (by show 1 < 2; omega), nm fun w38 e38 => nm fun w39 e39 => ?_⟩)⟩
   obtain ⟨b39, t39⟩ := setE o34 e39
   have stA' : Step (fun q => q = s.blk ∨ s.wv.ownBlock = some q) w32 w34 (fun q => (q = s.blk ∨ s.wv.ownBlock = some q) ∨ v33.ownBlock = some q) :=
    ⟨stA.os, stA.tape, stA.output, stA.size, fun q hq hn' => stA.block q hq (fun e => hn' (.inr e)), fun q hq => by
     rcases hq with e | e
     · exact .inl e
     · rcases stA.fp q (.inr e) with e' | e'
       · exact .inl (.inr e')
       · exact .inr e'⟩
   have st39 := stA'.then (t39.step (S := fun q => (q = s.blk ∨ s.wv.ownBlock = some q) ∨ v33.ownBlock = some q) (.inl (.inl rfl)))
   have nb : NoT tb w32 (fun q => q = s.blk ∨ s.wv.ownBlock = some q) := fun q hq cs fr e => by
    rcases hq with rfl | hq
    · exact noT_one sx32.o (t := tb) (by decide) _ rfl cs fr e
    · obtain ⟨cs', fr', e'⟩ := own_blk sx32.r hq
      rw [e] at e'; injection e' with e'; injection e' with _ e' _
      exact absurd e' (by decide)
   have sc : ScAt w39 {s with wv := v33, ws := s.ws ++ [(v19, bs)]} := by
    refine ⟨b39, sx32.k.step st39 nb, ?_, fun z hz => ?_, sx32.kl, fun z hz => ?_⟩
    · have := Own.turn ho4 t39 (own_neD ho4 o34 (by decide))
      simpa using this
    · rw [List.mem_append, List.mem_singleton] at hz
      rcases hz with hz | rfl
      · exact (sx32.ws z hz).step st39 nb
      · exact ((RdI.own (h8.gi.mono g18.size) o20).grow g32).step st39 nb
    · rw [List.mem_append, List.mem_singleton] at hz
      rcases hz with hz | rfl
      · exact sx32.wl z hz
      · exact hl
   have h39 := h32.upd hs (s' := {s with wv := v33, ws := s.ws ++ [(v19, bs)]}) rfl st39 (fun q hq => hq) sc (fun q hq => stA.fp q (.inr hq)) (Nat.le_refl _) (by simp; omega)
   have stF : Step (FD d mb S1) w32 w39 (FD d mb (updS S1 x {s with wv := v33, ws := s.ws ++ [(v19, bs)]})) := by
    refine ⟨st39.os, st39.tape, st39.output, st39.size, fun q hq hn' => st39.block q hq (fun e => hn' (.inr (.inr ⟨x, s, hs, e⟩))), fun q hq => ?_⟩
    rcases hq with e | e | ⟨y, t, ht, e⟩
    · exact .inl (.inl e)
    · exact .inl (.inr (.inl e))
    · by_cases ey : y = x
      · subst ey; rw [updS_self] at ht; cases ht
        rcases e with e | e
        · exact .inl (.inr (.inr ⟨y, s, hs, .inl e⟩))
        · rcases stA.fp q (.inr e) with e' | e'
          · exact .inl (.inr (.inr ⟨y, s, hs, .inr e'⟩))
          · exact .inr e'
      · rw [updS_ne ey] at ht
        exact .inl (.inr (.inr ⟨y, t, ht, e⟩))
   refine k1 _ w39 ((st8.then (Step.of_grow ((g18.then g20).then g32))).then stF) h39 ?_
   funext y
   unfold wrC
   by_cases ey : y = x
   · subst ey
     rw [if_pos rfl]
     show Option.map _ (updS S1 y _ y) = _
     rw [updS_self]
     rcases hold with e | ⟨e, e1, e2⟩
     · simp [cont, e]
     · simp [cont, e, e1, e2]
   · rw [if_neg ey]
     show Option.map _ (updS S1 x _ y) = _
     rw [updS_ne ey, hoth y ey]; rfl
end
end
section
open Go Go.CW Go.RowKit
variable {w w' : World} {d mb n : Nat} {D : Dk} {S : SF}
section
variable [Av]
def FlO : Option Sc → Option Sc → Bool → Prop
 | none, none, _ => True
 | some s, some s', l => s'.blk = s.blk ∧ if l = true then s' = s else s'.ws = [] ∧ s'.wv = nilS ∧ s'.kb = nowS s
 | _, _, _ => False
theorem Flush_l (h : DL w d mb n D S) (ho : D.off = false) (hn : n ≤ 1000000) (ha : 0 ≤ D.armed ∧ D.armed ≤ 1000000) (hpl : D.ps.length ≤ 1000000) {R : KV}
 (k1 : D.armed ≠ 1 → ∀ S' w', Step (FD d mb S) w w' (FD d mb S') → DL w' d mb n ⟨D.n, false, decA D.armed, D.ps⟩ S' → cont S' = flC (cont S) → R (.int .i64 (0 : Int)) w')
 (k2 : D.armed = 1 → ∀ S' w', Step (FD d mb S) w w' (FD d mb S') → DL w' d mb n ⟨D.n, true, 0, D.ps⟩ S' → Crashed (cont S) (cont S') → R (.int .i64 (8 : Int)) w') :
 CW.Spec Tryz.prog 192 #[.pointer (some ⟨d, 0, none⟩)] w R := by
 apply q22W
 refine state_c h ⟨_, rfl, cond_f (by rw [ho]; rfl) ?_⟩
 refine call_l h ho hn ha hpl (fun hne w4 st4 h4 => ⟨_, rfl, cond_f rfl ?_⟩) (fun he S' w' st h' hcr => ⟨_, rfl, cond_t rfl (k2 he S' w' st h' hcr)⟩)
 have k1 := k1 hne
 obtain ⟨pv, cl, ob4, _, _⟩ := h4.o
 refine withAddr_some ⟨_, by rw [ob4.cell]; rfl, ?_⟩
 obtain ⟨w9, cnt, hrun, mr9, g9, s9, _⟩ := h4.m.range undIn undMk
 refine ⟨_, w9, hrun, ?_⟩
 have h9 := h4.grow g9
 have hlt4 := h4.kind.lt
 generalize hr : w4.heap.size = r at *
 refine ⟨fun (w11 : World) => ∃ (Sx : SF) (left : Int → Bool) (cn : Nat), Mr Tryz.prog tIn .i64 w11 mb r n (ptrF S) left cn ∧ Step (FD d mb S) w4 w11 (FD d mb S) ∧ DL w11 d mb n ⟨D.n, false, decA D.armed, D.ps⟩ Sx ∧ ∀ y, FlO (S y) (Sx y) (left y),
  fun (w11 : World) => w11.rangeLeft mb r, ⟨S, _, cnt, mr9, Step.of_grow g9, h9, fun y => ?_⟩, ?_⟩
 · cases hy : S y with
   | none => trivial
   | some s => exact ⟨rfl, by rw [if_pos (by simp [ptrF, hy])]⟩
 dsimp only [allR, mapR2, eqN, ltN]
 rintro m w11 ⟨⟨Sx, left, cn, mr, st11, h11, hrel⟩, hm⟩
 rw [mr.left_eq] at hm
 have szr : r < w11.heap.size := mr.lt
 have hFx : ∀ q, FD d mb Sx q → FD d mb S q := by
  intro q hq
  rcases hq with e | e | ⟨y, t, ht, e⟩
  · exact .inl e
  · exact .inr (.inl e)
  · have hy := hrel y
    rw [ht] at hy
    cases hs : S y with
    | none => rw [hs] at hy; exact hy.elim
    | some s =>
      rw [hs] at hy
      refine .inr (.inr ⟨y, s, hs, ?_⟩)
      rcases e with e | e
      · exact .inl (by rw [e, hy.1])
      · by_cases hl : left y = true
        · have := hy.2; rw [if_pos hl] at this; subst this; exact .inr e
        · have := hy.2; rw [if_neg hl] at this; rw [this.2.1] at e; cases e
 rcases mr.next undIn 0 with ⟨hall, hrun⟩ | ⟨x, v, w15, cn', hwf, hlx, hfx, hrun, mr15, hcn, hg, hsz, hent⟩
 · refine .inl ⟨w11, hrun, k1 Sx w11 ?_ h11 ?_⟩
   · have stt := st4.then st11
     exact ⟨stt.os, stt.tape, stt.output, stt.size, stt.block, fun q hq => .inl (hFx q hq)⟩
   · funext y
     unfold flC cont
     have hy := hrel y
     cases hs : S y with
     | none =>
       rw [hs] at hy
       cases ht : Sx y with
       | none => rfl
       | some t => rw [ht] at hy; exact hy.elim
     | some s =>
       rw [hs] at hy
       cases ht : Sx y with
       | none => rw [ht] at hy; exact hy.elim
       | some t =>
         rw [ht] at hy
         have := hy.2
         rw [if_neg (by rw [hall y]; decide)] at this
         simp [this.1, this.2.2, nowS]
 · refine .inr ⟨_, _, w15, hrun, .inl ?_⟩
   obtain ⟨s, hs⟩ : ∃ s, S x = some s := by
    unfold ptrF at hfx
    cases e : S x with
    | none => rw [e] at hfx; cases hfx
    | some s => exact ⟨s, rfl⟩
   have hv : v = .pointer (some ⟨s.blk, 0, none⟩) := by
    unfold ptrF at hfx; rw [hs] at hfx; simpa using hfx.symm
   subst hv
   have hsx : Sx x = some s := by
    have := hrel x
    rw [hs] at this
    cases e : Sx x with
    | none => rw [e] at this; exact this.elim
    | some t =>
      rw [e] at this
      have := this.2
      rw [if_pos hlx] at this; rw [this]
   have stI : Step (fun q => q = r) w11 w15 (fun q => q = r) := ⟨hg.os, hg.tape, hg.output, hg.size, fun q hq hne' => hg.block q hq (fun e => hne' (by cases e; rfl)), fun q hq => .inl hq⟩
   obtain ⟨i1, i2, i3, i4, hit⟩ := mr.iter
   have nI : ∀ t, NoT t w11 (fun q => q = r) := fun t q hq cs fr e => by
    have hq' : q = r := hq
    subst hq'; rw [hit] at e; cases e
   have nF : ∀ q, FD d mb S q → q ≠ r := fun q hq e => by have := hlt4 q hq; omega
   have h15 := h11.stable stI (fun q hq e => nF q (hFx q hq) e) (nI _) (nI _)
   have sx15 := h15.s x s hsx
   refine ⟨_, _, hent, now_c sx15 fun v18 r18 l18 => ?_⟩
   refine withAddr_some (oneK_of (Rd.isOne r18.rd) ⟨st1_at sx15.o (by show 0 < 2; omega), nm fun w21 e21 => ?_⟩)
   obtain ⟨b21, t21⟩ := setE sx15.o e21
   refine withAddr_some ⟨st1_at b21 (by show 1 < 2; omega), nm fun w23 e23 => ?_⟩
   obtain ⟨b23, t23⟩ := setE b21 e23
   have tt := t21.then t23
   have stS : Step (fun q => q = s.blk) w15 w23 (fun q => q = s.blk) := tt.step rfl
   have nb := noT_one sx15.o (t := tb) (by decide)
   have sc : ScAt w23 {s with kv := v18, kb := nowS s, wv := nilS, ws := []} := ⟨b23, r18.step stS nb, Own.nil _ _ _, (fun z hz => by cases hz), l18, (fun z hz => by cases hz)⟩
   have h23 := h15.upd hsx (s' := {s with kv := v18, kb := nowS s, wv := nilS, ws := []}) rfl stS (fun q hq => .inl hq) sc (fun q hq => by cases hq) (Nat.le_refl _) (Nat.zero_le _)
   have hblk : FD d mb S s.blk := FD_of hs
   have nbr : s.blk ≠ r := nF _ hblk
   have nbm : mb ≠ s.blk := h15.m.ne sx15.o
   have mr23 := mr15.at (tt.block mb nbm) (tt.block r (Ne.symm nbr))
   refine ⟨⟨_, _, cn', mr23, ?_, h23, fun y => ?_⟩, ?_⟩
   · have e1 : Step (FD d mb S) w4 w15 (FD d mb S) := by
      refine ⟨stI.os.trans st11.os, stI.tape.trans st11.tape, stI.output.trans st11.output, Nat.le_trans st11.size stI.size, fun q hq hne' => ?_, fun q hq => .inl hq⟩
      exact (stI.block q (Nat.lt_of_lt_of_le hq st11.size) (fun e => by omega)).trans (st11.block q hq hne')
     exact e1.then (tt.step hblk)
   · by_cases ey : y = x
     · subst ey
       rw [updS_self, hs]
       refine ⟨rfl, ?_⟩
       rw [if_neg (by simp)]
       exact ⟨rfl, rfl, rfl⟩
     · rw [updS_ne ey]
       have := hrel y
       have e : (left y && !decide (y = x)) = left y := by simp [ey]
       rw [e]; exact this
   · rw [mr23.left_eq]; omega
end
end
end Go.Proofs.YtghineciiljeoaaGreatDoor
