/- Texts of this seat, one behind the other: SnpM, SnpS, SnpI. -/
import Derived.Test.YtghineciiljeoaaGreatDoorQSnpA
import Derived.Test.YtghineciiljeoaaGreatDoorQJnlL
set_option linter.unusedSimpArgs false
set_option linter.unusedVariables false
set_option maxRecDepth 100000
namespace Go.Proofs.YtghineciiljeoaaGreatDoor
section
open Go Go.CW Go.RowKit
theorem has_flip {M : List UInt8} {i : Nat} (hi : i < 8 * M.length) (j : Nat) : has (flipB M i) j = if j = i then !has M i else has M j := by
 unfold has
 rw [flipB_length]
 by_cases hj : j < 8 * M.length
 · rw [decide_eq_true hj, decide_eq_true hi]
   simp only [Bool.true_and]
   unfold bitOf flipB
   by_cases e : j / 8 = i / 8
   · rw [e]
     have hl : i / 8 < M.length := by omega
     rw [List.getD_eq_getElem?_getD, List.getElem?_set_self hl, Option.getD_some, UInt8.toNat_xor, Nat.testBit_xor]
     have e2 : (UInt8.ofNat (2 ^ (i % 8))).toNat = 2 ^ (i % 8) := by
      rw [UInt8.toNat_ofNat']
      apply Nat.mod_eq_of_lt
      have : i % 8 ≤ 7 := by omega
      calc 2 ^ (i % 8) ≤ 2 ^ 7 := Nat.pow_le_pow_right (by omega) this
       _ < 2 ^ 8 := by decide
     rw [e2, Nat.testBit_two_pow]
     by_cases e3 : j = i
     · subst e3; rw [if_pos rfl, decide_eq_true rfl]; simp
     · rw [if_neg e3, decide_eq_false (by omega)]; simp
   · rw [if_neg (fun h => e (by rw [h])), List.getD_eq_getElem?_getD, List.getElem?_set_ne (by omega), List.getD_eq_getElem?_getD]
 · rw [decide_eq_false hj, if_neg (by omega)]
   simp
theorem has_set {M : List UInt8} {i : Nat} (hi : i < 8 * M.length) (s : Bool) (j : Nat) : has (setB M i s) j = if j = i then s else has M j := by
 unfold setB
 cases hb : has M i == s with
 | true =>
   simp only [cond_true]
   by_cases e : j = i
   · subst e; rw [if_pos rfl]; simpa using hb
   · rw [if_neg e]
 | false =>
   simp only [cond_false]
   rw [has_flip hi]
   by_cases e : j = i
   · rw [if_pos e, if_pos e]
     cases h1 : has M i <;> cases s <;> simp_all
   · rw [if_neg e, if_neg e]
theorem has_turn1 {M : List UInt8} {i : Nat} (hi : i < 8 * M.length) (s : Bool) (j : Nat) : has (turnM M i 1 s) j = if j = i then s else has M j := by
 have e : turnM M i 1 s = setB M i s := by
  unfold turnM
  rw [show min 1 (8 * M.length - i) = 1 by omega]
  rfl
 rw [e, has_set hi]
structure PlOk (U : Un) : Prop where
 n : U.N = 32
 ml : U.M.length = 4
 dl : U.D.length = 256
 zer : Zero0 32 U.D U.M
 tb : TOk U.T
 ty : tyOk U
theorem pl_new : PlOk ⟨32, List.replicate (8 * 32) 0, List.replicate ((32 + 7) / 8) 0, newTb⟩ := by
 refine ⟨rfl, rfl, by simp, fun j hj _ => by rw [List.getElem?_replicate, if_pos hj], ⟨rfl, fun k hk => ?_, by decide, .inl ⟨rfl, rfl⟩⟩, .inl rfl⟩
 have := List.eq_of_mem_replicate hk
 omega
theorem PlOk.un {U : Un} (h : PlOk U) : Under U.N U.M := by
 intro i hi
 unfold has
 rw [decide_eq_false (by have := h.ml; have := h.n; omega)]; rfl
theorem PlOk.ok {U : Un} (h : PlOk U) {L : List (Int × Gs)} (hg : ∀ p ∈ L, GsOk p.1 p.2) : UnOk U L := ⟨h.un, by rw [h.n]; exact h.zer, h.tb, hg⟩
theorem rp_good {d : List UInt8} (h : d.length ≤ 1000000) : RpOk (goodR d) := ⟨⟨Int.le_refl _, by show (0 : Int) < 256; omega⟩, ⟨Int.le_refl _, by show (0 : Int) < 256; omega⟩, ⟨Int.le_refl _, by show (0 : Int) < 65536; omega⟩, ⟨Int.le_refl _, by show (0 : Int) < 4294967296; omega⟩, h⟩
theorem rp_of {st key code info : Int} (h1 : 0 ≤ st ∧ st < 256) (h2 : 0 ≤ key ∧ key < 256) (h3 : 0 ≤ code ∧ code < 65536) (h4 : 0 ≤ info ∧ info < 4294967296) : RpOk ⟨st, key, code, [], info⟩ := ⟨h1, h2, h3, h4, Nat.zero_le _⟩
theorem dif_lt {xs ys : List UInt8} {i : Nat} (h : dif xs ys = some i) : i < xs.length := by
 unfold dif at h
 have := List.mem_of_find?_eq_some h
 simpa using this
theorem PlOk.wr {U : Un} (h : PlOk U) {p : Nat} (hp : p < 32) {bs : List UInt8} (hb : bs.length = 8) : PlOk {U with D := layB U.D (8 * p) bs, M := turnM U.M p 1 true} := by
 refine ⟨h.n, by rw [turnM_length]; exact h.ml, by rw [layB_length (by rw [h.dl]; omega)]; exact h.dl, fun j hj hm => ?_, h.tb, h.ty⟩
 have hm' : has (turnM U.M p 1 true) (j / 8) = false := hm
 rw [has_turn1 (by have := h.ml; omega)] at hm'
 show (layB U.D (8 * p) bs)[j]? = some 0
 by_cases e : j / 8 = p
 · rw [if_pos e] at hm'; cases hm'
 · rw [if_neg e] at hm'
   rw [layB_at (by rw [h.dl]; omega), if_neg (by omega)]
   exact h.zer j hj hm'
theorem PlOk.un0 {U : Un} (h : PlOk U) {p : Nat} (hp : p < 32) : PlOk {U with D := layB U.D (8 * p) (List.replicate (8 * 1) 0), M := turnM U.M p 1 false} := by
 refine ⟨h.n, by rw [turnM_length]; exact h.ml, by rw [layB_length (by rw [h.dl]; simp; omega)]; exact h.dl, fun j hj hm => ?_, h.tb, h.ty⟩
 have hm' : has (turnM U.M p 1 false) (j / 8) = false := hm
 rw [has_turn1 (by have := h.ml; omega)] at hm'
 show (layB U.D (8 * p) (List.replicate (8 * 1) 0))[j]? = some 0
 rw [layB_at (by rw [h.dl]; simp; omega)]
 by_cases e : j / 8 = p
 · rw [if_pos (by simp; omega), List.getElem?_replicate, if_pos (by omega)]
 · rw [if_neg (by simp; omega)]
   rw [if_neg e] at hm'
   exact h.zer j hj hm'
theorem PlOk.run {U : Un} (h : PlOk U) {c : Cm} (h1 : c.n = 1) (hp : c.pos < 32) : PlOk (runU U c).2 ∧ RpOk (runU U c).1 := by
 have hpl : (part U.D (c.pos, c.n)).length ≤ 8 := by rw [h1]; simp [part]; omega
 have w5 : RpOk (wrongR 5 9216) := rp_of (by omega) (by omega) (by omega) (by omega)
 unfold runU
 rw [if_neg (by rw [h.n, h1]; omega)]
 split
 · exact ⟨h, rp_good (by omega)⟩
 · split
   · split
     · exact ⟨h, w5⟩
     · next hd =>
       rw [h1] at hd ⊢
       exact ⟨h.wr hp (by omega), rp_good (by simp)⟩
   · split
     · rw [h1]
       exact ⟨h.un0 hp, rp_good (by simp)⟩
     · split
       · exact ⟨h, w5⟩
       · next hd =>
         split
         · next i hi =>
           have := dif_lt hi
           exact ⟨h, rp_of (by omega) (by omega) (by omega) (by omega)⟩
         · rw [h1] at hd ⊢
           exact ⟨h.wr hp (by rw [List.length_drop]; omega), rp_good (by simp)⟩
theorem TOk.reg {T : Tb} (h : TOk T) {i : Nat} (hi : i < 8) {x : Int} (hx : 0 ≤ x ∧ x < 18446744073709551616) : TOk (regT T i x) := by
 have hl := h.len
 have hk : ∀ k ∈ T.keys.set i x, 0 ≤ k ∧ k < 18446744073709551616 := fun k hk => by
  rcases List.mem_or_eq_of_mem_set hk with e | e
  · exact h.keys k e
  · rw [e]; exact hx
 have hg : 0 ≤ IntKind.wrap .u32 (T.gn + 1) ∧ IntKind.wrap .u32 (T.gn + 1) < 4294967296 := by
  simp only [IntKind.wrap, IntKind.signed, IntKind.bits]
  exact ⟨Int.emod_nonneg _ (by decide), Int.emod_lt_of_pos _ (by decide)⟩
 unfold regT
 dsimp only
 split
 · exact ⟨by show (T.keys.set i x).length = 8; rw [List.length_set]; exact hl, hk, hg, .inl ⟨rfl, rfl⟩⟩
 · next hc =>
   refine ⟨by show (T.keys.set i x).length = 8; rw [List.length_set]; exact hl, hk, hg, ?_⟩
   rcases h.hd with e | ⟨j, e1, e2, e3, e4⟩
   · exact .inl e
   · refine .inr ⟨j, e1, e2, ?_, e4⟩
     show (T.keys.set i x).getD j 0 ≠ 0
     rw [List.getD_eq_getElem?_getD]
     by_cases e : j = i
     · subst e
       rw [List.getElem?_set_self (by omega), Option.getD_some]
       exact fun hx0 => hc ⟨hx0, e1⟩
     · rw [List.getElem?_set_ne (by omega), ← List.getD_eq_getElem?_getD]; exact e3
theorem TOk.res {T : Tb} (h : TOk T) {i : Nat} (hi : i < 8) {x : Int} : TOk (resT T i x 1).2 ∧ RpOk ⟨(resT T i x 1).1.1, (resT T i x 1).1.2.1, (resT T i x 1).1.2.2, [], 0⟩ := by
 have c : RpOk ⟨24, 0, 0, [], 0⟩ := rp_of (by omega) (by omega) (by omega) (by omega)
 unfold resT
 split
 · exact ⟨h, c⟩
 · next hm =>
   split
   · exact ⟨h, rp_of (by show (0 : Int) ≤ 2 ∧ (2 : Int) < 256; omega) (by show (0 : Int) ≤ 5 ∧ (5 : Int) < 256; omega) (by show (0 : Int) ≤ 9216 ∧ (9216 : Int) < 65536; omega) (by omega)⟩
   · split
     · refine ⟨⟨h.len, h.keys, h.gn, .inr ⟨i, rfl, hi, ?_, rfl⟩⟩, rp_of (by show (0 : Int) ≤ 0 ∧ (0 : Int) < 256; omega) (by show (0 : Int) ≤ 0 ∧ (0 : Int) < 256; omega) (by show (0 : Int) ≤ 0 ∧ (0 : Int) < 65536; omega) (by omega)⟩
       intro e
       apply hm
       unfold mayB
       have e' : T.keys.getD i 0 = 0 := e
       rw [e']; rfl
     · split
       · exact ⟨h, rp_of (by show (0 : Int) ≤ 0 ∧ (0 : Int) < 256; omega) (by show (0 : Int) ≤ 0 ∧ (0 : Int) < 256; omega) (by show (0 : Int) ≤ 0 ∧ (0 : Int) < 65536; omega) (by omega)⟩
       · exact ⟨h, c⟩
theorem PlOk.act {U : Un} (h : PlOk U) (n a b : UInt8) {i : Nat} (hi : i < 8) : PlOk (actU U i (plainC n a b)).2 ∧ RpOk (actU U i (plainC n a b)).1 := by
 have ha : a.toNat % 32 < 32 := Nat.mod_lt _ (by omega)
 have hb := b.toNat_lt
 refine plainC_cases (P := fun c => PlOk (actU U i c).2 ∧ RpOk (actU U i c).1) n a b (h.run rfl ha) (h.run rfl ha) (h.run rfl ha) (h.run rfl ha) ?_ ?_ ?_
 · have ty := regT_ty U.T i (b.toNat : Int) h.ty
   have hx : 0 ≤ (b.toNat : Int) ∧ (b.toNat : Int) < 18446744073709551616 := ⟨by omega, by omega⟩
   exact ⟨⟨h.n, h.ml, h.dl, h.zer, h.tb.reg hi hx, ty⟩, rp_good (by simp)⟩
 · have ty := resT_ty U.T i (b.toNat : Int) h.ty
   obtain ⟨r1, r2⟩ := h.tb.res hi (x := (b.toNat : Int))
   exact ⟨⟨h.n, h.ml, h.dl, h.zer, r1, ty⟩, r2⟩
 · refine ⟨h, rp_good ?_⟩
   show (Lst.keysB U.T.gn (someK U.T.keys)).length ≤ 1000000
   rw [Lst.keysB_length]; omega
theorem PlOk.do {U : Un} (h : PlOk U) (n a b : UInt8) {i : Nat} (hi : i < 8) : PlOk (doU U i (plainC n a b)).2 ∧ RpOk (doU U i (plainC n a b)).1 := by
 unfold doU
 split
 · exact h.act n a b hi
 · exact ⟨h, rp_of (by omega) (by omega) (by omega) (by omega)⟩
abbrev cRk : Cm := ⟨16, 0, 0, 0, 0, 0, false, []⟩
theorem cRk_ok {U : Un} (hU : tyOk U) (i : Nat) : CmOk U i cRk := by
 have hr : regsB U.T = false := by unfold regsB; rcases hU with h | h <;> rw [h] <;> rfl
 exact ⟨by decide, by decide, by decide, by simp, fun _ _ _ => hr⟩
theorem doU_rk (U : Un) (i : Nat) : (doU U i cRk).2 = U := by
 unfold doU
 split <;> rfl
theorem doU_rd (U : Un) (i : Nat) : (doU U i cRd).2 = U := by
 unfold doU
 split
 · show (runU U cRd).2 = U
   unfold runU
   split
   · rfl
   · rfl
 · rfl
end
section
open Go Go.CW Go.RowKit Go.Crc
theorem fl_wr (C : Hold) (x : Int) (bs : List UInt8) : flC (wrC C x bs) = flC (wrC (flC C) x bs) := by
 funext y
 unfold flC wrC
 dsimp only
 by_cases e : y = x
 · subst e
   rw [if_pos rfl, if_pos rfl]
   generalize C y = o
   cases o <;> simp [nowC]
 · rw [if_neg e, if_neg e]
   generalize C y = o
   cases o <;> simp [nowC]
theorem JC.fl {C : Hold} {m : Int} {v : List UInt8} {T : Int → Option (List UInt8)} (h : JC C m v T) : JC (flC C) m v T := by
 obtain ⟨b, hb, hu⟩ := h.ot
 refine ⟨?_, ⟨b, ?_, hu⟩, fun y a c => ?_⟩
 · unfold flC; rw [h.it]; rfl
 · unfold flC; rw [hb]; rfl
 · unfold flC; rw [h.out y a c]; cases T y <;> rfl
def Tp (T : Int → Option (List UInt8)) (a : Int) (bs : List UInt8) : Nat → Int → Option (List UInt8)
 | 0 => T
 | i + 1 => updT (Tp T a bs i) (a + (i : Int)) ((bs.drop (512 * i)).take 512)
theorem Tp_out (T : Int → Option (List UInt8)) (a : Int) (bs : List UInt8) (x : Int) : ∀ i : Nat, (x < a ∨ a + (i : Int) ≤ x) → Tp T a bs i x = T x
 | 0, _ => rfl
 | i + 1, h => by
   unfold Tp updT
   rw [if_neg (by omega)]
   exact Tp_out T a bs x i (by omega)
theorem Tp_at (T : Int → Option (List UInt8)) (a : Int) (bs : List UInt8) (j : Nat) : ∀ i : Nat, j < i → Tp T a bs i (a + (j : Int)) = some ((bs.drop (512 * j)).take 512)
 | 0, h => absurd h (by omega)
 | i + 1, h => by
   unfold Tp updT
   by_cases e : j = i
   · subst e; rw [if_pos rfl]
   · rw [if_neg (by omega)]
     exact Tp_at T a bs j i (by omega)
variable {w w' : World} {d mb n : Nat} {D : Dk} {S : SF} {s t : Nat} {rp : Option Addr} {h : Hdr} {snap lv tv : Value} {m : Int}
theorem sto_ld (o : BK w s (rSto d t rp h snap lv) tSto) : ldCells w (Addr.add ⟨s, 0, none⟩ 3) 7 (rHd h) := by
 refine ⟨rfl, fun i hi => ?_⟩
 rw [add_add, o.cell]
 have : i = 0 ∨ i = 1 ∨ i = 2 ∨ i = 3 ∨ i = 4 ∨ i = 5 ∨ i = 6 := by omega
 rcases this with rfl | rfl | rfl | rfl | rfl | rfl | rfl <;> rfl
section
variable [Av]
theorem save_cS (o : BK w s (rSto d t rp h snap lv) tSto) (dl : DL w d mb n D S) (ho : D.off = false) (hn : n < 800000) (ha : D.armed = 0) (hpl : D.ps.length ≤ 1000000) (hN : 354 ≤ D.n ∧ D.n < 4294967296) (ok : HdOk h)
 {T : Int → Option (List UInt8)} {v0 : List UInt8} (jc : JC (cont S) m v0 T) {x : Value} {bs : List UInt8} (hx : RdB w x bs) (hxF : ∀ q, x.ownBlock = some q → q < w.heap.size ∧ ¬ FD d mb S q) (hb : bs.length ≤ 24576) {ix : Int} {R : KV}
 (k : ∀ S' n' i w', Step (FD d mb S) w w' (FD d mb S') → n' ≤ n + 100 → bs.length ≤ 512 * i → i ≤ 48 → DL w' d mb n' ⟨D.n, false, 0, D.ps⟩ S' → JC (cont S') m v0 (Tp T (2 + (1 - h.wh) * 48) bs i) →
  R (.tuple #[.agg (rHd {h with wh := 1 - h.wh, base := ix, size := (bs.length : Int)}), .int .i64 (0 : Int)]) w') :
 CW.Spec Tryz.prog 128 #[.pointer (some ⟨s, 0, none⟩), .int .u64 ix, x] w R := by
 apply q114W
 have hwh := ok.wh
 refine nm fun w0 e0 => ?_
 obtain ⟨b0, g0, s0⟩ := alE e0
 refine withAddr_some ⟨_, _, _, _, _, _, _, sto_ld (o.grow g0), nm fun w9 e9 => ?_⟩
 obtain ⟨b9, g9, s9⟩ := alE e9
 refine ⟨b9.row rfl rfl, nm fun w10 e10 => ?_⟩
 obtain ⟨b10, t10⟩ := rowE b9 e10 rfl
 have hxl := hx.len
 refine ⟨h.wh, by rw [b10.cell]; rfl, _, hxl, st1_at b10 (by show 2 < 7; omega), nm fun w13 e13 => ?_⟩
 obtain ⟨b13, t13⟩ := setE b10 e13
 refine ⟨st1_at b13 (by show 3 < 7; omega), nm fun w14 e14 => ?_⟩
 obtain ⟨b14, t14⟩ := setE b13 e14
 refine ⟨st1_at b14 (by show 4 < 7; omega), nm fun w15 e15 => ?_⟩
 obtain ⟨b15, t15⟩ := setE b14 e15
 have cw : IntKind.wrap .i64 ((1 : Int) - h.wh) = 1 - h.wh := wi64_id (by omega) (by omega)
 have bk15 : BK w15 w0.heap.size (rHd {h with wh := 1 - h.wh, base := ix, size := (bs.length : Int)}) tHd := by
  rw [cw] at b15; exact b15
 have t1015 := ((t10.then t13).then t14).then t15
 have g15 : Grow w w15 := Below.turn (g0.then g9) t1015 (by omega)
 have ba15 : BK w15 w.heap.size (rHd ⟨0, 0, 0, 0, 0, 0, 0⟩) tHd := (b0.grow g9).turn t1015 (by omega)
 have z15 : w0.heap.size < w15.heap.size := bk15.lt
 refine ⟨fun (nn : Int) (w' : World) => ∃ (i n' : Nat) (S' : SF), nn = (i : Int) ∧ 512 * i < bs.length + 512 ∧ n' ≤ n + i ∧ Md (FD d mb S) w.heap.size w w' ∧ (∀ q, FD d mb S' q → FD d mb S q ∨ w.heap.size ≤ q) ∧ DL w' d mb n' ⟨D.n, false, 0, D.ps⟩ S' ∧
  JC (flC (cont S')) m v0 (Tp T (2 + (1 - h.wh) * 48) bs i) ∧ BK w' w0.heap.size (rHd {h with wh := 1 - h.wh, base := ix, size := (bs.length : Int)}) tHd ∧ BK w' w.heap.size (rHd ⟨0, 0, 0, 0, 0, 0, 0⟩) tHd,
  fun (nn : Int) (_ : World) => ((100 : Int) - nn).toNat, ⟨0, n, S, rfl, by omega, by omega, (Md.refl _ _ _).grow g15, fun q hq => .inl hq, ?_, jc.fl, bk15, ba15⟩, ?_⟩
 · have := dl.grow g15
   obtain ⟨Dn, Do, Da, Dp⟩ := D
   have h1 : Do = false := ho
   have h2 : Da = 0 := ha
   subst h1 h2
   exact this
 dsimp only [allR, mapR2, eqN, ltN]
 rintro mm nn w18 ⟨⟨i, n', S', rfl, hi, hn', md, hfd, dl', jc', bk, ba⟩, hm⟩
 have z18 := md.size
 have hns : ¬ FD d mb S s := dl.kind.not o (by decide) (by decide) (by decide)
 have o18 : BK w18 s (rSto d t rp h snap lv) tSto := md.bk o o.lt hns
 have c512 : IntKind.wrap .i64 ((i : Int) * 512) = (i : Int) * 512 := wi64_id (by omega) (by omega)
 refine ⟨_, hxl, ?_⟩
 rw [c512]
 refine cond_intro (fun hc => ?_) (fun hc => ?_)
 · have hge : bs.length ≤ 512 * i := by
    have : (i : Int) * 512 ≥ ((bs.length : Nat) : Int) := by simpa using hc
    omega
   refine nm fun w20 e20 => ?_
   have d20 := drE e20
   refine ⟨_, _, _, _, _, _, _, (bk.grow d20).ld rfl, withAddr_some ⟨_, (o18.grow d20).cell 0, nm fun w30 e30 => ?_⟩⟩
   have d30 := drE e30
   refine Flush_l (dl'.grow d30) rfl (by omega) ⟨by show (0 : Int) ≤ 0; omega, by show (0 : Int) ≤ 1000000; omega⟩ hpl (fun _ S2 w32 st32 dl32 c32 => ?_) (fun e => by cases e)
   have dlg := dl'.grow d30
   have bk32 := (bk.grow d30).stepS st32 (dlg.kind.not (bk.grow d30) (by decide) (by decide) (by decide))
   have ba32 := (ba.grow d30).stepS st32 (dlg.kind.not (ba.grow d30) (by decide) (by decide) (by decide))
   refine ⟨_, rfl, ⟨_, _, _, _, _, _, _, bk32.ld rfl, rfl⟩, ba32.row rfl rfl, nm fun w41 e41 => nm fun w42 e42 => ?_⟩
   obtain ⟨b42, t42⟩ := rowE ba32 e42 rfl
   refine ⟨_, _, _, _, _, _, _, b42.ld rfl, ?_⟩
   have hfd2 : ∀ q, FD d mb S2 q → FD d mb S q ∨ w.heap.size ≤ q := fun q hq => by
    rcases st32.fp q hq with e | e
    · exact hfd q e
    · exact .inr (by have := d30.size; omega)
   have md32 : Md (FD d mb S) w.heap.size w w32 := (md.grow d30).stp st32 hfd (fun q hq => .inl (hfd2 q hq))
   have md42 := md32.turn t42 (.inr (Nat.le_refl _))
   have st42 := t42.step (S := fun q => q = w.heap.size) rfl
   have dl42 : DL w42 d mb n' ⟨D.n, false, 0, D.ps⟩ S2 := by
    refine dl32.stable st42 (fun q hq e => ?_) (noT_one ba32 (by decide)) (noT_one ba32 (by decide))
    exact dl32.kind.not ba32 (by decide) (by decide) (by decide) (e ▸ hq)
   refine k S2 n' i w42 ?_ (by omega) hge (by omega) dl42 (by rw [c32]; exact jc')
   have mo := md42.out
   exact ⟨mo.os, mo.tape, mo.output, mo.size, mo.block, hfd2⟩
 · have hlt : 512 * i < bs.length := by
    have : ¬ (i : Int) * 512 ≥ ((bs.length : Nat) : Int) := by simpa using hc
    omega
   refine nm fun w50 e50 => ?_
   have d50 := drE e50
   have c2 : IntKind.wrap .i64 ((i : Int) * 512 + 512) = (i : Int) * 512 + 512 := wi64_id (by omega) (by omega)
   have c3 : IntKind.wrap .i64 ((1 - h.wh) * 48) = (1 - h.wh) * 48 := wi64_id (by omega) (by omega)
   have c4 : IntKind.wrap .i64 (2 + (1 - h.wh) * 48) = 2 + (1 - h.wh) * 48 := wi64_id (by omega) (by omega)
   have c5 : IntKind.wrap .i64 (2 + (1 - h.wh) * 48 + (i : Int)) = 2 + (1 - h.wh) * 48 + (i : Int) := wi64_id (by omega) (by omega)
   rw [c2]
   have hx18 : RdB w18 x bs := Rd.stepS hx md (fun _ q hq hh => by
    obtain ⟨p1, p2⟩ := hxF q hq
    rcases hh with e | e
    · exact p2 e
    · omega)
   obtain ⟨v', hv1, hv2, hv3⟩ := Rd.sub hx18 (lo := some (.int .i64 ((i : Int) * 512))) (hi := some (.int .i64 (if ((bs.length : Nat) : Int) < (i : Int) * 512 + 512 then ((bs.length : Nat) : Int) else (i : Int) * 512 + 512))) (l := 512 * i) (r := min bs.length (512 * i + 512)) (fun cap hc => by
    rw [List.length_map] at hc
    rw [bounds_ii (by omega) (by split <;> omega) (by split <;> omega)]
    congr 2
    · omega
    · congr 1
      split <;> omega) (by omega) (by rw [List.length_map]; omega)
   have hv2' : RdB w18 v' ((bs.drop (512 * i)).take 512) := by
    have e : ((bs.map b8).drop (512 * i)).take (min bs.length (512 * i + 512) - 512 * i) = ((bs.drop (512 * i)).take 512).map b8 := by
     rw [List.map_take, List.map_drop]
     by_cases hh : bs.length ≤ 512 * i + 512
     · rw [Nat.min_eq_left hh, List.take_of_length_le (by simp), List.take_of_length_le (by simp; omega)]
     · rw [Nat.min_eq_right (by omega)]
       congr 1
       omega
    rw [e] at hv2; exact hv2
   refine withAddr_some ⟨_, (o18.grow d50).cell 0, 1 - h.wh, by rw [(bk.grow d50).cell]; rfl, _, hxl, v', hv1, nm fun w56 e56 => ?_⟩
   have d56 := drE e56
   rw [c3, c4, c5]
   refine Write_l (dl'.grow d56) rfl (by omega) ⟨by show (0 : Int) ≤ 0; omega, by show (0 : Int) ≤ 1000000; omega⟩ hpl (by omega) (by show 2 + (1 - h.wh) * 48 + (i : Int) < D.n; omega) (by omega) (Rd.grow hv2' d56) (fun _ q hq hf => ?_) (by rw [List.length_take]; omega)
    (fun _ S2 w58 st58 dl58 c58 => ?_) (fun e => by cases e)
   · rw [hv3] at hq
     obtain ⟨p1, p2⟩ := hxF q hq
     rcases hfd q hf with e | e
     · exact p2 e
     · omega
   have dlg := dl'.grow d56
   have bk58 := (bk.grow d56).stepS st58 (dlg.kind.not (bk.grow d56) (by decide) (by decide) (by decide))
   have ba58 := (ba.grow d56).stepS st58 (dlg.kind.not (ba.grow d56) (by decide) (by decide) (by decide))
   have hfd2 : ∀ q, FD d mb S2 q → FD d mb S q ∨ w.heap.size ≤ q := fun q hq => by
    rcases st58.fp q hq with e | e
    · exact hfd q e
    · exact .inr (by have := d56.size; omega)
   refine ⟨_, rfl, cond_f rfl ?_⟩
   rw [wi64_id (by omega) (by omega)]
   refine ⟨⟨i + 1, n' + 1, S2, by omega, by omega, by omega, (md.grow d56).stp st58 hfd (fun q hq => .inl (hfd2 q hq)), hfd2, dl58, ?_, bk58, ba58⟩, by omega⟩
   rw [c58, fl_wr]
   exact jc'.wr (by omega)
end
end
section
open Go Go.CW Go.RowKit Go.Crc
variable [Av] {w w' : World} {d mb n : Nat} {D : Dk} {S : SF} {s t r : Nat} {h : Hdr} {snap lv tv rv : Value} {m : Int} {es : List (List UInt8)}
def hIn (h : Hdr) (ep ix : Int) (len : Nat) : Hdr := ⟨ep, h.life + 1, 1 - h.wh, ix, (len : Int), (h.life + 1) * 4294967296, 0⟩
theorem Install_cS (sj : SJ w d mb n D S s t r m h tv snap lv rv es) (ho : D.off = false) (hn : n < 700000) (ha : D.armed = 0) (hpl : D.ps.length ≤ 1000000) (hN : 354 ≤ D.n ∧ D.n < 4294967296) (ok : HdOk h) (hm : 1 ≤ m ∧ m < 900000000) (hlf : h.life < 1000000000)
 {T : Int → Option (List UInt8)} (jc : JC (cont S) m (hdB h) T) (hT : ∀ x, 98 ≤ x → T x = none) {x : Value} {bs : List UInt8} (hx : RdB w x bs) (hxF : ∀ q, x.ownBlock = some q → q < w.heap.size ∧ ¬ FD d mb S q ∧ q ≠ s ∧ q ≠ t) (hb : bs.length ≤ 24576)
 {ep ix : Int} (hep : h.ep ≤ ep ∧ ep < 18446744073709551616) (hix : 0 ≤ ix ∧ ix < 1000000) {R : KV}
 (k : ∀ S' n' i w', Step (fun q => q = s ∨ FT t d mb S q) w w' (fun q => q = s ∨ FT t d mb S' q) → n' ≤ n + 200 → bs.length ≤ 512 * i → i ≤ 48 → DL w' d mb n' ⟨D.n, false, 0, D.ps⟩ S' → JC (cont S') (m + 1) (hdB (hIn h ep ix bs.length)) (Tp T (2 + (1 - h.wh) * 48) bs i) → R (.int .i64 (0 : Int)) w') :
 CW.Spec Tryz.prog 50 #[.pointer (some ⟨s, 0, none⟩), .int .u64 ep, .int .u64 ix, x] w R := by
 obtain ⟨dl, tw, o, _, _⟩ := sj
 apply q109W
 have hwh := ok.wh
 have hli := ok.life
 have hep0 := ok.ep
 have hxl := hx.len
 refine withAddr_some ⟨h.ep, by rw [add_add, o.cell]; rfl, cond_f (by simp; omega) ⟨_, hxl, cond_f (by simp; omega) ?_⟩⟩
 refine save_cS o dl ho (by omega) ha hpl hN ok jc hx (fun q hq => ⟨(hxF q hq).1, (hxF q hq).2.1⟩) hb fun S1 n1 i w4 st4 hn1 hle hi dl4 jc4 => ?_
 refine ⟨_, _, _, _, _, _, _, _, rfl, nm fun w13 e13 => ?_⟩
 obtain ⟨b13, g13, s13⟩ := alE e13
 refine ⟨b13.row rfl rfl, nm fun w14 e14 => cond_f rfl ?_⟩
 obtain ⟨b14, t14⟩ := rowE b13 e14 rfl
 refine ⟨h.life, by rw [b14.cell]; rfl, st1_at b14 (by show 0 < 7; omega), nm fun w16 e16 => ?_⟩
 obtain ⟨b16, t16⟩ := setE b14 e16
 refine ⟨st1_at b16 (by show 1 < 7; omega), nm fun w17 e17 => ?_⟩
 rw [w32_id (n := h.life + 1) (by omega) (by omega)] at e17
 obtain ⟨b17, t17⟩ := setE b16 e17
 refine ⟨h.life + 1, by rw [b17.cell]; rfl, ?_⟩
 apply q115W
 have c1 : IntKind.wrap .u64 (IntKind.wrap .u64 (h.life + 1) * 4294967296) = (h.life + 1) * 4294967296 := by
  rw [w64_id (n := h.life + 1) (by omega) (by omega), w64_id (by omega) (by omega)]
 refine ⟨_, rfl, ?_⟩
 rw [c1]
 refine ⟨st1_at b17 (by show 5 < 7; omega), nm fun w22 e22 => ?_⟩
 obtain ⟨b22, t22⟩ := setE b17 e22
 refine ⟨st1_at b22 (by show 6 < 7; omega), nm fun w23 e23 => ?_⟩
 obtain ⟨b23, t23⟩ := setE b22 e23
 have bk23 : BK w23 w4.heap.size (rHd (hIn h ep ix bs.length)) tHd := b23
 have tt := (((t14.then t16).then t17).then t22).then t23
 have g23 : Grow w4 w23 := Below.turn g13 tt (Nat.le_refl _)
 refine ⟨_, _, _, _, _, _, _, bk23.ld rfl, ?_⟩
 have hns : ¬ FT t d mb S s := sto_not o dl tw
 have hnt : ¬ FD d mb S t := dl.kind.not tw.o (by decide) (by decide) (by decide)
 have hnsD : ¬ FD d mb S s := fun e => hns (.inr e)
 have o4 := o.stepS st4 hnsD
 have tw4 := tw.step st4 hnt (dl.kind.noT (by decide) (by decide) (by decide))
 have ok' : HdOk (hIn h ep ix bs.length) := ⟨⟨by show 0 ≤ ep; omega, hep.2⟩, ⟨by show 0 ≤ h.life + 1; omega, by show h.life + 1 < 4294967296; omega⟩, ⟨by show 0 ≤ 1 - h.wh; omega, by show 1 - h.wh ≤ 1; omega⟩, ⟨hix.1, by show ix < 18446744073709551616; omega⟩,
  ⟨by show (0 : Int) ≤ (bs.length : Int); omega, by show (bs.length : Int) ≤ 24576; omega⟩, ⟨by show 0 ≤ (h.life + 1) * 4294967296; omega, by show (h.life + 1) * 4294967296 < 18446744073709551616; omega⟩, ⟨by show (0 : Int) ≤ 0; omega, by show (0 : Int) < 65536; omega⟩⟩
 refine put_cJ (o4.grow g23) (dl4.grow g23) (tw4.grow g23) rfl (by omega) rfl hpl hN (by omega) ok' fun S2 tv2 w32 st32 dl32 c32 tw32 o32 => ⟨_, rfl, cond_f rfl ?_⟩
 have jc32 : JC (cont S2) (m + 1) (hdB (hIn h ep ix bs.length)) (Tp T (2 + (1 - h.wh) * 48) bs i) := by
  rw [c32]; exact jc4.put (by rw [hdB_len]; omega) hm.1 (by omega)
 have fp4 : ∀ q, FD d mb S1 q → FD d mb S q ∨ w.heap.size ≤ q := fun q hq => by
  rcases st4.fp q hq with e | e
  · exact .inl e
  · exact .inr e
 have z4 := st4.size
 have z23 := g23.size
 have md4 : Md (fun q => q = s ∨ FT t d mb S q) w.heap.size w w4 := (Md.refl _ _ _).stp st4 (fun q hq => .inl (.inr (.inr hq))) (fun q hq => .inl (by
  rcases fp4 q hq with e | e
  · exact .inl (.inr (.inr e))
  · exact .inr e))
 have inF : ∀ q, (q = s ∨ FT t d mb S1 q) → (q = s ∨ FT t d mb S q) ∨ w.heap.size ≤ q := fun q hq => by
  rcases hq with e | e | e
  · exact .inl (.inl e)
  · exact .inl (.inr (.inl e))
  · rcases fp4 q e with e' | e'
    · exact .inl (.inr (.inr e'))
    · exact .inr e'
 have fp32 : ∀ q, (q = s ∨ FT t d mb S2 q) → (q = s ∨ FT t d mb S q) ∨ w.heap.size ≤ q := fun q hq => by
  rcases st32.fp q hq with e | e
  · exact inF q e
  · exact .inr (by omega)
 have md32 := (md4.grow g23).stp st32 inF (fun q hq => .inl (fp32 q hq))
 have hx32 : RdB w32 x bs := Rd.stepS hx md32 (fun _ q hq hh => by
  obtain ⟨p1, p2, p3, p4⟩ := hxF q hq
  rcases hh with (e | e | e) | e
  · exact p3 e
  · exact p4 e
  · exact p2 e
  · omega)
 refine slices_Clone_c hx32 (by omega) fun v34 w35 g35 o34 => ?_
 refine withAddr_some (oneK_of (Rd.isOne o34.rd) ⟨st1_at (o32.grow g35) (by show 10 < 12; omega), nm fun w37 e37 => ?_⟩)
 obtain ⟨b37, t37⟩ := setE (o32.grow g35) e37
 have st37 := t37.step (S := fun q => q = s) rfl
 have nT : ∀ ty, ty ≠ tSto → NoT ty w35 (fun q => q = s) := fun ty hne => noT_one (o32.grow g35) hne
 have dlg := dl32.grow g35
 have hns2 : ¬ FD d mb S2 s := dlg.kind.not (o32.grow g35) (by decide) (by decide) (by decide)
 have dl37 := dlg.stable st37 (fun q hq e => hns2 (e ▸ hq)) (nT _ (by decide)) (nT _ (by decide))
 have o37 : BK w37 s (rSto d t (some ⟨r, 0, none⟩) (hIn h ep ix bs.length) v34 lv) tSto := b37
 have hrj : RJ (Tp T (2 + (1 - h.wh) * 48) bs i) (hIn h ep ix bs.length).fst (hIn h ep ix bs.length).life [] :=
  ⟨fun j h => by simp at h, fun j _ _ => by rw [Tp_out _ _ _ _ _ (.inr (by omega))]; exact hT _ (by omega), fun i j hi => by simp at hi, fun j h => by simp at h, fun j h => by simp at h⟩
 refine journal_cS (es := []) (rs := []) o37 dl37 rfl hN ok' rfl (by show (h.life + 1) * 4294967296 < 4611686018427387904; omega) (by show ix < 1000000; omega) hrj (by simp) (fun x hx => jc32.rd hx) rfl (fun j h1 => by simp at h1) fun r' rv' lv' w39 st39 o39 _ _ _ _ => ⟨_, rfl, ?_⟩
 have nT' : ∀ ty, ty ≠ tSto → NoT ty w37 (fun q => q = s) := fun ty hne => noT_one o37 hne
 have dl39 := dl37.stable st39 (fun q hq e => hns2 (e ▸ hq)) (nT' _ (by decide)) (nT' _ (by decide))
 have md39 := ((md32.grow g35).turn t37 (.inl (.inl rfl))).stp st39 (fun q hq => .inl (.inl hq)) (fun q hq => .inl (.inl (.inl hq)))
 have mo := md39.out
 exact k S2 (n1 + 1) i w39 ⟨mo.os, mo.tape, mo.output, mo.size, mo.block, fp32⟩ (by omega) hle hi dl39 jc32
end
end Go.Proofs.YtghineciiljeoaaGreatDoor
