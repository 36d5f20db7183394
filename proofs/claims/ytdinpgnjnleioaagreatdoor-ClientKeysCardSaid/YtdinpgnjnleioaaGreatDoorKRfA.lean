/- Texts of this seat, one behind the other: RfM, RfP, RfT, RfS, RfK, RfU, RfV. -/
import Derived.Test.YtdinpgnjnleioaaGreatDoorKPipA
set_option linter.unusedSimpArgs false
set_option linter.unusedVariables false
set_option maxRecDepth 100000
section
namespace Go.Proofs.YtdinpgnjnleioaaGreatDoor.Rf
open Go Go.CW Go.RowKit Go.Proofs.YtdinpgnjnleioaaGreatDoor
open Go.Proofs.YtdinpgnjnleioaaGreatDoor.Ses (Cm Rp m32)
structure Ru where
 b : List UInt8
 keys : List Int
 holder : Int
 typ : Int
 gen : Int
def hostL (n : List UInt8) : Nat := n.length % 8
def allowsR (u : Ru) (h : Nat) (k : Int) : Bool :=
 if u.holder < 0 ∨ u.holder = (h : Int) then true
 else if 5 ≤ u.typ ∧ u.keys.getD h 0 ≠ 0 then true
 else if k = 1 ∨ k = 2 then decide (u.typ = 1 ∨ u.typ = 5)
 else if k = 3 ∨ k = 4 ∨ k = 5 ∨ k = 6 then false
 else true
def listR (u : Ru) : List Int := u.keys.filter fun k => decide (k ≠ 0)
def good : Rp := ⟨0, 0, 0, [], 0⟩
def conf : Rp := ⟨24, 0, 0, [], 0⟩
def isT (t : Int) : Bool := decide (t = 1 ∨ t = 3 ∨ t = 5 ∨ t = 6)
def stepH (u : Ru) (h : Nat) (c : Cm) : Rp × Ru :=
 if allowsR u (h) c.kind = false then (conf, u)
 else if c.kind = 2 then ({good with d := (u.b.drop (c.pos * 8)).take (c.n * 8)}, u)
 else if c.kind = 3 then (good, {u with b := u.b.take (c.pos * 8) ++ c.d ++ u.b.drop (c.pos * 8 + c.d.length)})
 else if c.kind = 10 then (if u.keys.getD (h) 0 = c.key then (good, {u with keys := u.keys.set (h) c.new, gen := m32 (u.gen + 1)}) else (conf, u))
 else if c.kind = 12 then
  (if u.keys.getD (h) 0 = 0 ∨ u.keys.getD (h) 0 ≠ c.key then (conf, u)
   else if u.holder < 0 then (good, {u with holder := (h : Int), typ := c.typ})
   else if u.holder ≠ (h : Int) ∨ u.typ ≠ c.typ then (conf, u)
   else (good, u))
 else ({good with d := Lst.keysB u.gen (listR u)}, u)
def stepR (u : Ru) (n : List UInt8) (c : Cm) : Rp × Ru := stepH u (hostL n) c
def OkR (u : Ru) (n : List UInt8) (c : Cm) : Prop :=
 ((c.kind = 2 ∧ c.n ≤ 32 ∧ c.pos + c.n ≤ 64) ∨ (c.kind = 3 ∧ c.n ≤ 32 ∧ c.pos + c.n ≤ 64 ∧ c.d.length = c.n * 8) ∨ (c.kind = 10 ∧ 0 < c.new ∧ c.new < 18446744073709551616 ∧ 0 ≤ c.key ∧ c.key < 18446744073709551616) ∨
  (c.kind = 12 ∧ isT c.typ = true ∧ 0 ≤ c.key ∧ c.key < 18446744073709551616) ∨ c.kind = 16) ∧ n.length ≤ 1000000
structure Fine (u : Ru) : Prop where
 b : u.b.length = 512
 keys : u.keys.length = 8
 k : ∀ k ∈ u.keys, 0 ≤ k ∧ k < 18446744073709551616
 holder : -1 ≤ u.holder ∧ u.holder < 8
 typ : 0 ≤ u.typ ∧ u.typ ≤ 6
 gen : 0 ≤ u.gen ∧ u.gen < 4294967296
def u0 : Ru := ⟨List.replicate 512 0, List.replicate 8 0, -1, 0, 0⟩
theorem fine0 : Fine u0 := ⟨by simp [u0], by simp [u0], by simp [u0], by simp [u0], by simp [u0], by simp [u0]⟩
theorem step_fine {u : Ru} {n : List UInt8} {c : Cm} (h : Fine u) (ho : OkR u n c) : Fine (stepR u n c).2 := by
 unfold stepR stepH
 split
 · exact h
 split
 · exact h
 split
 · next h3 =>
   obtain ⟨h1 | ⟨_, q1, q2, q3⟩ | h1 | h1 | h1, _⟩ := ho
   · omega
   · have := h.b
     refine ⟨?_, h.keys, h.k, h.holder, h.typ, h.gen⟩
     show (u.b.take (c.pos * 8) ++ c.d ++ u.b.drop (c.pos * 8 + c.d.length)).length = 512
     simp only [List.length_append, List.length_take, List.length_drop]; omega
   · omega
   · omega
   · omega
 split
 · next h10 =>
   obtain ⟨h1 | h1 | ⟨_, q1, q2, q3, q4⟩ | h1 | h1, _⟩ := ho
   · omega
   · omega
   · split
     · refine ⟨h.b, by show (u.keys.set _ _).length = 8; rw [List.length_set]; exact h.keys, fun k hk => ?_, h.holder, h.typ, ?_⟩
       · rcases List.mem_or_eq_of_mem_set hk with hk | rfl
         · exact h.k k hk
         · exact ⟨by omega, q2⟩
       · show 0 ≤ m32 (u.gen + 1) ∧ m32 (u.gen + 1) < 4294967296
         have : m32 (u.gen + 1) = (u.gen + 1) % 4294967296 := w32 _
         omega
     · exact h
   · omega
   · omega
 split
 · next h12 =>
   obtain ⟨h1 | h1 | h1 | ⟨_, q1, _⟩ | h1, _⟩ := ho
   · omega
   · omega
   · omega
   · have ht : c.typ = 1 ∨ c.typ = 3 ∨ c.typ = 5 ∨ c.typ = 6 := by simpa [isT] using q1
     split
     · exact h
     split
     · refine ⟨h.b, h.keys, h.k, ?_, ?_, h.gen⟩
       · show -1 ≤ (hostL n : Int) ∧ (hostL n : Int) < 8
         unfold hostL; omega
       · show 0 ≤ c.typ ∧ c.typ ≤ 6
         omega
     split
     · exact h
     · exact h
   · omega
 · exact h
abbrev iqA : List UInt8 := [105, 113, 110, 46, 97]
abbrev iqB : List UInt8 := [105, 113, 110, 46, 98, 99]
def uK (key : Int) : Ru := {u0 with keys := [0, 0, 0, 0, 0, key, 0, 0], gen := 1}
def uH (key y : Int) : Ru := {uK key with holder := 5, typ := y}
theorem reg_a (key : Int) : stepR u0 iqA ⟨10, 0, 0, 0, key, 0, false, []⟩ = (good, uK key) := by
 unfold stepR stepH
 rw [if_neg (show ¬ allowsR u0 (hostL iqA) 10 = false by decide), if_neg (show ¬ (10 : Int) = 2 by decide), if_neg (show ¬ (10 : Int) = 3 by decide), if_pos rfl, if_pos (show u0.keys.getD (hostL iqA) 0 = 0 by decide)]
 rfl
theorem res_a {key y : Int} (hk : key ≠ 0) : stepR (uK key) iqA ⟨12, 0, 0, key, 0, y, false, []⟩ = (good, uH key y) := by
 unfold stepR stepH
 have e : (uK key).keys.getD (hostL iqA) 0 = key := rfl
 have a : allowsR (uK key) (hostL iqA) 12 = true := rfl
 rw [if_neg (by show ¬ allowsR (uK key) (hostL iqA) 12 = false; rw [a]; simp), if_neg (by show ¬ (12 : Int) = 2; decide), if_neg (by show ¬ (12 : Int) = 3; decide), if_neg (by show ¬ (12 : Int) = 10; decide), if_pos rfl, e, if_neg (by simp [hk]), if_pos (by show (-1 : Int) < 0; decide)]
 rfl
theorem keys_a {key y : Int} (hk : key ≠ 0) : stepR (uH key y) iqA ⟨16, 0, 0, 0, 0, 0, false, []⟩ = ({good with d := Lst.keysB 1 [key]}, uH key y) := by
 unfold stepR stepH
 have a : allowsR (uH key y) (hostL iqA) 16 = true := by
  unfold allowsR
  exact if_pos (.inr rfl)
 have l : listR (uH key y) = [key] := by
  show List.filter (fun k => decide (k ≠ 0)) [(0 : Int), 0, 0, 0, 0, key, 0, 0] = [key]
  simp [hk]
 rw [if_neg (by show ¬ allowsR (uH key y) (hostL iqA) 16 = false; rw [a]; simp), if_neg (by show ¬ (16 : Int) = 2; decide), if_neg (by show ¬ (16 : Int) = 3; decide), if_neg (by show ¬ (16 : Int) = 10; decide), if_neg (by show ¬ (16 : Int) = 12; decide), l]
 rfl
theorem write_b {key y : Int} {d : List UInt8} : (stepR (uH key y) iqB ⟨3, 0, 1, 0, 0, 0, false, d⟩) = (conf, uH key y) := by
 unfold stepR stepH
 have a : allowsR (uH key y) (hostL iqB) 3 = false := by
  unfold allowsR
  rw [if_neg (by show ¬ ((5 : Int) < 0 ∨ (5 : Int) = 6); decide), if_neg (by show ¬ (5 ≤ y ∧ (0 : Int) ≠ 0); simp)]
  rfl
 exact if_pos a
theorem read_0 {pos n : Nat} : stepR u0 iqA ⟨2, pos, n, 0, 0, 0, false, []⟩ = ({good with d := (u0.b.drop (pos * 8)).take (n * 8)}, u0) := by
 unfold stepR stepH
 rw [if_neg (show ¬ allowsR u0 (hostL iqA) 2 = false by decide), if_pos rfl]
end Go.Proofs.YtdinpgnjnleioaaGreatDoor.Rf
end
section
namespace Go.Proofs.YtdinpgnjnleioaaGreatDoor.Rf
open Go Go.CW Go.RowKit
theorem gemelref1_Put_c {w : World} {B : Nat} {v : Value} {bs : List UInt8} {x n : Int} {R : KV} (hr : OwnB w B tb v bs) (hB : B ≤ w.heap.size) (hb : bs.length ≤ 1000000000000)
 (k : ∀ v' w', OwnNext w v w' v' → OwnB w' B tb v' (putS bs x n) → R v' w') : CW.Spec Tryz.prog 34 #[v, .int .u64 x, .int .i64 n] w R := by
 apply q64W
 refine JoinP.bool (fun b w' => b = !(inW n) ∧ w' = w) (fun j hj => test_width n j w hj) ?_
 rintro b w' ⟨rfl, rfl⟩
 refine cond_intro (fun h => ?_) (fun h => ?_)
 · refine k _ _ (OwnNext.refl _ _) ?_
   simp only [Bool.not_eq_true'] at h
   rw [putS, h]; exact hr
 · simp at h
   have hn : 1 ≤ n ∧ n ≤ 8 := by simpa [inW] using h
   refine ⟨fun (vv : Value) (i : Int) (ww : World) => -1 ≤ i ∧ i < n ∧ OwnNext w' v ww vv ∧ OwnB ww B tb vv (bs ++ (putL x n.toNat).take (n.toNat - (i + 1).toNat)), fun (_ : Value) (i : Int) (_ : World) => (i + 1).toNat, ?_, ?_⟩
   · dsimp only
     rw [wi64_id (n := n - 1) (by omega) (by omega)]
     refine ⟨by omega, by omega, OwnNext.refl _ _, ?_⟩
     have e : n.toNat - (n - 1 + 1).toNat = 0 := by omega
     rw [e]; simpa using hr
   · dsimp only [allR, mapR2, eqN, ltN]
     rintro m vv i ww ⟨⟨h0, h1, g, o⟩, hm⟩
     refine cond_intro (fun h2 => ?_) (fun h2 => ?_)
     · simp at h2
       obtain ⟨i, rfl⟩ := Int.eq_ofNat_of_zero_le h2
       refine leK_intro (by rw [w64_id (n := (i : Int)) (by omega) (by omega), w64_id (n := 8 * (i : Int)) (by omega) (by omega)]; omega) ?_
       obtain ⟨v', w', k1, k2, k3⟩ := app_byte o (Nat.le_trans hB g.by_.size) _ _ (shr_byte_u x i (by omega)) (by simp [putL_length]; omega)
       refine ⟨v', w', k1, ⟨?_, ?_, g.then k3, ?_⟩, ?_⟩
       all_goals rw [wi64_id (n := (i : Int) - 1) (by omega) (by omega)]
       · omega
       · omega
       · have e1 : ((i : Int) - 1 + 1).toNat = i := by omega
         have e2 : ((i : Int) + 1).toNat = i + 1 := by omega
         rw [e1]
         rw [e2, List.append_assoc, take_putL x n.toNat i (by omega)] at k2
         exact k2
       · change ((i : Int) - 1 + 1).toNat < m
         omega
     · simp at h2
       have e1 : (i + 1).toNat = 0 := by omega
       rw [e1, Nat.sub_zero, List.take_of_length_le (by rw [putL_length]; omega)] at o
       refine k _ _ g ?_
       rw [putS, h]; exact o
end Go.Proofs.YtdinpgnjnleioaaGreatDoor.Rf
end
section
namespace Go.Proofs.YtdinpgnjnleioaaGreatDoor.Rf
open Go Go.CW Go.RowKit Go.Proofs.YtdinpgnjnleioaaGreatDoor
open Go.Proofs.YtdinpgnjnleioaaGreatDoor.Ses (Cm Rp RpAt rRp rCm nilV m32)
abbrev tRp : TypeId := 69
abbrev tCm : TypeId := 64
abbrev tTb : TypeId := 76
theorem one_rep {st key code info : Int} {d : Value} (h : isOne d = true) : oneL (#[.int .i64 st, .int .i64 key, .int .i64 code, d, .int .i64 info] : Array Value).toList = true := by
 simp only [oneL, h, Bool.and_true]; rfl
theorem ret5 {w : World} {b : Nat} {cs : Array Value} {x0 x1 x2 x4 : Int} {x3 : Value} {G : Int → Int → Int → Value → Int → World → Prop} (bk : BK w b cs tRp) (hs : cs.size = 5) (ho : isOne x3 = true)
 (k : ∀ w', BK w' b #[.int .i64 x0, .int .i64 x1, .int .i64 x2, x3, .int .i64 x4] tRp → Turn b w w' → G x0 x1 x2 x3 x4 w') :
 (StRow w ⟨b, 0, none⟩ #[.int .i64 x0, .int .i64 x1, .int .i64 x2, x3, .int .i64 x4]) ∧
 bindW (stRow w ⟨b, 0, none⟩ #[.int .i64 x0, .int .i64 x1, .int .i64 x2, x3, .int .i64 x4]) fun w' =>
 ∃ (n0 : Int) (n1 : Int) (n2 : Int) (v3 : Value) (n4 : Int), (ldCells w' ⟨b, 0, none⟩ 5 #[.int .i64 n0, .int .i64 n1, .int .i64 n2, v3, .int .i64 n4]) ∧ G n0 n1 n2 v3 n4 w' := by
 refine ⟨bk.row (by rw [hs]; rfl) (one_rep ho), nm fun w' e => ?_⟩
 obtain ⟨b', t'⟩ := rowE bk e (by rw [hs]; rfl)
 exact ⟨_, _, _, _, _, b'.ld rfl, k w' b' t'⟩
theorem ret5d {w : World} {b : Nat} {cs : Array Value} {x0 x1 x2 x4 : Int} {x3 : Value} {G : Int → Int → Int → Value → Int → World → Prop} (bk : BK w b cs tRp) (hs : cs.size = 5) (ho : isOne x3 = true)
 (k : ∀ w', BK w' b #[.int .i64 x0, .int .i64 x1, .int .i64 x2, x3, .int .i64 x4] tRp → Turn b w w' → G x0 x1 x2 x3 x4 w') :
 (StRow w ⟨b, 0, none⟩ #[.int .i64 x0, .int .i64 x1, .int .i64 x2, x3, .int .i64 x4]) ∧
 bindW (stRow w ⟨b, 0, none⟩ #[.int .i64 x0, .int .i64 x1, .int .i64 x2, x3, .int .i64 x4]) fun w1 =>
 bindW (stRow w ⟨b, 0, none⟩ #[.int .i64 x0, .int .i64 x1, .int .i64 x2, x3, .int .i64 x4]) fun w' =>
 ∃ (n0 : Int) (n1 : Int) (n2 : Int) (v3 : Value) (n4 : Int), (ldCells w' ⟨b, 0, none⟩ 5 #[.int .i64 n0, .int .i64 n1, .int .i64 n2, v3, .int .i64 n4]) ∧ G n0 n1 n2 v3 n4 w' := by
 obtain ⟨h1, h2⟩ := ret5 (G := G) bk hs ho k
 exact ⟨h1, fun_w h2⟩
where
 fun_w {w1 : World} {P : World → Prop} (h : bindW w1 P) : bindW w1 fun _ => bindW w1 P := h
variable {w : World} {t : Nat} {u : Ru}
theorem wrong_c {code : Int} {R : KV} (k : ∀ w', Grow w w' → R (.agg (rRp ⟨2, 5, code, [], 0⟩ nilV)) w') : CW.Spec Tryz.prog 101 #[.int .i64 code] w R := by
 apply q58W
 refine nm fun w0 e0 => ?_
 obtain ⟨b0, g0, _⟩ := alE e0
 exact ret5 b0 rfl rfl fun w' _ t => k _ (Below.turn g0 t (Nat.le_refl _))
theorem conflict_c {R : KV} (k : ∀ w', Grow w w' → R (.agg (rRp conf nilV)) w') : CW.Spec Tryz.prog 102 #[] w R := by
 apply q54W
 refine nm fun w0 e0 => ?_
 obtain ⟨b0, g0, _⟩ := alE e0
 exact ret5 b0 rfl rfl fun w' _ t => k _ (Below.turn g0 t (Nat.le_refl _))
theorem good_c {R : KV} (k : ∀ w', Grow w w' → R (.agg (rRp good nilV)) w') : CW.Spec Tryz.prog 103 #[] w R := by
 apply q55W
 refine nm fun w0 e0 => ?_
 obtain ⟨b0, g0, _⟩ := alE e0
 exact ret5 b0 rfl rfl fun w' _ t => k _ (Below.turn g0 t (Nat.le_refl _))
def rTb (u : Ru) : Array Value := (u.keys.map (fun k => Value.int .u64 k) ++ [Value.int .i64 u.holder, Value.int .i64 u.typ, Value.int .u32 u.gen]).toArray
structure TAt (w : World) (t : Nat) (u : Ru) : Prop where
 b : BK w t (rTb u) tTb
 len : u.keys.length = 8
theorem TAt.grow {w' : World} (h : TAt w t u) (g : Grow w w') : TAt w' t u := ⟨h.b.grow g, h.len⟩
theorem TAt.key (h : TAt w t u) {i : Nat} (hi : i < 8) : w.cell? (Addr.add ⟨t, 0, none⟩ i) = some (.int .u64 (u.keys.getD i 0)) := by
 have hl := h.len
 rw [h.b.cell]
 simp only [rTb, List.getElem?_toArray]
 rw [List.getElem?_append_left (by simp; omega), List.getElem?_map, List.getElem?_eq_getElem (by omega), List.getD_eq_getElem?_getD, List.getElem?_eq_getElem (by omega)]
 rfl
theorem TAt.at8 (h : TAt w t u) : w.cell? (Addr.add ⟨t, 0, none⟩ 8) = some (.int .i64 u.holder) := by
 have hl := h.len
 rw [h.b.cell]
 simp only [rTb, List.getElem?_toArray]
 rw [List.getElem?_append_right (by simp; omega)]
 simp [hl]
theorem TAt.at9 (h : TAt w t u) : w.cell? (Addr.add ⟨t, 0, none⟩ 9) = some (.int .i64 u.typ) := by
 have hl := h.len
 rw [h.b.cell]
 simp only [rTb, List.getElem?_toArray]
 rw [List.getElem?_append_right (by simp; omega)]
 simp [hl]
theorem TAt.at10 (h : TAt w t u) : w.cell? (Addr.add ⟨t, 0, none⟩ 10) = some (.int .u32 u.gen) := by
 have hl := h.len
 rw [h.b.cell]
 simp only [rTb, List.getElem?_toArray]
 rw [List.getElem?_append_right (by simp; omega)]
 simp [hl]
theorem adk (t : Nat) (h : Nat) : Addr.add (Addr.add ⟨t, 0, none⟩ 0) (Int.toNat (h : Int) * 1) = Addr.add ⟨t, 0, none⟩ h := by
 rw [add_zero]; simp
theorem TAt.keyI (h : TAt w t u) {i : Nat} (hi : i < 8) : w.cell? (Addr.add (Addr.add ⟨t, 0, none⟩ 0) (Int.toNat (i : Int) * 1)) = some (.int .u64 (u.keys.getD i 0)) := by rw [adk]; exact h.key hi
theorem rTb_size (h : TAt w t u) : (rTb u).size = 11 := by have := h.len; simp [rTb]; omega
theorem TAt.st (h : TAt w t u) {i : Nat} (hi : i < 11) : St1 w (Addr.add ⟨t, 0, none⟩ i) := st1_at h.b (by rw [rTb_size h]; exact hi)
theorem TAt.setKey (h : TAt w t u) {i : Nat} (hi : i < 8) {x : Int} {w' : World} (e : w' = World.setCell w (Addr.add ⟨t, 0, none⟩ i) (.int .u64 x)) : TAt w' t {u with keys := u.keys.set i x} ∧ Turn t w w' := by
 obtain ⟨b', t'⟩ := setE h.b e
 refine ⟨⟨?_, by simp [h.len]⟩, t'⟩
 have hl := h.len
 have : (rTb u).setIfInBounds i (.int .u64 x) = rTb {u with keys := u.keys.set i x} := by
  simp only [rTb, List.setIfInBounds_toArray]
  congr 1
  rw [List.set_append_left _ _ (by simp; omega), List.map_set]
 rw [← this]; exact b'
theorem TAt.set8 (h : TAt w t u) {x : Int} {w' : World} (e : w' = World.setCell w (Addr.add ⟨t, 0, none⟩ 8) (.int .i64 x)) : TAt w' t {u with holder := x} ∧ Turn t w w' := by
 obtain ⟨b', t'⟩ := setE h.b e
 refine ⟨⟨?_, h.len⟩, t'⟩
 have hl := h.len
 have : (rTb u).setIfInBounds 8 (.int .i64 x) = rTb {u with holder := x} := by
  simp only [rTb, List.setIfInBounds_toArray]
  congr 1
  rw [List.set_append_right _ _ (by simp; omega)]
  simp [hl]
 rw [← this]; exact b'
theorem TAt.set9 (h : TAt w t u) {x : Int} {w' : World} (e : w' = World.setCell w (Addr.add ⟨t, 0, none⟩ 9) (.int .i64 x)) : TAt w' t {u with typ := x} ∧ Turn t w w' := by
 obtain ⟨b', t'⟩ := setE h.b e
 refine ⟨⟨?_, h.len⟩, t'⟩
 have hl := h.len
 have : (rTb u).setIfInBounds 9 (.int .i64 x) = rTb {u with typ := x} := by
  simp only [rTb, List.setIfInBounds_toArray]
  congr 1
  rw [List.set_append_right _ _ (by simp; omega)]
  simp [hl]
 rw [← this]; exact b'
theorem TAt.set10 (h : TAt w t u) {x : Int} {w' : World} (e : w' = World.setCell w (Addr.add ⟨t, 0, none⟩ 10) (.int .u32 x)) : TAt w' t {u with gen := x} ∧ Turn t w w' := by
 obtain ⟨b', t'⟩ := setE h.b e
 refine ⟨⟨?_, h.len⟩, t'⟩
 have hl := h.len
 have : (rTb u).setIfInBounds 10 (.int .u32 x) = rTb {u with gen := x} := by
  simp only [rTb, List.setIfInBounds_toArray]
  congr 1
  rw [List.set_append_right _ _ (by simp; omega)]
  simp [hl]
 rw [← this]; exact b'
theorem TAt.turn {b : Nat} {w' : World} (h : TAt w t u) (tt : Turn b w w') (hb : t ≠ b) : TAt w' t u := ⟨h.b.turn tt hb, h.len⟩
theorem TAt.eq {u' : Ru} (h : TAt w t u) (h1 : u'.keys = u.keys) (h2 : u'.holder = u.holder) (h3 : u'.typ = u.typ) (h4 : u'.gen = u.gen) : TAt w t u' := by
 obtain ⟨a, b⟩ := h
 refine ⟨?_, by rw [h1]; exact b⟩
 unfold rTb at a ⊢
 rw [h1, h2, h3, h4]; exact a
theorem rNew_c {R : KV} (k : ∀ w', Grow w w' → TAt w' w.heap.size u0 → w'.heap.size = w.heap.size + 1 → R (.pointer (some ⟨w.heap.size, 0, none⟩)) w') : CW.Spec Tryz.prog 47 #[] w R := by
 apply q48W
 refine nm fun w0 e0 => ?_
 obtain ⟨b0, g0, s0⟩ := alE e0
 exact k _ g0 ⟨b0, rfl⟩ s0
theorem no_c {h : Nat} (hh : h < 8) {R : KV} (k : R (.bool false) w) : CW.Spec Tryz.prog 95 #[.int .i64 (h : Int)] w R := by
 apply q57W
 refine JoinP.go (cond_intro (fun hc => by simp at hc; omega) (fun _ => ?_))
 have : decide ((h : Int) ≥ (8 : Int)) = false := by simp; omega
 rw [this]; exact k
theorem is_c {p : Int} {R : KV} (k : R (.bool (isT p)) w) : CW.Spec Tryz.prog 106 #[.int .i64 p] w R := by
 apply q56W
 have e : isT p = (p == 1 || (p == 3 || (p == 5 || p == 6))) := by
  unfold isT
  by_cases h1 : p = 1 <;> by_cases h2 : p = 3 <;> by_cases h3 : p = 5 <;> by_cases h4 : p = 6 <;> simp [h1, h2, h3, h4]
 rw [e] at k
 refine JoinP.go (cond_intro (fun h1 => ?_) (fun h1 => cond_intro (fun h2 => ?_) (fun h2 => cond_intro (fun h3 => ?_) (fun h3 => ?_))))
 · simpa [h1] using k
 · simpa [h1, h2] using k
 · simpa [h1, h2, h3] using k
 · simpa [h1, h2, h3] using k
theorem not_c (h : TAt w t u) {i : Nat} (hi : i < 8) {key : Int} {R : KV} (k : R (.bool (decide (u.keys.getD i 0 = 0 ∨ u.keys.getD i 0 ≠ key))) w) : CW.Spec Tryz.prog 105 #[.pointer (some ⟨t, 0, none⟩), .int .i64 (i : Int), .int .u64 key] w R := by
 apply q53W
 refine JoinP.go (withAddr_some ⟨⟨by omega, by omega⟩, _, h.keyI hi, cond_intro (fun h1 => ?_) (fun h1 => withAddr_some ⟨⟨by omega, by omega⟩, _, h.keyI hi, ?_⟩)⟩)
 · have h1 : u.keys.getD i 0 = 0 := by simpa using h1
   rw [decide_eq_true (.inl h1)] at k; exact k
 · have h1 : ¬ u.keys.getD i 0 = 0 := by simpa using h1
   have e : decide (u.keys.getD i 0 = 0 ∨ u.keys.getD i 0 ≠ key) = (u.keys.getD i 0 != key) := by
    generalize u.keys.getD i 0 = z at h1
    rw [Bool.eq_iff_iff]; simp [h1]
   rw [e] at k; exact k
theorem Allows_c (h : TAt w t u) {i : Nat} (hi : i < 8) {kind : Int} {R : KV} (k : R (.bool (allowsR u i kind)) w) : CW.Spec Tryz.prog 51 #[.pointer (some ⟨t, 0, none⟩), .int .i64 (i : Int), .int .i64 kind] w R := by
 apply q49W
 unfold allowsR at k
 refine JoinP.bool (fun b w' => b = decide (u.holder < 0 ∨ u.holder = (i : Int)) ∧ w' = w) (fun j hj => withAddr_some ⟨_, h.at8, cond_intro (fun h1 => hj _ _ ⟨?_, rfl⟩) (fun h1 => withAddr_some ⟨_, h.at8, hj _ _ ⟨?_, rfl⟩⟩)⟩) ?_
 · simp at h1; simp [h1]
 · simp at h1
   rw [Bool.eq_iff_iff]; simp; omega
 · rintro b w' ⟨rfl, rfl⟩
   refine cond_intro (fun h1 => ?_) (fun h1 => ?_)
   · rw [if_pos (of_decide_eq_true h1)] at k; exact k
   · rw [if_neg (of_decide_eq_false h1)] at k
     refine JoinP.bool (fun b w'' => b = decide (5 ≤ u.typ ∧ u.keys.getD i 0 ≠ 0) ∧ w'' = w') (fun j hj => withAddr_some ⟨_, h.at9, cond_intro (fun h2 => no_c hi ⟨_, rfl, cond_t rfl (withAddr_some ⟨⟨by omega, by omega⟩, _, h.keyI hi, hj _ _ ⟨?_, rfl⟩⟩)⟩) (fun h2 => hj _ _ ⟨?_, rfl⟩)⟩) ?_
     · simp at h2
       rw [Bool.eq_iff_iff]; simp [h2]
     · simp at h2
       exact (decide_eq_false (fun q => by have := q.1; omega)).symm
     · rintro b w'' ⟨rfl, rfl⟩
       refine cond_intro (fun h2 => ?_) (fun h2 => ?_)
       · rw [if_pos (of_decide_eq_true h2)] at k; exact k
       · rw [if_neg (of_decide_eq_false h2)] at k
         refine JoinP.bool (fun b w1 => b = decide (kind = 1 ∨ kind = 2) ∧ w1 = w'') (fun j hj => cond_intro (fun h3 => hj _ _ ⟨?_, rfl⟩) (fun h3 => hj _ _ ⟨?_, rfl⟩)) ?_
         · simp at h3; simp [h3]
         · simp at h3; rw [Bool.eq_iff_iff]; simp [h3]
         · rintro b w1 ⟨rfl, rfl⟩
           refine cond_intro (fun h3 => ?_) (fun h3 => ?_)
           · rw [if_pos (of_decide_eq_true h3)] at k
             refine JoinP.go (withAddr_some ⟨_, h.at9, cond_intro (fun h4 => ?_) (fun h4 => withAddr_some ⟨_, h.at9, ?_⟩)⟩)
             · have h4 : u.typ = 1 := by simpa using h4
               rw [decide_eq_true (.inl h4)] at k; exact k
             · have h4 : ¬ u.typ = 1 := by simpa using h4
               have e : decide (u.typ = 1 ∨ u.typ = 5) = (u.typ == 5) := by rw [Bool.eq_iff_iff]; simp [h4]
               rw [e] at k; exact k
           · rw [if_neg (of_decide_eq_false h3)] at k
             refine JoinP.bool (fun b w2 => b = decide (kind = 3 ∨ kind = 4 ∨ kind = 5 ∨ kind = 6) ∧ w2 = w1) (fun j hj => cond_intro (fun h3 => hj _ _ ⟨?_, rfl⟩) (fun h3 => cond_intro (fun h4 => hj _ _ ⟨?_, rfl⟩) (fun h4 => cond_intro (fun h5 => hj _ _ ⟨?_, rfl⟩) (fun h5 => hj _ _ ⟨?_, rfl⟩)))) ?_
             · simp at h3; simp [h3]
             · simp at h4; simp [h4]
             · simp at h5; simp [h5]
             · simp at h3 h4 h5; rw [Bool.eq_iff_iff]; simp [h3, h4, h5]
             · rintro b w2 ⟨rfl, rfl⟩
               refine cond_intro (fun h4 => ?_) (fun h4 => ?_)
               · rw [if_pos (of_decide_eq_true h4)] at k; exact k
               · rw [if_neg (of_decide_eq_false h4)] at k; exact k
theorem Reserve_c (h : TAt w t u) {i : Nat} (hi : i < 8) {key y : Int} {r : Rp} {u' : Ru}
 (hr : (r, u') = (if u.keys.getD i 0 = 0 ∨ u.keys.getD i 0 ≠ key then (conf, u) else if isT y = false then (⟨2, 5, 9216, [], 0⟩, u) else if u.holder < 0 then (good, {u with holder := (i : Int), typ := y}) else if u.holder ≠ (i : Int) ∨ u.typ ≠ y then (conf, u) else (good, u))) {R : KV}
 (k : ∀ w', Step (fun q => q = t) w w' (fun q => q = t) → TAt w' t u' → R (.agg (rRp r nilV)) w') : CW.Spec Tryz.prog 57 #[.pointer (some ⟨t, 0, none⟩), .int .i64 (i : Int), .int .u64 key, .int .i64 y] w R := by
 apply q52W
 refine nm fun w0 e0 => ?_
 obtain ⟨b0, g0, s0⟩ := alE e0
 have h0 := h.grow g0
 have hne : t ≠ w.heap.size := by have := h.b.lt; omega
 refine no_c hi ⟨_, rfl, cond_f rfl (not_c h0 hi ⟨_, rfl, cond_intro (fun h1 => ?_) (fun h1 => ?_)⟩)⟩
 · rw [if_pos (of_decide_eq_true h1)] at hr; cases hr
   refine conflict_c fun w2 g2 => ⟨_, _, _, _, _, rfl, ret5 (b0.grow g2) rfl rfl fun w3 _ t3 => ?_⟩
   exact k w3 (Step.of_grow (Below.turn (g0.then g2) t3 (Nat.le_refl _))) ((h0.grow g2).turn t3 hne)
 rw [if_neg (of_decide_eq_false h1)] at hr
 refine is_c ⟨_, rfl, cond_intro (fun h2 => ?_) (fun h2 => ?_)⟩
 · rw [if_pos (by simpa using h2)] at hr; cases hr
   refine wrong_c fun w2 g2 => ⟨_, _, _, _, _, rfl, ret5 (b0.grow g2) rfl rfl fun w3 _ t3 => ?_⟩
   exact k w3 (Step.of_grow (Below.turn (g0.then g2) t3 (Nat.le_refl _))) ((h0.grow g2).turn t3 hne)
 rw [if_neg (by simpa using h2)] at hr
 refine withAddr_some ⟨_, h0.at8, cond_intro (fun h3 => ?_) (fun h3 => ?_)⟩
 · rw [if_pos (of_decide_eq_true h3)] at hr; cases hr
   refine withAddr_some ⟨h0.st (by omega), nm fun w5 e5 => ?_⟩
   obtain ⟨h5, t5⟩ := h0.set8 e5
   refine withAddr_some ⟨h5.st (by omega), nm fun w6 e6 => ?_⟩
   obtain ⟨h6, t6⟩ := h5.set9 e6
   refine good_c fun w2 g2 => ⟨_, _, _, _, _, rfl, ret5 (((b0.turn t5 hne.symm).turn t6 hne.symm).grow g2) rfl rfl fun w3 _ t3 => ?_⟩
   refine k w3 ?_ ((h6.grow g2).turn t3 hne)
   exact (((((Md.refl (fun q => q = t) w.heap.size w).grow g0).turn t5 (.inl rfl)).turn t6 (.inl rfl)).grow g2 |>.turn t3 (.inr (Nat.le_refl _))).out
 rw [if_neg (of_decide_eq_false h3)] at hr
 refine JoinP.bool (fun b w' => b = decide (u.holder ≠ (i : Int) ∨ u.typ ≠ y) ∧ w' = w0) (fun j hj => withAddr_some ⟨_, h0.at8, cond_intro (fun h4 => hj _ _ ⟨?_, rfl⟩) (fun h4 => withAddr_some ⟨_, h0.at9, hj _ _ ⟨?_, rfl⟩⟩)⟩) ?_
 · have h4 : u.holder ≠ (i : Int) := by simpa using h4
   exact (decide_eq_true (.inl h4)).symm
 · have h4 : u.holder = (i : Int) := by simpa using h4
   rw [Bool.eq_iff_iff]; simp [h4]
 · rintro b w' ⟨rfl, rfl⟩
   refine cond_intro (fun h4 => ?_) (fun h4 => ?_)
   · rw [if_pos (of_decide_eq_true h4)] at hr; cases hr
     refine conflict_c fun w2 g2 => ⟨_, _, _, _, _, rfl, ret5 (b0.grow g2) rfl rfl fun w3 _ t3 => ?_⟩
     exact k w3 (Step.of_grow (Below.turn (g0.then g2) t3 (Nat.le_refl _))) ((h0.grow g2).turn t3 hne)
   · rw [if_neg (of_decide_eq_false h4)] at hr; cases hr
     refine good_c fun w2 g2 => ⟨_, _, _, _, _, rfl, ret5 (b0.grow g2) rfl rfl fun w3 _ t3 => ?_⟩
     exact k w3 (Step.of_grow (Below.turn (g0.then g2) t3 (Nat.le_refl _))) ((h0.grow g2).turn t3 hne)
theorem Register_c (h : TAt w t u) {i : Nat} (hi : i < 8) {key fresh : Int} (hf : fresh ≠ 0) {r : Rp} {u' : Ru}
 (hr : (r, u') = (if u.keys.getD i 0 = key then (good, {u with keys := u.keys.set i fresh, gen := m32 (u.gen + 1)}) else (conf, u))) {R : KV}
 (k : ∀ w', Step (fun q => q = t) w w' (fun q => q = t) → TAt w' t u' → R (.tuple #[.agg (rRp r nilV), nilV]) w') : CW.Spec Tryz.prog 55 #[.pointer (some ⟨t, 0, none⟩), .int .i64 (i : Int), .int .u64 key, .int .u64 fresh, .bool false] w R := by
 apply q51W
 refine nm fun w0 e0 => ?_
 obtain ⟨b0, g0, s0⟩ := alE e0
 have h0 := h.grow g0
 have hne : t ≠ w.heap.size := by have := h.b.lt; omega
 refine no_c hi ⟨_, rfl, cond_f rfl ?_⟩
 refine JoinP.bool (fun b w' => b = (u.keys.getD i 0 != key) ∧ w' = w0) (fun j hj => cond_t rfl (withAddr_some ⟨⟨by omega, by omega⟩, _, h0.keyI hi, hj _ _ ⟨rfl, rfl⟩⟩)) ?_
 rintro b w' ⟨rfl, rfl⟩
 refine cond_intro (fun h1 => ?_) (fun h1 => ?_)
 · rw [if_neg (by simpa using h1)] at hr; cases hr
   refine conflict_c fun w2 g2 => ⟨_, _, _, _, _, rfl, ret5 (b0.grow g2) rfl rfl fun w3 _ t3 => ?_⟩
   exact k w3 (Step.of_grow (Below.turn (g0.then g2) t3 (Nat.le_refl _))) ((h0.grow g2).turn t3 hne)
 · rw [if_pos (by simpa using h1)] at hr; cases hr
   refine withAddr_some ⟨⟨by omega, by omega⟩, by rw [adk]; exact h0.st (by omega), nm fun w5 e5 => ?_⟩
   rw [adk] at e5
   obtain ⟨h5, t5⟩ := h0.setKey hi e5
   refine withAddr_some ⟨_, h5.at10, withAddr_some ⟨h5.st (by omega), nm fun w6 e6 => ?_⟩⟩
   obtain ⟨h6, t6⟩ := h5.set10 e6
   refine JoinP.bool (fun b w' => b = false ∧ w' = w6) (fun j hj => cond_f (by simpa using hf) (hj _ _ ⟨rfl, rfl⟩)) ?_
   rintro b w' ⟨rfl, rfl⟩
   refine cond_f rfl (good_c fun w2 g2 => ⟨_, _, _, _, _, rfl, ret5 (((b0.turn t5 hne.symm).turn t6 hne.symm).grow g2) rfl rfl fun w3 _ t3 => ?_⟩)
   refine k w3 ?_ ((h6.grow g2).turn t3 hne)
   exact (((((Md.refl (fun q => q = t) w.heap.size w).grow g0).turn t5 (.inl rfl)).turn t6 (.inl rfl)).grow g2 |>.turn t3 (.inr (Nat.le_refl _))).out
abbrev EU := Lst.EU
theorem List_c (h : TAt w t u) {R : KV} (k : ∀ v w', Grow w w' → RdR EU w' v (listR u) → NewV w v → R v w') : CW.Spec Tryz.prog 62 #[.pointer (some ⟨t, 0, none⟩)] w R := by
 apply q50W
 have flt : ∀ l : List Int, (l.filter fun k => decide (k ≠ 0)).length ≤ l.length := fun l => List.length_filter_le _ _
 refine ⟨fun (v : Value) (n : Int) (w' : World) => ∃ i : Nat, n = (i : Int) ∧ i ≤ 8 ∧ Grow w w' ∧ OwnR EU w' w.heap.size Lst.tU v ((u.keys.take i).filter fun k => decide (k ≠ 0)), fun (_ : Value) (n : Int) (_ : World) => ((8 : Int) - n).toNat,
  ⟨0, rfl, by omega, Grow.refl _, OwnR.nil _ _ _⟩, ?_⟩
 dsimp only [allR, mapR2, eqN, ltN]
 rintro m v n w' ⟨⟨i, rfl, hi, g, ho⟩, hm⟩
 have hl := h.len
 refine cond_intro (fun hc => ?_) (fun hc => ?_)
 · have hlt : i < 8 := by simp at hc; omega
   have htk : u.keys.take (i + 1) = u.keys.take i ++ [u.keys.getD i 0] := by
    rw [List.take_add_one, List.getD_eq_getElem?_getD, List.getElem?_eq_getElem (by omega)]; rfl
   have h' := h.grow g
   refine JoinP.val (fun v' w'' => Grow w w'' ∧ OwnR EU w'' w.heap.size Lst.tU v' ((u.keys.take (i + 1)).filter fun k => decide (k ≠ 0))) (fun j hj => ?_) ?_
   · refine withAddr_some ⟨⟨by omega, by omega⟩, _, h'.keyI hlt, cond_intro (fun hz => ?_) (fun hz => ?_)⟩
     · have hz : u.keys.getD i 0 ≠ 0 := by simpa using hz
       refine withAddr_some ⟨⟨by omega, by omega⟩, _, h'.keyI hlt, nm fun w17 e17 => ?_⟩
       obtain ⟨bk, gr, sz⟩ := alE e17
       have hrd : RdR EU w17 (.slice (some ⟨w'.heap.size, 0, none⟩) 1 1) [u.keys.getD i 0] := by
        refine ⟨some ⟨w'.heap.size, 0, none⟩, 1, rfl, Nat.le_refl _, by simp [maxLen], (fun e => by cases e), fun j u hj => ⟨_, rfl, ?_⟩⟩
        rw [bk.cell]
        simpa [Enc.flat, Lst.EU] using hj
       have hlen := flt (u.keys.take i)
       rw [List.length_take] at hlen
       obtain ⟨v18, w19, hrun, ho19, hnext⟩ := app_ownR Lst.tyU (ho.grow gr) hrd (by simp only [List.length_cons, List.length_nil]; omega) (Nat.le_trans g.size gr.size)
       refine ⟨v18, w19, hrun, hj _ _ ⟨(g.then gr).trans (hnext.below (Nat.le_trans g.size gr.size) (fun q hq => (ho.lt q hq).1)), ?_⟩⟩
       rw [htk, List.filter_append, List.filter_cons, if_pos (by simpa using hz)]; exact ho19
     · have hz : u.keys.getD i 0 = 0 := by simpa using hz
       refine hj _ _ ⟨g, ?_⟩
       rw [htk, List.filter_append, List.filter_cons, if_neg (by simp only [hz]; simp), List.filter_nil, List.append_nil]; exact ho
   · rintro v' w'' ⟨g2, ho2⟩
     rw [wi64_id (by omega) (by omega)]
     exact ⟨⟨i + 1, by omega, by omega, g2, ho2⟩, by omega⟩
 · have he : i = 8 := by simp at hc; omega
   subst he
   rw [List.take_of_length_le (by omega)] at ho
   exact k v w' g ho.rd (fun q hq => (ho.lt q hq).1)
end Go.Proofs.YtdinpgnjnleioaaGreatDoor.Rf
end
section
namespace Go.Proofs.YtdinpgnjnleioaaGreatDoor.Rf
open Go Go.CW Go.RowKit Go.Proofs.YtdinpgnjnleioaaGreatDoor
open Go.Proofs.YtdinpgnjnleioaaGreatDoor.Ses (nilV)
abbrev tSp : TypeId := 137
variable {w w' : World}
theorem row_made {t : TypeId} (ht : Tryz.prog.underlying t = some (.slice tb)) (n : Nat) (hn : n ≤ 1099511627776) :
 ∃ v w', Sem.run Tryz.prog (Instr.makeSlice t (.int .i64 (n : Int)) (.int .i64 (n : Int))) w = .ok v w' ∧ RdB w' v (List.replicate n 0) ∧ NewV w v ∧ Grow w w' ∧ (∀ q, v.ownBlock = some q → q < w'.heap.size) := by
 have h := run_make_row' (P := Tryz.prog) t tb (.int .u8 0) 1 ht (by kernel_rfl) rfl .i64 .i64 n (by omega) (by omega) w
 have e : madeCells #[Value.int .u8 0] n = ((List.replicate n (0 : UInt8)).map b8).toArray := by
  apply Array.ext'
  rw [madeCells_one, List.map_replicate]
  rfl
 rw [e] at h
 have bk := BK.new w ((List.replicate n (0 : UInt8)).map b8).toArray tb
 have g : Grow w (w.alloc (.cells ((List.replicate n (0 : UInt8)).map b8).toArray tb)) := Grow.al (Grow.refl w) _
 refine ⟨_, _, h, ?_, ?_, g, ?_⟩
 · refine ⟨some ⟨w.heap.size, 0, none⟩, n, by simp, by simp, by simp only [maxLen]; omega, (fun e => by cases e), fun j u hj => ⟨_, rfl, ?_⟩⟩
   rw [BK.cell bk, List.getElem?_toArray]
   exact hj
 · intro q hq
   have : w.heap.size = q := by simpa [Value.ownBlock] using hq
   omega
 · intro q hq
   have : w.heap.size = q := by simpa [Value.ownBlock] using hq
   rw [← this]; exact bk.lt
theorem bNew_c {N : Nat} (h1 : 1 ≤ N) (h2 : N ≤ 1024) {R : KV} (k : ∀ v w', Grow w w' → RdB w' v (List.replicate ((N + 7) / 8) 0) → NewV w v → (∀ q, v.ownBlock = some q → q < w'.heap.size) → R v w') :
 CW.Spec Tryz.prog 94 #[.int .i64 (N : Int)] w R := by
 apply q42W
 have e : IntKind.wrap .i64 (Int.tdiv (IntKind.wrap .i64 ((N : Int) + (7 : Int))) (8 : Int)) = (((N + 7) / 8 : Nat) : Int) := by
  rw [wi64_id (n := (N : Int) + 7) (by omega) (by omega), Int.tdiv_eq_ediv_of_nonneg (by omega), wi64_id (by omega) (by omega)]
  omega
 refine JoinP.go (cond_f (by simp; omega) (cond_f (by simp; omega) ?_))
 rw [e]
 obtain ⟨v, w2, hr, r, n, g, l⟩ := row_made (w := w) (t := 33) (by kernel_rfl) ((N + 7) / 8) (by omega)
 exact ⟨v, w2, hr, k v w2 g r n l⟩
structure SpAt (w : World) (g N : Nat) (b : List UInt8) (bv mv : Value) (m : List UInt8) : Prop where
 o : BK w g #[.int .i64 (N : Int), bv, mv] tSp
 rb : RdB w bv b
 rm : RdB w mv m
 hb : b.length = N * 8
 hN : N ≤ 1024
 hm : m.length ≤ 128
 nb : bv.ownBlock ≠ some g
 nm : mv.ownBlock ≠ some g
 lb : ∀ q, bv.ownBlock = some q → q < w.heap.size
 lm : ∀ q, mv.ownBlock = some q → q < w.heap.size
variable {g N : Nat} {b m : List UInt8} {bv mv : Value}
theorem SpAt.grow (h : SpAt w g N b bv mv m) (gg : Grow w w') : SpAt w' g N b bv mv m :=
 ⟨h.o.grow gg, h.rb.grow gg, h.rm.grow gg, h.hb, h.hN, h.hm, h.nb, h.nm, fun q hq => Nat.lt_of_lt_of_le (h.lb q hq) gg.size, fun q hq => Nat.lt_of_lt_of_le (h.lm q hq) gg.size⟩
theorem sNew_c (h1 : 1 ≤ N) (h2 : N ≤ 1024) {R : KV} (k : ∀ g bv mv m w', Grow w w' → w.heap.size ≤ g → NewV w bv → NewV w mv → SpAt w' g N (List.replicate (N * 8) 0) bv mv m → R (.tuple #[.pointer (some ⟨g, 0, none⟩), .int .i64 (0 : Int)]) w') :
 CW.Spec Tryz.prog 46 #[.int .i64 (N : Int)] w R := by
 apply q44W
 have e : IntKind.wrap .i64 ((N : Int) * (8 : Int)) = ((N * 8 : Nat) : Int) := by rw [wi64_id (by omega) (by omega)]; omega
 refine JoinP.go (cond_f (by simp; omega) (cond_f (by simp; omega) (JoinP.go ?_)))
 refine nm fun w6 e6 => nm fun w7 e7 => ?_
 have g7 : Grow w w7 := drE e7
 rw [e]
 have mk : ∀ {w8 w9 w10 : World} {v1 v2 : Value} {m : List UInt8}, Grow w w8 → w10 = World.alloc w8 (.cells #[(.int .i64 (N : Int)), v1, v2] tSp) → RdB w8 v1 (List.replicate (N * 8) 0) → RdB w8 v2 m → m.length ≤ 128 → NewV w v1 → NewV w v2 → (∀ q, v1.ownBlock = some q → q < w8.heap.size) → (∀ q, v2.ownBlock = some q → q < w8.heap.size) → R (.tuple #[.pointer (some ⟨w8.heap.size, 0, none⟩), .int .i64 (0 : Int)]) w10 := by
  intro w8 w9 w10 v1 v2 m g8 e10 r1 r2 hm n1 n2 l1 l2
  obtain ⟨b10, g10, s10⟩ := alE e10
  refine k w8.heap.size v1 v2 m w10 (g8.then g10) g8.size n1 n2 ⟨b10, r1.grow g10, r2.grow g10, by simp, h2, hm, fun e => by have := l1 _ e; omega, fun e => by have := l2 _ e; omega, fun q hq => by have := l1 q hq; have := g10.size; omega, fun q hq => by have := l2 q hq; have := g10.size; omega⟩
 constructor
 · obtain ⟨v, w8, hr, r, n, gg, l⟩ := row_made (w := w7) (t := 33) (by kernel_rfl) (N * 8) (by omega)
   refine ⟨v, w8, hr, bNew_c h1 h2 fun v10 w11 g11 r11 n11 l11 => oneK_of (Rd.isOne r) (oneK_of (Rd.isOne r11) (nm fun w12 e12 => nm fun w13 e13 => ?_))⟩
   exact mk (w9 := w12) ((g7.then gg).then g11) e13 (r.grow g11) r11 (by simp; omega) (n.of g7.size) (n11.of (g7.then gg).size) (fun q hq => by have := l q hq; have := g11.size; omega) l11
 · refine bNew_c h1 h2 fun v14 w15 g15 r15 n15 l15 => ?_
   obtain ⟨v, w8, hr, r, n, gg, l⟩ := row_made (w := w15) (t := 33) (by kernel_rfl) (N * 8) (by omega)
   refine ⟨v, w8, hr, oneK_of (Rd.isOne r) (oneK_of (Rd.isOne r15) (nm fun w12 e12 => nm fun w13 e13 => ?_))⟩
   exact mk (w9 := w12) ((g7.then g15).then gg) e13 r (r15.grow gg) (by simp; omega) (n.of (g7.then g15).size) (n15.of g7.size) l (fun q hq => by have := l15 q hq; have := gg.size; omega)
theorem sIn_c (h : SpAt w g N b bv mv m) {p n : Nat} {R : KV} (hp : p ≤ 4611686018427387904) (k : R (.bool (decide (n ≤ 32 ∧ p + n ≤ N))) w) : CW.Spec Tryz.prog 96 #[.pointer (some ⟨g, 0, none⟩), .int .i64 (p : Int), .int .i64 (n : Int)] w R := by
 apply q45W
 have hN := h.hN
 refine JoinP.go (cond_t (by simp) (cond_intro (fun h1 => cond_t (by simp) (withAddr_some ⟨_, h.o.cell 0, cond_intro (fun h2 => withAddr_some ⟨_, h.o.cell 0, ?_⟩) (fun h2 => ?_)⟩)) (fun h1 => ?_)))
 · simp at h1 h2
   rw [wi64_id (by omega) (by omega)]
   have e : decide ((n : Int) ≤ (N : Int) - (p : Int)) = decide (n ≤ 32 ∧ p + n ≤ N) := by rw [Bool.eq_iff_iff]; simp; omega
   rw [e]; exact k
 · simp at h2
   rw [decide_eq_false (by omega)] at k; exact k
 · simp at h1
   rw [decide_eq_false (by omega)] at k; exact k
theorem sRead_c (h : SpAt w g N b bv mv m) {p n : Nat} (hn : n ≤ 32 ∧ p + n ≤ N) {R : KV} (k : ∀ v w', Grow w w' → RdB w' v ((b.drop (p * 8)).take (n * 8)) → NewV w v → R (.tuple #[v, .int .i64 (0 : Int)]) w') :
 CW.Spec Tryz.prog 97 #[.pointer (some ⟨g, 0, none⟩), .int .i64 (p : Int), .int .i64 (n : Int)] w R := by
 apply q46W
 have hN := h.hN
 have hb := h.hb
 refine sIn_c h (by omega) ⟨_, rfl, cond_f (by rw [decide_eq_true hn]; rfl) (nm fun w3 e3 => ?_)⟩
 obtain ⟨b3, g3, s3⟩ := alE e3
 refine withAddr_some ⟨_, (h.o.grow g3).cell 1, ?_⟩
 rw [wi64_id (n := (p : Int) * 8) (by omega) (by omega), wi64_id (n := (p : Int) + n) (by omega) (by omega), wi64_id (n := ((p : Int) + n) * 8) (by omega) (by omega)]
 obtain ⟨v6, q1, q2, q3⟩ := (h.rb.grow g3).sub (lo := some (.int .i64 ((p : Int) * 8))) (hi := some (.int .i64 (((p : Int) + n) * 8))) (l := p * 8) (r := (p + n) * 8) (fun cap hc => by rw [List.length_map] at hc; rw [bounds_ii (by omega) (by omega) (by omega)]; congr 2 <;> omega) (by omega) (by rw [List.length_map]; omega)
 have e : ((b.map b8).drop (p * 8)).take ((p + n) * 8 - p * 8) = ((b.drop (p * 8)).take (n * 8)).map b8 := by
  have : (p + n) * 8 - p * 8 = n * 8 := by omega
  rw [this, List.map_take, List.map_drop]
 rw [e] at q2
 have ho : OwnB w3 w.heap.size tb (.slice (some ⟨w.heap.size, 0, none⟩) 0 0) [] := by
  rw [e3]; exact Own.lit w (Nat.le_refl _) tb #[] 0 rfl (by simp [maxLen])
 obtain ⟨v7, w8, hr, o8, n8⟩ := app_bytes ho q2 g3.size (by simp; omega)
 rw [List.nil_append] at o8
 exact ⟨v6, q1, v7, w8, hr, k v7 w8 (g3.trans (n8.below g3.size ho.blk)) o8.rd (fun q hq => o8.blk q hq)⟩
theorem has_c {v : Value} {m : List UInt8} (h : RdB w v m) {i : Nat} (hi : i < 8 * m.length) (hm : m.length ≤ 1000) {R : KV} (k : ∀ bb, R (.bool bb) w) : CW.Spec Tryz.prog 184 #[v, .int .i64 (i : Int)] w R := by
 apply q41W
 have e8 : IntKind.wrap .i64 (Int.tdiv (i : Int) (8 : Int)) = ((i / 8 : Nat) : Int) := by
  rw [Int.tdiv_eq_ediv_of_nonneg (by omega), wi64_id (by omega) (by omega)]; omega
 have hmod : (0 : Int) ≤ IntKind.wrap .u64 (Int.tmod (i : Int) (8 : Int)) := by
  have : Int.tmod (i : Int) (8 : Int) = ((i % 8 : Nat) : Int) := by rw [Int.tmod_eq_emod_of_nonneg (by omega)]; omega
  rw [this, w64_id (by omega) (by omega)]; omega
 unfold q41F
 rw [e8]
 refine JoinP.go (cond_t (by simp) ⟨_, RdB.len h, cond_t (by simp; omega) ?_⟩)
 obtain ⟨a, h1, h2⟩ := RdB.at h (i := ((i / 8 : Nat) : Int)) (by omega) (by omega)
 exact ⟨a, h1, _, h2, leK_intro hmod (k _)⟩
theorem bPut_c {v : Value} {m : List UInt8} (h : RdB w v m) (hm : m.length ≤ 128) {p n : Nat} {s : Bool} (hp : p ≤ 4000) (hn : n ≤ 4000) {R : KV}
 (k : ∀ v' w' m' c, Grow w w' → RdB w' v' m' → m'.length = m.length → NewV w v' → (∀ q, v'.ownBlock = some q → q < w'.heap.size) → R (.tuple #[v', .int .i64 c]) w') :
 CW.Spec Tryz.prog 142 #[v, .int .i64 (p : Int), .int .i64 (n : Int), .bool s] w R := by
 apply q43W
 refine nm fun w0 e0 => ?_
 obtain ⟨b0, g0, s0⟩ := alE e0
 have ho : OwnB w0 w.heap.size tb (.slice (some ⟨w.heap.size, 0, none⟩) 0 0) [] := by
  rw [e0]; exact Own.lit w (Nat.le_refl _) tb #[] 0 rfl (by simp [maxLen])
 obtain ⟨v1, w2, hr, o2, n2⟩ := app_bytes ho (h.grow g0) g0.size (by simp; omega)
 rw [List.nil_append] at o2
 have g2 : Grow w w2 := g0.trans (n2.below g0.size ho.blk)
 refine ⟨v1, w2, hr, ?_⟩
 refine JoinP.bool (fun bb w' => w' = w2) (fun j hj => cond_intro (fun _ => hj _ _ rfl) (fun _ => hj _ _ rfl)) ?_
 rintro bb wz rfl
 refine cond_intro (fun _ => k v1 wz m 0 g2 o2.rd rfl (fun q hq => o2.blk q hq) o2.ltS) (fun _ => ?_)
 refine ⟨fun (c : Int) (i : Int) (w' : World) => ∃ (i' : Nat) (m' : List UInt8), i = (i' : Int) ∧ i' ≤ 4000 ∧ m'.length = m.length ∧ Grow w w' ∧ OwnB w' w.heap.size tb v1 m', fun (_ : Int) (i : Int) (_ : World) => ((4000 : Int) - i).toNat,
  ⟨p, m, rfl, by omega, rfl, g2, o2⟩, ?_⟩
 dsimp only [allR, mapR2, eqN, ltN]
 rintro M c _ wy ⟨⟨i, m', rfl, hi, hm', g8, o8⟩, hM⟩
 have hl := RdB.len o8.rd
 have e88 : IntKind.wrap .i64 ((8 : Int) * ((m'.length : Nat) : Int)) = 8 * (m'.length : Int) := wi64_id (by omega) (by omega)
 refine JoinP.bool (fun bb w' => w' = wy ∧ (bb = true → i < 8 * m'.length)) (fun j hj => ⟨_, hl, cond_intro (fun h1 => hj _ _ ⟨rfl, fun _ => ?_⟩) (fun h1 => hj _ _ ⟨rfl, fun e => by cases e⟩)⟩) ?_
 · rw [e88] at h1
   simp at h1; omega
 rintro bb wx ⟨rfl, hbb⟩
 refine cond_intro (fun h1 => ?_) (fun h1 => k v1 wx m' c g8 o8.rd hm' (fun q hq => o8.blk q hq) o8.ltS)
 have hlt := hbb h1
 have e8 : IntKind.wrap .i64 (Int.tdiv (i : Int) (8 : Int)) = ((i / 8 : Nat) : Int) := by
  rw [Int.tdiv_eq_ediv_of_nonneg (by omega), wi64_id (by omega) (by omega)]; omega
 have emod : Int.tmod (i : Int) (8 : Int) = ((i % 8 : Nat) : Int) := by rw [Int.tmod_eq_emod_of_nonneg (by omega)]; omega
 have hmod : (0 : Int) ≤ IntKind.wrap .u64 (Int.tmod (i : Int) (8 : Int)) := by rw [emod, w64_id (by omega) (by omega)]; omega
 rw [e8]
 refine JoinP.int (fun c' w' => ∃ m2 : List UInt8, m2.length = m.length ∧ Grow w w' ∧ OwnB w' w.heap.size tb v1 m2) (fun j hj => ?_) ?_
 · refine has_c o8.rd hlt (by omega) fun bb' => ⟨_, rfl, cond_intro (fun h2 => ?_) (fun h2 => hj _ _ ⟨m', hm', g8, o8⟩)⟩
   obtain ⟨a, q1, q2, q3, q4, q5, q6⟩ := Own.put o8 (i := ((i / 8 : Nat) : Int)) (by omega) (by rw [List.length_map]; omega)
   refine ⟨a, q1, ((m'.getD (i / 8) 0).toNat : Int), ?_, leK_intro hmod ⟨a, q1, q3, nm fun w20 e20 => ?_⟩⟩
   · rw [q2]
     simp only [Int.toNat_natCast, List.getElem_map, List.getD_eq_getElem?_getD]
     rw [List.getElem?_eq_getElem (by omega)]; rfl
   · have hx : ∃ x : UInt8, Value.int .u8 (bitsI .xor .u8 ((m'.getD (i / 8) 0).toNat : Int) (IntKind.wrap .u8 ((1 : Int) * ((2 : Int) ^ (min (Int.toNat (IntKind.wrap .u64 (Int.tmod (i : Int) (8 : Int)))) 8))))) = b8 x := by
      rw [emod, w64_id (n := ((i % 8 : Nat) : Int)) (by omega) (by omega)]
      have hj8 : i % 8 < 8 := Nat.mod_lt _ (by omega)
      have one_val : ∀ j : Fin 8, IntKind.wrap .u8 ((1 : Int) * ((2 : Int) ^ (min j.val 8))) = ((UInt8.ofNat (2 ^ j.val)).toNat : Int) := by decide +kernel
      have := one_val ⟨i % 8, hj8⟩
      simp only [Int.toNat_natCast]
      rw [this]
      exact ⟨m'.getD (i / 8) 0 ^^^ UInt8.ofNat (2 ^ (i % 8)), by rw [b8_xor]; rfl⟩
     obtain ⟨x, hx⟩ := hx
     rw [hx] at e20
     have q7 := q6 (b8 x)
     rw [← e20] at q7
     refine hj _ _ ⟨m'.set (i / 8) x, by simp [hm'], ?_, ?_⟩
     · rw [e20]
       exact g8.trans (Step.to_below (Step.setA (S := fun q => q = a.block) wx a (b8 x) rfl) g8.size (fun q hq => by rw [hq]; exact q4))
     · show Own w20 w.heap.size tb v1 ((m'.set (i / 8) x).map b8)
       rw [Int.toNat_natCast] at q7
       rw [List.map_set]
       exact q7
 · rintro c' w' ⟨m2, hm2, g', o'⟩
   rw [wi64_id (n := (i : Int) + 1) (by omega) (by omega)]
   exact ⟨⟨i + 1, m2, by omega, by omega, hm2, g', o'⟩, by omega⟩
def over (b : List UInt8) (p : Nat) (d : List UInt8) : List UInt8 := b.take p ++ d ++ b.drop (p + d.length)
theorem over_step {b d : List UInt8} {p i : Nat} (hp : p + d.length ≤ b.length) (hi : i < d.length) : (over b p (d.take i)).set (p + i) (d[i]'hi) = over b p (d.take (i + 1)) := by
 unfold over
 have e1 : (d.take i).length = i := by rw [List.length_take]; omega
 have e2 : (d.take (i + 1)).length = i + 1 := by rw [List.length_take]; omega
 have e3 : (b.take p).length = p := by rw [List.length_take]; omega
 rw [e1, e2, List.append_assoc, List.set_append_right _ _ (by omega), e3, List.set_append_right _ _ (by omega), e1]
 have e4 : p + i - p - i = 0 := by omega
 rw [e4, List.drop_eq_getElem_cons (l := b) (i := p + i) (by omega), List.set_cons_zero]
 have e5 : d.take (i + 1) = d.take i ++ [d[i]'hi] := by rw [List.take_add_one, List.getElem?_eq_getElem hi]; rfl
 rw [e5]
 simp only [List.append_assoc, List.cons_append, List.nil_append, Nat.add_assoc]
theorem sWrite_c (h : SpAt w g N b bv mv m) {p n : Nat} (hn : n ≤ 32 ∧ p + n ≤ N) {v : Value} {d : List UInt8} (hv : RdB w v d) (hd : d.length = n * 8) {R : KV}
 (k : ∀ w' bv' mv' m', Step (fun q => q = g) w w' (fun q => q = g) → SpAt w' g N (over b (p * 8) d) bv' mv' m' → NewV w bv' → NewV w mv' → R (.int .i64 (0 : Int)) w') :
 CW.Spec Tryz.prog 98 #[.pointer (some ⟨g, 0, none⟩), .int .i64 (p : Int), v] w R := by
 apply q47W
 have hN := h.hN
 have hb := h.hb
 have hl := RdB.len hv
 have e8 : IntKind.wrap .i64 (Int.tdiv ((d.length : Nat) : Int) (8 : Int)) = (n : Int) := by
  rw [Int.tdiv_eq_ediv_of_nonneg (by omega), wi64_id (by omega) (by omega)]; omega
 refine ⟨_, hl, ?_⟩
 rw [e8]
 refine JoinP.bool (fun bb w' => bb = false ∧ w = w') (fun j hj => ⟨_, hl, cond_f ?_ (sIn_c h (by omega) ⟨_, rfl, hj _ _ ⟨by rw [decide_eq_true hn]; rfl, rfl⟩⟩)⟩) ?_
 · have : Int.tmod ((d.length : Nat) : Int) (8 : Int) = 0 := by rw [Int.tmod_eq_emod_of_nonneg (by omega)]; omega
   rw [this]; rfl
 rintro _ _ ⟨rfl, rfl⟩
 refine cond_f rfl (nm fun w3 e3 => ?_)
 obtain ⟨b3, g3, s3⟩ := alE e3
 refine withAddr_some ⟨_, (h.o.grow g3).cell 1, ?_⟩
 have ho : OwnB w3 w.heap.size tb (.slice (some ⟨w.heap.size, 0, none⟩) 0 0) [] := by
  rw [e3]; exact Own.lit w (Nat.le_refl _) tb #[] 0 rfl (by simp [maxLen])
 obtain ⟨v6, w7, hr, o7, n7⟩ := app_bytes ho (h.rb.grow g3) g3.size (by simp; omega)
 rw [List.nil_append] at o7
 have g7 : Grow w w7 := g3.trans (n7.below g3.size ho.blk)
 refine ⟨v6, w7, hr, ?_⟩
 have ov0 : over b (p * 8) (d.take 0) = b := by unfold over; simp
 refine ⟨fun (i : Int) (w' : World) => ∃ i' : Nat, i = (i' : Int) ∧ i' ≤ d.length ∧ Grow w w' ∧ OwnB w' w.heap.size tb v6 (over b (p * 8) (d.take i')), fun (i : Int) (_ : World) => ((d.length : Int) - i).toNat,
  ⟨0, rfl, by omega, g7, by rw [ov0]; exact o7⟩, ?_⟩
 dsimp only [allR, mapR2, eqN, ltN]
 rintro M _ w10 ⟨⟨i, rfl, hi, g10, o10⟩, hM⟩
 have hol : (over b (p * 8) (d.take i)).length = b.length := by
  unfold over
  simp only [List.length_append, List.length_take, List.length_drop]; omega
 refine ⟨_, hl, cond_intro (fun h1 => ?_) (fun h1 => ?_)⟩
 · have hlt : i < d.length := by simp at h1; omega
   obtain ⟨a, q1, q2⟩ := RdB.at (hv.grow g10) (i := (i : Int)) (by omega) (by omega)
   rw [wi64_id (n := (p : Int) * 8) (by omega) (by omega), wi64_id (n := (p : Int) * 8 + i) (by omega) (by omega)]
   obtain ⟨a', r1, r2, r3, r4, r5, r6⟩ := Own.put o10 (i := (p : Int) * 8 + i) (by omega) (by rw [List.length_map, hol]; omega)
   refine ⟨a, q1, _, q2, a', r1, r3, nm fun w15 e15 => ?_⟩
   have r7 := r6 (b8 d[i])
   have e15' : w15 = World.setCell w10 a' (b8 d[i]) := e15
   rw [← e15'] at r7
   rw [wi64_id (n := (i : Int) + 1) (by omega) (by omega)]
   refine ⟨⟨i + 1, by omega, by omega, ?_, ?_⟩, by omega⟩
   · rw [e15']
     exact g10.trans (Step.to_below (Step.setA (S := fun q => q = a'.block) w10 a' (b8 d[i]) rfl) g10.size (fun q hq => by rw [hq]; exact r4))
   · have et : ((p : Int) * 8 + (i : Int)).toNat = p * 8 + i := by omega
     rw [et, ← List.map_set, over_step (by omega) hlt] at r7
     exact r7
 · have he : i = d.length := by simp at h1; omega
   subst he
   rw [List.take_length] at o10
   have h10 := h.grow g10
   refine withAddr_some (oneK_of (Rd.isOne o10.rd) ⟨st1_at h10.o (by show 1 < 3; omega), nm fun w17 e17 => ?_⟩)
   obtain ⟨b17, t17⟩ := setE h10.o e17
   have hgw : g < w.heap.size := h.o.lt
   refine withAddr_some ⟨mv, b17.cell 2, ?_⟩
   have hm17 : RdB w17 mv m := Rd.turn h10.rm t17 h.nm
   refine bPut_c hm17 h.hm (p := p) (n := n) (by omega) (by omega) fun v22 w21 m' c g21 r21 hm' n21 l21 => ⟨_, _, rfl, withAddr_some (oneK_of (Rd.isOne r21) ⟨st1_at (b17.grow g21) (by show 2 < 3; omega), nm fun w25 e25 => ?_⟩)⟩
   obtain ⟨b25, t25⟩ := setE (b17.grow g21) e25
   have z17 : w17.heap.size = w10.heap.size := t17.size
   have z10 := g10.size
   have nv6 : ∀ q, v6.ownBlock = some q → q ≠ g := fun q hq e => by have := o10.blk q hq; omega
   have nv22 : ∀ q, v22.ownBlock = some q → q ≠ g := fun q hq e => by have := n21 q hq; omega
   refine k w25 v6 v22 m' ?_ ⟨b25, ?_, ?_, ?_, hN, by have := h.hm; omega, fun e => nv6 _ e rfl, fun e => nv22 _ e rfl, fun q hq => ?_, fun q hq => ?_⟩ (fun q hq => o10.blk q hq) (fun q hq => by have := n21 q hq; omega)
   · exact (((((Md.refl (fun q => q = g) w.heap.size w).grow g10).turn t17 (.inl rfl)).grow g21).turn t25 (.inl rfl)).out
   · exact Rd.turn ((Rd.turn o10.rd t17 (fun e => nv6 _ e rfl)).grow g21) t25 (fun e => nv6 _ e rfl)
   · exact Rd.turn r21 t25 (fun e => nv22 _ e rfl)
   · have := hol
     rw [List.take_length] at this
     rw [this]; exact hb
   · have := o10.ltS q hq
     have := g21.size
     have := t25.size
     omega
   · have := l21 q hq
     have := t25.size
     omega
end Go.Proofs.YtdinpgnjnleioaaGreatDoor.Rf
end
section
namespace Go.Proofs.YtdinpgnjnleioaaGreatDoor.Rf
open Go Go.CW Go.RowKit Go.Proofs.YtdinpgnjnleioaaGreatDoor
open Go.Proofs.YtdinpgnjnleioaaGreatDoor.Lst (cutK cutK_length keysB rowB rowB_append rowB_length put4 put8 EU_at u64_of32)
theorem Keys_c {w : World} {g : Int} {v : Value} {l : List Int} {R : KV} (hg : 0 ≤ g ∧ g < 4294967296) (hr : RdR EU w v l) (c : ∀ v' w', Grow w w' → RdB w' v' (keysB g l) → NewV w v' → R v' w') :
 CW.Spec Tryz.prog 61 #[.int .u32 g, v] w R := by
 apply q66W
 have hle := hr.le
 have hcl := cutK_length l
 refine JoinP.val (fun v0 w' => w' = w ∧ RdR EU w v0 (cutK l)) (fun j hj => ?_) ?_
 · refine ⟨_, hr.len, cond_intro (fun h => ?_) (fun h => hj _ _ ⟨rfl, ?_⟩)⟩
   · simp at h
     obtain ⟨v1, h1, r1, _⟩ := hr.sub (lo := none) (hi := some (.int .i64 (16 : Int))) (l := 0) (r := 16) (fun cap hc => by rw [bounds_ni (by omega) (by omega)]; rfl) (by omega) (by omega)
     exact ⟨v1, h1, hj _ _ ⟨rfl, r1⟩⟩
   · simp at h
     have e : cutK l = l := List.take_of_length_le (by omega)
     rw [e]; exact hr
 rintro v0 w' ⟨rfl, r1⟩
 rw [u64_of32 hg]
 refine gemelref1_Put_c (B := w'.heap.size) (bs := []) (Own.nil w' _ tb) (Nat.le_refl _) (by simp) fun v2 w3 n3 o3 => ⟨_, r1.len, ?_⟩
 have g3 : Grow w' w3 := n3.below (Nat.le_refl _) (fun k hk => by cases hk)
 rw [wi64_id (n := 8 * ((cutK l).length : Int)) (by omega) (by omega), w64_id (n := 8 * ((cutK l).length : Int)) (by omega) (by omega)]
 refine gemelref1_Put_c o3 g3.size (by simp [put4, putL_length]) fun v5 w6 n6 o6 => ?_
 have g6 : Grow w' w6 := g3.trans (n6.below g3.size o3.blk)
 have hd : putS (putS [] g 4) (8 * ((cutK l).length : Int)) 4 = putL g 4 ++ putL (8 * ((cutK l).length : Int)) 4 := rfl
 rw [hd] at o6
 refine ⟨fun (vv : Value) (i : Int) (ww : World) => 0 ≤ i ∧ i ≤ (cutK l).length ∧ Grow w' ww ∧ OwnB ww w'.heap.size tb vv (putL g 4 ++ putL (8 * ((cutK l).length : Int)) 4 ++ rowB ((cutK l).take i.toNat)), fun (_ : Value) (i : Int) (_ : World) => ((cutK l).length - i).toNat,
  ⟨by omega, by omega, g6, by simpa [rowB] using o6⟩, ?_⟩
 dsimp only [allR, mapR2, eqN, ltN]
 rintro m vv i ww ⟨⟨h0, h1', gg, oo⟩, hm⟩
 refine ⟨_, (r1.grow gg).len, cond_intro (fun h => ?_) (fun h => ?_)⟩
 · simp at h
   obtain ⟨a, ha, hc⟩ := EU_at (r1.grow gg) h0 h
   refine ⟨a, ha, _, hc, gemelref1_Put_c oo gg.size (by simp [putL_length, rowB_length]; omega) fun v14 w15 n15 o15 => ?_⟩
   rw [wi64_id (n := i + 1) (by omega) (by omega)]
   refine ⟨⟨by omega, by omega, gg.trans (n15.below gg.size oo.blk), ?_⟩, by omega⟩
   have e : (i + 1).toNat = i.toNat + 1 := by omega
   rw [e, List.take_add_one, List.getElem?_eq_getElem (by omega), rowB_append]
   rw [put8, List.append_assoc] at o15
   exact o15
 · simp at h
   have e : (cutK l).take i.toNat = cutK l := List.take_of_length_le (by omega)
   rw [e] at oo
   exact c _ _ gg oo.rd (fun q hq => oo.blk q hq)
end Go.Proofs.YtdinpgnjnleioaaGreatDoor.Rf
end
section
namespace Go.Proofs.YtdinpgnjnleioaaGreatDoor.Rf
open Go Go.CW Go.RowKit Go.Proofs.YtdinpgnjnleioaaGreatDoor
open Go.Proofs.YtdinpgnjnleioaaGreatDoor.Ses (Cm Rp RpAt RpOk rRp rCm nilV m32 Doer)
abbrev tUn : TypeId := 83
abbrev tDo : TypeId := 86
abbrev rUn (gs gt : Nat) : Array Value := #[.pointer (some ⟨gs, 0, none⟩), .pointer (some ⟨gt, 0, none⟩), nilV, nilV, nilV, nilV, nilV, nilV, nilV, nilV, .int .u64 0, .int .u64 0, .int .u64 0, .int .u64 0, .int .u64 0, .int .u64 0, .int .u64 0, .int .u64 0, nilV, nilV, nilV, nilV, nilV, nilV, nilV, nilV]
structure UnIn (w : World) (F : Fp) (gu gs gt N : Nat) (bv mv : Value) (m : List UInt8) (u : Ru) : Prop where
 o : BK w gu (rUn gs gt) tUn
 s : SpAt w gs N u.b bv mv m
 t : TAt w gt u
 fu : F gu
 fs : F gs
 ft : F gt
 fb : ∀ q, bv.ownBlock = some q → F q
 fm : ∀ q, mv.ownBlock = some q → F q
 n1 : gu ≠ gs
 n2 : gu ≠ gt
 n3 : gs ≠ gt
 nb : ∀ q, bv.ownBlock = some q → q ≠ gu ∧ q ≠ gt
 nm : ∀ q, mv.ownBlock = some q → q ≠ gu ∧ q ≠ gt
 lt : InW w F
def UnAt (w : World) (F : Fp) (gu N : Nat) (u : Ru) : Prop := ∃ gs gt bv mv m, UnIn w F gu gs gt N bv mv m u
variable {w w' : World} {F : Fp} {gu gs gt N : Nat} {bv mv : Value} {m : List UInt8} {u : Ru}
theorem UnIn.grow (h : UnIn w F gu gs gt N bv mv m u) (g : Grow w w') : UnIn w' F gu gs gt N bv mv m u :=
 ⟨h.o.grow g, h.s.grow g, h.t.grow g, h.fu, h.fs, h.ft, h.fb, h.fm, h.n1, h.n2, h.n3, h.nb, h.nm, h.lt.grow g⟩
theorem UnIn.turn {b : Nat} (h : UnIn w F gu gs gt N bv mv m u) (t : Turn b w w') (hb : ¬ F b) : UnIn w' F gu gs gt N bv mv m u :=
 ⟨h.o.turn t (fun e => hb (e ▸ h.fu)), ⟨h.s.o.turn t (fun e => hb (e ▸ h.fs)), Rd.turn h.s.rb t (fun e => hb (h.fb _ e)), Rd.turn h.s.rm t (fun e => hb (h.fm _ e)), h.s.hb, h.s.hN, h.s.hm, h.s.nb, h.s.nm, fun q hq => by have := h.s.lb q hq; have := t.size; omega, fun q hq => by have := h.s.lm q hq; have := t.size; omega⟩,
  h.t.turn t (fun e => hb (e ▸ h.ft)), h.fu, h.fs, h.ft, h.fb, h.fm, h.n1, h.n2, h.n3, h.nb, h.nm, fun k hk => by have := h.lt k hk; have := t.size; omega⟩
theorem UnIn.stable (h : UnIn w F gu gs gt N bv mv m u) (hz : w.heap.size ≤ w'.heap.size) (hk : ∀ k, F k → w'.heap[k]? = w.heap[k]?) : UnIn w' F gu gs gt N bv mv m u := by
 have rd : ∀ {v : Value} {xs : List UInt8}, RdB w v xs → (∀ q, v.ownBlock = some q → F q) → RdB w' v xs := fun hr hf => hr.kept fun a x ha ho => (cell_of_heap (hk _ (hf _ ho))).trans ha
 exact ⟨(hk _ h.fu).trans h.o, ⟨(hk _ h.fs).trans h.s.o, rd h.s.rb h.fb, rd h.s.rm h.fm, h.s.hb, h.s.hN, h.s.hm, h.s.nb, h.s.nm, fun q hq => Nat.lt_of_lt_of_le (h.s.lb q hq) hz, fun q hq => Nat.lt_of_lt_of_le (h.s.lm q hq) hz⟩,
  ⟨(hk _ h.ft).trans h.t.b, h.t.len⟩, h.fu, h.fs, h.ft, h.fb, h.fm, h.n1, h.n2, h.n3, h.nb, h.nm, fun k q => Nat.lt_of_lt_of_le (h.lt k q) hz⟩
theorem UnIn.table {S' : Fp} {u' : Ru} (h : UnIn w F gu gs gt N bv mv m u) (st : Step (fun q => q = gt) w w' S') (t : TAt w' gt u') (hb : u'.b = u.b) : UnIn w' F gu gs gt N bv mv m u' :=
 ⟨h.o.stepS st h.n2, ⟨h.s.o.stepS st h.n3, by rw [hb]; exact h.s.rb.stepS st (fun _ q hq => (h.nb q hq).2), h.s.rm.stepS st (fun _ q hq => (h.nm q hq).2), by rw [hb]; exact h.s.hb, h.s.hN, h.s.hm, h.s.nb, h.s.nm, fun q hq => Nat.lt_of_lt_of_le (h.s.lb q hq) st.size, fun q hq => Nat.lt_of_lt_of_le (h.s.lm q hq) st.size⟩,
  t, h.fu, h.fs, h.ft, h.fb, h.fm, h.n1, h.n2, h.n3, h.nb, h.nm, fun k hk => Nat.lt_of_lt_of_le (h.lt k hk) st.size⟩
theorem UnIn.space {S' : Fp} {b' m' : List UInt8} {bv' mv' : Value} (h : UnIn w F gu gs gt N bv mv m u) (st : Step (fun q => q = gs) w w' S') (s : SpAt w' gs N b' bv' mv' m') (n1 : NewV w bv') (n2 : NewV w mv') :
 UnIn w' (fun q => F q ∨ bv'.ownBlock = some q ∨ mv'.ownBlock = some q) gu gs gt N bv' mv' m' {u with b := b'} := by
 have l1 := h.o.lt
 have l2 := h.t.b.lt
 exact ⟨h.o.stepS st h.n1, s, TAt.eq ⟨h.t.b.stepS st h.n3.symm, h.t.len⟩ rfl rfl rfl rfl, .inl h.fu, .inl h.fs, .inl h.ft, fun q hq => .inr (.inl hq), fun q hq => .inr (.inr hq), h.n1, h.n2, h.n3,
  fun q hq => by have := n1 q hq; omega, fun q hq => by have := n2 q hq; omega, fun k hk => hk.elim (fun hk => Nat.lt_of_lt_of_le (h.lt k hk) st.size) (fun hk => hk.elim (s.lb k) (s.lm k))⟩
def u0n (N : Nat) : Ru := {u0 with b := List.replicate (N * 8) 0}
theorem uNew_c (h1 : 1 ≤ N) (h2 : N ≤ 1024) {R : KV} (k : ∀ gu F w', Grow w w' → (∀ q, F q → w.heap.size ≤ q) → UnAt w' F gu N (u0n N) → R (.tuple #[.pointer (some ⟨gu, 0, none⟩), .int .i64 (0 : Int)]) w') :
 CW.Spec Tryz.prog 21 #[.int .i64 (N : Int)] w R := by
 apply q59W
 refine sNew_c h1 h2 fun gs bv mv m w1 g1 lg nb nm s1 => ⟨_, _, rfl, cond_f rfl ?_⟩
 refine rNew_c fun w5 g5 t5 z5 => ⟨_, rfl, nm_ fun w7 e7 => ?_⟩
 obtain ⟨b7, g7, s7⟩ := alE e7
 have z1 := g1.size
 have lgs := s1.o.lt
 refine k w5.heap.size (fun q => q = w5.heap.size ∨ q = gs ∨ q = w1.heap.size ∨ bv.ownBlock = some q ∨ mv.ownBlock = some q) w7 (g1.then (g5.then g7)) (fun q hq => ?_)
  ⟨gs, w1.heap.size, bv, mv, m, b7, (s1.grow g5).grow g7, (t5.grow g7).eq rfl rfl rfl rfl, .inl rfl, .inr (.inl rfl), .inr (.inr (.inl rfl)), fun q hq => .inr (.inr (.inr (.inl hq))), fun q hq => .inr (.inr (.inr (.inr hq))), by omega, by omega, by omega, fun q hq => ?_, fun q hq => ?_, fun q hq => ?_⟩
 · rcases hq with rfl | rfl | rfl | hq | hq
   · omega
   · exact lg
   · omega
   · exact nb q hq
   · exact nm q hq
 · have := s1.lb q hq; omega
 · have := s1.lm q hq; omega
 · rcases hq with rfl | rfl | rfl | hq | hq
   · omega
   · omega
   · omega
   · have := s1.lb q hq; omega
   · have := s1.lm q hq; omega
where
 nm_ {w : World} {K : World → Prop} (h : ∀ w', w' = w → K w') : bindW w K := h w rfl
theorem wait_cell (h : UnIn w F gu gs gt N bv mv m u) {i : Nat} (hi : i < 8) : w.cell? (Addr.add (Addr.add ⟨gu, 0, none⟩ 2) (Int.toNat (i : Int) * 1)) = some nilV := by
 rw [add_add, h.o.cell]
 have : i = 0 ∨ i = 1 ∨ i = 2 ∨ i = 3 ∨ i = 4 ∨ i = 5 ∨ i = 6 ∨ i = 7 := by omega
 rcases this with rfl | rfl | rfl | rfl | rfl | rfl | rfl | rfl <;> rfl
theorem pop_c (h : UnIn w F gu gs gt N bv mv m u) {i : Nat} (hi : i < 8) {R : KV} (k : ∀ w', Grow w w' → R (.tuple #[.agg (rRp ⟨0, 0, 0, [], 0⟩ nilV), .bool false]) w') :
 CW.Spec Tryz.prog 49 #[.pointer (some ⟨gu, 0, none⟩), .int .i64 (i : Int)] w R := by
 apply q63W
 refine nm fun w0 e0 => ?_
 obtain ⟨b0, g0, s0⟩ := alE e0
 refine withAddr_some ⟨⟨by omega, by omega⟩, _, wait_cell (h.grow g0) hi, 0, rfl, cond_t rfl (ret5 b0 rfl rfl fun w' _ t => k _ (Below.turn g0 t (Nat.le_refl _)))⟩
def OkD (u : Ru) (N : Nat) (c : Cm) : Prop :=
 (c.kind = 2 ∧ c.n ≤ 32 ∧ c.pos + c.n ≤ N) ∨ (c.kind = 3 ∧ c.n ≤ 32 ∧ c.pos + c.n ≤ N ∧ c.d.length = c.n * 8) ∨ (c.kind = 10 ∧ c.new ≠ 0) ∨ (c.kind = 12 ∧ isT c.typ = true) ∨ (c.kind = 16 ∧ 0 ≤ u.gen ∧ u.gen < 4294967296)
theorem newV_nil (w : World) : NewV w nilV := fun q hq => by cases hq
theorem blocks_c (h : UnIn w F gu gs gt N bv mv m u) {c : Cm} {dv : Value} (hd : RdB w dv c.d) (ok : (c.kind = 2 ∨ (c.kind = 3 ∧ c.d.length = c.n * 8)) ∧ c.n ≤ 32 ∧ c.pos + c.n ≤ N) {R : KV}
 (k2 : ∀ v w', c.kind = 2 → Grow w w' → RpAt w w' v {good with d := (u.b.drop (c.pos * 8)).take (c.n * 8)} → R v w')
 (k3 : ∀ w' F', c.kind = 3 → Step F w w' F' → UnAt w' F' gu N {u with b := over u.b (c.pos * 8) c.d} → R (.agg (rRp good nilV)) w') :
 CW.Spec Tryz.prog 54 #[.pointer (some ⟨gu, 0, none⟩), .agg (rCm c dv)] w R := by
 apply q61W
 have hN := h.s.hN
 have hdi := Rd.isOne hd
 refine nm fun w0 e0 => ?_
 obtain ⟨b0', g0, s0⟩ := alE e0
 have b0 : BK w0 w.heap.size (rCm c dv) tCm := b0'
 refine nm fun w1 e1 => ?_
 obtain ⟨b1, g1, s1⟩ := alE e1
 refine nm fun w2 e2 => ?_
 have g2 := drE e2
 have gA : Grow w w2 := g0.then (g1.then g2)
 have hA := h.grow gA
 refine withAddr_some ⟨_, hA.o.cell 0, _, ((b0.grow g1).grow g2).cell 1, _, ((b0.grow g1).grow g2).cell 2, nm fun w7 e7 => ?_⟩
 have g7 := drE e7
 have gB : Grow w w7 := g0.then (g1.then g7)
 have hB := h.grow gB
 have c7 := (b0.grow g1).grow g7
 have r7 := b1.grow g7
 have nF : ¬ F w.heap.size := fun hh => by have := h.lt _ hh; omega
 have nF0 : ¬ F w0.heap.size := fun hh => by have := h.lt _ hh; omega
 refine sIn_c hB.s (by omega) ⟨_, rfl, cond_f (by rw [decide_eq_true ok.2]; rfl) ⟨_, c7.cell 0, ?_⟩⟩
 refine JoinP.unit (fun w' => c.kind = 3 ∧ ∃ F', Md F w.heap.size w w' ∧ (∀ q, F' q → F q ∨ w.heap.size ≤ q) ∧ UnAt w' F' gu N {u with b := over u.b (c.pos * 8) c.d} ∧ BK w' w0.heap.size #[.int .i64 0, .int .i64 0, .int .i64 0, nilV, .int .i64 0] tRp ∧ ¬ F' w0.heap.size) (fun j hj => ?_) ?_
 · rcases ok.1 with h2 | ⟨h3, hlen⟩
   · refine cond_t (by rw [h2]; rfl) (nm fun w33 e33 => ?_)
     have g33 := drE e33
     refine withAddr_some ⟨_, (hB.grow g33).o.cell 0, _, (c7.grow g33).cell 1, _, (c7.grow g33).cell 2, nm fun w38 e38 => ?_⟩
     have g38 := drE e38
     refine sRead_c (hB.grow g38).s ok.2 fun v w40 g40 rd nv => ⟨v, _, rfl, oneK_of (Rd.isOne rd) (ret5 ((r7.grow g38).grow g40) rfl (Rd.isOne rd) fun w' b' t' => ?_)⟩
     have gg : Grow w w40 := (gB.then g38).then g40
     have z0 : w0.heap.size < w38.heap.size := Nat.lt_of_lt_of_le r7.lt g38.size
     refine k2 _ w' h2 (Below.turn gg t' (Nat.le_of_lt (by omega))) ⟨v, rfl, Rd.turn rd t' (fun e => by have := nv _ e; omega), nv.of (gB.then g38).size⟩
   · refine cond_f (by rw [h3]; rfl) (cond_t (by rw [h3]; rfl) ⟨dv, c7.cell 3, _, RdB.len hd, _, c7.cell 2, cond_f ?_ ?_⟩)
     · rw [wi64_id (by omega) (by omega), hlen]; simp
     · refine nm fun w65 e65 => ?_
       have g65 := drE e65
       refine withAddr_some ⟨_, (hB.grow g65).o.cell 0, _, (c7.grow g65).cell 1, dv, (c7.grow g65).cell 3, nm fun w70 e70 => ?_⟩
       have g70 := drE e70
       have gC := gB.then g70
       refine sWrite_c (hB.grow g70).s ok.2 (hd.grow gC) hlen fun w72 bv' mv' m' st s72 n1 n2 => ⟨_, rfl, hj _ ⟨h3, _, ?_, ?_, ⟨gs, gt, bv', mv', m', (hB.grow g70).space st s72 n1 n2⟩, ?_, ?_⟩⟩
       · exact ((Md.refl F w.heap.size w).grow gC).stp st (fun q hq => by rw [hq]; exact .inl h.fs) (fun q hq => .inl (by rw [hq]; exact .inl h.fs))
       · intro q hq
         rcases hq with hq | hq | hq
         · exact .inl hq
         · have := n1 q hq; have := gC.size; exact .inr (by omega)
         · have := n2 q hq; have := gC.size; exact .inr (by omega)
       · exact (r7.grow g70).stepS st (fun e => nF0 (by rw [e]; exact h.fs))
       · have z0 : w0.heap.size < w70.heap.size := Nat.lt_of_lt_of_le r7.lt g70.size
         intro hh
         rcases hh with hh | hh | hh
         · exact nF0 hh
         · have := n1 _ hh; omega
         · have := n2 _ hh; omega
 · rintro w' ⟨h3, F', md, hF', ⟨gs', gt', bv', mv', m', hu'⟩, br, nf⟩
   refine ret5 br rfl rfl fun w3 b3 t3 => k3 w3 F' h3 ?_ ⟨gs', gt', bv', mv', m', hu'.turn t3 nf⟩
   have := (md.turn t3 (.inr (by have := g0.size; omega))).out
   exact this.imp (fun _ h => h) hF'
end Go.Proofs.YtdinpgnjnleioaaGreatDoor.Rf
end
section
namespace Go.Proofs.YtdinpgnjnleioaaGreatDoor.Rf
open Go Go.CW Go.RowKit Go.Proofs.YtdinpgnjnleioaaGreatDoor
open Go.Proofs.YtdinpgnjnleioaaGreatDoor.Ses (Cm Rp RpAt RpOk rRp rCm nilV m32 Doer)
variable {w w' : World} {F : Fp} {gu gs gt N : Nat} {bv mv : Value} {m : List UInt8} {u : Ru}
structure Lo (w w' : World) (F : Fp) (c : Cm) (dv : Value) : Prop where
 g : Grow w w'
 bc : BK w' w.heap.size (rCm c dv) tCm
 br : BK w' (w.heap.size + 1) #[.int .i64 0, .int .i64 0, .int .i64 0, nilV, .int .i64 0] tRp
theorem Lo.grow {w2 : World} {c : Cm} {dv : Value} (h : Lo w w' F c dv) (g : Grow w' w2) : Lo w w2 F c dv := ⟨h.g.then g, h.bc.grow g, h.br.grow g⟩
theorem uDo_c (h0 : UnIn w F gu gs gt N bv mv m u) {i : Nat} (hi : i < 8) {c : Cm} {dv : Value} (hd : RdB w dv c.d) (ok : OkD u N c) {R : KV}
 (k : ∀ v w' F', Step F w w' F' → UnAt w' F' gu N (stepH u i c).2 → RpAt w w' v (stepH u i c).1 → R v w') :
 CW.Spec Tryz.prog 22 #[.pointer (some ⟨gu, 0, none⟩), .int .i64 (i : Int), .agg (rCm c dv)] w R := by
 apply q60W
 have hdi := Rd.isOne hd
 have kr : 2 ≤ c.kind ∧ c.kind ≤ 16 ∧ c.kind ≠ 9 ∧ c.kind ≠ 8 ∧ c.kind ≠ 7 ∧ c.kind ≠ 11 := by
  rcases ok with ok | ok | ok | ok | ok <;> have := ok.1 <;> omega
 refine nm fun w0 e0 => ?_
 obtain ⟨b0', g0, s0⟩ := alE e0
 have b0 : BK w0 w.heap.size (rCm c dv) tCm := b0'
 refine nm fun w1 e1 => ?_
 obtain ⟨b1, g1, s1⟩ := alE e1
 have z0 : w0.heap.size = w.heap.size + 1 := s0
 rw [z0] at b1
 have l1 : Lo w w1 F c dv := ⟨g0.then g1, b0.grow g1, b1⟩
 rw [z0]
 have nF : ∀ q, w.heap.size ≤ q → ¬ F q := fun q hq hh => by have := h0.lt _ hh; omega
 have fin : ∀ {w3 : World} {x0 x1 x2 x4 : Int} {x3 : Value} {F' : Fp} {u' : Ru} {r : Rp}, Md F w.heap.size w w3 → (∀ q, F' q → F q ∨ w.heap.size ≤ q) → BK w3 (w.heap.size + 1) #[.int .i64 0, .int .i64 0, .int .i64 0, nilV, .int .i64 0] tRp → UnAt w3 F' gu N u' → ¬ F' (w.heap.size + 1) → isOne x3 = true → RdB w3 x3 r.d → NewV w x3 → x3.ownBlock ≠ some (w.heap.size + 1) → r = ⟨x0, x1, x2, r.d, x4⟩ → stepH u i c = (r, u') →
  (StRow w3 ⟨w.heap.size + 1, 0, none⟩ #[.int .i64 x0, .int .i64 x1, .int .i64 x2, x3, .int .i64 x4]) ∧
  bindW (stRow w3 ⟨w.heap.size + 1, 0, none⟩ #[.int .i64 x0, .int .i64 x1, .int .i64 x2, x3, .int .i64 x4]) fun w' =>
  ∃ (n0 : Int) (n1 : Int) (n2 : Int) (v3 : Value) (n4 : Int), (ldCells w' ⟨w.heap.size + 1, 0, none⟩ 5 #[.int .i64 n0, .int .i64 n1, .int .i64 n2, v3, .int .i64 n4]) ∧ R (.agg #[.int .i64 n0, .int .i64 n1, .int .i64 n2, v3, .int .i64 n4]) w' := by
  intro w3 x0 x1 x2 x4 x3 F' u' r md hF' br ⟨gs', gt', bv', mv', m', hu'⟩ nf ho hr hn hne er es
  refine ret5 br rfl ho fun w' b' t' => ?_
  rw [es] at k
  refine k _ w' F' ((md.turn t' (.inr (by omega))).out.imp (fun _ h => h) hF') ⟨gs', gt', bv', mv', m', hu'.turn t' nf⟩ ⟨x3, ?_, Rd.turn hr t' hne, hn⟩
  show _ = Value.agg (rRp r x3)
  rw [er]
 refine JoinP.bool (fun b w' => b = false ∧ w1 = w') (fun j hj => cond_f (by simp) (cond_f (by simp; omega) ⟨_, l1.bc.cell 0, cond_f (by simp; omega) ⟨_, l1.bc.cell 0, hj _ _ ⟨by simp; omega, rfl⟩⟩⟩)) ?_
 rintro _ _ ⟨rfl, rfl⟩
 refine cond_f rfl ⟨_, l1.bc.cell 0, cond_f (by simpa using kr.2.2.1) ?_⟩
 refine JoinP.unit (fun w' => Lo w w' F c dv) (fun j hj => ⟨_, l1.bc.cell 0, cond_t (by simpa using kr.2.2.2.1) ?_⟩) ?_
 · refine pop_c (h0.grow l1.g) hi fun w2 g2 => ⟨_, _, _, _, _, _, rfl, nm fun w3 e3 => ?_⟩
   obtain ⟨b3, g3, s3⟩ := alE e3
   refine ⟨b3.row rfl rfl, nm fun w4 e4 => cond_f rfl (hj _ ?_)⟩
   obtain ⟨b4, t4⟩ := rowE b3 e4 rfl
   have l3 := (l1.grow g2).grow g3
   have q1 := (l1.grow g2).bc.lt
   have q2 := (l1.grow g2).br.lt
   exact ⟨Below.turn l3.g t4 (by omega), l3.bc.turn t4 (by omega), l3.br.turn t4 (by omega)⟩
 intro w41 l41
 refine nm fun w42 e42 => ?_
 have g42 := drE e42
 have h42 := h0.grow (l41.g.then g42)
 refine withAddr_some ⟨_, h42.o.cell 1, _, (l41.grow g42).bc.cell 0, nm fun w46 e46 => ?_⟩
 have g46 := drE e46
 have l46 := l41.grow g46
 have h46 := h0.grow l46.g
 refine Allows_c h46.t hi ⟨_, rfl, cond_intro (fun ha => ?_) (fun ha => ?_)⟩
 · have ha : allowsR u i c.kind = false := by simpa using ha
   exact fin (r := conf) (u' := u) (F' := F) ((Md.refl F w.heap.size w).grow l46.g) (fun _ h => .inl h) l46.br ⟨gs, gt, bv, mv, m, h46⟩ (nF _ (by omega)) rfl (Rd.nil _) (newV_nil w) (fun e => by cases e) rfl (by unfold stepH; rw [if_pos ha])
 have ha : ¬ allowsR u i c.kind = false := by
  have ha : allowsR u i c.kind = true := by simpa using ha
  rw [ha]; simp
 refine ⟨_, l46.bc.cell 0, ?_⟩
 have d46 : RdB w46 dv c.d := hd.grow l46.g
 have tab : ∀ {w3 : World} {r : Rp} {u' : Ru} {S' : Fp}, Lo w w3 F c dv → ∀ {w4 : World}, Step (fun q => q = gt) w3 w4 S' → TAt w4 gt u' → u'.b = u.b → r.d = [] → stepH u i c = (r, u') →
  Md F w.heap.size w w4 ∧ UnAt w4 F gu N u' ∧ BK w4 (w.heap.size + 1) #[.int .i64 0, .int .i64 0, .int .i64 0, nilV, .int .i64 0] tRp := by
  intro w3 r u' S' l3 w4 st t4 hb hr es
  have h3 := h0.grow l3.g
  refine ⟨((Md.refl F w.heap.size w).grow l3.g).stp (st.imp (T := fun q => q = gt) (T' := fun q => q = gt) (fun _ h => h) (fun _ h => .inl h)) (fun q hq => by rw [hq]; exact .inl h0.ft) (fun q hq => .inl (by rw [hq]; exact .inl h0.ft)), ⟨gs, gt, bv, mv, m, h3.table st t4 hb⟩, l3.br.stepS st (fun e => nF _ (by omega) (e ▸ h0.ft))⟩
 refine JoinP.unit (fun w' => False) (fun j64 _ => ?_) (fun w' hf => hf.elim)
 refine cond_f (by simpa using kr.2.2.2.1) (cond_f (by simpa using kr.2.2.2.2.1) ?_)
 refine JoinP.bool (fun b w' => b = decide (c.kind = 2 ∨ c.kind = 3) ∧ w46 = w') (fun j hj => ?_) ?_
 · refine cond_intro (fun q => hj _ _ ⟨?_, rfl⟩) (fun q => cond_intro (fun q' => hj _ _ ⟨?_, rfl⟩) (fun q' => cond_intro (fun q2 => ?_) (fun q2 => cond_intro (fun q3 => ?_) (fun q3 => hj _ _ ⟨?_, rfl⟩))))
   · have q : c.kind = 2 := by simpa using q
     rw [q]; rfl
   · have q' : c.kind = 3 := by simpa using q'
     rw [q']; rfl
   · have q2 : c.kind = 4 := by simpa using q2
     exact absurd ok (by unfold OkD; rw [q2]; simp)
   · have q3 : c.kind = 5 := by simpa using q3
     exact absurd ok (by unfold OkD; rw [q3]; simp)
   · have q : ¬ c.kind = 2 := by simpa using q
     have q' : ¬ c.kind = 3 := by simpa using q'
     have : ¬ c.kind = 6 := fun e => absurd ok (by unfold OkD; rw [e]; simp)
     simp [q, q', this]
 rintro b _ ⟨rfl, rfl⟩
 refine cond_intro (fun hb => ?_) (fun hb => ?_)
 · have hb := of_decide_eq_true hb
   have okb : (c.kind = 2 ∨ (c.kind = 3 ∧ c.d.length = c.n * 8)) ∧ c.n ≤ 32 ∧ c.pos + c.n ≤ N := by
    rcases ok with ok | ok | ok | ok | ok
    · exact ⟨.inl ok.1, ok.2⟩
    · exact ⟨.inr ⟨ok.1, ok.2.2.2⟩, ok.2.1, ok.2.2.1⟩
    · have := ok.1; omega
    · have := ok.1; omega
    · have := ok.1; omega
   refine ⟨_, _, _, _, _, _, _, _, l46.bc.ld rfl, ?_⟩
   refine blocks_c h46 d46 okb (fun v w' h2 g' hv => ?_) (fun w' F' h3 st hu => ?_)
   · obtain ⟨dv', rfl, rd', nv'⟩ := hv
     have l' := l46.grow g'
     refine ⟨_, _, _, _, _, rfl, fin (r := {good with d := (u.b.drop (c.pos * 8)).take (c.n * 8)}) (u' := u) (F' := F) ((Md.refl F w.heap.size w).grow l'.g) (fun _ h => .inl h) l'.br ⟨gs, gt, bv, mv, m, h0.grow l'.g⟩ (nF _ (by omega)) (Rd.isOne rd') rd' (nv'.of l46.g.size) (fun e => by have := nv' _ e; have := l46.br.lt; omega) rfl ?_⟩
     unfold stepH
     rw [if_neg ha, if_pos h2]
   · refine ⟨_, _, _, _, _, rfl, fin (r := good) (u' := {u with b := over u.b (c.pos * 8) c.d}) (F' := F') ?_ ?_ ?_ hu ?_ rfl (Rd.nil _) (newV_nil w) (fun e => by cases e) rfl ?_⟩
     · refine ((Md.refl F w.heap.size w).grow l46.g).stp (T' := F') st (fun q hq => .inl hq) (fun q hq => ?_)
       rcases st.fp q hq with hq | hq
       · exact .inl (.inl hq)
       · exact .inr hq
     · intro q hq
       rcases st.fp q hq with hq | hq
       · exact .inl hq
       · have := l46.g.size; exact .inr (by omega)
     · exact l46.br.stepS st (nF _ (by omega))
     · intro hq
       rcases st.fp _ hq with hq | hq
       · exact nF _ (by omega) hq
       · have := l46.br.lt; omega
     · unfold stepH
       rw [if_neg ha, if_neg (by omega), if_pos h3]; rfl
 have hb := of_decide_eq_false hb
 refine JoinP.bool (fun b w' => b = decide (c.kind = 10) ∧ w46 = w') (fun j hj => cond_intro (fun q => hj _ _ ⟨?_, rfl⟩) (fun q => hj _ _ ⟨?_, rfl⟩)) ?_
 · have q : c.kind = 10 := by simpa using q
   rw [q]; rfl
 · have q : ¬ c.kind = 10 := by simpa using q
   have q' := kr.2.2.2.2.2
   rw [decide_eq_false q]; simpa using q'
 rintro b _ ⟨rfl, rfl⟩
 refine cond_intro (fun hk => ?_) (fun hk => ?_)
 · have hk := of_decide_eq_true hk
   have hnew : c.new ≠ 0 := by
    rcases ok with ok | ok | ok | ok | ok
    · have := ok.1; omega
    · have := ok.1; omega
    · exact ok.2
    · have := ok.1; omega
    · have := ok.1; omega
   obtain ⟨r, u', hr⟩ : ∃ r u', (r, u') = (if u.keys.getD i 0 = c.key then (good, {u with keys := u.keys.set i c.new, gen := m32 (u.gen + 1)}) else (conf, u)) := ⟨_, _, rfl⟩
   have es : stepH u i c = (r, u') := by
    unfold stepH
    rw [if_neg ha, if_neg (by omega), if_neg (by omega), if_pos hk, ← hr]
   have hud : u'.b = u.b ∧ r.d = [] := by
    by_cases q : u.keys.getD i 0 = c.key
    · rw [if_pos q] at hr; cases hr; exact ⟨rfl, rfl⟩
    · rw [if_neg q] at hr; cases hr; exact ⟨rfl, rfl⟩
   refine go2 (fun v1 v2 w' => v2 = nilV ∧ ∃ b, v1 = .pointer (some ⟨b, 0, none⟩) ∧ w.heap.size + 1 < b ∧ BK w' b (rRp r nilV) tRp ∧ Md F w.heap.size w w' ∧ UnAt w' F gu N u' ∧ BK w' (w.heap.size + 1) #[.int .i64 0, .int .i64 0, .int .i64 0, nilV, .int .i64 0] tRp) (fun j hj => ?_) ?_
   · refine nm fun w128 e128 => ?_
     have g128 := drE e128
     have l128 := l46.grow g128
     refine withAddr_some ⟨_, (h0.grow l128.g).o.cell 1, _, l128.bc.cell 4, _, l128.bc.cell 5, _, l128.bc.cell 0, nm fun w134 e134 => ?_⟩
     have g134 := drE e134
     have l134 := l46.grow g134
     have h134 := h0.grow l134.g
     have e11 : (c.kind == 11) = false := by simpa using kr.2.2.2.2.2
     rw [e11]
     refine ⟨?_, ?_⟩
     · refine Register_c h134.t hi hnew hr fun w136 st t136 => ⟨_, _, _, _, _, _, rfl, ?_⟩
       obtain ⟨md, hu, br⟩ := tab l134 st t136 hud.1 hud.2 es
       obtain ⟨gs2, gt2, bv2, mv2, m2, hu⟩ := hu
       have bc : BK w136 w.heap.size (rCm c dv) tCm := l134.bc.stepS st (fun e => nF _ (Nat.le_refl _) (e ▸ h0.ft))
       obtain ⟨a2, ha2⟩ : ∃ a2, a2 = World.alloc w136 (.cells #[(.int .i64 (0 : Int)), (.int .i64 (0 : Int)), (.int .i64 (0 : Int)), (.slice none 0 0), (.int .i64 (0 : Int))] tRp) := ⟨_, rfl⟩
       obtain ⟨b2, g2, s2⟩ := alE ha2
       have bc2 := bc.grow g2
       have hu2 : UnIn a2 F gu gs2 gt2 N bv2 mv2 m2 u' := hu.grow g2
       have o2 := (h134.table st t136 hud.1).o.grow g2
       rw [ha2] at bc2 o2
       refine ⟨⟨_, o2.cell 1, rfl⟩, ⟨_, bc2.cell 4, rfl⟩, ⟨_, bc2.cell 5, rfl⟩, ⟨_, bc2.cell 0, rfl⟩, nm fun wa ea => nm fun wb eb => ?_⟩
       obtain rfl : wb = a2 := eb.trans ha2.symm
       refine ⟨b2.row rfl rfl, nm fun wc ec => nm fun wd ed => hj _ _ _ ⟨rfl, w136.heap.size, rfl, ?_, ?_⟩⟩
       · exact br.lt
       · obtain ⟨bd, td⟩ := rowE b2 ed rfl
         have q1 := br.lt
         exact ⟨bd, (md.grow g2).turn td (.inr (by omega)), ⟨gs2, gt2, bv2, mv2, m2, hu2.turn td (nF _ (by omega))⟩, (br.grow g2).turn td (by omega)⟩
     · obtain ⟨a2, ha2⟩ : ∃ a2, a2 = World.alloc w134 (.cells #[(.int .i64 (0 : Int)), (.int .i64 (0 : Int)), (.int .i64 (0 : Int)), (.slice none 0 0), (.int .i64 (0 : Int))] tRp) := ⟨_, rfl⟩
       obtain ⟨b2, g2, s2⟩ := alE ha2
       have l2 := l134.grow g2
       have bc2 := l2.bc
       have o2 := (h0.grow l2.g).o
       rw [ha2] at bc2 o2
       refine ⟨⟨_, o2.cell 1, rfl⟩, ⟨_, bc2.cell 4, rfl⟩, ⟨_, bc2.cell 5, rfl⟩, ⟨_, bc2.cell 0, rfl⟩, nm fun wa ea => nm fun wb eb => ?_⟩
       obtain rfl : wb = a2 := eb.trans ha2.symm
       have h2 := h0.grow l2.g
       refine Register_c h2.t hi hnew hr fun w136 st t136 => ⟨_, _, _, _, _, _, rfl, ?_⟩
       obtain ⟨md, hu, br⟩ := tab l2 st t136 hud.1 hud.2 es
       obtain ⟨gs2, gt2, bv2, mv2, m2, hu⟩ := hu
       have q0 := l134.br.lt
       have b3 := b2.stepS st (fun e => nF _ (by omega) (e ▸ h0.ft))
       refine ⟨b3.row rfl rfl, nm fun wc ec => nm fun wd ed => hj _ _ _ ⟨rfl, w134.heap.size, rfl, q0, ?_⟩⟩
       obtain ⟨bd, td⟩ := rowE b3 ed rfl
       exact ⟨bd, md.turn td (.inr (by omega)), ⟨gs2, gt2, bv2, mv2, m2, hu.turn td (nF _ (by omega))⟩, br.turn td (by omega)⟩
   · rintro v1 v2 w' ⟨rfl, b, rfl, hbl, bk, md, hu, br⟩
     refine notes_nil fun _ => ⟨rfl, withAddr_some ⟨_, _, _, _, _, bk.ld rfl, ?_⟩⟩
     exact fin (r := r) (u' := u') (F' := F) md (fun _ h => .inl h) br hu (nF _ (by omega)) rfl (by rw [hud.2]; exact Rd.nil _) (newV_nil w) (fun e => by cases e) rfl es
 have hk := of_decide_eq_false hk
 refine cond_intro (fun h12 => ?_) (fun h12 => ?_)
 · have h12 : c.kind = 12 := by simpa using h12
   have hty : isT c.typ = true := by
    rcases ok with ok | ok | ok | ok | ok
    · have := ok.1; omega
    · have := ok.1; omega
    · have := ok.1; omega
    · exact ok.2
    · have := ok.1; omega
   obtain ⟨r, u', hr⟩ : ∃ r u', (r, u') = (if u.keys.getD i 0 = 0 ∨ u.keys.getD i 0 ≠ c.key then (conf, u) else if isT c.typ = false then (⟨2, 5, 9216, [], 0⟩, u) else if u.holder < 0 then (good, {u with holder := (i : Int), typ := c.typ}) else if u.holder ≠ (i : Int) ∨ u.typ ≠ c.typ then (conf, u) else (good, u)) := ⟨_, _, rfl⟩
   have es : stepH u i c = (r, u') := by
    unfold stepH
    rw [if_neg ha, if_neg (by omega), if_neg (by omega), if_neg hk, if_pos h12, hr, if_neg (c := isT c.typ = false) (by rw [hty]; simp)]
   have hud : u'.b = u.b ∧ r.d = [] := by
    by_cases q : u.keys.getD i 0 = 0 ∨ u.keys.getD i 0 ≠ c.key
    · rw [if_pos q] at hr; cases hr; exact ⟨rfl, rfl⟩
    rw [if_neg q, if_neg (by rw [hty]; simp)] at hr
    by_cases q2 : u.holder < 0
    · rw [if_pos q2] at hr; cases hr; exact ⟨rfl, rfl⟩
    rw [if_neg q2] at hr
    by_cases q3 : u.holder ≠ (i : Int) ∨ u.typ ≠ c.typ
    · rw [if_pos q3] at hr; cases hr; exact ⟨rfl, rfl⟩
    · rw [if_neg q3] at hr; cases hr; exact ⟨rfl, rfl⟩
   refine nm fun w167 e167 => ?_
   have l167 := l46.grow (drE e167)
   refine withAddr_some ⟨_, (h0.grow l167.g).o.cell 1, _, l167.bc.cell 4, _, l167.bc.cell 6, nm fun w172 e172 => ?_⟩
   have l172 := l46.grow (drE e172)
   refine Reserve_c (h0.grow l172.g).t hi hr fun w174 st t174 => ⟨_, _, _, _, _, rfl, ?_⟩
   obtain ⟨md, hu, br⟩ := tab l172 st t174 hud.1 hud.2 es
   exact dup (fin (r := r) (u' := u') (F' := F) md (fun _ h => .inl h) br hu (nF _ (by omega)) rfl (by rw [hud.2]; exact Rd.nil _) (newV_nil w) (fun e => by cases e) rfl es)
 have h12 : ¬ c.kind = 12 := by simpa using h12
 have h16 : c.kind = 16 ∧ 0 ≤ u.gen ∧ u.gen < 4294967296 := by
  rcases ok with ok | ok | ok | ok | ok
  · have := ok.1; omega
  · have := ok.1; omega
  · have := ok.1; omega
  · have := ok.1; omega
  · exact ok
 refine cond_f (by rw [h16.1]; rfl) (cond_f (by rw [h16.1]; rfl) (cond_f (by rw [h16.1]; rfl) (cond_t (by rw [h16.1]; rfl) (nm fun w349 e349 => ?_))))
 have l349 := l46.grow (drE e349)
 have h349 := h0.grow l349.g
 refine withAddr_some ⟨_, h349.o.cell 1, withAddr_some ⟨_, h349.t.at10, withAddr_some ⟨_, h349.o.cell 1, nm fun w356 e356 => ?_⟩⟩⟩
 have l356 := l46.grow (drE e356)
 have h356 := h0.grow l356.g
 refine List_c h356.t fun v357 w358 g358 r357 n357 => ?_
 have l358 := l356.grow g358
 have h358 := h0.grow l358.g
 refine ⟨⟨_, h358.o.cell 1, rfl⟩, ⟨_, h358.t.at10, rfl⟩, Keys_c h16.2 r357 fun v361 w362 g362 r361 n361 => oneK_of (Rd.isOne r361) ?_⟩
 have l362 := l358.grow g362
 refine dup (fin (r := {good with d := Lst.keysB u.gen (listR u)}) (u' := u) (F' := F) ((Md.refl F w.heap.size w).grow l362.g) (fun _ h => .inl h) l362.br ⟨gs, gt, bv, mv, m, h0.grow l362.g⟩ (nF _ (by omega)) (Rd.isOne r361) r361 (n361.of l358.g.size) (fun e => by have := n361 _ e; have := l358.br.lt; omega) rfl ?_)
 unfold stepH
 rw [if_neg ha, if_neg (by omega), if_neg (by omega), if_neg hk, if_neg h12]
where
 go2 {rest : Value → Value → World → Prop} {body : (Value → Value → World → Prop) → Prop} (Q : Value → Value → World → Prop) (hb : ∀ j : Value → Value → World → Prop, (∀ a b w, Q a b w → j a b w) → body j) (h : ∀ a b w, Q a b w → rest a b w) : JoinP [.val, .val] rest body := hb rest h
 dup {A : Prop} {w1 : World} {P : World → Prop} (h : A ∧ bindW w1 P) : A ∧ bindW w1 fun _ => bindW w1 P := h
 notes_nil {w : World} {gu : Nat} {P : Value → World → Prop} (h : ∀ (_ : Unit), P (.tuple #[]) w) : CW.Spec Tryz.prog 56 #[.pointer (some ⟨gu, 0, none⟩), nilV] w P := by
  apply q62W
  refine ⟨fun (i : Int) (w' : World) => i = 0 ∧ w' = w, fun _ _ => 0, ⟨rfl, rfl⟩, ?_⟩
  dsimp only [allR, mapR2, eqN, ltN]
  rintro m i w' ⟨⟨rfl, rfl⟩, hm⟩
  exact ⟨0, rfl, cond_f rfl (h ())⟩
end Go.Proofs.YtdinpgnjnleioaaGreatDoor.Rf
end
