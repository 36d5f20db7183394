/- Runs in which nothing is unknown: the summaries of the library's functions are right. -/
import Derived.Test.YtghineciiljeoaaGreatDoorQExE
import Derived.Test.YtghineciiljeoaaGreatDoorQCrcA
import Derived.Test.YtghineciiljeoaaGreatDoorQPutW
import Derived.Test.YtghineciiljeoaaGreatDoorQIto
set_option linter.unusedSimpArgs false
set_option linter.unusedVariables false
set_option maxRecDepth 100000
namespace Go.Proofs.YtghineciiljeoaaGreatDoor
open Go Go.CW Go.CW.Ex Go.Crc Go.RowKit
theorem bytes_rd {w0 w : World} {B : Nat} {φ : PM} {h : H} (r : Hd w0 B φ h w) {x : EV} {bs : List Nat} {X : Value} (hb : bytesOf h x = some bs) (hx : upV φ x = some X) : RdB w X (bs.map UInt8.ofNat) ∧ bytesE bs = true := by
 unfold bytesOf at hb
 split at hb
 · next n l hsrc =>
   split at hb
   · next bs' hcb =>
     cases hck : bytesE bs' && noStr x && capOk h x
     · rw [hck] at hb; cases hb
     rw [hck] at hb
     cases hb
     simp only [Bool.and_eq_true] at hck
     obtain ⟨⟨c1, c2⟩, c3⟩ := hck
     obtain ⟨ys, q1, _, _⟩ := srcE_sound (P := Tryz.prog) (tx := 9) r hsrc hx (.inr (by kernel_rfl))
     obtain ⟨r1, r2, r3⟩ := src_row r hsrc hx c2 q1
     have hys := cellBytes_up hcb q1
     rw [bytes_cells c1] at hys
     refine ⟨?_, c1⟩
     have hlen : ((bs.map UInt8.ofNat).map b8).length = n := by rw [← hys]; simpa using r2
     have mk : ∀ (a : Addr) (cap : Nat), X = .slice (some a) n cap → n ≤ cap → cap ≤ maxLen → (∀ i, i < n → w.cell? (a.add i) = ys[i]?) → RdB w X (bs.map UInt8.ofNat) := by
      intro a cap hX h1 h2 h3
      refine ⟨some a, cap, by rw [hlen]; exact hX, by rw [hlen]; exact h1, h2, (fun e => by cases e), fun j u hj => ⟨a, rfl, ?_⟩⟩
      have hjl : j < n := by rw [← hlen]; exact (List.getElem?_eq_some_iff.1 hj).1
      rw [h3 j hjl, hys, hj]
     rcases r3 with ⟨rfl, rfl⟩ | ⟨a, cap, hX, r4⟩
     · have : bs = [] := by rw [hys] at r2; simpa using r2
       subst this
       exact Rd.nil w
     · simp only [Nat.mul_one] at r4 r2
       cases x with
       | sl b o l c =>
         simp only [capOk, Bool.and_eq_true, Nat.ble_eq] at c3
         simp only [upV] at hx
         split at hx
         · next p hp =>
           cases hx
           cases hX
           exact mk _ _ rfl c3.1 (by simp only [maxLen]; omega) r4
         · cases hx
       | su b o l =>
         simp only [capOk, suOk] at c3
         split at c3
         · next e s a2 cs hat =>
           rw [Bool.and_eq_true, Nat.beq_eq, Nat.ble_eq, lenE_eq] at c3
           obtain ⟨p', e3, s3, a3, xs, hat2, hp', hps, hca, i1, i2, i3, i4⟩ := r.read (b := b) (cs := cs) (by unfold H.cells; rw [hat])
           rw [hat] at hat2; cases hat2
           simp only [upV, hp'] at hx
           cases hx
           cases hX
           have hlx := upL_length i1
           have hm := hca.most
           rw [hps, c3.1] at *
           refine mk _ _ rfl ?_ ?_ r4
           · rw [Nat.div_one]; omega
           · rw [Nat.div_one] at hm ⊢; omega
         · cases c3
       | st b o l z =>
         simp only [capOk, okSize] at c3
         split at c3
         · next e s a2 cs hat =>
           rw [Nat.beq_eq] at c3
           obtain ⟨p, hp, _, _, hca⟩ := r.cells _ _ _ _ _ hat
           simp only [upV, hp] at hx
           cases hx
           cases hX
           have hm := hca.most
           have hps := hca.size
           rw [hps, c3, Nat.div_one] at hm
           refine mk _ _ rfl (Nat.zero_le _) ?_ r4
           cases z
           · simp only [cond_false]; rw [hps, c3, Nat.div_one]; omega
           · exact Nat.zero_le _
         · cases c3
       | nils => simp only [upV, Option.some.injEq] at hx; subst hx; cases hX
       | str q => cases c2
       | int k q => cases hsrc
       | bool q => cases hsrc
       | ptr b o => cases hsrc
       | nilp => cases hsrc
       | mp b => cases hsrc
       | nilm => cases hsrc
       | fn f a c => cases hsrc
       | nilf => cases hsrc
       | nili => cases hsrc
       | agg l => cases hsrc
       | tup l => cases hsrc
   · cases hb
 · cases hb
theorem tab_ok : ∀ i : Fin 16, nthN tabE i.val = some (stn 4 (BitVec.ofNat 32 i.val)).toNat := by decide +kernel
theorem nib_ok (v : W) : nibE v.toNat = (stn 4 v).toNat := by
 have h15 : (v &&& 15#32).toNat = v.toNat % 16 := by
  rw [BitVec.toNat_and]
  have : (15#32 : W).toNat = 2 ^ 4 - 1 := rfl
  rw [this, Nat.and_two_pow_sub_one_eq_mod]
 have ht := tab_ok ⟨v.toNat % 16, by omega⟩
 have e : BitVec.ofNat 32 (v.toNat % 16) = v &&& 15#32 := by
  apply BitVec.eq_of_toNat_eq
  rw [BitVec.toNat_ofNat, h15]
  omega
 simp only [e] at ht
 unfold nibE
 rw [ht]
 simp only
 rw [← half v, BitVec.toNat_xor, BitVec.toNat_ushiftRight]
 rw [Nat.shiftRight_eq_div_pow]
 rfl
theorem crcE_ok : ∀ (bs : List Nat) (v : W), bytesE bs = true → crcE bs v.toNat = (F v (bs.map UInt8.ofNat)).toNat := by
 intro bs
 induction bs with
 | nil => intro v _; rfl
 | cons c bs ih =>
   intro v hb
   simp only [bytesE, Bool.and_eq_true, Nat.blt_eq] at hb
   simp only [crcE, frcN_eq, List.map_cons, F_cons]
   have hx : Nat.xor v.toNat c = (v ^^^ wd (UInt8.ofNat c)).toNat := by
    rw [BitVec.toNat_xor]
    have : (wd (UInt8.ofNat c)).toNat = c := by
     unfold wd
     rw [BitVec.toNat_ofNat, UInt8.toNat_ofNat']
     omega
    rw [this]; rfl
   rw [hx, nib_ok, nib_ok, ← stn_add]
   exact ih _ hb.2
theorem sumE_ok (bs : List Nat) (hb : bytesE bs = true) : sumE bs = (sum (bs.map UInt8.ofNat)).toNat := by
 unfold sumE sum more
 have h1 : (4294967295 : Nat) = (ones : W).toNat := rfl
 have h2 : (~~~(0#32 : W)) = ones := by decide
 rw [h2, not_eq, BitVec.toNat_xor]
 rw [h1, crcE_ok _ _ hb]
 rfl
theorem valE_ok : ∀ (bs : List Nat) (v : Nat), bytesE bs = true → ((valE bs v : Nat) : Int) = (bs.map UInt8.ofNat).foldl (fun (v : Int) c => v * 256 + (c.toNat : Int)) (v : Int) := by
 intro bs
 induction bs with
 | nil => intro v _; rfl
 | cons c bs ih =>
   intro v hb
   simp only [bytesE, Bool.and_eq_true, Nat.blt_eq] at hb
   simp only [valE, frcN_eq, List.map_cons, List.foldl_cons]
   rw [ih _ hb.2]
   congr 1
   rw [UInt8.toNat_ofNat']
   have : c % 2 ^ 8 = c := Nat.mod_eq_of_lt hb.1
   rw [this]
   omega
theorem putE_ok (x : Nat) : ∀ n : Nat, (putE' x n).map UInt8.ofNat = putL (x : Int) n ∧ bytesE (putE' x n) = true := by
 intro n
 induction n with
 | zero => exact ⟨rfl, rfl⟩
 | succ n ih =>
   simp only [putE', frcN_eq, List.map_cons, putL, bytesE, Bool.and_eq_true, Nat.blt_eq]
   refine ⟨?_, Nat.mod_lt _ (by omega), ih.2⟩
   rw [ih.1]
   congr 1
   apply UInt8.toNat_inj.1
   have hp : (2 : Int) ^ (8 * n) = ((256 ^ n : Nat) : Int) := by
    rw [Int.natCast_pow]
    have : (2 : Int) ^ (8 * n) = ((2 : Int) ^ 8) ^ n := Int.pow_mul ..
    rw [this]; rfl
   rw [hp]
   have hd : ((x : Int) / ((256 ^ n : Nat) : Int)) = ((x / 256 ^ n : Nat) : Int) := by simp
   rw [hd]
   have hb := byt_toNat ((x / 256 ^ n : Nat) : Int)
   rw [UInt8.toNat_ofNat']
   omega
theorem u8_beq {a c : Nat} (ha : a < 256) (hc : c < 256) : (UInt8.ofNat a == UInt8.ofNat c) = Nat.beq a c := by
 rw [Bool.eq_iff_iff, beq_iff_eq, Nat.beq_eq]
 constructor
 · intro h
   have := congrArg UInt8.toNat h
   simp only [UInt8.toNat_ofNat'] at this
   omega
 · intro h; rw [h]
theorem idxB_ok {c : Nat} (hc : c < 256) : ∀ {s : List Nat} (i : Nat), bytesE s = true → match idxB c s i with
 | some j => i ≤ j ∧ Lib.indexByte (s.map UInt8.ofNat) (UInt8.ofNat c) = (j : Int) - i
 | none => Lib.indexByte (s.map UInt8.ofNat) (UInt8.ofNat c) = -1 := by
 intro s
 induction s with
 | nil => intro i _; rfl
 | cons a s ih =>
   intro i hb
   simp only [bytesE, Bool.and_eq_true, Nat.blt_eq] at hb
   simp only [idxB, List.map_cons, Lib.indexByte, u8_beq hb.1 hc]
   cases he : Nat.beq a c
   · simp only [cond_false, Bool.false_eq_true, if_false]
     have := ih (i + 1) hb.2
     cases hi : idxB c s (i + 1) with
     | none => rw [hi] at this; simp only at this ⊢; rw [this]; rfl
     | some j =>
       rw [hi] at this
       simp only at this ⊢
       obtain ⟨h1, h2⟩ := this
       rw [h2]
       refine ⟨by omega, ?_⟩
       have hne : ((j : Int) - ((i + 1 : Nat) : Int) == -1) = false := by rw [beq_eq_false_iff_ne]; omega
       rw [hne]
       simp; omega
   · simp only [cond_true, if_true]
     exact ⟨Nat.le_refl _, by omega⟩
theorem cutB_idx {c : Nat} (hc : c < 256) : ∀ {s : List Nat}, bytesE s = true → match cutB c s with
 | some (a, b) => Lib.indexByte (s.map UInt8.ofNat) (UInt8.ofNat c) = (a.length : Int) ∧ s = a ++ c :: b
 | none => Lib.indexByte (s.map UInt8.ofNat) (UInt8.ofNat c) = -1 := by
 intro s
 induction s with
 | nil => intro _; rfl
 | cons x s ih =>
   intro hb
   simp only [bytesE, Bool.and_eq_true, Nat.blt_eq] at hb
   simp only [cutB, List.map_cons, Lib.indexByte, u8_beq hb.1 hc]
   cases he : Nat.beq x c
   · simp only [cond_false, Bool.false_eq_true, if_false]
     have := ih hb.2
     cases hi : cutB c s with
     | none => rw [hi] at this; simp only at this ⊢; rw [this]; rfl
     | some p =>
       obtain ⟨a, b⟩ := p
       rw [hi] at this
       simp only at this ⊢
       obtain ⟨h1, h2⟩ := this
       rw [h1]
       have hne : ((a.length : Int) == -1) = false := by rw [beq_eq_false_iff_ne]; omega
       rw [hne]
       refine ⟨by simp, by rw [h2]; rfl⟩
   · simp only [cond_true, if_true]
     obtain rfl := Nat.eq_of_beq_eq_true he
     exact ⟨rfl, rfl⟩
theorem cutB_ok {c : Nat} (hc : c < 256) {s : List Nat} (hb : bytesE s = true) : Lib.cut (s.map UInt8.ofNat) [UInt8.ofNat c] = match cutB c s with | some (a, b) => (a.map UInt8.ofNat, b.map UInt8.ofNat, true) | none => (s.map UInt8.ofNat, [], false) := by
 have := cutB_idx hc hb
 unfold Lib.cut
 rw [Lib.index_one]
 cases hi : cutB c s with
 | none => rw [hi] at this; simp only at this ⊢; rw [this]; rfl
 | some p =>
   obtain ⟨a, b⟩ := p
   rw [hi] at this
   simp only at this ⊢
   obtain ⟨h1, h2⟩ := this
   rw [h1, if_pos (by omega), Int.toNat_natCast]
   congr 1
   · rw [h2]; simp
   · congr 1
     rw [h2, List.map_append, List.map_cons, List.drop_append]
     simp
theorem decB_ok : ∀ (f n : Nat) (l : List Nat), n < 10 ^ (f + 1) → (decB (f + 1) n l).map UInt8.ofNat = Lib.decDigits n ++ l.map UInt8.ofNat := by
 intro f
 induction f with
 | zero =>
   intro n l h
   have hn : n < 10 := by simpa using h
   unfold Lib.decDigits
   have hb : Nat.blt n 10 = true := by rw [Nat.blt_eq]; exact hn
   simp only [decB, hb, cond_true, hn, dite_true]
   simp
 | succ f ih =>
   intro n l h
   unfold Lib.decDigits
   rw [decB]
   cases hb : Nat.blt n 10
   · have hn : ¬ n < 10 := fun e => by have h2 : Nat.blt n 10 = true := by rw [Nat.blt_eq]; exact e
                                       rw [hb] at h2; cases h2
     simp only [cond_false, hn, dite_false]
     rw [ih _ _ (by rw [Nat.pow_succ] at h; omega)]
     simp
   · have hn : n < 10 := by simpa using hb
     simp only [cond_true, hn, dite_true]
     simp
theorem newB_ok {w0 w w' : World} {B : Nat} {φ : PM} {h h' : H} (r : Hd w0 B φ h w) {tb' : Nat} {l : List Nat} {v : EV} (hn : newB h tb' l = some (v, h')) (hb : bytesE l = true) (hl : l ≠ []) {V : Value} (g : Grow w w')
 (hw : Wr w' w.heap.size V ((l.map UInt8.ofNat).map b8)) (hf : Ful V) : Ok w0 B φ v h' V w' := by
 unfold newB at hn
 split at hn
 · next h1 hnn =>
   cases hn
   have hlen : ((l.map UInt8.ofNat).map b8).length = l.length := by simp
   obtain ⟨g', cap, cur, e, hV, hg1, hg2, hg3⟩ := hw.2 (by simpa using hl)
   have hcap := hf _ _ _ hV
   rw [hlen] at hV hcap hg3
   subst hcap
   subst hV
   obtain ⟨a, cap, hv, k1, k2, k3, k4⟩ := hw.1
   rw [hlen] at hv k1
   cases hv
   have k := NewKey.new (r.grow g) hnn
   have hup := bcells_up (φ := φ) hb
   refine ⟨_, PM.ext_set k.fre, ?_, (r.grow g).add k (p := ⟨g', 0, l.length, 1⟩) (Nat.le_trans r.bsize hg1) hg2.lt ⟨rfl, by simp only [Nat.div_one]; exact k2, ⟨_, hup, by rw [hlen]; exact Nat.le_refl _, upL_one hup (bcells_one l), fun i hi => ?_⟩, fun i hi => ?_, fun i hi => ?_⟩ fun c q hcl hq => ?_⟩
   · simp only [upV, PM.set, if_true, Nat.add_zero, lenE_eq]
   · simp only [Nat.zero_add]
     obtain ⟨x, hx, hc⟩ := k4 i _ (List.getElem?_eq_getElem hi)
     cases hx
     rw [addA, Nat.zero_add] at hc
     rw [hc]
     exact (List.getElem?_eq_getElem hi).symm
   · simp only [Nat.zero_add] at hi ⊢
     rw [hg2.at]
     have : i < cur.size := by omega
     simp [this]
   · simp only [Nat.zero_add]
     exact hg2.thaw i
   · have := (r.live_lt hcl hq).2
     simp only; omega
 · cases hn
structure Env (w : World) : Prop where
 tab : Tab w
 mx : ∃ m, w.cell? ⟨0, 0, none⟩ = some (.int .i64 m)
theorem Env.below {B : Nat} {w w' : World} (h : Env w) (hB : w.heap.size ≤ B) (g : Below B w w') : Env w' := by
 obtain ⟨m, hm⟩ := h.mx
 refine ⟨h.tab.grow (g.mono hB), m, ?_⟩
 have hlt : 0 < w.heap.size := by
  refine Nat.lt_of_not_le fun hge => ?_
  have h2 : w.heap[(0 : Nat)]? = none := Array.getElem?_eq_none hge
  simp [World.cell?, h2] at hm
 exact (cell_of_heap (a := ⟨0, 0, none⟩) (g.block _ (by show 0 < B; omega))).trans hm
def ids : SumIds := ⟨95, 148, 120, 268, 283, 359, 214, 9, 5⟩
theorem up_one {φ : PM} {a : EV} {xs : List Value} (h : upL φ [a] = some xs) : ∃ x, xs = [x] ∧ upV φ a = some x := by
 obtain ⟨x, ys, h1, h2, rfl⟩ := upL_cons.1 h
 rw [upL_nil.1 h2]; exact ⟨x, rfl, h1⟩
theorem up_two {φ : PM} {a b : EV} {xs : List Value} (h : upL φ [a, b] = some xs) : ∃ x y, xs = [x, y] ∧ upV φ a = some x ∧ upV φ b = some y := by
 obtain ⟨x, ys, h1, h2, rfl⟩ := upL_cons.1 h
 obtain ⟨y, rfl, h3⟩ := up_one h2
 exact ⟨x, y, rfl, h1, h3⟩
theorem up_three {φ : PM} {a b c : EV} {xs : List Value} (h : upL φ [a, b, c] = some xs) : ∃ x y z, xs = [x, y, z] ∧ upV φ a = some x ∧ upV φ b = some y ∧ upV φ c = some z := by
 obtain ⟨x, ys, h1, h2, rfl⟩ := upL_cons.1 h
 obtain ⟨y, z, rfl, h3, h4⟩ := up_two h2
 exact ⟨x, y, z, rfl, h1, h3, h4⟩
theorem sum_ok {w0 w : World} {B : Nat} {φ : PM} {h h' : H} (r : Hd w0 B φ h w) {args : List EV} {v : EV} {xs : List Value} (hs : sSum args h = some (v, h')) (hx : upL φ args = some xs) : CW.Spec Tryz.prog 95 xs.toArray w (Ok w0 B φ v h') := by
 unfold sSum at hs
 split at hs
 · next s =>
   obtain ⟨X, rfl, h1⟩ := up_one hx
   split at hs
   · next bs hb =>
     obtain ⟨hr, hbe⟩ := bytes_rd r hb h1
     rw [frcN_eq] at hs
     cases hs
     refine crc_Sum_c hr fun w' g => ⟨φ, Ext.refl _, ?_, r.grow g⟩
     simp only [upV, sumE_ok bs hbe]
     rfl
   · cases hs
 · cases hs
theorem i64_fits (n : Nat) (h : n < 9223372036854775808) : Fits .i64 (Int.ofNat n) := (by constructor <;> simp [IntKind.min, IntKind.max, IntKind.signed, IntKind.bits] <;> omega)
theorem take_bytes : ∀ {l : List Nat} (n : Nat), bytesE l = true → bytesE (l.take n) = true := by
 intro l
 induction l with
 | nil => intro n _; simp [bytesE]
 | cons a r ih =>
   intro n h
   cases n with
   | zero => rfl
   | succ n => simp only [bytesE, Bool.and_eq_true, List.take_succ_cons] at h ⊢; exact ⟨h.1, ih n h.2⟩
theorem drop_bytes : ∀ {l : List Nat} (n : Nat), bytesE l = true → bytesE (l.drop n) = true := by
 intro l
 induction l with
 | nil => intro n _; simp [bytesE]
 | cons a r ih =>
   intro n h
   cases n with
   | zero => exact h
   | succ n => simp only [bytesE, Bool.and_eq_true, List.drop_succ_cons] at h ⊢; exact ih n h.2
theorem get_ok {w0 w : World} {B : Nat} {φ : PM} {h h' : H} (r : Hd w0 B φ h w) {args : List EV} {v : EV} {xs : List Value} (hs : sGet args h = some (v, h')) (hx : upL φ args = some xs) : CW.Spec Tryz.prog 148 xs.toArray w (Ok w0 B φ v h') := by
 unfold sGet at hs
 split at hs
 · next s a n =>
   obtain ⟨X, Y, Z, rfl, h1, h2, h3⟩ := up_three hx
   simp only [upV, Option.some.injEq] at h2 h3
   subst h2 h3
   split at hs
   · next bs hb =>
     obtain ⟨hr, hbe⟩ := bytes_rd r hb h1
     have hn8 : (Nat.ble 1 n && Nat.ble n 8) = true := by
      cases hc : Nat.ble 1 n && Nat.ble n 8
      · rw [hc] at hs; simp at hs
      · rfl
     rw [Bool.and_eq_true, Nat.ble_eq, Nat.ble_eq] at hn8
     cases ha : Nat.blt a 1099511627776
     · rw [ha] at hs; simp at hs
     have ha' : a < 1099511627776 := by simpa using ha
     refine bin_Get_c hr (i64_fits a (by omega)) (i64_fits n (by omega)) ?_
     have hw : inW (Int.ofNat n) = true := by simp [inW]; omega
     have hle : Nat.ble 1 n = true ∧ Nat.ble n 8 = true := ⟨by rw [Nat.ble_eq]; exact hn8.1, by rw [Nat.ble_eq]; exact hn8.2⟩
     simp only [hle.1, hle.2, ha, Bool.true_and, cond_true, lenE_eq, Nat.add_zero] at hs
     cases hin : Nat.ble (a + n) bs.length
     · rw [hin] at hs
       cases hs
       have hgb : getB (bs.map UInt8.ofNat).length (Int.ofNat a) (Int.ofNat n) = false := by
        unfold getB
        rw [hw]
        have : ¬ (a + n ≤ bs.length) := fun e => by have h2 : Nat.ble (a + n) bs.length = true := by rw [Nat.ble_eq]; exact e
                                                    rw [hin] at h2; cases h2
        simp; omega
       exact ⟨φ, Ext.refl _, by simp only [upV, upL, getV, hgb, cond_false]; rfl, r⟩
     · rw [hin] at hs
       simp only [cond_true, frcN_eq] at hs
       cases hs
       have hin' := Nat.le_of_ble_eq_true hin
       have hgb : getB (bs.map UInt8.ofNat).length (Int.ofNat a) (Int.ofNat n) = true := by
        unfold getB
        rw [hw]
        simp; omega
       refine ⟨φ, Ext.refl _, ?_, r⟩
       simp only [upV, upL, getV, hgb, cond_true]
       have hv := valE_ok ((bs.drop a).take n) 0 (take_bytes n (drop_bytes a hbe))
       have e : ((bs.map UInt8.ofNat).drop (Int.ofNat a).toNat).take (Int.ofNat n).toNat = ((bs.drop a).take n).map UInt8.ofNat := by
        simp [List.map_take, List.map_drop]
       rw [e]
       unfold valL
       simp only [Int.natCast_zero] at hv
       rw [← hv]
       rfl
   · cases hs
 · cases hs
theorem put_ok {w0 w : World} {B : Nat} {φ : PM} {h h' : H} (r : Hd w0 B φ h w) {args : List EV} {v : EV} {xs : List Value} (hs : sPut 5 args h = some (v, h')) (hx : upL φ args = some xs) : CW.Spec Tryz.prog 120 xs.toArray w (Ok w0 B φ v h') := by
 unfold sPut at hs
 split at hs
 · next s x n =>
   obtain ⟨X, Y, Z, rfl, h1, h2, h3⟩ := up_three hx
   simp only [upV, Option.some.injEq] at h2 h3
   subst h2 h3
   split at hs
   · next bs hb =>
     obtain ⟨hr, hbe⟩ := bytes_rd r hb h1
     cases hc : Nat.ble 1 n && Nat.ble n 8 && Nat.ble (lenE bs 0) 1000000
     · rw [hc] at hs; cases hs
     rw [hc] at hs
     simp only [Bool.and_eq_true, Nat.ble_eq, lenE_eq] at hc
     simp only [cond_true] at hs
     obtain ⟨p1, p2⟩ := putE_ok x n
     have hbe2 : bytesE (bs ++ putE' x n) = true := by
      have app : ∀ {a b : List Nat}, bytesE a = true → bytesE b = true → bytesE (a ++ b) = true := by
       intro a
       induction a with
       | nil => intro b _ h; exact h
       | cons x a ih => intro b h1 h2; simp only [bytesE, Bool.and_eq_true, List.cons_append] at h1 ⊢; exact ⟨h1.1, ih h1.2 h2⟩
      exact app hbe p2
     refine bin_Put_w hr (by simp; omega) (by simp; omega) fun v' w' g hw hf _ => newB_ok r hs hbe2 ?_ g ?_ hf
     · cases n with
       | zero => omega
       | succ n => simp [putE', frcN_eq]
     · have e : (bs ++ putE' x n).map UInt8.ofNat = bs.map UInt8.ofNat ++ putL (Int.ofNat x) (Int.ofNat n).toNat := by
        rw [List.map_append, p1]; rfl
       rw [e]; exact hw
   · cases hs
 · cases hs
theorem idx_ok {w0 w : World} {B : Nat} {φ : PM} {h h' : H} (r : Hd w0 B φ h w) {args : List EV} {v : EV} {xs : List Value} (hs : sIdx args h = some (v, h')) (hx : upL φ args = some xs) : CW.Spec Tryz.prog 268 xs.toArray w (Ok w0 B φ v h') := by
 unfold sIdx at hs
 split at hs
 · next s c =>
   obtain ⟨X, Y, rfl, h1, h2⟩ := up_two hx
   simp only [upV, Option.some.injEq] at h1 h2
   subst h1 h2
   cases hc : bytesE s && Nat.blt c 256
   · rw [hc] at hs; cases hs
   rw [hc] at hs
   rw [Bool.and_eq_true, Nat.blt_eq] at hc
   simp only [cond_true] at hs
   have hi := idxB_ok hc.2 0 hc.1
   refine (Go.Proofs.Tryz.strings_IndexByte ⟨(s.map UInt8.ofNat).toArray⟩ (Int.ofNat c) w).mono fun e w' ⟨he, hw⟩ => ⟨_, he, ?_⟩
   subst hw
   have e1 : ((Int.ofNat c).toNat).toUInt8 = UInt8.ofNat c := rfl
   rw [e1]
   split at hs
   · next i hidx =>
     cases hs
     rw [hidx] at hi
     refine ⟨φ, Ext.refl _, ?_, r⟩
     simp only [upV]
     have := hi.2
     simp only [Int.sub_zero, Int.natCast_zero] at this
     rw [this]; rfl
   · next hidx =>
     cases hs
     rw [hidx] at hi
     refine ⟨φ, Ext.refl _, ?_, r⟩
     simp only [upV]
     simp only at hi
     rw [hi]; rfl
 · cases hs
theorem cut_ok {w0 w : World} {B : Nat} {φ : PM} {h h' : H} (hE : Env w) (r : Hd w0 B φ h w) {args : List EV} {v : EV} {xs : List Value} (hs : sCut args h = some (v, h')) (hx : upL φ args = some xs) : CW.Spec Tryz.prog 283 xs.toArray w (Ok w0 B φ v h') := by
 unfold sCut at hs
 split at hs
 · next s c =>
   obtain ⟨X, Y, rfl, h1, h2⟩ := up_two hx
   simp only [upV, Option.some.injEq] at h1 h2
   subst h1 h2
   cases hc : bytesE s && Nat.blt c 256 && Nat.ble (lenE s 0) 1000000
   · rw [hc] at hs; cases hs
   rw [hc] at hs
   simp only [Bool.and_eq_true, Nat.blt_eq, Nat.ble_eq, lenE_eq] at hc
   simp only [cond_true] at hs
   obtain ⟨m, hm⟩ := hE.mx
   have hco := cutB_ok hc.1.2 hc.1.1
   refine (Go.Proofs.Tryz.strings_Cut ⟨(s.map UInt8.ofNat).toArray⟩ ⟨([c].map UInt8.ofNat).toArray⟩ m w (by show Array.size _ < _; simp; omega) hm).mono fun e w' ⟨he, n, hw⟩ => ⟨_, he, ?_⟩
   subst hw
   have hd : Hd w0 B φ h (w.drewN n) := r.grow ⟨rfl, rfl, rfl, Nat.le_refl _, fun _ _ => rfl⟩
   simp only [List.map_cons, List.map_nil, hco]
   split at hs
   · next a b hcut =>
     cases hs
     rw [hcut]
     exact ⟨φ, Ext.refl _, by simp only [upV, upL], hd⟩
   · next hcut =>
     cases hs
     rw [hcut]
     exact ⟨φ, Ext.refl _, by simp only [upV, upL, List.map_nil], hd⟩
 · cases hs
theorem ito_ok {w0 w : World} {B : Nat} {φ : PM} {h h' : H} (hE : Env w) (r : Hd w0 B φ h w) {args : List EV} {v : EV} {xs : List Value} (hs : sIto args h = some (v, h')) (hx : upL φ args = some xs) : CW.Spec Tryz.prog 214 xs.toArray w (Ok w0 B φ v h') := by
 unfold sIto at hs
 split at hs
 · next n =>
   obtain ⟨X, rfl, h1⟩ := up_one hx
   simp only [upV, Option.some.injEq] at h1
   subst h1
   cases hc : Nat.blt n 1000000000
   · rw [hc] at hs; cases hs
   rw [hc] at hs
   have hn : n < 1000000000 := by simpa using hc
   cases hs
   refine itoa_c hE.tab (by constructor <;> simp [IntKind.min, IntKind.max, IntKind.signed, IntKind.bits] <;> omega) fun w' g => ⟨φ, Ext.refl _, ?_, r.grow g⟩
   simp only [upV]
   have e : Lib.itoa (Int.ofNat n) = (decB 10 n []).map UInt8.ofNat := by
    rw [decB_ok 9 n [] (by omega)]
    unfold Lib.itoa
    rw [if_neg (by simp)]
    simp
   rw [e]; rfl
 · cases hs
theorem split_ok {w0 w : World} {B : Nat} {φ : PM} {h h' : H} (hE : Env w) (r : Hd w0 B φ h w) {args : List EV} {v : EV} {xs : List Value} (hs : sSplit 9 args h = some (v, h')) (hx : upL φ args = some xs) : CW.Spec Tryz.prog 359 xs.toArray w (Ok w0 B φ v h') := by
 unfold sSplit at hs
 split at hs
 · next s c =>
   obtain ⟨X, Y, rfl, h1, h2⟩ := up_two hx
   simp only [upV, Option.some.injEq] at h1 h2
   subst h1 h2
   split at hs
   · next h1 hn =>
     cases hc : Nat.ble (lenE s 0) 1000000
     · rw [hc] at hs; cases hs
     rw [hc] at hs
     rw [Nat.ble_eq, lenE_eq] at hc
     simp only [cond_true, frcN_eq] at hs
     cases hs
     obtain ⟨m, hm⟩ := hE.mx
     have hS : (⟨(s.map UInt8.ofNat).toArray⟩ : ByteArray) = textOf (s.map UInt8.ofNat) := rfl
     have hT : (⟨([c].map UInt8.ofNat).toArray⟩ : ByteArray) = textOf [UInt8.ofNat c] := rfl
     rw [hS, hT]
     refine (Go.Proofs.Tryz.strings_Split (textOf (s.map UInt8.ofNat)) (textOf [UInt8.ofNat c]) m w (by rw [textOf_size]; simp; omega) hm (by show 1 ≤ 1; omega)).mono fun e w' ⟨he, hw⟩ => ⟨_, he, ?_⟩
     subst hw
     have k := NewKey.new r hn
     have hs1 : (textOf [UInt8.ofNat c]).size = 1 := rfl
     have hcl := Lib.countB_le (textOf [UInt8.ofNat c]) (by rw [hs1]; omega) _ (textOf (s.map UInt8.ofNat)) (Nat.le_refl _)
     rw [textOf_size, List.length_map] at hcl
     have hal := Lib.splitB_all (textOf [UInt8.ofNat c]) (by rw [hs1]; omega) 0 _ (textOf (s.map UInt8.ofNat)) rfl
     have hup : ∀ (l : List ByteArray), upL φ (l.map (fun b => EV.str (natsOf b))) = some (l.map Value.string) := by
      intro l
      induction l with
      | nil => exact upL_nil.2 rfl
      | cons b l ih =>
        refine upL_cons.2 ⟨_, _, ?_, ih, rfl⟩
        simp only [upV, natsOf, mapOfNat_toNat]
     have hone : ∀ (l : List ByteArray), allOneE (l.map (fun b => EV.str (natsOf b))) = true := by
      intro l
      induction l with
      | nil => rfl
      | cons b l ih => exact ih
     refine ⟨_, PM.ext_set k.fre, ?_, r.newRow k (hup _) (upL_one (hup _) (hone _)) (lo := 0) (hi := 0) (fun i hi => by simp) (by simp) ?_ (fun i _ => by omega)⟩
     · simp only [upV, PM.set, if_true, Nat.add_zero]
     · rw [Nat.div_one, List.size_toArray, List.length_map, hal]
       simp only [maxLen]; omega
   · cases hs
 · cases hs
theorem sums_ok {w0 : World} (hE : Env w0) : SumsOk Tryz.prog w0 w0.heap.size (sumsOf ids) := by
 intro f s args h v h' φ w xs hf hs hx r
 have hEw : Env w := hE.below (Nat.le_refl _) r.below
 unfold sumsOf at hf
 cases c1 : Nat.beq f ids.iSum
 · rw [c1] at hf
   cases c2 : Nat.beq f ids.iGet
   · rw [c2] at hf
     cases c3 : Nat.beq f ids.iPut
     · rw [c3] at hf
       cases c4 : Nat.beq f ids.iIdx
       · rw [c4] at hf
         cases c5 : Nat.beq f ids.iCut
         · rw [c5] at hf
           cases c6 : Nat.beq f ids.iSp
           · rw [c6] at hf
             cases c7 : Nat.beq f ids.iIto
             · rw [c7] at hf; cases hf
             · rw [c7] at hf; cases hf; obtain rfl := Nat.eq_of_beq_eq_true c7; exact ito_ok hEw r hs hx
           · rw [c6] at hf; cases hf; obtain rfl := Nat.eq_of_beq_eq_true c6; exact split_ok hEw r hs hx
         · rw [c5] at hf; cases hf; obtain rfl := Nat.eq_of_beq_eq_true c5; exact cut_ok hEw r hs hx
       · rw [c4] at hf; cases hf; obtain rfl := Nat.eq_of_beq_eq_true c4; exact idx_ok r hs hx
     · rw [c3] at hf; cases hf; obtain rfl := Nat.eq_of_beq_eq_true c3; exact put_ok r hs hx
   · rw [c2] at hf; cases hf; obtain rfl := Nat.eq_of_beq_eq_true c2; exact get_ok r hs hx
 · rw [c1] at hf; cases hf; obtain rfl := Nat.eq_of_beq_eq_true c1; exact sum_ok r hs hx
end Go.Proofs.YtghineciiljeoaaGreatDoor
