/- Texts of this seat, one behind the other: RsvE, SnpW, SnpE, SnpR, SnpG, SnpN, SnpD. -/
import Derived.Test.YtghineciiljeoaaGreatDoorQSqA
set_option linter.unusedSimpArgs false
set_option linter.unusedVariables false
set_option maxRecDepth 100000
namespace Go.Proofs.YtghineciiljeoaaGreatDoor
section
open Go Go.CW Go.RowKit
variable {w : World} {t : Nat} {T : Tb}
structure TOk (T : Tb) : Prop where
 len : T.keys.length = 8
 keys : ∀ k ∈ T.keys, 0 ≤ k ∧ k < 18446744073709551616
 gn : 0 ≤ T.gn ∧ T.gn < 4294967296
 hd : (T.hd = -1 ∧ T.ty = 0) ∨ (∃ h : Nat, T.hd = (h : Int) ∧ h < 8 ∧ T.keys.getD h 0 ≠ 0 ∧ typedB T.ty = true)
def tbB (T : Tb) : List UInt8 := putL T.gn 4 ++ Lst.rowB T.keys ++ [byt T.hd, byt T.ty]
theorem typed_range {p : Int} (h : typedB p = true) : p = 1 ∨ p = 3 ∨ p = 5 ∨ p = 6 := by
 unfold typedB at h
 simp at h; exact h
theorem byt_wrap {n : Int} : Value.int .u8 (IntKind.wrap .u8 n) = b8 (byt n) := by
 rw [← b8_byt, w8]
theorem TOk.tyr (h : TOk T) : 0 ≤ T.ty ∧ T.ty < 256 := by
 rcases h.hd with ⟨_, h2⟩ | ⟨_, _, _, _, h2⟩
 · omega
 · have := typed_range h2; omega
theorem key_mem {i : Nat} (hi : i < T.keys.length) : T.keys.getD i 0 ∈ T.keys := by
 rw [List.getD_eq_getElem?_getD, List.getElem?_eq_getElem hi]; exact List.getElem_mem _
theorem keys_take {i : Nat} (hi : i < T.keys.length) : T.keys.take (i + 1) = T.keys.take i ++ [T.keys.getD i 0] := by
 rw [List.take_add_one, List.getD_eq_getElem?_getD, List.getElem?_eq_getElem hi]; rfl
theorem tEncode_c (h : TAt w t T) (ho : TOk T) {R : KV} (k : ∀ v w', Grow w w' → RdB w' v (tbB T) → R v w') : CW.Spec Tryz.prog 126 #[.pointer (some ⟨t, 0, none⟩)] w R := by
 apply q58W
 have hg := ho.gn
 obtain ⟨n0, n1, n2, n3, n4, n5, n6, n7, hk⟩ := keys8 h.len
 refine withAddr_some ⟨_, h.at10, ?_⟩
 rw [w64_id (by omega) (by omega)]
 refine bin_Put_w (bs := []) (Rd.nil w) (by simp) ⟨by omega, by omega⟩ fun v2 w3 g3 wr3 f3 _ => ?_
 have h3 := h.grow g3
 refine withAddr_some ⟨_, _, _, _, _, _, _, _, h3.ld8 hk, ?_⟩
 refine ⟨fun (v : Value) (n : Int) (w' : World) => ∃ i : Nat, n = (i : Int) ∧ i ≤ 8 ∧ Grow w w' ∧ RdB w' v (putL T.gn 4 ++ Lst.rowB (T.keys.take i)) ∧ Ful v, fun (_ : Value) (n : Int) (_ : World) => ((8 : Int) - n).toNat,
  ⟨0, rfl, by omega, g3, by simpa [Lst.rowB] using wr3.1, f3⟩, ?_⟩
 dsimp only [allR, mapR2, eqN, ltN]
 rintro m v n w' ⟨⟨i, rfl, hi, g, r, f⟩, hm⟩
 have hl := h.len
 have hrl : (putL T.gn 4 ++ Lst.rowB (T.keys.take i)).length = 4 + 8 * i := by rw [List.length_append, putL_length, Lst.rowB_length, List.length_take]; omega
 refine cond_intro (fun hc => ?_) (fun hc => ?_)
 · have hlt : i < 8 := by simp at hc; omega
   have hx := idx8 (w := w') hlt n0 n1 n2 n3 n4 n5 n6 n7
   rw [← hk] at hx
   refine ⟨_, hx, bin_Put_w r (by omega) ⟨by omega, by omega⟩ fun v18 w19 g19 wr19 f19 _ => ?_⟩
   rw [wi64_id (by omega) (by omega)]
   refine ⟨⟨i + 1, by omega, by omega, g.then g19, ?_, f19⟩, by omega⟩
   have e : putL T.gn 4 ++ Lst.rowB (T.keys.take (i + 1)) = putL T.gn 4 ++ Lst.rowB (T.keys.take i) ++ putL (T.keys.getD i 0) 8 := by
    rw [keys_take (by omega), Lst.rowB_append, ← List.append_assoc]
    congr 1
   rw [e]; exact wr19.1
 · have he : i = 8 := by simp at hc; omega
   subst he
   rw [List.take_of_length_le (by omega)] at r hrl
   refine nm fun w20 e20 => ?_
   have gd := drE e20
   have h20 := (h.grow g).grow gd
   refine withAddr_some ⟨_, h20.at8, withAddr_some ⟨_, h20.at9, nm fun w25 e25 => ?_⟩⟩
   have gd25 := drE e25
   refine nm fun w26 e26 => nm fun w27 e27 => ?_
   rw [byt_wrap, byt_wrap] at e27
   obtain ⟨b27, g27, _⟩ := alE e27
   have rl : RB w27 w25.heap.size [byt T.hd, byt T.ty] := b27
   have rr := rl.rd (by simp [maxLen])
   obtain ⟨v28, w29, k1, k2, k3⟩ := app_ful tyB (r.grow (gd25.then g27)) f rr one_b8 (by simp) (by rw [List.length_map, hrl]; simp)
   refine ⟨v28, w29, k1, k _ _ (((g.then gd25).then g27).then k3) ?_⟩
   have := k2.rd
   rw [← List.map_append] at this
   exact this
theorem tbB_length (ho : TOk T) : (tbB T).length = 70 := by
 have := ho.len
 simp only [tbB, List.length_append, putL_length, Lst.rowB_length, List.length_cons, List.length_nil]; omega
theorem rowB_split {l : List Int} {i : Nat} (hi : i < l.length) : Lst.rowB l = Lst.rowB (l.take i) ++ putL (l.getD i 0) 8 ++ Lst.rowB (l.drop (i + 1)) := by
 have e : l = l.take i ++ (l.getD i 0 :: l.drop (i + 1)) := by
  have : l.drop i = l.getD i 0 :: l.drop (i + 1) := by rw [List.getD_eq_getElem?_getD, List.getElem?_eq_getElem hi]; simp
  rw [← this, List.take_append_drop]
 have e2 : Lst.rowB (l.getD i 0 :: l.drop (i + 1)) = putL (l.getD i 0) 8 ++ Lst.rowB (l.drop (i + 1)) := by simp [Lst.rowB]
 rw [List.append_assoc, ← e2, ← Lst.rowB_append, ← e]
theorem tbB_key (ho : TOk T) {i : Nat} (hi : i < 8) : getV (tbB T) (4 + 8 * (i : Int)) 8 = T.keys.getD i 0 := by
 have hl := ho.len
 have hm := ho.keys _ (key_mem (T := T) (i := i) (by omega))
 have e : tbB T = (putL T.gn 4 ++ Lst.rowB (T.keys.take i)) ++ putL (T.keys.getD i 0) 8 ++ (Lst.rowB (T.keys.drop (i + 1)) ++ [byt T.hd, byt T.ty]) := by
  unfold tbB
  rw [rowB_split (l := T.keys) (i := i) (by omega)]
  simp only [List.append_assoc]
 rw [e]
 have := getV_at (pre := putL T.gn 4 ++ Lst.rowB (T.keys.take i)) (post := Lst.rowB (T.keys.drop (i + 1)) ++ [byt T.hd, byt T.ty]) (x := T.keys.getD i 0) (n := 8) hm.1 (by omega) (a := 4 + 8 * (i : Int)) (by rw [List.length_append, putL_length, Lst.rowB_length, List.length_take]; omega)
 rw [show ((8 : Nat) : Int) = (8 : Int) from rfl] at this
 rw [this]
 exact Lst.p8 _ hm.1 hm.2
theorem tbB_gn (ho : TOk T) : getV (tbB T) 0 4 = T.gn := by
 have := getV_at (pre := []) (post := Lst.rowB T.keys ++ [byt T.hd, byt T.ty]) (x := T.gn) (n := 4) ho.gn.1 (by omega) (a := 0) (by simp)
 rw [show ((4 : Nat) : Int) = (4 : Int) from rfl, List.nil_append] at this
 unfold tbB
 rw [List.append_assoc, this]
 exact Lst.p4 _ ho.gn.1 ho.gn.2
theorem tbB_at (ho : TOk T) (j : Nat) (hj : j < 2) : (tbB T).getD (68 + j) 0 = [byt T.hd, byt T.ty].getD j 0 := by
 have hl := ho.len
 unfold tbB
 rw [List.getD_eq_getElem?_getD, List.getElem?_append_right (by simp only [List.length_append, putL_length, Lst.rowB_length]; omega), List.getD_eq_getElem?_getD]
 congr 2
 simp only [List.length_append, putL_length, Lst.rowB_length]; omega
theorem rd_at {v : Value} {bs : List UInt8} (h : RdB w v bs) {i : Int} {n : Nat} (e : i = (n : Int)) (hi : n < bs.length) : ∃ a, sliceAt v i 1 = some a ∧ w.cell? a = some (.int .u8 ((bs.getD n 0).toNat : Int)) := by
 subst e
 obtain ⟨a, h1, h2⟩ := RdB.at h (i := (n : Int)) (by omega) (by omega)
 refine ⟨a, h1, ?_⟩
 rw [h2]
 simp [List.getD_eq_getElem?_getD, List.getElem?_eq_getElem hi]
theorem byt_natE {n : Int} (h0 : 0 ≤ n) (h1 : n < 256) : ((byt n).toNat : Int) = n := by
 have := b8_byt n
 unfold b8 at this
 injection this with _ this
 omega
theorem tDecode_c {v : Value} (ho : TOk T) (hv : RdB w v (tbB T)) {R : KV} (k : ∀ t w', Grow w w' → w.heap.size ≤ t → TAt w' t T → R (.tuple #[.pointer (some ⟨t, 0, none⟩), .int .i64 (0 : Int)]) w') :
 CW.Spec Tryz.prog 131 #[v] w R := by
 apply q55W
 have hlen := tbB_length ho
 have hl := ho.len
 refine ⟨_, hv.len, cond_f (by rw [hlen]; rfl) ?_⟩
 refine rNew_c fun t w2 g2 ht tb => ⟨_, rfl, ?_⟩
 refine bin_Get_c (hv.grow g2) (by decide) (by decide) ⟨_, _, rfl, ?_⟩
 rw [tbB_gn ho, w32_id ho.gn.1 ho.gn.2]
 refine withAddr_some ⟨tb.st (by omega), nm fun w9 e9 => ?_⟩
 obtain ⟨tb9, t9⟩ := tb.set10 e9
 have g9 : Grow w w9 := Below.turn g2 t9 ht
 refine ⟨fun (n : Int) (w' : World) => ∃ i : Nat, n = (i : Int) ∧ i ≤ 8 ∧ Grow w w' ∧ TAt w' t ⟨T.keys.take i ++ List.replicate (8 - i) 0, -1, 0, T.gn⟩, fun (n : Int) (_ : World) => ((8 : Int) - n).toNat, ⟨0, rfl, by omega, g9, by simpa [newTb] using tb9⟩, ?_⟩
 dsimp only [allR, mapR2, eqN, ltN]
 rintro m n w' ⟨⟨i, rfl, hi, g, tb'⟩, hm⟩
 refine cond_intro (fun hc => ?_) (fun hc => ?_)
 · have hlt : i < 8 := by simp at hc; omega
   refine nm fun w13 e13 => withAddr_some (nm fun w15 e15 => ?_)
   have gd := drE e15
   rw [wi64_id (n := (8 : Int) * (i : Int)) (by omega) (by omega), wi64_id (by omega) (by omega)]
   refine bin_Get_c (hv.grow (g.then gd)) (by show Fits .i64 _; exact Lst.fitsI (by omega) (by omega)) (by decide) ⟨_, _, rfl, ⟨by omega, by omega⟩, ?_⟩
   rw [tbB_key ho hlt, adk]
   have tbd := tb'.grow gd
   refine ⟨tbd.st (by omega), nm fun w20 e20 => nm fun w21 e21 => ?_⟩
   obtain ⟨tb21, t21⟩ := tbd.setKey hlt e21
   rw [wi64_id (by omega) (by omega)]
   refine ⟨⟨i + 1, by omega, by omega, Below.turn (g.then gd) t21 ht, ?_⟩, by omega⟩
   have e : (T.keys.take i ++ List.replicate (8 - i) 0).set i (T.keys.getD i 0) = T.keys.take (i + 1) ++ List.replicate (8 - (i + 1)) 0 := by
    have e8 : 8 - i = (8 - (i + 1)) + 1 := by omega
    rw [keys_take (by omega), List.set_append_right _ _ (by rw [List.length_take]; omega), e8, List.replicate_succ]
    have : i - (T.keys.take i).length = 0 := by rw [List.length_take]; omega
    rw [this]; simp
   have := tb21
   dsimp only at this
   rw [e] at this
   exact this
 · have he : i = 8 := by simp at hc; omega
   subst he
   rw [List.take_of_length_le (by omega), Nat.sub_self, List.replicate_zero, List.append_nil] at tb'
   have hvw := hv.grow g
   have a68 : (tbB T).getD 68 0 = byt T.hd := tbB_at ho 0 (by omega)
   have a69 : (tbB T).getD 69 0 = byt T.ty := tbB_at ho 1 (by omega)
   obtain ⟨p68, hp68, hc68⟩ := rd_at hvw (i := 68) (n := 68) rfl (by omega)
   obtain ⟨p69, hp69, hc69⟩ := rd_at hvw (i := 69) (n := 69) rfl (by omega)
   rw [a68] at hc68
   rw [a69] at hc69
   have s68 : IntKind.wrap .i64 (((tbB T).length : Int) - (2 : Int)) = 68 := by rw [hlen]; rfl
   have s69 : IntKind.wrap .i64 (((tbB T).length : Int) - (1 : Int)) = 69 := by rw [hlen]; rfl
   refine JoinP.unit (fun w22 => Grow w w22 ∧ TAt w22 t T) (fun j hj => ?_) ?_
   · refine ⟨_, RdB.len hvw, p68, by rw [s68]; exact hp68, _, hc68, ?_⟩
     rcases ho.hd with ⟨h1, h2⟩ | ⟨h, h1, h2, h3, h4⟩
     · have eT : (⟨T.keys, -1, 0, T.gn⟩ : Tb) = T := by cases T; simp_all
       rw [eT] at tb'
       refine JoinP.bool (fun q w'' => q = false ∧ w'' = w') (fun j2 hj2 => cond_f ?_ (hj2 _ _ ⟨rfl, rfl⟩)) ?_
       · rw [h1]; decide
       · rintro q w'' ⟨rfl, rfl⟩
         exact cond_f rfl (hj _ ⟨g, tb'⟩)
     · have b68 : ((byt T.hd).toNat : Int) = (h : Int) := by rw [byt_natE (by omega) (by omega), h1]
       have htyr := typed_range h4
       have b69 : ((byt T.ty).toNat : Int) = T.ty := byt_natE (by omega) (by omega)
       rw [b68] at hc68
       rw [b69] at hc69
       rw [b68, wi64_id (by omega) (by omega)]
       refine JoinP.bool (fun q w'' => q = true ∧ w'' = w') (fun j2 hj2 => cond_t (by simp; omega) (withAddr_some ⟨⟨by omega, by omega⟩, _, tb'.keyI h2, cond_t (by simpa using h3) ⟨_, RdB.len hvw, p69, by rw [s69]; exact hp69, _, hc69, ?_⟩⟩)) ?_
       · rw [wi64_id (by omega) (by omega)]
         exact typed_c ⟨_, rfl, hj2 _ _ ⟨h4, rfl⟩⟩
       · rintro q w'' ⟨rfl, rfl⟩
         refine cond_t rfl ⟨_, RdB.len hvw, p69, by rw [s69]; exact hp69, _, hc69, ?_⟩
         refine withAddr_some ⟨tb'.st (by omega), nm fun w38 e38 => ?_⟩
         obtain ⟨tb38, t38⟩ := tb'.set8 e38
         rw [wi64_id (by omega) (by omega)]
         refine withAddr_some ⟨tb38.st (by omega), nm fun w40 e40 => ?_⟩
         obtain ⟨tb40, t40⟩ := tb38.set9 e40
         refine hj _ ⟨Below.turn (Below.turn g t38 ht) t40 ht, ?_⟩
         have eT : (⟨T.keys, (h : Int), T.ty, T.gn⟩ : Tb) = T := by cases T; simp_all
         have := tb40
         dsimp only at this
         rw [eT] at this
         exact this
   · rintro w22 ⟨g22, tb22⟩
     refine tEncode_c tb22 ho fun v23 w24 g24 r24 => ?_
     refine Equal_c r24 (hv.grow (g22.then g24)) ⟨_, rfl, cond_f (by simp) ?_⟩
     exact k _ _ (g22.then g24) ht (tb22.grow g24)
end
section
open Go Go.CW Go.RowKit
variable {w w' : World} {u b t g1 g2 : Nat} {G : List (Int × Option Nat)} {U : Un}
theorem app_anyS {v src : Value} {bs cs : List UInt8} (hv : RdB w v bs) (hf : Ful v) (hr : RdB w src cs) (hb : bs.length + cs.length ≤ 1000000000) :
 ∃ v' w', Sem.run Tryz.prog (Builtin.append_ #[tB, tB] tB #[v, src]) w = .ok v' w' ∧ RdB w' v' (bs ++ cs) ∧ Grow w w' := by
 by_cases h0 : cs = []
 · subst h0
   exact ⟨v, w, app_none tyB hv hr, by simpa using hv, Grow.refl w⟩
 · obtain ⟨v', w', h1, h2, h3, _⟩ := app_anyO hv hf hr h0 hb
   exact ⟨v', w', h1, h2, h3⟩
def partB (v : List UInt8) : List UInt8 := putL (v.length : Int) 4 ++ v
theorem lpart_c {v x : Value} {bs cs : List UInt8} (hv : RdB w v bs) (hx : RdB w x cs) (hb : bs.length + cs.length ≤ 900000000) {R : KV}
 (k : ∀ v' w', Grow w w' → RdB w' v' (bs ++ partB cs) → R v' w') : CW.Spec Tryz.prog 124 #[v, x] w R := by
 apply q49W
 refine ⟨_, hx.len, ?_⟩
 rw [w64_id (by omega) (by omega)]
 refine bin_Put_w hv (by omega) ⟨by omega, by omega⟩ fun v1 w1 g1 wr1 f1 _ => ?_
 obtain ⟨v2, w2, hrun, r2, g2⟩ := app_anyS (show RdB w1 v1 (bs ++ putL (cs.length : Int) 4) from wr1.1) f1 (hx.grow g1) (by rw [List.length_append, putL_length]; omega)
 refine ⟨v2, w2, hrun, k _ _ (g1.then g2) ?_⟩
 have e : bs ++ partB cs = bs ++ putL (cs.length : Int) 4 ++ cs := by rw [List.append_assoc]; rfl
 rw [e]; exact r2
structure RpOk (r : Rp) : Prop where
 st : 0 ≤ r.st ∧ r.st < 256
 key : 0 ≤ r.key ∧ r.key < 256
 code : 0 ≤ r.code ∧ r.code < 65536
 info : 0 ≤ r.info ∧ r.info < 4294967296
 len : r.d.length ≤ 1000000
abbrev Gs := Option (Int × Rp)
structure GsOk (fl : Int) (o : Gs) : Prop where
 fl : 0 ≤ fl ∧ fl < 18446744073709551616
 id : ∀ p, o = some p → (Lit.int .u64 p.1).wf = true ∧ 0 ≤ p.1 ∧ p.1 < 18446744073709551616 ∧ RpOk p.2
def GsAt (w : World) (B m : Nat) : Gs → Prop
 | none => Gst w B m 0 (fun _ => none)
 | some (id, r) => ∃ v, Gst w B m 1 (putK (fun _ => none) id (v, r))
def repB (id : Int) (r : Rp) : List UInt8 := putL id 8 ++ [byt r.st, byt r.key] ++ putL r.code 2 ++ putL r.info 4 ++ partB r.d
def gstB (fl : Int) (o : Gs) : List UInt8 :=
 putL 0 2 ++ putL fl 8 ++ (match o with | none => putL 0 2 | some (id, r) => putL 1 2 ++ repB id r)
theorem GsAt.grow {B m : Nat} {o : Gs} (h : GsAt w B m o) (g : Grow w w') : GsAt w' B m o := by
 cases o with
 | none => exact Gst.grow h g
 | some p => obtain ⟨v, hv⟩ := h; exact ⟨v, hv.grow g⟩
theorem Mp.size_pos {P : Program} {k : TypeId} {q : IntKind} {D : DataW Value} {n : Nat} {m : Nat} (h1 : w.ownsMap P k heldR m n D) {x : Int} (h : Maps.has D (.int q x) = true) : 1 ≤ Maps.size D := by
 obtain ⟨es, hD, hk⟩ := h1.keysOf
 subst hD
 rw [Maps.has_eq, List.any_eq_true] at h
 obtain ⟨p, hp, _⟩ := h
 have : 0 < es.length := List.length_pos_of_mem hp
 show 1 ≤ es.length
 omega
theorem len0 {m : Nat} {f : Int → Option Value} (h : Mp Tryz.prog tU6 .u64 w m 0 f) (ty : TypeId) : Sem.run Tryz.prog (Builtin.len_ #[tMr] ty #[.map (some m)]) w = .ok (.int .i64 0) w := by
 obtain ⟨s, hs, hr⟩ := h.len undMr ty
 obtain rfl : s = 0 := by omega
 exact hr
theorem len1 {m : Nat} {f : Int → Option Value} (h : Mp Tryz.prog tU6 .u64 w m 1 f) {x : Int} (hx : (f x).isSome = true) (ty : TypeId) : Sem.run Tryz.prog (Builtin.len_ #[tMr] ty #[.map (some m)]) w = .ok (.int .i64 1) w := by
 obtain ⟨D, h1, h2⟩ := h
 have a := Mp.size_le h1
 have b := Mp.size_pos (q := .u64) h1 (x := x) (by rw [Mp.has h2]; exact hx)
 have := h1.len undMr ty
 rw [show Maps.size D = 1 by omega] at this
 exact this
theorem gWrite_c {B m : Nat} {fl : Int} {o : Gs} (h : GsAt w B m o) (ho : GsOk fl o) {R : KV} (k : ∀ v w', Grow w w' → RdB w' v (gstB fl o) → R v w') :
 CW.Spec Tryz.prog 127 #[.agg #[nilV, .int .u64 fl, .map (some m)]] w R := by
 apply q47W
 refine nm fun w0 e0 => ?_
 obtain ⟨b0, g0, _⟩ := alE e0
 refine ⟨nilV, by rw [b0.cell]; rfl, 0, rfl, ?_⟩
 rw [w64_id (by omega) (by omega)]
 refine bin_Put_w (bs := []) (Rd.nil w0) (by simp) ⟨by omega, by omega⟩ fun v3 w4 g4 wr3 f3 _ => ?_
 have b4 := b0.grow g4
 refine ⟨nilV, by rw [b4.cell]; rfl, 0, rfl, ?_⟩
 refine ⟨fun (v : Value) (n : Int) (w' : World) => v = v3 ∧ n = 0 ∧ w' = w4, fun (_ : Value) (_ : Int) (_ : World) => 0, ⟨rfl, rfl, rfl⟩, ?_⟩
 dsimp only [allR, mapR2, eqN, ltN]
 rintro m0 v8 n9 w10 ⟨⟨rfl, rfl, rfl⟩, hm⟩
 refine cond_f rfl (nm fun w15 e15 => ?_)
 have d15 := drE e15
 refine ⟨fl, by rw [(b4.grow d15).cell]; rfl, .map (some m), by rw [(b4.grow d15).cell]; rfl, nm fun w18 e18 => ?_⟩
 have d18 := drE e18
 have r18 : RdB w18 v8 (putL 0 2) := by have := Rd.grow (show RdB w10 v8 ([] ++ putL 0 2) from wr3.1) d18; simpa using this
 refine bin_Put_w r18 (by simp [putL_length]) ⟨by omega, by omega⟩ fun v19 w20 g20 wr19 f19 _ => ?_
 have gg20 := (g0.then g4).then (d18.then g20)
 have b20 := b4.grow (d18.then g20)
 refine ⟨⟨_, by rw [b20.cell]; rfl, rfl⟩, ?_⟩
 have r20 : RdB w20 v19 (putL 0 2 ++ putL fl 8) := wr19.1
 cases o with
 | none =>
   have h' : Gst w B m 0 (fun _ => none) := h
   have mp20 := h'.mp.grow gg20
   refine ⟨0, len0 mp20 _, ?_⟩
   rw [w64_id (by omega) (by omega)]
   refine bin_Put_w r20 (by simp [putL_length]) ⟨by omega, by omega⟩ fun v23 w24 g24 wr23 f23 _ => ?_
   have b24 := b20.grow g24
   refine ⟨_, by rw [b24.cell]; rfl, keysU_c (mp20.grow g24) (by omega) fun v28 w29 ss g29 rd28 hl hmem => ?_⟩
   have hss : ss = [] := by
    cases ss with
    | nil => rfl
    | cons a l => have := (hmem a).1 (by simp); simp [doneF] at this
   subst hss
   refine ⟨0, rd28.len, fun (v : Value) (n : Int) (w' : World) => v = v23 ∧ n = 0 ∧ w' = w29, fun (_ : Value) (_ : Int) (_ : World) => 0, ⟨rfl, rfl, rfl⟩, ?_⟩
   dsimp only [allR, mapR2, eqN, ltN]
   rintro m0 v8 n9 w10 ⟨⟨rfl, rfl, rfl⟩, hm⟩
   exact cond_f rfl (k _ _ (gg20.then (g24.then g29)) (Rd.grow wr23.1 g29))
 | some p =>
   obtain ⟨id, r⟩ := p
   obtain ⟨dv, h'⟩ := h
   obtain ⟨(hwf : (Lit.int .u64 id).wf = true), (hid0 : 0 ≤ id), (hid1 : id < 18446744073709551616), (hr : RpOk r)⟩ := ho.id _ rfl
   have mp20 := h'.mp.grow gg20
   have hx : (doneF (putK (fun _ => none) id (dv, r)) id) = some (repV (dv, r)) := by simp [doneF, putK]
   refine ⟨1, len1 mp20 (x := id) (by rw [hx]; rfl) _, ?_⟩
   rw [w64_id (by omega) (by omega)]
   refine bin_Put_w r20 (by simp [putL_length]) ⟨by omega, by omega⟩ fun v23 w24 g24 wr23 f23 _ => ?_
   have b24 := b20.grow g24
   refine ⟨_, by rw [b24.cell]; rfl, keysU_c (mp20.grow g24) (by omega) fun v28 w29 ss g29 rd28 hl hmem => ?_⟩
   have hss : ss = [id] := by
    match ss, hl, hmem with
    | [], _, hmem => have := (hmem id).2 (by rw [hx]; rfl); simp at this
    | [a], _, hmem =>
      have := (hmem a).1 (by simp)
      by_cases e : a = id
      · rw [e]
      · simp [doneF, putK, e] at this
    | a :: c :: l, hl, _ => simp at hl
   subst hss
   have gg29 := gg20.then (g24.then g29)
   have r29 : RdB w29 v23 (putL 0 2 ++ putL fl 8 ++ putL 1 2) := Rd.grow wr23.1 g29
   refine ⟨1, rd28.len, fun (v : Value) (n : Int) (w' : World) => (n = 0 ∧ v = v23 ∧ w' = w29) ∨ (n = 1 ∧ Grow w29 w' ∧ RdB w' v (gstB fl (some (id, r)))), fun (_ : Value) (n : Int) (_ : World) => ((1 : Int) - n).toNat, .inl ⟨rfl, rfl, rfl⟩, ?_⟩
   dsimp only [allR, mapR2, eqN, ltN]
   rintro m0 v32 n33 w34 ⟨h34, hm⟩
   rcases h34 with ⟨rfl, rfl, rfl⟩ | ⟨rfl, g34, r34⟩
   · refine cond_t rfl ?_
     obtain ⟨a35, k1, k2, _⟩ := rd28.at (i := 0) (by omega) (by simp)
     refine ⟨a35, k1, id, by have := k2 0 (by show 0 < 1; omega); rw [add_zero] at this; exact this, .map (some m), by rw [(b24.grow g29).cell]; rfl, ?_⟩
     have mp34 := (mp20.grow g24).grow g29
     have hd := h'.d id (dv, r) (by simp [putK])
     have rd34 := Rd.grow hd.1 gg29
     refine ⟨r.st, r.key, r.code, dv, r.info, ?_, nm fun w43 e43 => ?_⟩
     · have := mp34.look undU6 undMr (zRep w34) hwf
       rw [hx] at this; exact this
     obtain ⟨b43, g43, _⟩ := alE e43
     refine ⟨b43.row rfl (one_rep (Rd.isOne hd.1)), nm fun w44 e44 => ?_⟩
     obtain ⟨b44, t44⟩ := rowE b43 e44 rfl
     have g44 : Grow w34 w44 := Below.turn g43 t44 (Nat.le_refl _)
     refine bin_Put_w (Rd.grow r29 g44) (by simp [putL_length]) ⟨by omega, by omega⟩ fun v45 w46 g46 wr45 f45 _ => ?_
     have b46 := b44.grow g46
     refine ⟨r.st, by rw [b46.cell]; rfl, r.key, by rw [b46.cell]; rfl, nm fun w49 e49 => ?_⟩
     rw [byt_wrap, byt_wrap] at e49
     obtain ⟨b49, g49, _⟩ := alE e49
     have rl : RB w49 w46.heap.size [byt r.st, byt r.key] := b49
     have rr := rl.rd (by simp [maxLen])
     obtain ⟨v50, w51, q1, q2, q3⟩ := app_ful tyB (Rd.grow wr45.1 g49) f45 rr one_b8 (by simp) (by simp [putL_length])
     have r51 : RdB w51 v50 (putL 0 2 ++ putL fl 8 ++ putL 1 2 ++ putL id 8 ++ [byt r.st, byt r.key]) := by
      have := q2.rd
      rw [← List.map_append] at this
      exact this
     have b51 := (b46.grow g49).grow q3
     refine ⟨v50, w51, q1, nm fun w52 e52 => ?_⟩
     have d52 := drE e52
     refine ⟨r.code, by rw [(b51.grow d52).cell]; rfl, r.info, by rw [(b51.grow d52).cell]; rfl, nm fun w55 e55 => ?_⟩
     have d55 := drE e55
     have hc := hr.code
     have hi := hr.info
     have hln := hr.len
     rw [w64_id (n := r.code) (by omega) (by omega)]
     refine bin_Put_w (Rd.grow r51 d55) (by simp [putL_length]) ⟨by omega, by omega⟩ fun v56 w57 g57 wr56 f56 _ => ?_
     have b57 := (b51.grow d55).grow g57
     refine ⟨⟨_, by rw [b57.cell]; rfl, rfl⟩, ?_⟩
     rw [w64_id (n := r.info) (by omega) (by omega)]
     refine bin_Put_w (show RdB w57 v56 _ from wr56.1) (by simp [putL_length]) ⟨by omega, by omega⟩ fun v59 w60 g60 wr59 f59 _ => ?_
     have b60 := b57.grow g60
     have gg60 : Grow w34 w60 := ((((g44.then g46).then g49).then q3).then d55).then (g57.then g60)
     refine ⟨dv, by rw [b60.cell]; rfl, lpart_c (show RdB w60 v59 _ from wr59.1) (show RdB w60 dv r.d from Rd.grow rd34 gg60) (by simp [putL_length]; omega) fun v62 w63 g63 r63 => ?_⟩
     rw [wi64_id (by omega) (by omega)]
     refine ⟨.inr ⟨by rfl, gg60.then g63, ?_⟩, by omega⟩
     have e : gstB fl (some (id, r)) = putL 0 2 ++ putL fl 8 ++ putL 1 2 ++ putL id 8 ++ [byt r.st, byt r.key] ++ putL r.code 2 ++ putL r.info 4 ++ partB r.d := by
      simp only [gstB, repB, List.append_assoc]
     rw [e]; exact r63
   · exact cond_f rfl (k _ _ (gg29.then g34) r34)
end
section
open Go Go.CW Go.RowKit
variable {w w' : World} {u b t g1 g2 : Nat} {G : List (Int × Option Nat)} {U : Un}
def unB (U : Un) (L : List (Int × Gs)) : List UInt8 := partB (encS U.N U.D U.M) ++ partB (tbB U.T) ++ L.flatMap fun p => partB (gstB p.1 p.2)
structure UGs (w : World) (B : Nat) (G : List (Int × Option Nat)) (L : List (Int × Gs)) : Prop where
 len : L.length = 8
 rel : ∀ (i : Nat) (p : Int × Gs), L[i]? = some p → ∃ m, G[i]? = some (p.1, some m) ∧ GsAt w B m p.2
structure UnOk (U : Un) (L : List (Int × Gs)) : Prop where
 un : Under U.N U.M
 zer : Zero0 U.N U.D U.M
 tb : TOk U.T
 gs : ∀ p ∈ L, GsOk p.1 p.2
theorem UGs.grow {B : Nat} {L : List (Int × Gs)} (h : UGs w B G L) (g : Grow w w') : UGs w' B G L := ⟨h.len, fun i p hp => by obtain ⟨m, h1, h2⟩ := h.rel i p hp; exact ⟨m, h1, h2.grow g⟩⟩
theorem gstB_len {fl : Int} {o : Gs} (h : GsOk fl o) : (gstB fl o).length ≤ 1000100 := by
 cases o with
 | none => simp [gstB, putL_length]
 | some p =>
   obtain ⟨id, r⟩ := p
   obtain ⟨_, _, _, hr⟩ := h.id _ rfl
   have : r.d.length ≤ 1000000 := hr.len
   simp [gstB, repB, partB, putL_length]; omega
theorem gsts_len {L : List (Int × Gs)} (h : ∀ p ∈ L, GsOk p.1 p.2) : (L.flatMap fun p => partB (gstB p.1 p.2)).length ≤ 1000200 * L.length := by
 induction L with
 | nil => simp
 | cons p L ih =>
   have h1 := gstB_len (h p (by simp))
   have h2 := ih fun q hq => h q (by simp [hq])
   rw [List.flatMap_cons, List.length_append, List.length_cons]
   have h3 : (partB (gstB p.1 p.2)).length = 4 + (gstB p.1 p.2).length := by simp [partB, putL_length]
   omega
theorem idxG {i : Nat} (hi : i < 8) (f0 f1 f2 f3 f4 f5 f6 f7 : Int) (m0 m1 m2 m3 m4 m5 m6 m7 : Option Nat) :
 Sem.run Tryz.prog (Instr.index 158 (.agg #[nilV, .int .u64 f0, .map m0, nilV, .int .u64 f1, .map m1, nilV, .int .u64 f2, .map m2, nilV, .int .u64 f3, .map m3, nilV, .int .u64 f4, .map m4, nilV, .int .u64 f5, .map m5, nilV, .int .u64 f6, .map m6, nilV, .int .u64 f7, .map m7]) (.int .i64 (i : Int))) w =
  .ok (.agg #[nilV, .int .u64 ([f0, f1, f2, f3, f4, f5, f6, f7].getD i 0), .map ([m0, m1, m2, m3, m4, m5, m6, m7].getD i none)]) w := by
 have hu : Tryz.prog.underlying 158 = some (.array 8 157) := by kernel_rfl
 have hs : (sizeOf 157).run Tryz.prog w = .ok 3 w := run_sizeOf' (by kernel_rfl)
 have ha : aggB Tryz.prog 157 = true := by kernel_rfl
 have h0 : (0 : Int) ≤ (i : Int) ∧ (i : Int) < 8 := by omega
 have : i = 0 ∨ i = 1 ∨ i = 2 ∨ i = 3 ∨ i = 4 ∨ i = 5 ∨ i = 6 ∨ i = 7 := by omega
 rcases this with rfl | rfl | rfl | rfl | rfl | rfl | rfl | rfl <;> simp [Instr.index, asIntOf, run_underlying hu, hs, Go.part, run_isAgg, ha]
theorem G8 (h : G.length = 8) : ∃ f0 f1 f2 f3 f4 f5 f6 f7 m0 m1 m2 m3 m4 m5 m6 m7, G = [(f0, m0), (f1, m1), (f2, m2), (f3, m3), (f4, m4), (f5, m5), (f6, m6), (f7, m7)] := by
 match hk : G, h with
 | [(a, a'), (b, b'), (c, c'), (d, d'), (e, e'), (f, f'), (g, g'), (i, i')], _ => exact ⟨a, b, c, d, e, f, g, i, a', b', c', d', e', f', g', i', rfl⟩
theorem UAt.ld24 (h : UAt w u b t g1 g2 G U) {f0 f1 f2 f3 f4 f5 f6 f7 : Int} {m0 m1 m2 m3 m4 m5 m6 m7 : Option Nat} (hG : G = [(f0, m0), (f1, m1), (f2, m2), (f3, m3), (f4, m4), (f5, m5), (f6, m6), (f7, m7)]) :
 ldCells w (Addr.add ⟨u, 0, none⟩ 2) 24 #[nilV, .int .u64 f0, .map m0, nilV, .int .u64 f1, .map m1, nilV, .int .u64 f2, .map m2, nilV, .int .u64 f3, .map m3, nilV, .int .u64 f4, .map m4, nilV, .int .u64 f5, .map m5, nilV, .int .u64 f6, .map m6, nilV, .int .u64 f7, .map m7] := by
 refine ⟨rfl, fun i hi => ?_⟩
 rw [add_add, h.o.cell, hG]
 simp only [rU, List.getElem?_toArray]
 rw [List.getElem?_append_right (by simp)]
 have e : 2 + i - [Value.pointer (some ⟨b, 0, none⟩), Value.pointer (some ⟨t, 0, none⟩)].length = i := by show 2 + i - 2 = i; omega
 rw [e]
 rfl
theorem take_flat {α : Type} (f : α → List UInt8) (L : List α) {i : Nat} (hi : i < L.length) : (L.take (i + 1)).flatMap f = (L.take i).flatMap f ++ f (L[i]) := by
 rw [List.take_add_one, List.getElem?_eq_getElem hi, List.flatMap_append]; simp
theorem uEncode_c {B : Nat} {L : List (Int × Gs)} (h : UAt w u b t g1 g2 G U) (hg : UGs w B G L) (ho : UnOk U L) {R : KV} (k : ∀ v w', Grow w w' → RdB w' v (unB U L) → R v w') :
 CW.Spec Tryz.prog 49 #[.pointer (some ⟨u, 0, none⟩)] w R := by
 apply q39W
 have hS := encS_length h.sp ho.un
 have hM := h.sp.mlen
 have hP := popL_le U.M
 have hT := tbB_length ho.tb
 have hL := hg.len
 refine nm fun w0 e0 => ?_
 have d0 := drE e0
 have h0 := h.grow d0
 refine withAddr_some ⟨_, h0.c0, withAddr_some ⟨_, h0.c1, nm fun w5 e5 => ?_⟩⟩
 have d5 := drE e5
 have h5 := h.grow d5
 refine Encode_c h5.sp ho.un fun v6 w7 g7 r6 => ?_
 have h7 := h5.grow g7
 refine ⟨⟨_, h7.c1, rfl⟩, lpart_c (bs := []) (Rd.nil w7) r6 (by simp; omega) fun v9 w10 g10 r9 => ?_⟩
 have h10 := h7.grow g10
 refine ⟨⟨_, h10.c1, rfl⟩, tEncode_c h10.tb ho.tb fun v12 w13 g13 r12 => ?_⟩
 have r9' : RdB w13 v9 (partB (encS U.N U.D U.M)) := by have := Rd.grow r9 g13; simpa using this
 refine lpart_c r9' r12 (by simp only [partB, List.length_append, putL_length]; omega) fun v14 w15 g15 r14 => ?_
 have gg15 : Grow w w15 := ((((d5.then g7).then g10).then g13).then g15)
 have h15 := h.grow gg15
 obtain ⟨f0, f1, f2, f3, f4, f5, f6, f7, m0, m1, m2, m3, m4, m5, m6, m7, hG⟩ := G8 h.gl
 refine withAddr_some ⟨_, _, _, _, _, _, _, _, _, _, _, _, _, _, _, _, _, _, _, _, _, _, _, _, h15.ld24 hG, ?_⟩
 refine ⟨fun (v : Value) (n : Int) (w' : World) => ∃ i : Nat, n = (i : Int) ∧ i ≤ 8 ∧ Grow w15 w' ∧ RdB w' v (partB (encS U.N U.D U.M) ++ partB (tbB U.T) ++ (L.take i).flatMap fun p => partB (gstB p.1 p.2)), fun (_ : Value) (n : Int) (_ : World) => ((8 : Int) - n).toNat,
  ⟨0, rfl, by omega, Grow.refl _, by simpa using r14⟩, ?_⟩
 dsimp only [allR, mapR2, eqN, ltN]
 rintro m v n w' ⟨⟨i, rfl, hi, g, r⟩, hm⟩
 refine cond_intro (fun hc => ?_) (fun hc => ?_)
 · have hlt : i < 8 := by simp at hc; omega
   have hx := idxG (w := w') hlt f0 f1 f2 f3 f4 f5 f6 f7 m0 m1 m2 m3 m4 m5 m6 m7
   have hLi : i < L.length := by omega
   obtain ⟨mm, hGi, hs⟩ := hg.rel i L[i] (List.getElem?_eq_getElem hLi)
   have hf : [f0, f1, f2, f3, f4, f5, f6, f7].getD i 0 = L[i].1 ∧ [m0, m1, m2, m3, m4, m5, m6, m7].getD i none = some mm := by
    subst hG
    have : i = 0 ∨ i = 1 ∨ i = 2 ∨ i = 3 ∨ i = 4 ∨ i = 5 ∨ i = 6 ∨ i = 7 := by omega
    rcases this with rfl | rfl | rfl | rfl | rfl | rfl | rfl | rfl <;> simp at hGi <;> simp [hGi]
   rw [hf.1, hf.2] at hx
   refine ⟨_, _, _, hx, nm fun w48 e48 => ?_⟩
   obtain ⟨b48, g48, _⟩ := alE e48
   refine ⟨b48.row rfl rfl, nm fun w49 e49 => ?_⟩
   obtain ⟨b49, t49⟩ := rowE b48 e49 rfl
   have g49 : Grow w' w49 := Below.turn g48 t49 (Nat.le_refl _)
   have gg49 := gg15.then (g.then g49)
   have hgo := ho.gs L[i] (List.getElem_mem hLi)
   refine ⟨_, _, _, b49.ld rfl, gWrite_c (hs.grow gg49) hgo fun v53 w54 g54 r53 => ?_⟩
   have hlen := gstB_len hgo
   have hlp := gsts_len (L := L.take i) fun p hp => ho.gs p (List.mem_of_mem_take hp)
   rw [List.length_take] at hlp
   have e1 : (partB (encS U.N U.D U.M)).length = 4 + (encS U.N U.D U.M).length := by simp [partB, putL_length]
   have e2 : (partB (tbB U.T)).length = 4 + (tbB U.T).length := by simp [partB, putL_length]
   have hle : (partB (encS U.N U.D U.M) ++ partB (tbB U.T) ++ (L.take i).flatMap fun p => partB (gstB p.1 p.2)).length + (gstB L[i].1 L[i].2).length ≤ 900000000 := by
    rw [List.length_append, List.length_append]; omega
   refine lpart_c (Rd.grow r (g49.then g54)) r53 hle fun v55 w56 g56 r55 => ?_
   rw [wi64_id (by omega) (by omega)]
   refine ⟨⟨i + 1, by omega, by omega, ((g.then g49).then g54).then g56, ?_⟩, by omega⟩
   rw [take_flat _ L hLi, ← List.append_assoc]; exact r55
 · have he : i = 8 := by simp at hc; omega
   subst he
   rw [List.take_of_length_le (by omega)] at r
   exact slices_Clip_c r fun v57 r57 _ => k _ _ (gg15.then g) r57
end
section
open Go Go.CW Go.RowKit
variable {w w' : World} {u b t g1 g2 : Nat} {G : List (Int × Option Nat)} {U : Un}
abbrev tRdr : TypeId := 240
def RdrAt (w : World) (rd : Nat) (q : Option Nat) (bs : List UInt8) : Prop := ∃ v, BK w rd #[v, .bool false] tRdr ∧ RdB w v bs ∧ v.ownBlock = q
theorem RdrAt.grow {rd : Nat} {q : Option Nat} {bs : List UInt8} (h : RdrAt w rd q bs) (g : Grow w w') : RdrAt w' rd q bs := by
 obtain ⟨v, h1, h2, h3⟩ := h; exact ⟨v, h1.grow g, Rd.grow h2 g, h3⟩
theorem RdrAt.turn {rd k : Nat} {q : Option Nat} {bs : List UInt8} (h : RdrAt w rd q bs) (t' : Turn k w w') (h1 : rd ≠ k) (h2 : q ≠ some k) : RdrAt w' rd q bs := by
 obtain ⟨v, a, b, c⟩ := h; exact ⟨v, a.turn t' h1, Rd.turn b t' (c ▸ h2), c⟩
theorem RdrAt.stepS {rd : Nat} {q : Option Nat} {bs : List UInt8} {S S' : Fp} (h : RdrAt w rd q bs) (st : Step S w w' S') (h1 : ¬ S rd) (h2 : ∀ k, q = some k → ¬ S k) : RdrAt w' rd q bs := by
 obtain ⟨v, a, b, c⟩ := h; exact ⟨v, a.stepS st h1, Rd.stepS b st (fun _ k hk => h2 k (c ▸ hk)), c⟩
theorem RdB.from' {v : Value} {bs : List UInt8} {n : Nat} {κ : IntKind} (h : RdB w v bs) (hn : n ≤ bs.length) : ∃ v', subSlice v 1 (some (.int κ (n : Int))) none none = some v' ∧ RdB w v' (bs.drop n) ∧ v'.ownBlock = v.ownBlock := by
 obtain ⟨v', h1, h2, h3⟩ := Rd.sub h (lo := some (.int κ (n : Int))) (hi := none) (l := n) (r := bs.length) (fun cap hc => by rw [bounds_in (by omega) (by simp; omega)]; simp) (by omega) (by simp)
 refine ⟨v', h1, ?_, h3⟩
 have e : List.take (bs.length - n) (List.drop n (bs.map b8)) = (bs.drop n).map b8 := by
  rw [List.take_of_length_le (by simp), List.map_drop]
 rw [e] at h2
 exact h2
theorem RdB.to' {v : Value} {bs : List UInt8} {n : Nat} {κ : IntKind} (h : RdB w v bs) (hn : n ≤ bs.length) : ∃ v', subSlice v 1 none (some (.int κ (n : Int))) none = some v' ∧ RdB w v' (bs.take n) ∧ v'.ownBlock = v.ownBlock := by
 obtain ⟨v', h1, h2, h3⟩ := Rd.sub h (lo := none) (hi := some (.int κ (n : Int))) (l := 0) (r := n) (fun cap hc => by rw [bounds_ni (by omega) (by simp at hc; omega)]; simp) (by omega) (by simpa using hn)
 refine ⟨v', h1, ?_, h3⟩
 have e : List.take (n - 0) (List.drop 0 (bs.map b8)) = (bs.take n).map b8 := by simp [List.map_take]
 rw [e] at h2
 exact h2
theorem number_c {rd n : Nat} {q : Option Nat} {x : Int} {rest : List UInt8} (h : RdrAt w rd q (putL x n ++ rest)) (hn : 1 ≤ n ∧ n ≤ 8) (hx : 0 ≤ x ∧ x < 256 ^ n) (hq : q ≠ some rd) {R : KV}
 (k : ∀ w', Turn rd w w' → RdrAt w' rd q rest → R (.int .u64 x) w') : CW.Spec Tryz.prog 209 #[.pointer (some ⟨rd, 0, none⟩), .int .i64 (n : Int)] w R := by
 obtain ⟨v, bk, r, hv⟩ := h
 apply q50W
 refine withAddr_some ⟨v, by rw [bk.cell]; rfl, bin_Get_c r (by decide) (by have : n = 1 ∨ n = 2 ∨ n = 3 ∨ n = 4 ∨ n = 5 ∨ n = 6 ∨ n = 7 ∨ n = 8 := by omega
                                                                            rcases this with rfl | rfl | rfl | rfl | rfl | rfl | rfl | rfl <;> decide) ⟨_, _, rfl, cond_f ?_ (withAddr_some ⟨v, by rw [bk.cell]; rfl, ?_⟩)⟩⟩
 · simp only [getB, inW, List.length_append, putL_length, Bool.not_eq_false', Bool.and_eq_true, decide_eq_true_eq]; omega
 obtain ⟨v', h1, h2, h3⟩ := RdB.from' (κ := .i64) r (n := n) (by simp [putL_length])
 rw [List.drop_left' (putL_length x n)] at h2
 refine ⟨v', h1, withAddr_some (oneK_of (Rd.isOne h2) ⟨st1_at bk (by show 0 < 2; omega), nm fun w14 e14 => ?_⟩)⟩
 obtain ⟨b14, t14⟩ := setE bk e14
 have hg := getV_at (pre := []) (post := rest) (x := x) (n := n) hx.1 hn (a := 0) (by simp)
 rw [List.nil_append, Int.emod_eq_of_lt hx.1 hx.2] at hg
 rw [hg]
 exact k w14 t14 ⟨v', b14, Rd.turn h2 t14 (by rw [h3, hv]; exact hq), h3.trans hv⟩
theorem rpart_c {rd : Nat} {q : Option Nat} {cs rest : List UInt8} (h : RdrAt w rd q (partB cs ++ rest)) (hl : cs.length < 4294967296) (hq : q ≠ some rd) {R : KV}
 (k : ∀ v w', Turn rd w w' → RdrAt w' rd q rest → RdB w' v cs → v.ownBlock = q → R v w') : CW.Spec Tryz.prog 130 #[.pointer (some ⟨rd, 0, none⟩)] w R := by
 apply q51W
 have h' : RdrAt w rd q (putL (cs.length : Int) 4 ++ (cs ++ rest)) := by rw [← List.append_assoc]; exact h
 refine number_c (n := 4) h' (by omega) ⟨by omega, by simp; omega⟩ hq fun w1 t1 r1 => ⟨_, rfl, ?_⟩
 obtain ⟨v, bk, r, hv⟩ := r1
 have hle := r.le
 rw [List.length_map] at hle
 refine withAddr_some ⟨v, by rw [bk.cell]; rfl, _, r.len, cond_f ?_ ?_⟩
 · rw [w64_id (by omega) (by omega)]
   simp only [List.length_append, decide_eq_false_iff_not]
   omega
 obtain ⟨v1, a1, a2, a3⟩ := RdB.to' (κ := .u64) r (n := cs.length) (by simp)
 obtain ⟨v2, c1, c2, c3⟩ := RdB.from' (κ := .u64) r (n := cs.length) (by simp)
 rw [List.take_left' rfl] at a2
 rw [List.drop_left' rfl] at c2
 refine withAddr_some ⟨v, by rw [bk.cell]; rfl, v1, a1, withAddr_some ⟨v, by rw [bk.cell]; rfl, v2, c1, withAddr_some (oneK_of (Rd.isOne c2) ⟨st1_at bk (by show 0 < 2; omega), nm fun w17 e17 => ?_⟩)⟩⟩
 obtain ⟨b17, t17⟩ := setE bk e17
 exact k v1 w17 (t1.then t17) ⟨v2, b17, Rd.turn c2 t17 (by rw [c3, hv]; exact hq), c3.trans hv⟩ (Rd.turn a2 t17 (by rw [a3, hv]; exact hq)) (a3.trans hv)
theorem UAt.floor (h : UAt w u b t g1 g2 G U) {i : Nat} (hi : i < 8) {x : Int} {m : Option Nat} {f : Int} (hG : G[i]? = some (f, m)) {w1 : World}
 (e1 : w1 = World.setCell w (Addr.add (Addr.add (Addr.add ⟨u, 0, none⟩ 2) (Int.toNat (i : Int) * 3)) 1) (.int .u64 x)) :
 UAt w1 u b t g1 g2 (G.set i (x, m)) U ∧ Turn u w w1 := by
 have hl := h.gl
 have ad : ∀ j, Addr.add (Addr.add (Addr.add ⟨u, 0, none⟩ 2) (Int.toNat (i : Int) * 3)) j = Addr.add ⟨u, 0, none⟩ (2 + i * 3 + j) := fun j => by
  rw [add_add, add_add, Int.toNat_natCast]; congr 1; omega
 rw [ad] at e1
 obtain ⟨b1, t1⟩ := setE h.o e1
 rw [rU_set1 (by omega)] at b1
 have hi' : i < G.length := by omega
 have e2 : G[i].2 = m := by rw [List.getElem?_eq_getElem hi'] at hG; rw [Option.some.inj hG]
 rw [e2] at b1
 have st : Step (fun k => k = u) w w1 (fun k => k = u) := t1.step rfl
 have n1 : b ≠ u := bk_ne h.sp.obj h.o (by decide)
 have n2 : g1 ≠ u := bk_ne h.sp.dat h.o (by decide)
 have n3 : g2 ≠ u := bk_ne h.sp.map h.o (by decide)
 have n4 : t ≠ u := bk_ne h.tb.b h.o (by decide)
 exact ⟨⟨b1, by rw [List.length_set]; exact hl, h.sp.step st n1 n2 n3, ⟨(t1.block t n4).trans h.tb.b, h.tb.len⟩, h.gn, h.ty⟩, t1⟩
theorem UAt.gst1 (h : UAt w u b t g1 g2 G U) {i : Nat} (hi : i < 8) : St1 w (Addr.add (Addr.add (Addr.add ⟨u, 0, none⟩ 2) (Int.toNat (i : Int) * 3)) 1) := by
 have hl := h.gl
 have ad : ∀ j, Addr.add (Addr.add (Addr.add ⟨u, 0, none⟩ 2) (Int.toNat (i : Int) * 3)) j = Addr.add ⟨u, 0, none⟩ (2 + i * 3 + j) := fun j => by
  rw [add_add, add_add, Int.toNat_natCast]; congr 1; omega
 rw [ad]
 have hs : ∀ G : List (Int × Option Nat), G.length = 8 → (rU b t G).size = 26 := fun G hG => by
  simp only [rU, List.size_toArray, List.length_append, Enc.flat_length, hG]; rfl
 exact st1_at h.o (by rw [hs G hl]; omega)
theorem put1 (x : Int) : [byt x] = putL x 1 := by simp [putL]
end
section
open Go Go.CW Go.RowKit
variable {w w' : World} {u b t g1 g2 : Nat} {G : List (Int × Option Nat)} {U : Un}
def gstT : Gs → List UInt8
 | none => putL 0 2
 | some (id, r) => putL 1 2 ++ repB id r
theorem gstB_T (fl : Int) (o : Gs) : gstB fl o = putL 0 2 ++ (putL fl 8 ++ gstT o) := by
 cases o <;> simp only [gstB, gstT, List.append_assoc]
abbrev FG (u m : Nat) : Fp := fun k => k = u ∨ k = m
theorem Mp.turn {k q : Nat} {f : Int → Option Value} {n : Nat} (h : Mp Tryz.prog tU6 .u64 w q n f) (t' : Turn k w w') (hne : q ≠ k) : Mp Tryz.prog tU6 .u64 w' q n f := h.at (t'.block q hne)
theorem gRead_c {B i m : Nat} {x0 fl : Int} {o : Gs} {v : Value} (h : UAt w u b t g1 g2 G U) (hi : i < 8) (hG : G[i]? = some (x0, some m)) (hs : Gst w B m 0 (fun _ => none)) (ho : GsOk fl o) (hd : RdB w v (gstB fl o))
 (hv : ∀ q, v.ownBlock = some q → q ≠ u ∧ q ≠ m) (hB : u < B ∧ b < B ∧ t < B ∧ g1 < B ∧ g2 < B ∧ m < B) (hBw : B ≤ w.heap.size) (hmu : m ≠ u) {R : KV}
 (k : ∀ w', Step (FG u m) w w' (FG u m) → UAt w' u b t g1 g2 (G.set i (fl, some m)) U → GsAt w' B m o → R (.bool true) w') :
 CW.Spec Tryz.prog 133 #[.pointer (some (Addr.add (Addr.add ⟨u, 0, none⟩ 2) (Int.toNat (i : Int) * 3))), v] w R := by
 have nb1 : m ≠ b := hs.mp.ne h.sp.obj
 have nb2 : m ≠ t := hs.mp.ne h.tb.b
 have nb3 : m ≠ g1 := hs.mp.ne h.sp.dat
 have nb4 : m ≠ g2 := hs.mp.ne h.sp.map
 apply q46W
 have hvl : ∀ q, v.ownBlock = some q → q < w.heap.size := Rd.lt hd (by cases o <;> simp [gstB, putL])
 refine oneK_of (Rd.isOne hd) (nm fun w0 e0 => ?_)
 obtain ⟨b0, g0, s0⟩ := alE e0
 generalize hrd : w.heap.size = rd at *
 have hq : v.ownBlock ≠ some rd := fun e => by have := hvl _ e; omega
 have hqu : v.ownBlock ≠ some u := fun e => (hv _ e).1 rfl
 have hqm : v.ownBlock ≠ some m := fun e => (hv _ e).2 rfl
 have hBr : u < rd ∧ b < rd ∧ t < rd ∧ g1 < rd ∧ g2 < rd := by omega
 have m0 : Md (FG u m) rd w w0 := (Md.refl _ _ _).grow g0
 have u0 := h.grow g0
 have mp0 := hs.mp.grow g0
 have r0 : RdrAt w0 rd v.ownBlock (putL 0 2 ++ (putL fl 8 ++ gstT o)) := ⟨v, b0, by rw [← gstB_T]; exact Rd.grow hd g0, rfl⟩
 refine number_c (n := 2) r0 (by omega) ⟨by omega, by omega⟩ hq fun w2 t2 r2 => ⟨_, rfl, ?_⟩
 have m2 := m0.turn t2 (.inr (Nat.le_refl _))
 have u2 := u0.turnN t2 hBr
 have mp2 := Mp.turn mp0 t2 (by omega)
 refine ⟨fun (n : Int) (w' : World) => n = 0 ∧ w' = w2, fun (_ : Int) (_ : World) => 0, ⟨rfl, rfl⟩, ?_⟩
 dsimp only [allR, mapR2, eqN, ltN]
 rintro mm n w6 ⟨⟨rfl, rfl⟩, hm⟩
 refine JoinP.go (cond_f rfl (cond_f rfl ?_))
 refine number_c (n := 8) r2 (by omega) ⟨ho.fl.1, by simpa using ho.fl.2⟩ hq fun w26 t26 r26 => ⟨_, rfl, ?_⟩
 have m26 := m2.turn t26 (.inr (Nat.le_refl _))
 have u26 := u2.turnN t26 hBr
 have mp26 := Mp.turn mp2 t26 (by omega)
 refine withAddr_some ⟨u26.gst1 hi, nm fun w29 e29 => ?_⟩
 obtain ⟨u29, t29⟩ := u26.floor hi hG e29
 have m29 := m26.turn t29 (.inl (.inl rfl))
 have r29 := r26.turn t29 (by omega) hqu
 have mp29 := Mp.turn mp26 t29 hmu
 have hl := h.gl
 have hG29 : (G.set i (fl, some m))[i]? = some (fl, some m) := by rw [List.getElem?_set_self (by omega)]
 cases o with
 | none =>
   refine number_c (n := 2) (rest := []) (x := 0) (by simpa [gstT] using r29) (by omega) ⟨by omega, by omega⟩ hq fun w31 t31 r31 => ⟨_, rfl, ?_⟩
   have m31 := m29.turn t31 (.inr (Nat.le_refl _))
   have u31 := u29.turnN t31 hBr
   have mp31 := Mp.turn mp29 t31 (by omega)
   refine ⟨fun (n : Int) (w' : World) => n = 0 ∧ w' = w31, fun (_ : Int) (_ : World) => 0, ⟨rfl, rfl⟩, ?_⟩
   dsimp only [allR, mapR2, eqN, ltN]
   rintro mm n w35 ⟨⟨rfl, rfl⟩, hm⟩
   refine JoinP.go (cond_f rfl (cond_f rfl ?_))
   obtain ⟨v', c1, c2, c3⟩ := r31
   refine JoinP.go ⟨false, by rw [c1.cell]; rfl, cond_t rfl ⟨v', by rw [c1.cell]; rfl, _, c2.len, ?_⟩⟩
   refine k _ (by subst hrd; exact m31.out) u31 ⟨mp31, fun x p hp => by cases hp⟩
 | some p =>
   obtain ⟨id, r⟩ := p
   obtain ⟨(hwf : (Lit.int .u64 id).wf = true), (hid0 : 0 ≤ id), (hid1 : id < 18446744073709551616), (hr : RpOk r)⟩ := ho.id _ rfl
   have hst := hr.st
   have hky := hr.key
   have hcd := hr.code
   have hin := hr.info
   have hln := hr.len
   refine number_c (n := 2) (rest := repB id r) (x := 1) r29 (by omega) ⟨by omega, by omega⟩ hq fun w31 t31 r31 => ⟨_, rfl, ?_⟩
   have m31 := m29.turn t31 (.inr (Nat.le_refl _))
   have u31 := u29.turnN t31 hBr
   have mp31 := Mp.turn mp29 t31 (by omega)
   refine ⟨fun (n : Int) (w' : World) => (n = 1 ∧ w' = w31) ∨ (n = 0 ∧ Step (FG u m) w w' (FG u m) ∧ UAt w' u b t g1 g2 (G.set i (fl, some m)) U ∧ GsAt w' B m (some (id, r)) ∧ RdrAt w' rd v.ownBlock []), fun (n : Int) (_ : World) => n.toNat, .inl ⟨rfl, rfl⟩, ?_⟩
   dsimp only [allR, mapR2, eqN, ltN]
   rintro mm n w35 ⟨h35, hm⟩
   rcases h35 with ⟨rfl, rfl⟩ | ⟨rfl, q1, q2, q3, v', c1, c2, c3⟩
   · have e2 : repB id r = putL id 8 ++ (putL r.st 1 ++ (putL r.key 1 ++ (putL r.code 2 ++ (putL r.info 4 ++ (partB r.d ++ []))))) := by
      have : [byt r.st, byt r.key] = putL r.st 1 ++ putL r.key 1 := by rw [← put1, ← put1]; rfl
      simp only [repB, this, List.append_assoc, List.append_nil]
     rw [e2] at r31
     refine JoinP.go (cond_t rfl ⟨false, by obtain ⟨v', c1, c2, c3⟩ := r31; rw [c1.cell]; rfl, cond_t rfl ?_⟩)
     refine number_c (n := 8) r31 (by omega) ⟨hid0, by simpa using hid1⟩ hq fun w39 t39 r39 => ⟨_, rfl, ?_⟩
     refine number_c (n := 1) r39 (by omega) ⟨hst.1, by simpa using hst.2⟩ hq fun w42 t42 r42 => ⟨_, rfl, ?_⟩
     refine number_c (n := 1) r42 (by omega) ⟨hky.1, by simpa using hky.2⟩ hq fun w45 t45 r45 => ⟨_, rfl, nm fun w47 e47 => ?_⟩
     obtain ⟨b47, g47, s47⟩ := alE e47
     have t3145 := (t39.then t42).then t45
     have m45 := m31.turn t3145 (.inr (Nat.le_refl _))
     have u45 := u31.turnN t3145 hBr
     have mp45 := Mp.turn mp31 t3145 (by omega)
     have z45 := m45.size
     generalize hrr : w45.heap.size = rr at *
     have hrr1 : rd < rr := by
      have := t3145.size; have := t31.size; have := t29.size; have := t26.size; have := t2.size
      omega
     rw [wi64_id (by omega) (by omega), wi64_id (by omega) (by omega)]
     refine ⟨b47.row rfl rfl, nm fun w48 e48 => ?_⟩
     obtain ⟨b48, t48⟩ := rowE b47 e48 rfl
     have m48 := (m45.grow g47).turn t48 (.inr (by omega))
     have hBrr : u < rr ∧ b < rr ∧ t < rr ∧ g1 < rr ∧ g2 < rr := by omega
     have u48 := (u45.grow g47).turnN t48 hBrr
     have mp48 := Mp.turn (mp45.grow g47) t48 (by omega)
     have hqr : v.ownBlock ≠ some rr := fun e => by have := hvl _ e; omega
     have r48 := (r45.grow g47).turn t48 (by omega) hqr
     refine number_c (n := 2) r48 (by omega) ⟨hcd.1, by simpa using hcd.2⟩ hq fun w50 t50 r50 => ⟨_, rfl, ?_⟩
     refine number_c (n := 4) r50 (by omega) ⟨hin.1, by simpa using hin.2⟩ hq fun w53 t53 r53 => ⟨_, rfl, ?_⟩
     have t4853 := t50.then t53
     have b53 := b48.turn t4853 (by omega)
     have m53 := m48.turn t4853 (.inr (Nat.le_refl _))
     have u53 := u48.turnN t4853 hBr
     have mp53 := Mp.turn mp48 t4853 (by omega)
     rw [wi64_id (by omega) (by omega), wi64_id (by omega) (by omega)]
     refine ⟨st1_at b53 (by show 2 < 5; omega), nm fun w55 e55 => ?_⟩
     obtain ⟨b55, t55⟩ := setE b53 e55
     refine ⟨st1_at b55 (by show 4 < 5; omega), nm fun w56 e56 => ?_⟩
     obtain ⟨b56, t56⟩ := setE b55 e56
     have t5356 := t55.then t56
     have m56 := m53.turn t5356 (.inr (by omega))
     have u56 := u53.turnN t5356 hBrr
     have mp56 := Mp.turn mp53 t5356 (by omega)
     have r56 := r53.turn t5356 (by omega) hqr
     refine rpart_c r56 (by omega) hq fun v57 w58 t58 r58 rd58 hv57 => ?_
     refine slices_Clone_c rd58 (by omega) fun v59 w60 g60 o59 => ?_
     have b60 := (b56.turn t58 (by omega)).grow g60
     have m60 := (m56.turn t58 (.inr (Nat.le_refl _))).grow g60
     have u60 := (u56.turnN t58 hBr).grow g60
     have mp60 := (Mp.turn mp56 t58 (by omega)).grow g60
     have r60 := r58.grow g60
     have n59 : NewV w58 v59 := fun q hq => (Own.blk o59) q hq
     have rd59 : RdB w60 v59 r.d := o59.rd
     have z58 : rr < w58.heap.size := by
      have := t58.size; have := t5356.size; have := t4853.size; have := t48.size; omega
     refine oneK_of (Rd.isOne rd59) ⟨st1_at b60 (by show 3 < 5; omega), nm fun w61 e61 => ?_⟩
     obtain ⟨b61, t61⟩ := setE b60 e61
     have hn59 : v59.ownBlock ≠ some rr := fun e => by have := n59 _ e; omega
     have m61 := m60.turn t61 (.inr (by omega))
     have u61 := u60.turnN t61 hBrr
     have mp61 := Mp.turn mp60 t61 (by omega)
     have r61 := r60.turn t61 (by omega) hqr
     have d61 := Rd.turn rd59 t61 hn59
     refine nm fun w62 e62 => ?_
     have d62 := drE e62
     refine withAddr_some ⟨.map (some m), ?_, r.st, r.key, r.code, v59, r.info, (b61.grow d62).ld rfl, nm fun w70 e70 => ?_⟩
     · have hc := (u61.grow d62).gcell hi (show 2 < 3 by omega)
       have hGi : ∀ hh : i < (G.set i (fl, some m)).length, (G.set i (fl, some m))[i] = (fl, some m) := fun hh => by rw [List.getElem?_eq_getElem hh] at hG29; exact Option.some.inj hG29
       rw [hc, hGi]; rfl
     have d70 := drE e70
     have mp70 := mp61.grow d70
     obtain ⟨w71, hup, mp71, gb71⟩ := mp70.put undU6 undMr (by omega) hwf (repV (v59, r))
     have st71 := grown_step gb71
     have hnb : ∀ q, v59.ownBlock = some q → B ≤ q := fun q hq => by have := n59 q hq; omega
     refine ⟨w71, hup, ?_⟩
     rw [w64_id (by omega) (by omega)]
     refine ⟨.inr ⟨by rfl, ?_, (u61.grow d70).stepF st71 (by omega) (by omega) (by omega) (by omega) (by omega), ⟨v59, ?_, ?_⟩, (r61.grow d70).stepS st71 (by omega) (fun q hq e => hqm (by rw [hq, e]))⟩, by subst hm; decide⟩
     · have := (m61.grow d70).stp st71 (fun k e => .inl (.inr e)) (fun k e => .inl (.inl (.inr e)))
       subst hrd; exact this.out
     · rw [doneF_put]; exact mp71
     · intro x p hp
       unfold putK at hp
       by_cases e : x = id
       · rw [if_pos e] at hp
         cases hp
         refine ⟨Rd.stepS (Rd.grow d61 d70) st71 (fun _ q hq e => ?_), by show r.d.length ≤ _; omega, hnb⟩
         have := hnb q hq; omega
       · rw [if_neg e] at hp; cases hp
   · refine JoinP.go (cond_f rfl (cond_f rfl ?_))
     refine JoinP.go ⟨false, by rw [c1.cell]; rfl, cond_t rfl ⟨v', by rw [c1.cell]; rfl, _, c2.len, ?_⟩⟩
     exact k _ q1 q2 q3
end
section
open Go Go.CW Go.RowKit
variable {w w' : World} {u b t g1 g2 : Nat} {G : List (Int × Option Nat)} {U : Un}
theorem uNewD_c {N : Nat} (h1 : 1 ≤ N) (h2 : N ≤ 1024) {R : KV}
 (k : ∀ (u b t g1 g2 : Nat) (ms : List Nat) (w' : World), Grow w w' → w.heap.size ≤ u → w.heap.size ≤ b → w.heap.size ≤ t → w.heap.size ≤ g1 → w.heap.size ≤ g2 → UAt w' u b t g1 g2 (ms.map fun m => ((0 : Int), some m)) ⟨N, List.replicate (8 * N) 0, List.replicate ((N + 7) / 8) 0, newTb⟩ → ms.Nodup → (∀ m ∈ ms, u < m ∧ m < w'.heap.size ∧ w'.heap[m]? = some (.map #[] 0)) → R (.tuple #[.pointer (some ⟨u, 0, none⟩), .int .i64 (0 : Int)]) w') :
 CW.Spec Tryz.prog 18 #[.int .i64 (N : Int)] w R := by
 apply q37W
 refine spaceNew_c h1 h2 fun b g1 g2 w1 gw1 hb hg1 hg2 sp => ⟨_, _, rfl, cond_f rfl ?_⟩
 refine rNew_c fun t w5 g5 ht tb => ⟨_, rfl, nm fun w7 e7 => ?_⟩
 obtain ⟨b7, g7, s7⟩ := alE e7
 have g07 := (gw1.then g5).then g7
 have sp7 := (sp.grow g5).grow g7
 have tb7 := tb.grow g7
 have hw : w.heap.size ≤ w5.heap.size := (gw1.then g5).size
 refine ⟨fun (n : Int) (w' : World) => ∃ (i : Nat) (ms : List Nat), n = (i : Int) ∧ i ≤ 8 ∧ ms.length = i ∧ Grow w w' ∧ SpAt w' b g1 g2 N (List.replicate (8 * N) 0) (List.replicate ((N + 7) / 8) 0) ∧ TAt w' t newTb ∧
  BK w' w5.heap.size (rU b t (ms.map (fun m => ((0 : Int), some m)) ++ List.replicate (8 - i) ((0 : Int), (none : Option Nat)))) tUn ∧ (∀ m ∈ ms, w5.heap.size < m ∧ m < w'.heap.size ∧ w'.heap[m]? = some (.map #[] 0)) ∧ ms.Nodup,
  fun (n : Int) (_ : World) => ((8 : Int) - n).toNat, ⟨0, [], rfl, by omega, rfl, g07, sp7, tb7, b7, (fun m hm => by cases hm), List.nodup_nil⟩, ?_⟩
 dsimp only [allR, mapR2, eqN, ltN]
 rintro m n w' ⟨⟨i, ms, rfl, hi, hml, g, sp', tb', bu, hms, hnd⟩, hm⟩
 have lu := bu.lt
 have lgl : (ms.map (fun m => ((0 : Int), some m)) ++ List.replicate (8 - i) ((0 : Int), (none : Option Nat))).length = 8 := by simp; omega
 refine cond_intro (fun hc => ?_) (fun hc => ?_)
 · have hlt : i < 8 := by simp at hc; omega
   have hmk : Sem.run Tryz.prog (Instr.makeMap 155 none) w' = .ok (.map (some w'.heap.size)) (w'.alloc (.map #[] 0)) := rfl
   have ga := Grow.al (Grow.refl w') (.map #[] 0)
   refine ⟨_, _, hmk, ⟨by omega, by omega⟩, oneK_of rfl ?_⟩
   have hnew : (w'.alloc (.map #[] 0)).heap[w'.heap.size]? = some (.map #[] 0) := by
    show (w'.heap.push _)[w'.heap.size]? = _
    simp
   have hsz : (w'.alloc (.map #[] 0)).heap.size = w'.heap.size + 1 := by simp
   generalize w'.alloc (.map #[] 0) = wa at *
   have ba := bu.grow ga
   have e : Addr.add (Addr.add (Addr.add ⟨w5.heap.size, 0, none⟩ 2) (Int.toNat (i : Int) * 3)) 2 = Addr.add ⟨w5.heap.size, 0, none⟩ (2 + i * 3 + 2) := by rw [add_add, add_add]; congr 1
   rw [e]
   have hsize : (rU b t (ms.map (fun m => ((0 : Int), some m)) ++ List.replicate (8 - i) ((0 : Int), (none : Option Nat)))).size = 26 := by
    simp only [rU, List.size_toArray, List.length_append, Enc.flat_length, lgl]; rfl
   refine ⟨st1_at ba (by rw [hsize]; omega), nm fun w13 e13 => ?_⟩
   obtain ⟨b13, t13⟩ := setE ba e13
   rw [rU_set2 (by rw [lgl]; exact hlt)] at b13
   have hG : (ms.map (fun m => ((0 : Int), some m)) ++ List.replicate (8 - i) ((0 : Int), (none : Option Nat))).set i (((ms.map (fun m => ((0 : Int), some m)) ++ List.replicate (8 - i) ((0 : Int), (none : Option Nat)))[i]'(by rw [lgl]; exact hlt)).1, some w'.heap.size) = (ms ++ [w'.heap.size]).map (fun m => ((0 : Int), some m)) ++ List.replicate (8 - (i + 1)) ((0 : Int), (none : Option Nat)) := by
    have e8 : 8 - i = (8 - (i + 1)) + 1 := by omega
    have hx : ((ms.map (fun m => ((0 : Int), some m)) ++ List.replicate (8 - i) ((0 : Int), (none : Option Nat)))[i]'(by rw [lgl]; exact hlt)).1 = 0 := by
     rw [List.getElem_append_right (by simp; omega)]
     simp
    rw [hx, List.set_append_right _ _ (by simp; omega), e8, List.replicate_succ]
    simp [hml]
   rw [hG] at b13
   have hu := b7.lt
   have lt1 : w5.heap.size < w'.heap.size := lu
   have g13 : Grow w w13 := Below.turn (g.then ga) t13 hw
   have spa := sp'.grow ga
   have tba := tb'.grow ga
   have x1 : b ≠ w5.heap.size := by have := sp.obj.lt; have := g5.size; omega
   have x2 : g1 ≠ w5.heap.size := by have := sp.dat.lt; have := g5.size; omega
   have x3 : g2 ≠ w5.heap.size := by have := sp.map.lt; have := g5.size; omega
   have x4 : t ≠ w5.heap.size := by have := tb.b.lt; omega
   rw [wi64_id (by omega) (by omega)]
   refine ⟨⟨i + 1, ms ++ [w'.heap.size], by omega, by omega, by simp; omega, g13, spa.step (t13.step (S := fun k => k = w5.heap.size) rfl) x1 x2 x3, ⟨(t13.block t x4).trans tba.b, tba.len⟩, b13, (fun m hm => ?_), ?_⟩, by omega⟩
   rotate_left
   · refine List.nodup_append.2 ⟨hnd, by simp, fun a ha c hc e => ?_⟩
     have := (hms a ha).2.1
     simp at hc; omega
   rw [List.mem_append] at hm
   rcases hm with hm | hm
   · obtain ⟨p1, p2, p3⟩ := hms m hm
     exact ⟨p1, by rw [t13.size, hsz]; omega, (t13.block m (by omega)).trans ((ga.block m p2).trans p3)⟩
   · have : m = w'.heap.size := by simpa using hm
     subst this
     exact ⟨lt1, by rw [t13.size, hsz]; omega, (t13.block _ (by omega)).trans hnew⟩
 · have he : i = 8 := by simp at hc; omega
   subst he
   rw [Nat.sub_self, List.replicate_zero, List.append_nil] at bu lgl
   refine k _ _ _ _ _ _ _ g hw hb (Nat.le_trans gw1.size ht) hg1 hg2 ⟨bu, lgl, sp', tb', (by show 0 ≤ (0 : Int) ∧ (0 : Int) < 4294967296; decide), (by show Fits .i64 (0 : Int); decide)⟩ hnd hms
end
section
open Go Go.CW Go.RowKit
variable {w w' : World} {u b t g1 g2 : Nat} {G : List (Int × Option Nat)} {U : Un}
theorem GsAt.stepS {B m : Nat} {o : Gs} {S S' : Fp} (h : GsAt w B m o) (st : Step S w w' S') (hm : ¬ S m) (hS : ∀ k, B ≤ k → k < w.heap.size → ¬ S k) : GsAt w' B m o := by
 cases o with
 | none => exact Gst.stepS h st hm hS
 | some p => obtain ⟨v, hv⟩ := h; exact ⟨v, hv.stepS st hm hS⟩
structure DInv (w : World) (B i : Nat) (ms : List Nat) (L : List (Int × Gs)) (G : List (Int × Option Nat)) : Prop where
 old : ∀ (j m : Nat) (p : Int × Gs), ms[j]? = some m → L[j]? = some p → j < i → G[j]? = some (p.1, some m) ∧ GsAt w B m p.2
 new : ∀ (j m : Nat), ms[j]? = some m → i ≤ j → G[j]? = some (0, some m) ∧ Gst w B m 0 (fun _ => none)
theorem drop_flat {α : Type} (f : α → List UInt8) (L : List α) {i : Nat} (hi : i < L.length) : (L.drop i).flatMap f = f L[i] ++ (L.drop (i + 1)).flatMap f := by
 rw [List.drop_eq_getElem_cons hi, List.flatMap_cons]
theorem uDecode_c {wo : World} {uo bo to go1 go2 : Nat} {Go' : List (Int × Option Nat)} {L : List (Int × Gs)} {x : Value} (h : UAt wo uo bo to go1 go2 Go' U) (hL : L.length = 8) (ho : UnOk U L) (hd : RdB w x (unB U L)) {R : KV}
 (k : ∀ u b t g1 g2 G w', Grow w w' → w.heap.size ≤ u → w.heap.size ≤ b → w.heap.size ≤ t → w.heap.size ≤ g1 → w.heap.size ≤ g2 → UAt w' u b t g1 g2 G U → R (.tuple #[.pointer (some ⟨u, 0, none⟩), .int .i64 (0 : Int)]) w') :
 CW.Spec Tryz.prog 52 #[x] w R := by
 apply q36W
 have hS := encS_length h.sp ho.un
 have hM := h.sp.mlen
 have hP := popL_le U.M
 have hT := tbB_length ho.tb
 have hxl : ∀ q, x.ownBlock = some q → q < w.heap.size := Rd.lt hd (by simp [unB, partB, putL])
 refine oneK_of (Rd.isOne hd) (nm fun w0 e0 => ?_)
 obtain ⟨b0, g0, s0⟩ := alE e0
 generalize hrd : w.heap.size = rd at *
 have hq : x.ownBlock ≠ some rd := fun e => by have := hxl _ e; omega
 have r0 : RdrAt w0 rd x.ownBlock (partB (encS U.N U.D U.M) ++ (partB (tbB U.T) ++ L.flatMap fun p => partB (gstB p.1 p.2))) :=
  ⟨x, b0, by rw [← List.append_assoc]; exact Rd.grow hd g0, rfl⟩
 refine rpart_c r0 (by omega) hq fun v1 w2 t2 r2 d1 hv1 => ?_
 refine Decode_c h.sp ho.un ho.zer d1 fun b g1 g2 w4 g4 hb hg1 hg2 sp4 => ⟨_, _, rfl, ?_⟩
 have hz2 := t2.size
 refine rpart_c (r2.grow g4) (by omega) hq fun v7 w8 t8 r8 d7 hv7 => ?_
 have sp8 : SpAt w8 b g1 g2 U.N U.D U.M := sp4.step (t8.step (S := fun k => k = rd) rfl) (by omega) (by omega) (by omega)
 refine tDecode_c ho.tb d7 fun t w10 g10 ht tb10 => ⟨_, _, rfl, JoinP.go (cond_f rfl (cond_f rfl ?_))⟩
 have sp10 := sp8.grow g10
 have r10 := r8.grow g10
 apply q96W
 refine withAddr_some ⟨_, by rw [sp10.obj.cell]; rfl, _, rfl, ?_⟩
 refine uNewD_c sp10.pos sp10.most fun u b' t' g1' g2' ms w19 g19 hu hb' ht' hg1' hg2' u19 hnd hms => ⟨_, _, rfl, ?_⟩
 have b19 := u19.o
 have hz8 := t8.size
 have hz4 := g4.size
 have hz10 := g10.size
 have hz19 := g19.size
 have bb19 := sp10.obj.lt
 have bg1 := sp10.dat.lt
 have bg2 := sp10.map.lt
 have bt := tb10.b.lt
 have hub := b19.lt
 have ms8 : ms.length = 8 := by have := u19.gl; simpa using this
 have hsz : ∀ p q : Nat, (rU p q (ms.map fun m => ((0 : Int), some m))).size = 26 := fun p q => by
  simp only [rU, List.size_toArray, List.length_append, Enc.flat_length, List.length_map, ms8]; rfl
 refine withAddr_some ⟨st1_at b19 (by rw [hsz]; omega), nm fun w23 e23 => ?_⟩
 obtain ⟨b23, t23⟩ := setE b19 e23
 refine withAddr_some ⟨st1_at b23 (by rw [Array.size_setIfInBounds, hsz]; omega), nm fun w25 e25 => ?_⟩
 obtain ⟨b25, t25⟩ := setE b23 e25
 have tt := t23.then t25
 have hz25 := tt.size
 have ru : ((rU b' t' (ms.map fun m => ((0 : Int), some m))).setIfInBounds 0 (.pointer (some ⟨b, 0, none⟩))).setIfInBounds 1 (.pointer (some ⟨t, 0, none⟩)) = rU b t (ms.map fun m => ((0 : Int), some m)) := by
  simp [rU]
 rw [ru] at b25
 have sp25 : SpAt w25 b g1 g2 U.N U.D U.M := (sp10.grow g19).step (tt.step (S := fun k => k = u) rfl) (by omega) (by omega) (by omega)
 have tb25 : TAt w25 t U.T := ⟨(tt.block t (by omega)).trans (tb10.grow g19).b, tb10.len⟩
 have hty := ho.tb.tyr
 have u25 : UAt w25 u b t g1 g2 (ms.map fun m => ((0 : Int), some m)) U :=
  ⟨b25, by simp [ms8], sp25, tb25, ho.tb.gn, by unfold Fits; simp [IntKind.min, IntKind.max, IntKind.bits, IntKind.signed]; omega⟩
 have r25 := ((r10.grow g19).turn tt (by omega) (fun e => by have := hxl _ e; omega))
 have gg4 : Below rd w w4 := (Below.turn (by subst hrd; exact g0) t2 (Nat.le_refl _)).trans (g4.mono (by omega))
 have gg25 : Below rd w w25 := Below.turn (((Below.turn gg4 t8 (Nat.le_refl _)).trans (g10.mono (by omega))).trans (g19.mono (by omega))) tt (by omega)
 have inv0 : DInv w25 w25.heap.size 0 ms L (ms.map fun m => ((0 : Int), some m)) := by
  refine ⟨fun j m p _ _ hj => by omega, fun j m hm _ => ⟨by rw [List.getElem?_map, hm]; rfl, ?_⟩⟩
  have hmem := List.mem_of_getElem? hm
  obtain ⟨p1, p2, p3⟩ := hms m hmem
  have e25 : w25.heap[m]? = some (.map #[] 0) := (tt.block m (by omega)).trans p3
  refine ⟨?_, fun x p hp => by cases hp⟩
  obtain ⟨D, ⟨es, clock, hb, F, hs, hD⟩, h2⟩ := (Mp.made w25 : Mp Tryz.prog tU6 .u64 (w25.alloc (.map #[] 0)) w25.heap.size 0 (fun _ => none))
  have hb2 : (w25.alloc (.map #[] 0)).heap[w25.heap.size]? = some (.map #[] 0) := by
   show (w25.heap.push _)[w25.heap.size]? = _
   simp
  rw [hb] at hb2
  cases hb2
  exact ⟨D, ⟨_, _, e25, F, hs, hD⟩, h2⟩
 refine JoinP.go ?_
 refine ⟨fun (n : Int) (w' : World) => ∃ (i : Nat) (Gi : List (Int × Option Nat)), n = (i : Int) ∧ i ≤ 8 ∧ Below rd w w' ∧ w25.heap.size ≤ w'.heap.size ∧ UAt w' u b t g1 g2 Gi U ∧ DInv w' w25.heap.size i ms L Gi ∧ RdrAt w' rd x.ownBlock ((L.drop i).flatMap fun p => partB (gstB p.1 p.2)),
  fun (n : Int) (_ : World) => ((8 : Int) - n).toNat, ⟨0, _, rfl, by omega, gg25, Nat.le_refl _, u25, inv0, by simpa using r25⟩, ?_⟩
 dsimp only [allR, mapR2, eqN, ltN]
 rintro m n w39 ⟨⟨i, Gi, rfl, hi, g39, z39, u39, inv, r39⟩, hm⟩
 refine cond_intro (fun hc => ?_) (fun hc => ?_)
 · have hlt : i < 8 := by simp at hc; omega
   have hLi : i < L.length := by omega
   have hgo := ho.gs L[i] (List.getElem_mem hLi)
   refine nm fun w40 e40 => withAddr_some ⟨⟨by omega, by omega⟩, nm fun w42 e42 => ?_⟩
   have d42 := drE e42
   rw [drop_flat _ L hLi] at r39
   refine rpart_c (r39.grow d42) (by have := gstB_len hgo; omega) hq fun v43 w44 t44 r44 d43 hv43 => ?_
   have hmi : ms[i]? = some (ms[i]'(by omega)) := List.getElem?_eq_getElem (by omega)
   generalize ms[i]'(by omega) = mi at hmi
   obtain ⟨p1, p2, p3⟩ := hms mi (List.mem_of_getElem? hmi)
   obtain ⟨hGi, hsi⟩ := inv.new i mi hmi (Nat.le_refl _)
   have u44 := (u39.grow d42).turnN t44
   have st44 := t44.step (S := fun k => k = rd) rfl
   have u44 : UAt w44 u b t g1 g2 Gi U := (u39.grow d42).stepF st44 (by omega) (by omega) (by omega) (by omega) (by omega)
   have z44 := t44.size
   have zd := d42.size
   refine gRead_c (B := w25.heap.size) u44 hlt hGi ((hsi.grow d42).stepS st44 (by omega) (fun k hk _ => by omega)) hgo d43 (fun q hqq => by rw [hv43] at hqq; have := hxl _ hqq; omega) (by omega) (by omega) (by omega) fun w46 st46 u46 gs46 => ⟨_, rfl, cond_f rfl ?_⟩
   have z46 := st46.size
   rw [wi64_id (by omega) (by omega)]
   have nS : ∀ k, w25.heap.size ≤ k → ¬ FG u mi k := fun k hk e => by rcases e with e | e <;> omega
   refine ⟨⟨i + 1, _, by omega, by omega, ?_, by omega, u46, ⟨?_, ?_⟩, r44.stepS st46 (fun e => by rcases e with e | e <;> omega) (fun q hqq e => by have := hxl _ hqq; rcases e with e | e <;> omega)⟩, by omega⟩
   · exact (Below.turn (g39.trans (d42.mono (by have := g39.size; omega))) t44 (Nat.le_refl _)).trans (st46.to_below (by have := g39.size; omega) (fun k hk => by rcases hk with e | e <;> omega))
   · intro j m' p hm' hp hj
     by_cases e : j = i
     · subst e
       have e1 : m' = mi := by rw [hmi] at hm'; exact (Option.some.inj hm').symm
       have e2 : p = L[j] := by rw [List.getElem?_eq_getElem hLi] at hp; exact (Option.some.inj hp).symm
       subst e1 e2
       exact ⟨by rw [List.getElem?_set_self (by rw [u39.gl]; omega)], gs46⟩
     · obtain ⟨q1, q2⟩ := inv.old j m' p hm' hp (by omega)
       refine ⟨by rw [List.getElem?_set_ne (by omega)]; exact q1, ?_⟩
       obtain ⟨o1, o2, _⟩ := hms m' (List.mem_of_getElem? hm')
       have hne : m' ≠ mi := fun ee => e ((List.getElem?_inj (i := j) (j := i) (by omega) hnd).1 (by rw [hm', hmi, ee]))
       exact ((q2.grow d42).stepS st44 (by omega) (fun k hk _ => by omega)).stepS st46 (fun ee => by rcases ee with ee | ee <;> omega) (fun k hk _ => nS k hk)
   · intro j m' hm' hj
     obtain ⟨q1, q2⟩ := inv.new j m' hm' (by omega)
     refine ⟨by rw [List.getElem?_set_ne (by omega)]; exact q1, ?_⟩
     obtain ⟨o1, o2, _⟩ := hms m' (List.mem_of_getElem? hm')
     have hne : m' ≠ mi := fun ee => absurd ((List.getElem?_inj (i := j) (j := i) (by have := (List.getElem?_eq_some_iff.1 hm').1; omega) hnd).1 (by rw [hm', hmi, ee])) (by omega)
     exact ((q2.grow d42).stepS st44 (by omega) (fun k hk _ => by omega)).stepS st46 (fun ee => by rcases ee with ee | ee <;> omega) (fun k hk _ => nS k hk)
 · have he : i = 8 := by simp at hc; omega
   subst he
   have hgs : UGs w39 w25.heap.size Gi L := ⟨hL, fun j p hp => by
    have hj : j < 8 := by have := (List.getElem?_eq_some_iff.1 hp).1; omega
    have hmj : ms[j]? = some (ms[j]'(by omega)) := List.getElem?_eq_getElem (by omega)
    obtain ⟨q1, q2⟩ := inv.old j _ p hmj hp hj
    exact ⟨_, q1, q2⟩⟩
   obtain ⟨v', c1, c2, c3⟩ := r39
   refine JoinP.go ⟨false, by rw [c1.cell]; rfl, cond_f rfl ?_⟩
   refine uEncode_c u39 hgs ho fun v31 w32 g32 r31 => ?_
   have g32' : Below rd w w32 := g39.trans (g32.mono (by have := g39.size; omega))
   have hd32 : RdB w32 x (unB U L) := Rd.grow hd (by subst hrd; exact g32')
   refine Equal_c r31 hd32 ⟨_, rfl, cond_f (by simp) ?_⟩
   exact k u b t g1 g2 Gi w32 (by subst hrd; exact g32') (by omega) (by omega) (by omega) (by omega) (by omega) (u39.grow g32)
end
end Go.Proofs.YtghineciiljeoaaGreatDoor
