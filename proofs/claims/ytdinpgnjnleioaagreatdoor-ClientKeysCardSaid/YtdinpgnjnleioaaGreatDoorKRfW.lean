/- The document's doer; a new pipe. -/
import Derived.Test.YtdinpgnjnleioaaGreatDoorKTurn
import Derived.Test.YtdinpgnjnleioaaGreatDoorKP21
set_option linter.unusedSimpArgs false
set_option linter.unusedVariables false
set_option maxRecDepth 100000
namespace Go.Proofs.YtdinpgnjnleioaaGreatDoor.Rf
open Go Go.CW Go.RowKit Go.Proofs.YtdinpgnjnleioaaGreatDoor
open Go.Proofs.YtdinpgnjnleioaaGreatDoor.Ses (Cm Rp RpAt RpOk rRp rCm nilV m32 Doer)
variable {w w' : World} {F : Fp} {gu gd N : Nat} {u : Ru}
def docAt (gd : Nat) (w : World) (F : Fp) (u : Ru) : Prop := ∃ gu F', BK w gd #[.pointer (some ⟨gu, 0, none⟩)] tDo ∧ F gd ∧ (∀ k, F' k → F k ∧ k ≠ gd) ∧ InW w F ∧ UnAt w F' gu 64 u
theorem docAt.stable (h : docAt gd w F u) (hz : w.heap.size ≤ w'.heap.size) (hk : ∀ k, F k → w'.heap[k]? = w.heap[k]?) : docAt gd w' F u := by
 obtain ⟨gu, F', b, fg, ff, lt, gs, gt, bv, mv, m, h⟩ := h
 exact ⟨gu, F', (hk _ fg).trans b, fg, ff, fun k q => Nat.lt_of_lt_of_le (lt k q) hz, gs, gt, bv, mv, m, h.stable hz fun k q => hk k (ff k q).1⟩
theorem and7 (n : Nat) (h : n < 4294967296) : bitsI .and .i64 (n : Int) (7 : Int) = ((n % 8 : Nat) : Int) := by
 show IntKind.wrap .i64 (((BitVec.ofInt 64 (n : Int) &&& BitVec.ofInt 64 7).toNat : Nat) : Int) = _
 have e : (BitVec.ofInt 64 (n : Int) &&& BitVec.ofInt 64 7).toNat = n % 8 := by
  have e7 : (BitVec.ofInt 64 7) = BitVec.ofNat 64 7 := rfl
  rw [e7, BitVec.toNat_and, BitVec.toNat_ofNat, BitVec.toNat_ofInt]
  have : (7 % 2 ^ 64 : Nat) = 2 ^ 3 - 1 := rfl
  rw [this, Nat.and_two_pow_sub_one_eq_mod]
  omega
 rw [e, wi64_id (by omega) (by omega)]
theorem okD_of {n : List UInt8} {c : Cm} (hf : Fine u) (h : OkR u n c) : OkD u 64 c := by
 rcases h.1 with h | h | h | h | h
 · exact .inl h
 · exact .inr (.inl h)
 · exact .inr (.inr (.inl ⟨h.1, by have := h.2.1; omega⟩))
 · exact .inr (.inr (.inr (.inl ⟨h.1, h.2.1⟩)))
 · exact .inr (.inr (.inr (.inr ⟨h, hf.gen⟩)))
theorem doc_c (h : docAt gd w F u) {n : List UInt8} {c : Cm} {dv : Value} (hf : Fine u) (ok : OkR u n c) (hd : RdB w dv c.d) {R : KV}
 (k : ∀ v w' F', Step F w w' F' → docAt gd w' F' (stepR u n c).2 → RpAt w w' v (stepR u n c).1 → R v w') :
 CW.Spec Tryz.prog 11 #[.pointer (some ⟨gd, 0, none⟩), .string (textOf n), .agg (rCm c dv)] w R := by
 obtain ⟨gu, F', b, fg, ff, lt, gs, gt, bv, mv, m, h⟩ := h
 apply q65W
 have hdi := Rd.isOne hd
 refine nm fun w0 e0 => ?_
 obtain ⟨b0', g0, s0⟩ := alE e0
 have b0 : BK w0 w.heap.size (rCm c dv) tCm := b0'
 refine nm fun w1 e1 => ?_
 obtain ⟨b1, g1, s1⟩ := alE e1
 refine nm fun w2 e2 => ?_
 have g2 := drE e2
 have gA : Grow w w2 := g0.then (g1.then g2)
 refine withAddr_some ⟨_, (b.grow gA).cell 0, _, _, _, _, _, _, _, _, ((b0.grow g1).grow g2).ld rfl, nm fun w13 e13 => ?_⟩
 have g13 := drE e13
 have gB : Grow w w13 := g0.then (g1.then g13)
 rw [textOf_size, and7 _ (by have := ok.2; omega)]
 have nF : ∀ q, w.heap.size ≤ q → ¬ F' q := fun q hq hh => by have := lt _ (ff _ hh).1; omega
 have z0 : w0.heap.size = w.heap.size + 1 := s0
 refine uDo_c (h.grow gB) (i := n.length % 8) (Nat.mod_lt _ (by omega)) (hd.grow gB) (okD_of hf ok) fun v w15 F'' st hu hv => ?_
 obtain ⟨rv, rfl, rr, rn⟩ := hv
 obtain ⟨gs2, gt2, bv2, mv2, m2, hu⟩ := hu
 have br := (b1.grow g13).stepS st (nF _ (by omega))
 refine ⟨_, _, _, _, _, rfl, ?_⟩
 have lt1 : w0.heap.size < w13.heap.size := (b1.grow g13).lt
 obtain ⟨r1, r2⟩ := ret5d (G := fun n0 n1 n2 v3 n4 w' => R (.agg #[.int .i64 n0, .int .i64 n1, .int .i64 n2, v3, .int .i64 n4]) w') br rfl (Rd.isOne rr) fun w' b' t' => by
  have fp2 : ∀ q, F'' q → F' q ∨ w13.heap.size ≤ q := st.fp
  refine k _ w' (fun q => q = gd ∨ F'' q) ?_ ⟨gu, F'', ?_, .inl rfl, fun q hq => ⟨.inr hq, fun e => ?_⟩, fun q hq => ?_, gs2, gt2, bv2, mv2, m2, hu.turn t' (fun hh => ?_)⟩ ⟨rv, rfl, Rd.turn rr t' (fun e => by have := rn _ e; omega), rn.of gB.size⟩
  · have md : Md F w.heap.size w w' := (((Md.refl F w.heap.size w).grow gB).stp st (fun q hq => .inl (ff q hq).1) (fun q hq => (fp2 q hq).elim (fun hq => .inl (.inl (ff q hq).1)) (fun hq => .inr hq))).turn t' (.inr (by omega))
    refine md.out.imp (fun _ h => h) fun q hq => ?_
    rcases hq with rfl | hq
    · exact .inl fg
    · rcases fp2 q hq with hq | hq
      · exact .inl (ff q hq).1
      · have := gB.size; exact .inr (by omega)
  · exact ((b.grow gB).stepS st (fun hh => (ff _ hh).2 rfl)).turn t' (fun e => by have := b.lt; omega)
  · rcases fp2 q hq with hq | hq
    · exact (ff q hq).2 e
    · have := b.lt; have := gB.size; omega
  · have z5 := st.size
    have z6 := t'.size
    rcases hq with rfl | hq
    · have := b.lt; have := gB.size; omega
    · have := hu.lt q hq; omega
  · rcases fp2 _ hh with hh | hh
    · exact nF _ (by omega) hh
    · omega
 exact ⟨r1, r2⟩
theorem step_rp {n : List UInt8} {c : Cm} (hf : Fine u) (ok : OkR u n c) : RpOk (stepR u n c).1 := by
 have good0 : ∀ d : List UInt8, d.length ≤ 512 → RpOk {good with d := d} := fun d hd => ⟨(by decide : (0 : Int) ≤ 0 ∧ (0 : Int) ≤ 255), hd, (by decide : Fits .i64 0), (by decide : Fits .i64 0), (by decide : Fits .i64 0)⟩
 have conf0 : RpOk conf := ⟨by decide, by decide, by decide, by decide, by decide⟩
 have g0 : RpOk good := ⟨by decide, by decide, by decide, by decide, by decide⟩
 have hb := hf.b
 unfold stepR stepH
 split
 · exact conf0
 split
 · next h2 =>
   refine good0 _ ?_
   rw [List.length_take, List.length_drop]; omega
 split
 · exact g0
 split
 · split
   · exact g0
   · exact conf0
 split
 · split
   · exact conf0
   · split
     · exact g0
     · split
       · exact conf0
       · exact g0
 · refine good0 _ ?_
   rw [Lst.keysB_length]; omega
def docK (gd : Nat) : Doer where
 U := Ru
 fid := 11
 first := #[.pointer (some ⟨gd, 0, none⟩)]
 captured := #[]
 body := by kernel_rfl
 At := docAt gd
 step := stepR
 Ok u n c := Fine u ∧ OkR u n c
 stable h hz hk := docAt.stable h hz hk
 lt h := by obtain ⟨gu, F', b, fg, ff, lt, h⟩ := h; exact lt
 rp h := step_rp h.1 h.2
 spec h ok hd k := doc_c h ok.1 ok.2 hd k
end Go.Proofs.YtdinpgnjnleioaaGreatDoor.Rf
namespace Go.Proofs.YtdinpgnjnleioaaGreatDoor.Pip
open Go Go.CW Go.RowKit Go.Proofs.YtdinpgnjnleioaaGreatDoor Go.Proofs.YtdinpgnjnleioaaGreatDoor.Pdu Go.Proofs.YtdinpgnjnleioaaGreatDoor.Rf
open Go.Proofs.YtdinpgnjnleioaaGreatDoor.Ses (Wire WireOk Doer St SAt Cm Rp wireP wireP_ok Prm decS_ok newS ET)
open Go.Proofs.YtdinpgnjnleioaaGreatDoor.Cli (Cl Pq encs CAt askB)
variable {B : Nat} {w : World}
theorem acl_c {R : KV} (k : ∀ v w', Grow w w' → RdR ET w' v [iqA, iqB] → R v w') : CW.Spec Tryz.prog 9 #[] w R := by
 apply q35W
 refine nm fun w0 e0 => ?_
 have g0 : Grow w w0 := by rw [e0]; exact Grow.al (Grow.refl w) _
 have ho : OwnR ET w0 w.heap.size 9 (.slice (some ⟨w.heap.size, 0, none⟩) 2 2) [iqA, iqB] := by
  rw [e0]
  exact OwnR.lit w (Nat.le_refl _) 9 [iqA, iqB] 2 rfl (by simp [maxLen])
 exact k _ w0 g0 ho.rd
theorem params_c {n : List UInt8} {b : Nat} {now : Bool} {R : KV} (k : ∀ w', Grow w w' → R (.agg #[.string (textOf n), .int .i64 512, .int .i64 (b : Int), .bool now, .bool true]) w') : CW.Spec Tryz.prog 17 #[.string (textOf n), .int .i64 (b : Int), .bool now] w R := by
 apply q39W
 refine nm fun w0 e0 => ?_
 obtain ⟨b0, g0, s0⟩ := alE e0
 refine ⟨b0.row rfl rfl, nm fun w1 e1 => ?_⟩
 obtain ⟨b1, t1⟩ := rowE b0 e1 rfl
 exact ⟨_, _, _, _, _, b1.ld rfl, k w1 (Below.turn g0 t1 (Nat.le_refl _))⟩
theorem newPipe_c {p : Prm} (hB : B ≤ w.heap.size) (env : ∀ w', Below B w w' → Txt.Env w') {R : KV}
 (k : ∀ gp gc gs gd w', Grow w w' → PI B (docK gd) [iqA, iqB] gp gc gs gd w' (Cli.newC p, newS u0) → R (.pointer (some ⟨gp, 0, none⟩)) w') :
 CW.Spec Tryz.prog 16 #[.agg #[.string (textOf p.nm), .int .i64 (p.md : Int), .int .i64 (p.bu : Int), .bool p.im, .bool p.dg]] w R := by
 apply q38W
 refine nm fun w0 e0 => ?_
 obtain ⟨b0, g0, s0⟩ := alE e0
 have un := @uNew_c w0 64 (by omega) (by omega)
 refine un fun gu F w2 g2 hF hu => ⟨_, _, rfl, nm fun w5 e5 => ?_⟩
 obtain ⟨b5, g5, s5⟩ := alE e5
 have b0' := (b0.grow g2).grow g5
 refine ⟨_, _, _, _, _, b0'.ld rfl, ?_⟩
 refine Cli.New_c fun gc w12 Sc st12 lc hc => ⟨_, rfl, ?_⟩
 have g12 : Grow w5 w12 := ⟨st12.os, st12.tape, st12.output, st12.size, fun q hq => st12.block q hq (fun h => h)⟩
 refine acl_c fun v14 w15 g15 r15 => ?_
 obtain ⟨gs', gt', bv, mv, m, hu⟩ := hu
 have gA : Grow w2 w15 := g5.then (g12.then g15)
 have b5' := (b5.grow g12).grow g15
 have hK : (docK w2.heap.size).At w15 (fun q => q = w2.heap.size ∨ F q) u0 :=
  ⟨gu, F, b5', .inl rfl, fun q hq => ⟨.inr hq, fun e => by have := hu.lt q hq; omega⟩, fun q hq => hq.elim (fun e => by rw [e]; exact b5'.lt) (fun hq => by have := hu.lt q hq; have := gA.size; omega), gs', gt', bv, mv, m, hu.grow gA⟩
 refine Ses.New_c (K := docK w2.heap.size) hK r15 (by simp) fun gs w17 Ss st17 lgs hs => ⟨_, rfl, nm fun w19 e19 => ?_⟩
 obtain ⟨b19, g19, s19⟩ := alE e19
 have hz1 := g0.size
 have hz2 := g2.size
 have hz5 : w5.heap.size = w2.heap.size + 1 := s5
 have hz12 := g12.size
 have hz15 := g15.size
 have hz17 := st17.size
 have cin : ∀ q, Sc q → w5.heap.size ≤ q ∧ q < w12.heap.size := fun q hq => ⟨(st12.fp q hq).elim (fun h => h.elim) id, hc.lt q hq⟩
 have sin : ∀ q, Ss q → (q = w2.heap.size ∨ (F q ∧ q < w2.heap.size)) ∨ w15.heap.size ≤ q := fun q hq => (st17.fp q hq).imp (fun h => h.imp id (fun h => ⟨h, hu.lt q h⟩)) id
 have g17 : Below B w w17 := by
  have gg : Grow w w15 := (g0.then g2).then gA
  refine (gg.mono hB).trans (Step.low st17 (by have := gg.size; omega) fun q hq => ?_)
  rcases hq with rfl | hq
  · omega
  · have := hF q hq; omega
 have grow17 : Grow w w17 := by
  have gg : Grow w w15 := (g0.then g2).then gA
  refine gg.trans (Step.low st17 gg.size fun q hq => ?_)
  rcases hq with rfl | hq
  · omega
  · have := hF q hq; omega
 refine k w17.heap.size gc gs w2.heap.size w19 (grow17.then g19) ⟨Sc, Ss, b19, ⟨?_, hs.grow g19, fun q h1 h2 => ?_, fun q hq => ?_, fun q hq => ?_, ?_, fun w' bel => ?_⟩, fun hh => ?_, fun hh => ?_, ?_⟩
 · refine CAt.grow (CAt.apart (hc.grow g15) st17 fun q hq hh => ?_) g19
   have := cin q hq
   rcases hh with rfl | hh
   · omega
   · have := hu.lt q hh; omega
 · have := cin q h1
   rcases sin q h2 with (h | h) | h <;> omega
 · have := cin q hq; omega
 · rcases sin q hq with (h | h) | h
   · omega
   · have := hF q h.1; omega
   · omega
 · have := g19.size; omega
 · exact env w' ((Go.CW.Below.then g17 (by omega) g19).trans bel)
 · have := cin _ hh; omega
 · have := hs.lt _ hh; omega
 · omega
end Go.Proofs.YtdinpgnjnleioaaGreatDoor.Pip
