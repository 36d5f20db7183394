/- The contracts of what went wrong, as bytes and as a text. -/
import Derived.Test.YtacenidajlncaaaDoorIto
import Derived.Test.YtacenidajlncaaaDoorCpy
import Derived.Test.YtacenidajlncaaaDoorNam
import Derived.Test.YtacenidajlncaaaDoorGFun
import Derived.Test.YtacenidajlncaaaDoorGSen
set_option linter.unusedVariables false
set_option linter.unusedSimpArgs false
set_option maxRecDepth 100000
namespace Go.Proofs.YtacenidajlncaaaDoor
open Go Go.CW Go.RowKit

theorem callU_of {P : Program} {g : FuncId} {first captured args : Array Value} {w : World} {K : KV} (hb : (P.funcs[g]?).map (fun fn => fn.body.isSome) = some true) (h : Go.CW.Spec P g (app3 first args captured) w K) :
    callU P (.func (.func g) first captured) args w K := by
  unfold callU
  simp only [hb]
  exact h

/-! ### bytes laid at places -/
def layL (bs : List UInt8) (o : Nat) (cs : List UInt8) : List UInt8 := bs.take o ++ cs ++ bs.drop (o + cs.length)
theorem layL_length {bs cs : List UInt8} {o : Nat} (h : o + cs.length ≤ bs.length) : (layL bs o cs).length = bs.length := by simp [layL]; omega

/-- a row into which a closure lays -/
structure Lay (w : World) (out : Value) (g : Nat) (bs : List UInt8) (ww : World) : Prop where
  gr : Grow w ww
  o : OwnB ww w.heap.size tb out bs
  b : BK ww g #[out] tB
  hb : w.heap.size ≤ g
  ne : out.ownBlock ≠ some g

theorem Lay.grow {w : World} {out : Value} {g : Nat} {bs : List UInt8} {ww w2 : World} (h : Lay w out g bs ww) (k : Grow ww w2) : Lay w out g bs w2 :=
  ⟨h.gr.then k, Own.grow h.o k, h.b.grow k, h.hb, h.ne⟩

abbrev layV (g : Nat) : Value := .func (.func 18) #[] #[.pointer (some ⟨g, 0, none⟩)]

theorem laid_c {w ww : World} {out : Value} {bs : List UInt8} {R : KV} (hg : Grow w ww) (ho : OwnB ww w.heap.size tb out bs)
    (k : ∀ g w', Lay w out g bs w' → R (layV g) w') : Go.CW.Spec Tryd.prog 12 #[out] ww R := by
  apply sense_laid_wp
  refine nm fun w0 e0 => ?_
  have ec : Value.cells out = #[out] := cells_one (Rd.isOne ho.rd)
  rw [ec] at e0
  obtain ⟨b0, g0, _⟩ := alE e0
  refine k _ _ ⟨hg.then g0, Own.grow ho g0, b0, hg.size, fun h => ?_⟩
  have := Own.lt ho _ h
  omega

theorem lay_c {w ww : World} {out src : Value} {g : Nat} {bs cs : List UInt8} {o : Nat} {n : Int} {R : KV} (h : Lay w out g bs ww) (hn : n = (o : Int)) (hr : RdB ww src cs) (h1 : o < bs.length) (h2 : o + cs.length ≤ bs.length)
    (k : ∀ w', Lay w out g (layL bs o cs) w' → R (.tuple #[]) w') : callU Tryd.prog (layV g) #[.int .i64 n, src] ww R := by
  subst hn
  refine callU_of (by kernel_rfl) ?_
  apply sense_laid_1_wp
  obtain ⟨v', hs, hc⟩ := own_tail (P := Tryd.prog) (sT := tB) (ty := 3) tyB h.o (o := o) (by simpa using h1) .i64
  obtain ⟨w', k1, k2, k3⟩ := hc ww (bs.map b8) src (cs.map b8) h.o rfl hr (fun u hu => by obtain ⟨x, _, rfl⟩ := List.mem_map.1 hu; rfl) (by simpa using h2)
  refine withAddr_some ⟨_, h.b.at 0, v', hs, _, w', k1, k _ ⟨?_, ?_, ?_, h.hb, h.ne⟩⟩
  · obtain ⟨f1, f2, f3, f4, f5⟩ := k3
    refine ⟨f1.trans h.gr.os, f2.trans h.gr.tape, f3.trans h.gr.output, Nat.le_trans h.gr.size f4, fun q hq => (f5 q (Nat.lt_of_lt_of_le hq h.gr.size) (fun e => ?_)).trans (h.gr.block q hq)⟩
    have := h.o.blk q e.symm
    omega
  · have e : (layL bs o cs).map b8 = (bs.map b8).take o ++ cs.map b8 ++ (bs.map b8).drop (o + (cs.map b8).length) := by
      simp [layL, List.map_take, List.map_drop]
    unfold OwnB
    rw [e]; exact k2
  · obtain ⟨f1, f2, f3, f4, f5⟩ := k3
    exact (f5 g h.b.lt (fun e => h.ne e.symm)).trans h.b

theorem lit_rd (w : World) (bs : List UInt8) (n : Nat) (hn : bs.length = n) (hm : n ≤ 1000000) {w' : World} (e : w' = World.alloc w (.cells (bs.map b8).toArray tb)) : RdB w' (.slice (some ⟨w.heap.size, 0, none⟩) n n) bs ∧ Grow w w' := by
  obtain ⟨b, g, _⟩ := alE e
  subst hn
  refine ⟨⟨some ⟨w.heap.size, 0, none⟩, bs.length, by simp, by simp, by simp [maxLen]; omega, (fun h => (by cases h)), fun i u hi => ⟨_, rfl, ?_⟩⟩, g⟩
  rw [b.cell]
  simpa using hi

/-! ### Encode -/
def headB (info : Int) : Int := bif (IntKind.wrap .u32 info) != (0 : Int) then 240 else 112
def encS (key code info : Int) : List UInt8 :=
  layL (layL (layL (layL (layL (List.replicate 18 0) 0 [byt (headB info)]) 2 [byt (IntKind.wrap .u8 (bitsI .and .i64 key (15 : Int)))]) 3 (putL (IntKind.wrap .u64 info) 4)) 7 [10]) 12 (putL (IntKind.wrap .u64 code) 2)
theorem encS_length (key code info : Int) : (encS key code info).length = 18 := by simp [encS, layL, putL_length]

theorem byt_b8 {n : Int} (h0 : 0 ≤ n) (h1 : n < 256) : Value.int .u8 n = b8 (byt n) := by rw [← b8_byt]; congr 1; omega
theorem wu8_range (n : Int) : 0 ≤ IntKind.wrap .u8 n ∧ IntKind.wrap .u8 n < 256 := by
  rw [w8]; omega

theorem Encode_c {w : World} {st key code info : Int} {d : Value} {R : KV} (k : ∀ v w', Grow w w' → OwnB w' w.heap.size tb v (encS key code info) → R v w') :
    Go.CW.Spec Tryd.prog 6 #[.agg #[.int .i64 st, .int .i64 key, .int .i64 code, d, .int .i64 info]] w R := by
  apply sense_Encode_wp
  refine nm fun w0 e0 => ?_
  obtain ⟨b0, g0, _⟩ := alE e0
  obtain ⟨v1, w2, h2, o2, g2⟩ := make_bytes (w := w0) 18 (by omega)
  refine ⟨v1, w2, h2, ?_⟩
  refine laid_c (w := w0) g2 o2 fun g w4 h4 => ?_
  refine JoinP.int (fun n w' => n = headB info ∧ w' = w4) (fun j hj => ?_) ?_
  · refine ⟨_, (b0.grow h4.gr).cell 4, cond_intro (fun h => hj _ _ ⟨?_, rfl⟩) (fun h => hj _ _ ⟨?_, rfl⟩)⟩ <;> simp only [headB, h, cond_true, cond_false]
  rintro n w6 ⟨rfl, rfl⟩
  have hh : 0 ≤ headB info ∧ headB info < 256 := by unfold headB; cases ((IntKind.wrap .u32 info) != (0 : Int)) <;> simp
  refine nm fun w7 e7 => ?_
  rw [byt_b8 hh.1 hh.2] at e7
  obtain ⟨r7, g7⟩ := lit_rd w6 [byt (headB info)] 1 rfl (by omega) e7
  refine lay_c (o := 0) (h4.grow g7) rfl r7 (by simp) (by simp) fun w9 h9 => ⟨rfl, _, (b0.grow h9.gr).cell 1, nm fun w11 e11 => ?_⟩
  have hk := wu8_range (bitsI .and .i64 key (15 : Int))
  rw [byt_b8 hk.1 hk.2] at e11
  obtain ⟨r11, g11⟩ := lit_rd w9 [byt (IntKind.wrap .u8 (bitsI .and .i64 key (15 : Int)))] 1 rfl (by omega) e11
  refine lay_c (o := 2) (h9.grow g11) rfl r11 (by simp [layL]) (by simp [layL]) fun w13 h13 => ⟨rfl, _, (b0.grow h13.gr).cell 4, ?_⟩
  refine bin_Put_c (bs := []) (Rd.nil _) (by simp) fun v15 w16 g16 r15 _ => ?_
  rw [show putS [] (IntKind.wrap .u64 info) 4 = putL (IntKind.wrap .u64 info) 4 from rfl] at r15
  refine lay_c (o := 3) (h13.grow g16) rfl r15 (by simp [layL]) (by simp [layL, putL_length]) fun w18 h18 => ⟨rfl, nm fun w19 e19 => ?_⟩
  obtain ⟨r19, g19⟩ := lit_rd w18 [10] 1 rfl (by omega) e19
  refine lay_c (o := 7) (h18.grow g19) rfl r19 (by simp [layL, putL_length]) (by simp [layL, putL_length]) fun w21 h21 => ⟨rfl, _, (b0.grow h21.gr).cell 2, ?_⟩
  refine bin_Put_c (bs := []) (Rd.nil _) (by simp) fun v23 w24 g24 r23 _ => ?_
  rw [show putS [] (IntKind.wrap .u64 code) 2 = putL (IntKind.wrap .u64 code) 2 from rfl] at r23
  refine lay_c (o := 12) (h21.grow g24) rfl r23 (by simp [layL, putL_length]) (by simp [layL, putL_length]) fun w26 h26 => ⟨rfl, ?_⟩
  exact k _ _ (g0.then h26.gr) (h26.o.mono g0.size)

/-! ### Decode -/
def decS (bs : List UInt8) : Int × Int × Int × Int :=
  bif decide ((bs.length : Int) < 18) then (0, 0, 0, 3)
  else bif ((bitsI .andNot .u8 ((bs.getD 0 0).toNat : Int) (128 : Int)) != (112 : Int)) || (((bs.getD 7 0).toNat : Int) != (10 : Int)) then (0, 0, 0, 2)
  else (IntKind.wrap .i64 (bitsI .and .u8 ((bs.getD 2 0).toNat : Int) (15 : Int)), IntKind.wrap .i64 (getV bs 12 2), bif (bitsI .and .u8 ((bs.getD 0 0).toNat : Int) (128 : Int)) != (0 : Int) then IntKind.wrap .i64 (getV bs 3 4) else 0, 0)

theorem rdAt {w : World} {v : Value} {bs : List UInt8} (h : RdB w v bs) (i : Nat) (hi : i < bs.length) : ∃ a, sliceAt v (i : Int) 1 = some a ∧ w.cell? a = some (.int .u8 ((bs.getD i 0).toNat : Int)) := by
  obtain ⟨a, h1, h2⟩ := h.at (i := (i : Int)) (by omega) (by omega)
  refine ⟨a, h1, h2.trans ?_⟩
  simp [List.getD, hi]

theorem Decode_c {w : World} {v : Value} {bs : List UInt8} {R : KV} (hr : RdB w v bs) (k : R (.tuple #[.int .i64 (decS bs).1, .int .i64 (decS bs).2.1, .int .i64 (decS bs).2.2.1, .int .i64 (decS bs).2.2.2]) w) :
    Go.CW.Spec Tryd.prog 7 #[v] w R := by
  apply sense_Decode_wp
  refine ⟨_, hr.len, cond_intro (fun h => ?_) (fun h => ?_)⟩
  · unfold decS at k
    rw [h] at k; exact k
  have hl : 18 ≤ bs.length := by simp at h; omega
  unfold decS at k
  rw [h, cond_false] at k
  obtain ⟨a0, ha0, hc0⟩ := rdAt hr 0 (by omega)
  obtain ⟨a2, ha2, hc2⟩ := rdAt hr 2 (by omega)
  obtain ⟨a7, ha7, hc7⟩ := rdAt hr 7 (by omega)
  refine JoinP.bool (fun b w' => b = (((bitsI .andNot .u8 ((bs.getD 0 0).toNat : Int) (128 : Int)) != (112 : Int)) || (((bs.getD 7 0).toNat : Int) != (10 : Int))) ∧ w' = w) (fun j hj => ?_) ?_
  · exact ⟨a0, ha0, _, hc0, cond_intro (fun h0 => hj _ _ ⟨by rw [h0]; rfl, rfl⟩) (fun h0 => ⟨a7, ha7, _, hc7, hj _ _ ⟨by rw [h0]; rfl, rfl⟩⟩)⟩
  rintro b w2 ⟨hb, rfl⟩
  refine cond_intro (fun h1 => ?_) (fun h1 => ?_)
  · subst hb; rw [h1] at k; exact k
  rw [← hb, h1, cond_false] at k
  refine bin_Get_c hr (Fits.of_wf (by decide)) (Fits.of_wf (by decide)) ⟨_, _, rfl, ?_⟩
  refine JoinP.int (fun n w' => n = (bif (bitsI .and .u8 ((bs.getD 0 0).toNat : Int) (128 : Int)) != (0 : Int) then IntKind.wrap .i64 (getV bs 3 4) else 0) ∧ w' = w2) (fun j hj => ?_) ?_
  · refine ⟨a0, ha0, _, hc0, cond_intro (fun h0 => ?_) (fun h0 => hj _ _ ⟨by rw [h0]; rfl, rfl⟩)⟩
    exact bin_Get_c hr (Fits.of_wf (by decide)) (Fits.of_wf (by decide)) ⟨_, _, rfl, hj _ _ ⟨by rw [h0]; rfl, rfl⟩⟩
  rintro n w8 ⟨rfl, rfl⟩
  exact ⟨a2, ha2, _, hc2, k⟩

/-! ### Inquiry, Wrong, Good -/
def nameL : List UInt8 := [71, 69, 77, 69, 76, 32, 32, 32, 84, 87, 73, 78, 32, 68, 73, 83, 75, 32, 32, 32, 32, 32, 32, 32, 48, 48, 48, 49]
def inqL : List UInt8 := layL (layL (List.replicate 36 0) 2 [5, 2, 31]) 8 nameL

theorem Inquiry_c {w : World} {R : KV} (k : ∀ v w', Grow w w' → OwnB w' w.heap.size tb v inqL → R v w') : Go.CW.Spec Tryd.prog 8 #[] w R := by
  apply sense_Inquiry_wp
  obtain ⟨v1, w2, h2, o2, g2⟩ := make_bytes (w := w) 36 (by omega)
  refine ⟨v1, w2, h2, ?_⟩
  refine laid_c (w := w) g2 o2 fun g w4 h4 => nm fun w5 e5 => ?_
  obtain ⟨r5, g5⟩ := lit_rd w4 [5, 2, 31] 3 rfl (by omega) e5
  refine lay_c (o := 2) (h4.grow g5) rfl r5 (by simp) (by simp) fun w6 h6 => ⟨rfl, nm fun w7 e7 => ?_⟩
  obtain ⟨w8, k8, g8, r8⟩ := conv_lit (P := Tryd.prog) (t := tB) (e := tb) (by kernel_rfl) (by kernel_rfl) w6 nameL 28 rfl (by simp [maxLen])
  subst e7
  refine ⟨_, w8, k8, ?_⟩
  refine lay_c (o := 8) (h6.grow g8) rfl r8 (by simp [layL]) (by simp [layL, nameL]) fun w9 h9 => ⟨rfl, ?_⟩
  exact k _ _ h9.gr h9.o

abbrev rRep (st key code : Int) (d : Value) (info : Int) : Array Value := #[.int .i64 st, .int .i64 key, .int .i64 code, d, .int .i64 info]

theorem Wrong_c {w : World} {key code : Int} {R : KV} (k : ∀ w', Grow w w' → R (.agg (rRep 2 key code (.slice none 0 0) 0)) w') : Go.CW.Spec Tryd.prog 9 #[.int .i64 key, .int .i64 code] w R := by
  apply sense_Wrong_wp
  refine nm fun w0 e0 => ?_
  obtain ⟨b0, g0, _⟩ := alE e0
  refine ⟨b0.row rfl rfl, nm fun w1 e1 => ?_⟩
  obtain ⟨b1, t1⟩ := rowE b0 e1 rfl
  exact ⟨_, _, _, _, _, b1.ld rfl, k _ (Below.turn g0 t1 (Nat.le_refl _))⟩

theorem Good_c {w : World} {v : Value} {bs : List UInt8} {R : KV} (hr : RdB w v bs) (hb : bs.length ≤ 1000000000) (k : ∀ v' w', Grow w w' → RdB w' v' bs → NewV w v' → R (.agg (rRep 0 0 0 v' 0)) w') : Go.CW.Spec Tryd.prog 10 #[v] w R := by
  apply sense_Good_wp
  refine nm fun w0 e0 => ?_
  obtain ⟨b0, g0, s0⟩ := alE e0
  refine slices_Clone_c (hr.grow g0) (by omega) fun v1 w2 g2 o2 => slices_Clip_c o2.rd fun v3 r3 n3 => ?_
  have one : isOne v3 = true := Rd.isOne r3
  have b2 := b0.grow g2
  refine oneK_of one ⟨b2.row rfl (by simp [oneL, one]; rfl), nm fun w5 e5 => ?_⟩
  obtain ⟨b5, t5⟩ := rowE b2 e5 rfl
  refine ⟨_, _, _, _, _, b5.ld rfl, k _ _ (Below.turn (g0.then g2) t5 (Nat.le_refl _)) (Rd.turn r3 t5 ?_) ?_⟩
  · intro h
    have := o2.blk _ (n3 ▸ h)
    omega
  · intro q hq
    have := o2.blk _ (n3 ▸ hq)
    omega

end Go.Proofs.YtacenidajlncaaaDoor
