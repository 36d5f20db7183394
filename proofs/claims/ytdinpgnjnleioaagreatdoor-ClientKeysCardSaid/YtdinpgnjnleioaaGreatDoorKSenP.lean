/- The contracts of what went wrong, as bytes and as a text. -/
import Derived.Test.YtdinpgnjnleioaaGreatDoorKIto
import Derived.Test.YtdinpgnjnleioaaGreatDoorKCpy
set_option linter.unusedSimpArgs false
set_option linter.unusedVariables false
set_option maxRecDepth 100000
namespace Go.Proofs.YtdinpgnjnleioaaGreatDoor.Sen
open Go Go.CW Go.RowKit
def layL (bs : List UInt8) (o : Nat) (cs : List UInt8) : List UInt8 := bs.take o ++ cs ++ bs.drop (o + cs.length)
structure Lay (w : World) (out : Value) (g : Nat) (bs : List UInt8) (ww : World) : Prop where
 gr : Grow w ww
 o : OwnB ww w.heap.size tb out bs
 b : BK ww g #[out] tB
 hb : w.heap.size ≤ g
 ne : out.ownBlock ≠ some g
theorem Lay.grow {w : World} {out : Value} {g : Nat} {bs : List UInt8} {ww w2 : World} (h : Lay w out g bs ww) (k : Grow ww w2) : Lay w out g bs w2 :=
 ⟨h.gr.then k, Own.grow h.o k, h.b.grow k, h.hb, h.ne⟩
abbrev layV (g : Nat) : Value := .func (.func 234) #[] #[.pointer (some ⟨g, 0, none⟩)]
theorem laid_c {w ww : World} {out : Value} {bs : List UInt8} {R : KV} (hg : Grow w ww) (ho : OwnB ww w.heap.size tb out bs)
 (k : ∀ g w', Lay w out g bs w' → R (layV g) w') : CW.Spec Tryz.prog 218 #[out] ww R := by
 apply q95W
 refine nm fun w0 e0 => ?_
 have ec : Value.cells out = #[out] := cells_one (Rd.isOne ho.rd)
 rw [ec] at e0
 obtain ⟨b0, g0, _⟩ := alE e0
 refine k _ _ ⟨hg.then g0, Own.grow ho g0, b0, hg.size, fun h => ?_⟩
 have := Own.lt ho _ h
 omega
theorem lay_c {w ww : World} {out src : Value} {g : Nat} {bs cs : List UInt8} {o : Nat} {n : Int} {R : KV} (h : Lay w out g bs ww) (hn : n = (o : Int)) (hr : RdB ww src cs) (h1 : o < bs.length) (h2 : o + cs.length ≤ bs.length)
 (k : ∀ w', Lay w out g (layL bs o cs) w' → R (.tuple #[]) w') : callU Tryz.prog (layV g) #[.int .i64 n, src] ww R := by
 subst hn
 refine callU_of (by kernel_rfl) ?_
 apply q96W
 obtain ⟨v', hs, hc⟩ := own_tail (P := Tryz.prog) (sT := tB) (ty := 3) tyB h.o (o := o) (by simpa using h1) .i64
 obtain ⟨w', k1, k2, k3⟩ := hc ww (bs.map b8) src (cs.map b8) h.o rfl hr (fun u hu => by obtain ⟨x, _, rfl⟩ := List.mem_map.1 hu; rfl) (by simpa using h2)
 refine withAddr_some ⟨_, h.b.at 0, v', hs, _, w', k1, k _ ⟨?_, ?_, ?_, h.hb, h.ne⟩⟩
 · obtain ⟨f1, f2, f3, f4, f5⟩ := k3
   refine ⟨f1.trans h.gr.os, f2.trans h.gr.tape, f3.trans h.gr.output, Nat.le_trans h.gr.size f4, fun q hq => (f5 q (Nat.lt_of_lt_of_le hq h.gr.size) (fun e => ?_)).trans (h.gr.block q hq)⟩
   have := h.o.blk q e.symm
   omega
 · have e : (layL bs o cs).map b8 = (bs.map b8).take o ++ cs.map b8 ++ (bs.map b8).drop (o + (cs.map b8).length) := by
    simp [layL, List.map_take, List.map_drop]
   unfold OwnB
   rw [e]; exact k2
 · obtain ⟨f1, f2, f3, f4, f5⟩ := k3
   exact (f5 g h.b.lt (fun e => h.ne e.symm)).trans h.b
theorem lit_rd (w : World) (bs : List UInt8) (n : Nat) (hn : bs.length = n) (hm : n ≤ 1000000) {w' : World} (e : w' = World.alloc w (.cells (bs.map b8).toArray tb)) : RdB w' (.slice (some ⟨w.heap.size, 0, none⟩) n n) bs ∧ Grow w w' := by
 obtain ⟨b, g, _⟩ := alE e
 subst hn
 refine ⟨⟨some ⟨w.heap.size, 0, none⟩, bs.length, by simp, by simp, by simp [maxLen]; omega, (fun h => (by cases h)), fun i u hi => ⟨_, rfl, ?_⟩⟩, g⟩
 rw [b.cell]
 simpa using hi
def headB (info : Int) : Int := bif (IntKind.wrap .u32 info) != (0 : Int) then 240 else 112
def encS (key code info : Int) : List UInt8 :=
 layL (layL (layL (layL (layL (List.replicate 18 0) 0 [byt (headB info)]) 2 [byt (IntKind.wrap .u8 (bitsI .and .i64 key (15 : Int)))]) 3 (putL (IntKind.wrap .u64 info) 4)) 7 [10]) 12 (putL (IntKind.wrap .u64 code) 2)
theorem encS_length (key code info : Int) : (encS key code info).length = 18 := by simp [encS, layL, putL_length]
theorem byt_b8 {n : Int} (h0 : 0 ≤ n) (h1 : n < 256) : Value.int .u8 n = b8 (byt n) := by rw [← b8_byt]; congr 1; omega
theorem wu8_range (n : Int) : 0 ≤ IntKind.wrap .u8 n ∧ IntKind.wrap .u8 n < 256 := by
 rw [w8]; omega
theorem Encode_c {w : World} {st key code info : Int} {d : Value} {R : KV} (k : ∀ v w', Grow w w' → OwnB w' w.heap.size tb v (encS key code info) → R v w') :
 CW.Spec Tryz.prog 190 #[.agg #[.int .i64 st, .int .i64 key, .int .i64 code, d, .int .i64 info]] w R := by
 apply q93W
 refine nm fun w0 e0 => ?_
 obtain ⟨b0, g0, _⟩ := alE e0
 obtain ⟨v1, w2, h2, o2, g2⟩ := make_bytes (w := w0) 18 (by omega)
 refine ⟨v1, w2, h2, ?_⟩
 refine laid_c (w := w0) g2 o2 fun g w4 h4 => ?_
 refine JoinP.int (fun n w' => n = headB info ∧ w' = w4) (fun j hj => ?_) ?_
 · refine ⟨_, (b0.grow h4.gr).cell 4, cond_intro (fun h => hj _ _ ⟨?_, rfl⟩) (fun h => hj _ _ ⟨?_, rfl⟩)⟩ <;> simp only [headB, h, cond_true, cond_false]
 rintro n w6 ⟨rfl, rfl⟩
 have hh : 0 ≤ headB info ∧ headB info < 256 := by unfold headB; cases ((IntKind.wrap .u32 info) != (0 : Int)) <;> simp
 refine nm fun w7 e7 => ?_
 rw [byt_b8 hh.1 hh.2] at e7
 obtain ⟨r7, g7⟩ := lit_rd w6 [byt (headB info)] 1 rfl (by omega) e7
 refine lay_c (o := 0) (h4.grow g7) rfl r7 (by simp) (by simp) fun w9 h9 => ⟨rfl, _, (b0.grow h9.gr).cell 1, nm fun w11 e11 => ?_⟩
 have hk := wu8_range (bitsI .and .i64 key (15 : Int))
 rw [byt_b8 hk.1 hk.2] at e11
 obtain ⟨r11, g11⟩ := lit_rd w9 [byt (IntKind.wrap .u8 (bitsI .and .i64 key (15 : Int)))] 1 rfl (by omega) e11
 refine lay_c (o := 2) (h9.grow g11) rfl r11 (by simp [layL]) (by simp [layL]) fun w13 h13 => ⟨rfl, _, (b0.grow h13.gr).cell 4, ?_⟩
 refine bin_Put_c (bs := []) (Rd.nil _) (by simp) fun v15 w16 g16 r15 _ => ?_
 rw [show putS [] (IntKind.wrap .u64 info) 4 = putL (IntKind.wrap .u64 info) 4 from rfl] at r15
 refine lay_c (o := 3) (h13.grow g16) rfl r15 (by simp [layL]) (by simp [layL, putL_length]) fun w18 h18 => ⟨rfl, nm fun w19 e19 => ?_⟩
 obtain ⟨r19, g19⟩ := lit_rd w18 [10] 1 rfl (by omega) e19
 refine lay_c (o := 7) (h18.grow g19) rfl r19 (by simp [layL, putL_length]) (by simp [layL, putL_length]) fun w21 h21 => ⟨rfl, _, (b0.grow h21.gr).cell 2, ?_⟩
 refine bin_Put_c (bs := []) (Rd.nil _) (by simp) fun v23 w24 g24 r23 _ => ?_
 rw [show putS [] (IntKind.wrap .u64 code) 2 = putL (IntKind.wrap .u64 code) 2 from rfl] at r23
 refine lay_c (o := 12) (h21.grow g24) rfl r23 (by simp [layL, putL_length]) (by simp [layL, putL_length]) fun w26 h26 => ⟨rfl, ?_⟩
 exact k _ _ (g0.then h26.gr) (h26.o.mono g0.size)
def decS (bs : List UInt8) : Int × Int × Int × Int :=
 bif decide ((bs.length : Int) < 18) then (0, 0, 0, 3)
 else bif ((bitsI .andNot .u8 ((bs.getD 0 0).toNat : Int) (128 : Int)) != (112 : Int)) || (((bs.getD 7 0).toNat : Int) != (10 : Int)) then (0, 0, 0, 2)
 else (IntKind.wrap .i64 (bitsI .and .u8 ((bs.getD 2 0).toNat : Int) (15 : Int)), IntKind.wrap .i64 (getV bs 12 2), bif (bitsI .and .u8 ((bs.getD 0 0).toNat : Int) (128 : Int)) != (0 : Int) then IntKind.wrap .i64 (getV bs 3 4) else 0, 0)
theorem rdAt {w : World} {v : Value} {bs : List UInt8} (h : RdB w v bs) (i : Nat) (hi : i < bs.length) : ∃ a, sliceAt v (i : Int) 1 = some a ∧ w.cell? a = some (.int .u8 ((bs.getD i 0).toNat : Int)) := by
 obtain ⟨a, h1, h2⟩ := h.at (i := (i : Int)) (by omega) (by omega)
 refine ⟨a, h1, h2.trans ?_⟩
 simp [List.getD, hi]
theorem Decode_c {w : World} {v : Value} {bs : List UInt8} {R : KV} (hr : RdB w v bs) (k : R (.tuple #[.int .i64 (decS bs).1, .int .i64 (decS bs).2.1, .int .i64 (decS bs).2.2.1, .int .i64 (decS bs).2.2.2]) w) :
 CW.Spec Tryz.prog 183 #[v] w R := by
 apply q92W
 refine ⟨_, hr.len, cond_intro (fun h => ?_) (fun h => ?_)⟩
 · unfold decS at k
   rw [h] at k; exact k
 have hl : 18 ≤ bs.length := by simp at h; omega
 unfold decS at k
 rw [h, cond_false] at k
 obtain ⟨a0, ha0, hc0⟩ := rdAt hr 0 (by omega)
 obtain ⟨a2, ha2, hc2⟩ := rdAt hr 2 (by omega)
 obtain ⟨a7, ha7, hc7⟩ := rdAt hr 7 (by omega)
 refine JoinP.bool (fun b w' => b = (((bitsI .andNot .u8 ((bs.getD 0 0).toNat : Int) (128 : Int)) != (112 : Int)) || (((bs.getD 7 0).toNat : Int) != (10 : Int))) ∧ w' = w) (fun j hj => ?_) ?_
 · exact ⟨a0, ha0, _, hc0, cond_intro (fun h0 => hj _ _ ⟨by rw [h0]; rfl, rfl⟩) (fun h0 => ⟨a7, ha7, _, hc7, hj _ _ ⟨by rw [h0]; rfl, rfl⟩⟩)⟩
 rintro b w2 ⟨hb, rfl⟩
 refine cond_intro (fun h1 => ?_) (fun h1 => ?_)
 · subst hb; rw [h1] at k; exact k
 rw [← hb, h1, cond_false] at k
 refine bin_Get_c hr (Fits.of_wf (by decide)) (Fits.of_wf (by decide)) ⟨_, _, rfl, ?_⟩
 refine JoinP.int (fun n w' => n = (bif (bitsI .and .u8 ((bs.getD 0 0).toNat : Int) (128 : Int)) != (0 : Int) then IntKind.wrap .i64 (getV bs 3 4) else 0) ∧ w' = w2) (fun j hj => ?_) ?_
 · refine ⟨a0, ha0, _, hc0, cond_intro (fun h0 => ?_) (fun h0 => hj _ _ ⟨by rw [h0]; rfl, rfl⟩)⟩
   exact bin_Get_c hr (Fits.of_wf (by decide)) (Fits.of_wf (by decide)) ⟨_, _, rfl, hj _ _ ⟨by rw [h0]; rfl, rfl⟩⟩
 rintro n w8 ⟨rfl, rfl⟩
 exact ⟨a2, ha2, _, hc2, k⟩
end Go.Proofs.YtdinpgnjnleioaaGreatDoor.Sen
