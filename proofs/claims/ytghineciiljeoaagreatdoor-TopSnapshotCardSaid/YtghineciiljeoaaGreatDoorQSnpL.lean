/- TopSnapshot: a unit's bytes, kept as a store's snapshot, are the unit again, behind any crash. -/
import Derived.Test.YtghineciiljeoaaGreatDoorQSnpB
set_option linter.unusedSimpArgs false
set_option linter.unusedVariables false
set_option maxRecDepth 100000
namespace Go.Proofs.YtghineciiljeoaaGreatDoor
open Go Go.CW Go.RowKit Go.Crc Go.CW.Ex
theorem and3_all : ∀ c : Fin 256, bitsI .and .u8 (c.val : Int) 3 = ((c.val % 4 : Nat) : Int) := by decide +kernel
theorem and3 (c : UInt8) : bitsI .and .u8 (c.toNat : Int) (3 : Int) = ((c.toNat % 4 : Nat) : Int) := and3_all ⟨c.toNat, c.toNat_lt⟩
theorem wfid {i : Nat} (h : i < 1000) : (Lit.int .u64 ((i : Int) + 1)).wf = true := by
 simp [Lit.wf, IntKind.min, IntKind.max, IntKind.bits, IntKind.signed]; omega
def Older (i : Nat) (p : Int × Gs) : Prop := 0 ≤ p.1 ∧ p.1 ≤ (i : Int) ∧ ∀ q, p.2 = some q → q.1 ≤ (i : Int)
structure SInv (w : World) (B u b t g1 g2 i : Nat) (G : List (Int × Option Nat)) (U : Un) (L : List (Int × Gs)) : Prop where
 u : UAt w u b t g1 g2 G U
 ok : PlOk U
 gs : UGs w B G L
 go : ∀ p ∈ L, GsOk p.1 p.2 ∧ Older i p
theorem SInv.grow {w w' : World} {B u b t g1 g2 i : Nat} {G : List (Int × Option Nat)} {U : Un} {L : List (Int × Gs)} (h : SInv w B u b t g1 g2 i G U L) (g : Grow w w') : SInv w' B u b t g1 g2 i G U L := ⟨h.u.grow g, h.ok, h.gs.grow g, h.go⟩
theorem GsAt.mp {w : World} {B m : Nat} {o : Gs} (h : GsAt w B m o) : ∃ n f, Mp Tryz.prog tU6 .u64 w m n f := by
 cases o with
 | none => exact ⟨_, _, Gst.mp h⟩
 | some p => obtain ⟨v, hv⟩ := h; exact ⟨_, _, hv.mp⟩
theorem sonce_c {w : World} {B u b t g1 g2 i : Nat} {G : List (Int × Option Nat)} {U : Un} {L : List (Int × Gs)} (I : SInv w B u b t g1 g2 i G U L) {x : UInt8 × UInt8 × UInt8} {dv : Value} {h : Nat} (hh : h < 8) (hi : i < 100)
 (hB : u < B ∧ b < B ∧ t < B ∧ g1 < B ∧ g2 < B) (hBw : B ≤ w.heap.size) (hd : RdB w dv (plainC x.1 x.2.1 x.2.2).d) (hdw : ∀ q, dv.ownBlock = some q → B ≤ q) {R : KV}
 (k : ∀ st key code v info w' G' U' L', Step (FO u t g1 g2) w w' (FO u t g1 g2) → SInv w' B u b t g1 g2 (i + 1) G' U' L' → R (.tuple #[.agg (rRep st key code v info), .bool true]) w') :
 CW.Spec Tryz.prog 19 #[.pointer (some ⟨u, 0, none⟩), .int .i64 (h : Int), .int .u64 ((i : Int) + 1), .int .u64 ((i : Int) + 1), .agg (rCmd (plainC x.1 x.2.1 x.2.2) dv)] w R := by
 obtain ⟨ua, ok, gs, go⟩ := I
 have hl := gs.len
 have hLh : L[h]? = some (L[h]'(by omega)) := List.getElem?_eq_getElem (by omega)
 have hmem : L[h]'(by omega) ∈ L := List.getElem_mem _
 generalize L[h]'(by omega) = p at hLh hmem
 obtain ⟨fl, o⟩ := p
 obtain ⟨m, hG, hs⟩ := gs.rel h _ hLh
 obtain ⟨hok, hold⟩ := go _ hmem
 obtain ⟨o1, o2, o3⟩ := hold
 have o1 : 0 ≤ fl := o1
 have o2 : fl ≤ (i : Int) := o2
 have hfl : flo ((i : Int) + 1) ((i : Int) + 1) fl = (i : Int) + 1 := by
  unfold flo
  rw [if_neg (show ¬ ((i : Int) + 1 < (i : Int) + 1) by omega), if_neg (by omega)]
 obtain ⟨pk, prp⟩ := ok.do x.1 x.2.1 x.2.2 hh
 have fin : ∀ (v v2 : Value) (m' : Nat) (w' : World), Step (FO u t g1 g2) w w' (FO u t g1 g2) → UAt w' u b t g1 g2 (G.set h (flo ((i : Int) + 1) ((i : Int) + 1) fl, some m')) (doU U h (plainC x.1 x.2.1 x.2.2)).2 →
  Gst w' B m' 1 (putK (fun _ => none) ((i : Int) + 1) (v2, (doU U h (plainC x.1 x.2.1 x.2.2)).1)) → B ≤ m' → RdB w' v (doU U h (plainC x.1 x.2.1 x.2.2)).1.d → NewV w v →
  R (.tuple #[.agg (rRep (doU U h (plainC x.1 x.2.1 x.2.2)).1.st (doU U h (plainC x.1 x.2.1 x.2.2)).1.key (doU U h (plainC x.1 x.2.1 x.2.2)).1.code v (doU U h (plainC x.1 x.2.1 x.2.2)).1.info), .bool true]) w' := by
  intro v v2 m' w' st ua' gs' hm' _ _
  rw [hfl] at ua'
  refine k _ _ _ _ _ w' _ _ (L.set h ((i : Int) + 1, some ((i : Int) + 1, (doU U h (plainC x.1 x.2.1 x.2.2)).1))) st ⟨ua', pk, ⟨by rw [List.length_set]; exact hl, fun j q hq => ?_⟩, fun q hq => ?_⟩
  · by_cases e : j = h
    · subst e
      rw [List.getElem?_set_self (by omega)] at hq
      cases hq
      exact ⟨m', by rw [List.getElem?_set_self (by rw [ua.gl]; omega)], v2, gs'⟩
    · rw [List.getElem?_set_ne (by omega)] at hq
      obtain ⟨mj, h1, h2⟩ := gs.rel j q hq
      refine ⟨mj, by rw [List.getElem?_set_ne (by omega)]; exact h1, ?_⟩
      obtain ⟨nn, f, mp⟩ := h2.mp
      have e1 := mp.ne ua.o
      have e2 := mp.ne ua.tb.b
      have e3 := mp.ne ua.sp.dat
      have e4 := mp.ne ua.sp.map
      exact h2.stepS st (fun hf => by rcases hf with e | e | e | e <;> omega) (fun kk hk _ hf => by rcases hf with e | e | e | e <;> omega)
  · rcases List.mem_or_eq_of_mem_set hq with e | e
    · obtain ⟨a1, a2, a3, a4⟩ := go q e
      exact ⟨a1, a2, by omega, fun q' hq' => by have := a4 q' hq'; omega⟩
    · subst e
      refine ⟨⟨⟨by show (0 : Int) ≤ (i : Int) + 1; omega, by show (i : Int) + 1 < 18446744073709551616; omega⟩, fun q' hq' => ?_⟩, by show (0 : Int) ≤ (i : Int) + 1; omega, by show (i : Int) + 1 ≤ ((i + 1 : Nat) : Int); omega, fun q' hq' => ?_⟩
      · cases hq'
        exact ⟨wfid (by omega), by show (0 : Int) ≤ (i : Int) + 1; omega, by show (i : Int) + 1 < 18446744073709551616; omega, prp⟩
      · cases hq'
        show (i : Int) + 1 ≤ ((i + 1 : Nat) : Int); omega
 have dne : dv.ownBlock ≠ some u := fun e => by have := hdw _ e; omega
 cases o with
 | none =>
   refine Once_s (nn := 0) (K := fun _ => none) ua hh hG hs (fun y => by unfold keepK; split <;> rfl) hB hBw (wfid (by omega)) (by omega) (by omega) (plain_ok ok.ty _ _ _ h) hd dne hdw (doU_short _ _ _ h) fun v v2 m' w' => fin v v2 m' w'
 | some q =>
   obtain ⟨id0, r0⟩ := q
   obtain ⟨v0, hs⟩ := hs
   have hid0 : id0 ≤ (i : Int) := o3 _ rfl
   refine Once_s (nn := 1) ua hh hG hs (fun y => ?_) hB hBw (wfid (by omega)) (by omega) (by omega) (plain_ok ok.ty _ _ _ h) hd dne hdw (doU_short _ _ _ h) fun v v2 m' w' => fin v v2 m' w'
   rw [hfl]
   unfold keepK putK
   by_cases e : (i : Int) + 1 ≤ y
   · rw [if_pos e, if_neg (by omega)]
   · rw [if_neg e]
theorem topSnapshot_c {W : World} (hE : Env W) {pv pp : Value} {l : List (UInt8 × UInt8 × UInt8)} {ps : List Int} (hl : RdR EA W pv l) (hps : RdR EI W pp ps) (hpsb : ps ≠ [] → ∀ q, pp.ownBlock = some q → q < W.heap.size) :
 CW.Spec Tryz.prog 8 #[pv, pp] W (Law W) := by
 apply q32W
 refine known_c hE fun w1 gw1 => ⟨_, rfl, cond_f rfl ?_⟩
 refine JoinP.bool (fun q w' => (q = false → l.length ≤ 30 ∧ ps.length ≤ 20) ∧ w' = w1) (fun j hj => ⟨_, hl.len, cond_intro (fun _ => hj _ _ ⟨fun e => (by cases e), rfl⟩) (fun h1 => ⟨_, hps.len, hj _ _ ⟨fun e => ?_, rfl⟩⟩)⟩) ?_
 · have k1 : ¬ (l.length : Int) > 30 := by simpa using h1
   have k3 : ¬ (ps.length : Int) > 20 := by simpa using e
   omega
 rintro q w4 ⟨hq, rfl⟩
 refine cond_intro (fun _ => ⟨rfl, gw1⟩) (fun hq' => ?_)
 obtain ⟨hl30, hp20⟩ := hq hq'
 clear hq hq'
 have zW := gw1.size
 refine uNewD_c (N := 32) (by omega) (by omega) fun u b t g1 g2 ms w6 g6 hu hb ht hg1 hg2 ua hnd hms => ⟨_, _, rfl, ?_⟩
 have ms8 : ms.length = 8 := by have := ua.gl; simpa using this
 have lB : u < w6.heap.size ∧ b < w6.heap.size ∧ t < w6.heap.size ∧ g1 < w6.heap.size ∧ g2 < w6.heap.size := ⟨ua.o.lt, ua.sp.obj.lt, ua.tb.b.lt, ua.sp.dat.lt, ua.sp.map.lt⟩
 have I0 : SInv w6 w6.heap.size u b t g1 g2 0 (ms.map fun m => ((0 : Int), some m)) ⟨32, List.replicate (8 * 32) 0, List.replicate ((32 + 7) / 8) 0, newTb⟩ (List.replicate 8 ((0 : Int), none)) := by
  refine ⟨ua, pl_new, ⟨by simp, fun i p hp => ?_⟩, fun p hp => ?_⟩
  · have hi : i < 8 := by have := (List.getElem?_eq_some_iff.1 hp).1; simpa using this
    rw [List.getElem?_replicate, if_pos hi] at hp
    cases hp
    have hmi : ms[i]? = some (ms[i]'(by omega)) := List.getElem?_eq_getElem (by omega)
    refine ⟨ms[i]'(by omega), by rw [List.getElem?_map, hmi]; rfl, ?_⟩
    obtain ⟨_, _, p3⟩ := hms _ (List.mem_of_getElem? hmi)
    refine ⟨?_, fun x p hp => by cases hp⟩
    obtain ⟨D, ⟨es, clock, hb, F, hs, hD⟩, h2⟩ := (Mp.made w6 : Mp Tryz.prog tU6 .u64 (w6.alloc (.map #[] 0)) w6.heap.size 0 (fun _ => none))
    have hb2 : (w6.alloc (.map #[] 0)).heap[w6.heap.size]? = some (.map #[] 0) := by
     show (w6.heap.push _)[w6.heap.size]? = _
     simp
    rw [hb] at hb2
    cases hb2
    exact ⟨D, ⟨_, _, p3, F, hs, hD⟩, h2⟩
  · have := List.eq_of_mem_replicate hp
    subst this
    exact ⟨⟨⟨by show (0 : Int) ≤ 0; omega, by show (0 : Int) < 18446744073709551616; omega⟩, fun q hq => by cases hq⟩, by show (0 : Int) ≤ 0; omega, by show (0 : Int) ≤ ((0 : Nat) : Int); omega, fun q hq => by cases hq⟩
 have gW6 := gw1.then g6
 have z6 := g6.size
 generalize hBB : w6.heap.size = B at *
 clear ua hms hnd ms8
 refine ⟨fun (n : Int) (w' : World) => ∃ (i : Nat) (G : List (Int × Option Nat)) (U : Un) (L : List (Int × Gs)), n = (i : Int) ∧ i ≤ l.length ∧ Grow W w' ∧ B ≤ w'.heap.size ∧ SInv w' B u b t g1 g2 i G U L,
  fun (n : Int) (_ : World) => ((l.length : Int) - n).toNat, ⟨0, _, _, _, rfl, by omega, gW6, by omega, I0⟩, ?_⟩
 clear I0 gW6
 dsimp only [allR, mapR2, eqN, ltN]
 rintro mm n w11 ⟨⟨i, G, U, L, rfl, hi, gW, hBw, I⟩, hm⟩
 refine ⟨_, hl.len, cond_intro (fun hc => ?_) (fun hc => ?_)⟩
 · have hil : i < l.length := by have : (i : Int) < l.length := by simpa using hc
                                 omega
   have e1 : IntKind.wrap .i64 ((i : Int) + 1) = (i : Int) + 1 := wi64_id (by omega) (by omega)
   have e2 : IntKind.wrap .u64 (IntKind.wrap .i64 ((i : Int) + 1)) = (i : Int) + 1 := by rw [e1, w64_id (by omega) (by omega)]
   refine nm fun w13 e13 => ?_
   have d13 := drE e13
   obtain ⟨a, ha, h0, h1, h2⟩ := aj_at (rdrGrowJ hl (gW.then d13)) (i := (i : Int)) rfl hil
   refine ⟨a, ha, _, h1, a, ha, _, h0, a, ha, _, h1, a, ha, _, h2, nm fun w22 e22 => ?_⟩
   have d22 := drE e22
   refine plain_c (n := l[i].1) (a := l[i].2.1) (b := l[i].2.2) fun dv w24 g24 r24 n24 => ⟨_, _, _, _, _, _, _, _, rfl, ?_⟩
   obtain ⟨a', ha', h0', h1', h2'⟩ := aj_at (rdrGrowJ hl (gW.then (d22.then g24))) (i := (i : Int)) rfl hil
   have eaa : a' = a := by rw [ha] at ha'; exact (Option.some.inj ha').symm
   subst eaa
   have e3 : IntKind.wrap .i64 (bitsI .and .u8 (l[i].2.1.toNat : Int) (3 : Int)) = ((l[i].2.1.toNat % 4 : Nat) : Int) := by rw [and3, wi64_id (by omega) (by omega)]
   refine ⟨⟨_, h1', rfl⟩, ?_⟩
   rw [e2, e3]
   have zz := (d22.then g24).size
   refine sonce_c (x := l[i]) (I.grow (d22.then g24)) (by omega) (by omega) lB (by omega) r24 (fun q hq => by have := n24 q hq; have := d22.size; omega) fun st key code v info w35 G' U' L' st35 I35 => ⟨_, _, _, _, _, _, rfl, ?_⟩
   rw [e1]
   have gW24 := gW.then (d22.then g24)
   exact ⟨⟨i + 1, G', U', L', by omega, by omega, gW24.trans (st35.to_below gW24.size (fun q hq => by rcases hq with e | e | e | e <;> omega)), by have := st35.size; omega, I35⟩, by omega⟩
 · obtain ⟨ua, ok, gs, go⟩ := I
   have uok : UnOk U L := ok.ok fun p hp => (go p hp).1
   refine uEncode_c ua gs uok fun v42 w43 g43 r42 => ⟨_, r42.len, cond_intro (fun _ => ⟨rfl, gW.then g43⟩) (fun hc2 => ?_)⟩
   have hlen : (unB U L).length ≤ 24576 := by
    have : ¬ (((unB U L).length : Nat) : Int) > 24576 := by simpa using hc2
    omega
   have hne : unB U L ≠ [] := by simp [unB, partB, putL]
   have gW43 := gW.then g43
   have ua43 := ua.grow g43
   have hxl : ∀ q, v42.ownBlock = some q → q < w43.heap.size := Rd.lt r42 (by simpa using hne)
   have z43 := g43.size
   have zW43 := gW43.size
   have lL := gs.len
   generalize hbs : unB U L = bs at *
   clear gs g43 ua hc hc2 hm go
   apply q105W
   refine ⟨_, rfl, ?_⟩
   obtain ⟨A0, hA0⟩ : ∃ A : Av, ∀ q, ¬ A.G q := ⟨⟨fun _ => False⟩, fun _ h => h⟩
   refine dNew_c (fun q hq => absurd hq (hA0 q)) (by omega) fun d mb w49 g49 hd hmb dl49 => ⟨_, _, rfl, ?_⟩
   have fd49 : ∀ q, FD d mb (fun _ => none) q → w43.heap.size ≤ q := by
    rintro q (rfl | rfl | ⟨x, sc, hs, _⟩)
    · exact hd
    · exact hmb
    · cases hs
   refine Format_cS dl49 (fun x => rfl) rfl (by omega) rfl (by simp) (by decide) fun S53 w53 st53 dl53 c53 => ⟨_, rfl, ?_⟩
   have jc53 : JC (cont S53) 1 (hdB hd0) (fun _ => none) := by rw [c53]; exact JC.first _
   refine Open_cS (m := 1) (h := hd0) (es := []) (rs := []) (bs := []) dl53 rfl (by omega) rfl (by simp) (by decide) jc53 (by omega) (hd0_ok (x := 1) (by omega)) (by decide) rfl (by decide) (by decide) (RJ.empty _ _) (by simp) rfl (fun j h1 => by simp at h1) rfl (fun j h1 => by simp at h1) fun S56 s t5 r tv snap lv rv w56 st56 sj56 jc56 i56 new56 => ⟨_, _, rfl, ?_⟩
   have z49 := g49.size
   have z53 := st53.size
   have z56 := st56.size
   have fd53 : ∀ q, FD d mb S53 q → w43.heap.size ≤ q := fun q hq => (st53.fp q hq).elim (fd49 q) (fun h => by omega)
   have fd56 : ∀ q, FD d mb S56 q → w43.heap.size ≤ q := fun q hq => (st56.fp q hq).elim (fd53 q) (fun h => by omega)
   have gg56 : Below w43.heap.size w43 w56 := (Below.trans g49 (st53.to_below (by omega) fd49)).trans (st56.to_below (by omega) fd53)
   have sS := new56 s (.inl rfl)
   have sT := new56 t5 (.inr (.inl rfl))
   have ok56 : HdOk {hd0 with life := hd0.life + 1} := hd0_ok (x := 2) (by omega)
   refine Install_cS sj56 rfl (by omega) rfl (by simp) (by decide) ok56 (by omega) (by decide) jc56 (fun x _ => rfl) (x := v42) (bs := bs) (Rd.grow r42 gg56) (fun q hq => ?_) hlen (ep := 3) (ix := 9) ⟨by decide, by decide⟩ (by omega) fun S60 n60 i60 w60 st60 hn60 hle60 hi60 dl60 jc60 => ⟨_, rfl, cond_f rfl ?_⟩
   · have := hxl q hq
     exact ⟨by omega, fun hf => by have := fd56 q hf; omega, by omega, by omega⟩
   have fd60 : ∀ q, FD d mb S60 q → w43.heap.size ≤ q := fun q hq => by
    rcases st60.fp q (.inr (.inr hq)) with (e | e | e) | e
    · omega
    · omega
    · exact fd56 q e
    · omega
   have z60 := st60.size
   have gg60 : Below w43.heap.size w43 w60 := gg56.trans (st60.to_below (by omega) (fun q hq => by
    rcases hq with e | e | e
    · omega
    · omega
    · exact fd56 q e))
   have gW60 : Grow W w60 := gW43.then gg60
   refine Crash_l dl60 rfl (by omega) (rdrGrowJ hps gW60) (fun hne2 q hq hf => by have := hpsb hne2 q hq; have := fd60 q hf; omega) (by omega) fun S63 w63 st63 dl63 cc63 => ⟨rfl, On_l dl63 fun w65 st65 dl65 => ⟨rfl, ?_⟩⟩
   have jc63 := jc60.crash cc63
   have z63 := st63.size
   have z65 := st65.size
   have fd63 : ∀ q, FD d mb S63 q → w43.heap.size ≤ q := fun q hq => (st63.fp q hq).elim (fd60 q) (fun h => by omega)
   have gg65 : Below w43.heap.size w43 w65 := (gg60.trans (st63.to_below (by omega) fd60)).trans (st65.to_below (by omega) fd63)
   have okI : HdOk (hIn {hd0 with life := hd0.life + 1} 3 9 bs.length) := ⟨by show (0 : Int) ≤ 3 ∧ (3 : Int) < 18446744073709551616; omega, by show (0 : Int) ≤ 3 ∧ (3 : Int) < 4294967296; omega, by show (0 : Int) ≤ 1 ∧ (1 : Int) ≤ 1; omega, by show (0 : Int) ≤ 9 ∧ (9 : Int) < 18446744073709551616; omega, by show (0 : Int) ≤ (bs.length : Int) ∧ (bs.length : Int) ≤ 24576; omega, by show (0 : Int) ≤ 12884901888 ∧ (12884901888 : Int) < 18446744073709551616; omega, by show (0 : Int) ≤ 0 ∧ (0 : Int) < 65536; omega⟩
   have rj65 : RJ (Tp (fun _ => none) (2 + (1 - hd0.wh) * 48) bs i60) (hIn {hd0 with life := hd0.life + 1} 3 9 bs.length).fst (hIn {hd0 with life := hd0.life + 1} 3 9 bs.length).life [] :=
    ⟨fun j h => by simp at h, fun j _ _ => by rw [Tp_out _ _ _ _ _ (.inr (by show (2 + (1 - 0) * 48 + (i60 : Int)) ≤ 98 + (j : Int); omega))], fun i j hi => by simp at hi, fun j h => by simp at h, fun j h => by simp at h⟩
   refine Open_cS (m := 3) (h := hIn {hd0 with life := hd0.life + 1} 3 9 bs.length) (es := []) (rs := []) (bs := bs) dl65 rfl (by omega) rfl (by simp) (by decide) jc63 (by omega) okI (by show (3 : Int) < 4000000000; omega) rfl (by show (12884901888 : Int) < 4611686018427387904; omega) (by show (9 : Int) < 1000000; omega) rj65 (by simp) rfl (fun j h1 => by simp at h1) rfl (fun j hj => ?_) fun S67 s7 t7 r7 tv7 snap7 lv7 rv7 w67 st67 sj67 jc67 i67 new67 => ⟨_, _, rfl, ?_⟩
   · have : Tp (fun _ => none) (2 + (1 - hd0.wh) * 48) bs i60 (2 + (1 - hd0.wh) * 48 + (j : Int)) = some ((bs.drop (512 * j)).take 512) := Tp_at _ _ _ _ _ (by omega)
     exact this
   have z67 := st67.size
   have gg67 : Below w43.heap.size w43 w67 := gg65.trans (st67.to_below (by omega) fd63)
   refine JoinP.bool (fun b w' => b = false ∧ w' = w67) (fun j hj => cond_f rfl ⟨_, rfl, hj _ _ ⟨rfl, rfl⟩⟩) ?_
   rintro b71 w71 ⟨rfl, rfl⟩
   refine cond_f rfl ?_
   have o67 := sj67.o
   apply q107W
   refine nm fun w72 e72 => ?_
   have d72 := drE e72
   refine withAddr_some ⟨9, by rw [add_add, (o67.grow d72).cell]; rfl, withAddr_some ⟨snap7, by rw [(o67.grow d72).cell]; rfl, nm fun w73 e73 => ?_⟩⟩
   have d73 := drE e73
   refine slices_Clone_c (Rd.grow i67.rd d73) (by omega) fun v6 w74 g74 o74 => ⟨⟨_, by rw [add_add, (o67.grow (d73.then g74)).cell]; rfl, rfl⟩, slices_Clip_c o74.rd fun v9 r9 e9 => ⟨⟨_, by rw [add_add, (o67.grow (d73.then g74)).cell]; rfl, rfl⟩, ⟨_, _, rfl, ?_⟩⟩⟩
   have gg74 : Below w43.heap.size w43 w74 := gg67.trans ((d73.then g74).mono (by omega))
   have ua74 : UAt w74 u b t g1 g2 G U := ua43.grow gg74
   have z74 := (d73.then g74).size
   refine uDecode_c (L := L) ua74 lL uok (by rw [hbs]; exact r9) fun u2 b2 t2 p1 p2 G2 w77 g77 hu2 hb2 ht2 hp1 hp2 va77 => ⟨_, _, rfl, ?_⟩
   have o77 := o67.grow ((d73.then g74).then g77)
   refine JoinP.bool (fun b w' => b = false ∧ w' = w77) (fun j hj => cond_f rfl ?_) ?_
   · apply q108W
     exact withAddr_some ⟨3, by rw [add_add, o77.cell]; rfl, _, rfl, cond_f rfl (cond_f rfl ⟨_, rfl, hj _ _ ⟨rfl, rfl⟩⟩)⟩
   rintro b81 w81 ⟨rfl, rfl⟩
   refine cond_f rfl ?_
   have gW77 : Grow W w81 := (gW43.then gg74).then g77
   have ua77 := ua74.grow g77
   have z77 := g77.size
   have ltU : u < w74.heap.size ∧ b < w74.heap.size ∧ t < w74.heap.size ∧ g1 < w74.heap.size ∧ g2 < w74.heap.size := ⟨ua74.o.lt, ua74.sp.obj.lt, ua74.tb.b.lt, ua74.sp.dat.lt, ua74.sp.map.lt⟩
   have ltV : u2 < w81.heap.size ∧ b2 < w81.heap.size ∧ t2 < w81.heap.size ∧ p1 < w81.heap.size ∧ p2 < w81.heap.size := ⟨va77.o.lt, va77.sp.obj.lt, va77.tb.b.lt, va77.sp.dat.lt, va77.sp.map.lt⟩
   have noV : ∀ q, q < w74.heap.size → ¬ FU t2 p1 p2 q := fun q hq hf => by rcases hf with e | e | e <;> omega
   have noU : ∀ q, w74.heap.size ≤ q → ¬ FU t g1 g2 q := fun q hq hf => by rcases hf with e | e | e <;> omega
   have noV2 : ∀ q, w81.heap.size ≤ q → ¬ FU t2 p1 p2 q := fun q hq hf => by rcases hf with e | e | e <;> omega
   have tyU := ok.ty
   have two : ∀ {c : Cm} {i : Nat} {w : World} {RR : KV}, i < 8 → c.d = [] → CmOk U i c → (doU U i c).2 = U → Grow W w → w81.heap.size ≤ w.heap.size → UAt w u b t g1 g2 G U → UAt w u2 b2 t2 p1 p2 G2 U →
    (∀ w', Grow W w' → w81.heap.size ≤ w'.heap.size → UAt w' u b t g1 g2 G U → UAt w' u2 b2 t2 p1 p2 G2 U → RR (.bool true) w') →
    CW.Spec Tryz.prog 20 #[.pointer (some ⟨u, 0, none⟩), .int .i64 (i : Int), .agg (rCmd c nilV)] w fun v88 w89 =>
     ∃ (n90 : Int) (n91 : Int) (n92 : Int) (v93 : Value) (n94 : Int), ((v88 : Value) = (.agg #[(.int .i64 n90), (.int .i64 n91), (.int .i64 n92), v93, (.int .i64 n94)])) ∧
     CW.Spec Tryz.prog 20 #[.pointer (some ⟨u2, 0, none⟩), .int .i64 (i : Int), .agg (rCmd c nilV)] w89 fun v95 w96 =>
     ∃ (n97 : Int) (n98 : Int) (n99 : Int) (v100 : Value) (n101 : Int), ((v95 : Value) = (.agg #[(.int .i64 n97), (.int .i64 n98), (.int .i64 n99), v100, (.int .i64 n101)])) ∧
     CW.Spec Tryz.prog 21 #[(.agg #[(.int .i64 n90), (.int .i64 n91), (.int .i64 n92), v93, (.int .i64 n94)]), (.agg #[(.int .i64 n97), (.int .i64 n98), (.int .i64 n99), v100, (.int .i64 n101)])] w96 RR := by
    intro c i w RR hi8 hcd hok hsame gWw hw ua va kk
    refine Do_c ua hi8 hok (by rw [hcd]; exact Rd.nil w) fun v1 w1 st1 ua1 rp1 => ?_
    obtain ⟨d1, rfl, r1, n1⟩ := rp1
    refine ⟨_, _, _, _, _, rfl, ?_⟩
    rw [hsame] at ua1
    have va1 := va.stepF st1 (noU _ (by omega)) (noU _ (by omega)) (noU _ (by omega)) (noU _ (by omega)) (noU _ (by omega))
    have y1 := st1.size
    refine Do_c va1 hi8 hok (by rw [hcd]; exact Rd.nil w1) fun v2 w2 st2 va2 rp2 => ?_
    obtain ⟨d2, rfl, r2, n2⟩ := rp2
    refine ⟨_, _, _, _, _, rfl, ?_⟩
    rw [hsame] at va2
    have ua2 := ua1.stepF st2 (noV _ (by omega)) (noV _ (by omega)) (noV _ (by omega)) (noV _ (by omega)) (noV _ (by omega))
    have y2 := st2.size
    have r1' : RdB w2 d1 (doU U i c).1.d := Rd.stepS r1 st2 (fun _ q hq => noV2 q (by have := n1 q hq; omega))
    refine same_c (r := (doU U i c).1) r1' r2 fun w3 g3 => ?_
    have y3 := g3.size
    refine kk w3 ?_ (by omega) (ua2.grow g3) (va2.grow g3)
    have zz := gWw.size
    exact Grow.then ((gWw.trans (st1.to_below zz (fun q hq => by rcases hq with e | e | e <;> omega))).trans (st2.to_below (by omega) (fun q hq => by rcases hq with e | e | e <;> omega))) g3
   refine ⟨fun (n : Int) (w' : World) => ∃ i : Nat, n = (i : Int) ∧ i ≤ 4 ∧ Grow W w' ∧ w81.heap.size ≤ w'.heap.size ∧ UAt w' u b t g1 g2 G U ∧ UAt w' u2 b2 t2 p1 p2 G2 U, fun (n : Int) (_ : World) => ((4 : Int) - n).toNat, ⟨0, rfl, by omega, gW77, Nat.le_refl _, ua77, va77⟩, ?_⟩
   dsimp only [allR, mapR2, eqN, ltN]
   rintro m9 n9 w84 ⟨⟨j, rfl, hj4, gW84, z84, ua84, va84⟩, hm9⟩
   refine cond_intro (fun hc9 => ?_) (fun _ => ⟨rfl, gW84⟩)
   have hjl : j < 4 := by simp at hc9; omega
   refine JoinP.bool (fun bb w' => bb = false ∧ Grow W w' ∧ w81.heap.size ≤ w'.heap.size ∧ UAt w' u b t g1 g2 G U ∧ UAt w' u2 b2 t2 p1 p2 G2 U) (fun jj hjj => ?_) ?_
   · refine two (c := cRd) (i := j) (by omega) rfl (cRd_ok tyU j) (doU_rd U j) gW84 z84 ua84 va84 fun w103 gW103 z103 ua103 va103 => ⟨_, rfl, cond_f rfl ?_⟩
     refine two (c := cRk) (i := j) (by omega) rfl (cRk_ok tyU j) (doU_rk U j) gW103 z103 ua103 va103 fun w120 gW120 z120 ua120 va120 => ⟨_, rfl, ?_⟩
     exact hjj _ _ ⟨rfl, gW120, z120, ua120, va120⟩
   · rintro b85 w86 ⟨rfl, gW86, z86, ua86, va86⟩
     refine cond_f rfl ?_
     rw [wi64_id (by omega) (by omega)]
     exact ⟨⟨j + 1, by omega, by omega, gW86, z86, ua86, va86⟩, by omega⟩
theorem topSnapshot_s {W : World} (hE : Env W) {pv pp : Value} {l : List (UInt8 × UInt8 × UInt8)} {ps : List Int} (hl : RdR EA W pv l) (hf : ∀ n ∈ ps, Go.CW.Fits .i64 n) (hps : Rd W pp (ps.map (Value.int .i64))) :
 CW.Spec Tryz.prog 8 #[pv, pp] W (Law W) :=
 topSnapshot_c hE hl (ei_ofJ hps) (fun hne q hq => Rd.lt hps (by simpa using hne) q hq)
end Go.Proofs.YtghineciiljeoaaGreatDoor
