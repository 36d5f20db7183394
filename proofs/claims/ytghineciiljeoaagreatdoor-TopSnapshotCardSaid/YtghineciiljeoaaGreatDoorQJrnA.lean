/- Texts of this seat, one behind the other: JrnM, RngP, RngQ, RngR, StoP, StoQ, StoR, StoS, StoT. -/
import Derived.Test.YtghineciiljeoaaGreatDoorQTwnA
set_option linter.unusedSimpArgs false
set_option linter.unusedVariables false
set_option maxRecDepth 100000
namespace Go.Proofs.YtghineciiljeoaaGreatDoor
section
open Go Go.CW Go.RowKit Go.Crc
structure JC (C : Hold) (m : Int) (v : List UInt8) (T : Int → Option (List UInt8)) : Prop where
 it : C (m % 2) = some (packT m v, [])
 ot : ∃ b, C ((m + 1) % 2) = some (b, []) ∧ (unpT (secB b) = none ∨ ∃ n' v', unpT (secB b) = some (n', v') ∧ n' < m)
 out : ∀ x, x ≠ 0 → x ≠ 1 → C x = (T x).map fun b => (b, [])
theorem secB_fullJ {bs : List UInt8} (h : bs.length = 512) : secB bs = bs := by simp [secB, h]
theorem unp_j {m : Int} {v : List UInt8} (hv : v.length ≤ 488) (h0 : 0 ≤ m) (h1 : m < 18446744073709551616) : unpT (secB (packT m v)) = some (m, v) := by
 rw [secB_fullJ (packT_len hv), unpT_pack hv h0 h1]
variable {C C' : Hold} {m : Int} {v v' : List UInt8} {T : Int → Option (List UInt8)}
theorem JC.tw (h : JC C m v T) (hv : v.length ≤ 488) (h0 : 1 ≤ m) (h1 : m < 1000000000) : twC C 0 = some (m, v) := by
 obtain ⟨b, hb, hu⟩ := h.ot
 have hit := h.it
 have hunp := unp_j (m := m) hv (by omega) (by omega)
 have par : m % 2 = 0 ∨ m % 2 = 1 := by omega
 unfold twC
 rcases par with hp | hp
 · have hq : (m + 1) % 2 = 1 := by omega
   rw [hp] at hit
   rw [hq] at hb
   have r0 : rdC C 0 = secB (packT m v) := by unfold rdC; rw [hit]; rfl
   have r1 : rdC C (0 + 1) = secB b := by unfold rdC; rw [show (0 : Int) + 1 = 1 from rfl, hb]; rfl
   rw [r0, r1]
   have o0 : okT (secB (packT m v)) 0 = some (m, v) := by unfold okT; rw [hunp]; simp [hp]
   rw [o0]
   rcases hu with hu | ⟨n', v', hu, hlt⟩
   · have : okT (secB b) 1 = none := by unfold okT; rw [hu]
     rw [this]; rfl
   · by_cases hn : n' % 2 = 1
     · have : okT (secB b) 1 = some (n', v') := by unfold okT; rw [hu]; simp [hn]
       rw [this]; simp [bestT, hlt]
     · have : okT (secB b) 1 = none := by unfold okT; rw [hu]; simp [hn]
       rw [this]; rfl
 · have hq : (m + 1) % 2 = 0 := by omega
   rw [hp] at hit
   rw [hq] at hb
   have r0 : rdC C 0 = secB b := by unfold rdC; rw [hb]; rfl
   have r1 : rdC C (0 + 1) = secB (packT m v) := by unfold rdC; rw [show (0 : Int) + 1 = 1 from rfl, hit]; rfl
   rw [r0, r1]
   have o1 : okT (secB (packT m v)) 1 = some (m, v) := by unfold okT; rw [hunp]; simp [hp]
   rw [o1]
   rcases hu with hu | ⟨n', v', hu, hlt⟩
   · have : okT (secB b) 0 = none := by unfold okT; rw [hu]
     rw [this]; rfl
   · by_cases hn : n' % 2 = 0
     · have : okT (secB b) 0 = some (n', v') := by unfold okT; rw [hu]; simp [hn]
       rw [this]
       have : ¬ m < n' := by omega
       simp [bestT, this]
     · have : okT (secB b) 0 = none := by unfold okT; rw [hu]; simp [hn]
       rw [this]; rfl
theorem JC.first (v : List UInt8) : JC (flC (wrC (wrC (cont (fun _ => none)) 0 []) 1 (packT 1 v))) 1 v (fun _ => none) := by
 refine ⟨by simp [flC, wrC, cont, nowC], ⟨[], by simp [flC, wrC, cont, nowC], .inl ?_⟩, fun x h0 h1 => by simp [flC, wrC, cont, h0, h1]⟩
 have : secB [] = zs := by simp [secB, zs]
 rw [this]; exact unpT_zs
theorem JC.put (h : JC C m v T) (hv : v.length ≤ 488) (h0 : 1 ≤ m) (h1 : m < 1000000000) : JC (flC (wrC C (0 + (m + 1) % 2) (packT (m + 1) v'))) (m + 1) v' T := by
 obtain ⟨b, hb, _⟩ := h.ot
 have e0 : (0 : Int) + (m + 1) % 2 = (m + 1) % 2 := by omega
 rw [e0]
 have ne : m % 2 ≠ (m + 1) % 2 := by omega
 refine ⟨?_, ⟨packT m v, ?_, .inr ⟨m, v, unp_j hv (by omega) (by omega), by omega⟩⟩, fun x a c => ?_⟩
 · unfold flC wrC
   rw [if_pos rfl, hb]; rfl
 · have e : (m + 1 + 1) % 2 = m % 2 := by omega
   rw [e]
   unfold flC wrC
   rw [if_neg ne, h.it]; rfl
 · unfold flC wrC
   rw [if_neg (by omega), h.out x a c]
   cases T x <;> rfl
def updT (T : Int → Option (List UInt8)) (x : Int) (b : List UInt8) : Int → Option (List UInt8) := fun y => if y = x then some b else T y
theorem JC.wr (h : JC C m v T) {x : Int} {bs : List UInt8} (hx : 2 ≤ x) : JC (flC (wrC C x bs)) m v (updT T x bs) := by
 obtain ⟨b, hb, hu⟩ := h.ot
 refine ⟨?_, ⟨b, ?_, hu⟩, fun y a c => ?_⟩
 · unfold flC wrC
   rw [if_neg (by omega), h.it]; rfl
 · unfold flC wrC
   rw [if_neg (by omega), hb]; rfl
 · unfold flC wrC updT
   by_cases e : y = x
   · subst e
     rw [if_pos rfl, if_pos rfl]
     cases C y <;> simp [nowC]
   · rw [if_neg e, if_neg e, h.out y a c]
     cases T y <;> rfl
theorem crashed_atJ (hc : Crashed C C') {x : Int} {k : List UInt8} (h : C x = some (k, [])) : C' x = some (k, []) := by
 have := hc x
 rw [h] at this
 cases e : C' x with
 | none => rw [e] at this; exact this.elim
 | some c' =>
   rw [e] at this
   obtain ⟨a, b⟩ := c'
   obtain ⟨h1, h2⟩ := this
   have h1' : b = [] := h1
   subst h1'
   simp only [List.mem_singleton] at h2
   subst h2
   rfl
theorem crashed_noneJ (hc : Crashed C C') {x : Int} (h : C x = none) : C' x = none := by
 have := hc x
 rw [h] at this
 cases e : C' x with
 | none => rfl
 | some c' => rw [e] at this; exact this.elim
theorem JC.crash (h : JC C m v T) (hc : Crashed C C') : JC C' m v T := by
 obtain ⟨b, hb, hu⟩ := h.ot
 refine ⟨crashed_atJ hc h.it, ⟨b, crashed_atJ hc hb, hu⟩, fun x a c => ?_⟩
 have e := h.out x a c
 cases ht : T x with
 | none => rw [ht] at e; exact crashed_noneJ hc e
 | some b => rw [ht] at e; exact crashed_atJ hc e
theorem JC.rd (h : JC C m v T) {x : Int} (hx : 2 ≤ x) : rdC C x = secB ((T x).getD []) := by
 unfold rdC
 rw [h.out x (by omega) (by omega)]
 cases T x <;> rfl
structure Hdr where
 ep : Int
 life : Int
 wh : Int
 base : Int
 size : Int
 fst : Int
 place : Int
structure HdOk (h : Hdr) : Prop where
 ep : 0 ≤ h.ep ∧ h.ep < 18446744073709551616
 life : 0 ≤ h.life ∧ h.life < 4294967296
 wh : 0 ≤ h.wh ∧ h.wh ≤ 1
 base : 0 ≤ h.base ∧ h.base < 18446744073709551616
 size : 0 ≤ h.size ∧ h.size ≤ 24576
 fst : 0 ≤ h.fst ∧ h.fst < 18446744073709551616
 place : 0 ≤ h.place ∧ h.place < 65536
def hdB (h : Hdr) : List UInt8 := putL h.ep 8 ++ putL h.life 4 ++ putL h.wh 1 ++ putL h.base 8 ++ putL h.size 4 ++ putL h.fst 8 ++ putL h.place 2
theorem hdB_len (h : Hdr) : (hdB h).length = 35 := by simp [hdB, putL_length]
theorem hdB_get {h : Hdr} (k : HdOk h) : getV (hdB h) 0 8 = h.ep ∧ getV (hdB h) 8 4 = h.life ∧ getV (hdB h) 12 1 = h.wh ∧ getV (hdB h) 13 8 = h.base ∧ getV (hdB h) 21 4 = h.size ∧ getV (hdB h) 25 8 = h.fst ∧ getV (hdB h) 33 2 = h.place := by
 obtain ⟨k1, k2, k3, k4, k5, k6, k7⟩ := k
 unfold hdB
 refine ⟨?_, ?_, ?_, ?_, ?_, ?_, ?_⟩
 · have := getV_at (pre := []) (post := putL h.life 4 ++ putL h.wh 1 ++ putL h.base 8 ++ putL h.size 4 ++ putL h.fst 8 ++ putL h.place 2) (x := h.ep) (n := 8) k1.1 (by omega) (a := 0) rfl
   rw [Int.emod_eq_of_lt k1.1 (by simpa using k1.2)] at this
   simpa [List.append_assoc] using this
 · have := getV_at (pre := putL h.ep 8) (post := putL h.wh 1 ++ putL h.base 8 ++ putL h.size 4 ++ putL h.fst 8 ++ putL h.place 2) (x := h.life) (n := 4) k2.1 (by omega) (a := 8) (by simp [putL_length])
   rw [Int.emod_eq_of_lt k2.1 (by simpa using k2.2)] at this
   simpa [List.append_assoc] using this
 · have := getV_at (pre := putL h.ep 8 ++ putL h.life 4) (post := putL h.base 8 ++ putL h.size 4 ++ putL h.fst 8 ++ putL h.place 2) (x := h.wh) (n := 1) k3.1 (by omega) (a := 12) (by simp [putL_length])
   rw [Int.emod_eq_of_lt k3.1 (by simp; omega)] at this
   simpa [List.append_assoc] using this
 · have := getV_at (pre := putL h.ep 8 ++ putL h.life 4 ++ putL h.wh 1) (post := putL h.size 4 ++ putL h.fst 8 ++ putL h.place 2) (x := h.base) (n := 8) k4.1 (by omega) (a := 13) (by simp [putL_length])
   rw [Int.emod_eq_of_lt k4.1 (by simpa using k4.2)] at this
   simpa [List.append_assoc] using this
 · have := getV_at (pre := putL h.ep 8 ++ putL h.life 4 ++ putL h.wh 1 ++ putL h.base 8) (post := putL h.fst 8 ++ putL h.place 2) (x := h.size) (n := 4) k5.1 (by omega) (a := 21) (by simp [putL_length])
   rw [Int.emod_eq_of_lt k5.1 (by simp; omega)] at this
   simpa [List.append_assoc] using this
 · have := getV_at (pre := putL h.ep 8 ++ putL h.life 4 ++ putL h.wh 1 ++ putL h.base 8 ++ putL h.size 4) (post := putL h.place 2) (x := h.fst) (n := 8) k6.1 (by omega) (a := 25) (by simp [putL_length])
   rw [Int.emod_eq_of_lt k6.1 (by simpa using k6.2)] at this
   simpa [List.append_assoc] using this
 · have := getV_at (pre := putL h.ep 8 ++ putL h.life 4 ++ putL h.wh 1 ++ putL h.base 8 ++ putL h.size 4 ++ putL h.fst 8) (post := []) (x := h.place) (n := 2) k7.1 (by omega) (a := 33) (by simp [putL_length])
   rw [Int.emod_eq_of_lt k7.1 (by simp; omega)] at this
   simpa [List.append_assoc] using this
structure RJ (T : Int → Option (List UInt8)) (F life : Int) (rs : List (Int × List UInt8)) : Prop where
 at_ : ∀ (j : Nat) (h : j < rs.length), T (98 + (j : Int)) = some (packR (F + (j : Int)) rs[j].1 0 1 rs[j].2)
 end_ : ∀ j : Nat, rs.length ≤ j → j < 256 → T (98 + (j : Int)) = none
 inc : ∀ (i j : Nat) (hi : i < rs.length) (hj : j < rs.length), i ≤ j → rs[i].1 ≤ rs[j].1
 lo : ∀ (j : Nat) (h : j < rs.length), 0 ≤ rs[j].1 ∧ rs[j].1 ≤ life
 len : ∀ (j : Nat) (h : j < rs.length), rs[j].2.length < 480
theorem RJ.life {F life life' : Int} {rs : List (Int × List UInt8)} (h : RJ T F life rs) (hl : life ≤ life') : RJ T F life' rs := ⟨h.at_, h.end_, h.inc, fun j hj => ⟨(h.lo j hj).1, Int.le_trans (h.lo j hj).2 hl⟩, h.len⟩
theorem RJ.empty (F life : Int) : RJ (fun _ => none) F life [] := ⟨fun j h => by simp at h, fun _ _ _ => rfl, fun i j hi => by simp at hi, fun j h => by simp at h, fun j h => by simp at h⟩
end
section
open Go Go.CW Go.RowKit Go.Crc
variable {w w' : World} {d mb n : Nat} {D : Dk} {S : SF}
section
variable [Av]
def o2 (l : List Int) : List UInt8 := l.flatMap fun x => putL x 2
end
theorem o2_take (l : List Int) (i : Nat) (hi : i < l.length) : o2 (l.take (i + 1)) = o2 (l.take i) ++ putL l[i] 2 := by
 rw [List.take_add_one, List.getElem?_eq_getElem hi]; unfold o2; rw [List.flatMap_append]; simp
section
variable [Av]
end
theorem o2_len (l : List Int) : (o2 l).length = 2 * l.length := by
 induction l with
 | nil => rfl
 | cons x l ih => simp only [o2, List.flatMap_cons, List.length_append, List.length_cons, putL_length] at ih ⊢; omega
section
variable [Av]
end
theorem packR_ne {nu l p m : Int} {v : List UInt8} (h : v.length ≤ 480) : packR nu l p m v ≠ [] := fun e => by
 have := packR_len (n := nu) (l := l) (p := p) (m := m) h
 rw [e] at this; simp at this
section
variable [Av]
end
theorem Pack_cR {nu l p m : Int} {v : Value} {bs : List UInt8} (hr : RdB w v bs) (hl : bs.length ≤ 480) (hL : 0 ≤ l ∧ l < 4294967296) (hp : 0 ≤ p) (hpm : p < m) (hm : m ≤ 65535) {R : KV}
 (k : ∀ v' w', Grow w w' → RdB w' v' (packR nu l p m bs) → NewV w v' → R (.tuple #[v', .int .i64 (0 : Int)]) w') : CW.Spec Tryz.prog 200 #[.int .u64 nu, .int .u32 l, .int .i64 p, .int .i64 m, v] w R := by
 apply q75W
 refine JoinP.bool (fun b w' => b = false ∧ w' = w) (fun j hj => cond_f (by simp; omega) (cond_f (by simp; omega) (hj _ _ ⟨by simp; omega, rfl⟩))) ?_
 rintro b w1 ⟨rfl, rfl⟩
 refine cond_f rfl ⟨_, RdB.len hr, cond_f (by simp; omega) (nm fun w3 e3 => ?_)⟩
 subst e3
 obtain ⟨w5, h5, g5, r5⟩ := conv_lit (P := Tryz.prog) (t := tB) (e := tb) (by kernel_rfl) (by kernel_rfl) w1 rgM 4 rfl (by simp [maxLen])
 refine ⟨_, w5, h5, bin_Put_w r5 (by simp [rgM]) (by omega) fun v6 w7 g7 wr7 f7 n7 => ?_⟩
 have r6 : RdB w7 v6 (rgM ++ putL nu 8) := wr7.1
 rw [w64_id (n := l) (by omega) (by omega)]
 refine bin_Put_w r6 (by simp [rgM, putL_length]) (by omega) fun v8 w9 g9 wr9 f9 n9 => ⟨_, RdB.len (hr.grow ((g5.then g7).then g9)), nm fun w11 e11 => ?_⟩
 have r8 : RdB w9 v8 (rgM ++ putL nu 8 ++ putL l 4) := wr9.1
 obtain ⟨b11, g11, s11⟩ := alE e11
 refine ⟨3, rfl, ?_⟩
 refine ⟨fun (vv : Value) (i : Int) (ww : World) => 0 ≤ i ∧ i ≤ 3 ∧ Grow w11 ww ∧ RdB ww vv (rgM ++ putL nu 8 ++ putL l 4 ++ o2 (([p, m, (bs.length : Int)] : List Int).take i.toNat)) ∧ Ful vv, fun (_ : Value) (i : Int) (_ : World) => (3 - i).toNat, ⟨by omega, by omega, Grow.refl _, ?_, f9⟩, ?_⟩
 · have e : rgM ++ putL nu 8 ++ putL l 4 ++ o2 (([p, m, (bs.length : Int)] : List Int).take (0 : Int).toNat) = rgM ++ putL nu 8 ++ putL l 4 := by simp [o2]
   rw [e]; exact r8.grow g11
 dsimp only [allR, mapR2, eqN, ltN]
 rintro mm vv i ww ⟨⟨i0, i1, gg, r, fl⟩, hmm⟩
 have hpl := o2_len (([p, m, (bs.length : Int)] : List Int).take i.toNat)
 rw [List.length_take] at hpl
 have l3 : ([p, m, (bs.length : Int)] : List Int).length = 3 := rfl
 refine cond_intro (fun e => ?_) (fun e => ?_)
 · have e : i < 3 := by simpa using e
   have hcell : ww.cell? (⟨w9.heap.size, i.toNat, none⟩ : Addr) = some (.int .i64 (([p, m, (bs.length : Int)] : List Int)[i.toNat]'(by omega))) := by
    rw [(b11.grow gg).at i.toNat]
    have : i.toNat = 0 ∨ i.toNat = 1 ∨ i.toNat = 2 := by omega
    rcases this with e | e | e <;> simp only [e] <;> rfl
   have hrange : 0 ≤ ([p, m, (bs.length : Int)] : List Int)[i.toNat]'(by omega) ∧ ([p, m, (bs.length : Int)] : List Int)[i.toNat]'(by omega) < 65536 := by
    have : i.toNat = 0 ∨ i.toNat = 1 ∨ i.toNat = 2 := by omega
    rcases this with e | e | e <;> simp only [e, List.getElem_cons_zero, List.getElem_cons_succ] <;> omega
   refine ⟨⟨w9.heap.size, i.toNat, none⟩, ?_, _, hcell, ?_⟩
   · simp only [sliceAt]
     rw [if_pos (by omega), Nat.mul_one, ad0]
   rw [w64_id (by omega) (by omega)]
   refine bin_Put_w r (by simp only [List.length_append, putL_length]; simp [rgM]; omega) (by omega) fun v21 w22 g22 o22 f22 n22 => ?_
   rw [wi64_id (n := i + 1) (by omega) (by omega)]
   have e1 : (i + 1).toNat = i.toNat + 1 := by omega
   refine ⟨⟨by omega, by omega, gg.then g22, ?_, f22⟩, by omega⟩
   have hr2 := o22.1
   rw [e1, o2_take _ _ (by omega), ← List.append_assoc]
   exact hr2
 · have e : ¬ i < 3 := by simpa using e
   have et : ([p, m, (bs.length : Int)] : List Int).take i.toNat = [p, m, (bs.length : Int)] := List.take_of_length_le (by omega)
   rw [et] at r
   have gA := (((g5.then g7).then g9).then g11).then gg
   obtain ⟨v21, w22, hrun, r21, g22⟩ := app_any r fl (hr.grow gA) (by simp [rgM, putL_length, o2_len]; omega)
   have eb : rgM ++ putL nu 8 ++ putL l 4 ++ o2 [p, m, (bs.length : Int)] ++ bs = rgB nu l p m bs := by simp [rgB, o2, List.append_assoc]
   rw [eb] at r21
   refine ⟨v21, w22, hrun, bin_Pad_c r21 (by rw [rgB_len]; omega) fun v23 w24 g24 r23 n23 => crc_Seal_c r23 (by
    rw [padS_len (by rw [rgB_len]; omega) (by rw [rgB_len]; omega)]; omega) fun v25 w26 g26 wr26 => ?_⟩
   have gg := (gA.then g22).then g24
   refine k v25 w26 (gg.then g26) wr26.1 (fun q hq => ?_)
   exact Nat.le_trans gg.size (wr_new (bs := packR nu l p m bs) wr26 (packR_ne hl) q hq)
section
variable [Av]
end
theorem get_cR {b : Nat} {v : Value} {bs : List UInt8} (hb : BK w b #[v] 34) (hr : RdB w v bs) {a k : Int} (ha : Fits .i64 a) (hk : Fits .i64 k) {R : KV} (c : R (.int .u64 (getV bs a k)) w) : CW.Spec Tryz.prog 335 #[.int .i64 a, .int .i64 k, .pointer (some ⟨b, 0, none⟩)] w R := by
 apply q80W
 exact withAddr_some ⟨v, hb.at 0, bin_Get_c hr ha hk ⟨_, _, rfl, c⟩⟩
section
variable [Av]
theorem Unpack_okR (hG : GIn w) {nu l : Int} {v : Value} {bs : List UInt8} (hr : RdB w v (packR nu l 0 1 bs)) (hl : bs.length ≤ 480) (hn : 0 ≤ nu ∧ nu < 18446744073709551616) (hL : 0 ≤ l ∧ l < 4294967296) {R : KV}
 (k : ∀ v' w', Grow w w' → RdI w' v' bs → NewV w v' → R (.tuple #[.int .u64 nu, .int .u32 l, .int .i64 (0 : Int), .int .i64 (1 : Int), v', .int .i64 (0 : Int)]) w') : CW.Spec Tryz.prog 295 #[v] w R := by
 apply q79W
 obtain ⟨hB, q1, q2, q3, q4, q5, q6⟩ := getR_pack (n := nu) (l := l) (p := 0) (m := 1) hl hn hL (by omega) (by omega)
 have hlen := packR_len (n := nu) (l := l) (p := 0) (m := 1) hl
 have hopE : opE (packR nu l 0 1 bs) = 0 := (opE_sld _).1
 refine ⟨_, RdB.len hr, cond_f (by rw [hlen]; rfl) (crc_Open_c hr (by omega) fun v3 w2 g2 r3 => ⟨_, _, rfl, nm fun w5 e5 => ?_⟩)⟩
 obtain ⟨b5, g5, s5⟩ := alE e5
 refine oneK_of (Rd.isOne r3) ⟨b5.st1 (by show 0 < 1; omega), nm fun w6 e6 => cond_f (by rw [hopE]; rfl) ?_⟩
 have e6' : w6 = World.setCell w5 (Addr.add ⟨w2.heap.size, 0, none⟩ 0) v3 := by rw [ad0]; exact e6
 obtain ⟨b6, t6⟩ := setE b5 e6'
 have g6 : Grow w2 w6 := Below.turn g5 t6 (Nat.le_refl _)
 have r6 : RdB w6 v3 (opB (packR nu l 0 1 bs)) := r3.grow g6
 have b6' : BK w6 w2.heap.size #[v3] 34 := b6
 refine get_cR b6' r6 (by decide) (by decide) ⟨_, rfl, get_cR b6' r6 (by decide) (by decide) ⟨_, rfl, get_cR b6' r6 (by decide) (by decide) ⟨_, rfl, get_cR b6' r6 (by decide) (by decide) ⟨_, rfl, get_cR b6' r6 (by decide) (by decide) ⟨_, rfl, ?_⟩⟩⟩⟩⟩
 rw [q1, q2, q3, q4, q5, wi64_id (n := (bs.length : Int)) (by omega) (by omega), wi64_id (n := (22 : Int) + (bs.length : Int)) (by omega) (by omega), w32_id hL.1 hL.2]
 refine cond_f (by simp; omega) ⟨v3, b6'.at 0, ?_⟩
 have hB508 : (opB (packR nu l 0 1 bs)).length = 508 := by rw [hB, padS_len (by rw [rgB_len]; omega) (by rw [rgB_len]; omega)]
 obtain ⟨v13, hs13, hr13, _⟩ := Rd.sub r6 (lo := some (.int .i64 (22 : Int))) (hi := some (.int .i64 ((22 : Int) + (bs.length : Int)))) (l := 22) (r := 22 + bs.length) (fun cap hc => by
  rw [List.length_map] at hc
  rw [bounds_ii (by omega) (by omega) (by omega)]
  congr 2) (by omega) (by rw [List.length_map]; omega)
 have r13 : RdB w6 v13 bs := by
  have e : 22 + bs.length - 22 = bs.length := by omega
  rw [e, ← List.map_drop, ← List.map_take, q6] at hr13
  exact hr13
 refine ⟨v13, hs13, slices_Clone_c r13 (by omega) fun v14 w15 g15 o15 => slices_Clip_c o15.rd fun v16 r16 e16 => ?_⟩
 have i16 : RdI w15 v16 bs := (RdI.own (hG.mono (g2.then g6).size) o15).same r16 e16
 have c0 : IntKind.wrap .i64 (0 : Int) = 0 := by decide
 have c1 : IntKind.wrap .i64 (1 : Int) = 1 := by decide
 rw [c0, c1]
 refine Pack_cR r16 hl hL (by omega) (by omega) (by omega) fun v18 w19 g19 r18 n18 => ⟨_, _, rfl, ?_⟩
 refine JoinP.bool (fun b w' => b = false ∧ w' = w19) (fun j hj => cond_f rfl (bytesEqual_c r18 (hr.grow ((g2.then g6).then (g15.then g19))) ⟨_, rfl, hj _ _ ⟨by simp, rfl⟩⟩)) ?_
 rintro b w20 ⟨rfl, rfl⟩
 refine cond_f rfl (k v16 w20 ((g2.then g6).then (g15.then g19)) (i16.grow g19) (fun q hq => ?_))
 rw [e16] at hq
 exact Nat.le_trans (g2.then g6).size ((Own.blk o15) q hq)
end
theorem Unpack_badR {v : Value} {s : List UInt8} (hr : RdB w v s) (hlen : s.length = 512) (hz : opE s ≠ 0) {R : KV} (k : ∀ (a b c e : Int) (v' : Value) (er : Int) w', Grow w w' → er ≠ 0 → R (.tuple #[.int .u64 a, .int .u32 b, .int .i64 c, .int .i64 e, v', .int .i64 er]) w') : CW.Spec Tryz.prog 295 #[v] w R := by
 apply q79W
 refine ⟨_, RdB.len hr, cond_f (by rw [hlen]; rfl) (crc_Open_c hr (by omega) fun v3 w2 g2 r3 => ⟨_, _, rfl, nm fun w5 e5 => ?_⟩)⟩
 obtain ⟨b5, g5, s5⟩ := alE e5
 refine oneK_of (Rd.isOne r3) ⟨b5.st1 (by show 0 < 1; omega), nm fun w6 e6 => cond_t (by simpa using hz) ?_⟩
 have e6' : w6 = World.setCell w5 (Addr.add ⟨w2.heap.size, 0, none⟩ 0) v3 := by rw [ad0]; exact e6
 obtain ⟨b6, t6⟩ := setE b5 e6'
 exact k _ _ _ _ _ _ w6 (g2.then (Below.turn g5 t6 (Nat.le_refl _))) hz
section
variable [Av]
end
theorem zs_len : zs.length = 512 := List.length_replicate
section
variable [Av]
end
theorem Need_cR {x : Int} (hx : 0 ≤ x ∧ x < 480) {R : KV} (k : R (.int .i64 (1 : Int)) w) : CW.Spec Tryz.prog 197 #[.int .i64 x] w R := by
 apply q73W
 have e0 : ¬ x < 0 := by omega
 unfold q73F
 rw [if_neg e0]
 have e1 : Int.tdiv x 480 = 0 := by rw [Int.tdiv_eq_ediv_of_nonneg hx.1]; omega
 rw [e1]
 have c0 : IntKind.wrap .i64 (0 : Int) = 0 := by decide
 have c1 : IntKind.wrap .i64 ((0 : Int) * 480) = 0 := by decide
 have c2 : IntKind.wrap .i64 ((0 : Int) + 1) = 1 := by decide
 rw [c0, c1, c2]
 exact JoinP.go (cond_intro (fun _ => k) (fun _ => k))
section
variable [Av]
structure Rc where
 pl : Int
 b : Value
 one : isOne b = true
def ERc : Enc Rc := ⟨2, fun x => [.int .i64 x.pl, x.b], fun _ => rfl, by omega, fun x => by show (true && (isOne x.b && true)) = true; rw [x.one]; rfl⟩
abbrev tRing : TypeId := 320
abbrev tRec : TypeId := 375
abbrev tRecs : TypeId := 318
end
theorem tyRec : SlTyN Tryz.prog tRecs tRec ERc.s 32 := SlTyN.of (by kernel_rfl)
section
variable [Av]
structure RgAt (w : World) (r d : Nat) (F life : Int) (rv : Value) (k : Nat) : Prop where
 o : BK w r #[.pointer (some ⟨d, 0, none⟩), .int .i64 98, .int .i64 256, .int .u64 F, .int .i64 (k : Int), .int .i64 (k : Int), .int .u32 life, rv] tRing
 l : ∃ L : List Rc, OwnR ERc w 0 tRec rv L ∧ L.length = k
def FRg (r : Nat) (rv : Value) : Fp := fun q => q = r ∨ rv.ownBlock = some q
end
theorem ownR_neJ {α : Type} {E : Enc α} {w : World} {B g : Nat} {e e' : TypeId} {v : Value} {L : List α} {cs : Array Value} (h : OwnR E w B e v L) (b : BK w g cs e') (hne : e ≠ e') : v.ownBlock ≠ some g := by
 rcases h.2 with ⟨rfl, _⟩ | ⟨g', cap, cur, rfl, _, hg, _⟩
 · intro e; cases e
 · intro e
   have : g' = g := by simpa [Value.ownBlock] using e
   subst this
   unfold BK at b
   rw [hg] at b
   injection b with b
   injection b with _ b
   exact hne b
section
variable [Av]
end
theorem OwnR.stepJ {α : Type} {E : Enc α} {S S' : Fp} {w w' : World} {B : Nat} {e : TypeId} {v : Value} {L : List α} (h : OwnR E w B e v L) (st : Step S w w' S') (hs : ∀ q, v.ownBlock = some q → ¬ S q) : OwnR E w' B e v L :=
 h.stable fun k hk => st.block k (h.lt k hk).2 (hs k hk)
section
variable [Av]
end
theorem ownR_typeJ {α : Type} {E : Enc α} {w : World} {B : Nat} {e : TypeId} {v : Value} {L : List α} {q : Nat} (h : OwnR E w B e v L) (hq : v.ownBlock = some q) : ∃ cs fr, w.heap[q]? = some (.cells cs e fr) := by
 rcases h.2 with ⟨rfl, _⟩ | ⟨g, cap, cur, rfl, _, hg, _⟩
 · cases hq
 · cases hq; exact ⟨_, _, hg⟩
section
variable [Av]
variable {r : Nat} {F life : Int} {rv : Value} {k : Nat}
end
section
variable {r : Nat} {F life : Int} {rv : Value} {k : Nat}
theorem RgAt.grow (h : RgAt w r d F life rv k) (g : Grow w w') : RgAt w' r d F life rv k := ⟨h.o.grow g, let ⟨L, h1, h2⟩ := h.l; ⟨L, h1.grow g, h2⟩⟩
end
section
variable [Av]
variable {r : Nat} {F life : Int} {rv : Value} {k : Nat}
end
section
variable {r : Nat} {F life : Int} {rv : Value} {k : Nat}
theorem RgAt.stepS {T T' : Fp} (h : RgAt w r d F life rv k) (st : Step T w w' T') (hn : ∀ q, FRg r rv q → ¬ T q) : RgAt w' r d F life rv k :=
 ⟨h.o.stepS st (hn r (.inl rfl)), let ⟨L, h1, h2⟩ := h.l; ⟨L, OwnR.stepJ h1 st (fun q hq => hn q (.inr hq)), h2⟩⟩
end
section
variable [Av]
variable {r : Nat} {F life : Int} {rv : Value} {k : Nat}
end
section
variable {r : Nat} {F life : Int} {rv : Value} {k : Nat}
theorem RgAt.isIn (h : RgAt w r d F life rv k) : InW w (FRg r rv) := by
 obtain ⟨L, h1, _⟩ := h.l
 rintro q (rfl | hq)
 · exact h.o.lt
 · exact (h1.lt q hq).2
end
section
variable [Av]
variable {r : Nat} {F life : Int} {rv : Value} {k : Nat}
end
section
variable {r : Nat} {F life : Int} {rv : Value} {k : Nat}
theorem RgAt.type (h : RgAt w r d F life rv k) {q : Nat} (hq : FRg r rv q) : ∃ cs t fr, w.heap[q]? = some (.cells cs t fr) ∧ (t = tRing ∨ t = tRec) := by
 obtain ⟨L, h1, _⟩ := h.l
 rcases hq with rfl | hq
 · exact ⟨_, _, _, h.o, .inl rfl⟩
 · obtain ⟨cs, fr, e⟩ := ownR_typeJ h1 hq
   exact ⟨cs, _, fr, e, .inr rfl⟩
end
section
variable [Av]
variable {r : Nat} {F life : Int} {rv : Value} {k : Nat}
end
section
variable {r : Nat} {F life : Int} {rv : Value} {k : Nat}
theorem RgAt.noT (h : RgAt w r d F life rv k) {t : TypeId} (h1 : t ≠ tRing) (h2 : t ≠ tRec) : NoT t w (FRg r rv) := by
 intro q hq cs fr e
 obtain ⟨cs', t', fr', e', ht⟩ := h.type hq
 rw [e'] at e
 injection e with e
 injection e with _ e _
 subst e
 rcases ht with e | e
 · exact h1 e
 · exact h2 e
end
section
variable [Av]
variable {r : Nat} {F life : Int} {rv : Value} {k : Nat}
end
section
variable {r : Nat} {F life : Int} {rv : Value} {k : Nat}
theorem Next_cR (h : RgAt w r d F life rv k) (hF : 0 ≤ F ∧ F < 9223372036854775808) (hk : k ≤ 256) {R : KV} (c : ∀ w', Grow w w' → R (.int .u64 (F + (k : Int))) w') : CW.Spec Tryz.prog 199 #[.pointer (some ⟨r, 0, none⟩)] w R := by
 apply q76W
 refine nm fun w0 e0 => ?_
 have h0 := h.grow (drE e0)
 obtain ⟨L, l1, l2⟩ := h0.l
 refine withAddr_some ⟨_, h0.o.cell 3, withAddr_some ⟨_, h0.o.cell 7, _, l1.rd.len, nm fun w5 e5 => ?_⟩⟩
 rw [l2, w64_id (n := (k : Int)) (by omega) (by omega), w64_id (n := F + (k : Int)) (by omega) (by omega)]
 exact c w5 (drE e5)
end
section
variable [Av]
variable {r : Nat} {F life : Int} {rv : Value} {k : Nat}
end
end
section
open Go Go.CW Go.RowKit Go.Crc
variable {w w' : World} {d mb n : Nat} {D : Dk} {S : SF} {r : Nat} {F life : Int} {rv : Value} {k : Nat}
section
variable [Av]
end
theorem keep_cR (h : RgAt w r d F life rv k) {v : Value} {bs : List UInt8} (hv : RdB w v bs) (hb : bs.length < 480) (hk : k < 255) (hx : ∀ q, v.ownBlock = some q → ¬ FRg r rv q) {R : KV}
 (c : ∀ rv' w', Step (FRg r rv) w w' (FRg r rv') → RgAt w' r d F life rv' (k + 1) → R (.tuple #[]) w') : CW.Spec Tryz.prog 201 #[.pointer (some ⟨r, 0, none⟩), v] w R := by
 apply q77W
 obtain ⟨L, hL, hLk⟩ := h.l
 refine nm fun w0 e0 => ?_
 have h0 := h.grow (drE e0)
 refine withAddr_some ⟨_, h0.o.cell 7, withAddr_some ⟨_, h0.o.cell 4, nm fun w5 e5 => ?_⟩⟩
 have g5 := drE e5
 refine slices_Clone_c (hv.grow g5) (by omega) fun v6 w7 g7 o7 => ?_
 have g57 := g5.then g7
 have h7 := h.grow g57
 have one6 := Rd.isOne o7.rd
 have ga := fun o => Grow.al (Grow.refl w7) o
 refine ⟨⟨_, h7.o.cell 7, rfl⟩, ⟨_, h7.o.cell 4, rfl⟩, oneK_of one6 ⟨⟨_, (h7.grow (ga _)).o.cell 7, rfl⟩, nm fun w11 e11 => nm fun w12 e12 => ?_⟩⟩
 clear e11
 have g12 : Grow w7 w12 := by rw [e12]; exact ga _
 have h12 := h7.grow g12
 have lit : OwnR ERc w12 w7.heap.size tRec (.slice (some ⟨w7.heap.size, 0, none⟩) 1 1) [⟨(k : Int), v6, one6⟩] := by
  have := OwnR.lit (E := ERc) w7 (Nat.le_refl _) tRec [⟨(k : Int), v6, one6⟩] 1 rfl (by simp [maxLen])
  rw [e12]; exact this
 have L12 := (hL.grow g57).grow g12
 obtain ⟨v13, w14, k14, o14, n14⟩ := app_ownR tyRec L12 lit.rd (by simp; omega) (Nat.zero_le _)
 have st14 : Step (fun q => rv.ownBlock = some q) w12 w14 (fun q => rv.ownBlock = some q ∨ v13.ownBlock = some q) := Step.of_own n14 (fun q hq => hq)
 refine ⟨v13, w14, k14, withAddr_some (oneK_of ?_ ?_)⟩
 · rcases o14.2 with ⟨rfl, _⟩ | ⟨g', cap, cur, rfl, _⟩ <;> rfl
 have b14 := h12.o.stepS st14 (fun hs => ownR_neJ L12 h12.o (by decide) hs)
 refine ⟨st1_at b14 (by show 7 < 8; omega), nm fun w16 e16 => nm fun w17 e17 => nm fun w18 e18 => ?_⟩
 clear e16
 obtain ⟨b17, t17⟩ := setE b14 e17
 have o17 := o14.stable fun q hq => t17.block q (fun e => ownR_neJ o14 b14 (by decide) (e ▸ hq))
 have b18 := b17.grow (drE e18)
 have hnew : ∀ q, v13.ownBlock = some q → FRg r rv q ∨ w.heap.size ≤ q := fun q hq => by
  rcases n14.at_ with a | a
  · exact .inl (.inr (a ▸ hq))
  · exact .inr (by have := a q hq; have := (g57.then g12).size; omega)
 refine withAddr_some ⟨_, b18.cell 5, _, RdB.len hv, nm fun w22 e22 => Need_cR (by omega) ⟨_, rfl, ?_⟩⟩
 have b22 := b17.grow (drE e22)
 have o22 := o17.grow (drE e22)
 refine ⟨⟨_, b22.cell 5, rfl⟩, withAddr_some ⟨st1_at b22 (by show 5 < 8; omega), nm fun w28 e28 => nm fun w29 e29 => nm fun w30 e30 => ?_⟩⟩
 clear e28
 obtain ⟨b29, t29⟩ := setE b22 e29
 have o29 := o22.stable fun q hq => t29.block q (fun e => ownR_neJ o22 b22 (by decide) (e ▸ hq))
 have b30 := b29.grow (drE e30)
 refine withAddr_some ⟨_, b30.cell 4, _, RdB.len hv, withAddr_some ⟨_, b30.cell 2, nm fun w36 e36 => Need_cR (by omega) ⟨_, rfl, ?_⟩⟩⟩
 have b36 := b29.grow (drE e36)
 have o36 := o29.grow (drE e36)
 refine ⟨⟨_, b36.cell 4, rfl⟩, ⟨_, b36.cell 2, rfl⟩, nzK_intro (by omega) (withAddr_some ⟨st1_at b36 (by show 4 < 8; omega), nm fun w43 e43 => nm fun w44 e44 => ?_⟩)⟩
 clear e43
 rw [wi64_id (n := (k : Int) + 1) (by omega) (by omega)] at *
 have em : Int.tmod ((k : Int) + 1) 256 = (k : Int) + 1 := by rw [Int.tmod_eq_emod_of_nonneg (by omega)]; omega
 rw [em] at e44
 obtain ⟨b44, t44⟩ := setE b36 e44
 have o44 := o36.stable fun q hq => t44.block q (fun e => ownR_neJ o36 b36 (by decide) (e ▸ hq))
 have z17 := t17.size
 have z22 := (drE e22).size
 have z29 := t29.size
 have z36 := (drE e36).size
 have z44 := t44.size
 refine c v13 w44 ?_ ⟨?_, _, o44, by simp; omega⟩
 · have s1 : Step (FRg r rv) w w12 (FRg r rv) := Step.of_grow (g57.then g12)
   have s2 : Step (FRg r rv) w12 w14 (FRg r v13) := ⟨st14.os, st14.tape, st14.output, st14.size, fun q hq hs => st14.block q hq (fun e => hs (.inr e)), fun q hq => by
    rcases hq with e | e
    · exact .inl (.inl e)
    · rcases n14.at_ with a | a
      · exact .inl (.inr (a ▸ e))
      · exact .inr (a q e)⟩
   have s3 := t17.step (S := FRg r v13) (.inl rfl)
   have s4 := t29.step (S := FRg r v13) (.inl rfl)
   have s5 := t44.step (S := FRg r v13) (.inl rfl)
   exact s1.then (s2.then (s3.then ((Step.of_grow (drE e22)).then (s4.then ((Step.of_grow (drE e36)).then s5)))))
 · have e : ((k + 1 : Nat) : Int) = (k : Int) + 1 := by omega
   rw [e]
   exact b44
section
variable [Av]
end
end
section
open Go Go.CW Go.RowKit Go.Crc
variable {w w' : World} {d mb n : Nat} {D : Dk} {S : SF} {r : Nat} {F life : Int} {rv : Value} {k : Nat}
section
variable [Av]
end
theorem app_newJ {src : Value} {cs : List UInt8} (hr : RdB w src cs) (hb : cs.length ≤ 1000000000) :
 ∃ v' w', Sem.run Tryz.prog (Builtin.append_ #[tB, tB] tB #[nilS, src]) w = .ok v' w' ∧ RdB w' v' cs ∧ Grow w w' ∧ NewV w v' := by
 by_cases h0 : cs = []
 · subst h0
   exact ⟨nilS, w, app_none tyB (Rd.nil w) hr, Rd.nil w, Grow.refl w, fun q hq => by cases hq⟩
 · obtain ⟨v', w', h1, h2, h3⟩ := app_ful tyB (Rd.nil w) Ful.nil hr (fun u hu => by obtain ⟨c, _, rfl⟩ := List.mem_map.1 hu; rfl) (by simpa using h0) (by simp; omega)
   exact ⟨v', w', h1, h2.rd, h3, fun q hq => (Own.blk h2) q hq⟩
section
variable [Av]
theorem scan_okR (h : RgAt w r d F life rv k) (dl : DL w d mb n D S) (hF : 0 ≤ F ∧ F < 4611686018427387904) (ho : D.off = false) (hN : 354 ≤ D.n ∧ D.n < 4294967296) (hk : k < 256) {least l : Int} {bs : List UInt8} (hl : least ≤ l ∧ l ≤ life) (hl0 : 0 ≤ l ∧ l < 4294967296) (hb : bs.length < 480)
 (hC : rdC (cont S) (98 + (k : Int)) = packR (F + (k : Int)) l 0 1 bs) {R : KV} (c : ∀ v w', Grow w w' → RdB w' v bs → NewV w v → R (.tuple #[v, .int .u32 l, .bool true, .int .i64 (0 : Int)]) w') :
 CW.Spec Tryz.prog 257 #[.pointer (some ⟨r, 0, none⟩), .int .u32 least] w R := by
 apply q78W
 refine JoinP.go ?_
 refine ⟨fun (v : Value) (l' : Int) (b : Bool) (want i : Int) (ww : World) => (i = 0 ∧ v = nilS ∧ l' = 0 ∧ b = false ∧ want = 1 ∧ ww = w) ∨ (i = 1 ∧ want = 1 ∧ l' = l ∧ b = true ∧ Grow w ww ∧ RdB ww v bs ∧ NewV w v), fun (_ : Value) (_ : Int) (_ : Bool) (_ i : Int) (_ : World) => (1 - i).toNat, .inl ⟨rfl, rfl, rfl, rfl, rfl, rfl⟩, ?_⟩
 dsimp only [allR, mapR2, eqN, ltN]
 rintro m v l' b want i ww ⟨hI | hI, hm⟩
 · obtain ⟨rfl, rfl, rfl, rfl, rfl, rfl⟩ := hI
   refine cond_t rfl (nm fun w12 e12 => ?_)
   have h12 := h.grow (drE e12)
   refine withAddr_some ⟨_, h12.o.cell 5, withAddr_some ⟨_, h12.o.cell 2, nm fun w17 e17 => ?_⟩⟩
   have g17 := drE e17
   have ek0 : IntKind.wrap .i64 ((k : Int) + 0) = (k : Int) := by rw [wi64_id (by omega) (by omega)]; omega
   have ekm : Int.tmod (k : Int) 256 = (k : Int) := by rw [Int.tmod_eq_emod_of_nonneg (by omega)]; omega
   rw [ek0]
   refine cond_f (by simp; omega) (nm fun w18 e18 => ?_)
   have h18 := h.grow (g17.then (drE e18))
   refine withAddr_some ⟨_, h18.o.cell 0, withAddr_some ⟨_, h18.o.cell 1, withAddr_some ⟨_, h18.o.cell 4, withAddr_some ⟨_, h18.o.cell 2, nzK_intro (by omega) (nm fun w27 e27 => ?_)⟩⟩⟩⟩
   have g27 := g17.then (drE e27)
   rw [ek0, ekm, wi64_id (n := 98 + (k : Int)) (by omega) (by omega)]
   refine Read_l (dl.grow g27) ho (by omega) (by omega) (by omega) fun v30 w29 g29 r30 n30 => ⟨_, _, rfl, cond_f rfl ?_⟩
   rw [hC] at r30
   refine Unpack_okR (dl.gi.mono (g27.then g29).size) r30 (by omega) ⟨by omega, by omega⟩ hl0 fun v38 w33 g33 i38 n38 => ⟨_, _, _, _, _, _, rfl, ?_⟩
   have g33' := (g27.then g29).then g33
   refine JoinP.bool (fun b w' => b = false ∧ Grow w33 w') (fun j hj => cond_f rfl (Next_cR (h.grow g33') (by omega) (by omega) fun w59 g59 => ⟨_, rfl, cond_f (by simp) (cond_f rfl (cond_f (by simp; omega) (withAddr_some ⟨_, ((h.grow g33').grow g59).o.cell 6, hj _ _ ⟨by simp; omega, g59⟩⟩)))⟩)) ?_
   rintro b w41 ⟨rfl, g41⟩
   have i41 := i38.grow g41
   refine cond_f rfl (JoinP.go (cond_t rfl ?_))
   have c11 : IntKind.wrap .i64 ((1 : Int) - 1) = 0 := by decide
   have c12 : IntKind.wrap .i64 ((0 : Int) + 1) = 1 := by decide
   refine JoinP.bool (fun b w' => b = true ∧ w' = w41) (fun j hj => ?_) ?_
   · rw [c11]
     exact cond_f (by decide) (cond_t rfl ⟨_, RdB.len i41.rd, cond_intro (fun _ => hj _ _ ⟨rfl, rfl⟩) (fun _ => hj _ _ ⟨rfl, rfl⟩)⟩)
   rintro b w46 ⟨rfl, rfl⟩
   refine JoinP.bool (fun b w' => b = false ∧ w' = w46) (fun j hj => cond_f rfl (cond_f (by simp) (hj _ _ ⟨rfl, rfl⟩))) ?_
   rintro b w48 ⟨rfl, rfl⟩
   obtain ⟨v49, w50, hrun, r49, g50, n49⟩ := app_newJ i41.rd (by omega)
   refine cond_f rfl ⟨v49, w50, hrun, ?_⟩
   rw [c11, c12]
   exact ⟨.inr ⟨rfl, rfl, rfl, rfl, (g33'.then g41).then g50, r49, n49.of (g33'.then g41).size⟩, by omega⟩
 · obtain ⟨rfl, rfl, rfl, rfl, g, rb, nv⟩ := hI
   exact cond_f rfl (c v ww g rb nv)
theorem scan_endR (h : RgAt w r d F life rv k) (dl : DL w d mb n D S) (ho : D.off = false) (hN : 354 ≤ D.n ∧ D.n < 4294967296) (hk : k < 256) {least : Int}
 (hC : rdC (cont S) (98 + (k : Int)) = zs) {R : KV} (c : ∀ w', Grow w w' → R (.tuple #[nilS, .int .u32 (0 : Int), .bool false, .int .i64 (0 : Int)]) w') :
 CW.Spec Tryz.prog 257 #[.pointer (some ⟨r, 0, none⟩), .int .u32 least] w R := by
 apply q78W
 refine JoinP.go ?_
 refine ⟨fun (v : Value) (l' : Int) (b : Bool) (want i : Int) (ww : World) => i = 0 ∧ v = nilS ∧ l' = 0 ∧ b = false ∧ want = 1 ∧ ww = w, fun (_ : Value) (_ : Int) (_ : Bool) (_ i : Int) (_ : World) => (1 - i).toNat, ⟨rfl, rfl, rfl, rfl, rfl, rfl⟩, ?_⟩
 dsimp only [allR, mapR2, eqN, ltN]
 rintro m v l' b want i ww ⟨hI, hm⟩
 obtain ⟨rfl, rfl, rfl, rfl, rfl, rfl⟩ := hI
 refine cond_t rfl (nm fun w12 e12 => ?_)
 have h12 := h.grow (drE e12)
 refine withAddr_some ⟨_, h12.o.cell 5, withAddr_some ⟨_, h12.o.cell 2, nm fun w17 e17 => ?_⟩⟩
 have g17 := drE e17
 have ek0 : IntKind.wrap .i64 ((k : Int) + 0) = (k : Int) := by rw [wi64_id (by omega) (by omega)]; omega
 have ekm : Int.tmod (k : Int) 256 = (k : Int) := by rw [Int.tmod_eq_emod_of_nonneg (by omega)]; omega
 rw [ek0]
 refine cond_f (by simp; omega) (nm fun w18 e18 => ?_)
 have h18 := h.grow (g17.then (drE e18))
 refine withAddr_some ⟨_, h18.o.cell 0, withAddr_some ⟨_, h18.o.cell 1, withAddr_some ⟨_, h18.o.cell 4, withAddr_some ⟨_, h18.o.cell 2, nzK_intro (by omega) (nm fun w27 e27 => ?_)⟩⟩⟩⟩
 have g27 := g17.then (drE e27)
 rw [ek0, ekm, wi64_id (n := 98 + (k : Int)) (by omega) (by omega)]
 refine Read_l (dl.grow g27) ho (by omega) (by omega) (by omega) fun v30 w29 g29 r30 n30 => ⟨_, _, rfl, cond_f rfl ?_⟩
 rw [hC] at r30
 refine Unpack_badR r30 zs_len opE_zs fun a1 a2 a3 a4 v38 er w33 g33 hne => ⟨_, _, _, _, _, _, rfl, ?_⟩
 refine JoinP.bool (fun b w' => b = true ∧ w' = w33) (fun j hj => cond_t (by simpa using hne) (hj _ _ ⟨rfl, rfl⟩)) ?_
 rintro b w41 ⟨rfl, rfl⟩
 exact cond_t rfl (c _ ((g27.then g29).then g33))
def RowsI (w : World) (v : Value) (bss : List (List UInt8)) : Prop := ∃ vs : List (Value × List UInt8), Rd w v (vs.map (·.1)) ∧ (∀ x ∈ vs, RdI w x.1 x.2) ∧ vs.map (·.2) = bss ∧ IsT tB w v
end
theorem clipBB {v : Value} {xs : List Value} (hr : Rd w v xs) {R : KV} (k : ∀ v', Rd w v' xs → v'.ownBlock = v.ownBlock → R v' w) : CW.Spec Tryz.prog 147 #[v] w R := by
 apply q84W
 refine ⟨_, hr.len, _, hr.len, ?_⟩
 obtain ⟨a, cap, rfl, h1, h2, h3, h4⟩ := hr
 have h0 : (0 : Int) ≤ (xs.length : Int) := by omega
 have e : (xs.length : Int) ≤ cap := by omega
 refine ⟨.slice a xs.length xs.length, ?_, k _ ⟨a, xs.length, rfl, Nat.le_refl _, by omega, fun hh => by have := h3 hh; omega, h4⟩ (by cases a <;> rfl)⟩
 simp only [subSlice, boundsOf, boundOf, h0, e, and_self, if_true, Int.toNat_natCast, Int.le_refl, Nat.sub_zero]
 split
 · rfl
 · cases a <;> simp [add_zero]
section
variable [Av]
theorem Open_cR (dl : DL w d mb n D S) (ho : D.off = false) (hN : 354 ≤ D.n ∧ D.n < 4294967296) (hF : 0 ≤ F ∧ F < 4611686018427387904) (hlf : 0 ≤ life ∧ life < 4294967296) {T : Int → Option (List UInt8)} {rs : List (Int × List UInt8)} (hrs : RJ T F life rs) (hlen : rs.length ≤ 200)
 (hT : ∀ x : Int, 2 ≤ x → rdC (cont S) x = secB ((T x).getD [])) {R : KV}
 (c : ∀ r rv v w', Grow w w' → w.heap.size ≤ r → RgAt w' r d F life rv rs.length → (∀ q, FRg r rv q → w.heap.size ≤ q) → RowsI w' v (rs.map (·.2)) → (∀ q, v.ownBlock = some q → w.heap.size ≤ q) → R (.tuple #[.pointer (some ⟨r, 0, none⟩), v, .int .i64 (0 : Int)]) w') :
 CW.Spec Tryz.prog 196 #[.pointer (some ⟨d, 0, none⟩), .int .i64 (98 : Int), .int .i64 (256 : Int), .int .u64 F, .int .i64 (0 : Int), .int .u32 life] w R := by
 apply q74W
 refine JoinP.bool (fun b w' => b = false ∧ w' = w) (fun j hj => cond_f rfl (cond_f rfl (sectors_c dl ⟨_, rfl, cond_f (by simp; omega) (sectors_c dl ⟨_, rfl, cond_f (by rw [wi64_id (by omega) (by omega)]; simp; omega) (cond_f rfl (cond_f rfl (hj _ _ ⟨by simp; omega, rfl⟩)))⟩)⟩))) ?_
 rintro b w1 ⟨rfl, rfl⟩
 refine cond_f rfl (nm fun w2 e2 => ?_)
 obtain ⟨b2, g2, s2⟩ := alE e2
 refine Read_l (dl.grow g2) ho (by omega) (by omega) (by omega) fun v5 w4 g4 r5 n5 => ⟨_, _, rfl, cond_f rfl ?_⟩
 have g24 := g2.then g4
 have h4 : RgAt w4 w1.heap.size d F life nilS 0 := ⟨b2.grow g4, [], OwnR.nil _ _ _, rfl⟩
 refine ⟨fun (v : Value) (least : Int) (ww : World) => ∃ (j : Nat) (rv : Value) (vs : List (Value × List UInt8)), j ≤ rs.length ∧ Grow w1 ww ∧ RgAt ww w1.heap.size d F life rv j ∧ (∀ q, FRg w1.heap.size rv q → w1.heap.size ≤ q) ∧ Own ww w1.heap.size tB v (vs.map (·.1)) ∧ (∀ x ∈ vs, RdI ww x.1 x.2) ∧ vs.map (·.2) = (rs.map (·.2)).take j ∧ (∀ i (hi : i < rs.length), j ≤ i → least ≤ rs[i].1) ∧ (sliceLen v).getD 0 = j,
  fun (v : Value) (_ : Int) (_ : World) => rs.length - (sliceLen v).getD 0, ⟨0, nilS, [], by omega, g24, h4, ?_, Own.nil _ _ _, (fun x hx => by cases hx), by simp, fun i hi _ => (hrs.lo i hi).1, rfl⟩, ?_⟩
 · rintro q (rfl | hq)
   · exact Nat.le_refl _
   · cases hq
 clear h4 b2
 dsimp only [allR, mapR2, eqN, ltN]
 rintro m v least w10 ⟨⟨j, rv, vs, hj, g10, h10, hq10, o10, i10, e10, hle, hsl⟩, hm⟩
 have dl10 := dl.grow g10
 have hvl : vs.length = j := by
  have := congrArg List.length e10
  simp at this; omega
 have hTj := hT (98 + (j : Int)) (by omega)
 by_cases hjl : j < rs.length
 · have hlo := hrs.lo j hjl
   have hbl := hrs.len j hjl
   have hCj : rdC (cont S) (98 + (j : Int)) = packR (F + (j : Int)) rs[j].1 0 1 rs[j].2 := by
    rw [hTj, hrs.at_ j hjl]
    exact secB_fullJ (packR_len (by omega))
   refine scan_okR h10 dl10 hF ho hN (by omega) ⟨hle j hjl (Nat.le_refl _), hlo.2⟩ ⟨hlo.1, by omega⟩ hbl hCj fun v13 w12 g12 r13 n13 => ⟨_, _, _, _, rfl, cond_f rfl (cond_f rfl ?_)⟩
   have h12 := h10.grow g12
   have hin := h10.isIn
   refine keep_cR h12 r13 hbl (by omega) (fun q hq hf => by have := hin q hf; have := n13 q hq; omega) fun rv' w20 st20 h20 => ⟨rfl, ?_⟩
   have r20 : RdB w20 v13 rs[j].2 := Rd.stepS r13 st20 (fun _ q hq hf => by have := hin q hf; have := n13 q hq; omega)
   refine slices_Clone_c r20 (by omega) fun v21 w22 g22 o22 => slices_Clip_c o22.rd fun v23 r23 e23 => oneK_of (Rd.isOne r23) (nm fun w25 e25 => ?_)
   have i23 : RdI w22 v23 rs[j].2 := (RdI.own (dl10.gi.mono (by have := g12.size; have := st20.size; omega)) o22).same r23 e23
   obtain ⟨b25, g25, s25⟩ := alE e25
   have rN : Rd w25 (.slice (some ⟨w22.heap.size, 0, none⟩) 1 1) [v23] := ⟨some ⟨w22.heap.size, 0, none⟩, 1, rfl, Nat.le_refl _, by simp [maxLen], (fun e => by cases e), fun j u hj => ⟨_, rfl, by rw [b25.cell]; simpa using hj⟩⟩
   have nbF : NoT tB w12 (FRg w1.heap.size rv) := h12.noT (by decide) (by decide)
   have notF : ∀ q, v.ownBlock = some q → ¬ FRg w1.heap.size rv q := fun q hq hf => by
    obtain ⟨cs, fr, e⟩ := own_blk (o10.grow g12) hq
    exact nbF q hf _ _ e
   have o20 : Own w20 w1.heap.size tB v (vs.map (·.1)) := (o10.grow g12).stepS st20 notF
   have o25 := (o20.grow g22).grow g25
   obtain ⟨v26, w27, hrun, o27, n27⟩ := app_own tyBB o25 rN (by
    intro u hu
    simp only [List.mem_singleton] at hu
    subst hu
    obtain ⟨a19, c19, hv19, _⟩ := r23
    rw [hv19]; rfl) (by simp only [List.length_map, List.length_cons, List.length_nil]; omega) (by have := g10.size; have := g12.size; have := st20.size; have := g22.size; omega)
   refine ⟨v26, w27, hrun, ?_⟩
   have gA : Grow w1 w20 := (g10.then g12).trans (st20.to_below (g10.then g12).size hq10)
   have gB : Grow w1 w25 := gA.then (g22.then g25)
   have gC : Grow w1 w27 := gB.trans (n27.below gB.size (fun q hq => (Own.blk o25) q hq))
   have st27 : Step (fun q => v.ownBlock = some q) w25 w27 (fun q => v.ownBlock = some q ∨ v26.ownBlock = some q) := Step.of_own n27 (fun q hq => hq)
   have h25 := (h20.grow g22).grow g25
   have h27 := h25.stepS st27 (fun q hf hq => by
    obtain ⟨cs, fr, e⟩ := own_blk o25 hq
    exact h25.noT (t := tB) (by decide) (by decide) q hf _ _ e)
   have nbb : NoT tb w12 (FRg w1.heap.size rv) := h12.noT (by decide) (by decide)
   have nbv : NoT tb w25 (fun q => v.ownBlock = some q) := fun q hq cs fr e => by
    obtain ⟨cs', fr', e'⟩ := own_blk o25 hq
    rw [e'] at e
    injection e with e; injection e with _ e _
    exact absurd e (by decide)
   refine ⟨⟨j + 1, rv', vs ++ [(v23, rs[j].2)], by omega, gC, h27, fun q hq => ?_, by simpa using o27, fun x hx => ?_, ?_, fun i hi hji => hrs.inc j i hjl hi (by omega), ?_⟩, ?_⟩
   · rcases st20.fp q hq with e | e
     · exact hq10 q e
     · have := (g10.then g12).size; omega
   · rcases List.mem_append.1 hx with hx | hx
     · exact (((((i10 x hx).grow g12).step st20 nbb).grow g22).grow g25).step st27 nbv
     · rw [List.mem_singleton.1 hx]
       exact (i23.grow g25).step st27 nbv
   · rw [List.map_append, e10, List.take_add_one, List.getElem?_eq_getElem (by simpa using hjl)]
     simp
   · rw [o27.rd.len]; simp; omega
   · rw [o27.rd.len]; simp; omega
 · have hje : j = rs.length := by omega
   subst hje
   have hCz : rdC (cont S) (98 + (rs.length : Int)) = zs := by
    rw [hTj, hrs.end_ rs.length (Nat.le_refl _) (by omega)]
    simp [secB, zs]
   refine scan_endR h10 dl10 ho hN (by omega) hCz fun w12 g12 => ⟨_, _, _, _, rfl, cond_f rfl (cond_t rfl ?_)⟩
   refine clipBB (o10.grow g12).rd fun v' r' e' => c _ rv v' w12 (g10.then g12) (Nat.le_refl _) (h10.grow g12) hq10 ⟨vs, r', fun x hx => (i10 x hx).grow g12, ?_, (IsT.own (o10.grow g12)).same e'⟩ (fun q hq => (Own.blk o10) q (e' ▸ hq))
   rw [e10, List.take_of_length_le (by simp)]
end
end
section
open Go Go.CW Go.RowKit Go.Crc
variable {w w' : World}
abbrev tHd : TypeId := 215
abbrev tSto : TypeId := 222
abbrev tEn : TypeId := 108
abbrev tEns : TypeId := 220
abbrev rHd (h : Hdr) : Array Value := #[.int .u64 h.ep, .int .u32 h.life, .int .i64 h.wh, .int .u64 h.base, .int .i64 h.size, .int .u64 h.fst, .int .i64 h.place]
theorem hbytes_c {h : Hdr} (ok : HdOk h) {R : KV} (k : ∀ v' w', Grow w w' → RdB w' v' (hdB h) → NewV w v' → R v' w') : CW.Spec Tryz.prog 114 #[.agg (rHd h)] w R := by
 apply q116W
 obtain ⟨k1, k2, k3, k4, k5, k6, k7⟩ := ok
 refine nm fun w0 e0 => ?_
 obtain ⟨b0, g0, s0⟩ := alE e0
 refine nm fun w1 e1 => ?_
 have b1 := b0.grow (drE e1)
 refine ⟨_, b1.cell 0, _, b1.cell 1, _, b1.cell 2, nm fun w5 e5 => bin_Put_w (bs := []) (Rd.nil w5) (by simp) (by omega) fun v6 w7 g7 wr7 f7 n7 => ?_⟩
 have gA := (drE e5).then g7
 have b7 := b0.grow gA
 have r7 : RdB w7 v6 (putL h.ep 8) := wr7.1
 refine ⟨⟨_, b7.cell 1, rfl⟩, ⟨_, b7.cell 2, rfl⟩, ?_⟩
 rw [w64_id (n := h.life) (by omega) (by omega)]
 refine bin_Put_w r7 (by simp [putL_length]) (by omega) fun v10 w11 g11 wr11 f11 n11 => ?_
 have b11 := b7.grow g11
 have r11 : RdB w11 v10 (putL h.ep 8 ++ putL h.life 4) := wr11.1
 refine ⟨⟨_, b11.cell 2, rfl⟩, ?_⟩
 rw [w64_id (n := h.wh) (by omega) (by omega)]
 refine bin_Put_w r11 (by simp [putL_length]) (by omega) fun v13 w14 g14 wr14 f14 n14 => nm fun w15 e15 => ?_
 have b14 := b11.grow g14
 have b15 := b14.grow (drE e15)
 have r14 : RdB w14 v13 (putL h.ep 8 ++ putL h.life 4 ++ putL h.wh 1) := wr14.1
 refine ⟨_, b15.cell 3, _, b15.cell 4, nm fun w18 e18 => bin_Put_w (r14.grow (drE e18)) (by simp [putL_length]) (by omega) fun v19 w20 g20 wr20 f20 n20 => ?_⟩
 have gB := (drE e18).then g20
 have b20 := b14.grow gB
 have r20 : RdB w20 v19 (putL h.ep 8 ++ putL h.life 4 ++ putL h.wh 1 ++ putL h.base 8) := wr20.1
 refine ⟨⟨_, b20.cell 4, rfl⟩, ?_⟩
 rw [w64_id (n := h.size) (by omega) (by omega)]
 refine bin_Put_w r20 (by simp [putL_length]) (by omega) fun v22 w23 g23 wr23 f23 n23 => nm fun w24 e24 => ?_
 have b23 := b20.grow g23
 have b24 := b23.grow (drE e24)
 have r23 : RdB w23 v22 (putL h.ep 8 ++ putL h.life 4 ++ putL h.wh 1 ++ putL h.base 8 ++ putL h.size 4) := wr23.1
 refine ⟨_, b24.cell 5, _, b24.cell 6, nm fun w27 e27 => bin_Put_w (r23.grow (drE e27)) (by simp [putL_length]) (by omega) fun v28 w29 g29 wr29 f29 n29 => ?_⟩
 have gC := (drE e27).then g29
 have b29 := b23.grow gC
 have r29 : RdB w29 v28 (putL h.ep 8 ++ putL h.life 4 ++ putL h.wh 1 ++ putL h.base 8 ++ putL h.size 4 ++ putL h.fst 8) := wr29.1
 refine ⟨⟨_, b29.cell 6, rfl⟩, ?_⟩
 rw [w64_id (n := h.place) (by omega) (by omega)]
 refine bin_Put_w r29 (by simp [putL_length]) (by omega) fun v31 w32 g32 wr32 f32 n32 => ?_
 have gg := ((((g0.then gA).then (g11.then g14)).then (gB.then g23)).then gC)
 exact k v31 w32 (gg.then g32) wr32.1 (n32.of gg.size)
structure PS (w w' : World) (b0 bh ba : Nat) (v : Value) (bs : List UInt8) (zz : Array Value) (at_ : Int) : Prop where
 g : Grow w w'
 o : BK w' b0 #[v] tB
 h : BK w' bh zz tHd
 a : BK w' ba #[.int .i64 at_] tIn
 r : RdB w' v bs
 n0 : w.heap.size ≤ b0
 nh : w.heap.size ≤ bh
 na : w.heap.size ≤ ba
 ne : ba ≠ b0 ∧ ba ≠ bh
 rn : v.ownBlock ≠ some ba
theorem get_cS {w0 : World} {b0 bh ba : Nat} {v : Value} {bs : List UInt8} {zz : Array Value} {a n : Int} (h : PS w0 w b0 bh ba v bs zz a) (ha : 0 ≤ a ∧ a ≤ 100) (hn : 1 ≤ n ∧ n ≤ 8) {R : KV}
 (c : ∀ w', PS w0 w' b0 bh ba v bs zz (a + n) → R (.int .u64 (getV bs a n)) w') : CW.Spec Tryz.prog 195 #[.int .i64 n, .pointer (some ⟨b0, 0, none⟩), .pointer (some ⟨ba, 0, none⟩)] w R := by
 apply q118W
 have fi : ∀ x : Int, 0 ≤ x → x ≤ 1000 → Fits .i64 x := fun x h0 h1 => ⟨Int.le_trans (by decide) h0, Int.le_trans h1 (by decide)⟩
 refine withAddr_some ⟨v, h.o.at 0, withAddr_some ⟨_, h.a.at 0, bin_Get_c h.r (fi a (by omega) (by omega)) (fi n (by omega) (by omega)) ⟨_, _, rfl, withAddr_some ⟨_, h.a.at 0, withAddr_some ⟨h.a.st1 (by show 0 < 1; omega), nm fun w11 e11 => ?_⟩⟩⟩⟩⟩
 rw [wi64_id (n := a + n) (by omega) (by omega)] at e11
 have e11' : w11 = World.setCell w (Addr.add ⟨ba, 0, none⟩ 0) (.int .i64 (a + n)) := by rw [ad0]; exact e11
 obtain ⟨b11, t11⟩ := setE h.a e11'
 exact c w11 ⟨Below.turn h.g t11 h.na, h.o.turn t11 h.ne.1.symm, h.h.turn t11 h.ne.2.symm, b11, Rd.turn h.r t11 h.rn, h.n0, h.nh, h.na, h.ne, h.rn⟩
theorem parse_c {v : Value} {h : Hdr} (ok : HdOk h) (hr : RdB w v (hdB h)) {R : KV} (k : ∀ w', Grow w w' → R (.tuple #[.agg (rHd h), .bool true]) w') : CW.Spec Tryz.prog 112 #[v] w R := by
 apply q117W
 obtain ⟨q1, q2, q3, q4, q5, q6, q7⟩ := hdB_get ok
 obtain ⟨k1, k2, k3, k4, k5, k6, k7⟩ := ok
 have hc : Value.cells v = #[v] := by obtain ⟨a, cap, rfl, _⟩ := hr; rfl
 unfold q117F
 rw [hc]
 refine nm fun w0 e0 => nm fun w1 e1 => ?_
 obtain ⟨b0, g0, s0⟩ := alE e0
 obtain ⟨b1, g1, s1⟩ := alE e1
 have b01 := b0.grow g1
 refine ⟨v, b01.at 0, _, RdB.len hr, cond_f (by rw [hdB_len]; rfl) (nm fun w12 e12 => ?_)⟩
 obtain ⟨b12, g12, s12⟩ := alE e12
 refine ⟨b12.st1 (by show 0 < 1; omega), nm fun w13 e13 => ?_⟩
 have e13' : w13 = World.setCell w12 (Addr.add ⟨w1.heap.size, 0, none⟩ 0) (.int .i64 (0 : Int)) := by rw [ad0]; exact e13
 obtain ⟨b13, t13⟩ := setE b12 e13'
 have hlt := Rd.lt hr (by intro e; have := congrArg List.length e; simp [hdB_len] at this)
 have z0 := g0.size
 have z1 := g1.size
 have P0 : PS w w13 w.heap.size w0.heap.size w1.heap.size v (hdB h) (rHd ⟨0, 0, 0, 0, 0, 0, 0⟩) 0 := by
  refine ⟨Below.turn ((g0.then g1).then g12) t13 (by omega), (b01.grow g12).turn t13 (by omega), (b1.grow g12).turn t13 (by omega), b13, Rd.turn (hr.grow ((g0.then g1).then g12)) t13 (fun e => by have := hlt _ e; omega), Nat.le_refl _, by omega, by omega, ⟨by omega, by omega⟩, fun e => by have := hlt _ e; omega⟩
 refine get_cS P0 (by omega) (by omega) fun w15 P1 => ⟨_, rfl, get_cS P1 (by omega) (by omega) fun w18 P2 => ⟨_, rfl, get_cS P2 (by omega) (by omega) fun w21 P3 => ⟨_, rfl, get_cS P3 (by omega) (by omega) fun w24 P4 => ⟨_, rfl, get_cS P4 (by omega) (by omega) fun w27 P5 => ⟨_, rfl, get_cS P5 (by omega) (by omega) fun w30 P6 => ⟨_, rfl, get_cS P6 (by omega) (by omega) fun w33 P7 => ⟨_, rfl, nm fun w35 e35 => ?_⟩⟩⟩⟩⟩⟩⟩
 obtain ⟨b35, g35, s35⟩ := alE e35
 have a1 : (0 : Int) + 8 = 8 := by omega
 have a2 : (8 : Int) + 4 = 12 := by omega
 have a3 : (12 : Int) + 1 = 13 := by omega
 have a4 : (13 : Int) + 8 = 21 := by omega
 have a5 : (21 : Int) + 4 = 25 := by omega
 have a6 : (25 : Int) + 8 = 33 := by omega
 rw [a1, a2, a3, a4, a5, a6, q1, q2, q3, q4, q5, q6, q7, w32_id (n := h.life) (by omega) (by omega), wi64_id (n := h.wh) (by omega) (by omega), wi64_id (n := h.size) (by omega) (by omega), wi64_id (n := h.place) (by omega) (by omega)]
 refine ⟨b35.row rfl rfl, nm fun w36 e36 => ?_⟩
 obtain ⟨b36, t36⟩ := rowE b35 e36 rfl
 have g36 : Grow w33 w36 := Below.turn g35 t36 (Nat.le_refl _)
 have bh36 := P7.h.grow g36
 have z33 := P7.g.size
 have hbh := P7.h.lt
 refine JoinP.bool (fun b w' => b = true ∧ BK w' w0.heap.size (rHd h) tHd ∧ Grow w w') (fun j hj => nm fun w47 e47 => ?_) ?_
 · have b47 := b36.grow (drE e47)
   refine ⟨_, _, _, _, _, _, _, b47.ld rfl, _, b47.cell 2, cond_t (by simp; omega) ⟨_, b47.cell 4, nm fun w57 e57 => ?_⟩⟩
   have b57 := b36.grow (drE e57)
   have bh57 := bh36.grow (drE e57)
   obtain ⟨bR, tR⟩ := rowE (w' := stRow w57 ⟨w0.heap.size, 0, none⟩ (rHd h)) bh57 rfl rfl
   refine ⟨bh57.row rfl rfl, ⟨_, (b57.turn tR (by omega)).cell 4, rfl⟩, nm fun w59 e59 => nm fun w60 e60 => hj _ _ ⟨by simp; omega, ?_, ?_⟩⟩
   · rw [e60]; exact bR
   · rw [e60]; exact Below.turn ((P7.g.then g36).then (drE e57)) tR (by omega)
 · rintro b w38 ⟨rfl, bh, g⟩
   exact ⟨_, _, _, _, _, _, _, bh.ld rfl, k w38 g⟩
end
section
open Go Go.CW Go.RowKit Go.Crc
variable {w w' : World} {d mb n : Nat} {D : Dk} {S : SF}
section
variable [Av]
end
theorem rowAtE {w w' : World} {b o : Nat} {cs ds : Array Value} {t : TypeId} (h : BK w b cs t) (e : w' = stRow w (Addr.add ⟨b, 0, none⟩ o) ds) (hn : o + ds.size ≤ cs.size) : BK w' b (cs.toList.take o ++ ds.toList ++ cs.toList.drop (o + ds.toList.length)).toArray t ∧ Turn b w w' := by
 subst e; rw [ad0]; exact ⟨setCells_set ds.toList o w cs h (by simpa using hn), Turn.row w ⟨b, o, none⟩ ds⟩
section
variable [Av]
end
theorem rowAtS {w : World} {b o : Nat} {cs ds : Array Value} {t : TypeId} (h : BK w b cs t) (hn : o + ds.size ≤ cs.size) (h1 : oneL ds.toList = true) : StRow w (Addr.add ⟨b, 0, none⟩ o) ds :=
 ⟨h1, fun i hi => by rw [add_add, ad0]; exact h.st1 (by omega)⟩
section
variable [Av]
abbrev rSto (d t : Nat) (rp : Option Addr) (h : Hdr) (snap lv : Value) : Array Value := #[.pointer (some ⟨d, 0, none⟩), .pointer (some ⟨t, 0, none⟩), .pointer rp, .int .u64 h.ep, .int .u32 h.life, .int .i64 h.wh, .int .u64 h.base, .int .i64 h.size, .int .u64 h.fst, .int .i64 h.place, snap, lv]
variable {s t : Nat} {rp : Option Addr} {h h' : Hdr} {snap lv tv : Value} {m : Int}
def padP (bs : List UInt8) : List UInt8 := bs ++ List.replicate 511 0
end
section
variable {s t : Nat} {rp : Option Addr} {h h' : Hdr} {snap lv tv : Value} {m : Int}
theorem padP_part {bs : List UInt8} {j : Nat} (hj : 512 * j < bs.length) : (padP bs).take (512 * (j + 1)) = (padP bs).take (512 * j) ++ secB ((bs.drop (512 * j)).take 512) := by
 have e : 512 * (j + 1) = 512 * j + 512 := by omega
 rw [e, List.take_add]
 congr 1
 unfold padP secB
 rw [List.drop_append_of_le_length (by omega), List.take_append]
 congr 1
 rw [List.take_replicate, List.length_drop, List.length_take, List.length_drop]
 congr 1
 omega
end
section
variable [Av]
variable {s t : Nat} {rp : Option Addr} {h h' : Hdr} {snap lv tv : Value} {m : Int}
theorem read_cJ (o : BK w s (rSto d t rp h snap lv) tSto) (dl : DL w d mb n D S) (ho : D.off = false) (hN : 354 ≤ D.n ∧ D.n < 4294967296) {wh : Int} (hw : 0 ≤ wh ∧ wh ≤ 1) {bs : List UInt8} (hb : bs.length ≤ 24576)
 (hS : ∀ j : Nat, 512 * j < bs.length → rdC (cont S) (2 + wh * 48 + (j : Int)) = secB ((bs.drop (512 * j)).take 512)) {R : KV} (k : ∀ v w', Grow w w' → RdI w' v bs → NewV w v → R (.tuple #[v, .int .i64 (0 : Int)]) w') :
 CW.Spec Tryz.prog 115 #[.pointer (some ⟨s, 0, none⟩), .int .i64 wh, .int .i64 ((bs.length : Nat) : Int)] w R := by
 apply q113W
 have hpl : (padP bs).length = bs.length + 511 := by simp [padP]
 refine ⟨fun (v : Value) (i : Int) (ww : World) => ∃ j : Nat, i = (j : Int) ∧ 512 * j < bs.length + 512 ∧ Grow w ww ∧ OwnB ww w.heap.size tb v ((padP bs).take (512 * j)), fun (_ : Value) (i : Int) (_ : World) => (100 - i).toNat, ⟨0, rfl, by omega, Grow.refl w, Own.nil w w.heap.size tb⟩, ?_⟩
 dsimp only [allR, mapR2, eqN, ltN]
 rintro mm v i ww ⟨⟨j, rfl, hj, g, ow⟩, hm⟩
 have hl : ((padP bs).take (512 * j)).length = 512 * j := by rw [List.length_take, hpl]; omega
 refine ⟨_, RdB.len ow.rd, cond_intro (fun hc => ?_) (fun hc => ?_)⟩
 · have hge : bs.length ≤ 512 * j := by
    have : ((((padP bs).take (512 * j)).length : Nat) : Int) ≥ (bs.length : Int) := by simpa using hc
    rw [hl] at this; omega
   obtain ⟨v5, hs5, hr5, e5⟩ := Rd.sub ow.rd (lo := none) (hi := some (.int .i64 ((bs.length : Nat) : Int))) (l := 0) (r := bs.length) (fun cap hc => by
    rw [List.length_map, hl] at hc ⊢
    rw [bounds_ni (by omega) (by omega)]
    congr 2) (by omega) (by rw [List.length_map, hl]; omega)
   have r5 : RdB ww v5 bs := by
    have e : ((((padP bs).take (512 * j)).map b8).drop 0).take (bs.length - 0) = bs.map b8 := by
     rw [List.drop_zero, Nat.sub_zero, ← List.map_take, List.take_take, Nat.min_eq_left hge]
     unfold padP
     rw [List.take_append_of_le_length (by omega), List.take_length]
    rw [e] at hr5; exact hr5
   refine ⟨v5, hs5, slices_Clip_c r5 fun v6 r6 e6 => k v6 ww g ((RdI.own dl.gi ow).same r6 (e6.trans e5)) (fun q hq => ?_)⟩
   rw [e6, e5] at hq
   exact (Own.blk ow) q hq
 · have hlt : 512 * j < bs.length := by
    have : ¬ ((((padP bs).take (512 * j)).length : Nat) : Int) ≥ (bs.length : Int) := by simpa using hc
    rw [hl] at this; omega
   have o1 := o.grow g
   have c1 : IntKind.wrap .i64 (wh * 48) = wh * 48 := wi64_id (by omega) (by omega)
   have c2 : IntKind.wrap .i64 (2 + wh * 48) = 2 + wh * 48 := wi64_id (by omega) (by omega)
   have c3 : IntKind.wrap .i64 (2 + wh * 48 + (j : Int)) = 2 + wh * 48 + (j : Int) := wi64_id (by omega) (by omega)
   rw [c1, c2, c3]
   refine withAddr_some ⟨_, o1.cell 0, Read_l (dl.grow g) ho (by omega) (by omega) (by omega) fun v12 w11 g11 r12 n12 => ⟨_, _, rfl, cond_f rfl ?_⟩⟩
   rw [hS j hlt] at r12
   obtain ⟨v14, w15, hrun, o15, n15⟩ := app_own tyB (Own.grow ow g11) r12 one_b8 (by simp only [List.length_map]; rw [hl]; simp [secB]; omega) (by have := g.size; have := g11.size; omega)
   refine ⟨v14, w15, hrun, ?_⟩
   rw [wi64_id (n := (j : Int) + 1) (by omega) (by omega)]
   have gA := g.then g11
   refine ⟨⟨j + 1, by omega, by omega, gA.trans (n15.below gA.size (fun q hq => (Own.blk ow) q hq)), ?_⟩, by omega⟩
   rw [padP_part hlt]
   unfold OwnB
   rw [List.map_append]
   exact o15
theorem sto_not (o : BK w s (rSto d t rp h snap lv) tSto) (dl : DL w d mb n D S) {bs : List UInt8} (tw : TwAt w t d 0 m tv bs) : ¬ FT t d mb S s := by
 rintro (e | e)
 · exact bk_neD o tw.o (by decide) e
 · exact dl.kind.not o (by decide) (by decide) (by decide) e
theorem put_cJ (o : BK w s (rSto d t rp h snap lv) tSto) (dl : DL w d mb n D S) {bs0 : List UInt8} (tw : TwAt w t d 0 m tv bs0) (ho : D.off = false) (hn : n < 999000) (ha : D.armed = 0) (hpl : D.ps.length ≤ 1000000) (hN : 354 ≤ D.n ∧ D.n < 4294967296) (hm : 0 ≤ m ∧ m < 1000000000) (ok : HdOk h') {R : KV}
 (k : ∀ S' tv' w', Step (fun q => q = s ∨ FT t d mb S q) w w' (fun q => q = s ∨ FT t d mb S' q) → DL w' d mb (n + 1) ⟨D.n, false, 0, D.ps⟩ S' → cont S' = flC (wrC (cont S) (0 + (m + 1) % 2) (packT (m + 1) (hdB h'))) → TwAt w' t d 0 (m + 1) tv' (hdB h') → BK w' s (rSto d t rp h' snap lv) tSto → R (.int .i64 (0 : Int)) w') :
 CW.Spec Tryz.prog 116 #[.pointer (some ⟨s, 0, none⟩), .agg (rHd h')] w R := by
 apply q112W
 refine nm fun w0 e0 => nm fun w1 e1 => ?_
 obtain ⟨b0, g0, s0⟩ := alE e0
 have g1 := drE e1
 have b1 := b0.grow g1
 refine withAddr_some ⟨_, (o.grow (g0.then g1)).cell 1, _, _, _, _, _, _, _, b1.ld rfl, nm fun w11 e11 => hbytes_c ok fun v12 w13 g13 r12 n12 => ?_⟩
 have gA := g0.then ((drE e11).then g13)
 have o13 := o.grow gA
 have b13 := b0.grow ((drE e11).then g13)
 have dl13 := dl.grow gA
 have tw13 := tw.grow gA
 refine ⟨⟨_, o13.cell 1, rfl⟩, ?_⟩
 have hlt := dl.kind.lt
 have n12' : ∀ q, v12.ownBlock = some q → w.heap.size ≤ q := fun q hq => by have := n12 q hq; have := (g0.then (drE e11)).size; omega
 refine Put_l dl13 tw13 ho (by omega) (by omega) hpl (by omega) (by omega) (by omega) hm.1 (by omega) r12 (fun q hq hf => by have := hlt q hf; have := n12' q hq; omega) (by rw [hdB_len]; omega) (fun S2 tv2 w16 st16 dl16 c16 tw16 => ⟨_, rfl, cond_f rfl ?_⟩) (fun _ _ e h1 => absurd ha h1)
 have hns := sto_not o13 dl13 tw13
 have hnb : ¬ FT t d mb S w.heap.size := by
  rintro (e | e)
  · have := tw.o.lt; omega
  · have := hlt _ e; omega
 have b16 := b13.stepS st16 hnb
 have o16 := o13.stepS st16 hns
 refine ⟨_, _, _, _, _, _, _, b16.ld rfl, withAddr_some ⟨rowAtS o16 (by show 3 + 7 ≤ 12; omega) rfl, nm fun w26 e26 => ?_⟩⟩
 obtain ⟨b26, t26⟩ := rowAtE o16 e26 (by show 3 + 7 ≤ 12; omega)
 have hda : decA (decA D.armed) = 0 := by rw [ha]; rfl
 rw [hda] at dl16
 have hns2 : ¬ FT t d mb S2 s := fun hf => by
  rcases st16.fp s hf with e | e
  · exact hns e
  · have := o13.lt; omega
 have nT : ∀ ty, ty ≠ tSto → NoT ty w16 (fun q => q = s) := fun ty hne => noT_one o16 hne
 have st26 := t26.step (S := fun q => q = s) rfl
 have dl26 := dl16.stable st26 (fun q hq e => hns2 (.inr (e ▸ hq))) (nT _ (by decide)) (nT _ (by decide))
 have tw26 := tw16.step st26 (fun e => hns2 (.inl e.symm)) (nT _ (by decide))
 refine k S2 tv2 w26 ?_ dl26 c16 tw26 b26
 have z := gA.size
 have z16 := st16.size
 have z26 := t26.size
 refine ⟨t26.os.trans (st16.os.trans gA.os), t26.tape.trans (st16.tape.trans gA.tape), t26.output.trans (st16.output.trans gA.output), by omega, fun q hq hs => ?_, fun q hq => ?_⟩
 · exact (t26.block q (fun e => hs (.inl e))).trans ((st16.block q (by omega) (fun e => hs (.inr e))).trans (gA.block q hq))
 · rcases hq with e | e
   · exact .inl (.inl e)
   · rcases st16.fp q e with e' | e'
     · exact .inl (.inr e')
     · exact .inr (by omega)
end
end
section
open Go Go.CW Go.RowKit Go.Crc
variable {w w' : World} {d mb n : Nat} {D : Dk} {S : SF} {s t r : Nat} {rp : Option Addr} {h h' : Hdr} {snap lv tv rv : Value} {m : Int} {es : List (List UInt8)}
section
variable [Av]
structure En where
 i : Int
 e : Int
 d : Value
 one : isOne d = true
def EEn : Enc En := ⟨3, fun x => [.int .u64 x.i, .int .u64 x.e, x.d], fun _ => rfl, by omega, fun x => by show (true && (true && (isOne x.d && true))) = true; rw [x.one]; rfl⟩
end
theorem tyEn : SlTyN Tryz.prog tEns tEn EEn.s 40 := SlTyN.of (by kernel_rfl)
section
variable [Av]
structure EnAt (w : World) (base : Int) (lv : Value) (es : List (List UInt8)) : Prop where
 ex : ∃ L : List En, OwnR EEn w 0 tEn lv L ∧ L.length = es.length ∧ ∀ (i : Nat) (h : i < L.length) (h' : i < es.length), L[i].i = base + (i : Int) + 1 ∧ L[i].e = 0 ∧ RdI w L[i].d es[i]
theorem EnAt.len {base : Int} (h : EnAt w base lv es) : sliceLen lv = some es.length := by
 obtain ⟨L, h1, h2, _⟩ := h.ex
 rw [← h2]; exact h1.rd.len
theorem EnAt.grow {base : Int} (h : EnAt w base lv es) (g : Grow w w') : EnAt w' base lv es := by
 obtain ⟨L, h1, h2, h3⟩ := h.ex
 exact ⟨L, h1.grow g, h2, fun i hi hi' => ⟨(h3 i hi hi').1, (h3 i hi hi').2.1, (h3 i hi hi').2.2.grow g⟩⟩
theorem EnAt.stepG {base : Int} {T T' : Fp} (h : EnAt w base lv es) (st : Step T w w' T') (hl : ∀ q, lv.ownBlock = some q → ¬ T q) (hb : NoG w T) : EnAt w' base lv es := by
 obtain ⟨L, h1, h2, h3⟩ := h.ex
 exact ⟨L, OwnR.stepJ h1 st hl, h2, fun i hi hi' => ⟨(h3 i hi hi').1, (h3 i hi hi').2.1, (h3 i hi hi').2.2.stepG st hb⟩⟩
theorem EnAt.type {base : Int} (h : EnAt w base lv es) {q : Nat} (hq : lv.ownBlock = some q) : ∃ cs fr, w.heap[q]? = some (.cells cs tEn fr) := by
 obtain ⟨L, h1, _⟩ := h.ex
 exact ownR_typeJ h1 hq
theorem EnAt.nil (w : World) (base : Int) : EnAt w base nilS [] := ⟨[], OwnR.nil _ _ _, rfl, fun i hi => by simp at hi⟩
theorem EnAt.one {base : Int} (h : EnAt w base lv es) : isOne lv = true := by
 obtain ⟨L, h1, _⟩ := h.ex
 rcases h1.2 with ⟨rfl, _⟩ | ⟨g', cap, cur, rfl, _⟩ <;> rfl
theorem NoT.noG {T : Fp} (h : NoT tb w T) : NoG w T := fun q hq cs fr e => absurd e (h q hq cs fr)
theorem EnAt.push {base : Int} (h : EnAt w base lv es) (hl : es.length ≤ 1000) {dv : Value} {bs : List UInt8} (hd : RdI w dv bs) {w1 : World} (one : isOne dv = true) (e1 : w1 = World.alloc w (.cells #[.int .u64 (base + (es.length : Int) + 1), .int .u64 (0 : Int), dv] tEn)) :
 ∃ lv' w2, Sem.run Tryz.prog (Builtin.append_ #[tEns, tEns] tEns #[lv, .slice (some ⟨w.heap.size, 0, none⟩) 1 1]) w1 = .ok lv' w2 ∧ EnAt w2 base lv' (es ++ [bs]) ∧ OwnNext w1 lv w2 lv' := by
 obtain ⟨L, h1, h2, h3⟩ := h.ex
 obtain ⟨b1, g1, s1⟩ := alE e1
 have lit : OwnR EEn w1 w.heap.size tEn (.slice (some ⟨w.heap.size, 0, none⟩) 1 1) [⟨base + (es.length : Int) + 1, 0, dv, one⟩] := by
  have := OwnR.lit (E := EEn) w (Nat.le_refl _) tEn [⟨base + (es.length : Int) + 1, 0, dv, one⟩] 1 rfl (by simp [maxLen])
  rw [e1]; exact this
 obtain ⟨v2, w2, k2, o2, n2⟩ := app_ownR tyEn (h1.grow g1) lit.rd (by simp; omega) (Nat.zero_le _)
 have st2 : Step (fun q => lv.ownBlock = some q) w1 w2 (fun q => lv.ownBlock = some q ∨ v2.ownBlock = some q) := Step.of_own n2 (fun q hq => hq)
 have nb : NoG w1 (fun q => lv.ownBlock = some q) := fun q hq cs fr e => by
  obtain ⟨cs', fr', e'⟩ := ownR_typeJ (h1.grow g1) hq
  rw [e'] at e
  injection e with e; injection e with _ e _
  exact absurd e (by decide)
 refine ⟨v2, w2, k2, ⟨_, o2, by simp [h2], fun i hi hi' => ?_⟩, n2⟩
 by_cases hlt : i < L.length
 · rw [List.getElem_append_left hlt, List.getElem_append_left (by omega)]
   obtain ⟨a1, a2, a3⟩ := h3 i hlt (by omega)
   exact ⟨a1, a2, (a3.grow g1).stepG st2 nb⟩
 · have : i = L.length := by simp at hi; omega
   subst this
   rw [List.getElem_append_right (Nat.le_refl _), List.getElem_append_right (by omega)]
   simp only [Nat.sub_self, List.getElem_cons_zero, h2]
   exact ⟨trivial, trivial, (hd.grow g1).stepG st2 nb⟩
def entB (i : Int) (dt : List UInt8) : List UInt8 := putL i 8 ++ putL 0 8 ++ dt
end
theorem entB_len (i : Int) (dt : List UInt8) : (entB i dt).length = 16 + dt.length := by simp [entB, putL_length]; omega
section
variable [Av]
end
theorem entB_get {i : Int} {dt : List UInt8} (h : 0 ≤ i ∧ i < 18446744073709551616) : getV (entB i dt) 0 8 = i ∧ getV (entB i dt) 8 8 = 0 ∧ getB (entB i dt).length 8 8 = true ∧ (entB i dt).drop 16 = dt := by
 refine ⟨?_, ?_, ?_, ?_⟩
 · have := getV_at (pre := []) (post := putL 0 8 ++ dt) (x := i) (n := 8) h.1 (by omega) (a := 0) rfl
   rw [Int.emod_eq_of_lt h.1 (by simpa using h.2)] at this
   simpa [entB, List.append_assoc] using this
 · have := getV_at (pre := putL i 8) (post := dt) (x := 0) (n := 8) (by omega) (by omega) (a := 8) (by simp [putL_length])
   simpa [entB, List.append_assoc] using this
 · rw [entB_len]
   simp only [getB, inW, Bool.and_eq_true, decide_eq_true_eq]
   omega
 · unfold entB
   rw [List.drop_left' (by simp [putL_length])]
section
variable [Av]
theorem Last_cS (o : BK w s (rSto d t rp h snap lv) tSto) (en : EnAt w h.base lv es) (hb : 0 ≤ h.base ∧ h.base < 1000000000) (hl : es.length ≤ 1000) {R : KV} (k : ∀ w', Grow w w' → R (.int .u64 (h.base + (es.length : Int))) w') : CW.Spec Tryz.prog 118 #[.pointer (some ⟨s, 0, none⟩)] w R := by
 apply q110W
 refine nm fun w0 e0 => ?_
 have o0 := o.grow (drE e0)
 refine withAddr_some ⟨_, by rw [add_add]; exact o0.cell 6, withAddr_some ⟨_, o0.cell 11, _, en.len, nm fun w6 e6 => ?_⟩⟩
 rw [w64_id (n := (es.length : Int)) (by omega) (by omega), w64_id (n := h.base + (es.length : Int)) (by omega) (by omega)]
 exact k w6 (drE e6)
theorem RowsI.at_ {v : Value} {bss : List (List UInt8)} (hr : RowsI w v bss) {j : Nat} (hj : j < bss.length) : ∃ a u, sliceAt v (j : Int) 1 = some a ∧ w.cell? a = some u ∧ RdI w u bss[j] := by
 obtain ⟨vs, h1, h2, h3, _⟩ := hr
 subst h3
 have hj' : j < vs.length := by simpa using hj
 obtain ⟨a, ha, hc⟩ := h1.at (i := (j : Int)) (u := (vs[j]).1) (by omega) (by simp [hj'])
 refine ⟨a, _, ha, hc, ?_⟩
 have := h2 vs[j] (List.getElem_mem hj')
 simpa using this
theorem RowsI.len {v : Value} {bss : List (List UInt8)} (hr : RowsI w v bss) : sliceLen v = some bss.length := by
 obtain ⟨vs, h1, h2, h3, _⟩ := hr
 rw [← h3, List.length_map, ← List.length_map (f := fun x : Value × List UInt8 => x.1)]
 exact h1.len
theorem RowsI.grow {v : Value} {bss : List (List UInt8)} (hr : RowsI w v bss) (g : Grow w w') : RowsI w' v bss := by
 obtain ⟨vs, h1, h2, h3, h4⟩ := hr
 exact ⟨vs, h1.grow g, fun x hx => (h2 x hx).grow g, h3, h4.grow g⟩
theorem RowsI.stepG {v : Value} {bss : List (List UInt8)} {T T' : Fp} (hr : RowsI w v bss) (st : Step T w w' T') (hb : NoT tB w T) (hg : NoG w T) : RowsI w' v bss := by
 obtain ⟨vs, h1, h2, h3, h4⟩ := hr
 exact ⟨vs, Rd.stepS h1 st (fun _ => h4.not hb), fun x hx => (h2 x hx).stepG st hg, h3, h4.step st hb⟩
theorem journal_cS (o : BK w s (rSto d t rp h snap lv) tSto) (dl : DL w d mb n D S) (ho : D.off = false) (hN : 354 ≤ D.n ∧ D.n < 4294967296) (ok : HdOk h) (hpl : h.place = 0) (hF : h.fst < 4611686018427387904) (hb : h.base < 1000000) {T : Int → Option (List UInt8)} {rs : List (Int × List UInt8)} (hrs : RJ T h.fst h.life rs) (hlen : rs.length ≤ 200)
 (hT : ∀ x : Int, 2 ≤ x → rdC (cont S) x = secB ((T x).getD [])) (hle : es.length = rs.length) (hE : ∀ (j : Nat) (h1 : j < rs.length) (h2 : j < es.length), rs[j].2 = entB (h.base + (j : Int) + 1) es[j]) {R : KV}
 (k : ∀ r rv lv' w', Step (fun q => q = s) w w' (fun q => q = s) → BK w' s (rSto d t (some ⟨r, 0, none⟩) h snap lv') tSto → RgAt w' r d h.fst h.life rv rs.length → (∀ q, FRg r rv q → w.heap.size ≤ q) → EnAt w' h.base lv' es → (∀ q, lv'.ownBlock = some q → w.heap.size ≤ q) → R (.int .i64 (0 : Int)) w') :
 CW.Spec Tryz.prog 117 #[.pointer (some ⟨s, 0, none⟩)] w R := by
 apply q111W
 obtain ⟨k1, k2, k3, k4, k5, k6, k7⟩ := ok
 refine nm fun w0 e0 => ?_
 have o0 := o.grow (drE e0)
 refine withAddr_some ⟨_, o0.cell 0, withAddr_some ⟨_, by rw [add_add]; exact o0.cell 8, withAddr_some ⟨_, by rw [add_add]; exact o0.cell 9, withAddr_some ⟨_, by rw [add_add]; exact o0.cell 4, nm fun w9 e9 => ?_⟩⟩⟩⟩
 have g9 := drE e9
 rw [hpl]
 refine Open_cR (dl.grow g9) ho hN ⟨k6.1, hF⟩ k2 hrs hlen hT fun r rv v13 w11 g11 hr h11 hq11 rows hv13 => ⟨_, _, _, rfl, cond_f rfl ?_⟩
 have gA := g9.then g11
 have z9 := g9.size
 have zA := gA.size
 have o11 := o.grow gA
 have hslt := o.lt
 refine withAddr_some ⟨st1_at o11 (by show 2 < 12; omega), nm fun w16 e16 => ?_⟩
 obtain ⟨b16, t16⟩ := setE o11 e16
 refine withAddr_some ⟨st1_at b16 (by show 11 < 12; omega), nm fun w18 e18 => ⟨_, rows.len, JoinP.go ?_⟩⟩
 obtain ⟨b18, t18⟩ := setE b16 e18
 have tt := t16.then t18
 have nT11 : ∀ ty, ty ≠ tSto → NoT ty w11 (fun q => q = s) := fun ty hne => noT_one o11 hne
 have st18 := tt.step (S := fun q => q = s) rfl
 have h18 := h11.stepS st18 (fun q hq e => by have := hq11 q hq; omega)
 have rows18 := rows.stepG st18 (nT11 _ (by decide)) (nT11 _ (by decide)).noG
 have md18 : Md (fun q => q = s) w.heap.size w w18 := ((Md.refl _ _ w).grow gA).turn tt (.inl rfl)
 have b18' : BK w18 s (rSto d t (some ⟨r, 0, none⟩) h snap nilS) tSto := b18
 have hrl : (rs.map (·.2)).length = rs.length := by simp
 refine ⟨fun (i : Int) (ww : World) => ∃ (j : Nat) (lv' : Value), i = (j : Int) ∧ j ≤ rs.length ∧ Md (fun q => q = s) w.heap.size w ww ∧ BK ww s (rSto d t (some ⟨r, 0, none⟩) h snap lv') tSto ∧ RgAt ww r d h.fst h.life rv rs.length ∧ RowsI ww v13 (rs.map (·.2)) ∧ EnAt ww h.base lv' (es.take j) ∧ (∀ q, lv'.ownBlock = some q → w.heap.size ≤ q),
  fun (i : Int) (_ : World) => ((rs.length : Int) - i).toNat, ⟨0, nilS, rfl, by omega, md18, b18', h18, rows18, by simpa using EnAt.nil w18 h.base, fun q hq => by cases hq⟩, ?_⟩
 clear md18 b18' h18 rows18 b18 b16 e18 e16
 dsimp only [allR, mapR2, eqN, ltN]
 rintro mm i ww ⟨⟨j, lv', rfl, hj, md, oo, hh, rw_, en, hnew⟩, hm⟩
 have hel : (es.take j).length = j := by simp; omega
 refine cond_intro (fun hc => ?_) (fun hc => ?_)
 · have hjl : j < rs.length := by
    have : (j : Int) < (((rs.map (·.2)).length : Nat) : Int) := by simpa using hc
    rw [hrl] at this; omega
   obtain ⟨a25, v26, ha25, hc25, r26⟩ := rw_.at_ (j := j) (by rw [hrl]; exact hjl)
   have eq26 : (rs.map (·.2))[j]'(by rw [hrl]; exact hjl) = entB (h.base + (j : Int) + 1) (es[j]'(by omega)) := by simp [hE j hjl (by omega)]
   rw [eq26] at r26
   obtain ⟨q1, q2, q3, q4⟩ := entB_get (i := h.base + (j : Int) + 1) (dt := es[j]'(by omega)) ⟨by omega, by omega⟩
   have hlb := entB_len (h.base + (j : Int) + 1) (es[j]'(by omega))
   refine ⟨a25, ha25, v26, hc25, bin_Get_c r26.rd (by decide) (by decide) ⟨_, _, rfl, bin_Get_c r26.rd (by decide) (by decide) ⟨_, _, rfl, ?_⟩⟩⟩
   rw [q1, q2, q3]
   refine JoinP.bool (fun b w' => b = false ∧ Grow ww w') (fun jj hjj => cond_f rfl (Last_cS oo en (by omega) (by omega) fun w55 g55 => ⟨_, rfl, hjj _ _ ⟨?_, g55⟩⟩)) ?_
   · rw [hel, w64_id (n := h.base + (j : Int) + 1) (by omega) (by omega)]
     simp
   rintro b w36 ⟨rfl, g36⟩
   refine cond_f rfl (nm fun w37 e37 => ?_)
   have o36 := oo.grow g36
   have o37 := o36.grow (drE e37)
   refine withAddr_some ⟨_, o37.cell 11, ?_⟩
   have hl16 : 16 ≤ (entB (h.base + (j : Int) + 1) (es[j]'(by omega))).length := by omega
   obtain ⟨v40, hs40, hr40, e40⟩ := Rd.sub r26.rd (lo := some (.int .i64 (16 : Int))) (hi := none) (l := 16) (r := (entB (h.base + (j : Int) + 1) (es[j]'(by omega))).length) (fun cap hc => by
    rw [List.length_map, bounds_in (by omega) (by omega)]; simp) hl16 (by simp)
   have r40 : RdB ww v40 (es[j]'(by omega)) := by
    have e : (((entB (h.base + (j : Int) + 1) (es[j]'(by omega))).map b8).drop 16).take ((entB (h.base + (j : Int) + 1) (es[j]'(by omega))).length - 16) = (es[j]'(by omega)).map b8 := by
     rw [List.take_of_length_le (by simp), ← List.map_drop, q4]
    rw [e] at hr40; exact hr40
   have hesj : (es[j]'(by omega)).length ≤ 1000 := by
    have := hrs.len j hjl
    rw [hE j hjl (by omega), hlb] at this; omega
   refine ⟨v40, hs40, nm fun w41 e41 => ?_⟩
   have g41 := g36.then (drE e41)
   refine slices_Clone_c (r40.grow g41) (by omega) fun v42 w43 g43 o42 => ?_
   have g43' := g41.then g43
   have o43 := oo.grow g43'
   have en43 := en.grow g43'
   have mdA := md.grow g43'
   have i42 : RdI w43 v42 (es[j]'(by omega)) := RdI.own (dl.gi.mono (by have := md.size; have := g41.size; omega)) o42
   have one42 := Rd.isOne o42.rd
   have gal := fun oo => Grow.al (Grow.refl w43) oo
   refine ⟨⟨_, o43.cell 11, rfl⟩, oneK_of one42 ⟨⟨_, (o43.grow (gal _)).cell 11, rfl⟩, nm fun w46 e46 => nm fun w47 e47 => ?_⟩⟩
   clear e46
   have en43' : EnAt w43 h.base lv' (es.take j) := en43
   have e47' : w47 = World.alloc w43 (.cells #[.int .u64 (h.base + ((es.take j).length : Int) + 1), .int .u64 (0 : Int), v42] tEn) := by rw [hel]; exact e47
   obtain ⟨lv2, w49, k49, en49, n49⟩ := en43'.push (by rw [hel]; omega) i42 one42 e47'
   obtain ⟨b47, g47, s47⟩ := alE e47
   have o47 := o43.grow g47
   have st49 : Step (fun q => lv'.ownBlock = some q) w47 w49 (fun q => lv'.ownBlock = some q ∨ lv2.ownBlock = some q) := Step.of_own n49 (fun q hq => hq)
   have hns : lv'.ownBlock ≠ some s := fun e => by
    obtain ⟨cs, fr, e'⟩ := en43.type e
    have := o43
    unfold BK at this
    rw [this] at e'
    injection e' with e'; injection e' with _ e' _
    exact absurd e' (by decide)
   have o49 := o47.stepS st49 hns
   refine ⟨lv2, w49, k49, withAddr_some (oneK_of en49.one ⟨st1_at o49 (by show 11 < 12; omega), nm fun w51 e51 => nm fun w52 e52 => ?_⟩)⟩
   clear e51
   obtain ⟨b52, t52⟩ := setE o49 e52
   have b52' : BK w52 s (rSto d t (some ⟨r, 0, none⟩) h snap lv2) tSto := b52
   have nTe : ∀ ty, ty ≠ tEn → NoT ty w47 (fun q => lv'.ownBlock = some q) := fun ty hne q hq cs fr e => by
    obtain ⟨cs', fr', e'⟩ := (en43.grow g47).type hq
    rw [e'] at e
    injection e with e; injection e with _ e _
    exact hne e.symm
   have nTs : ∀ ty, ty ≠ tSto → NoT ty w49 (fun q => q = s) := fun ty hne => noT_one o49 hne
   have st52 := t52.step (S := fun q => q = s) rfl
   have h47 := (hh.grow g43').grow g47
   have h49 := h47.stepS st49 (fun q hq e => by
    obtain ⟨cs', fr', e'⟩ := (en43.grow g47).type e
    exact h47.noT (t := tEn) (by decide) (by decide) q hq _ _ e')
   have h52 := h49.stepS st52 (fun q hq e => by
    have e' : q = s := e
    subst e'
    exact h49.noT (t := tSto) (by decide) (by decide) q hq _ _ o49)
   have rw49 := (((rw_.grow g43').grow g47).stepG st49 (nTe _ (by decide)) (nTe _ (by decide)).noG)
   have rw52 := rw49.stepG st52 (nTs _ (by decide)) (nTs _ (by decide)).noG
   have hns2 : ∀ q, lv2.ownBlock = some q → ¬ (fun q => q = s) q := fun q hq e => by
    have e' : q = s := e
    subst e'
    obtain ⟨cs, fr, e2⟩ := en49.type hq
    have := o49
    unfold BK at this
    rw [this] at e2
    injection e2 with e2; injection e2 with _ e2 _
    exact absurd e2 (by decide)
   have en52 := en49.stepG st52 hns2 (nTs _ (by decide)).noG
   have mdB : Md (fun q => q = s) w.heap.size w w49 := (mdA.grow g47).stp st49 (fun q hq => .inr (hnew q hq)) (fun q hq => by
    rcases hq with e | e
    · exact .inl (.inr (hnew q e))
    · rcases n49.at_ with a | a
      · exact .inl (.inr (hnew q (a ▸ e)))
      · exact .inr (a q e))
   rw [wi64_id (n := (j : Int) + 1) (by omega) (by omega)]
   refine ⟨⟨j + 1, lv2, by omega, by omega, mdB.turn t52 (.inl rfl), b52', h52, rw52, ?_, fun q hq => ?_⟩, by omega⟩
   · rw [List.take_add_one, List.getElem?_eq_getElem (by omega)]
     exact en52
   · rcases n49.at_ with a | a
     · exact hnew q (a ▸ hq)
     · have := a q hq; have := mdA.size; omega
 · have hje : j = rs.length := by
    have : ¬ (j : Int) < (((rs.map (·.2)).length : Nat) : Int) := by simpa using hc
    rw [hrl] at this; omega
   subst hje
   rw [List.take_of_length_le (by omega)] at en
   exact k r rv lv' ww md.out oo hh (fun q hq => Nat.le_trans z9 (hq11 q hq)) en hnew
end
end
section
open Go Go.CW Go.RowKit Go.Crc
variable {w w' : World} {d mb n : Nat} {D : Dk} {S : SF} {s t r : Nat} {rp : Option Addr} {h h' : Hdr} {snap lv tv rv : Value} {m : Int} {es : List (List UInt8)}
section
variable [Av]
structure SJ (w : World) (d mb n : Nat) (D : Dk) (S : SF) (s t r : Nat) (m : Int) (h : Hdr) (tv snap lv rv : Value) (es : List (List UInt8)) : Prop where
 dl : DL w d mb n D S
 tw : TwAt w t d 0 m tv (hdB h)
 o : BK w s (rSto d t (some ⟨r, 0, none⟩) h snap lv) tSto
 rg : RgAt w r d h.fst h.life rv es.length
 en : EnAt w h.base lv es
theorem SJ.grow (sj : SJ w d mb n D S s t r m h tv snap lv rv es) (g : Grow w w') : SJ w' d mb n D S s t r m h tv snap lv rv es := ⟨sj.dl.grow g, sj.tw.grow g, sj.o.grow g, sj.rg.grow g, sj.en.grow g⟩
abbrev hd0 : Hdr := ⟨0, 1, 0, 0, 0, 4294967296, 0⟩
end
theorem hd0_ok {x : Int} (h0 : 0 ≤ x ∧ x < 4294967296) : HdOk {hd0 with life := x} := ⟨(by decide : (0 : Int) ≤ 0 ∧ (0 : Int) < 18446744073709551616), h0, (by decide : (0 : Int) ≤ 0 ∧ (0 : Int) ≤ 1), (by decide : (0 : Int) ≤ 0 ∧ (0 : Int) < 18446744073709551616), (by decide : (0 : Int) ≤ 0 ∧ (0 : Int) ≤ 24576), (by decide : (0 : Int) ≤ 4294967296 ∧ (4294967296 : Int) < 18446744073709551616), (by decide : (0 : Int) ≤ 0 ∧ (0 : Int) < 65536)⟩
section
variable [Av]
theorem Format_cS (dl : DL w d mb n D S) (hS : ∀ x, cont S x = none) (ho : D.off = false) (hn : n < 900000) (ha : D.armed = 0) (hpl : D.ps.length ≤ 1000000) (hN : 354 ≤ D.n ∧ D.n < 4294967296) {R : KV}
 (k : ∀ S' w', Step (FD d mb S) w w' (FD d mb S') → DL w' d mb (n + 2) ⟨D.n, false, 0, D.ps⟩ S' → cont S' = flC (wrC (wrC (cont S) 0 []) 1 (packT 1 (hdB hd0))) → R (.int .i64 (0 : Int)) w') :
 CW.Spec Tryz.prog 44 #[.pointer (some ⟨d, 0, none⟩)] w R := by
 apply q104W
 refine sectors_c dl ⟨_, rfl, cond_f (by simp; omega) ?_⟩
 have htw : twC (cont S) 0 = none := by
  have e : ∀ x, rdC (cont S) x = zs := fun x => by unfold rdC; rw [hS]; simp [secB, zs]
  unfold twC
  rw [e, e]
  have e0 : ∀ i, okT zs i = none := fun i => by unfold okT; rw [unpT_zs]
  rw [e0, e0]; rfl
 refine JoinP.int (fun b w' => b = 1 ∧ Grow w w') (fun j hj => Open_l dl ho (by omega) (by omega) (by omega) (fun m bs e => by rw [htw] at e; cases e) (fun _ w15 g15 => ⟨_, _, rfl, cond_f rfl (hj _ _ ⟨rfl, g15⟩)⟩)) ?_
 rintro b w4 ⟨rfl, g4⟩
 apply q115W
 have c1 : IntKind.wrap .u64 (IntKind.wrap .u64 1 * 4294967296) = 4294967296 := by decide
 refine ⟨_, rfl, ?_⟩
 rw [c1]
 refine hbytes_c (h := hd0) (hd0_ok (x := 1) (by omega)) fun v8 w9 g9 r9 n9 => ?_
 refine Format_l (dl.grow (g4.then g9)) ho (by omega) ha hpl (by omega) (by omega) (by omega) r9 (by rw [hdB_len]; omega) fun S' w11 st11 dl11 c11 => ⟨_, rfl, k S' w11 ((Step.of_grow (g4.then g9)).then st11) dl11 c11⟩
theorem Open_cS (dl : DL w d mb n D S) (ho : D.off = false) (hn : n < 900000) (ha : D.armed = 0) (hpl : D.ps.length ≤ 1000000) (hN : 354 ≤ D.n ∧ D.n < 4294967296) {T : Int → Option (List UInt8)} (jc : JC (cont S) m (hdB h) T) (hm : 1 ≤ m ∧ m < 900000000) (ok : HdOk h) (hlf : h.life < 4000000000)
 (hp : h.place = 0) (hF : h.fst < 4611686018427387904) (hb : h.base < 1000000) {rs : List (Int × List UInt8)} (hrs : RJ T h.fst h.life rs) (hlen : rs.length ≤ 200) (hle : es.length = rs.length) (hE : ∀ (j : Nat) (h1 : j < rs.length) (h2 : j < es.length), rs[j].2 = entB (h.base + (j : Int) + 1) es[j])
 {bs : List UInt8} (hsz : h.size = (bs.length : Int)) (hSn : ∀ j : Nat, 512 * j < bs.length → (T (2 + h.wh * 48 + (j : Int))) = some ((bs.drop (512 * j)).take 512)) {R : KV}
 (k : ∀ S' s t r tv snap lv rv w', Step (FD d mb S) w w' (FD d mb S') → SJ w' d mb (n + 1) ⟨D.n, false, 0, D.ps⟩ S' s t r (m + 1) {h with life := h.life + 1} tv snap lv rv es → JC (cont S') (m + 1) (hdB {h with life := h.life + 1}) T → RdI w' snap bs →
  (∀ q, q = s ∨ q = t ∨ FRg r rv q ∨ lv.ownBlock = some q → w.heap.size ≤ q) → R (.tuple #[.pointer (some ⟨s, 0, none⟩), .int .i64 (0 : Int)]) w') :
 CW.Spec Tryz.prog 45 #[.pointer (some ⟨d, 0, none⟩)] w R := by
 apply q106W
 have ok' := ok
 obtain ⟨k1, k2, k3, k4, k5, k6, k7⟩ := ok
 refine sectors_c dl ⟨_, rfl, cond_f (by simp; omega) ?_⟩
 have htw := jc.tw (by rw [hdB_len]; omega) hm.1 (by omega)
 refine Open_l dl ho (by omega) (by omega) (by omega) (fun m' bs' e t tv w4 g4 ht4 tw4 hm0 hm1 => ⟨_, _, rfl, cond_f rfl ?_⟩) (fun e => by rw [htw] at e; cases e)
 rw [htw] at e
 cases e
 refine value_c tw4 (by rw [hdB_len]; omega) fun v7 w8 g8 r8 => parse_c ok' r8 fun w10 g10 => ⟨_, _, _, _, _, _, _, _, rfl, nm fun w19 e19 => ?_⟩
 obtain ⟨b19, g19, s19⟩ := alE e19
 refine ⟨b19.row rfl rfl, nm fun w20 e20 => cond_f rfl ?_⟩
 obtain ⟨b20, t20⟩ := rowE b19 e20 rfl
 have g20 : Grow w10 w20 := Below.turn g19 t20 (Nat.le_refl _)
 refine ⟨_, _, _, _, _, _, _, b20.ld rfl, nm fun w28 e28 => ?_⟩
 obtain ⟨b28, g28, s28⟩ := alE e28
 have l28 := b20.grow g28
 have gA : Grow w w28 := ((g4.then g8).then g10).then (g20.then g28)
 have z4 := g4.size
 have zs1 : w.heap.size ≤ w10.heap.size := ((g4.then g8).then g10).size
 have zs2 : w10.heap.size < w20.heap.size := b20.lt
 have hlt := dl.kind.lt
 have o28 : BK w28 w20.heap.size (rSto d t none h nilS nilS) tSto := b28
 refine ⟨_, l28.cell 2, _, l28.cell 4, ?_⟩
 rw [hsz]
 refine read_cJ o28 (dl.grow gA) ho hN k3 (by omega) (fun j hj => ?_) fun v33 w32 g32 i33 n33 => ⟨_, _, rfl, oneK_of (Rd.isOne i33.rd) ?_⟩
 · rw [jc.rd (by omega), hSn j hj]; rfl
 have o32 := o28.grow g32
 have gB := gA.then g32
 refine ⟨st1_at o32 (by show 10 < 12; omega), nm fun w35 e35 => cond_f rfl ?_⟩
 obtain ⟨b35, t35⟩ := setE o32 e35
 have o35 : BK w35 w20.heap.size (rSto d t none h v33 nilS) tSto := b35
 have st35 := t35.step (S := fun q => q = w20.heap.size) rfl
 have nT32 : ∀ ty, ty ≠ tSto → NoT ty w32 (fun q => q = w20.heap.size) := fun ty hne => noT_one o32 hne
 have dl35 := (dl.grow gB).stable st35 (fun q hq e => by have := hlt q hq; have e' : q = w20.heap.size := e; omega) (nT32 _ (by decide)) (nT32 _ (by decide))
 have htlt : t < w10.heap.size := by have := tw4.o.lt; have := (g8.then g10).size; omega
 have tw32 := (tw4.grow (((g8.then g10).then (g20.then g28)).then g32))
 have tw35 := tw32.step st35 (fun e => by have e' : t = w20.heap.size := e; omega) (nT32 _ (by decide))
 have i35 := i33.step st35 (nT32 _ (by decide))
 have l35 := (l28.grow g32).turn t35 (by omega)
 have cl : IntKind.wrap .u32 (h.life + 1) = h.life + 1 := w32_id (by omega) (by omega)
 refine ⟨_, l35.cell 1, st1_at l35 (by show 1 < 7; omega), nm fun w37 e37 => ?_⟩
 rw [cl] at e37
 obtain ⟨b37, t37⟩ := setE l35 e37
 have l37 : BK w37 w10.heap.size (rHd {h with life := h.life + 1}) tHd := b37
 have st37 := t37.step (S := fun q => q = w10.heap.size) rfl
 have nT35 : ∀ ty, ty ≠ tHd → NoT ty w35 (fun q => q = w10.heap.size) := fun ty hne => noT_one l35 hne
 have dl37 := dl35.stable st37 (fun q hq e => by have := hlt q hq; have e' : q = w10.heap.size := e; omega) (nT35 _ (by decide)) (nT35 _ (by decide))
 have tw37 := tw35.step st37 (fun e => by have e' : t = w10.heap.size := e; omega) (nT35 _ (by decide))
 have i37 := i35.step st37 (nT35 _ (by decide))
 have o37 := o35.turn t37 (by omega)
 have ok2 : HdOk {h with life := h.life + 1} := ⟨k1, ⟨by show 0 ≤ h.life + 1; omega, by show h.life + 1 < 4294967296; omega⟩, k3, k4, k5, k6, k7⟩
 refine ⟨_, _, _, _, _, _, _, l37.ld rfl, ?_⟩
 refine put_cJ o37 dl37 tw37 ho (by omega) ha hpl hN ⟨by omega, by omega⟩ ok2 fun S2 tv2 w46 st46 dl46 c46 tw46 o46 => ⟨_, rfl, cond_f rfl ?_⟩
 have jc2 : JC (cont S2) (m + 1) (hdB {h with life := h.life + 1}) T := by rw [c46]; exact jc.put (by rw [hdB_len]; omega) hm.1 (by omega)
 have nT37 : NoT tb w37 (fun q => q = w20.heap.size ∨ FT t d mb S q) := by
  rintro q (rfl | rfl | hq)
  · exact noT_one o37 (by decide) _ rfl
  · exact noT_one tw37.o (by decide) _ rfl
  · exact dl37.kind.noT (by decide) (by decide) (by decide) q hq
 have i46 := i37.step st46 nT37
 refine journal_cS o46 dl46 rfl hN ok2 hp hF hb (hrs.life (by show h.life ≤ h.life + 1; omega)) hlen (fun x hx => jc2.rd hx) hle hE fun r rv lv w49 st49 o49 rg49 hr49 en49 hl49 => ⟨_, rfl, cond_f rfl ?_⟩
 have nT46 : ∀ ty, ty ≠ tSto → NoT ty w46 (fun q => q = w20.heap.size) := fun ty hne => noT_one o46 hne
 have hz46 : w.heap.size ≤ w37.heap.size := by have := gB.size; have := t35.size; have := t37.size; omega
 have z46 := st46.size
 have fp46 : ∀ q, FT t d mb S2 q → q ≠ w20.heap.size ∧ (q = t ∨ FD d mb S q ∨ w37.heap.size ≤ q) := fun q hq => by
  rcases st46.fp q (.inr hq) with (e | e | e) | e
  · exfalso
    subst e
    exact sto_not o46 dl46 tw46 hq
  · exact ⟨by omega, .inl e⟩
  · exact ⟨by have := hlt q e; omega, .inr (.inl e)⟩
  · exact ⟨by have := o37.lt; omega, .inr (.inr e)⟩
 have dl49 := dl46.stable st49 (fun q hq e => (fp46 q (.inr hq)).1 e) (nT46 _ (by decide)) (nT46 _ (by decide))
 have tw49 := tw46.step st49 (fun e => (fp46 t (.inl rfl)).1 e) (nT46 _ (by decide))
 have i49 := i46.step st49 (nT46 _ (by decide))
 have rg49' : RgAt w49 r d h.fst (h.life + 1) rv es.length := by rw [hle]; exact rg49
 have md37 : Md (FD d mb S) w.heap.size w w37 := ((((Md.refl _ _ w).grow gB).turn t35 (.inr (by omega))).turn t37 (.inr zs1))
 have md46 : Md (FD d mb S) w.heap.size w w46 := md37.stp st46 (fun q hq => by
  rcases hq with e | e | e
  · exact .inr (by omega)
  · exact .inr (by omega)
  · exact .inl e) (fun q hq => by
  rcases hq with e | e
  · exact .inl (.inr (by omega))
  · rcases (fp46 q e).2 with e' | e' | e'
    · exact .inl (.inr (by omega))
    · exact .inl (.inl e')
    · exact .inr e')
 have md49 : Md (FD d mb S) w.heap.size w w49 := md46.stp st49 (fun q hq => .inr (by have e : q = w20.heap.size := hq; omega)) (fun q hq => .inl (.inr (by have e : q = w20.heap.size := hq; omega)))
 have mo := md49.out
 refine k S2 w20.heap.size t r tv2 v33 lv rv w49 ⟨mo.os, mo.tape, mo.output, mo.size, mo.block, fun q hq => ?_⟩ ⟨dl49, tw49, o49, rg49', en49⟩ jc2 i49 (fun q hq => ?_)
 · rcases (fp46 q (.inr hq)).2 with e | e | e
   · exact .inr (by omega)
   · exact .inl e
   · exact .inr (by omega)
 · rcases hq with e | e | e | e
   · omega
   · omega
   · have := hr49 q e; omega
   · have := hl49 q e; omega
end
end
section
open Go Go.CW Go.RowKit Go.Crc
variable [Av] {w w' : World} {d mb n : Nat} {D : Dk} {S : SF} {s t r : Nat} {rp : Option Addr} {h h' : Hdr} {snap lv tv rv : Value} {m : Int} {es : List (List UInt8)}
end
end Go.Proofs.YtghineciiljeoaaGreatDoor
