/- TopRegister: a witness's register on a disk that crashes at any call: never two winners of one epoch. -/
import Derived.Test.YtghineciiljeoaaGreatDoorTwn
import Derived.Test.YtghineciiljeoaaGreatDoorKnown
set_option linter.unusedVariables false
set_option linter.unusedSimpArgs false
set_option maxRecDepth 100000
namespace Go.Proofs.YtghineciiljeoaaGreatDoor
open Go Go.CW Go.RowKit Go.Crc Go.CW.Ex

variable {w w' : World} {d mb n : Nat} {D : Dk} {S : SF}

/-! ### the law -/
/-- two sectors; on the one of e's parity the register of epoch e; what stands on the other one is elder, or nothing -/
structure Gd (C : Hold) (e p m : Int) : Prop where
  out : ∀ x, x ≠ 0 → x ≠ 1 → C x = none
  it : C (e % 2) = some (packT e (regB e p m), [])
  ot : ∃ b, C ((e + 1) % 2) = some (b, []) ∧ (unpT (secB b) = none ∨ ∃ n' v', unpT (secB b) = some (n', v') ∧ n' < e)

theorem secB_full {bs : List UInt8} (h : bs.length = 512) : secB bs = bs := by simp [secB, h]

theorem pk_len (e p m : Int) : (packT e (regB e p m)).length = 512 := packT_len (by rw [regB_len]; omega)
theorem unp_pk {e p m : Int} (h0 : 0 ≤ e) (h1 : e < 18446744073709551616) : unpT (secB (packT e (regB e p m))) = some (e, regB e p m) := by
  rw [secB_full (pk_len e p m), unpT_pack (by rw [regB_len]; omega) h0 h1]

theorem Gd.tw {C : Hold} {e p m : Int} (h : Gd C e p m) (h0 : 1 ≤ e) (h1 : e < 1000) : twC C 0 = some (e, regB e p m) := by
  obtain ⟨b, hb, hu⟩ := h.ot
  have hit := h.it
  have hunp := unp_pk (e := e) (p := p) (m := m) (by omega) (by omega)
  have par : e % 2 = 0 ∨ e % 2 = 1 := by omega
  unfold twC
  rcases par with hp | hp
  · have hq : (e + 1) % 2 = 1 := by omega
    rw [hp] at hit
    rw [hq] at hb
    have r0 : rdC C 0 = secB (packT e (regB e p m)) := by unfold rdC; rw [hit]; rfl
    have r1 : rdC C (0 + 1) = secB b := by unfold rdC; rw [show (0 : Int) + 1 = 1 from rfl, hb]; rfl
    rw [r0, r1]
    have o0 : okT (secB (packT e (regB e p m))) 0 = some (e, regB e p m) := by unfold okT; rw [hunp]; simp [hp]
    rw [o0]
    rcases hu with hu | ⟨n', v', hu, hlt⟩
    · have : okT (secB b) 1 = none := by unfold okT; rw [hu]
      rw [this]; rfl
    · by_cases hn : n' % 2 = 1
      · have : okT (secB b) 1 = some (n', v') := by unfold okT; rw [hu]; simp [hn]
        rw [this]; simp [bestT, hlt]
      · have : okT (secB b) 1 = none := by unfold okT; rw [hu]; simp [hn]
        rw [this]; rfl
  · have hq : (e + 1) % 2 = 0 := by omega
    rw [hp] at hit
    rw [hq] at hb
    have r0 : rdC C 0 = secB b := by unfold rdC; rw [hb]; rfl
    have r1 : rdC C (0 + 1) = secB (packT e (regB e p m)) := by unfold rdC; rw [show (0 : Int) + 1 = 1 from rfl, hit]; rfl
    rw [r0, r1]
    have o1 : okT (secB (packT e (regB e p m))) 1 = some (e, regB e p m) := by unfold okT; rw [hunp]; simp [hp]
    rw [o1]
    rcases hu with hu | ⟨n', v', hu, hlt⟩
    · have : okT (secB b) 0 = none := by unfold okT; rw [hu]
      rw [this]; rfl
    · by_cases hn : n' % 2 = 0
      · have : okT (secB b) 0 = some (n', v') := by unfold okT; rw [hu]; simp [hn]
        rw [this]
        have : ¬ e < n' := by omega
        simp [bestT, this]
      · have : okT (secB b) 0 = none := by unfold okT; rw [hu]; simp [hn]
        rw [this]; rfl

theorem Gd.first (p m : Int) : Gd (flC (wrC (wrC (cont (fun _ => none)) 0 []) 1 (packT 1 (regB 1 p m)))) 1 p m := by
  refine ⟨fun x h0 h1 => by simp [flC, wrC, cont, h0, h1], by simp [flC, wrC, cont, nowC], [], by simp [flC, wrC, cont, nowC], .inl ?_⟩
  have : secB [] = zs := by simp [secB, zs]
  rw [this]; exact unpT_zs

/-- what one that waits is, once it lasts -/
theorem Gd.next {C : Hold} {e p m p' m' : Int} (h : Gd C e p m) (h0 : 1 ≤ e) (h1 : e < 1000) {C' : Hold} (ho : ∀ x, x ≠ (e + 1) % 2 → C' x = C x) (hi : C' ((e + 1) % 2) = some (packT (e + 1) (regB (e + 1) p' m'), [])) : Gd C' (e + 1) p' m' := by
  have par : e % 2 = 0 ∨ e % 2 = 1 := by omega
  refine ⟨fun x a b => ?_, hi, packT e (regB e p m), ?_, .inr ⟨e, regB e p m, unp_pk (by omega) (by omega), by omega⟩⟩
  · rw [ho x (by omega)]; exact h.out x a b
  · have : (e + 1 + 1) % 2 = e % 2 := by omega
    rw [this, ho _ (by omega)]; exact h.it
theorem Gd.same {C C' : Hold} {e p m : Int} (h : Gd C e p m) (hc : ∀ x, C' x = C x) : Gd C' e p m :=
  ⟨fun x a b => by rw [hc]; exact h.out x a b, by rw [hc]; exact h.it, let ⟨b, h1, h2⟩ := h.ot; ⟨b, by rw [hc]; exact h1, h2⟩⟩

theorem Gd.wr {C : Hold} {e p m p' m' : Int} (h : Gd C e p m) (h0 : 1 ≤ e) (h1 : e < 1000) : Gd (flC (wrC C ((e + 1) % 2) (packT (e + 1) (regB (e + 1) p' m')))) (e + 1) p' m' := by
  obtain ⟨b, hb, _⟩ := h.ot
  refine h.next h0 h1 (fun x hx => ?_) ?_
  · unfold flC wrC
    rw [if_neg hx]
    by_cases hz : x = e % 2
    · subst hz; rw [h.it]; rfl
    · have : C x = none := h.out x (by omega) (by omega)
      rw [this]; rfl
  · unfold flC wrC
    rw [if_pos rfl, hb]; rfl

theorem crashed_at {C C' : Hold} (hc : Crashed C C') {x : Int} {k : List UInt8} {l : List (List UInt8)} (h : C x = some (k, l)) : ∃ k', C' x = some (k', []) ∧ k' ∈ k :: l := by
  have := hc x
  rw [h] at this
  cases e : C' x with
  | none => rw [e] at this; exact this.elim
  | some c' =>
    rw [e] at this
    obtain ⟨a, b⟩ := c'
    obtain ⟨h1, h2⟩ := this
    have h1' : b = [] := h1
    subst h1'
    exact ⟨a, rfl, h2⟩
theorem crashed_none {C C' : Hold} (hc : Crashed C C') {x : Int} (h : C x = none) : C' x = none := by
  have := hc x
  rw [h] at this
  cases e : C' x with
  | none => rfl
  | some c' => rw [e] at this; exact this.elim

theorem Gd.crash {C C' : Hold} {e p m : Int} (h : Gd C e p m) (hc : Crashed C C') : Gd C' e p m := by
  obtain ⟨b, hb, hu⟩ := h.ot
  obtain ⟨k1, a1, a2⟩ := crashed_at hc h.it
  obtain ⟨k2, b1, b2⟩ := crashed_at hc hb
  simp only [List.mem_singleton] at a2 b2
  subst a2 b2
  exact ⟨fun x a b => crashed_none hc (h.out x a b), a1, _, b1, hu⟩

theorem Gd.crashW {C C' : Hold} {e p m p' m' : Int} (h : Gd C e p m) (h0 : 1 ≤ e) (h1 : e < 1000) (hc : Crashed (wrC C ((e + 1) % 2) (packT (e + 1) (regB (e + 1) p' m'))) C') : Gd C' e p m ∨ Gd C' (e + 1) p' m' := by
  obtain ⟨b, hb, hu⟩ := h.ot
  have ne : e % 2 ≠ (e + 1) % 2 := by omega
  have hw : wrC C ((e + 1) % 2) (packT (e + 1) (regB (e + 1) p' m')) ((e + 1) % 2) = some (b, [packT (e + 1) (regB (e + 1) p' m')]) := by unfold wrC; rw [if_pos rfl, hb]; rfl
  have hi : wrC C ((e + 1) % 2) (packT (e + 1) (regB (e + 1) p' m')) (e % 2) = some (packT e (regB e p m), []) := by unfold wrC; rw [if_neg ne, h.it]
  obtain ⟨k1, a1, a2⟩ := crashed_at hc hi
  obtain ⟨k2, b1, b2⟩ := crashed_at hc hw
  simp only [List.mem_singleton] at a2
  subst a2
  have out : ∀ x, x ≠ 0 → x ≠ 1 → C' x = none := fun x a b' => crashed_none hc (by unfold wrC; rw [if_neg (by omega)]; exact h.out x a b')
  simp only [List.mem_cons, List.not_mem_nil, or_false] at b2
  rcases b2 with rfl | rfl
  · exact .inl ⟨out, a1, _, b1, hu⟩
  · right
    refine ⟨out, b1, packT e (regB e p m), ?_, .inr ⟨e, regB e p m, unp_pk (by omega) (by omega), by omega⟩⟩
    have : (e + 1 + 1) % 2 = e % 2 := by omega
    rw [this]; exact a1

/-! ### the walk -/
theorem JoinP.ptr {rest : Option Addr → World → Prop} {body : (Option Addr → World → Prop) → Prop} (Q : Option Addr → World → Prop) (hb : ∀ j : Option Addr → World → Prop, (∀ b w, Q b w → j b w) → body j) (h : ∀ b w, Q b w → rest b w) : JoinP [.ptr] rest body := hb rest h

theorem ei_of {v : Value} {ps : List Int} (h : Rd w v (ps.map (Value.int .i64))) : RdR EI w v ps := by
  obtain ⟨a, cap, rfl, h1, h2, h3, h4⟩ := h
  rw [List.length_map] at h1 ⊢
  refine ⟨a, cap, rfl, h1, h2, h3, fun j u hj => h4 j u ?_⟩
  have e1 : EI.flat ps = ps.map (Value.int .i64) := by
    clear h1 h2 h3 h4 hj
    induction ps with
    | nil => rfl
    | cons a l ih => rw [Enc.flat_cons, ih]; rfl
  rw [← e1]; exact hj

theorem and1_all : ∀ c : Fin 256, bitsI .and .u8 (c.val : Int) 1 = ((c.val % 2 : Nat) : Int) := by decide +kernel
theorem and1 (c : UInt8) : bitsI .and .u8 (c.toNat : Int) (1 : Int) = ((c.toNat % 2 : Nat) : Int) := and1_all ⟨c.toNat, c.toNat_lt⟩

theorem rd_atB {v : Value} {bs : List UInt8} (h : RdB w v bs) {i : Int} {k : Nat} (e : i = (k : Int)) (hi : k < bs.length) : ∃ a, sliceAt v i 1 = some a ∧ w.cell? a = some (.int .u8 ((bs.getD k 0).toNat : Int)) := by
  subst e
  obtain ⟨a, h1, h2⟩ := RdB.at h (i := (k : Int)) (by omega) (by omega)
  refine ⟨a, h1, ?_⟩
  rw [h2]
  simp [List.getD_eq_getElem?_getD, List.getElem?_eq_getElem hi]

abbrev tWo : TypeId := 96

/-- behind an ask -/
def Q37 (W : World) (d mb wn rb : Nat) (now : Int) (i : Nat) (ps : List Int) (cs : Array Value) (oo : Option Addr) (w : World) : Prop :=
  ∃ (e' p m : Int) (o t nn : Nat) (S : SF) (am : Int), (e' = now ∨ e' = now + 1) ∧ oo = some ⟨o, 0, none⟩ ∧ BK w rb #[.int .u64 e', .int .i64 p, .int .i64 m] tRg ∧ nn ≤ 3 + i ∧ 0 ≤ am ∧ am ≤ 1000000 ∧
    DL w d mb nn ⟨2, false, am, ps⟩ S ∧ WAt w o t d e' e' p m ∧ (0 ≤ p ∧ p < 256) ∧ (0 ≤ m ∧ m < 256) ∧ rightB p m = true ∧ Gd (cont S) e' p m ∧ Grow W w ∧ (∀ q, FD d mb S q → W.heap.size ≤ q) ∧ W.heap.size ≤ o ∧ W.heap.size ≤ t ∧ BK w wn cs tWo

/-- at a round's head -/
def Inv (W : World) (d mb wn : Nat) (len : Nat) (ps : List Int) (oo : Option Addr) (now ix : Int) (w : World) : Prop :=
  ∃ (i : Nat) (e p m : Int) (o t nn : Nat) (S : SF) (am : Int) (cs : Array Value), oo = some ⟨o, 0, none⟩ ∧ now = e ∧ ix = (i : Int) ∧ i ≤ len ∧ 1 ≤ e ∧ e ≤ (i : Int) + 1 ∧ nn ≤ 2 + i ∧ 0 ≤ am ∧ am ≤ 1000000 ∧
      DL w d mb nn ⟨2, false, am, ps⟩ S ∧ WAt w o t d e e p m ∧ (0 ≤ p ∧ p < 256) ∧ (0 ≤ m ∧ m < 256) ∧ rightB p m = true ∧ Gd (cont S) e p m ∧ Grow W w ∧ (∀ q, FD d mb S q → W.heap.size ≤ q) ∧ W.heap.size ≤ o ∧ W.heap.size ≤ t ∧
      BK w wn cs tWo ∧ cs.size = 64 ∧ (∀ j : Nat, e < (j : Int) → j < 64 → cs[j]? = some (.int .i64 (0 : Int)))

/-- the code behind an ask -/
def rest37 (rb wn : Nat) (n21 n22 : Int) (R : KV) (j19 : Option Addr → Int → Int → World → Prop) (o36 : Option Addr) (w37 : World) : Prop :=
  JoinP [.bool]
  (fun (b38 : Bool) => fun (w39 : World) =>
  cond b38
  (R (.bool false) w39)
  (JoinP []
  (fun (w40 : World) =>
  ∃ (n41 : Int), ((Go.World.cell? w40 (Addr.add ⟨rb, 0, none⟩ 0)) = (some (.int .u64 n41))) ∧
  j19 o36 n41 (IntKind.wrap .i64 (n22 + (1 : Int))) w40)
  (fun j42 =>
  ∃ (n43 : Int), ((Go.World.cell? w39 (Addr.add ⟨rb, 0, none⟩ 0)) = (some (.int .u64 n43))) ∧
  cond (n43 == (n21 + (1 : Int)))
  (JoinP [.bool]
  (fun (b44 : Bool) => fun (w45 : World) =>
  cond b44
  (R (.bool false) w45)
  (∃ (n46 : Int), ((Go.World.cell? w45 (Addr.add ⟨rb, 0, none⟩ 0)) = (some (.int .u64 n46))) ∧
  ∃ (n47 : Int), ((Go.World.cell? w45 (Addr.add ⟨rb, 0, none⟩ 1)) = (some (.int .i64 n47))) ∧
  (inR n46 64) ∧
  (St1 w45 (Addr.add ⟨wn, 0, none⟩ ((Int.toNat n46) * 1))) ∧
  bindW (World.setCell w45 (Addr.add ⟨wn, 0, none⟩ ((Int.toNat n46) * 1)) (.int .i64 (IntKind.wrap .i64 (n47 + (1 : Int))))) fun w48 =>
  j42 w48))
  (fun j49 =>
  bindW (World.drew w39) fun w50 =>
  ∃ (n51 : Int), ((Go.World.cell? w50 (Addr.add ⟨rb, 0, none⟩ 0)) = (some (.int .u64 n51))) ∧
  (inR n51 64) ∧
  ∃ (n52 : Int), ((Go.World.cell? w50 (Addr.add ⟨wn, 0, none⟩ ((Int.toNat n51) * 1))) = (some (.int .i64 n52))) ∧
  cond (n52 != (0 : Int))
  (∃ (n53 : Int), ((Go.World.cell? w50 (Addr.add ⟨rb, 0, none⟩ 0)) = (some (.int .u64 n53))) ∧
  (inR n53 64) ∧
  ∃ (n54 : Int), ((Go.World.cell? w50 (Addr.add ⟨wn, 0, none⟩ ((Int.toNat n53) * 1))) = (some (.int .i64 n54))) ∧
  ∃ (n55 : Int), ((Go.World.cell? w50 (Addr.add ⟨rb, 0, none⟩ 1)) = (some (.int .i64 n55))) ∧
  bindW (World.drew w39) fun w56 =>
  j49 (n54 != (IntKind.wrap .i64 (n55 + (1 : Int)))) w56)
  (bindW (World.drew w39) fun w57 =>
  j49 false w57)))
  (j42 w39))))
  (fun j58 =>
  ∃ (n59 : Int), ((Go.World.cell? w37 (Addr.add ⟨rb, 0, none⟩ 0)) = (some (.int .u64 n59))) ∧
  cond (decide (n59 < n21))
  (j58 true w37)
  (∃ (n60 : Int), ((Go.World.cell? w37 (Addr.add ⟨rb, 0, none⟩ 0)) = (some (.int .u64 n60))) ∧
  j58 (decide (n60 > (n21 + (1 : Int)))) w37))

theorem decA2 {a : Int} (h0 : 0 ≤ a) (h1 : a ≤ 1000000) : 0 ≤ decA (decA a) ∧ decA (decA a) ≤ 1000000 := by
  have : ∀ b : Int, 0 ≤ b → b ≤ 1000000 → 0 ≤ decA b ∧ decA b ≤ 1000000 := fun b q0 q1 => by unfold decA; split <;> omega
  obtain ⟨q0, q1⟩ := this a h0 h1
  exact this _ q0 q1

theorem tail37 {W : World} {wn rb i len : Nat} {now : Int} {ps : List Int} {cs : Array Value} {oo : Option Addr} {R : KV} {j19 : Option Addr → Int → Int → World → Prop} (hcs : cs.size = 64) (hz : ∀ j : Nat, now < (j : Int) → j < 64 → cs[j]? = some (.int .i64 (0 : Int)))
    (h1 : 1 ≤ now) (h2 : now < 63) (h3 : now ≤ (i : Int) + 1) (hil : i < len) (hl : len ≤ 20) (hWn : W.heap.size ≤ wn) (hq : Q37 W d mb wn rb now i ps cs oo w)
    (k : ∀ oo e' w40, Inv W d mb wn len ps oo e' ((i + 1 : Nat) : Int) w40 → j19 oo e' (IntKind.wrap .i64 ((i : Int) + (1 : Int))) w40) : rest37 rb wn now (i : Int) R j19 oo w := by
  obtain ⟨e', p, m, o, t, nn, S, am, he, rfl, brb, hnn, a0, a1, h, wt, hp, hm, hR, gd, g, F, ho, ht, bw⟩ := hq
  have hew : IntKind.wrap .u64 (now + 1) = now + 1 := w64_id (by omega) (by omega)
  unfold rest37
  refine JoinP.bool (fun b w' => b = false ∧ w' = w) (fun j hj => ⟨e', by rw [brb.cell]; rfl, cond_f (by simp; omega) ⟨e', by rw [brb.cell]; rfl, hj _ _ ⟨by simp; omega, rfl⟩⟩⟩) ?_
  rintro b w' ⟨rfl, rfl⟩
  refine cond_f rfl (JoinP.unit (fun w40 => BK w40 rb #[.int .u64 e', .int .i64 p, .int .i64 m] tRg ∧ ∃ cs' : Array Value, DL w40 d mb nn ⟨2, false, am, ps⟩ S ∧ WAt w40 o t d e' e' p m ∧ Grow W w40 ∧ BK w40 wn cs' tWo ∧ cs'.size = 64 ∧ ∀ j : Nat, e' < (j : Int) → j < 64 → cs'[j]? = some (.int .i64 (0 : Int))) (fun j42 hj42 => ?_) ?_)
  · refine ⟨e', by rw [brb.cell]; rfl, cond_intro (fun hc => ?_) (fun hc => hj42 _ ⟨brb, cs, h, wt, g, bw, hcs, fun j q1 q2 => hz j (by omega) q2⟩)⟩
    have he' : e' = now + 1 := by simpa using hc
    have hin : inR e' 64 := ⟨by omega, by omega⟩
    refine JoinP.bool (fun b wx => b = false ∧ Grow w' wx) (fun j49 hj49 => nm fun w50 e50 => ?_) ?_
    · have g50 := drE e50
      refine ⟨e', by rw [(brb.grow g50).cell]; rfl, hin, 0, ?_, cond_f rfl (nm fun w57 e57 => hj49 _ _ ⟨rfl, drE e57⟩)⟩
      rw [(bw.grow g50).cell]
      exact hz _ (by omega) (by omega)
    · rintro b w45 ⟨rfl, g45⟩
      have rb45 := brb.grow g45
      have bw45 := bw.grow g45
      refine cond_f rfl ⟨e', by rw [rb45.cell]; rfl, p, by rw [rb45.cell]; rfl, hin, st1_at bw45 (by omega), nm fun w48 e48 => ?_⟩
      obtain ⟨b48, t48⟩ := setE bw45 e48
      have st : Step (fun q => q = wn) w45 w48 (fun q => q = wn) := t48.step rfl
      have h45 := h.grow g45
      have wt45 := wt.grow g45
      obtain ⟨vv, tw⟩ := wt45.tw
      refine hj42 _ ⟨rb45.turn t48 (bk_neD rb45 bw45 (by decide)), _, h45.stable st (fun q hq e => h45.kind.not bw45 (by decide) (by decide) (by decide) (e ▸ hq)) (noT_one bw45 (by decide)) (noT_one bw45 (by decide)),
        ⟨wt45.o.turn t48 (bk_neD wt45.o bw45 (by decide)), vv, tw.step st (bk_neD tw.o bw45 (by decide)) (noT_one bw45 (by decide))⟩, Below.turn (Below.then g g.size g45) t48 hWn, b48, by simpa using hcs, fun j q1 q2 => ?_⟩
      rw [Array.getElem?_setIfInBounds_ne (by omega)]
      exact hz j (by omega) q2
  · rintro w40 ⟨rb40, cs', h40, wt40, g40, bw40, hcs', hz'⟩
    refine ⟨e', by rw [rb40.cell]; rfl, k _ _ _ ?_⟩
    exact ⟨i + 1, e', p, m, o, t, nn, S, am, cs', rfl, rfl, rfl, by omega, by omega, by omega, by omega, a0, a1, h40, wt40, hp, hm, hR, gd, g40, F, ho, ht, bw40, hcs', hz'⟩

theorem topRegister_t {W : World} (hE : Env W) {v pk : Value} {l : List UInt8} {ps : List Int} {arm : Int} (hr : RdB W v l) (hp : RdR EI W pk ps) :
    Go.CW.Spec Tryz.prog 6 #[v, .int .i64 arm, pk] W (Law W) := by
  apply gemeltop_TopRegister_wp
  refine known_c hE fun w1 gw1 => ⟨_, rfl, cond_f rfl ?_⟩
  refine JoinP.bool (fun q w' => (q = false → l.length ≤ 20 ∧ 1 ≤ arm ∧ arm ≤ 50 ∧ ps.length ≤ 20) ∧ w' = w1) (fun j hj => ⟨_, RdB.len hr, cond_intro (fun h1 => hj _ _ ⟨fun e => (by cases e), rfl⟩) (fun h1 => cond_intro (fun h2 => hj _ _ ⟨fun e => (by cases e), rfl⟩) (fun h2 => cond_intro (fun h3 => hj _ _ ⟨fun e => (by cases e), rfl⟩) (fun h3 => ⟨_, hp.len, hj _ _ ⟨fun e => ?_, rfl⟩⟩)))⟩) ?_
  · simp at h1 h2 h3 e
    omega
  rintro q w4 ⟨hq, rfl⟩
  refine cond_intro (fun _ => ⟨rfl, gw1⟩) (fun hq' => ?_)
  obtain ⟨hl20, ha1, ha2, hps⟩ := hq hq'
  clear hq hq'
  have sW := gw1.size
  refine dNew_c (N := 2) (by omega) fun d mb w6 g6 hd hmb h6 => ⟨_, _, rfl, ?_⟩
  have hp6 : RdR EI w6 pk ps := (hp.grow gw1).grow g6
  have pkW : ∀ q, pk.ownBlock = some q → ps ≠ [] → q < W.heap.size := by
    intro q hq hne
    obtain ⟨a, cap, rfl, k1, k2, k3, k4⟩ := hp
    have : 0 < (EI.flat ps).length := by rw [Enc.flat_length]; have := List.length_pos_iff.2 hne; show 0 < ps.length * 1; omega
    obtain ⟨x, rfl, hx⟩ := k4 0 _ (List.getElem?_eq_getElem this)
    cases hq
    have := World.block_lt_of_cell? W _ hx
    rwa [add_block] at this
  refine wFormat_l (e := 1) (p := 0) (m := 3) h6 rfl (by omega) rfl (by simp) (by decide) (by decide) (by decide) (by decide) fun S1 w10 st10 h10 c10 => ⟨_, rfl, ?_⟩
  have gd10 : Gd (cont S1) 1 0 3 := by rw [c10]; exact Gd.first 0 3
  have s6 := g6.size
  have F6 : ∀ q, FD d mb (fun _ => none) q → W.heap.size ≤ q := fun q hq => by
    rcases hq with rfl | rfl | ⟨x, s, hs, _⟩
    · omega
    · omega
    · cases hs
  have F10 : ∀ q, FD d mb S1 q → W.heap.size ≤ q := fun q hq => by
    rcases st10.fp q hq with e | e
    · exact F6 q e
    · omega
  have g10 : Grow W w10 := (gw1.then g6).trans (st10.to_below (Nat.le_trans sW s6) F6)
  refine wOpen_c h10 rfl (by decide) (gd10.tw (by decide) (by decide)) (by decide) (by decide) (by decide) (by decide) fun o t w13 g13 ho13 ht13 wt13 _ _ => ⟨_, _, rfl, ?_⟩
  have h13 := h10.grow g13
  have s10 := g10.size
  have s13 := g13.size
  have g13' := g10.then g13
  have hp13 : RdR EI w13 pk ps := hp.grow g13'
  have hxd : ps ≠ [] → pk.ownBlock ≠ some d := fun hne h => by have := pkW d h hne; omega
  refine Arm_l h13 (by omega) hp13 (by omega) hxd fun w17 st17 h17 => ⟨rfl, nm fun w18 e18 => ?_⟩
  obtain ⟨b18, g18, s18⟩ := alE e18
  have nF : ∀ {S : SF} {w : World} {n : Nat} {D : Dk} {b : Nat} {cs : Array Value} {ty : TypeId}, DL w d mb n D S → BK w b cs ty → ty ≠ tDk → ty ≠ tSc → ty ≠ tB → ¬ FD d mb S b := fun h b h1 h2 h3 => h.kind.not b h1 h2 h3
  have wt17 : WAt w17 o t d 1 1 0 3 := by
    obtain ⟨vv, tw⟩ := wt13.tw
    exact ⟨wt13.o.stepS st17 (nF h13 wt13.o (by decide) (by decide) (by decide)), vv, tw.step st17 (nF h13 tw.o (by decide) (by decide) (by decide)) (h13.kind.noT (by decide) (by decide) (by decide))⟩
  have g17 : Grow W w17 := g13'.trans (st17.to_below g13'.size F10)
  have s17 := st17.size
  have h18 := h17.grow g18
  have wt18 := wt17.grow g18
  have g18' := g17.then g18
  generalize hwn : w17.heap.size = wn at *
  have hWn : W.heap.size ≤ wn := by omega
  refine ⟨fun (oo : Option Addr) (now : Int) (ix : Int) (w23 : World) => Inv W d mb wn l.length ps oo now ix w23,
    fun (_ : Option Addr) (_ : Int) (ix : Int) (_ : World) => ((l.length : Int) - ix).toNat,
    ⟨0, 1, 0, 3, o, t, 2, S1, arm, _, rfl, rfl, rfl, by omega, by omega, by omega, by omega, by omega, by omega, h18, wt18, by decide, by decide, by decide, gd10, g18', F10, by omega, by omega, b18, rfl, fun j _ hj => ?_⟩, ?_⟩
  · have : ∀ j : Fin 64, (Array.replicate 64 (Value.int .i64 (0 : Int)))[j.val]? = some (.int .i64 (0 : Int)) := by
      intro j; simp
    have h2 := this ⟨j, hj⟩
    rw [← h2]; rfl
  dsimp only [allR, mapR2, eqN, ltN]
  rintro mm oo now ix w23 ⟨⟨i, e, p, m, o, t, nn, S, am, cs, rfl, rfl, rfl, hi, he1, hei, hnn, ham0, ham1, h23, wt23, hp0, hm0, hR, gd, g23, F23, hoW, htW, b23, hcs, hz⟩, hm⟩
  refine ⟨_, RdB.len hr, cond_intro (fun hc => ?_) (fun hc => ?_)⟩
  · have hil : i < l.length := by simpa using hc
    have he64 : now < 64 := by omega
    obtain ⟨a25, ha25, hc25⟩ := rd_atB (hr.grow g23) (i := (i : Int)) rfl hil
    generalize hcx : l.getD i 0 = c at *
    refine ⟨a25, ha25, _, hc25, ?_⟩
    rw [and1 c]
    obtain ⟨p', m', hpm, q1, q2, q3⟩ : ∃ p' m' : Int, ((p' = 0 ∧ m' = 1) ∨ (p' = 1 ∧ m' = 2)) ∧ 0 ≤ IntKind.wrap .u64 (IntKind.wrap .i64 ((c.toNat % 2 : Nat) : Int)) ∧ IntKind.wrap .i64 ((c.toNat % 2 : Nat) : Int) = p' ∧
        IntKind.wrap .i64 ((1 : Int) * ((2 : Int) ^ (min (Int.toNat (IntKind.wrap .u64 (IntKind.wrap .i64 ((c.toNat % 2 : Nat) : Int)))) 64))) = m' := by
      have : c.toNat % 2 = 0 ∨ c.toNat % 2 = 1 := by omega
      rcases this with h | h <;> rw [h]
      · exact ⟨0, 1, .inl ⟨rfl, rfl⟩, by decide, by decide, by decide⟩
      · exact ⟨1, 2, .inr ⟨rfl, rfl⟩, by decide, by decide, by decide⟩
    have hew : IntKind.wrap .u64 (now + 1) = now + 1 := w64_id (by omega) (by omega)
    refine leK_intro q1 ?_
    rw [q3, q2, hew]
    have hp' : 0 ≤ p' ∧ p' < 256 := by omega
    have hm' : 0 ≤ m' ∧ m' < 256 := by omega
    have hR' : rightB p' m' = true := by rcases hpm with ⟨rfl, rfl⟩ | ⟨rfl, rfl⟩ <;> decide
    have nwn : wn ≠ o := bk_neD b23 wt23.o (by decide)
    obtain ⟨vt, tw23⟩ := wt23.tw
    have nwt : wn ≠ t := bk_neD b23 tw23.o (by decide)
    have nwf : ¬ FD d mb S wn := nF h23 b23 (by decide) (by decide) (by decide)
    have FWs : ∀ q, FW o t d mb S q → W.heap.size ≤ q := fun q hq => by
      rcases hq with rfl | rfl | hq
      · exact hoW
      · exact htW
      · exact F23 q hq
    have nw : ¬ FW o t d mb S wn := fun hq => by
      rcases hq with e | e | hq
      · exact nwn e
      · exact nwt e
      · exact nwf hq
    -- behind the ask: the register's block rb holds (e', p'', m''), and a witness has it
    refine Cas_l h23 wt23 rfl (by omega) ⟨ham0, ham1⟩ (show ps.length ≤ 1000000 by omega) (show 1 < (2 : Int) ∧ (2 : Int) ≤ 4294967296 by decide) (by omega) (by omega) ⟨by omega, by omega⟩ hp' hm' hR' (fun S' w28 st28 h28 c28 wt28 => ⟨_, _, _, _, _, rfl, nm fun w34 e34 => ?_⟩) (fun S' w28 er her st28 h28 c28 => ⟨_, _, _, _, _, rfl, nm fun w34 e34 => ?_⟩)
    all_goals
      obtain ⟨b34, g34, s34⟩ := alE e34
      have g28 : Grow W w28 := g23.trans (st28.to_below g23.size FWs)
      have F28 : ∀ q, FD d mb S' q → W.heap.size ≤ q := fun q hq => by
        rcases st28.fp q (.inr (.inr hq)) with e | e
        · exact FWs q e
        · exact Nat.le_trans g23.size e
      have b28 := b23.stepS st28 nw
      have hda := decA2 ham0 ham1
      refine ⟨b34.row rfl rfl, nm fun w35 e35 => JoinP.ptr (Q37 W d mb wn w28.heap.size now i ps cs) (fun j61 hj61 => ?_) (fun oo w37 hq37 => ?_)⟩
      obtain ⟨b35, t35⟩ := rowE b34 e35 rfl
      have g35 : Grow w28 w35 := Below.turn g34 t35 (Nat.le_refl _)
    · refine cond_f rfl (cond_f rfl (hj61 _ _ ⟨now + 1, p', m', o, t, nn + 1, S', decA (decA am), .inr rfl, rfl, b35, by omega, hda.1, hda.2, h28.grow g35, wt28.grow g35, hp', hm', hR', ?_, g28.then g35, F28, hoW, htW, b28.grow g35⟩))
      rw [c28]; exact gd.wr he1 (by omega)
    · have key := tail37 (R := Law W) (j19 := fun oo e' k w40 => Inv W d mb wn l.length ps oo e' k w40 ∧ ((l.length : Int) - k).toNat < mm) (len := l.length) hcs hz he1 (by omega) hei hil hl20 hWn hq37 fun oo e' w40 hinv => ?_
      · exact key
      have ew : IntKind.wrap .i64 ((i : Int) + (1 : Int)) = ((i + 1 : Nat) : Int) := by rw [wi64_id (by omega) (by omega)]; omega
      rw [ew]
      exact ⟨hinv, by omega⟩
    · obtain ⟨e', p'', m'', he', hp'', hm'', hR'', gd''⟩ : ∃ e' p'' m'' : Int, (e' = now ∨ e' = now + 1) ∧ (0 ≤ p'' ∧ p'' < 256) ∧ (0 ≤ m'' ∧ m'' < 256) ∧ rightB p'' m'' = true ∧ Gd (cont S') e' p'' m'' := by
        rcases c28 with hcr | hcr
        · exact ⟨now, p, m, .inl rfl, hp0, hm0, hR, gd.crash hcr⟩
        · rcases gd.crashW he1 (by omega) hcr with g' | g'
          · exact ⟨now, p, m, .inl rfl, hp0, hm0, hR, g'⟩
          · exact ⟨now + 1, p', m', .inr rfl, hp', hm', hR', g'⟩
      have h35 := h28.grow g35
      have gW35 := g28.then g35
      refine cond_t (by simpa using her) (On_l h35 fun w63 st63 h63 => ⟨rfl, ?_⟩)
      have b35' : BK w63 w28.heap.size #[.int .u64 now, .int .i64 p, .int .i64 m] tRg := b35.stepS st63 (nF h35 b35 (by decide) (by decide) (by decide))
      have bw35 := b28.grow g35
      have bw63 := bw35.stepS st63 (nF h35 bw35 (by decide) (by decide) (by decide))
      have g63 : Grow W w63 := gW35.trans (st63.to_below gW35.size F28)
      refine wOpen_c h63 rfl (show 1 < (2 : Int) ∧ (2 : Int) ≤ 4294967296 by decide) (gd''.tw (by omega) (by omega)) ⟨by omega, by omega⟩ hp'' hm'' hR'' fun o' t' w65 g65 ho' ht' wt65 _ _ => ⟨_, _, rfl, ?_⟩
      refine JoinP.bool (fun b w' => b = false ∧ w' = w65) (fun j76 hj76 => cond_f rfl ⟨false, rfl, hj76 _ _ ⟨rfl, rfl⟩⟩) ?_
      rintro b w69 ⟨rfl, rfl⟩
      refine cond_f rfl (wGet_c wt65 fun w71 g71 => ⟨_, _, _, rfl, ?_⟩)
      have gg := g65.then g71
      have rb71 := b35'.grow gg
      refine ⟨rb71.row rfl rfl, nm fun w75 e75 => ?_⟩
      obtain ⟨b75, t75⟩ := rowE rb71 e75 rfl
      have st : Step (fun q => q = w28.heap.size) w71 w75 (fun q => q = w28.heap.size) := t75.step rfl
      have h71 := h63.grow gg
      have wt71 := wt65.grow g71
      obtain ⟨vv, tw⟩ := wt71.tw
      have bw71 := bw63.grow gg
      have s28 := g28.size
      have s63 := g63.size
      exact hj61 _ _ ⟨e', p'', m'', o', t', nn + 1, S', 0, he', rfl, b75, by omega, by omega, by omega, h71.stable st (fun q hq e => h71.kind.not rb71 (by decide) (by decide) (by decide) (e ▸ hq)) (noT_one rb71 (by decide)) (noT_one rb71 (by decide)),
        ⟨wt71.o.turn t75 (bk_neD wt71.o rb71 (by decide)), vv, tw.step st (bk_neD tw.o rb71 (by decide)) (noT_one rb71 (by decide))⟩, hp'', hm'', hR'', gd'', Below.turn (g63.then gg) t75 s28, F28, by omega, by omega, bw71.turn t75 (bk_neD bw71 rb71 (by decide))⟩
    · have key := tail37 (R := Law W) (j19 := fun oo e' k w40 => Inv W d mb wn l.length ps oo e' k w40 ∧ ((l.length : Int) - k).toNat < mm) (len := l.length) hcs hz he1 (by omega) hei hil hl20 hWn hq37 fun oo e' w40 hinv => ?_
      · exact key
      have ew : IntKind.wrap .i64 ((i : Int) + (1 : Int)) = ((i + 1 : Nat) : Int) := by rw [wi64_id (by omega) (by omega)]; omega
      rw [ew]
      exact ⟨hinv, by omega⟩
  · exact wGet_c wt23 fun w79 g79 => ⟨_, _, _, rfl, by simp, g23.then g79⟩

theorem topRegister_s {W : World} (hE : Env W) {v pk : Value} {l : List UInt8} {ps : List Int} {arm : Int} (hr : RdB W v l) (ha : Fits .i64 arm) (hf : ∀ k ∈ ps, Fits .i64 k) (hp : Rd W pk (ps.map (Value.int .i64))) :
    Go.CW.Spec Tryz.prog 6 #[v, .int .i64 arm, pk] W (Law W) := topRegister_t hE hr (ei_of hp)

end Go.Proofs.YtghineciiljeoaaGreatDoor
