/- The pipe's turns. -/
import Derived.Test.YtdinpgnjnleioaaGreatDoorKPipA
set_option linter.unusedSimpArgs false
set_option linter.unusedVariables false
set_option maxRecDepth 100000
namespace Go.Proofs.YtdinpgnjnleioaaGreatDoor.Pip
open Go Go.CW Go.RowKit Go.Proofs.YtdinpgnjnleioaaGreatDoor Go.Proofs.YtdinpgnjnleioaaGreatDoor.Pdu
open Go.Proofs.YtdinpgnjnleioaaGreatDoor.Ses (Wire WireOk Doer St SAt Cm Rp wireP wireP_ok Prm decS_ok)
open Go.Proofs.YtdinpgnjnleioaaGreatDoor.Cli (Cl Pq encs CAt askB)
abbrev tPip : TypeId := 60
abbrev rPip (gc gs gd : Nat) : Array Value := #[.pointer (some ⟨gc, 0, none⟩), .pointer (some ⟨gs, 0, none⟩), .pointer (some ⟨gd, 0, none⟩)]
variable {B : Nat} {K : Doer} {A : List (List UInt8)} {p : Prm} {gp gc gs gd : Nat} {w : World}
def PI (B : Nat) (K : Doer) (A : List (List UInt8)) (gp gc gs gd : Nat) (w : World) (a : Cl × St K.U) : Prop := ∃ Sc Ss, Pp B Txt.Env K A w gp (rPip gc gs gd) tPip gc gs Sc Ss a.1 a.2
theorem x_to {S : Fp} {v : Value} {xs : List UInt8} (h : RdX S w v (xs.map b8)) {m : Nat} (hm : m ≤ xs.length) :
 ∃ v', subSlice v 1 none (some (.int .i64 (m : Int))) none = some v' ∧ RdX S w v' ((xs.take m).map b8) := by
 obtain ⟨v', h1, h2, h3⟩ := h.1.sub (lo := none) (hi := some (.int .i64 (m : Int))) (l := 0) (r := m) (fun cap hc => bounds_ni (by omega) (by rw [List.length_map] at hc; omega)) (by omega) (by simpa using hm)
 have e : (((xs.map b8).drop 0).take (m - 0)) = (xs.take m).map b8 := by simp [List.map_take]
 rw [e] at h2
 exact ⟨v', h1, h.part h2 h3 (fun hy hx => hy (by have : xs = [] := by simpa using hx
                                                  subst this; simp))⟩
theorem x_from {S : Fp} {v : Value} {xs : List UInt8} (h : RdX S w v (xs.map b8)) {m : Nat} (hm : m ≤ xs.length) :
 ∃ v', subSlice v 1 (some (.int .i64 (m : Int))) none none = some v' ∧ RdX S w v' ((xs.drop m).map b8) := by
 obtain ⟨v', h1, h2, h3⟩ := h.1.sub (lo := some (.int .i64 (m : Int))) (hi := none) (l := m) (r := (xs.map b8).length) (fun cap hc => bounds_in (by omega) (by rw [List.length_map]; omega)) (by simpa using hm) (Nat.le_refl _)
 have e : (((xs.map b8).drop m).take ((xs.map b8).length - m)) = (xs.drop m).map b8 := by
  rw [List.take_of_length_le (by simp), List.map_drop]
 rw [e] at h2
 exact ⟨v', h1, h.part h2 h3 (fun hy hx => hy (by have : xs = [] := by simpa using hx
                                                  subst this; simp))⟩
theorem turn_c {n : Nat} {cut : Int} {a b : Cl × St K.U} (hn : n ≤ 100000) (hcut : 1 ≤ cut) (T : Turns K A p n a b) (h : PI B K A gp gc gs gd w a) {R : KV}
 (k : ∀ w', Below B w w' → PI B K A gp gc gs gd w' b → R (.tuple #[]) w') :
 CW.Spec Tryz.prog 19 #[.pointer (some ⟨gp, 0, none⟩), .int .i64 (n : Int), .int .i64 cut] w R := by
 apply q40W
 refine ⟨fun (i : Int) (w' : World) => ∃ i' : Nat, i = (i' : Int) ∧ i' ≤ n ∧ Below B w w' ∧ ∃ m, Turns K A p (n - i') m b ∧ PI B K A gp gc gs gd w' m, fun (i : Int) (_ : World) => ((n : Int) - i).toNat, ⟨0, rfl, by omega, Below.refl B w, a, T, h⟩, ?_⟩
 dsimp only [allR, mapR2, eqN, ltN]
 rintro M _ w2 ⟨⟨i, rfl, hi, hb, ⟨c, x⟩, hT, Sc, Ss, H⟩, hm⟩
 refine cond_intro (fun hc => ?_) (fun hc => ?_)
 · have hlt : i < n := by simp at hc; omega
   obtain ⟨j, hj⟩ : ∃ j, n - i = j + 1 := ⟨n - i - 1, by omega⟩
   rw [hj] at hT
   obtain ⟨⟨c', y⟩, t1, hT'⟩ := hT
   have ej : j = n - (i + 1) := by omega
   subst ej
   have fin : ∀ w9, Below B w2 w9 → PI B K A gp gc gs gd w9 (c', y) → (∃ i' : Nat, IntKind.wrap .i64 ((i : Int) + 1) = (i' : Int) ∧ i' ≤ n ∧ Below B w w9 ∧ ∃ m, Turns K A p (n - i') m b ∧ PI B K A gp gc gs gd w9 m) ∧ ((n : Int) - IntKind.wrap .i64 ((i : Int) + 1)).toNat < M := by
    intro w9 b9 h9
    rw [wi64_id (by omega) (by omega)]
    exact ⟨⟨i + 1, by omega, by omega, hb.trans b9, _, hT', h9⟩, by omega⟩
   refine withAddr_some ⟨_, H.b.cell 0, ?_⟩
   cases t1 with
   | idle o he =>
     refine cOut_c H.h o.ok o.say o.ask fun v w6 Sc' st h' r' o' => ?_
     rw [he] at h' r'
     have H6 := H.cl st h'
     refine ⟨fun (v8 : Value) (w9 : World) => v8 = v ∧ w9 = w6, fun _ _ => 0, ⟨rfl, rfl⟩, ?_⟩
     dsimp only [allR, mapR2, eqN, ltN]
     rintro M' v8 w9 ⟨⟨rfl, rfl⟩, hm'⟩
     refine ⟨_, RdB.len r', cond_f (by simp) ?_⟩
     exact fin _ (Step.low st H.h.hB H.h.lc) ⟨_, _, H6⟩
   | @way _ c1 _ _ _ q ds qs o he W =>
     refine cOut_c H.h o.ok o.say o.ask fun v w6 Sc' st h' r' o' => ?_
     rw [he] at h' r'
     have H6 := H.cl st h'
     have b6 := Step.low st H.h.hB H.h.lc
     have hlen : (encP q ds).length ≤ 5000 := by have := W.pn; rw [encP_length]; split <;> omega
     obtain ⟨z1, z2⟩ := W.zero
     refine ⟨fun (v8 : Value) (w9 : World) => ∃ (k : Nat) (Sc Ss : Fp), k ≤ (encP q ds).length ∧ Below B w2 w9 ∧ RdX (Both Sc Ss) w9 v8 (((encP q ds).drop k).map b8) ∧ Pp B Txt.Env K A w9 gp (rPip gc gs gd) tPip gc gs Sc Ss (cAtK q ds c1 c' k) (sAtK q ds x y k), fun (v8 : Value) (_ : World) => (sliceLen v8).getD 0,
      ⟨0, Sc', Ss, Nat.zero_le _, b6, ⟨r', fun _ q' hq => fun hk => hk.elim (o' q' hq).1 (o' q' hq).2.1⟩, by rw [z1, z2]; exact H6⟩, ?_⟩
     dsimp only [allR, mapR2, eqN, ltN]
     rintro M' v8 w9 ⟨⟨kk, Sc1, Ss1, hk, b9, r9, H9⟩, hm'⟩
     have hl9 := r9.1.len
     rw [List.length_map, List.length_drop] at hl9
     rw [hl9] at hm'
     refine ⟨_, hl9, cond_intro (fun hc9 => ?_) (fun hc9 => ?_)⟩
     · have hkl : kk < (encP q ds).length := by simp at hc9; omega
       refine ⟨_, hl9, ?_⟩
       refine JoinP.int (fun n12 w13 => w13 = w9 ∧ ∃ m : Nat, n12 = (m : Int) ∧ 1 ≤ m ∧ kk + m ≤ (encP q ds).length) (fun jj hjj => ?_) ?_
       · refine cond_intro (fun h2 => hjj _ _ ⟨rfl, ?_⟩) (fun h2 => hjj _ _ ⟨rfl, ?_⟩)
         · simp at h2
           exact ⟨cut.toNat, by omega, by omega, by omega⟩
         · exact ⟨(encP q ds).length - kk, rfl, by omega, by omega⟩
       · rintro _ _ ⟨rfl, m, rfl, hm1, hm2⟩
         refine nm fun w14 e14 => ?_
         have g14 := drE e14
         have H14 := H9.grow g14
         refine withAddr_some ⟨_, H14.b.cell 0, withAddr_some ⟨_, H14.b.cell 1, ?_⟩⟩
         obtain ⟨v19, q1, q2⟩ := x_to r9 (m := m) (by rw [List.length_drop]; omega)
         refine ⟨v19, q1, nm fun w20 e20 => ?_⟩
         have g20 := drE e20
         have H20 := H9.grow g20
         have r20 := q2.grow g20
         have hne : (((encP q ds).drop kk).take m).map b8 ≠ [] := by
          intro e
          have := congrArg List.length e
          simp at this; omega
         have ec : cAtK q ds c1 c' kk = c1 := by unfold cAtK; rw [if_pos hkl]
         rw [ec] at H20
         refine W.s_c wireP_ok hkl hm2 H20.h r20.1 (fun q' hq hs => r20.2 hne q' hq (.inr hs)) fun v21 w22 Ss2 st2 h22 r22 => ?_
         have H22 := H20.se st2 h22
         refine ⟨⟨_, H22.b.cell 0, rfl⟩, ?_⟩
         refine W.c_c decS_ok H22.h r22 fun w25 Sc2 st3 h25 => ?_
         have H25 := H22.cl st3 h25
         have r25 : RdX (Both Sc2 Ss2) w25 v8 (((encP q ds).drop kk).map b8) := ((r9.grow g20).step st2.right).step st3.left
         obtain ⟨v26, q3, q4⟩ := x_from r25 (m := m) (by rw [List.length_drop]; omega)
         rw [List.drop_drop] at q4
         have hl26 := q4.1.len
         rw [List.length_map, List.length_drop] at hl26
         refine ⟨rfl, v26, q3, ⟨kk + m, Sc2, Ss2, hm2, ?_, q4, H25⟩, ?_⟩
         · exact (b9.trans (g20.mono H9.h.hB)).trans ((Step.low st2 H20.h.hB H20.h.ls).trans (Step.low st3 H22.h.hB H22.h.lc))
         · rw [hl26]
           show (encP q ds).length - (kk + m) < M'
           have : (encP q ds).length - kk = M' := hm'
           omega
     · have hke : kk = (encP q ds).length := by simp at hc9; omega
       subst hke
       obtain ⟨y1, y2⟩ := way_end q ds c1 c' x y
       rw [y1, y2] at H9
       exact fin _ b9 ⟨_, _, H9⟩
 · have he : i = n := by simp at hc; omega
   subst he
   rw [Nat.sub_self] at hT
   have hT : (c, x) = b := hT
   subst hT
   exact k _ hb ⟨_, _, H⟩
end Go.Proofs.YtdinpgnjnleioaaGreatDoor.Pip
