/- Runs in which nothing is unknown: regions, code, calls. For every program. -/
import Derived.Test.YtghineciiljeoaaGreatDoorQExOne
import Derived.LoopN
namespace Go.CW.Ex
open Go.RowKit
variable {P : Program} {w0 w : World} {B : Nat} {φ : PM} {h h' : H}
theorem guardE_yes {ops : List Oper} {o : Oper} {fe : FE} {fr : Fr} (hg : guardE ops o fe = some true) (hf : FR φ fe fr) {yes no : Fr → Prop} (hy : ∀ fr', FR φ fe fr' → yes fr') : guardK ops o fr yes no := by
 unfold guardE at hg
 unfold guardK
 split at hg
 · next e => simp only [e]; exact hy fr hf
 · next j want e =>
   simp only [e]
   split at hg
   · next d hd =>
     rw [hd]
     simp only
     have hv := hf d
     split at hg
     · next t ht =>
       rw [ht] at hv
       simp only [upV, Option.some.injEq] at hv
       rw [← hv]
       have hfr : FR φ fe ((d, .bool t) :: fr) := by
        intro s
        rw [get_cons]
        by_cases e : s = d
        · subst e; rw [if_pos rfl, ht]; rfl
        · rw [if_neg e]; exact hf s
       unfold guardV
       cases t <;> cases want <;> simp only [cond_true, cond_false, Bool.not_true, Bool.not_false, Option.some.injEq] at hg ⊢ <;> first | exact hy _ hfr | (cases hg)
     · cases hg
   · cases hg
theorem guardE_no {ops : List Oper} {o : Oper} {fe : FE} {fr : Fr} (hg : guardE ops o fe = some false) (hf : FR φ fe fr) {yes no : Fr → Prop} (hy : ∀ fr', FR φ fe fr' → no fr') : guardK ops o fr yes no := by
 unfold guardE at hg
 unfold guardK
 split at hg
 · cases hg
 · next j want e =>
   simp only [e]
   split at hg
   · next d hd =>
     rw [hd]
     simp only
     have hv := hf d
     split at hg
     · next t ht =>
       rw [ht] at hv
       simp only [upV, Option.some.injEq] at hv
       rw [← hv]
       have hfr : FR φ fe ((d, .bool t) :: fr) := by
        intro s
        rw [get_cons]
        by_cases e : s = d
        · subst e; rw [if_pos rfl, ht]; rfl
        · rw [if_neg e]; exact hf s
       unfold guardV
       cases t <;> cases want <;> simp only [cond_true, cond_false, Bool.not_true, Bool.not_false, Option.some.injEq] at hg ⊢ <;> first | exact hy _ hfr | (cases hg)
     · next hnb =>
       unfold guardV
       split
       · next t e2 =>
         exfalso
         rw [e2] at hv
         cases hge : getE fe d with
         | bool t' => exact hnb t' hge
         | ptr b o => rw [hge] at hv; simp only [upV] at hv; split at hv <;> cases hv
         | sl b o l c => rw [hge] at hv; simp only [upV] at hv; split at hv <;> cases hv
         | su b o l => rw [hge] at hv; simp only [upV] at hv; split at hv <;> cases hv
         | st b o l z => rw [hge] at hv; simp only [upV] at hv; split at hv <;> cases hv
         | mp b => rw [hge] at hv; simp only [upV] at hv; split at hv <;> cases hv
         | fn f a c => rw [hge] at hv; simp only [upV] at hv; split at hv <;> cases hv
         | agg l => rw [hge] at hv; simp only [upV] at hv; split at hv <;> cases hv
         | tup l => rw [hge] at hv; simp only [upV] at hv; split at hv <;> cases hv
         | _ => rw [hge] at hv; simp only [upV] at hv; cases hv
       · exact hy fr hf
   · cases hg
def dstOk (ops : List Oper) : Prop := ∀ o ∈ ops, ∀ d, o.dst = some d → d < 1000000000
theorem dstOk_of {N : Nat} (hN : N ≤ 100000) : ∀ {ops : List Oper}, wfOps N ops = true → dstOk ops := by
 intro ops
 induction ops with
 | nil => intro _ o ho; cases ho
 | cons o r ih =>
   intro hw o' ho' d hd
   simp only [wfOps, Bool.and_eq_true] at hw
   cases List.mem_cons.1 ho' with
   | inl e =>
     subst e
     have := hw.1
     rw [hd] at this
     simp at this
     exact Nat.lt_of_lt_of_le this (by omega)
   | inr e => exact ih hw.2 o' e d hd
theorem opsE_sound {call : CallT} (hc : CallOk P w0 B call) {ops : List Oper} {K : Fr → World → Prop} {fe' : FE} : ∀ (l : List Oper) (fe : FE) (h : H) (φ : PM) (fr : Fr) (w : World), dstOk l → opsE P call ops l fe h = some (fe', h') → FR φ fe fr → Hd w0 B φ h w →
 (∀ φ' fr' w', Ext φ φ' → FR φ' fe' fr' → Hd w0 B φ' h' w' → K fr' w') → opsK P ops K l fr w := by
 intro l
 induction l with
 | nil => intro fe h φ fr w _ ho hf r hK; simp only [opsE] at ho; cases ho; exact hK φ fr w (Ext.refl _) hf r
 | cons o l ih =>
   intro fe h φ fr w hd ho hf r hK
   have hd1 : ∀ d, o.dst = some d → d < 1000000000 := hd o (by simp)
   have hd2 : dstOk l := fun o' ho' => hd o' (by simp [ho'])
   simp only [opsE] at ho
   simp only [opsK]
   split at ho
   · next hg =>
     split at ho
     · next v h1 hop =>
       refine guardE_yes hg hf fun fr1 hf1 => opE_sound hc hop hf1 r fun x w' hx => ?_
       obtain ⟨φ', g1, g2, g3⟩ := hx
       exact ih _ _ φ' _ w' hd2 ho ((hf1.mono g1).put g2 hd1) g3 fun φ'' fr' w'' e => hK φ'' fr' w'' (g1.trans e)
     · cases ho
   · next hg => exact guardE_no hg hf fun fr1 hf1 => ih _ _ φ _ w hd2 ho (hf1.put (upV_und φ) hd1) r hK
   · cases ho
theorem beqB_eq {a b : Bool} (h : beqB a b = true) : a = b := by cases a <;> cases b <;> first | rfl | cases h
mutual
theorem veq_eq : ∀ (a b : EV), veq a b = true → a = b
 | .int k n, b, h => by
   cases b with
   | int k' m => simp only [veq, Bool.and_eq_true] at h; obtain ⟨h1, h2⟩ := h; rw [eqE_eq, beq_iff_eq] at h2; rw [kEq_eq h1, h2]
   | _ => simp [veq] at h
 | .bool a, b, h => by
   cases b with
   | bool b' => simp only [veq] at h; rw [beqB_eq h]
   | _ => simp [veq] at h
 | .str s, b, h => by
   cases b with
   | str t => simp only [veq] at h; rw [eqNL_iff.1 h]
   | _ => simp [veq] at h
 | .ptr b1 o, b, h => by
   cases b with
   | ptr b' o' => simp only [veq, Bool.and_eq_true, Nat.beq_eq] at h; rw [h.1, h.2]
   | _ => simp [veq] at h
 | .nilp, b, h => by
   cases b with
   | nilp => rfl
   | _ => simp [veq] at h
 | .sl b1 o l c, b, h => by
   cases b with
   | sl b' o' l' c' => simp only [veq, Bool.and_eq_true, Nat.beq_eq] at h; rw [h.1.1.1, h.1.1.2, h.1.2, h.2]
   | _ => simp [veq] at h
 | .su b1 o l, b, h => by
   cases b with
   | su b' o' l' => simp only [veq, Bool.and_eq_true, Nat.beq_eq] at h; rw [h.1.1, h.1.2, h.2]
   | _ => simp [veq] at h
 | .st b1 o l z, b, h => by
   cases b with
   | st b' o' l' z' => simp only [veq, Bool.and_eq_true, Nat.beq_eq] at h; rw [h.1.1.1, h.1.1.2, h.1.2, beqB_eq h.2]
   | _ => simp [veq] at h
 | .nils, b, h => by
   cases b with
   | nils => rfl
   | _ => simp [veq] at h
 | .mp b1, b, h => by
   cases b with
   | mp b' => simp only [veq, Nat.beq_eq] at h; rw [h]
   | _ => simp [veq] at h
 | .nilm, b, h => by
   cases b with
   | nilm => rfl
   | _ => simp [veq] at h
 | .fn f a c, b, h => by
   cases b with
   | fn f' a' c' => simp only [veq, Bool.and_eq_true, Nat.beq_eq] at h; rw [h.1.1, veqL_eq a a' h.1.2, veqL_eq c c' h.2]
   | _ => simp [veq] at h
 | .nilf, b, h => by
   cases b with
   | nilf => rfl
   | _ => simp [veq] at h
 | .nili, b, h => by
   cases b with
   | nili => rfl
   | _ => simp [veq] at h
 | .agg l, b, h => by
   cases b with
   | agg l' => simp only [veq] at h; rw [veqL_eq l l' h]
   | _ => simp [veq] at h
 | .tup l, b, h => by
   cases b with
   | tup l' => simp only [veq] at h; rw [veqL_eq l l' h]
   | _ => simp [veq] at h
termination_by a => SizeOf.sizeOf a
theorem veqL_eq : ∀ (a b : List EV), veqL a b = true → a = b
 | [], b, h => by cases b with | nil => rfl | cons x y => simp [veqL] at h
 | x :: a, b, h => by
   cases b with
   | nil => simp [veqL] at h
   | cons y b => simp only [veqL, Bool.and_eq_true] at h; rw [veq_eq x y h.1, veqL_eq a b h.2]
termination_by a => SizeOf.sizeOf a
end
theorem veqP_eq : ∀ (a b : List (EV × EV)), veqP a b = true → a = b
 | [], b, h => by cases b with | nil => rfl | cons x y => simp [veqP] at h
 | (x, y) :: a, b, h => by
   cases b with
   | nil => simp [veqP] at h
   | cons z b => obtain ⟨x', y'⟩ := z; simp only [veqP, Bool.and_eq_true] at h; rw [veq_eq _ _ h.1.1, veq_eq _ _ h.1.2, veqP_eq a b h.2]
theorem meq_eq {a b : MB} (h : meq a b = true) : a = b := by
 cases a <;> cases b <;> first | rfl | (simp only [meq, Bool.and_eq_true, Nat.beq_eq] at h; skip)
 case cells.cells => rw [h.1.1.1, h.1.1.2, beqB_eq h.1.2, veqL_eq _ _ h.2]
 case mp.mp => rw [veqP_eq _ _ h]
 all_goals cases h
theorem teq_eq {α : Type} {eq : α → α → Bool} (he : ∀ a b, eq a b = true → a = b) : ∀ {a b : Tr α}, teq eq a b = true → a = b := by
 intro a
 induction a with
 | lf => intro b h; cases b with | lf => rfl | nd => simp [teq] at h
 | nd v l r il ir =>
   intro b h
   cases b with
   | lf => simp [teq] at h
   | nd v' l' r' =>
     simp only [teq, Bool.and_eq_true] at h
     rw [il h.1.2, ir h.2]
     have : v = v' := by
      have := h.1.1
      cases v <;> cases v' <;> simp only [oeq] at this
      · rfl
      · cases this
      · cases this
      · rw [he _ _ this]
     rw [this]
theorem heq_eq {a b : H} (h : heq a b = true) : a = b := by
 simp only [heq, Bool.and_eq_true, Nat.beq_eq] at h
 obtain ⟨t, n⟩ := a
 obtain ⟨t', n'⟩ := b
 simp only at h
 rw [h.1, teq_eq (fun _ _ => meq_eq) h.2]
theorem joinAll_spec : ∀ {l : List (Option (FE × H))} {x : FE × H}, joinAll l = some x → l ≠ [] ∧ ∀ y ∈ l, y = some x := by
 intro l
 induction l with
 | nil => intro x h; simp [joinAll] at h
 | cons a l ih =>
   intro x h
   cases l with
   | nil =>
     simp only [joinAll] at h
     exact ⟨by simp, fun y hy => by simp at hy; rw [hy, h]⟩
   | cons b l =>
     simp only [joinAll] at h
     split at h
     · next fe1 h1 fe2 h2 hj =>
       cases hb : teq veq fe1 fe2 && heq h1 h2
       · rw [hb] at h; cases h
       · rw [hb] at h
         rw [Bool.and_eq_true] at hb
         cases h
         have e1 := teq_eq veq_eq hb.1
         have e2 := heq_eq hb.2
         subst e1 e2
         have hj' : joinAll (b :: l) = some (fe1, h1) := by simp only [joinAll]; exact hj
         exact ⟨by simp, fun y hy => by
          cases List.mem_cons.1 hy with
          | inl e => exact e
          | inr e => exact (ih hj').2 y e⟩
     · cases h
theorem runQE_sound {call : CallT} (hc : CallOk P w0 B call) {ops : List Oper} {K : Fr → Prop} {fe' : FE} : ∀ (l : List Nat) (fe : FE) (h : H) (φ : PM) (fr : Fr), (∀ i ∈ l, isEff P (opAt ops i) = false ∧ ∀ d, (opAt ops i).dst = some d → d < 1000000000) →
 runQE P call ops l fe h = some (fe', h') → FR φ fe fr → Hd w0 B φ h w → (∀ φ' fr', Ext φ φ' → FR φ' fe' fr' → Hd w0 B φ' h' w → K fr') → runQ P ops w K l fr := by
 intro l
 induction l with
 | nil => intro fe h φ fr _ ho hf r hK; simp only [runQE] at ho; cases ho; exact hK φ fr (Ext.refl _) hf r
 | cons i l ih =>
   intro fe h φ fr hq ho hf r hK
   obtain ⟨hq1, hd1⟩ := hq i (by simp)
   have hq2 : ∀ j ∈ l, isEff P (opAt ops j) = false ∧ ∀ d, (opAt ops j).dst = some d → d < 1000000000 := fun j hj => hq j (by simp [hj])
   simp only [runQE] at ho
   simp only [runQ]
   split at ho
   · next hg =>
     split at ho
     · next v h1 hop =>
       refine guardE_yes hg hf fun fr1 hf1 => opK_at hq1 (fun x hx => ?_) (opE_sound hc hop hf1 r fun x w' hx => hx)
       obtain ⟨φ', g1, g2, g3⟩ := hx
       exact ih _ _ φ' _ hq2 ho ((hf1.mono g1).put g2 hd1) g3 fun φ'' fr' e => hK φ'' fr' (g1.trans e)
     · cases ho
   · next hg => exact guardE_no hg hf fun fr1 hf1 => ih _ _ φ _ hq2 ho (hf1.put (upV_und φ) hd1) r hK
   · cases ho
theorem stillsE_sound {call : CallT} (hc : CallOk P w0 B call) {ops : List Oper} {fe : FE} {fr : Fr} {X : Prop} (hf : FR φ fe fr) (r : Hd w0 B φ h w) (hX : X) : ∀ (l : List Nat), (∀ i ∈ l, isEff P (opAt ops i) = false) → stillsE P call ops h fe l = true → stills P ops w fr X l := by
 intro l
 induction l with
 | nil => intro _ _; exact hX
 | cons i l ih =>
   intro hq hs
   simp only [stillsE, Bool.and_eq_true] at hs
   refine ⟨?_, ih (fun j hj => hq j (by simp [hj])) hs.2⟩
   have h1 := hs.1
   unfold stillK
   split at h1
   · next hg =>
     split at h1
     · next v h2 hop =>
       refine guardE_yes hg hf fun fr1 hf1 => opK_at (hq i (by simp)) (fun x hx => ?_) (opE_sound hc hop hf1 r fun x w' hx => hx)
       obtain ⟨φ', g1, g2, g3⟩ := hx
       cases hd : (opAt ops i).dst with
       | none => rfl
       | some d =>
         rw [hd] at h1
         simp only at h1 ⊢
         rw [veq_eq _ _ h1] at g2
         have := upV_mono g1 _ (hf d)
         rw [g2] at this
         exact Option.some.inj this
     · cases h1
   · next hg => exact guardE_no hg hf fun _ _ => trivial
   · cases h1
theorem eachE_of {f : Nat → Prop} : ∀ {l : List Nat}, l ≠ [] → (∀ e ∈ l, f e) → eachE f l := by
 intro l
 induction l with
 | nil => intro h _; exact absurd rfl h
 | cons a l ih =>
   intro _ h
   cases l with
   | nil => exact h a (by simp)
   | cons b l => exact ⟨h a (by simp), ih (by simp) fun e he => h e (by simp [he])⟩
theorem opAt_dst {ops : List Oper} (hd : dstOk ops) (i : Nat) : ∀ d, (opAt ops i).dst = some d → d < 1000000000 := by
 intro d h
 by_cases hi : i < ops.length
 · exact hd _ (opAt_mem hi) d h
 · have : opAt ops i = default := by unfold opAt; rw [List.getD_eq_getElem?_getD, List.getElem?_eq_none (by omega)]; rfl
   rw [this] at h
   cases h
theorem stillN_quiet {ops : List Oper} {rem : List Nat} {e i : Nat} (h : i ∈ stillN P ops rem e) : isEff P (opAt ops i) = false := by
 simp only [stillN, List.mem_filter, Bool.and_eq_true, Bool.not_eq_true'] at h
 exact h.2.1.1.1
theorem runDE_sound {call : CallT} (hc : CallOk P w0 B call) {ops : List Oper} (hd : dstOk ops) {K : Fr → World → Prop} {ks : List (Nat × Nat)} {fe' : FE} : ∀ (n : Nat) (rem : List Nat) (fe : FE) (h : H) (φ : PM) (fr : Fr) (w : World),
 runDE P call ops ks n rem fe h = some (fe', h') → FR φ fe fr → Hd w0 B φ h w → (∀ φ' fr' w', Ext φ φ' → FR φ' fe' fr' → Hd w0 B φ' h' w' → K fr' w') → runD P ops K n rem fr w := by
 intro n
 induction n with
 | zero =>
   intro rem fe h φ fr w ho hf r hK
   simp only [runDE] at ho
   split at ho
   · cases ho; exact hK φ fr w (Ext.refl _) hf r
   · cases ho
 | succ n ih =>
   intro rem fe h φ fr w ho hf r hK
   simp only [runDE] at ho
   split at ho
   · cases ho; exact hK φ fr w (Ext.refl _) hf r
   · next e0 rest =>
     obtain ⟨j1, j2⟩ := joinAll_spec ho
     simp only [runD]
     refine eachE_of (fun e => j1 (by rw [e]; rfl)) fun e he => ?_
     have hs := j2 _ (List.mem_map.2 ⟨e, he, rfl⟩)
     have hq : ∀ i ∈ stageN P ops (e0 :: rest) e, isEff P (opAt ops i) = false ∧ ∀ d, (opAt ops i).dst = some d → d < 1000000000 := fun i hi => ⟨(mem_stageN.1 hi).2.1, opAt_dst hd i⟩
     split at hs
     · next hg =>
       split at hs
       · next v h1 hop =>
         cases hst : stillsE P call ops h1 fe (stillN P ops (e0 :: rest) e)
         · rw [hst] at hs; cases hs
         rw [hst] at hs
         simp only [cond_true] at hs
         split at hs
         · next fe2 h2 hrq =>
           refine guardE_yes hg hf fun fr1 hf1 => opE_sound hc hop hf1 r fun x w' hx => ?_
           obtain ⟨φ', g1, g2, g3⟩ := hx
           refine stillsE_sound hc (hf1.mono g1) g3 ?_ _ (fun i hi => stillN_quiet hi) hst
           refine runQE_sound hc _ _ _ φ' _ hq hrq ((hf1.mono g1).put g2 (opAt_dst hd e)) g3 fun φ2 fr2 e2 hf2 r2 => ?_
           exact ih _ _ _ φ2 _ _ hs hf2 r2 fun φ3 fr3 w3 e3 => hK φ3 fr3 w3 ((g1.trans e2).trans e3)
         · cases hs
       · cases hs
     · next hg =>
       split at hs
       · next fe2 h2 hrq =>
         refine guardE_no hg hf fun fr1 hf1 => ?_
         refine runQE_sound hc _ _ _ φ _ hq hrq (hf1.put (upV_und φ) (opAt_dst hd e)) r fun φ2 fr2 e2 hf2 r2 => ?_
         exact ih _ _ _ φ2 _ _ hs hf2 r2 fun φ3 fr3 w3 e3 => hK φ3 fr3 w3 (e2.trans e3)
       · cases hs
     · cases hs
theorem Hd.hole1 (r : Hd w0 B φ h w) (hn : h.new .hole = some h') : Hd w0 B φ h' w := by
 obtain ⟨k1, k2, k3, k4⟩ := H.new_spec hn
 have hf := (r.fresh h.next (Nat.le_refl _)).1
 refine ⟨r.below, r.base, by omega, fun b hb => ?_, fun b e s a cs hb => ?_, fun b es hb => ?_, fun b hb => ?_, fun b b' p p' hb hb' hp hp' he => ?_⟩
 · rw [k2] at hb
   exact ⟨(r.fresh b (by omega)).1, by rw [k4, if_neg (by omega : b ≠ h.next)]; exact (r.fresh b (by omega)).2⟩
 · rw [k3] at hb
   by_cases e : b = h.next
   · rw [if_pos e] at hb; cases hb
   · rw [if_neg e] at hb; exact r.cells _ _ _ _ _ hb
 · rw [k3] at hb
   by_cases e : b = h.next
   · rw [if_pos e] at hb; cases hb
   · rw [if_neg e] at hb; exact r.maps _ _ hb
 · rw [k3] at hb
   by_cases e : b = h.next
   · subst e; exact hf
   · rw [if_neg e] at hb; exact r.hole _ hb
 · rw [k3] at hb hb'
   by_cases c1 : b = h.next
   · rw [if_pos c1] at hb; cases hb
   · by_cases c2 : b' = h.next
     · rw [if_pos c2] at hb'; cases hb'
     · rw [if_neg c1] at hb; rw [if_neg c2] at hb'; exact r.sep b b' p p' hb hb' hp hp' he
theorem keep_sound {ops : List Oper} : ∀ {l : List Nat} {h h' : H} {ks : List (Nat × Nat)}, keep ops l h = some (ks, h') → Hd w0 B φ h w → Hd w0 B φ h' w := by
 intro l
 induction l with
 | nil => intro h h' ks hk r; simp only [keep] at hk; cases hk; exact r
 | cons e l ih =>
   intro h h' ks hk r
   simp only [keep] at hk
   cases hb : freeMk (opAt ops e)
   · rw [hb] at hk; exact ih hk r
   · rw [hb] at hk
     simp only [cond_true] at hk
     split at hk
     · next h1 hn =>
       split at hk
       · next ks' h2 hk2 => cases hk; exact ih hk2 (r.hole1 hn)
       · cases hk
     · cases hk
theorem drawE_sound {call : CallT} (hc : CallOk P w0 B call) {ops : List Oper} (hd : dstOk ops) {K : Fr → World → Prop} {fe fe' : FE} {fr : Fr} (ho : drawE P call ops fe h = some (fe', h')) (hf : FR φ fe fr) (r : Hd w0 B φ h w)
 (hK : ∀ φ' fr' w', Ext φ φ' → FR φ' fe' fr' → Hd w0 B φ' h' w' → K fr' w') : drawK P ops K fr w := by
 unfold drawE at ho
 unfold drawK
 cases hok : drawOkB ops
 · rw [hok] at ho; cases ho
 rw [hok] at ho
 simp only [cond_true] at ho ⊢
 split at ho
 · next ks h1 hks =>
   have r1 : Hd w0 B φ h1 w := by
    cases hch : chained (befL [] ops) (effI P ops)
    · rw [hch] at hks; exact keep_sound hks r
    · rw [hch] at hks; cases hks; exact r
   split at ho
   · next fe2 h2 hrq =>
     refine runQE_sound hc _ _ _ φ _ (fun i hi => ⟨(mem_stage0.1 hi).2.1, opAt_dst hd i⟩) hrq hf r1.drew fun φ2 fr2 e2 hf2 r2 => ?_
     exact runDE_sound hc hd _ _ _ _ φ2 _ _ ho hf2 r2 fun φ3 fr3 w3 e3 => hK φ3 fr3 w3 (e2.trans e3)
   · cases ho
 · cases ho
structure AG (N : Nat) (fr : Fr) (a : Act) : Prop where
 size : a.tmps.size = N
 defers : a.defers = []
 slots : ∀ t, a.tmps.getD t undef = get fr t
theorem AG.agree {N L : Nat} {fr : Fr} {a : Act} (g : AG N fr a) : Agree N L fr a := ⟨g.size, g.defers, fun t _ => g.slots t⟩
theorem AG.of {N D : Nat} {fr fr' : Fr} {a a' : Act} (g : AG N fr a) (h : Agree N (2 ^ N - 1) fr' a') (s : Same D fr fr') (hD : ∀ t, D.testBit t = true → t < N) : AG N fr' a' := by
 refine ⟨h.size, h.defers, fun t => ?_⟩
 by_cases ht : t < N
 · exact h.slots t (by rw [Nat.testBit_two_pow_sub_one]; exact decide_eq_true ht)
 · have h1 : get fr' t = get fr t := s t (by cases hb : D.testBit t with | false => rfl | true => exact absurd (hD t hb) ht)
   have out : ∀ b : Act, b.tmps.size = N → b.tmps.getD t undef = undef := fun b hb => by
    rw [Array.getD_eq_getD_getElem?, Array.getElem?_eq_none (by omega)]; rfl
   rw [h1, ← g.slots t, out a' h.size, out a g.size]
def exitOf : X → Exit
 | .nrm => .normal
 | .ext i => .exit i
 | .ret => .ret
theorem exE_sound {call : CallT} (hn : NamesOk P) (hD : DrawOk P drawK) (hc : CallOk P w0 B call) {N LF : Nat} (hN : N ≤ 100000) : ∀ (c : Code) (fe : FE) (h : H) (x : X) (fe' : FE) (h' : H) (φ : PM) (fr : Fr) (a : Act) (w : World) (Q : Exit → Act → World → Prop),
 exE P call LF c fe h = some (x, fe', h') → wfC N c = true → AG N fr a → FR φ fe fr → Hd w0 B φ h w →
 (∀ φ' fr' a' w', Ext φ φ' → AG N fr' a' → FR φ' fe' fr' → Hd w0 B φ' h' w' → Q (exitOf x) a' w') → c.wp P Q a w := by
 intro c
 induction c with
 | skip => intro fe h x fe' h' φ fr a w Q he _ g hf r hQ; simp only [exE] at he; cases he; exact wp_skip (hQ φ fr a w (Ext.refl _) g hf r)
 | label l => intro fe h x fe' h' φ fr a w Q he _ g hf r hQ; simp only [exE] at he; cases he; exact wp_label (hQ φ fr a w (Ext.refl _) g hf r)
 | exit id => intro fe h x fe' h' φ fr a w Q he _ g hf r hQ; simp only [exE] at he; cases he; exact wp_exit (hQ φ fr a w (Ext.refl _) g hf r)
 | ret => intro fe h x fe' h' φ fr a w Q he _ g hf r hQ; simp only [exE] at he; cases he; exact wp_ret (hQ φ fr a w (Ext.refl _) g hf r)
 | seq b c ihb ihc =>
   intro fe h x fe' h' φ fr a w Q he hw g hf r hQ
   simp only [wfC, Bool.and_eq_true] at hw
   refine wp_seq ?_
   simp only [exE] at he
   split at he
   · cases he
   · next fe1 h1 hb =>
     refine ihb _ _ _ _ _ φ fr a w _ hb hw.1 g hf r fun φ' fr' a' w' e g' hf' r' => ?_
     exact ihc _ _ _ _ _ φ' fr' a' w' Q he hw.2 g' hf' r' fun φ2 fr2 a2 w2 e2 => hQ φ2 fr2 a2 w2 (e.trans e2)
   · next i fe1 h1 hb =>
     cases he
     exact ihb _ _ _ _ _ φ fr a w _ hb hw.1 g hf r fun φ' fr' a' w' e g' hf' r' => hQ φ' fr' a' w' e g' hf' r'
   · next fe1 h1 hb =>
     cases he
     exact ihb _ _ _ _ _ φ fr a w _ hb hw.1 g hf r fun φ' fr' a' w' e g' hf' r' => hQ φ' fr' a' w' e g' hf' r'
 | cond c b d ihb ihd =>
   intro fe h x fe' h' φ fr a w Q he hw g hf r hQ
   simp only [wfC, Bool.and_eq_true] at hw
   simp only [exE] at he
   have hev : a.eval c = ev fr c := (g.agree (L := rdOpd c 0)).evalOne
   split at he
   · next hcv =>
     have := evE_sound hf hcv
     simp only [upV, Option.some.injEq] at this
     exact wp_cond (hev.trans this.symm) (ihb _ _ _ _ _ φ fr a w Q he hw.1 g hf r hQ)
   · next hcv =>
     have := evE_sound hf hcv
     simp only [upV, Option.some.injEq] at this
     exact wp_cond (hev.trans this.symm) (ihd _ _ _ _ _ φ fr a w Q he hw.2 g hf r hQ)
   · cases he
 | block id c ih =>
   intro fe h x fe' h' φ fr a w Q he hw g hf r hQ
   refine wp_block ?_
   simp only [exE] at he
   split at he
   · cases he
   · next fe1 h1 hb =>
     cases he
     exact ih _ _ _ _ _ φ fr a w _ hb hw g hf r fun φ' fr' a' w' e g' hf' r' => hQ φ' fr' a' w' e g' hf' r'
   · next i fe1 h1 hb =>
     refine ih _ _ _ _ _ φ fr a w _ hb hw g hf r fun φ' fr' a' w' e g' hf' r' => ?_
     cases hbe : Nat.beq i id
     · rw [hbe] at he
       cases he
       have hne : i ≠ id := fun e => by rw [e] at hbe; simp at hbe
       simp only [exitOf, Exit.inBlock, hne, if_false]
       exact hQ φ' fr' a' w' e g' hf' r'
     · rw [hbe] at he
       cases he
       obtain rfl := Nat.eq_of_beq_eq_true hbe
       simp only [exitOf, Exit.inBlock, if_true]
       exact hQ φ' fr' a' w' e g' hf' r'
   · next fe1 h1 hb =>
     cases he
     exact ih _ _ _ _ _ φ fr a w _ hb hw g hf r fun φ' fr' a' w' e g' hf' r' => hQ φ' fr' a' w' e g' hf' r'
 | scope c ih =>
   intro fe h x fe' h' φ fr a w Q he hw g hf r hQ
   simp only [exE] at he
   exact wp_scope_straight (ih _ _ _ _ _ φ fr a w (Exit.noGoto Q) he hw g hf r fun φ' fr' a' w' e g' hf' r' => by
    have := hQ φ' fr' a' w' e g' hf' r'
    cases x <;> exact this)
 | region id ops draw =>
   intro fe h x fe' h' φ fr a w Q he hw g hf r hQ
   simp only [exE] at he
   simp only [wfC] at hw
   have hd := dstOk_of hN hw
   have hmem : ∀ t, (dstsOps ops.toList).testBit t = true → t < N := wfOps_dsts hw
   split at he
   · next fe1 h1 hb =>
     cases he
     cases draw
     · refine wp_region_list (opsK_sound hn ops.toList ops.toList (2 ^ N - 1) fr a w hw g.agree (fun fr' w' a' hag hs hk => hk a' hag hs) (K := fun fr' w' => ∀ a', Agree N (2 ^ N - 1) fr' a' → Same (dstsOps ops.toList) fr fr' → Q .normal a' w') ?_)
       exact opsE_sound hc ops.toList fe h φ fr w hd hb hf r fun φ' fr' w' e hf' r' a' hag hs => hQ φ' fr' a' w' e (g.of hag hs hmem) hf' r'
     · refine hD N id ops (fun fr' w' => ∀ a', Agree N (2 ^ N - 1) fr' a' → Same (dstsOps ops.toList) fr fr' → Q .normal a' w') Q (2 ^ N - 1) fr a w hw g.agree (fun fr' w' a' hag hs hk => hk a' hag hs) ?_
       exact drawE_sound hc hd hb hf r fun φ' fr' w' e hf' r' a' hag hs => hQ φ' fr' a' w' e (g.of hag hs hmem) hf' r'
   · cases he
 | loop c ih =>
   intro fe h x fe' h' φ fr a w Q he hw g hf r hQ
   simp only [exE] at he
   have go : ∀ (n : Nat) (fe : FE) (h : H) (φ1 : PM) (fr : Fr) (a : Act) (w : World), iterE (exE P call LF c) n fe h = some (x, fe', h') → Ext φ φ1 → AG N fr a → FR φ1 fe fr → Hd w0 B φ1 h w → Code.rounds P c Q n a w := by
    intro n
    induction n with
    | zero => intro fe h φ1 fr a w hi; simp only [iterE] at hi; cases hi
    | succ n ihn =>
      intro fe h φ1 fr a w hi e1 g hf r
      rw [rounds_succ]
      simp only [iterE] at hi
      split at hi
      · cases hi
      · next fe1 h1 hb =>
        exact ih _ _ _ _ _ φ1 fr a w _ hb hw g hf r fun φ' fr' a' w' e g' hf' r' => ihn _ _ φ' fr' a' w' hi (e1.trans e) g' hf' r'
      · next i fe1 h1 hb =>
        cases hi
        exact ih _ _ _ _ _ φ1 fr a w _ hb hw g hf r fun φ' fr' a' w' e g' hf' r' => hQ φ' fr' a' w' (e1.trans e) g' hf' r'
      · next fe1 h1 hb =>
        cases hi
        exact ih _ _ _ _ _ φ1 fr a w _ hb hw g hf r fun φ' fr' a' w' e g' hf' r' => hQ φ' fr' a' w' (e1.trans e) g' hf' r'
   exact wp_loop_rounds LF (go LF fe h φ fr a w he (Ext.refl _) g hf r)
 | _ => intro fe h x fe' h' φ fr a w Q he; simp only [exE] at he; cases he
theorem getE_frame0 : ∀ (vs : List EV) (i : Nat) (fe : FE) (t : Nat), i + vs.length < 1000000000 → getE (frame0 i vs fe) t = if i ≤ t ∧ t < i + vs.length then vs[t - i]?.getD .und else getE fe t := by
 intro vs
 induction vs with
 | nil => intro i fe t _; simp only [frame0, List.length_nil]; rw [if_neg (by omega)]
 | cons v vs ih =>
   intro i fe t hl
   simp only [List.length_cons] at hl
   simp only [frame0]
   rw [ih _ _ _ (by omega), getE_putE (d := i) (show i < 1000000000 by omega)]
   simp only [List.length_cons]
   by_cases c1 : t = i
   · subst c1
     rw [if_neg (by omega), if_pos rfl, if_pos (by omega)]
     simp
   · by_cases c2 : i + 1 ≤ t ∧ t < i + 1 + vs.length
     · rw [if_pos c2, if_pos (by omega)]
       have e : t - i = (t - (i + 1)) + 1 := by omega
       rw [e, List.getElem?_cons_succ]
     · rw [if_neg c2, if_neg c1, if_neg (by omega)]
theorem frame0_FR {vs : List EV} {xs : List Value} (hx : upL φ vs = some xs) (hl : vs.length ≤ 100000) : FR φ (frame0 0 vs .lf) (fr0 0 xs) := by
 intro t
 rw [getE_frame0 _ _ _ _ (by omega), get_fr0]
 simp only [Nat.zero_le, true_and, Nat.zero_add, if_true, Nat.sub_zero]
 by_cases ht : t < vs.length
 · rw [if_pos ht, List.getElem?_eq_getElem ht]
   obtain ⟨x, h1, h2⟩ := upL_get hx (List.getElem?_eq_getElem ht)
   rw [h1]
   exact h2
 · rw [if_neg ht, List.getElem?_eq_none (by rw [upL_length hx]; omega)]
   unfold getE
   rw [Tr.get_lf]
   exact upV_und φ
theorem retE_sound (r : Hd w0 B φ h w) {fe : FE} {fr : Fr} (hf : FR φ fe fr) : ∀ {rs : List ResultVar} {vs : List EV} {K : List Value → Prop}, retE P h fe rs = some vs → (∀ xs, upL φ vs = some xs → K xs) → retVs P rs fr w K := by
 intro rs
 induction rs with
 | nil => intro vs K h hK; simp only [retE] at h; cases h; exact hK [] (upL_nil.2 rfl)
 | cons rv rs ih =>
   intro vs K h hK
   cases rv with
   | tmp t =>
     simp only [retE] at h
     split at h
     · next us hu => cases h; exact ih hu fun xs hxs => hK _ (upL_cons.2 ⟨_, _, hf t, hxs, rfl⟩)
     · cases h
   | cell a ty =>
     simp only [retE] at h
     split at h
     · next b o hb =>
       split at h
       · next v hv =>
         split at h
         · next us hu =>
           cases h
           have hA := hf a
           rw [hb] at hA
           obtain ⟨p, hp, X, h2, h3⟩ := ldE_sound r hv (K := fun v _ => retVs P rs fr w (fun vs => K (v :: vs)))
           simp only [upV, hp, Option.some.injEq] at hA
           simp only [retVs]
           rw [← hA]
           exact h3 (ih hu fun xs hxs => hK _ (upL_cons.2 ⟨_, _, h2, hxs, rfl⟩))
         · cases h
       · cases h
     · cases h
theorem resVal_up {vs : List EV} {xs : List Value} (hx : upL φ vs = some xs) : upV φ (resValE vs) = some (resVal xs) := by
 cases vs with
 | nil => rw [upL_nil.1 hx]; rfl
 | cons v r =>
   obtain ⟨x, ys, h1, h2, rfl⟩ := upL_cons.1 hx
   cases r with
   | nil => rw [upL_nil.1 h2]; exact h1
   | cons v2 r2 =>
     obtain ⟨x2, ys2, h3, h4, rfl⟩ := upL_cons.1 h2
     show upV φ (.tup (v :: v2 :: r2)) = some (.tuple _)
     simp only [upV, hx]
def SumsOk (P : Program) (w0 : World) (B : Nat) (sums : Sums) : Prop :=
 ∀ (f : FuncId) (s : List EV → H → Option (EV × H)) (args : List EV) (h : H) (v : EV) (h' : H) (φ : PM) (w : World) (xs : List Value), sums f = some s → s args h = some (v, h') → upL φ args = some xs → Hd w0 B φ h w → Spec P f xs.toArray w (Ok w0 B φ v h')
theorem body_sound (hn : NamesOk P) (hD : DrawOk P drawK) {call : CallT} (hc : CallOk P w0 B call) {LF : Nat} {f : FuncId} {fn : Func} {c : Code} {args : List EV} {xs : List Value} (hfn : P.funcs[f]? = some fn) (hbody : fn.body = some c)
 (hwf : wfC fn.ntmps c = true) (hN : fn.ntmps ≤ 100000) (hle : args.length ≤ fn.ntmps) (hx : upL φ args = some xs) (r : Hd w0 B φ h w) {x : X} {fe' : FE} {vs : List EV} (hex : exE P call LF c (frame0 0 args .lf) h = some (x, fe', h')) (hxx : x = .nrm ∨ x = .ret)
 (hre : retE P h' fe' fn.results.toList = some vs) : Spec P f xs.toArray w (Ok w0 B φ (resValE vs) h') := by
 have hxl := upL_length hx
 have hag : AG fn.ntmps (fr0 0 xs) { tmps := xs.toArray ++ Array.replicate (fn.ntmps - xs.toArray.size) undef, defers := [] } := by
  refine ⟨by simp; omega, rfl, fun t => ?_⟩
  rw [get_fr0]
  simp only [Nat.zero_le, if_true, Nat.sub_zero, Array.getD_eq_getD_getElem?, Array.getElem?_append, List.getElem?_toArray]
  split
  · rfl
  · next hlt =>
    rw [Array.getElem?_replicate]
    have : xs[t]? = none := by simp at hlt ⊢; omega
    rw [this]; split <;> rfl
 have fin : ∀ φ' fr' a' w', Ext φ φ' → AG fn.ntmps fr' a' → FR φ' fe' fr' → Hd w0 B φ' h' w' →
  a'.defers = [] ∧ ∃ v', (results fn a'.tmps).run P w' = .ok v' w' ∧ (∃ u, Ending.returned v' = .returned u ∧ Ok w0 B φ (resValE vs) h' u w') := by
  intro φ' fr' a' w' e g' hf' r'
  obtain ⟨us, k1, k2⟩ := retVs_sound _ _ _ _ _ _ (g'.agree (L := retL fn.results.toList)) (retE_sound (P := P) r' hf' hre (K := fun us => upL φ' vs = some us) (fun _ h => h))
  refine ⟨g'.defers, resVal us, ?_, _, rfl, φ', e, resVal_up k2, r'⟩
  rw [results_eq, Array.mapM_eq_mapM_toList]
  simp only [Sem.run_bind, Sem.run_map, k1, Result.andThen_ok, Sem.run_pure]
  congr 1
  match us with
  | [] => rfl
  | [v] => rfl
  | v :: u :: us => simp [resVal]
 refine calls_of_wp hfn hbody (exE_sound hn hD hc (LF := LF) hN c (frame0 0 args .lf) h x fe' h' φ (fr0 0 xs) _ w _ hex hwf hag (frame0_FR hx (by omega)) r fun φ' fr' a' w' e g' hf' r' => ?_)
 rcases hxx with rfl | rfl <;> exact fin φ' fr' a' w' e g' hf' r'
theorem dead_empty (b : Nat) : (⟨.lf, 0⟩ : H).at b = .dead := by
 unfold H.at
 rw [Tr.get_lf]
theorem Hd.empty (w : World) : Hd w w.heap.size (fun _ => none) ⟨.lf, 0⟩ w :=
 ⟨Below.refl _ _, Nat.le_refl _, by simp, fun b _ => ⟨rfl, Tr.get_lf b⟩, fun b e s a cs hb => (by rw [dead_empty] at hb; cases hb), fun b es hb => (by rw [dead_empty] at hb; cases hb),
  fun b hb => rfl, fun b b' p p' hb => (by rw [dead_empty] at hb; cases hb)⟩
end Go.CW.Ex
