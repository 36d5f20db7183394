/- Runs in which nothing is unknown: what the faster form reckons the other one reckons. For every program. -/
import Derived.Test.YtghineciiljeoaaGreatDoorQExC
import Derived.Test.YtghineciiljeoaaGreatDoorQExF
namespace Go.CW.Ex
open Go.RowKit
variable {P : Program}
theorem getP_eq : ∀ (f k : Nat) (t : FE), k + 1 < 2 ^ f → getP (pthOf f k) t = oV (t.get k) := by
 intro f
 induction f with
 | zero => intro k t h; simp at h
 | succ f ih =>
   intro k t h
   cases k with
   | zero => cases t <;> rfl
   | succ n =>
     have hn : n / 2 + 1 < 2 ^ f := by rw [Nat.pow_succ] at h; omega
     simp only [pthOf]
     cases hb : Nat.beq (n % 2) 0
     · simp only [cond_false]
       cases t with
       | lf => rfl
       | nd v l r => show getP (pthOf f (n / 2)) r = _; rw [ih _ _ hn]; simp only [Tr.get, hb, cond_false]
     · simp only [cond_true]
       cases t with
       | lf => rfl
       | nd v l r => show getP (pthOf f (n / 2)) l = _; rw [ih _ _ hn]; simp only [Tr.get, hb, cond_true]
theorem setP_eq {R : Type} (x : EV) : ∀ (f k : Nat) (t : FE) (K : FE → R), k + 1 < 2 ^ f → setP (pthOf f k) x t K = K (Tr.set f t k (some x)) := by
 intro f
 induction f with
 | zero => intro k t K h; simp at h
 | succ f ih =>
   intro k t K h
   cases k with
   | zero => cases t <;> rfl
   | succ n =>
     have hn : n / 2 + 1 < 2 ^ f := by rw [Nat.pow_succ] at h; omega
     simp only [pthOf]
     cases hb : Nat.beq (n % 2) 0
     · simp only [cond_false]
       cases t with
       | lf =>
         show setP (pthOf f (n / 2)) x .lf (fun r => K (.nd none .lf r)) = _
         rw [ih _ _ _ hn]
         simp only [Tr.set, hb, cond_false]
         cases Tr.set f .lf (n / 2) (some x) <;> rfl
       | nd v l r =>
         show setP (pthOf f (n / 2)) x r (fun r => K (.nd v l r)) = _
         rw [ih _ _ _ hn]
         simp only [Tr.set, hb, cond_false]
         cases Tr.set f r (n / 2) (some x) <;> rfl
     · simp only [cond_true]
       cases t with
       | lf =>
         show setP (pthOf f (n / 2)) x .lf (fun l => K (.nd none l .lf)) = _
         rw [ih _ _ _ hn]
         simp only [Tr.set, hb, cond_true]
         cases Tr.set f .lf (n / 2) (some x) <;> rfl
       | nd v l r =>
         show setP (pthOf f (n / 2)) x l (fun l => K (.nd v l r)) = _
         rw [ih _ _ _ hn]
         simp only [Tr.set, hb, cond_true]
         cases Tr.set f l (n / 2) (some x) <;> rfl
theorem small_deep {t : Nat} (h : Nat.blt t 1000000000 = true) : t + 1 < 2 ^ deep := by
 have : t < 1000000000 := by simpa using h
 exact Nat.lt_of_lt_of_le (Nat.succ_lt_succ this) (by decide)
theorem getP_get {fe : FE} {t : Nat} (h : Nat.blt t 1000000000 = true) : getP (pthOf deep t) fe = getE fe t := by
 rw [getP_eq _ _ _ (small_deep h)]
 unfold getE oV
 cases fe.get t <;> rfl
theorem gv_spec {R : Type} {x : Operand} {fe : FE} {K : EV → Option R} {r : R} (h : gv (cOpd x) fe K = some r) : ∃ v, evE fe x = some v ∧ K v = some r := by
 cases x with
 | tmp t =>
   simp only [cOpd] at h
   cases hb : Nat.blt t 1000000000
   · rw [hb] at h; cases h
   · rw [hb] at h
     simp only [cond_true] at h
     have h : K (getP (pthOf deep t) fe) = some r := h
     rw [getP_get hb] at h
     exact ⟨_, rfl, h⟩
 | const v =>
   simp only [cOpd] at h
   split at h
   · next x hx => exact ⟨x, hx, h⟩
   · cases h
 | global g => cases h
 | func f => exact ⟨_, rfl, h⟩
theorem gvL_spec {R : Type} {fe : FE} : ∀ {xs : List Operand} {K : List EV → Option R} {r : R}, gvL fe xs K = some r → ∃ vs, evLE fe xs = some vs ∧ K vs = some r := by
 intro xs
 induction xs with
 | nil => intro K r h; exact ⟨[], rfl, h⟩
 | cons x xs ih =>
   intro K r h
   simp only [gvL] at h
   obtain ⟨v, h1, h2⟩ := gv_spec h
   obtain ⟨vs, h3, h4⟩ := ih h2
   exact ⟨v :: vs, by simp only [evLE, h1, h3], h4⟩
theorem rD_spec {R : Type} {d : Option Tmp} {v : EV} {fe : FE} {K : FE → Option R} {r : R} (h : rD (cDst d) v fe K = some r) : K (putE fe d v) = some r := by
 cases d with
 | none => exact h
 | some t =>
   simp only [cDst] at h
   cases hb : Nat.blt t 1000000000
   · rw [hb] at h; cases h
   · rw [hb] at h
     have h : setP (pthOf deep t) v fe K = some r := h
     rw [setP_eq _ _ _ _ _ (small_deep hb)] at h
     simp only [putE, frc_eq]
     exact h
theorem rG_spec {R : Type} {ops : List Oper} {o : Oper} {fe : FE} {yes no : Option R} {r : R} (h : rG (cGuard ops o) fe yes no = some r) : (guardE ops o fe = some true ∧ yes = some r) ∨ (guardE ops o fe = some false ∧ no = some r) := by
 unfold cGuard at h
 unfold guardE
 cases hg : o.guard with
 | none => rw [hg] at h; exact .inl ⟨rfl, h⟩
 | some p =>
   obtain ⟨j, want⟩ := p
   rw [hg] at h
   simp only at h ⊢
   cases hd : dstAt ops j with
   | none => rw [hd] at h; cases h
   | some d =>
     rw [hd] at h
     simp only at h ⊢
     cases hb : Nat.blt d 1000000000
     · rw [hb] at h; cases h
     · rw [hb] at h
       simp only [cond_true] at h
       have h : (match getP (pthOf deep d) fe with | .bool t => bif (bif want then t else !t) then yes else no | _ => no) = some r := h
       rw [getP_get hb] at h
       split at h
       · next t ht =>
         rw [ht]
         simp only
         cases hc : (bif want then t else !t)
         · rw [hc] at h; exact .inr ⟨rfl, h⟩
         · rw [hc] at h; exact .inl ⟨rfl, h⟩
       · next hn =>
         refine .inr ⟨?_, h⟩
         split
         · next t ht => exact absurd ht (hn t)
         · rfl
theorem int2_spec {op : BinOp} {f : IntKind → Int → Int → Option EV} (hf : intF op = .mk f) {x y z : EV} (h : int2 f x y = some z) : binIntE op x y = some z := by
 unfold int2 at h
 split at h
 · next k a =>
   split at h
   · next k' b =>
     cases op <;> simp only [intF] at hf <;> first | (cases hf; done) | skip
     all_goals (injection hf with hf; subst hf; exact h)
   · cases h
 · cases h
theorem cell_part : ∀ {o : Nat} {cs : List EV} {v : EV}, cellE o cs = some v → partE o 1 cs = some [v] := by
 intro o
 induction o with
 | zero => intro cs v h; cases cs with
   | nil => cases h
   | cons a r => simp only [cellE] at h; cases h; rfl
 | succ o ih => intro cs v h; cases cs with
   | nil => cases h
   | cons a r => simp only [cellE] at h; exact ih h
theorem ldF_spec {t : TypeId} {x v : EV} {h : H} (e : ldF P t x h = some v) : ∃ b o, x = .ptr b o ∧ ldE P t h b o = some v := by
 unfold ldF at e
 split at e
 · next b o =>
   refine ⟨b, o, rfl, ?_⟩
   unfold ldE
   split at e
   · next cs hc =>
     rw [hc]
     unfold ldC at e
     cases hu : P.underlying t with
     | none => rw [hu] at e; cases e
     | some d =>
       rw [hu] at e
       simp only at e ⊢
       cases hag : aggB P t
       · rw [hag] at e
         simp only at e ⊢
         split at e
         · next u hcell =>
           rw [cell_part hcell]
           exact e
         · cases e
       · rw [hag] at e
         simp only at e ⊢
         cases hs : szOf P t with
         | none => rw [hs] at e; cases e
         | some n =>
           rw [hs] at e
           simp only at e ⊢
           cases hsh : shapeOf P t with
           | one r => rw [hsh] at e; cases e
           | agg rs =>
             rw [hsh] at e
             simp only at e
             split at e
             · next vs hp => rw [hp]; exact e
             · cases e
   · cases e
 · cases e
theorem rO_spec {R : Type} {o : Oper} {call : CallT} {fe : FE} {h : H} {K : EV → H → Option R} {r : R} (e : rO (cOp P o) call fe h K = some r) : ∃ v h', opE P call none fe o h = some (v, h') ∧ K v h' = some r := by
 obtain ⟨dst, op, ty, pos, aft, guard⟩ := o
 have gen : ∀ (g : CallT → FE → H → Res), (∀ x, g call fe h = some x → opE P call none fe ⟨dst, op, ty, pos, aft, guard⟩ h = some x) → rO (.gen g) call fe h K = some r → ∃ v h', opE P call none fe ⟨dst, op, ty, pos, aft, guard⟩ h = some (v, h') ∧ K v h' = some r := by
  intro g hg e
  have e : (match g call fe h with | some (v, h') => K v h' | none => none) = some r := e
  split at e
  · next v h' hh => exact ⟨v, h', hg _ hh, e⟩
  · cases e
 cases op
 case move x => obtain ⟨v, h1, h2⟩ := gv_spec (x := x) (K := fun v => K v h) e; exact ⟨v, h, by simp only [opE, h1, withH], h2⟩
 case assign x => obtain ⟨v, h1, h2⟩ := gv_spec (x := x) (K := fun v => K v h) e; exact ⟨v, h, by simp only [opE, h1, withH], h2⟩
 case binOp bop t x y yt =>
  have go : ∀ (f : EV → EV → Option EV), (∀ a b z, f a b = some z → binE P bop t a b (isConstO y) = some z) → rO (.fxy (cOpd x) (cOpd y) f) call fe h K = some r → ∃ v h', opE P call none fe ⟨dst, .binOp bop t x y yt, ty, pos, aft, guard⟩ h = some (v, h') ∧ K v h' = some r := by
   intro f hf e
   have e : gv (cOpd x) fe (fun v => gv (cOpd y) fe fun u => match f v u with | some z => K z h | none => none) = some r := e
   obtain ⟨a, h1, h2⟩ := gv_spec e
   obtain ⟨b, h3, h4⟩ := gv_spec h2
   split at h4
   · next z hz => exact ⟨z, h, by simp only [opE, h1, h3, hf a b z hz, withH], h4⟩
   · cases h4
  simp only [cOp, cBin] at e
  split at e
  · next hk =>
    split at e
    · next f hf => exact go _ (fun a b z hz => by unfold binE; rw [hk]; exact int2_spec hf hz) e
    · exact go _ (fun a b z hz => hz) e
  · exact go _ (fun a b z hz => hz) e
 case unOp uop t x =>
  have e : gv (cOpd x) fe (fun v => match unE uop v with | some u => K u h | none => none) = some r := e
  obtain ⟨a, h1, h2⟩ := gv_spec e
  split at h2
  · next z hz => exact ⟨z, h, by simp only [opE, h1, hz, withH], h2⟩
  · cases h2
 case load t x =>
  have e : gv (cOpd x) fe (fun v => match ldF P t v h with | some u => K u h | none => none) = some r := e
  obtain ⟨a, h1, h2⟩ := gv_spec e
  split at h2
  · next z hz =>
    obtain ⟨b, q, rfl, h3⟩ := ldF_spec hz
    exact ⟨z, h, by simp only [opE, h1, h3, withH], h2⟩
  · cases h2
 case nilCheck x =>
  have e : gv (cOpd x) fe (fun v => match (match v with | .ptr b o => some (EV.ptr b o) | .fn f a c => some (.fn f a c) | _ => none) with | some u => K u h | none => none) = some r := e
  obtain ⟨a, h1, h2⟩ := gv_spec e
  split at h2
  · next z hz =>
    refine ⟨z, h, ?_, h2⟩
    simp only [opE, h1]
    cases a <;> first | (cases hz; rfl) | (cases hz)
  · cases h2
 case fieldAddr t x f =>
  have e : gv (cOpd x) fe (fun v => match faF P t f v with | some u => K u h | none => none) = some r := e
  obtain ⟨a, h1, h2⟩ := gv_spec e
  split at h2
  · next z hz =>
    refine ⟨z, h, ?_, h2⟩
    have : faE P t f a = some z := by
     unfold faF at hz
     unfold faE
     split at hz
     · unfold faC at hz
       cases hfo : fieldOff P t f with
       | none => rw [hfo] at hz; cases hz
       | some n => rw [hfo] at hz; exact hz
     · cases hz
    simp only [opE, h1, this, withH]
  · cases h2
 case indexAddr t x i =>
  have e : gv (cOpd x) fe (fun v => gv (cOpd i) fe fun u => match iaE P t v u with | some z => K z h | none => none) = some r := e
  obtain ⟨a, h1, h2⟩ := gv_spec e
  obtain ⟨b, h3, h4⟩ := gv_spec h2
  split at h4
  · next z hz => exact ⟨z, h, by simp only [opE, h1, h3, hz, withH], h4⟩
  · cases h4
 case index t x i =>
  have e : gv (cOpd x) fe (fun v => gv (cOpd i) fe fun u => match ixE P t v u with | some z => K z h | none => none) = some r := e
  obtain ⟨a, h1, h2⟩ := gv_spec e
  obtain ⟨b, h3, h4⟩ := gv_spec h2
  split at h4
  · next z hz => exact ⟨z, h, by simp only [opE, h1, h3, hz, withH], h4⟩
  · cases h4
 case field t x f =>
  have e : gv (cOpd x) fe (fun v => match fldE P t v f with | some u => K u h | none => none) = some r := e
  obtain ⟨a, h1, h2⟩ := gv_spec e
  split at h2
  · next z hz => exact ⟨z, h, by simp only [opE, h1, hz, withH], h2⟩
  · cases h2
 case extract x i =>
  have e : gv (cOpd x) fe (fun v => match (match v with | .tup vs => nthE vs i | _ => none) with | some u => K u h | none => none) = some r := e
  obtain ⟨a, h1, h2⟩ := gv_spec e
  split at h2
  · next z hz =>
    refine ⟨z, h, ?_, h2⟩
    simp only [opE, h1]
    cases a with
    | tup vs => simp only at hz ⊢; rw [hz]; rfl
    | _ => cases hz
  · cases h2
 case store t a x =>
  refine gen _ (fun z hz => ?_) e
  have hz : gv (cOpd a) fe (fun a' => match a' with | .ptr b q => gv (cOpd x) fe fun v => unH (stE P t h b q v) | _ => none) = some z := hz
  obtain ⟨u, h1, h2⟩ := gv_spec hz
  split at h2
  · next b q =>
    obtain ⟨v, h3, h4⟩ := gv_spec h2
    simp only [opE, h1, h3]
    exact h4
  · cases h2
 case call c =>
  obtain ⟨callee, args, ats⟩ := c
  cases callee with
  | value x =>
    cases x with
    | func f =>
      refine gen _ (fun z hz => ?_) e
      obtain ⟨vs, h1, h2⟩ := gvL_spec hz
      simp only [opE, h1]
      exact h2
    | _ => exact gen _ (fun z hz => hz) e
  | builtin b =>
    refine gen _ (fun z hz => ?_) e
    obtain ⟨vs, h1, h2⟩ := gvL_spec hz
    simp only [opE, h1]
    exact h2
  | invoke rc m => exact gen _ (fun z hz => hz) e
 all_goals exact gen _ (fun z hz => hz) e
theorem rS_spec {R : Type} {ops : List Oper} {call : CallT} {o : Oper} {l : List Nat} {fe : FE} {h : H} {K : FE → H → Option R} {r : R} (e : rS P ops call (.mk (cGuard ops o) (cOp P o) (cDst o.dst) l) fe h K = some r) :
 (guardE ops o fe = some true ∧ ∃ v h', opE P call none fe o h = some (v, h') ∧ stillsE P call ops h' fe l = true ∧ K (putE fe o.dst v) h' = some r) ∨ (guardE ops o fe = some false ∧ K (putE fe o.dst .und) h = some r) := by
 have e : rG (cGuard ops o) fe (rO (cOp P o) call fe h fun v h' => match l with
  | [] => rD (cDst o.dst) v fe fun fe' => K fe' h'
  | l => bif stillsE P call ops h' fe l then rD (cDst o.dst) v fe (fun fe' => K fe' h') else none) (rD (cDst o.dst) .und fe fun fe' => K fe' h) = some r := e
 rcases rG_spec e with ⟨h1, h2⟩ | ⟨h1, h2⟩
 · obtain ⟨v, h', h3, h4⟩ := rO_spec h2
   refine .inl ⟨h1, v, h', h3, ?_⟩
   cases l with
   | nil => exact ⟨rfl, rD_spec h4⟩
   | cons i l =>
     simp only at h4
     cases hs : stillsE P call ops h' fe (i :: l)
     · rw [hs] at h4; cases h4
     · rw [hs] at h4; simp only [cond_true] at h4; exact ⟨rfl, rD_spec h4⟩
 · exact .inr ⟨h1, rD_spec h2⟩
theorem rL_ops {ops : List Oper} {call : CallT} : ∀ {l : List Oper} {fe : FE} {h : H} {r : FE × H}, rL P ops call (cOps P ops l) fe h = some r → opsE P call ops l fe h = some r := by
 intro l
 induction l with
 | nil => intro fe h r e; exact e
 | cons o l ih =>
   intro fe h r e
   have e : rS P ops call (.mk (cGuard ops o) (cOp P o) (cDst o.dst) []) fe h (rL P ops call (cOps P ops l)) = some r := e
   simp only [opsE]
   rcases rS_spec e with ⟨h1, v, h', h2, _, h3⟩ | ⟨h1, h3⟩
   · rw [h1]; simp only [h2]; exact ih h3
   · rw [h1]; exact ih h3
theorem rL_cat {ops : List Oper} {call : CallT} {c : CL} : ∀ {l : List Nat} {fe : FE} {h : H} {r : FE × H}, rL P ops call (catC (cQ P ops l) c) fe h = some r → ∃ fe1 h1, runQE P call ops l fe h = some (fe1, h1) ∧ rL P ops call c fe1 h1 = some r := by
 intro l
 induction l with
 | nil => intro fe h r e; exact ⟨fe, h, rfl, e⟩
 | cons i l ih =>
   intro fe h r e
   have e : rS P ops call (.mk (cGuard ops (opAt ops i)) (cOp P (opAt ops i)) (cDst (opAt ops i).dst) []) fe h (rL P ops call (catC (cQ P ops l) c)) = some r := e
   simp only [runQE]
   rcases rS_spec e with ⟨h1, v, h', h2, _, h3⟩ | ⟨h1, h3⟩
   · rw [h1]; simp only [h2]; exact ih h3
   · rw [h1]; exact ih h3
theorem rL_DE {ops : List Oper} {call : CallT} : ∀ {n : Nat} {rem : List Nat} {fe : FE} {h : H} {r : FE × H}, rL P ops call (cDE P ops n rem) fe h = some r → runDE P call ops [] n rem fe h = some r := by
 intro n
 induction n with
 | zero =>
   intro rem fe h r e
   simp only [cDE] at e
   simp only [runDE]
   split at e
   · exact e
   · cases e
 | succ n ih =>
   intro rem fe h r e
   simp only [cDE] at e
   simp only [runDE]
   split at e
   · exact e
   · next e0 rest =>
     split at e
     · next x hr =>
       rw [hr]
       simp only [List.map_cons, List.map_nil, joinAll]
       rcases rS_spec e with ⟨h1, v, h', h2, h3, h4⟩ | ⟨h1, h4⟩
       · rw [h1]
         have hk : keyAt [] x = none := rfl
         simp only [hk, h2, h3, cond_true]
         obtain ⟨fe1, h5, h6, h7⟩ := rL_cat h4
         rw [h6]
         exact ih h7
       · rw [h1]
         simp only
         obtain ⟨fe1, h5, h6, h7⟩ := rL_cat h4
         rw [h6]
         exact ih h7
     · cases e
theorem rL_draw {ops : List Oper} {call : CallT} {fe : FE} {h : H} {r : FE × H} (e : rL P ops call (cDraw P ops) fe h = some r) : drawE P call ops fe h = some r := by
 unfold cDraw at e
 unfold drawE
 cases hb : drawOkB ops && chained (befL [] ops) (effI P ops)
 · rw [hb] at e; cases e
 · rw [hb] at e
   rw [Bool.and_eq_true] at hb
   simp only [hb.1, hb.2, cond_true] at e ⊢
   obtain ⟨fe1, h1, h2, h3⟩ := rL_cat e
   rw [h2]
   exact rL_DE h3
def outO : Out → Option St3
 | .nrm fe h => some (.nrm, fe, h)
 | .ext i fe h => some (.ext i, fe, h)
 | .ret fe h => some (.ret, fe, h)
 | .no => none
theorem exF_spec {call : CallT} {LF : Nat} : ∀ (c : Code) (fe : FE) (h : H) (x : St3), outO (exF P call LF (cC P c) fe h) = some x → exE P call LF c fe h = some x := by
 intro c
 induction c with
 | skip => intro fe h x e; exact e
 | label l => intro fe h x e; exact e
 | exit id => intro fe h x e; exact e
 | ret => intro fe h x e; exact e
 | scope c ih => intro fe h x e; exact ih fe h x e
 | seq a b iha ihb =>
   intro fe h x e
   have e : outO (Out.rec (motive := fun _ => Out) (exF P call LF (cC P b)) (fun i fe h => .ext i fe h) (fun fe h => .ret fe h) .no (exF P call LF (cC P a) fe h)) = some x := e
   simp only [exE]
   cases ha : exF P call LF (cC P a) fe h with
   | nrm fe1 h1 => rw [ha] at e; rw [iha fe h _ (by rw [ha]; rfl)]; exact ihb _ _ _ e
   | ext i fe1 h1 => rw [ha] at e; rw [iha fe h _ (by rw [ha]; rfl)]; exact e
   | ret fe1 h1 => rw [ha] at e; rw [iha fe h _ (by rw [ha]; rfl)]; exact e
   | no => rw [ha] at e; cases e
 | cond c a b iha ihb =>
   intro fe h x e
   have e : outO (match gv (cOpd c) fe some with | some (.bool true) => exF P call LF (cC P a) fe h | some (.bool false) => exF P call LF (cC P b) fe h | _ => .no) = some x := e
   simp only [exE]
   split at e
   · next hg => obtain ⟨v, h1, h2⟩ := gv_spec hg; cases h2; rw [h1]; exact iha _ _ _ e
   · next hg => obtain ⟨v, h1, h2⟩ := gv_spec hg; cases h2; rw [h1]; exact ihb _ _ _ e
   · cases e
 | block id c ih =>
   intro fe h x e
   have e : outO (Out.rec (motive := fun _ => Out) (fun fe h => .nrm fe h) (fun i fe h => bif Nat.beq i id then .nrm fe h else .ext i fe h) (fun fe h => .ret fe h) .no (exF P call LF (cC P c) fe h)) = some x := e
   simp only [exE]
   cases ha : exF P call LF (cC P c) fe h with
   | nrm fe1 h1 => rw [ha] at e; rw [ih fe h _ (by rw [ha]; rfl)]; exact e
   | ext i fe1 h1 =>
     rw [ha] at e
     rw [ih fe h _ (by rw [ha]; rfl)]
     simp only at e ⊢
     cases hb : Nat.beq i id
     · rw [hb] at e; exact e
     · rw [hb] at e; exact e
   | ret fe1 h1 => rw [ha] at e; rw [ih fe h _ (by rw [ha]; rfl)]; exact e
   | no => rw [ha] at e; cases e
 | region id ops draw =>
   intro fe h x e
   simp only [exE]
   have lst : ∀ (l : CL), (∀ r, rL P ops.toList call l fe h = some r → (bif draw then drawE P call ops.toList fe h else opsE P call ops.toList ops.toList fe h) = some r) → outO (exF P call LF (.list ops.toList l) fe h) = some x →
    (match (bif draw then drawE P call ops.toList fe h else opsE P call ops.toList ops.toList fe h) with | some (fe', h') => some (X.nrm, fe', h') | none => none) = some x := by
    intro l hl e
    have e : outO (match rL P ops.toList call l fe h with | some (fe', h') => .nrm fe' h' | none => .no) = some x := e
    split at e
    · next fe' h' hr => rw [hl _ hr]; exact e
    · cases e
   cases draw
   · exact lst (cOps P ops.toList ops.toList) (fun r hr => rL_ops hr) e
   · have e : outO (exF P call LF (bif isBad (cDraw P ops.toList) then .draw ops.toList else .list ops.toList (cDraw P ops.toList)) fe h) = some x := e
     cases hb : isBad (cDraw P ops.toList)
     · rw [hb] at e
       exact lst (cDraw P ops.toList) (fun r hr => rL_draw hr) e
     · rw [hb] at e
       have e : outO (match drawE P call ops.toList fe h with | some (fe', h') => .nrm fe' h' | none => .no) = some x := e
       simp only [cond_true]
       split at e
       · next fe' h' hr => rw [hr]; exact e
       · cases e
 | loop c ih =>
   intro fe h x e
   simp only [exE]
   have go : ∀ n fe h, outO (iterF n (exF P call LF (cC P c)) fe h) = some x → iterE (exE P call LF c) n fe h = some x := by
    intro n
    induction n with
    | zero => intro fe h e; cases e
    | succ n ihn =>
      intro fe h e
      have e : outO (Out.rec (motive := fun _ => Out) (iterF n (exF P call LF (cC P c))) (fun i fe h => .ext i fe h) (fun fe h => .ret fe h) .no (exF P call LF (cC P c) fe h)) = some x := e
      simp only [iterE]
      cases ha : exF P call LF (cC P c) fe h with
      | nrm fe1 h1 => rw [ha] at e; rw [ih fe h _ (by rw [ha]; rfl)]; exact ihn _ _ e
      | ext i fe1 h1 => rw [ha] at e; rw [ih fe h _ (by rw [ha]; rfl)]; exact e
      | ret fe1 h1 => rw [ha] at e; rw [ih fe h _ (by rw [ha]; rfl)]; exact e
      | no => rw [ha] at e; cases e
   exact go LF fe h e
 | _ => intro fe h x e; cases e
theorem callF_sound {w0 : World} {B : Nat} (hn : NamesOk P) (hD : DrawOk P drawK) {sums : Sums} (hs : SumsOk P w0 B sums) {LF : Nat} : ∀ n, CallOk P w0 B (callF P sums LF n) := by
 intro n
 induction n with
 | zero => intro f args h v h' φ w xs he; cases he
 | succ n ih =>
   intro f args h v h' φ w xs he hb hx r
   have he : (match cF P sums f with
    | .sum s => s args h
    | .mk k c rs => bif Nat.ble (lenE args 0) k && hasBody P f then Out.rec (motive := fun _ => Res) (fun fe h => finF P rs fe h) (fun _ _ _ => none) (fun fe h => finF P rs fe h) none (exF P (callF P sums LF n) LF c (frame0 0 args .lf) h) else none
    | .no => none) = some (v, h') := he
   unfold cF at he
   cases hsf : sums f with
   | some s => rw [hsf] at he; exact hs f s args h v h' φ w xs hsf he hx r
   | none =>
     rw [hsf] at he
     simp only at he
     cases hfn : P.funcs[f]? with
     | none => rw [hfn] at he; cases he
     | some fn =>
       rw [hfn] at he
       simp only at he
       cases hbody : fn.body with
       | none => rw [hbody] at he; cases he
       | some c =>
         rw [hbody] at he
         simp only at he
         cases hck : wfC fn.ntmps c && Nat.ble fn.ntmps 100000
         · rw [hck] at he; cases he
         rw [hck] at he
         simp only [Bool.and_eq_true, Nat.ble_eq] at hck
         simp only [cond_true] at he
         cases hle : Nat.ble (lenE args 0) fn.ntmps && hasBody P f
         · rw [hle] at he; cases he
         rw [hle] at he
         rw [Bool.and_eq_true, Nat.ble_eq, lenE_eq, Nat.add_zero] at hle
         simp only [cond_true] at he
         have fin : ∀ (x : X) (fe' : FE) (h1 : H), exE P (callF P sums LF n) LF c (frame0 0 args .lf) h = some (x, fe', h1) → (x = .nrm ∨ x = .ret) → finF P fn.results.toList fe' h1 = some (v, h') → Spec P f xs.toArray w (Ok w0 B φ v h') := by
          intro x fe' h1 hex hxx hfin
          unfold finF at hfin
          split at hfin
          · next vs hre => cases hfin; exact body_sound hn hD ih hfn hbody hck.1 hck.2 hle.1 hx r hex hxx hre
          · cases hfin
         cases hex : exF P (callF P sums LF n) LF (cC P c) (frame0 0 args .lf) h with
         | nrm fe1 h1 => rw [hex] at he; exact fin .nrm fe1 h1 (exF_spec _ _ _ _ (by rw [hex]; rfl)) (.inl rfl) he
         | ret fe1 h1 => rw [hex] at he; exact fin .ret fe1 h1 (exF_spec _ _ _ _ (by rw [hex]; rfl)) (.inr rfl) he
         | ext i fe1 h1 => rw [hex] at he; cases he
         | no => rw [hex] at he; cases he
end Go.CW.Ex
