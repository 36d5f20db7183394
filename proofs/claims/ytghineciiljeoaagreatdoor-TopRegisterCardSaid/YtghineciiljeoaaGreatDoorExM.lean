/- Runs in which nothing is unknown: what a memory of the run says of a world. For every program. -/
import Derived.Test.YtghineciiljeoaaGreatDoorExD
import Derived.Deep.MidRow
namespace Go.CW.Ex
open Go.RowKit

/-! ### trees -/
theorem Tr.get_lf {α : Type} (j : Nat) : (Tr.lf : Tr α).get j = none := by cases j <;> rfl

theorem Tr.get_nd {α : Type} (v : Option α) (l r : Tr α) (j : Nat) : (Tr.nd v l r).get j = if j = 0 then v else if (j - 1) % 2 = 0 then l.get ((j - 1) / 2) else r.get ((j - 1) / 2) := by
  cases j with
  | zero => rfl
  | succ n =>
    simp only [Tr.get, Nat.add_sub_cancel, Nat.succ_ne_zero, if_false]
    by_cases h : n % 2 = 0
    · simp [h]
    · have : Nat.beq (n % 2) 0 = false := by
        cases hb : Nat.beq (n % 2) 0
        · rfl
        · exact absurd (Nat.eq_of_beq_eq_true hb) h
      simp [h, this]

theorem Tr.get_set {α : Type} : ∀ (f : Nat) (t : Tr α) (k : Nat) (x : Option α) (j : Nat), k + 1 < 2 ^ f → (Tr.set f t k x).get j = if j = k then x else t.get j := by
  intro f
  induction f with
  | zero => intro t k x j hk; simp at hk
  | succ f ih =>
    intro t k x j hk
    have hch : ∀ n, k = n + 1 → n / 2 + 1 < 2 ^ f := by intro n hn; rw [Nat.pow_succ] at hk; omega
    cases t with
    | lf =>
      cases k with
      | zero =>
        simp only [Tr.set, Tr.get_nd, Tr.get_lf]
        split <;> simp_all
      | succ n =>
        have h1 := ih .lf (n / 2) x
        simp only [Tr.get_lf] at h1 ⊢
        simp only [Tr.set]
        cases hs : Tr.set f .lf (n / 2) x with
        | lf =>
          have hx : x = none := by
            have := h1 (n / 2) (hch n rfl)
            rw [hs] at this
            simpa [Tr.get_lf] using this.symm
          subst hx
          cases hb : Nat.beq (n % 2) 0 <;> simp [Tr.get_nd, Tr.get_lf]
        | nd a b c =>
          rw [hs] at h1
          cases hb : Nat.beq (n % 2) 0
          · have hn : n % 2 ≠ 0 := fun e => by rw [e] at hb; simp at hb
            simp only [cond_false, Tr.get_nd none, Tr.get_lf]
            by_cases hj : j = 0
            · subst hj; simp
            · rw [if_neg hj]
              by_cases hj2 : (j - 1) % 2 = 0
              · rw [if_pos hj2, if_neg (by omega)]
              · rw [if_neg hj2, h1 _ (hch n rfl)]
                by_cases e : j = n + 1
                · subst e; simp
                · rw [if_neg e, if_neg (by omega)]
          · have hn : n % 2 = 0 := Nat.eq_of_beq_eq_true hb
            simp only [cond_true, Tr.get_nd none, Tr.get_lf]
            by_cases hj : j = 0
            · subst hj; simp
            · rw [if_neg hj]
              by_cases hj2 : (j - 1) % 2 = 0
              · rw [if_pos hj2, h1 _ (hch n rfl)]
                by_cases e : j = n + 1
                · subst e; simp
                · rw [if_neg e, if_neg (by omega)]
              · rw [if_neg hj2, if_neg (by omega)]
    | nd v l r =>
      cases k with
      | zero =>
        simp only [Tr.set, Tr.get_nd]
        split <;> simp_all
      | succ n =>
        simp only [Tr.set]
        cases hb : Nat.beq (n % 2) 0
        · have hn : n % 2 ≠ 0 := fun e => by rw [e] at hb; simp at hb
          have h1 := ih r (n / 2) x
          have key : (Tr.nd v l (Tr.set f r (n / 2) x)).get j = if j = n + 1 then x else (Tr.nd v l r).get j := by
            simp only [Tr.get_nd]
            by_cases hj : j = 0
            · subst hj; simp
            · rw [if_neg hj, if_neg hj]
              by_cases hj2 : (j - 1) % 2 = 0
              · rw [if_pos hj2, if_pos hj2, if_neg (by omega)]
              · rw [if_neg hj2, if_neg hj2, h1 _ (hch n rfl)]
                by_cases e : j = n + 1
                · subst e; simp
                · rw [if_neg e, if_neg (by omega)]
          simp only [cond_false]
          cases hs : Tr.set f r (n / 2) x <;> (rw [hs] at key; exact key)
        · have hn : n % 2 = 0 := Nat.eq_of_beq_eq_true hb
          have h1 := ih l (n / 2) x
          have key : (Tr.nd v (Tr.set f l (n / 2) x) r).get j = if j = n + 1 then x else (Tr.nd v l r).get j := by
            simp only [Tr.get_nd]
            by_cases hj : j = 0
            · subst hj; simp
            · rw [if_neg hj, if_neg hj]
              by_cases hj2 : (j - 1) % 2 = 0
              · rw [if_pos hj2, if_pos hj2, h1 _ (hch n rfl)]
                by_cases e : j = n + 1
                · subst e; simp
                · rw [if_neg e, if_neg (by omega)]
              · rw [if_neg hj2, if_neg hj2, if_neg (by omega)]
          simp only [cond_true]
          cases hs : Tr.set f l (n / 2) x <;> (rw [hs] at key; exact key)

theorem frcN_eq {α : Type} (n : Nat) (K : Nat → α) : frcN n K = K n := by cases n <;> rfl

theorem frc_eq {α : Type} (v : EV) (K : EV → α) : frc v K = K v := by
  cases v with
  | int k n => cases n with
    | ofNat n => cases n <;> rfl
    | negSucc n => cases n <;> rfl
  | bool b => cases b <;> rfl
  | ptr b o => simp [frc, frcN_eq]
  | sl b o l c => simp [frc, frcN_eq]
  | su b o l => simp [frc, frcN_eq]
  | _ => rfl

theorem lenE_eq {α : Type} : ∀ (l : List α) (n : Nat), lenE l n = l.length + n := by
  intro l
  induction l with
  | nil => intro n; simp [lenE]
  | cons a l ih => intro n; simp only [lenE, frcN_eq, ih, List.length_cons]; omega

theorem getE_putE {fe : FE} {d : Tmp} {v : EV} {t : Nat} (hd : d < 1000000000) : getE (putE fe (some d) v) t = if t = d then v else getE fe t := by
  have : d + 1 < 2 ^ deep := Nat.lt_of_lt_of_le (Nat.succ_lt_succ hd) (by decide)
  simp only [getE, putE, frc_eq, Tr.get_set deep fe d _ t this]
  by_cases e : t = d <;> simp [e]

/-! ### values -/
def Ext (φ φ' : PM) : Prop := ∀ b p, φ b = some p → φ' b = some p

theorem Ext.refl (φ : PM) : Ext φ φ := fun _ _ h => h
theorem Ext.trans {a b c : PM} (h : Ext a b) (k : Ext b c) : Ext a c := fun i p hp => k i p (h i p hp)

mutual
theorem upV_mono {φ φ' : PM} (h : Ext φ φ') : ∀ (v : EV) {x : Value}, upV φ v = some x → upV φ' v = some x
  | .int .., x, e => by simpa [upV] using e
  | .bool _, x, e => by simpa [upV] using e
  | .str _, x, e => by simpa [upV] using e
  | .nilp, x, e => by simpa [upV] using e
  | .nils, x, e => by simpa [upV] using e
  | .nilm, x, e => by simpa [upV] using e
  | .nilf, x, e => by simpa [upV] using e
  | .nili, x, e => by simpa [upV] using e
  | .ptr b o, x, e => by
    unfold upV at e ⊢
    cases hp : φ b with
    | none => rw [hp] at e; cases e
    | some p => rw [hp] at e; rw [h b p hp]; exact e
  | .sl b o l c, x, e => by
    unfold upV at e ⊢
    cases hp : φ b with
    | none => rw [hp] at e; cases e
    | some p => rw [hp] at e; rw [h b p hp]; exact e
  | .su b o l, x, e => by
    unfold upV at e ⊢
    cases hp : φ b with
    | none => rw [hp] at e; cases e
    | some p => rw [hp] at e; rw [h b p hp]; exact e
  | .st b o0 o z, x, e => by
    unfold upV at e ⊢
    cases hp : φ b with
    | none => rw [hp] at e; cases e
    | some p => rw [hp] at e; rw [h b p hp]; exact e
  | .mp b, x, e => by
    unfold upV at e ⊢
    cases hp : φ b with
    | none => rw [hp] at e; cases e
    | some p => rw [hp] at e; rw [h b p hp]; exact e
  | .fn f a c, x, e => by
    unfold upV at e ⊢
    cases h1 : upL φ a with
    | none => rw [h1] at e; cases e
    | some a' => cases h2 : upL φ c with
      | none => rw [h1, h2] at e; cases e
      | some c' => rw [h1, h2] at e; rw [upL_mono h a h1, upL_mono h c h2]; exact e
  | .agg l, x, e => by
    unfold upV at e ⊢
    cases h1 : upL φ l with
    | none => rw [h1] at e; cases e
    | some a' => rw [h1] at e; rw [upL_mono h l h1]; exact e
  | .tup l, x, e => by
    unfold upV at e ⊢
    cases h1 : upL φ l with
    | none => rw [h1] at e; cases e
    | some a' => rw [h1] at e; rw [upL_mono h l h1]; exact e
theorem upL_mono {φ φ' : PM} (h : Ext φ φ') : ∀ (l : List EV) {xs : List Value}, upL φ l = some xs → upL φ' l = some xs
  | [], xs, e => e
  | v :: r, xs, e => by
    unfold upL at e ⊢
    cases h1 : upV φ v with
    | none => rw [h1] at e; cases e
    | some a' => cases h2 : upL φ r with
      | none => rw [h1, h2] at e; cases e
      | some c' => rw [h1, h2] at e; rw [upV_mono h v h1, upL_mono h r h2]; exact e
end

theorem upL_cons {φ : PM} {v : EV} {r : List EV} {xs : List Value} : upL φ (v :: r) = some xs ↔ ∃ x ys, upV φ v = some x ∧ upL φ r = some ys ∧ xs = x :: ys := by
  rw [upL]
  cases h1 : upV φ v with
  | none => simp
  | some x => cases h2 : upL φ r with
    | none => simp
    | some ys => simp [eq_comm]

theorem upL_nil {φ : PM} {xs : List Value} : upL φ [] = some xs ↔ xs = [] := by simp [upL, eq_comm]

theorem upL_length {φ : PM} : ∀ {l : List EV} {xs : List Value}, upL φ l = some xs → xs.length = l.length := by
  intro l
  induction l with
  | nil => intro xs h; rw [upL_nil.1 h]; rfl
  | cons v r ih => intro xs h; obtain ⟨x, ys, _, h2, rfl⟩ := upL_cons.1 h; simp [ih h2]

theorem upL_append {φ : PM} : ∀ {l m : List EV} {xs ys : List Value}, upL φ l = some xs → upL φ m = some ys → upL φ (l ++ m) = some (xs ++ ys) := by
  intro l
  induction l with
  | nil => intro m xs ys h k; rw [upL_nil.1 h]; simpa using k
  | cons v r ih =>
    intro m xs ys h k
    obtain ⟨x, zs, h1, h2, rfl⟩ := upL_cons.1 h
    exact upL_cons.2 ⟨x, zs ++ ys, h1, ih h2 k, rfl⟩

theorem upL_get {φ : PM} : ∀ {l : List EV} {xs : List Value} {i : Nat} {v : EV}, upL φ l = some xs → l[i]? = some v → ∃ x, xs[i]? = some x ∧ upV φ v = some x := by
  intro l
  induction l with
  | nil => intro xs i v h k; simp at k
  | cons u r ih =>
    intro xs i v h k
    obtain ⟨x, ys, h1, h2, rfl⟩ := upL_cons.1 h
    cases i with
    | zero => simp at k; subst k; exact ⟨x, rfl, h1⟩
    | succ i => obtain ⟨z, a, b⟩ := ih h2 (by simpa using k); exact ⟨z, by simpa using a, b⟩

theorem upV_one {φ : PM} {v : EV} {x : Value} (h : upV φ v = some x) (k : isOneE v = true) : isOne x = true := by
  cases v with
  | agg l => cases k
  | tup l => cases k
  | ptr b o => simp only [upV] at h; split at h <;> cases h; rfl
  | sl b o l c => simp only [upV] at h; split at h <;> cases h; rfl
  | su b o l => simp only [upV] at h; split at h <;> cases h; rfl
  | st b o p z => simp only [upV] at h; split at h <;> cases h; rfl
  | mp b => simp only [upV] at h; split at h <;> cases h; rfl
  | fn f a c => simp only [upV] at h; split at h <;> cases h; rfl
  | _ => simp only [upV] at h; cases h; rfl

theorem upL_one {φ : PM} : ∀ {l : List EV} {xs : List Value}, upL φ l = some xs → allOneE l = true → ∀ x ∈ xs, isOne x = true := by
  intro l
  induction l with
  | nil => intro xs h _ x hx; rw [upL_nil.1 h] at hx; cases hx
  | cons v r ih =>
    intro xs h k x hx
    obtain ⟨y, ys, h1, h2, rfl⟩ := upL_cons.1 h
    simp only [allOneE, Bool.and_eq_true] at k
    cases List.mem_cons.1 hx with
    | inl e => subst e; exact upV_one h1 k.1
    | inr e => exact ih h2 k.2 x e

/-! ### parts of lists -/
theorem takeE_spec {φ : PM} : ∀ {n : Nat} {l m : List EV} {xs : List Value}, takeE n l = some m → upL φ l = some xs → upL φ m = some (xs.take n) ∧ n ≤ xs.length ∧ m.length = n := by
  intro n
  induction n with
  | zero => intro l m xs h k; simp only [takeE] at h; cases h; simp [upL]
  | succ n ih =>
    intro l m xs h k
    cases l with
    | nil => simp [takeE] at h
    | cons v r =>
      obtain ⟨x, ys, h1, h2, rfl⟩ := upL_cons.1 k
      simp only [takeE] at h
      split at h
      · next l' hl =>
        cases h
        obtain ⟨k1, k2, k3⟩ := ih hl h2
        exact ⟨upL_cons.2 ⟨x, _, h1, k1, rfl⟩, by simp; omega, by simp [k3]⟩
      · cases h

theorem dropE_spec {φ : PM} : ∀ {n : Nat} {l m : List EV} {xs : List Value}, dropE n l = some m → upL φ l = some xs → upL φ m = some (xs.drop n) ∧ n ≤ xs.length := by
  intro n
  induction n with
  | zero => intro l m xs h k; simp only [dropE] at h; cases h; simpa using k
  | succ n ih =>
    intro l m xs h k
    cases l with
    | nil => simp [dropE] at h
    | cons v r =>
      obtain ⟨x, ys, h1, h2, rfl⟩ := upL_cons.1 k
      simp only [dropE] at h
      obtain ⟨k1, k2⟩ := ih h h2
      exact ⟨by simpa using k1, by simp; omega⟩

theorem partE_spec {φ : PM} {o n : Nat} {l m : List EV} {xs : List Value} (h : partE o n l = some m) (k : upL φ l = some xs) : upL φ m = some ((xs.drop o).take n) ∧ o + n ≤ xs.length ∧ m.length = n := by
  unfold partE at h
  split at h
  · next r hr =>
    obtain ⟨k1, k2⟩ := dropE_spec hr k
    obtain ⟨k3, k4, k5⟩ := takeE_spec h k1
    exact ⟨k3, by simp at k4; omega, k5⟩
  · cases h

theorem layE_spec {φ : PM} : ∀ {o : Nat} {vs l m : List EV} {xs ys : List Value}, layE o vs l = some m → upL φ l = some xs → upL φ vs = some ys →
    upL φ m = some (xs.take o ++ ys ++ xs.drop (o + ys.length)) ∧ o + ys.length ≤ xs.length := by
  intro o
  induction o with
  | zero =>
    intro vs
    induction vs with
    | nil => intro l m xs ys h k k2; simp only [layE] at h; cases h; rw [upL_nil.1 k2]; simpa using k
    | cons v vs ih =>
      intro l m xs ys h k k2
      cases l with
      | nil => simp [layE] at h
      | cons u r =>
        obtain ⟨x, ys', h1, h2, rfl⟩ := upL_cons.1 k2
        obtain ⟨z, zs, h3, h4, rfl⟩ := upL_cons.1 k
        simp only [layE] at h
        split at h
        · next l' hl =>
          cases h
          obtain ⟨k3, k4⟩ := ih hl h4 h2
          refine ⟨upL_cons.2 ⟨x, _, h1, k3, ?_⟩, by simp at k4 ⊢; omega⟩
          have e : 0 + (x :: ys').length = (0 + ys'.length) + 1 := by simp
          rw [e, List.drop_succ_cons]
          simp
        · cases h
  | succ o ih =>
    intro vs l m xs ys h k k2
    cases l with
    | nil => cases vs <;> simp [layE] at h
    | cons u r =>
      obtain ⟨z, zs, h3, h4, rfl⟩ := upL_cons.1 k
      simp only [layE] at h
      split at h
      · next l' hl =>
        cases h
        obtain ⟨k3, k4⟩ := ih hl h4 k2
        refine ⟨upL_cons.2 ⟨z, _, h3, k3, ?_⟩, by simp; omega⟩
        have e : o + 1 + ys.length = (o + ys.length) + 1 := by omega
        rw [e, List.drop_succ_cons]
        simp
      · cases h

theorem layE_one : ∀ {o : Nat} {vs l m : List EV}, layE o vs l = some m → allOneE l = true → allOneE vs = true → allOneE m = true := by
  intro o
  induction o with
  | zero =>
    intro vs
    induction vs with
    | nil => intro l m h k _; simp only [layE] at h; cases h; exact k
    | cons v vs ih =>
      intro l m h k k2
      cases l with
      | nil => simp [layE] at h
      | cons u r =>
        simp only [layE] at h
        simp only [allOneE, Bool.and_eq_true] at k k2
        split at h
        · next l' hl => cases h; simp only [allOneE, Bool.and_eq_true]; exact ⟨k2.1, ih hl k.2 k2.2⟩
        · cases h
  | succ o ih =>
    intro vs l m h k k2
    cases l with
    | nil => cases vs <;> simp [layE] at h
    | cons u r =>
      simp only [layE] at h
      simp only [allOneE, Bool.and_eq_true] at k
      split at h
      · next l' hl => cases h; simp only [allOneE, Bool.and_eq_true]; exact ⟨k.1, ih hl k.2 k2⟩
      · cases h

/-! ### what a memory says of a world -/
structure CellsAt (φ : PM) (w : World) (p : Pl) (size : Nat) (cs : List EV) : Prop where
  size : p.size = size
  most : p.cap / p.size ≤ maxLen
  ex : ∃ xs, upL φ cs = some xs ∧ xs.length ≤ p.cap ∧ (∀ x ∈ xs, isOne x = true) ∧ ∀ i, i < xs.length → w.cell? ⟨p.blk, p.sh + i, none⟩ = xs[i]?
  there : ∀ i, i < p.cap → (w.cell? ⟨p.blk, p.sh + i, none⟩).isSome = true
  thaw : ∀ i, i < p.cap → w.frozen? ⟨p.blk, p.sh + i, none⟩ = false

structure MapAt (φ : PM) (w : World) (p : Pl) (es : List (EV × EV)) : Prop where
  ex : ∃ (ents : Array MapEntry) (clock : Nat) (ks vs : List Value), w.heap[p.blk]? = some (.map ents clock) ∧ upL φ (es.map (·.1)) = some ks ∧ upL φ (es.map (·.2)) = some vs ∧
    ents.toList.map (·.key) = ks ∧ ents.toList.map (·.val) = vs

def isLive : MB → Bool
  | .cells _ _ _ _ => true
  | .mp _ => true
  | _ => false

structure Hd (w0 : World) (B : Nat) (φ : PM) (h : H) (w : World) : Prop where
  below : Below B w0 w
  base : B ≤ w0.heap.size
  most : h.next ≤ 1000000001
  fresh : ∀ b, h.next ≤ b → φ b = none ∧ h.t.get b = none
  cells : ∀ b e s a cs, h.at b = .cells e s a cs → ∃ p, φ b = some p ∧ B ≤ p.blk ∧ p.blk < w.heap.size ∧ CellsAt φ w p s cs
  maps : ∀ b es, h.at b = .mp es → ∃ p, φ b = some p ∧ B ≤ p.blk ∧ p.blk < w.heap.size ∧ MapAt φ w p es
  hole : ∀ b, h.at b = .hole → φ b = none
  sep : ∀ b b' p p', isLive (h.at b) = true → isLive (h.at b') = true → φ b = some p → φ b' = some p' → p.blk = p'.blk → b = b'

theorem Hd.bsize {w0 w : World} {B : Nat} {φ : PM} {h : H} (r : Hd w0 B φ h w) : B ≤ w.heap.size := Nat.le_trans r.base r.below.size

theorem Hd.at_lt {w0 w : World} {B : Nat} {φ : PM} {h : H} (r : Hd w0 B φ h w) {b : Nat} (hb : h.at b ≠ .dead) : b < h.next := by
  by_cases e : b < h.next
  · exact e
  · have := (r.fresh b (by omega)).2
    unfold H.at at hb
    rw [this] at hb
    exact absurd rfl hb

theorem CellsAt.mono {φ φ' : PM} {w w' : World} {p : Pl} {size : Nat} {cs : List EV} (c : CellsAt φ w p size cs) (hx : Ext φ φ')
    (hb : w'.heap[p.blk]? = w.heap[p.blk]?) : CellsAt φ' w' p size cs := by
  have hc : ∀ i, w'.cell? ⟨p.blk, p.sh + i, none⟩ = w.cell? ⟨p.blk, p.sh + i, none⟩ := fun i => World.cell?_of_block hb
  have hf : ∀ i, w'.frozen? ⟨p.blk, p.sh + i, none⟩ = w.frozen? ⟨p.blk, p.sh + i, none⟩ := fun i => World.frozen?_of_block hb
  obtain ⟨xs, h1, h2, h3, h4⟩ := c.ex
  exact ⟨c.size, c.most, ⟨xs, upL_mono hx _ h1, h2, h3, fun i hi => (hc i).trans (h4 i hi)⟩, fun i hi => by rw [hc]; exact c.there i hi, fun i hi => by rw [hf]; exact c.thaw i hi⟩

theorem MapAt.mono {φ φ' : PM} {w w' : World} {p : Pl} {es : List (EV × EV)} (c : MapAt φ w p es) (hx : Ext φ φ') (hb : w'.heap[p.blk]? = w.heap[p.blk]?) : MapAt φ' w' p es := by
  obtain ⟨ents, cl, ks, vs, h1, h2, h3, h4, h5⟩ := c.ex
  exact ⟨ents, cl, ks, vs, hb.trans h1, upL_mono hx _ h2, upL_mono hx _ h3, h4, h5⟩

theorem H.at_put {h : H} {b : Nat} {x : MB} (hb : b < 1000000002) (b' : Nat) : (h.put b x).at b' = if b' = b then x else h.at b' := by
  have : b + 1 < 2 ^ deep := by simp only [deep]; omega
  have e := Tr.get_set deep h.t b (some x) b' this
  unfold H.put H.at
  cases hs : Tr.set deep h.t b (some x) with
  | lf =>
    rw [hs] at e
    by_cases e2 : b' = b
    · rw [if_pos e2] at e; simp [Tr.get_lf] at e
    · rw [if_neg e2] at e; simp only [if_neg e2]; rw [e]
  | nd a l r =>
    rw [hs] at e
    simp only [e]
    by_cases e2 : b' = b <;> simp [e2]

theorem H.get_put {h : H} {b : Nat} {x : MB} (hb : b < 1000000002) (b' : Nat) : (h.put b x).t.get b' = if b' = b then some x else h.t.get b' := by
  have : b + 1 < 2 ^ deep := by simp only [deep]; omega
  have e := Tr.get_set deep h.t b (some x) b' this
  unfold H.put
  cases hs : Tr.set deep h.t b (some x) with
  | lf => rw [hs] at e; exact e
  | nd a l r => rw [hs] at e; exact e

theorem H.put_next {h : H} {b : Nat} {x : MB} : (h.put b x).next = h.next := by
  unfold H.put
  cases Tr.set deep h.t b (some x) <;> rfl

theorem H.new_spec {h h' : H} {x : MB} (e : h.new x = some h') : h.next < 1000000000 ∧ h'.next = h.next + 1 ∧ (∀ b, h'.at b = if b = h.next then x else h.at b) ∧ (∀ b, h'.t.get b = if b = h.next then some x else h.t.get b) := by
  unfold H.new at e
  cases hb : Nat.blt h.next 1000000000
  · rw [hb] at e; cases e
  · rw [hb] at e
    have hlt : h.next < 1000000000 := by simpa [Nat.blt_eq] using hb
    have hd : h.next + 1 < 2 ^ deep := by simp only [deep]; omega
    have hg := fun j => Tr.get_set deep h.t h.next (some x) j hd
    simp only [cond_true] at e
    cases hs : Tr.set deep h.t h.next (some x) with
    | lf => rw [hs] at e; cases e
    | nd a l r =>
      rw [hs] at e hg
      have e' : h' = ⟨.nd a l r, h.next + 1⟩ := by
        cases hn : h.next with
        | zero => rw [hn] at e; simpa using e.symm
        | succ n => rw [hn] at e; simpa using e.symm
      subst e'
      refine ⟨hlt, rfl, fun b => ?_, hg⟩
      simp only [H.at, hg]
      by_cases e2 : b = h.next <;> simp [e2]

def PM.set (φ : PM) (b : Nat) (p : Pl) : PM := fun b' => if b' = b then some p else φ b'

theorem PM.ext_set {φ : PM} {b : Nat} {p : Pl} (h : φ b = none) : Ext φ (φ.set b p) := by
  intro b' p' hp
  unfold PM.set
  by_cases e : b' = b
  · subst e; rw [h] at hp; cases hp
  · rw [if_neg e]; exact hp

/-- a draw -/
theorem Hd.drew {w0 w : World} {B : Nat} {φ : PM} {h : H} (r : Hd w0 B φ h w) : Hd w0 B φ h w.drew :=
  ⟨r.below.drew, r.base, r.most, r.fresh, fun b e s a cs hb => let ⟨p, h1, h2, h3, h4⟩ := r.cells b e s a cs hb; ⟨p, h1, h2, h3, h4.mono (Ext.refl _) rfl⟩,
    fun b es hb => let ⟨p, h1, h2, h3, h4⟩ := r.maps b es hb; ⟨p, h1, h2, h3, h4.mono (Ext.refl _) rfl⟩, r.hole, r.sep⟩

theorem isOne_oneCell {v : Value} (h : isOne v = true) : v.oneCell' = true := by cases v <;> first | rfl | (simp [isOne] at h)

/-- cells stored over a block's -/
theorem Hd.setCells {w0 w : World} {B : Nat} {φ : PM} {h h' : H} (r : Hd w0 B φ h w) {b o : Nat} {vs : List EV} (hs : setCellsE h b o vs = some h') {ys : List Value} (hv : upL φ vs = some ys)
    (h1 : ∀ x ∈ ys, isOne x = true) : ∃ p, φ b = some p ∧ Hd w0 B φ h' (w.setCells p.blk (p.sh + o) ys) ∧ (∀ j, j < ys.length → (w.cell? ⟨p.blk, p.sh + o + j, none⟩).isSome = true) ∧
      (∀ j, j < ys.length → w.frozen? ⟨p.blk, p.sh + o + j, none⟩ = false) ∧ (∃ e s a cs, h.at b = .cells e s a cs ∧ o + ys.length ≤ p.cap) := by
  unfold setCellsE at hs
  split at hs
  · next e s a cs hb =>
    split at hs
    · next cs' hl =>
      cases hs
      obtain ⟨p, j1, j2, j3, j4⟩ := r.cells b e s a cs hb
      obtain ⟨xs, i1, i2, i3, i4⟩ := j4.ex
      obtain ⟨l1, l2⟩ := layE_spec hl i1 hv
      have hlt : b < h.next := r.at_lt (by rw [hb]; intro k; cases k)
      have hb2 : b < 1000000002 := by have := r.most; omega
      have hsome : ∀ j, j < ys.length → (w.cell? ⟨p.blk, p.sh + o + j, none⟩).isSome = true := fun j hj => by rw [Nat.add_assoc]; exact j4.there _ (by omega)
      have hne : ∀ k, k ≠ p.blk → (w.setCells p.blk (p.sh + o) ys).heap[k]? = w.heap[k]? := fun k hk => heap_setCells_ne p.blk k hk ys (p.sh + o) w
      have hsz := (setCells_fields p.blk ys (p.sh + o) w)
      have other : ∀ c q, c ≠ b → isLive (h.at c) = true → φ c = some q → q.blk ≠ p.blk := fun c q hc hl2 hq he => hc (r.sep c b q p hl2 (by rw [hb]; rfl) hq j1 he)
      refine ⟨p, j1, ⟨?_, r.base, by rw [H.put_next]; exact r.most, ?_, ?_, ?_, ?_, ?_⟩, hsome, fun j hj => by rw [Nat.add_assoc]; exact j4.thaw _ (by omega), e, s, a, cs, hb, by omega⟩
      · exact ⟨hsz.1.trans r.below.os, hsz.2.1.trans r.below.tape, hsz.2.2.1.trans r.below.output, by rw [hsz.2.2.2]; exact r.below.size, fun k hk => (hne k (by omega)).trans (r.below.block k hk)⟩
      · intro c hc
        rw [H.put_next] at hc
        rw [H.get_put hb2, if_neg (by omega : c ≠ b)]
        exact r.fresh c hc
      · intro c e2 s2 a2 cs2 hc
        rw [H.at_put hb2] at hc
        by_cases hcb : c = b
        · subst hcb
          rw [if_pos rfl] at hc
          cases hc
          refine ⟨p, j1, j2, by rw [hsz.2.2.2]; exact j3, j4.size, j4.most, ⟨_, l1, by simp; omega, ?_, ?_⟩, fun i hi => ?_, fun i hi => ?_⟩
          · intro x hx
            simp only [List.append_assoc, List.mem_append] at hx
            rcases hx with hx | hx | hx
            · exact i3 x (List.mem_of_mem_take hx)
            · exact h1 x hx
            · exact i3 x (List.mem_of_mem_drop hx)
          · intro i hi
            simp only [List.length_append, List.length_take, List.length_drop] at hi
            have hi2 : i < xs.length := by omega
            by_cases c1 : i < o
            · rw [World.cell?_setCells_out p.blk ys (p.sh + o) w _ (fun _ _ => .inl (by show p.sh + i < p.sh + o; omega)), i4 i hi2]
              rw [List.append_assoc, List.getElem?_append_left (by simp; omega), List.getElem?_take, if_pos c1]
            · by_cases c2 : i < o + ys.length
              · have hj : i - o < ys.length := by omega
                have e1 : p.sh + i = p.sh + o + (i - o) := by omega
                rw [e1, World.cell?_setCells_in p.blk ys (p.sh + o) w hsome (i - o) hj]
                rw [List.append_assoc, List.getElem?_append_right (by simp; omega), List.getElem?_append_left (by simp; omega)]
                have e2 : i - (List.take o xs).length = i - o := by simp; omega
                rw [e2]; simp [hj]
              · rw [World.cell?_setCells_out p.blk ys (p.sh + o) w _ (fun _ _ => .inr (by show p.sh + o + ys.length ≤ p.sh + i; omega)), i4 i hi2]
                rw [List.getElem?_append_right (by simp; omega), List.getElem?_drop]
                congr 1
                simp; omega
          · exact World.isSome_setCells p.blk ys (p.sh + o) w _ (j4.there i hi)
          · rw [World.frozen?_setCells]; exact j4.thaw i hi
        · rw [if_neg hcb] at hc
          obtain ⟨q, m1, m2, m3, m4⟩ := r.cells c e2 s2 a2 cs2 hc
          exact ⟨q, m1, m2, by rw [hsz.2.2.2]; exact m3, m4.mono (Ext.refl _) (hne _ (other c q hcb (by rw [hc]; rfl) m1))⟩
      · intro c es hc
        rw [H.at_put hb2] at hc
        by_cases hcb : c = b
        · subst hcb; rw [if_pos rfl] at hc; cases hc
        · rw [if_neg hcb] at hc
          obtain ⟨q, m1, m2, m3, m4⟩ := r.maps c es hc
          exact ⟨q, m1, m2, by rw [hsz.2.2.2]; exact m3, m4.mono (Ext.refl _) (hne _ (other c q hcb (by rw [hc]; rfl) m1))⟩
      · intro c hc
        rw [H.at_put hb2] at hc
        by_cases hcb : c = b
        · subst hcb; rw [if_pos rfl] at hc; cases hc
        · rw [if_neg hcb] at hc; exact r.hole c hc
      · intro c c' q q' hc hc' hq hq' he
        rw [H.at_put hb2] at hc hc'
        have live : ∀ d, isLive (if d = b then MB.cells e s a cs' else h.at d) = true → isLive (h.at d) = true := by
          intro d hd
          by_cases hdb : d = b
          · subst hdb; rw [hb]; rfl
          · rw [if_neg hdb] at hd; exact hd
        exact r.sep c c' q q' (live c hc) (live c' hc') hq hq' he
    · cases hs
  · cases hs

/-- a block is given up -/
theorem Hd.kill {w0 w : World} {B : Nat} {φ : PM} {h : H} (r : Hd w0 B φ h w) {b : Nat} (hb : b < h.next) : Hd w0 B φ (h.put b .dead) w := by
  have hb2 : b < 1000000002 := by have := r.most; omega
  refine ⟨r.below, r.base, by rw [H.put_next]; exact r.most, fun c hc => ?_, fun c e s a cs hc => ?_, fun c es hc => ?_, fun c hc => ?_, fun c c' q q' hc hc' hq hq' he => ?_⟩
  · rw [H.put_next] at hc
    rw [H.get_put hb2, if_neg (by omega : c ≠ b)]
    exact r.fresh c hc
  · rw [H.at_put hb2] at hc
    by_cases hcb : c = b
    · rw [if_pos hcb] at hc; cases hc
    · rw [if_neg hcb] at hc; exact r.cells c e s a cs hc
  · rw [H.at_put hb2] at hc
    by_cases hcb : c = b
    · rw [if_pos hcb] at hc; cases hc
    · rw [if_neg hcb] at hc; exact r.maps c es hc
  · rw [H.at_put hb2] at hc
    by_cases hcb : c = b
    · rw [if_pos hcb] at hc; cases hc
    · rw [if_neg hcb] at hc; exact r.hole c hc
  · rw [H.at_put hb2] at hc hc'
    have live : ∀ d, isLive (if d = b then MB.dead else h.at d) = true → isLive (h.at d) = true := by
      intro d hd
      by_cases hdb : d = b
      · rw [if_pos hdb] at hd; cases hd
      · rw [if_neg hdb] at hd; exact hd
    exact r.sep c c' q q' (live c hc) (live c' hc') hq hq' he

/-- a new map -/
theorem Hd.newMap {w0 w : World} {B : Nat} {φ : PM} {h h' : H} (r : Hd w0 B φ h w) (hn : h.new (.mp []) = some h') :
    Hd w0 B (φ.set h.next ⟨w.heap.size, 0, 0, 0⟩) h' (w.alloc (.map #[] 0)) ∧ φ h.next = none := by
  obtain ⟨k1, k2, k3, k4⟩ := H.new_spec hn
  have hf := (r.fresh h.next (Nat.le_refl _)).1
  have hext := PM.ext_set (p := ⟨w.heap.size, 0, 0, 0⟩) hf
  have hold : ∀ k, k < w.heap.size → (w.alloc (.map #[] 0)).heap[k]? = w.heap[k]? := fun k hk => Below.heap_alloc w _ k hk
  refine ⟨⟨r.below.alloc r.bsize _, r.base, by omega, ?_, ?_, ?_, ?_, ?_⟩, hf⟩
  · intro b hb
    rw [k2] at hb
    have hne : b ≠ h.next := by omega
    refine ⟨?_, ?_⟩
    · unfold PM.set; rw [if_neg hne]; exact (r.fresh b (by omega)).1
    · rw [k4, if_neg hne]; exact (r.fresh b (by omega)).2
  · intro b e2 s2 a2 cs2 hb
    rw [k3] at hb
    by_cases hne : b = h.next
    · rw [if_pos hne] at hb; cases hb
    · rw [if_neg hne] at hb
      obtain ⟨p, j1, j2, j3, j4⟩ := r.cells b e2 s2 a2 cs2 hb
      exact ⟨p, hext b p j1, j2, by simp; omega, j4.mono hext (hold _ j3)⟩
  · intro b es hb
    rw [k3] at hb
    by_cases hne : b = h.next
    · rw [if_pos hne] at hb
      cases hb
      subst hne
      refine ⟨⟨w.heap.size, 0, 0, 0⟩, by simp [PM.set], r.bsize, by simp, ⟨#[], 0, [], [], by show (w.heap.push _)[w.heap.size]? = _; rw [Array.getElem?_push_size], upL_nil.2 rfl, upL_nil.2 rfl, rfl, rfl⟩⟩
    · rw [if_neg hne] at hb
      obtain ⟨p, j1, j2, j3, j4⟩ := r.maps b es hb
      exact ⟨p, hext b p j1, j2, by simp; omega, j4.mono hext (hold _ j3)⟩
  · intro b hb
    rw [k3] at hb
    by_cases hne : b = h.next
    · rw [if_pos hne] at hb; cases hb
    · rw [if_neg hne] at hb; unfold PM.set; rw [if_neg hne]; exact r.hole b hb
  · intro b b' p p' hb hb' hp hp' he
    rw [k3] at hb hb'
    have old : ∀ c q, c ≠ h.next → isLive (h.at c) = true → φ.set h.next ⟨w.heap.size, 0, 0, 0⟩ c = some q → q.blk < w.heap.size := by
      intro c q hc hl2 hq
      unfold PM.set at hq; rw [if_neg hc] at hq
      cases hm : h.at c with
      | cells e3 s3 a3 cs3 => obtain ⟨p3, j1, _, j3, _⟩ := r.cells c _ _ _ _ hm; rw [j1] at hq; cases hq; exact j3
      | mp es => obtain ⟨p3, j1, _, j3, _⟩ := r.maps c _ hm; rw [j1] at hq; cases hq; exact j3
      | hole => rw [hm] at hl2; cases hl2
      | dead => rw [hm] at hl2; cases hl2
    by_cases c1 : b = h.next <;> by_cases c2 : b' = h.next
    · rw [c1, c2]
    · rw [if_neg c2] at hb'
      have := old b' p' c2 hb' hp'
      unfold PM.set at hp; rw [if_pos c1] at hp; cases hp; simp at he; omega
    · rw [if_neg c1] at hb
      have := old b p c1 hb hp
      unfold PM.set at hp'; rw [if_pos c2] at hp'; cases hp'; simp at he; omega
    · rw [if_neg c1] at hb; rw [if_neg c2] at hb'
      unfold PM.set at hp hp'; rw [if_neg c1] at hp; rw [if_neg c2] at hp'
      exact r.sep b b' p p' hb hb' hp hp' he

end Go.CW.Ex
