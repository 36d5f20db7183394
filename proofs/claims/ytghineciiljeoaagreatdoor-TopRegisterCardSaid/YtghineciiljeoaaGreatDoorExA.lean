/- Runs in which nothing is unknown: constants, operands, numbers, comparisons. For every program. -/
import Derived.Test.YtghineciiljeoaaGreatDoorExM
namespace Go.CW.Ex
open Go.RowKit

/-! ### constants and operands -/
theorem mapOfNat_toNat : ∀ (l : List UInt8), (l.map (fun b => b.toNat)).map UInt8.ofNat = l := by
  intro l
  induction l with
  | nil => rfl
  | cons a r ih => simp only [List.map_cons, ih]; congr 1; simp

mutual
theorem dnV_sound (φ : PM) : ∀ (v : Value) {e : EV}, dnV v = some e → upV φ e = some v
  | .int k n, e, h => by simp only [dnV, Option.some.injEq] at h; subst h; rfl
  | .bool b, e, h => by simp only [dnV, Option.some.injEq] at h; subst h; rfl
  | .string s, e, h => by
    simp only [dnV, Option.some.injEq] at h; subst h
    simp only [upV, mapOfNat_toNat]
  | .pointer none, e, h => by simp only [dnV, Option.some.injEq] at h; subst h; rfl
  | .pointer (some a), e, h => by simp [dnV] at h
  | .slice none 0 0, e, h => by simp only [dnV, Option.some.injEq] at h; subst h; rfl
  | .slice none 0 (n + 1), e, h => by simp [dnV] at h
  | .slice none (n + 1) c, e, h => by simp [dnV] at h
  | .slice (some a) n c, e, h => by simp [dnV] at h
  | .map none, e, h => by simp only [dnV, Option.some.injEq] at h; subst h; rfl
  | .map (some r), e, h => by simp [dnV] at h
  | .func (.func f) ⟨a⟩ ⟨c⟩, e, h => by
    simp only [dnV] at h
    split at h
    · next a' c' h1 h2 =>
      simp only [Option.some.injEq] at h; subst h
      simp only [upV, dnL_sound φ a h1, dnL_sound φ c h2]
    · cases h
  | .func (.method n) a c, e, h => by simp [dnV] at h
  | .func (.methodOf t n) a c, e, h => by simp [dnV] at h
  | .func (.via t p f q) a c, e, h => by simp [dnV] at h
  | .func (.yield l) a c, e, h => by simp [dnV] at h
  | .nilFunc, e, h => by simp only [dnV, Option.some.injEq] at h; subst h; rfl
  | .nilIface, e, h => by simp only [dnV, Option.some.injEq] at h; subst h; rfl
  | .agg ⟨l⟩, e, h => by
    simp only [dnV] at h
    split at h
    · next l' h1 => simp only [Option.some.injEq] at h; subst h; simp only [upV, dnL_sound φ l h1]
    · cases h
  | .tuple ⟨l⟩, e, h => by
    simp only [dnV] at h
    split at h
    · next l' h1 => simp only [Option.some.injEq] at h; subst h; simp only [upV, dnL_sound φ l h1]
    · cases h
  | .float k b, e, h => by simp [dnV] at h
  | .complex k a b, e, h => by simp [dnV] at h
  | .chan r, e, h => by simp [dnV] at h
  | .iface t v, e, h => by simp [dnV] at h
theorem dnL_sound (φ : PM) : ∀ (l : List Value) {es : List EV}, dnL l = some es → upL φ es = some l
  | [], es, h => by simp only [dnL, Option.some.injEq] at h; subst h; exact upL_nil.2 rfl
  | v :: r, es, h => by
    simp only [dnL] at h
    split at h
    · next x xs h1 h2 =>
      simp only [Option.some.injEq] at h; subst h
      exact upL_cons.2 ⟨v, r, dnV_sound φ v h1, dnL_sound φ r h2, rfl⟩
    · cases h
end

/-- frames alike -/
def FR (φ : PM) (fe : FE) (fr : Fr) : Prop := ∀ t, upV φ (getE fe t) = some (get fr t)

theorem FR.mono {φ φ' : PM} {fe : FE} {fr : Fr} (h : FR φ fe fr) (hx : Ext φ φ') : FR φ' fe fr := fun t => upV_mono hx _ (h t)

theorem upV_und (φ : PM) : upV φ .und = some undef := by simp [EV.und, upV, upL, undef]

theorem FR.put {φ : PM} {fe : FE} {fr : Fr} (h : FR φ fe fr) {d : Option Tmp} {v : EV} {x : Value} (hv : upV φ v = some x) (hd : ∀ t, d = some t → t < 1000000000) : FR φ (putE fe d v) (putF fr d x) := by
  intro t
  cases d with
  | none => exact h t
  | some d =>
    rw [getE_putE (hd d rfl)]
    simp only [putF, get_cons]
    by_cases e : t = d
    · rw [if_pos e, if_pos e]; exact hv
    · rw [if_neg e, if_neg e]; exact h t

theorem evE_sound {φ : PM} {fe : FE} {fr : Fr} (h : FR φ fe fr) {x : Operand} {v : EV} (hv : evE fe x = some v) : upV φ v = some (ev fr x) := by
  cases x with
  | tmp t => simp only [evE, Option.some.injEq] at hv; subst hv; exact h t
  | const c => exact dnV_sound φ c hv
  | global g => cases hv
  | func f => simp only [evE, Option.some.injEq] at hv; subst hv; simp [upV, upL, ev]

theorem evLE_sound {φ : PM} {fe : FE} {fr : Fr} (h : FR φ fe fr) : ∀ {xs : List Operand} {vs : List EV}, evLE fe xs = some vs → upL φ vs = some (xs.map (ev fr)) := by
  intro xs
  induction xs with
  | nil => intro vs hv; simp only [evLE, Option.some.injEq] at hv; subst hv; exact upL_nil.2 rfl
  | cons x r ih =>
    intro vs hv
    simp only [evLE] at hv
    split at hv
    · next v h1 =>
      split at hv
      · next vs' h2 => simp only [Option.some.injEq] at hv; subst hv; exact upL_cons.2 ⟨_, _, evE_sound h h1, ih h2, rfl⟩
      · cases hv
    · cases hv

/-- an operand that may be missing -/
def upO (φ : PM) : Option EV → Option Value → Prop
  | none, none => True
  | some v, some x => upV φ v = some x
  | _, _ => False

theorem evOE_sound {φ : PM} {fe : FE} {fr : Fr} (h : FR φ fe fr) {x : Option Operand} {v : Option EV} (hv : evOE fe x = some v) : upO φ v (x.map (ev fr)) := by
  cases x with
  | none => simp only [evOE, Option.some.injEq] at hv; subst hv; trivial
  | some x =>
    simp only [evOE] at hv
    split at hv
    · next u h1 => simp only [Option.some.injEq] at hv; subst hv; exact evE_sound h h1
    · cases hv

/-- parts alike -/
def upP (φ : PM) (ps : List (Nat × EV)) (qs : List (Nat × Value)) : Prop := ps.map (·.1) = qs.map (·.1) ∧ upL φ (ps.map (·.2)) = some (qs.map (·.2))

theorem evPE_sound {φ : PM} {fe : FE} {fr : Fr} (h : FR φ fe fr) : ∀ {xs : List (Nat × Operand)} {vs : List (Nat × EV)}, evPE fe xs = some vs → upP φ vs (xs.map (fun p => (p.1, ev fr p.2))) := by
  intro xs
  induction xs with
  | nil => intro vs hv; simp only [evPE, Option.some.injEq] at hv; subst hv; exact ⟨rfl, upL_nil.2 rfl⟩
  | cons x r ih =>
    obtain ⟨i, x⟩ := x
    intro vs hv
    simp only [evPE] at hv
    split at hv
    · next v h1 =>
      split at hv
      · next vs' h2 =>
        simp only [Option.some.injEq] at hv; subst hv
        obtain ⟨k1, k2⟩ := ih h2
        exact ⟨by simp [k1], upL_cons.2 ⟨_, _, evE_sound h h1, k2, rfl⟩⟩
      · cases hv
    · cases hv

/-! ### forms -/
theorem kEq_eq {a b : IntKind} (h : kEq a b = true) : a = b := by cases a <;> cases b <;> first | rfl | cases h

theorem repE_exR {φ : PM} {r : Rep} {v : EV} {x : Value} (h : repE r v = true) (hv : upV φ v = some x) {A K : Value → Prop} (a : A x) (k : K x) : exR r A K := by
  cases r with
  | int k' => cases v with
    | int k'' n => simp only [repE] at h; obtain rfl := kEq_eq h; simp only [upV, Option.some.injEq] at hv; subst hv; exact ⟨n, a, k⟩
    | _ => cases h
  | bool => cases v with
    | bool b => simp only [upV, Option.some.injEq] at hv; subst hv; exact ⟨b, a, k⟩
    | _ => cases h
  | str => cases v with
    | str s => simp only [upV, Option.some.injEq] at hv; subst hv; exact ⟨_, a, k⟩
    | _ => cases h
  | ptr => cases v with
    | ptr b o => simp only [upV] at hv; split at hv <;> cases hv; exact ⟨_, a, k⟩
    | nilp => simp only [upV, Option.some.injEq] at hv; subst hv; exact ⟨_, a, k⟩
    | _ => cases h
  | val => exact ⟨x, a, k⟩

theorem repsE_exRs {φ : PM} : ∀ {rs : List Rep} {vs : List EV} {xs : List Value} {K : List Value → Prop}, repsE rs vs = true → upL φ vs = some xs → K xs → exRs rs K := by
  intro rs
  induction rs with
  | nil => intro vs xs K h hv k; cases vs with
    | nil => rw [upL_nil.1 hv] at k; exact k
    | cons v r => cases h
  | cons r rs ih =>
    intro vs xs K h hv k
    cases vs with
    | nil => cases h
    | cons v vs =>
      obtain ⟨x, ys, h1, h2, rfl⟩ := upL_cons.1 hv
      simp only [repsE, Bool.and_eq_true] at h
      have hr := h.1
      have hi : exRs rs (fun zs => K (x :: zs)) := ih h.2 h2 k
      cases r with
      | int k' => cases v with
        | int k'' n => simp only [repE] at hr; obtain rfl := kEq_eq hr; simp only [upV, Option.some.injEq] at h1; subst h1; exact ⟨n, hi⟩
        | _ => cases hr
      | bool => cases v with
        | bool b => simp only [upV, Option.some.injEq] at h1; subst h1; exact ⟨b, hi⟩
        | _ => cases hr
      | str => cases v with
        | str s => simp only [upV, Option.some.injEq] at h1; subst h1; exact ⟨_, hi⟩
        | _ => cases hr
      | ptr => cases v with
        | ptr b o => simp only [upV] at h1; split at h1 <;> cases h1; exact ⟨_, hi⟩
        | nilp => simp only [upV, Option.some.injEq] at h1; subst h1; exact ⟨_, hi⟩
        | _ => cases hr
      | val => exact ⟨x, hi⟩

theorem shE_exSh {φ : PM} {s : Sh0} {v : EV} {x : Value} (h : shE s v = true) (hv : upV φ v = some x) {A K : Value → Prop} (a : A x) (k : K x) : exSh s A K := by
  cases s with
  | one r => exact repE_exR h hv a k
  | agg rs => cases v with
    | agg l =>
      simp only [upV] at hv
      split at hv
      · next l' h1 => cases hv; exact repsE_exRs (K := fun vs => A (.agg vs.toArray) ∧ K (.agg vs.toArray)) h h1 ⟨a, k⟩
      · cases hv
    | _ => cases h

theorem shsE_exShs {φ : PM} : ∀ {ss : List Sh0} {vs : List EV} {xs : List Value} {K : List Value → Prop}, shsE ss vs = true → upL φ vs = some xs → K xs → exShs ss K := by
  intro ss
  induction ss with
  | nil => intro vs xs K h hv k; cases vs with
    | nil => rw [upL_nil.1 hv] at k; exact k
    | cons v r => cases h
  | cons s ss ih =>
    intro vs xs K h hv k
    cases vs with
    | nil => cases h
    | cons v vs =>
      obtain ⟨x, ys, h1, h2, rfl⟩ := upL_cons.1 hv
      simp only [shsE, Bool.and_eq_true] at h
      have hi : exShs ss (fun zs => K (x :: zs)) := ih h.2 h2 k
      cases s with
      | one r => exact repsE_exRs (rs := [r]) (vs := [v]) (xs := [x]) (K := fun vs => exShs ss (fun us => K (vs ++ us))) (by have := h.1; simp only [shE] at this; simp [repsE, this]) (upL_cons.2 ⟨x, [], h1, upL_nil.2 rfl, rfl⟩) hi
      | agg rs => cases v with
        | agg l =>
          simp only [upV] at h1
          split at h1
          · next l' h3 => cases h1; exact repsE_exRs (K := fun vs => exShs ss (fun us => K (.agg vs.toArray :: us))) h.1 h3 hi
          · cases h1
        | _ => cases h.1

theorem spE_exSp {φ : PM} {s : Shp} {v : EV} {x : Value} (h : spE s v = true) (hv : upV φ v = some x) {A K : Value → Prop} (a : A x) (k : K x) : exSp s A K := by
  cases s with
  | s s => exact shE_exSh h hv a k
  | tup ss => cases v with
    | tup l =>
      simp only [upV] at hv
      split at hv
      · next l' h1 => cases hv; exact shsE_exShs (K := fun vs => A (.tuple vs.toArray) ∧ K (.tuple vs.toArray)) h h1 ⟨a, k⟩
      · cases hv
    | _ => cases h

theorem resE_res {φ : PM} {ss : List Sh0} {v : EV} {x : Value} (h : resE v ss = true) (hv : upV φ v = some x) {K : Value → Prop} (k : K x) : resTuple x ss K := by
  have many : ∀ ss, (match v with | .tup vs => shsE ss vs | _ => false) = true → exShs ss (fun vs => x = .tuple vs.toArray ∧ K (.tuple vs.toArray)) := by
    intro ss h
    cases v with
    | tup l =>
      simp only [upV] at hv
      split at hv
      · next l' h1 => cases hv; exact shsE_exShs (K := fun vs => (Value.tuple l'.toArray) = .tuple vs.toArray ∧ K (.tuple vs.toArray)) h h1 ⟨rfl, k⟩
      · cases hv
    | _ => cases h
  have one : ∀ s, resE v [s] = true → exSh s (fun u => x = u) K := fun s h => shE_exSh (A := fun u => x = u) (by simpa [resE] using h) hv rfl k
  cases ss with
  | nil => exact many [] h
  | cons s r => cases r with
    | nil => cases s with
      | agg rs => exact one _ h
      | one r => cases r with
        | val => exact k
        | int k' => exact one _ h
        | bool => exact one _ h
        | str => exact one _ h
        | ptr => exact one _ h
    | cons s2 r =>
      have hm := many (s :: s2 :: r) h
      cases s with
      | agg rs => exact hm
      | one r' => cases r' <;> exact hm

/-! ### numbers -/
theorem wrapE_eq (k : IntKind) (n : Int) : wrapE k n = k.wrap n := by
  cases n with
  | negSucc m => rfl
  | ofNat m =>
    simp only [wrapE]
    cases hb : Nat.ble m (maxN k)
    · rfl
    · have hm : m ≤ maxN k := Nat.le_of_ble_eq_true hb
      simp only [cond_true]
      cases k <;> simp only [maxN] at hm <;> simp only [IntKind.wrap, IntKind.bits, IntKind.signed, Int.ofNat_eq_natCast] <;> simp <;> omega

theorem eqE_eq (a b : Int) : eqE a b = (a == b) := by
  cases a with
  | ofNat a => cases b with
    | ofNat b =>
      simp only [eqE]
      by_cases h : a = b
      · subst h; simp
      · have : ¬ ((Int.ofNat a) = Int.ofNat b) := fun e => h (Int.ofNat.inj e)
        have h2 : Nat.beq a b = false := by cases hb : Nat.beq a b; rfl; exact absurd (Nat.eq_of_beq_eq_true hb) h
        rw [h2, beq_eq_false_iff_ne.2 this]
    | negSucc b => exact (beq_eq_false_iff_ne.2 (by intro e; cases e)).symm
  | negSucc a => cases b with
    | ofNat b => exact (beq_eq_false_iff_ne.2 (by intro e; cases e)).symm
    | negSucc b =>
      simp only [eqE]
      by_cases h : a = b
      · subst h; simp
      · have : ¬ ((Int.negSucc a) = Int.negSucc b) := fun e => h (Int.negSucc.inj e)
        have h2 : Nat.beq a b = false := by cases hb : Nat.beq a b; rfl; exact absurd (Nat.eq_of_beq_eq_true hb) h
        rw [h2, beq_eq_false_iff_ne.2 this]

theorem ltE_eq (a b : Int) : ltE a b = decide (a < b) := by
  cases a with
  | ofNat a => cases b with
    | ofNat b =>
      simp only [ltE, Int.ofNat_eq_natCast]
      rw [Bool.eq_iff_iff, Nat.blt_eq, decide_eq_true_iff]
      omega
    | negSucc b => simp only [ltE]; symm; rw [decide_eq_false_iff_not]; simp only [Int.ofNat_eq_natCast]; omega
  | negSucc a => cases b with
    | ofNat b => simp only [ltE]; symm; rw [decide_eq_true_iff]; simp only [Int.ofNat_eq_natCast]; omega
    | negSucc b =>
      simp only [ltE]
      rw [Bool.eq_iff_iff, Nat.blt_eq, decide_eq_true_iff]
      omega

theorem leE_eq (a b : Int) : (!ltE b a) = decide (a ≤ b) := by
  rw [ltE_eq, Bool.eq_iff_iff]; simp

theorem bits_small (k : IntKind) : ∃ m, maxN k = 2 ^ m - 1 ∧ m ≤ k.bits := by
  cases k
  · exact ⟨7, by decide, by decide⟩
  · exact ⟨15, by decide, by decide⟩
  · exact ⟨31, by decide, by decide⟩
  · exact ⟨63, by decide, by decide⟩
  · exact ⟨8, by decide, by decide⟩
  · exact ⟨16, by decide, by decide⟩
  · exact ⟨32, by decide, by decide⟩
  · exact ⟨64, by decide, by decide⟩

theorem small_lt {k : IntKind} {a : Nat} (h : a ≤ maxN k) : ∃ m, a < 2 ^ m ∧ m ≤ k.bits ∧ maxN k = 2 ^ m - 1 := by
  obtain ⟨m, h1, h2⟩ := bits_small k
  have : 0 < 2 ^ m := Nat.two_pow_pos m
  exact ⟨m, by omega, h2, h1⟩

theorem ofInt_small {k : IntKind} {a : Nat} (h : a ≤ maxN k) : (BitVec.ofInt k.bits (Int.ofNat a)).toNat = a := by
  obtain ⟨m, h1, h2, _⟩ := small_lt h
  have h3 : a < 2 ^ k.bits := Nat.lt_of_lt_of_le h1 (Nat.pow_le_pow_right (by omega) h2)
  simp only [Int.ofNat_eq_natCast, BitVec.ofInt_natCast, BitVec.toNat_ofNat]
  exact Nat.mod_eq_of_lt h3

theorem wrap_small {k : IntKind} {a : Nat} (h : a ≤ maxN k) : k.wrap (a : Int) = Int.ofNat a := by
  have := wrapE_eq k (Int.ofNat a)
  simp only [wrapE] at this
  have hb : Nat.ble a (maxN k) = true := by rw [Nat.ble_eq]; exact h
  rw [hb] at this
  exact this.symm

theorem landE_eq (k : IntKind) (a b : Int) : landE k a b = bitsI .and k a b := by
  cases a with
  | negSucc a => rfl
  | ofNat a => cases b with
    | negSucc b => rfl
    | ofNat b =>
      simp only [landE]
      cases hb : Nat.ble a (maxN k) && Nat.ble b (maxN k)
      · rfl
      · rw [Bool.and_eq_true, Nat.ble_eq, Nat.ble_eq] at hb
        simp only [cond_true, bitsI, BitVec.toNat_and, ofInt_small hb.1, ofInt_small hb.2]
        exact (wrap_small (Nat.le_trans Nat.and_le_left hb.1)).symm

theorem lorE_eq (k : IntKind) (a b : Int) : lorE k a b = bitsI .or k a b := by
  cases a with
  | negSucc a => rfl
  | ofNat a => cases b with
    | negSucc b => rfl
    | ofNat b =>
      simp only [lorE]
      cases hb : Nat.ble a (maxN k) && Nat.ble b (maxN k)
      · rfl
      · rw [Bool.and_eq_true, Nat.ble_eq, Nat.ble_eq] at hb
        simp only [cond_true, bitsI, BitVec.toNat_or, ofInt_small hb.1, ofInt_small hb.2]
        obtain ⟨m, h1, h2, h3⟩ := small_lt hb.1
        have h4 : b < 2 ^ m := by have := Nat.two_pow_pos m; omega
        have h5 := Nat.or_lt_two_pow h1 h4
        exact (wrap_small (a := a ||| b) (by omega)).symm

theorem lxorE_eq (k : IntKind) (a b : Int) : lxorE k a b = bitsI .xor k a b := by
  cases a with
  | negSucc a => rfl
  | ofNat a => cases b with
    | negSucc b => rfl
    | ofNat b =>
      simp only [lxorE]
      cases hb : Nat.ble a (maxN k) && Nat.ble b (maxN k)
      · rfl
      · rw [Bool.and_eq_true, Nat.ble_eq, Nat.ble_eq] at hb
        simp only [cond_true, bitsI, BitVec.toNat_xor, ofInt_small hb.1, ofInt_small hb.2]
        obtain ⟨m, h1, h2, h3⟩ := small_lt hb.1
        have h4 : b < 2 ^ m := by have := Nat.two_pow_pos m; omega
        have h5 := Nat.xor_lt_two_pow h1 h4
        exact (wrap_small (a := a ^^^ b) (by omega)).symm

theorem intE_sound {φ : PM} {op : BinOp} {k : IntKind} {a b : Int} {v : EV} (h : intE op k a b = some v) {w : World} {K : KV} (hK : ∀ x, upV φ v = some x → K x w) : intK op k a b w K := by
  cases op <;> simp only [intE] at h <;> first | (cases h; done) | skip
  case add => cases h; have := hK _ rfl; rw [wrapE_eq] at this; exact this
  case sub => cases h; have := hK _ rfl; rw [wrapE_eq] at this; exact this
  case mul => cases h; have := hK _ rfl; rw [wrapE_eq] at this; exact this
  case quo =>
    split at h
    · cases h
    · next hb =>
      cases h
      have := hK _ rfl
      rw [wrapE_eq] at this
      simp only [intK]
      cases b with
      | ofNat n => cases n with
        | zero => exact absurd rfl (hb · |>.elim)
        | succ n => exact this
      | negSucc n => exact this
  case rem =>
    split at h
    · cases h
    · next hb =>
      cases h
      have := hK _ rfl
      simp only [intK]
      cases b with
      | ofNat n => cases n with
        | zero => exact absurd rfl (hb · |>.elim)
        | succ n => exact this
      | negSucc n => exact this
  case and => cases h; have := hK _ rfl; rw [landE_eq] at this; exact this
  case or => cases h; have := hK _ rfl; rw [lorE_eq] at this; exact this
  case xor => cases h; have := hK _ rfl; rw [lxorE_eq] at this; exact this
  case andNot => cases h; exact hK _ rfl
  case eql => cases h; have := hK _ rfl; rw [eqE_eq] at this; exact this
  case neq => cases h; have := hK _ rfl; rw [eqE_eq] at this; exact this
  case lss => cases h; have := hK _ rfl; rw [ltE_eq] at this; exact this
  case leq => cases h; have := hK _ rfl; rw [leE_eq] at this; exact this
  case gtr => cases h; have := hK _ rfl; rw [ltE_eq] at this; exact this
  case geq => cases h; have := hK _ rfl; rw [leE_eq] at this; exact this

theorem eqNL_iff : ∀ {a b : List Nat}, eqNL a b = true ↔ a = b := by
  intro a
  induction a with
  | nil => intro b; cases b <;> simp [eqNL]
  | cons x a ih => intro b; cases b with
    | nil => simp [eqNL]
    | cons y b => simp [eqNL, ih]

theorem eqNL_eq (a b : List Nat) : eqNL a b = decide (a = b) := by
  rw [Bool.eq_iff_iff, eqNL_iff, decide_eq_true_iff]

theorem bytesE_mem : ∀ {l : List Nat}, bytesE l = true → ∀ n ∈ l, n < 256 := by
  intro l
  induction l with
  | nil => intro _ n h; cases h
  | cons a r ih =>
    intro h n hn
    simp only [bytesE, Bool.and_eq_true, Nat.blt_eq] at h
    cases List.mem_cons.1 hn with
    | inl e => subst e; exact h.1
    | inr e => exact ih h.2 n e

theorem ofNat_inj : ∀ {a b : List Nat}, bytesE a = true → bytesE b = true → (a.map UInt8.ofNat = b.map UInt8.ofNat ↔ a = b) := by
  intro a
  induction a with
  | nil => intro b _ _; cases b <;> simp
  | cons x a ih =>
    intro b ha hb
    cases b with
    | nil => simp
    | cons y b =>
      simp only [bytesE, Bool.and_eq_true, Nat.blt_eq] at ha hb
      simp only [List.map_cons, List.cons.injEq, ih ha.2 hb.2]
      constructor
      · rintro ⟨h1, h2⟩
        have := congrArg UInt8.toNat h1
        simp only [UInt8.toNat_ofNat'] at this
        exact ⟨by omega, h2⟩
      · rintro ⟨h1, h2⟩; exact ⟨by rw [h1], h2⟩

theorem strE_sound {φ : PM} {op : BinOp} {a b : List Nat} {v : EV} (h : strE op a b = some v) {w : World} {K : KV} (hK : ∀ x, upV φ v = some x → K x w) :
    strK op (textOf (a.map UInt8.ofNat)) (textOf (b.map UInt8.ofNat)) w K := by
  cases op <;> simp only [strE] at h <;> first | (cases h; done) | skip
  case add =>
    cases hb : Nat.ble (lenE a 0 + lenE b 0) 1000000
    · rw [hb] at h; cases h
    · rw [hb] at h
      cases h
      rw [Nat.ble_eq, lenE_eq, lenE_eq] at hb
      refine ⟨?_, ?_⟩
      · show Array.size _ + Array.size _ ≤ _
        simp; omega
      · have : textOf (a.map UInt8.ofNat) ++ textOf (b.map UInt8.ofNat) = textOf ((a ++ b).map UInt8.ofNat) := ByteArray.ext (by simp [textOf])
        rw [this]
        exact hK _ rfl
  case eql =>
    cases hb : bytesE a && bytesE b
    · rw [hb] at h; cases h
    · rw [hb] at h
      cases h
      rw [Bool.and_eq_true] at hb
      have := hK _ rfl
      have e : ((textOf (a.map UInt8.ofNat)).toList == (textOf (b.map UInt8.ofNat)).toList) = eqNL a b := by
        rw [textOf_toList, textOf_toList, eqNL_eq, Bool.eq_iff_iff, beq_iff_eq, ofNat_inj hb.1 hb.2, decide_eq_true_iff]
      simp only [strK, e]
      exact this
  case neq =>
    cases hb : bytesE a && bytesE b
    · rw [hb] at h; cases h
    · rw [hb] at h
      cases h
      rw [Bool.and_eq_true] at hb
      have := hK _ rfl
      have e : ((textOf (a.map UInt8.ofNat)).toList == (textOf (b.map UInt8.ofNat)).toList) = eqNL a b := by
        rw [textOf_toList, textOf_toList, eqNL_eq, Bool.eq_iff_iff, beq_iff_eq, ofNat_inj hb.1 hb.2, decide_eq_true_iff]
      simp only [strK, e]
      exact this

theorem binIntE_sound {φ : PM} {op : BinOp} {x y v : EV} {X Y : Value} (h : binIntE op x y = some v) (hx : upV φ x = some X) (hy : upV φ y = some Y) {w : World} {K : KV} (hK : ∀ x, upV φ v = some x → K x w) : binIntK op X Y w K := by
  cases op
  case shl =>
    simp only [binIntE] at h
    split at h
    · next k a k' b =>
      simp only [upV, Option.some.injEq] at hx hy
      subst hx hy
      cases h
      have := hK _ rfl
      rw [wrapE_eq] at this
      simp only [binIntK, leK]
      have e : (Int.ofNat (2 ^ min b k.bits)) = (2 : Int) ^ (min (Int.ofNat b).toNat k.bits) := by simp
      rw [← e]; exact this
    · cases h
  case shr =>
    simp only [binIntE] at h
    split at h
    · next k a k' b =>
      simp only [upV, Option.some.injEq] at hx hy
      subst hx hy
      cases h
      have := hK _ rfl
      simp only [binIntK, leK]
      have e : (Int.ofNat a).fdiv ((2 : Int) ^ (min (Int.ofNat b).toNat k.bits)) = Int.ofNat (a / 2 ^ min b k.bits) := by
        have e2 : ((2 : Int) ^ (min (Int.ofNat b).toNat k.bits)) = ((2 ^ min b k.bits : Nat) : Int) := by simp
        rw [e2, Int.ofNat_eq_natCast, Int.fdiv_eq_ediv_of_nonneg _ (Int.natCast_nonneg _)]
        simp
      rw [e]; exact this
    · next k a k' b =>
      simp only [upV, Option.some.injEq] at hx hy
      subst hx hy
      cases h
      exact hK _ rfl
    · cases h
  all_goals
    simp only [binIntE] at h
    split at h
    · next k a k' b =>
      simp only [upV, Option.some.injEq] at hx hy
      subst hx hy
      cases hb : kEq k k'
      · rw [hb] at h; cases h
      · rw [hb] at h
        obtain rfl := kEq_eq hb
        simp only [cond_true] at h
        simp only [binIntK]
        split
        · exact intE_sound h hK
        · next hn _ => exact hn rfl
    · cases h

theorem upV_cases_sl {φ : PM} {v : EV} {x : Value} (h : upV φ v = some x) (hv : (∃ b o l c, v = .sl b o l c) ∨ (∃ b o l, v = .su b o l) ∨ (∃ b o p z, v = .st b o p z)) : ∃ a n c, x = .slice (some a) n c := by
  rcases hv with ⟨b, o, l, c, rfl⟩ | ⟨b, o, l, rfl⟩ | ⟨b, o, l, z, rfl⟩ <;> (simp only [upV] at h; split at h <;> cases h; exact ⟨_, _, _, rfl⟩)

theorem nilCmp_sl {φ : PM} {op : BinOp} {x y v : EV} {X Y : Value} (h : nilCmp .sl op x y = some v) (hx : upV φ x = some X) (hy : upV φ y = some Y) :
    Y = .slice none 0 0 ∧ ∃ b, isNilS X = some b ∧ v = .bool (negIf op b) := by
  unfold nilCmp at h
  split at h <;> first | (cases h; done) | skip
  all_goals (try contradiction)
  all_goals (simp only [upV, Option.some.injEq] at hy; subst hy; refine ⟨rfl, ?_⟩; cases h)
  · obtain ⟨a, n, c, rfl⟩ := upV_cases_sl hx (.inl ⟨_, _, _, _, rfl⟩); exact ⟨false, rfl, rfl⟩
  · obtain ⟨a, n, c, rfl⟩ := upV_cases_sl hx (.inr (.inl ⟨_, _, _, rfl⟩)); exact ⟨false, rfl, rfl⟩
  · obtain ⟨a, n, c, rfl⟩ := upV_cases_sl hx (.inr (.inr ⟨_, _, _, _, rfl⟩)); exact ⟨false, rfl, rfl⟩
  · simp only [upV, Option.some.injEq] at hx; subst hx; exact ⟨true, rfl, rfl⟩

theorem nilCmp_mp {φ : PM} {op : BinOp} {x y v : EV} {X Y : Value} (h : nilCmp .mp op x y = some v) (hx : upV φ x = some X) (hy : upV φ y = some Y) :
    Y = .map none ∧ ∃ b, isNilM X = some b ∧ v = .bool (negIf op b) := by
  unfold nilCmp at h
  split at h <;> first | (cases h; done) | skip
  all_goals (try contradiction)
  all_goals (simp only [upV, Option.some.injEq] at hy; subst hy; refine ⟨rfl, ?_⟩; cases h)
  · simp only [upV] at hx; split at hx <;> cases hx; exact ⟨false, rfl, rfl⟩
  · simp only [upV, Option.some.injEq] at hx; subst hx; exact ⟨true, rfl, rfl⟩

theorem nilCmp_ptr {φ : PM} {op : BinOp} {x y v : EV} {X Y : Value} (h : nilCmp .ptr op x y = some v) (hx : upV φ x = some X) (hy : upV φ y = some Y) :
    Y = .pointer none ∧ ∃ b, isNilP X = some b ∧ v = .bool (negIf op b) := by
  unfold nilCmp at h
  split at h <;> first | (cases h; done) | skip
  all_goals (try contradiction)
  all_goals (simp only [upV, Option.some.injEq] at hy; subst hy; refine ⟨rfl, ?_⟩; cases h)
  · simp only [upV] at hx; split at hx <;> cases hx; exact ⟨false, rfl, rfl⟩
  · simp only [upV, Option.some.injEq] at hx; subst hx; exact ⟨true, rfl, rfl⟩

theorem nilCmp_fn {φ : PM} {op : BinOp} {x y v : EV} {X Y : Value} (h : nilCmp .fn op x y = some v) (hx : upV φ x = some X) (hy : upV φ y = some Y) :
    Y = .nilFunc ∧ ∃ b, isNilF X = some b ∧ v = .bool (negIf op b) := by
  unfold nilCmp at h
  split at h <;> first | (cases h; done) | skip
  all_goals (try contradiction)
  all_goals (simp only [upV, Option.some.injEq] at hy; subst hy; refine ⟨rfl, ?_⟩; cases h)
  · simp only [upV] at hx; split at hx <;> cases hx; exact ⟨false, rfl, rfl⟩
  · simp only [upV, Option.some.injEq] at hx; subst hx; exact ⟨true, rfl, rfl⟩

theorem nilCmp_ifc {φ : PM} {op : BinOp} {x y v : EV} {X Y : Value} (h : nilCmp .ifc op x y = some v) (hx : upV φ x = some X) (hy : upV φ y = some Y) :
    X = .nilIface ∧ Y = .nilIface ∧ v = .bool (negIf op true) := by
  unfold nilCmp at h
  split at h <;> first | (cases h; done) | skip
  all_goals (try contradiction)
  all_goals (simp only [upV, Option.some.injEq] at hx hy; subst hx hy; cases h; exact ⟨rfl, rfl, rfl⟩)

theorem eqOp_iff {op : BinOp} (h : eqOp op = true) : op = .eql ∨ op = .neq := by cases op <;> first | exact .inl rfl | exact .inr rfl | cases h

end Go.CW.Ex
