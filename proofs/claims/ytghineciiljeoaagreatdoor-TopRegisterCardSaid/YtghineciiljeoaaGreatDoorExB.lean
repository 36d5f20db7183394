/- Runs in which nothing is unknown: the operations on memory imply their formulas. For every program. -/
import Derived.Test.YtghineciiljeoaaGreatDoorExA
namespace Go.CW.Ex
open Go.RowKit

variable {P : Program} {w0 w : World} {B : Nat} {φ : PM} {h h' : H}

theorem addA (b o j : Nat) : (⟨b, o, none⟩ : Addr).add j = ⟨b, o + j, none⟩ := by
  unfold Addr.add
  split
  · next e => subst e; rfl
  · rfl

theorem oneK_i {v : Value} {A : Prop} (h : isOne v = true) (a : A) : oneK v A := by
  cases v <;> first | exact a | exact ⟨h, a⟩

theorem oneK'_i {v : Value} {A : Prop} (h : isOne v = true) (a : A) : oneK' v A := by
  cases v <;> first | exact a | exact ⟨h, a⟩

theorem oneL_i : ∀ {vs : List Value}, (∀ x ∈ vs, isOne x = true) → oneL vs = true := by
  intro vs
  induction vs with
  | nil => intro _; rfl
  | cons v r ih => intro h; simp only [oneL, Bool.and_eq_true]; exact ⟨h v (by simp), ih fun x hx => h x (by simp [hx])⟩

theorem Hd.read (r : Hd w0 B φ h w) {b : Nat} {cs : List EV} (hc : h.cells b = some cs) :
    ∃ p e s a xs, h.at b = .cells e s a cs ∧ φ b = some p ∧ p.size = s ∧ CellsAt φ w p s cs ∧ upL φ cs = some xs ∧ xs.length ≤ p.cap ∧ (∀ x ∈ xs, isOne x = true) ∧ ∀ i, i < xs.length → w.cell? ⟨p.blk, p.sh + i, none⟩ = xs[i]? := by
  unfold H.cells at hc
  split at hc
  · next e s a cs' hb =>
    cases hc
    obtain ⟨p, j1, _, _, j4⟩ := r.cells b e s a cs hb
    obtain ⟨xs, i1, i2, i3, i4⟩ := j4.ex
    exact ⟨p, e, s, a, xs, hb, j1, j4.size, j4, i1, i2, i3, i4⟩
  · cases hc

/-- a part of a row, cell by cell -/
theorem Hd.part (r : Hd w0 B φ h w) {b o n : Nat} {cs vs : List EV} (hc : h.cells b = some cs) (hp : partE o n cs = some vs) :
    ∃ p ys, φ b = some p ∧ upL φ vs = some ys ∧ ys.length = n ∧ (∀ x ∈ ys, isOne x = true) ∧ (∀ i, i < n → w.cell? ⟨p.blk, p.sh + o + i, none⟩ = ys[i]?) ∧ (∃ e s a, h.at b = .cells e s a cs ∧ p.size = s) ∧ o + n ≤ p.cap ∧ o + n ≤ cs.length := by
  obtain ⟨p, e, s, a, xs, hb, j1, hs, _, i1, i2, i3, i4⟩ := r.read hc
  obtain ⟨k1, k2, k3⟩ := partE_spec hp i1
  refine ⟨p, _, j1, k1, by simp; omega, fun x hx => i3 x (List.mem_of_mem_drop (List.mem_of_mem_take hx)), fun i hi => ?_, ⟨e, s, a, hb, hs⟩, by omega, by rw [← upL_length i1]; exact k2⟩
  rw [Nat.add_assoc, i4 _ (by omega), List.getElem?_take, if_pos hi, List.getElem?_drop]

theorem ldE_sound (r : Hd w0 B φ h w) {t : TypeId} {b o : Nat} {v : EV} (hl : ldE P t h b o = some v) {K : KV} : ∃ p, φ b = some p ∧ ∃ x, upV φ v = some x ∧ (K x w → ldK P t ⟨p.blk, p.sh + o, none⟩ w K) := by
  unfold ldE at hl
  split at hl
  · next d cs hu hc =>
    cases hag : aggB P t
    · rw [hag] at hl
      simp only at hl
      split at hl
      · next v' hp =>
        obtain ⟨p, ys, j1, j2, j3, _, j5, _⟩ := r.part hc hp
        cases hr : repE (repOf P t) v'
        · rw [hr] at hl; cases hl
        · rw [hr] at hl
          cases hl
          obtain ⟨x, zs, h1, h2, rfl⟩ := upL_cons.1 j2
          refine ⟨p, j1, x, h1, fun k => ?_⟩
          unfold ldK
          rw [hu]
          simp only [hag]
          exact repE_exR hr h1 (by have := j5 0 (by omega); simpa using this) k
      · cases hl
    · rw [hag] at hl
      simp only at hl
      split at hl
      · next n hn =>
        split at hl
        · next vs hp =>
          obtain ⟨p, ys, j1, j2, j3, _, j5, _⟩ := r.part hc hp
          have hld : ldCells w ⟨p.blk, p.sh + o, none⟩ n ys.toArray := ⟨by simpa using j3, fun i hi => by rw [addA, j5 i hi]; simp⟩
          have hupv : upV φ (.agg vs) = some (.agg ys.toArray) := by simp only [upV, j2]
          split at hl
          · next rs hs =>
            cases hr : repsE rs vs
            · rw [hr] at hl; cases hl
            · rw [hr] at hl
              cases hl
              refine ⟨p, j1, _, hupv, fun k => ?_⟩
              unfold ldK
              rw [hu]
              simp only [hag]
              unfold szOf at hn
              rw [hn]
              simp only [hs]
              exact repsE_exRs hr j2 ⟨hld, k⟩
          · next rr hs =>
            cases hl
            refine ⟨p, j1, _, hupv, fun k => ?_⟩
            unfold ldK
            rw [hu]
            simp only [hag]
            unfold szOf at hn
            rw [hn]
            simp only [hs]
            exact ⟨_, hld, k⟩
        · cases hl
      · cases hl
  · cases hl

theorem stE_sound (r : Hd w0 B φ h w) {t : TypeId} {b o : Nat} {v : EV} {x : Value} (hs : stE P t h b o v = some h') (hv : upV φ v = some x) {K : World → Prop} :
    ∃ p, φ b = some p ∧ ((∀ w', Hd w0 B φ h' w' → K w') → stK P t ⟨p.blk, p.sh + o, none⟩ x w K) := by
  unfold stE at hs
  cases hag : aggB P t
  · rw [hag] at hs
    simp only at hs
    split at hs
    · next hn =>
      cases ho : isOneE v
      · rw [ho] at hs; cases hs
      · rw [ho] at hs
        have h1 := upV_one hv ho
        obtain ⟨p, j1, j2, j3, j4, _⟩ := r.setCells hs (upL_cons.2 ⟨x, [], hv, upL_nil.2 rfl, rfl⟩) (by intro y hy; simp at hy; subst hy; exact h1)
        refine ⟨p, j1, fun k => ?_⟩
        unfold stK
        simp only [hag]
        unfold szOf at hn
        rw [hn]
        refine oneK_i h1 ⟨⟨Option.isSome_iff_exists.1 (by have := j3 0 (by simp); simpa using this), by have := j4 0 (by simp); simpa using this⟩, k _ j2⟩
    · cases hs
  · rw [hag] at hs
    simp only at hs
    split at hs
    · next vs =>
      split at hs
      · next n hn =>
        cases hb : Nat.beq n (lenE vs 0) && allOneE vs
        · rw [hb] at hs; cases hs
        · rw [hb] at hs
          rw [Bool.and_eq_true, Nat.beq_eq, lenE_eq, Nat.add_zero] at hb
          simp only [upV] at hv
          split at hv
          · next l' hl =>
            cases hv
            have hone := upL_one hl hb.2
            obtain ⟨p, j1, j2, j3, j4, _⟩ := r.setCells hs hl hone
            refine ⟨p, j1, fun k => ?_⟩
            unfold stK
            simp only [hag]
            unfold szOf at hn
            rw [hn]
            have hbeq : Nat.beq n l'.toArray.size = true := by rw [Nat.beq_eq]; simp [upL_length hl]; exact hb.1
            simp only [hbeq, cond_true]
            exact ⟨⟨by simpa using oneL_i hone, fun i hi => by rw [addA]; simp at hi; exact ⟨Option.isSome_iff_exists.1 (j3 i hi), j4 i hi⟩⟩, k _ j2⟩
          · cases hv
      · cases hs
    · cases hs

theorem boundE_sound {y : Nat} {v : EV} {n : Nat} (hb : boundE v y = some n) {X : Value} (hv : upV φ v = some X) : (∀ y', y ≤ y' → boundOf X y' = some n) ∧ n ≤ y := by
  unfold boundE at hb
  split at hb
  · next k m =>
    simp only [upV, Option.some.injEq] at hv
    subst hv
    cases hle : Nat.ble m y
    · rw [hle] at hb; cases hb
    · rw [hle] at hb
      cases hb
      have := Nat.le_of_ble_eq_true hle
      refine ⟨fun y' hy => ?_, this⟩
      simp only [boundOf, Int.ofNat_eq_natCast, Int.toNat_natCast]
      rw [if_pos]
      omega
  · cases hb

def mxOf (MX : Option Value) (m c : Nat) : Nat := match MX with | some _ => m | none => c

theorem sub_of {a : Option Addr} {len cap size l h m : Nat} {LO HI MX : Option Value} (e : boundsOf len cap LO HI MX = some (l, h, m)) :
    subSlice (.slice a len cap) size LO HI MX = some (.slice (if m = l then a else a.map (·.add (l * size))) (h - l) (m - l)) := by simp only [subSlice, e]

theorem boundsE_sound {len cap l r m : Nat} {lo hi mx : Option EV} {LO HI MX : Option Value} (hb : boundsE len cap lo hi mx = some (l, r, m)) (h1 : upO φ lo LO) (h2 : upO φ hi HI) (h3 : upO φ mx MX) :
    (∀ cap', cap ≤ cap' → boundsOf len cap' LO HI MX = some (l, r, mxOf MX m cap')) ∧ l ≤ r ∧ m ≤ cap ∧ (MX = none → m = cap) ∧ (MX = none ↔ mx = none) ∧ (mx = none → r ≤ cap ∨ (r = len ∧ hi = none)) ∧ (∀ q, mx = some q → r ≤ m) := by
  unfold boundsE at hb
  split at hb
  · cases hb
  · next m' hm =>
    split at hb
    · cases hb
    · next h' hh =>
      split at hb
      · cases hb
      · next l' hl =>
        simp only [Option.some.injEq, Prod.mk.injEq] at hb
        obtain ⟨rfl, rfl, rfl⟩ := hb
        cases mx with
        | none => cases MX with
          | some q => exact h3.elim
          | none =>
            simp only [Option.some.injEq] at hm
            subst hm
            have hH : (∀ c', cap ≤ c' → (match HI with | some v => boundOf v c' | none => some len) = some h') ∧ (h' ≤ cap ∨ (h' = len ∧ hi = none)) := by
              cases hi with
              | none => cases HI with
                | some q => exact h2.elim
                | none => simp only [Option.some.injEq] at hh; subst hh; exact ⟨fun _ _ => rfl, .inr ⟨rfl, rfl⟩⟩
              | some v => cases HI with
                | none => exact h2.elim
                | some V => obtain ⟨j1, j2⟩ := boundE_sound hh h2; exact ⟨fun c' hc => j1 c' hc, .inl j2⟩
            have hL : (match LO with | some v => boundOf v h' | none => some 0) = some l' ∧ l' ≤ h' := by
              cases lo with
              | none => cases LO with
                | some q => exact h1.elim
                | none => simp only [Option.some.injEq] at hl; subst hl; exact ⟨rfl, Nat.zero_le _⟩
              | some v => cases LO with
                | none => exact h1.elim
                | some V => obtain ⟨j1, j2⟩ := boundE_sound hl h1; exact ⟨j1 _ (Nat.le_refl _), j2⟩
            refine ⟨fun c' hc => ?_, hL.2, Nat.le_refl _, fun _ => rfl, (by simp), fun _ => hH.2, (fun q hq => by cases hq)⟩
            have e1 := hH.1 c' hc
            have e2 := hL.1
            unfold boundsOf
            cases HI <;> cases LO <;> simp_all [mxOf]
        | some q => cases MX with
          | none => exact h3.elim
          | some Q =>
            obtain ⟨j1, j2⟩ := boundE_sound hm h3
            have hH : (match HI with | some v => boundOf v m' | none => (match (some Q : Option Value) with | none => some len | some _ => none)) = some h' ∧ h' ≤ m' := by
              cases hi with
              | none => cases hh
              | some v => cases HI with
                | none => exact h2.elim
                | some V => obtain ⟨i1, i2⟩ := boundE_sound hh h2; exact ⟨i1 _ (Nat.le_refl _), i2⟩
            have hL : (match LO with | some v => boundOf v h' | none => some 0) = some l' ∧ l' ≤ h' := by
              cases lo with
              | none => cases LO with
                | some q => exact h1.elim
                | none => simp only [Option.some.injEq] at hl; subst hl; exact ⟨rfl, Nat.zero_le _⟩
              | some v => cases LO with
                | none => exact h1.elim
                | some V => obtain ⟨i1, i2⟩ := boundE_sound hl h1; exact ⟨i1 _ (Nat.le_refl _), i2⟩
            refine ⟨fun c' hc => ?_, hL.2, j2, (fun h => by cases h), (by simp), (fun h => by cases h), fun _ _ => hH.2⟩
            have e0 := j1 c' hc
            have e1 := hH.1
            have e2 := hL.1
            unfold boundsOf
            cases HI <;> cases LO <;> simp_all [mxOf]

theorem iaE_sound {t : TypeId} {x i v : EV} {X I : Value} (hi : iaE P t x i = some v) (hx : upV φ x = some X) (hI : upV φ i = some I) {K : Addr → Prop} (hK : ∀ a, upV φ v = some (.pointer (some a)) → K a) : iaK P t X I K := by
  unfold iaE at hi
  split at hi
  · next k n =>
    simp only [upV, Option.some.injEq] at hI
    subst hI
    have at_ : ∀ (b o len c : Nat) (s : Nat) (p : Pl) (C : Nat), φ b = some p → n < len → (∀ a, upV φ (.ptr b (o + n * s)) = some (.pointer (some a)) → K a) →
        ∃ a, sliceAt (.slice (some ⟨p.blk, p.sh + o, none⟩) len C) (Int.ofNat n) s = some a ∧ K a := by
      intro b o len c s p C hp hn hk
      refine ⟨⟨p.blk, p.sh + (o + n * s), none⟩, ?_, hk _ (by simp only [upV, hp])⟩
      simp only [sliceAt, Int.ofNat_eq_natCast, Int.toNat_natCast, addA]
      rw [if_pos (by omega), Nat.add_assoc]
    split at hi
    · next e hu =>
      split at hi
      · next s hs =>
        unfold szOf at hs
        unfold iaK
        simp only [hu, hs]
        split at hi
        · next b o len cap =>
          cases hb : Nat.blt n len
          · rw [hb] at hi; cases hi
          · rw [hb] at hi; cases hi
            simp only [upV] at hx
            split at hx
            · next p hp => cases hx; exact at_ b o len 0 s p _ hp (by simpa using hb) hK
            · cases hx
        · next b o len =>
          cases hb : Nat.blt n len
          · rw [hb] at hi; cases hi
          · rw [hb] at hi; cases hi
            simp only [upV] at hx
            split at hx
            · next p hp => cases hx; exact at_ b o len 0 s p _ hp (by simpa using hb) hK
            · cases hx
        · cases hi
      · cases hi
    · next len e hu =>
      split at hi
      · next s hs =>
        unfold szOf at hs
        unfold iaK
        simp only [hu, hs]
        split at hi
        · next b o =>
          cases hb : Nat.blt n len
          · rw [hb] at hi; cases hi
          · rw [hb] at hi; cases hi
            simp only [upV] at hx
            split at hx
            · next p hp =>
              cases hx
              have hn : n < len := by simpa using hb
              refine ⟨⟨by simp, by simp; omega⟩, ?_⟩
              have := hK ⟨p.blk, p.sh + (o + n * s), none⟩ (by simp only [upV, hp])
              simp only [Int.ofNat_eq_natCast, Int.toNat_natCast, addA]
              rw [Nat.add_assoc]; exact this
            · cases hx
        · cases hi
      · cases hi
    · cases hi
  · cases hi

theorem faE_sound {t : TypeId} {f : Nat} {x v : EV} {X : Value} (hf : faE P t f x = some v) (hx : upV φ x = some X) {K : Addr → Prop} (hK : ∀ a, upV φ v = some (.pointer (some a)) → K a) : withAddr X (fun a => faK P t f a K) := by
  unfold faE at hf
  split at hf
  · next b o =>
    split at hf
    · next n hn =>
      cases hf
      simp only [upV] at hx
      split at hx
      · next p hp =>
        cases hx
        simp only [withAddr, faK, hn, addA]
        exact hK _ (by simp only [upV, hp, Nat.add_assoc])
      · cases hx
    · cases hf
  · cases hf

theorem fldE_sound {sp : Shp} {t : TypeId} {f : Nat} {x v : EV} {X : Value} (hf : fldE P t x f = some v) (hx : upV φ x = some X) {K : KV} (hK : ∀ V, upV φ v = some V → K V w) : fldK P sp t X f w K := by
  unfold fldE at hf
  split at hf
  · next fs cs hu =>
    simp only [upV] at hx
    split at hx
    · next xs hxs =>
      cases hx
      unfold fldK
      simp only [hu]
      split at hf
      · next fd hfd =>
        rw [hfd]
        simp only
        split at hf
        · cases hf
        · next d hd =>
          rw [hd]
          simp only
          cases hag : aggB P fd.type
          · rw [hag] at hf
            simp only at hf ⊢
            split at hf
            · next v' hp =>
              cases hf
              obtain ⟨k1, k2, k3⟩ := partE_spec hp hxs
              obtain ⟨z, zs, h1, h2, h3⟩ := upL_cons.1 k1
              have h4 : xs[fd.offset]? = some z := by
                have : ((xs.drop fd.offset).take 1)[0]? = some z := by rw [h3]; rfl
                rw [List.getElem?_take, if_pos (by omega), List.getElem?_drop] at this
                simpa using this
              rw [h4]
              exact hK z h1
            · cases hf
          · rw [hag] at hf
            simp only at hf ⊢
            split at hf
            · next n hn =>
              unfold szOf at hn
              rw [hn]
              simp only
              split at hf
              · next vs hp =>
                cases hf
                obtain ⟨k1, k2, k3⟩ := partE_spec hp hxs
                exact hK _ (by simp only [upV, k1])
              · cases hf
            · cases hf
      · cases hf
    · cases hx
  · cases hf

/-! ### slices of slices -/
theorem capDiv (c o l s : Nat) : (c - (o + l * s)) / s = (c - o) / s - l := by
  rw [← Nat.sub_sub, Nat.mul_comm l s, Nat.sub_mul_div]

theorem slE_sound (r : Hd w0 B φ h w) {t : TypeId} {x v : EV} {lo hi mx : Option EV} {X : Value} {LO HI MX : Option Value} (hs : slE P t h x lo hi mx = some (v, h')) (hx : upV φ x = some X) (h1 : upO φ lo LO) (h2 : upO φ hi HI) (h3 : upO φ mx MX)
    {K : KV} (hK : ∀ V, upV φ v = some V → K V w) : h' = h ∧ slK P t X LO HI MX w K := by
  unfold slE at hs
  split at hs
  · next hu =>
    split at hs
    · next s =>
      split at hs
      · next l r m hb =>
        cases hs
        refine ⟨rfl, ?_⟩
        simp only [upV, Option.some.injEq] at hx
        subst hx
        have hM : MX = none := by cases MX with | none => rfl | some q => exact h3.elim
        subst hM
        obtain ⟨k1, k2, k3, k4, _, k6, _⟩ := boundsE_sound hb h1 h2 h3
        unfold slK
        simp only [hu]
        have hsz : (⟨(s.map UInt8.ofNat).toArray⟩ : ByteArray).size = lenE s 0 := by rw [lenE_eq]; show Array.size _ = _; simp
        refine ⟨l, r, lenE s 0, ?_, ?_⟩
        · rw [hsz]; exact k1 _ (Nat.le_refl _)
        · have e : (⟨(s.map UInt8.ofNat).toArray⟩ : ByteArray).extract l r = ⟨(((s.drop l).take (r - l)).map UInt8.ofNat).toArray⟩ := by
            apply ByteArray.ext
            simp [ByteArray.data_extract, List.map_take, List.map_drop, List.extract_toArray, List.extract_eq_take_drop]
          rw [e]
          exact hK _ rfl
      · cases hs
    · cases hs
  · next e hu =>
    split at hs
    · next size hsz =>
      unfold szOf at hsz
      have red : ∀ V, subSlice X size LO HI MX = some V → K V w → slK P t X LO HI MX w K := by
        intro V hV k
        unfold slK
        rw [hu]
        simp only [hsz]
        exact ⟨V, hV, k⟩
      split at hs
      · -- nil
        split at hs
        · next l r m hb =>
          cases hs
          refine ⟨rfl, ?_⟩
          simp only [upV, Option.some.injEq] at hx
          subst hx
          obtain ⟨k1, k2, k3, k4, k5, k6, k7⟩ := boundsE_sound hb h1 h2 h3
          have hb0 := k1 0 (Nat.le_refl _)
          have hm0 : m = 0 := by omega
          have hr0 : r = 0 := by
            cases hmx : mx with
            | none => rcases k6 hmx with h | h <;> omega
            | some q => have := k7 q hmx; omega
          have hl0 : l = 0 := by omega
          subst hm0 hr0 hl0
          have hmm : mxOf MX 0 0 = 0 := by cases MX <;> rfl
          rw [hmm] at hb0
          refine red (.slice none 0 0) ?_ (hK _ rfl)
          rw [sub_of hb0]
          simp
        · cases hs
      · next b o len cap =>
        split at hs
        · next l r m hb =>
          cases hs
          refine ⟨rfl, ?_⟩
          simp only [upV] at hx
          split at hx
          · next p hp =>
            cases hx
            obtain ⟨k1, k2, k3, k4, k5, k6, k7⟩ := boundsE_sound hb h1 h2 h3
            have hb0 := k1 cap (Nat.le_refl _)
            have hmm : mxOf MX m cap = m := by cases MX with | none => exact (k4 rfl).symm | some _ => rfl
            rw [hmm] at hb0
            refine red _ (sub_of hb0) (hK _ ?_)
            simp only [upV, hp, Option.map_some, addA]
            cases hbe : Nat.beq m l
            · have : m ≠ l := fun e => by rw [e] at hbe; simp at hbe
              simp [this, Nat.add_assoc]
            · have : m = l := Nat.eq_of_beq_eq_true hbe
              simp [this]
          · cases hx
        · cases hs
      · next b o len =>
        split at hs
        · next cs hc =>
          cases hsp : Nat.blt 0 size
          · rw [hsp] at hs; cases hs
          rw [hsp] at hs
          have hsp' : 0 < size := by simpa using hsp
          simp only [cond_true] at hs
          split at hs
          · next l r' m hb =>
            simp only [upV] at hx
            split at hx
            · next p hp =>
              cases hx
              obtain ⟨p', e', s', a', xs, hat, hp', hps, hca, i1, i2, i3, i4⟩ := r.read hc
              rw [hp] at hp'; cases hp'
              obtain ⟨k1, k2, k3, k4, k5, k6, k7⟩ := boundsE_sound hb h1 h2 h3
              have hlen : lenE cs 0 = xs.length := by rw [lenE_eq, upL_length i1]; rfl
              have hC : (lenE cs 0 - o) / size ≤ (p.cap - o) / p.size ∨ p.size ≠ size := by
                by_cases hz : p.size = size
                · exact .inl (by rw [hz]; exact Nat.div_le_div_right (by omega))
                · exact .inr hz
              split at hs
              · next q =>
                cases hsz2 : okSize h b size
                · rw [hsz2] at hs; cases hs
                rw [hsz2] at hs
                cases hs
                refine ⟨rfl, ?_⟩
                cases MX with
                | none => exact h3.elim
                | some Q =>
                  have hps2 : p.size = size := by
                    unfold okSize at hsz2
                    rw [hat] at hsz2
                    simp only [Nat.beq_eq] at hsz2
                    exact hps.trans hsz2
                  have hb0 := k1 ((p.cap - o) / p.size) (hC.resolve_right (fun hne => hne hps2))
                  simp only [mxOf] at hb0
                  refine red _ (sub_of hb0) (hK _ ?_)
                  simp only [upV, hp, Option.map_some, addA]
                  cases hbe : Nat.beq m l
                  · have : m ≠ l := fun e => by rw [e] at hbe; simp at hbe
                    simp [this, Nat.add_assoc]
                  · have : m = l := Nat.eq_of_beq_eq_true hbe
                    simp [this]
              · cases hok : okSize h b size
                · rw [hok] at hs; cases hs
                rw [hok] at hs
                have hps2 : p.size = size := by
                  unfold okSize at hok
                  rw [hat] at hok
                  simp only [Nat.beq_eq] at hok
                  exact hps.trans hok
                have hM : MX = none := by cases MX with | none => rfl | some q => exact h3.elim
                subst hM
                have hC' := hC.resolve_right (fun hne => hne hps2)
                have hb0 := k1 ((p.cap - o) / p.size) hC'
                simp only [mxOf] at hb0
                simp only [cond_true] at hs
                cases hlt : Nat.blt l ((lenE cs 0 - o) / size) || Nat.beq l 0
                · rw [hlt] at hs
                  simp only [cond_false] at hs
                  cases hrl : Nat.beq r' l
                  · rw [hrl] at hs; cases hs
                  · rw [hrl] at hs
                    cases hs
                    obtain rfl := Nat.eq_of_beq_eq_true hrl
                    refine ⟨rfl, red _ (sub_of hb0) (hK _ ?_)⟩
                    simp only [upV, hp, Option.map_some, addA, cond_false, hps2, Nat.sub_self]
                    by_cases e : (p.cap - o) / size = r' <;> simp [e, Nat.add_assoc]
                · rw [hlt] at hs
                  simp only [cond_true] at hs
                  cases hs
                  refine ⟨rfl, red _ (sub_of hb0) (hK _ ?_)⟩
                  simp only [upV, hp, Option.map_some, addA, hps2, capDiv]
                  rw [Bool.or_eq_true, Nat.blt_eq, Nat.beq_eq] at hlt
                  rcases hlt with hlt | hlt
                  · have : ¬ ((p.cap - o) / size = l) := by rw [hps2] at hC'; omega
                    simp [this, Nat.add_assoc]
                  · subst hlt
                    by_cases e : (p.cap - o) / size = 0 <;> simp [e]
            · cases hx
          · cases hs
        · cases hs
      · next b o q z =>
        split at hs
        · next l r' m hb =>
          simp only [upV] at hx
          split at hx
          · next p hp =>
            cases hx
            obtain ⟨k1, k2, k3, k4, k5, k6, k7⟩ := boundsE_sound hb h1 h2 h3
            have hm0 : m = 0 := by omega
            have hr0 : r' = 0 := by
              cases hmx : mx with
              | none => rcases k6 hmx with h | h <;> omega
              | some q => have := k7 q hmx; omega
            have hl0 : l = 0 := by omega
            subst hm0 hr0 hl0
            have hb0 := k1 (bif z then 0 else (p.cap - o) / p.size - q) (Nat.zero_le _)
            split at hs
            · next qq =>
              cases hs
              cases MX with
              | none => exact h3.elim
              | some Q =>
                simp only [mxOf] at hb0
                refine ⟨rfl, red _ (sub_of hb0) (hK _ ?_)⟩
                simp only [upV, hp, cond_true, Nat.sub_self, if_true]
            · cases hs
              have hM : MX = none := by cases MX with | none => rfl | some q => exact h3.elim
              subst hM
              simp only [mxOf] at hb0
              refine ⟨rfl, red _ (sub_of hb0) (hK _ ?_)⟩
              simp only [upV, hp, Option.map_some, addA, Nat.zero_mul, Nat.add_zero, Nat.sub_zero, Nat.sub_self]
              simp
          · cases hx
        · cases hs
      · cases hs
    · cases hs
  · next n e hu =>
    split at hs
    · next size hsz =>
      unfold szOf at hsz
      split at hs
      · next b o =>
        split at hs
        · next l r' m hb =>
          cases hs
          refine ⟨rfl, ?_⟩
          simp only [upV] at hx
          split at hx
          · next p hp =>
            cases hx
            obtain ⟨k1, k2, k3, k4, k5, k6, k7⟩ := boundsE_sound hb h1 h2 h3
            have hb0 := k1 n (Nat.le_refl _)
            have hmm : mxOf MX m n = m := by cases MX with | none => exact (k4 rfl).symm | some _ => rfl
            rw [hmm] at hb0
            have hv : upV φ (.sl b (bif Nat.beq m l then o else o + l * size) (r' - l) (m - l)) = some (.slice (some (if m = l then ⟨p.blk, p.sh + o, none⟩ else (⟨p.blk, p.sh + o, none⟩ : Addr).add (l * size))) (r' - l) (m - l)) := by
              simp only [upV, hp, addA]
              cases hbe : Nat.beq m l
              · have : m ≠ l := fun e => by rw [e] at hbe; simp at hbe
                simp [this, Nat.add_assoc]
              · have : m = l := Nat.eq_of_beq_eq_true hbe
                simp [this]
            have k := hK _ hv
            unfold slK
            rw [hu]
            simp only [hsz]
            have gen : ∃ l h m, boundsOf n n LO HI MX = some (l, h, m) ∧ K (.slice (some (if m = l then ⟨p.blk, p.sh + o, none⟩ else (⟨p.blk, p.sh + o, none⟩ : Addr).add (l * size))) (h - l) (m - l)) w := ⟨l, r', m, hb0, k⟩
            cases LO with
            | some _ => exact gen
            | none => cases HI with
              | some _ => exact gen
              | none => cases MX with
                | some _ => exact gen
                | none =>
                  simp [boundsOf] at hb0
                  obtain ⟨rfl, rfl, rfl⟩ := hb0
                  simp only [withAddr]
                  have : (if n = 0 then (⟨p.blk, p.sh + o, none⟩ : Addr) else (⟨p.blk, p.sh + o, none⟩ : Addr).add (0 * size)) = ⟨p.blk, p.sh + o, none⟩ := by
                    rw [addA]; simp
                  rw [this] at k
                  simpa using k
          · cases hx
        · cases hs
      · cases hs
    · cases hs
  · cases hs

end Go.CW.Ex
