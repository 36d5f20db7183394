/- Runs in which nothing is unknown: maps; each operation implies its formula. For every program. -/
import Derived.Test.YtghineciiljeoaaGreatDoorExI
namespace Go.CW.Ex
open Go.RowKit Go.MapKept

variable {P : Program} {w0 w : World} {B : Nat} {φ : PM} {h h' : H}

theorem nthE_up : ∀ {l : List EV} {xs : List Value} {i : Nat} {v : EV}, nthE l i = some v → upL φ l = some xs → ∃ x, xs[i]? = some x ∧ upV φ v = some x := by
  intro l
  induction l with
  | nil => intro xs i v h _; cases i <;> simp [nthE] at h
  | cons u r ih =>
    intro xs i v h k
    obtain ⟨x, ys, h1, h2, rfl⟩ := upL_cons.1 k
    cases i with
    | zero => simp only [nthE] at h; cases h; exact ⟨x, rfl, h1⟩
    | succ i => simp only [nthE] at h; obtain ⟨z, a, b⟩ := ih h h2; exact ⟨z, by simpa using a, b⟩

theorem nthN_get : ∀ {l : List Nat} {i m : Nat}, nthN l i = some m → l[i]? = some m := by
  intro l
  induction l with
  | nil => intro i m h; cases i <;> simp [nthN] at h
  | cons a r ih => intro i m h; cases i with
    | zero => simpa [nthN] using h
    | succ i => simp only [nthN] at h; simpa using ih h

theorem lenOfE_sound {t : TypeId} {x v : EV} {X : Value} (hl : lenOfE P t x = some v) (hx : upV φ x = some X) {K : KV} (hK : ∀ V, upV φ v = some V → K V w) : lenK P t X w K := by
  unfold lenOfE at hl
  unfold lenK
  split at hl
  · next hu =>
    simp only [hu]
    split at hl
    · next s =>
      cases hl
      simp only [upV, Option.some.injEq] at hx
      subst hx
      have hsz : (⟨(s.map UInt8.ofNat).toArray⟩ : ByteArray).size = s.length := by show Array.size _ = _; simp
      simp only [hsz]
      have := hK _ rfl
      rw [lenE_eq] at this
      exact this
    · cases hl
  · next n e hu =>
    simp only [hu]
    cases hl
    exact hK _ rfl
  · next e hu =>
    simp only [hu]
    split at hl
    · cases hl
      simp only [upV, Option.some.injEq] at hx
      subst hx
      exact ⟨0, rfl, hK _ rfl⟩
    · cases hl
      simp only [upV] at hx
      split at hx <;> cases hx
      exact ⟨0, rfl, hK _ rfl⟩
    · cases hl
      simp only [upV] at hx
      split at hx <;> cases hx
      exact ⟨_, rfl, hK _ rfl⟩
    · cases hl
      simp only [upV] at hx
      split at hx <;> cases hx
      exact ⟨_, rfl, hK _ rfl⟩
    · cases hl
  · cases hl

theorem ixE_sound {sp : Shp} {t : TypeId} {x i v : EV} {X I : Value} (hl : ixE P t x i = some v) (hx : upV φ x = some X) (hi : upV φ i = some I) {K : KV} (hK : ∀ V, upV φ v = some V → K V w) : ixK P sp t X I w K := by
  unfold ixE at hl
  split at hl
  · next s k n hu =>
    split at hl
    · next m hm =>
      cases hb : Nat.blt m 256
      · rw [hb] at hl; cases hl
      rw [hb] at hl
      cases hl
      simp only [upV, Option.some.injEq] at hx hi
      subst hx hi
      have hg := nthN_get hm
      have hlt : n < s.length := (List.getElem?_eq_some_iff.1 hg).1
      have hm2 : m < 256 := by simpa using hb
      unfold ixK
      simp only [hu]
      have hsz : (⟨(s.map UInt8.ofNat).toArray⟩ : ByteArray).size = s.length := by show Array.size _ = _; simp
      refine ⟨⟨by simp, by rw [hsz]; simp; omega⟩, ?_⟩
      have e : ((⟨(s.map UInt8.ofNat).toArray⟩ : ByteArray).get! (Int.ofNat n).toNat).toNat = m := by
        have : (⟨(s.map UInt8.ofNat).toArray⟩ : ByteArray).get! (Int.ofNat n).toNat = UInt8.ofNat m := by
          show ((s.map UInt8.ofNat).toArray)[n]! = _
          rw [getElem!_pos _ _ (by simpa using hlt)]
          have h2 := (List.getElem?_eq_some_iff.1 hg).2
          simp [h2]
        rw [this, UInt8.toNat_ofNat']
        omega
      rw [e]
      exact hK _ rfl
    · cases hl
  · cases hl

theorem s2aE_sound {t : TypeId} {x v : EV} {X : Value} (hl : s2aE P t x = some v) (hx : upV φ x = some X) {K : KV} (hK : ∀ V, upV φ v = some V → K V w) : rawQ P (.s (.one .val)) (Instr.arrayAt t X) w K := by
  unfold s2aE at hl
  split at hl
  · next n e hu =>
    have core : ∀ (b o len cap : Nat) (p : Pl), φ b = some p → (bif Nat.ble n len then some (EV.ptr b o) else none) = some v → rawQ P (.s (.one .val)) (Instr.arrayAt t (.slice (some ⟨p.blk, p.sh + o, none⟩) len cap)) w K := by
      intro b o len cap p hp hl
      cases hb : Nat.ble n len
      · rw [hb] at hl; cases hl
      rw [hb] at hl
      cases hl
      have hle := Nat.le_of_ble_eq_true hb
      refine ⟨.pointer (some ⟨p.blk, p.sh + o, none⟩), ?_, hK _ (by simp only [upV, hp])⟩
      simp [Instr.arrayAt, run_underlying hu, Nat.not_lt.2 hle]
    split at hl
    · next b o len cap =>
      simp only [upV] at hx
      split at hx
      · next p hp => cases hx; exact core b o len cap p hp hl
      · cases hx
    · next b o len =>
      simp only [upV] at hx
      split at hx
      · next p hp => cases hx; exact core b o len _ p hp hl
      · cases hx
    · cases hl
  · cases hl

/-! ### maps -/
theorem keyEq_str {s : List Nat} {a : EV} {b : Bool} {A : Value} (h : keyEq (.str s) a = some b) (ha : upV φ a = some A) :
    Instr.sameNow .string (.string ⟨(s.map UInt8.ofNat).toArray⟩) A = some b ∧ IsKey .string A ∧ (b = true → A = .string ⟨(s.map UInt8.ofNat).toArray⟩) := by
  unfold keyEq at h
  split at h
  · next s1 t e =>
    cases e
    cases hb : bytesE s && bytesE t
    · rw [hb] at h; cases h
    rw [hb] at h
    rw [Bool.and_eq_true] at hb
    cases h
    simp only [upV, Option.some.injEq] at ha
    subst ha
    have e2 : ((⟨(s.map UInt8.ofNat).toArray⟩ : ByteArray) == ⟨(t.map UInt8.ofNat).toArray⟩) = eqNL s t := by
      rw [Bool.eq_iff_iff, bytes_beq, eqNL_iff]
      constructor
      · intro e
        have : (s.map UInt8.ofNat) = t.map UInt8.ofNat := by
          have := congrArg (fun b => b.data.toList) e
          simpa using this
        exact (ofNat_inj hb.1 hb.2).1 this
      · intro e; rw [e]
    refine ⟨by simp only [Instr.sameNow, e2], trivial, fun hh => ?_⟩
    rw [eqNL_iff.1 hh]
  · cases h

theorem find_sound {s : List Nat} : ∀ {es : List (EV × EV)} {ents : List MapEntry} {r : Option EV} (i : Nat), findE (.str s) es = some r → upL φ (es.map (·.1)) = some (ents.map (·.key)) → upL φ (es.map (·.2)) = some (ents.map (·.val)) →
    match r with
    | none => Instr.findNow .string (.string ⟨(s.map UInt8.ofNat).toArray⟩) ents i = some none
    | some v => ∃ j x, Instr.findNow .string (.string ⟨(s.map UInt8.ofNat).toArray⟩) ents i = some (some (j, x)) ∧ upV φ v = some x := by
  intro es
  induction es with
  | nil =>
    intro ents r i h hk hv
    simp only [findE] at h
    cases h
    have := upL_nil.1 hk
    have : ents = [] := by simpa using this
    subst this
    rfl
  | cons e es ih =>
    obtain ⟨a, u⟩ := e
    intro ents r i h hk hv
    cases ents with
    | nil => have := upL_length hk; simp at this
    | cons en ents =>
      simp only [List.map_cons] at hk hv
      obtain ⟨x, ys, h1, h2, h3⟩ := upL_cons.1 hk
      cases h3
      obtain ⟨x', ys', h4, h5, h6⟩ := upL_cons.1 hv
      cases h6
      simp only [findE] at h
      split at h
      · next hke =>
        cases h
        obtain ⟨k1, _, _⟩ := keyEq_str hke h1
        exact ⟨i, _, by simp [Instr.findNow, k1], h4⟩
      · next hke =>
        obtain ⟨k1, _, _⟩ := keyEq_str hke h1
        have := ih (i + 1) h h2 h5
        cases r with
        | none => simp only [Instr.findNow, k1]; exact this
        | some v => obtain ⟨j, z, q1, q2⟩ := this; exact ⟨j, z, by simp only [Instr.findNow, k1]; exact q1, q2⟩
      · cases h

theorem lkE_sound (r : Hd w0 B φ h w) {sp : Shp} {t : TypeId} {x k v : EV} {X Kv : Value} {ok : Bool} (hl : lkE P sp t x k ok h = some v) (hx : upV φ x = some X) (hk : upV φ k = some Kv) {K : KV} (hK : ∀ V, upV φ v = some V → K V w) :
    rawQ P sp (Instr.lookup t X Kv ok) w K := by
  unfold lkE at hl
  split at hl
  · next kt et hu =>
    cases hko : keyOk (mkOf P kt) k
    · rw [hko] at hl; cases hl
    rw [hko] at hl
    simp only [cond_true] at hl
    obtain ⟨s, rfl, hkt⟩ : ∃ s, k = .str s ∧ P.underlying kt = some .string := by
      unfold keyOk at hko
      split at hko
      · next hm => exact ⟨_, rfl, by unfold mkOf at hm; split at hm <;> first | assumption | cases hm⟩
      · cases hko
    simp only [upV, Option.some.injEq] at hk
    subst hk
    split at hl
    · next es z hes hz =>
      obtain ⟨ents, hX, q1, q2⟩ : ∃ ents : Array MapEntry, ((X = .map none ∧ ents = #[]) ∨ ∃ b cl, X = .map (some b) ∧ w.heap[b]? = some (.map ents cl)) ∧
          upL φ (es.map (·.1)) = some (ents.toList.map (·.key)) ∧ upL φ (es.map (·.2)) = some (ents.toList.map (·.val)) := by
        unfold entsE at hes
        split at hes
        · cases hes
          simp only [upV, Option.some.injEq] at hx
          subst hx
          exact ⟨#[], .inl ⟨rfl, rfl⟩, upL_nil.2 rfl, upL_nil.2 rfl⟩
        · next b =>
          split at hes
          · next es' hat =>
            cases hes
            simp only [upV] at hx
            split at hx
            · next p hp =>
              cases hx
              obtain ⟨p', j1, _, _, j4⟩ := r.maps _ _ hat
              rw [hp] at j1; cases j1
              obtain ⟨ents, cl, ks, vs, m1, m2, m3, m4, m5⟩ := j4.ex
              exact ⟨ents, .inr ⟨_, cl, rfl, m1⟩, by rw [m4]; exact m2, by rw [m5]; exact m3⟩
            · cases hx
          · cases hes
        · cases hes
      have hrun : ∀ (a : Option (Nat × Value)) (V : Value), Instr.findNow .string (.string ⟨(s.map UInt8.ofNat).toArray⟩) ents.toList 0 = some a →
          (V = (match a with | some (_, u) => if ok then .tuple #[u, .bool true] else u | none => if ok then .tuple #[z, .bool false] else z)) →
          (Instr.lookup t X (.string ⟨(s.map UInt8.ofNat).toArray⟩) ok).run P w = .ok V w := by
        intro a V hf hV
        subst hV
        have hck := fun em => run_checkKey (P := P) (w := w) (k := .string ⟨(s.map UInt8.ofNat).toArray⟩) hkt (by trivial) em 9999
        have hfk := run_findKey (P := P) (w := w) hkt hf
        obtain ⟨info, hinfo, hzz⟩ : ∃ info, P.info? et = some info ∧ info.zero = some z := by
          cases hi : P.info? et with
          | none => rw [hi] at hz; cases hz
          | some info => rw [hi] at hz; exact ⟨info, rfl, hz⟩
        rcases hX with ⟨rfl, rfl⟩ | ⟨b, cl, rfl, hb⟩
        · simp only [Instr.lookup, Sem.run_bind, run_underlying hu, Result.andThen_ok, Sem.run_pure, hck, hfk]
          cases a with
          | none => simp [zeroValue, typeInfo, hinfo, hzz, Result.andThen]
          | some p => simp [Result.andThen]
        · simp only [Instr.lookup, Sem.run_bind, run_underlying hu, Result.andThen_ok, Sem.run_pure, MapKept.run_getObj_map hb, hck, hfk]
          cases a with
          | none => simp [zeroValue, typeInfo, hinfo, hzz, Result.andThen]
          | some p => simp [Result.andThen]
      split at hl
      · next v' hfe =>
        obtain ⟨j, xv, f1, f2⟩ := find_sound (φ := φ) 0 hfe q1 q2
        cases ok with
        | true =>
          simp only [cond_true] at hl
          cases hs : spE sp (.tup [v', .bool true])
          · rw [hs] at hl; cases hl
          rw [hs] at hl
          cases hl
          have hup : upV φ (.tup [v', .bool true]) = some (.tuple #[xv, .bool true]) := by simp only [upV, upL, f2]
          exact spE_exSp hs hup (hrun _ _ f1 rfl) (hK _ hup)
        | false =>
          simp only [cond_false] at hl
          cases hs : spE sp v'
          · rw [hs] at hl; cases hl
          rw [hs] at hl
          cases hl
          exact spE_exSp hs f2 (hrun _ _ f1 rfl) (hK _ f2)
      · next z' hfe hdz =>
        have f1 := find_sound (φ := φ) 0 hfe q1 q2
        have hzu := dnV_sound φ z hdz
        cases ok with
        | true =>
          simp only [cond_true] at hl
          cases hs : spE sp (.tup [z', .bool false])
          · rw [hs] at hl; cases hl
          rw [hs] at hl
          cases hl
          have hup : upV φ (.tup [z', .bool false]) = some (.tuple #[z, .bool false]) := by simp only [upV, upL, hzu]
          exact spE_exSp hs hup (hrun _ _ f1 rfl) (hK _ hup)
        | false =>
          simp only [cond_false] at hl
          cases hs : spE sp z'
          · rw [hs] at hl; cases hl
          rw [hs] at hl
          cases hl
          exact spE_exSp hs hzu (hrun _ _ f1 rfl) (hK _ hzu)
      · cases hl
    · cases hl
  · cases hl

theorem lay_sound {s : List Nat} {v : EV} {V : Value} (hv : upV φ v = some V) : ∀ {es es' : List (EV × EV)} {ents : List MapEntry} (i : Nat), layM (.str s) v es = some es' → upL φ (es.map (·.1)) = some (ents.map (·.key)) → upL φ (es.map (·.2)) = some (ents.map (·.val)) →
    (∃ j x, j < ents.length ∧ Instr.findNow .string (.string ⟨(s.map UInt8.ofNat).toArray⟩) ents i = some (some (i + j, x)) ∧ (∃ e, ents[j]? = some e ∧ e.key = .string ⟨(s.map UInt8.ofNat).toArray⟩) ∧ upL φ (es'.map (·.1)) = some (ents.map (·.key)) ∧ upL φ (es'.map (·.2)) = some ((ents.map (·.val)).set j V)) ∨
    (Instr.findNow .string (.string ⟨(s.map UInt8.ofNat).toArray⟩) ents i = some none ∧ es' = es ++ [(.str s, v)]) := by
  intro es
  induction es with
  | nil =>
    intro es' ents i h hk _
    simp only [layM] at h
    cases h
    have := upL_nil.1 hk
    have : ents = [] := by simpa using this
    subst this
    exact .inr ⟨rfl, rfl⟩
  | cons e es ih =>
    obtain ⟨a, u⟩ := e
    intro es' ents i h hk hvl
    cases ents with
    | nil => have := upL_length hk; simp at this
    | cons en ents =>
      simp only [List.map_cons] at hk hvl
      obtain ⟨x, ys, h1, h2, h3⟩ := upL_cons.1 hk
      cases h3
      obtain ⟨x', ys', h4, h5, h6⟩ := upL_cons.1 hvl
      cases h6
      simp only [layM] at h
      split at h
      · next hke =>
        cases h
        obtain ⟨k1, _, k3⟩ := keyEq_str hke h1
        refine .inl ⟨0, en.val, by simp, by simp [Instr.findNow, k1], ⟨en, rfl, k3 rfl⟩, ?_, ?_⟩
        · exact upL_cons.2 ⟨_, _, h1, h2, rfl⟩
        · exact upL_cons.2 ⟨_, _, hv, h5, rfl⟩
      · next hke =>
        obtain ⟨k1, _, _⟩ := keyEq_str hke h1
        split at h
        · next r' hr =>
          cases h
          rcases ih (i + 1) hr h2 h5 with ⟨j, z, q0, q1, q2, q3, q4⟩ | ⟨q1, q2⟩
          · refine .inl ⟨j + 1, z, by simp; omega, by simp only [Instr.findNow, k1]; rw [q1]; congr 2; simp; omega, by simpa using q2, ?_, ?_⟩
            · exact upL_cons.2 ⟨_, _, h1, q3, rfl⟩
            · exact upL_cons.2 ⟨_, _, h4, q4, rfl⟩
          · exact .inr ⟨by simp only [Instr.findNow, k1]; exact q1, by rw [q2]; rfl⟩
        · cases h
      · cases h

theorem muE_sound (r : Hd w0 B φ h w) {t : TypeId} {m k v : EV} {M Kv V : Value} (hl : muE P t m k v h = some h') (hm : upV φ m = some M) (hk : upV φ k = some Kv) (hv : upV φ v = some V) {K : KV} (hK : ∀ w', Hd w0 B φ h' w' → K undef w') :
    rawU P (Instr.mapUpdate t M Kv V) w K := by
  unfold muE at hl
  split at hl
  · next kt et hu =>
    cases hko : keyOk (mkOf P kt) k
    · rw [hko] at hl; cases hl
    rw [hko] at hl
    simp only [cond_true] at hl
    obtain ⟨s, rfl, hkt⟩ : ∃ s, k = .str s ∧ P.underlying kt = some .string := by
      unfold keyOk at hko
      split at hko
      · next hm => exact ⟨_, rfl, by unfold mkOf at hm; split at hm <;> first | assumption | cases hm⟩
      · cases hko
    simp only [upV, Option.some.injEq] at hk
    subst hk
    split at hl
    · next b =>
      split at hl
      · next es hat =>
        split at hl
        · next es' hlay =>
          cases hl
          simp only [upV] at hm
          split at hm
          · next p hp =>
            cases hm
            obtain ⟨p', j1, j2, j3, j4⟩ := r.maps _ _ hat
            rw [hp] at j1; cases j1
            obtain ⟨ents, cl, ks, vs, m1, m2, m3, m4, m5⟩ := j4.ex
            rw [← m4] at m2
            rw [← m5] at m3
            have hck := fun em => run_checkKey (P := P) (w := w) (k := .string ⟨(s.map UInt8.ofNat).toArray⟩) hkt (by trivial) em 9999
            have hlt : b < h.next := r.at_lt (by rw [hat]; intro k; cases k)
            have hb2 : b < 1000000002 := by have := r.most; omega
            have upd : ∀ (o : Array MapEntry) (cl' : Nat), upL φ (es'.map (·.1)) = some (o.toList.map (·.key)) → upL φ (es'.map (·.2)) = some (o.toList.map (·.val)) →
                Hd w0 B φ (h.put b (.mp es')) { w with heap := w.heap.setIfInBounds p.blk (.map o cl') } := by
              intro o cl' u1 u2
              have hh := heap_set (o' := .map o cl') m1
              have hother : ∀ c q, isLive (h.at c) = true → φ c = some q → c ≠ b → q.blk ≠ p.blk := fun c q hc hq hne he => hne (r.sep c b q p hc (by rw [hat]; rfl) hq hp he)
              refine ⟨⟨r.below.os, r.below.tape, r.below.output, by simpa using r.below.size, fun k hk => (hh.2 k (by omega)).trans (r.below.block k hk)⟩, r.base, by rw [H.put_next]; exact r.most, ?_, ?_, ?_, ?_, ?_⟩
              · intro c hc
                rw [H.put_next] at hc
                rw [H.get_put hb2, if_neg (by omega : c ≠ b)]
                exact r.fresh c hc
              · intro c e2 s2 a2 cs2 hc
                rw [H.at_put hb2] at hc
                by_cases hcb : c = b
                · subst hcb; rw [if_pos rfl] at hc; cases hc
                · rw [if_neg hcb] at hc
                  obtain ⟨q, n1, n2, n3, n4⟩ := r.cells c e2 s2 a2 cs2 hc
                  exact ⟨q, n1, n2, by simpa using n3, n4.mono (Ext.refl _) (hh.2 _ (hother c q (by rw [hc]; rfl) n1 hcb))⟩
              · intro c es2 hc
                rw [H.at_put hb2] at hc
                by_cases hcb : c = b
                · subst hcb
                  rw [if_pos rfl] at hc
                  cases hc
                  exact ⟨p, hp, j2, by simpa using j3, ⟨o, cl', _, _, hh.1, u1, u2, rfl, rfl⟩⟩
                · rw [if_neg hcb] at hc
                  obtain ⟨q, n1, n2, n3, n4⟩ := r.maps c es2 hc
                  exact ⟨q, n1, n2, by simpa using n3, n4.mono (Ext.refl _) (hh.2 _ (hother c q (by rw [hc]; rfl) n1 hcb))⟩
              · intro c hc
                rw [H.at_put hb2] at hc
                by_cases hcb : c = b
                · subst hcb; rw [if_pos rfl] at hc; cases hc
                · rw [if_neg hcb] at hc; exact r.hole c hc
              · intro c c' q q' hc hc' hq hq' he
                rw [H.at_put hb2] at hc hc'
                have live : ∀ d, isLive (if d = b then MB.mp es' else h.at d) = true → isLive (h.at d) = true := by
                  intro d hd
                  by_cases hdb : d = b
                  · subst hdb; rw [hat]; rfl
                  · rw [if_neg hdb] at hd; exact hd
                exact r.sep c c' q q' (live c hc) (live c' hc') hq hq' he
            rcases lay_sound hv 0 hlay m2 m3 with ⟨j, x, q0, q1, ⟨e, q2, q2'⟩, q3, q4⟩ | ⟨q1, rfl⟩
            · have hfk := run_findKey (P := P) (w := w) hkt q1
              have hst := run_keyThatStays (P := P) (w := w) (d := .string) (k := .string ⟨(s.map UInt8.ofNat).toArray⟩) (by trivial)
              have hej : ents[0 + j]? = some e := by simpa using q2
              refine ⟨_, ?_, hK _ (upd (ents.modify (0 + j) fun e => { e with key := .string ⟨(s.map UInt8.ofNat).toArray⟩, val := V }) cl ?_ ?_)⟩
              · simp only [Instr.mapUpdate, Sem.run_bind, run_underlying hu, Result.andThen_ok, MapKept.run_getObj_map m1, hck, hfk, hej, Option.map_some, Option.getD_some, q2', hst, MapKept.run_setObj_map _ m1]
              · rw [q3]
                congr 1
                apply List.ext_getElem?
                intro i
                simp only [List.getElem?_map, Array.getElem?_toList, Array.getElem?_modify, Nat.zero_add]
                by_cases hij : j = i
                · subst hij
                  rw [if_pos rfl]
                  have : ents[j]? = some e := by simpa using q2
                  simp [this, q2']
                · rw [if_neg hij]
              · rw [q4]
                congr 1
                apply List.ext_getElem?
                intro i
                rw [List.getElem?_set]
                simp only [List.getElem?_map, Array.getElem?_toList, Array.getElem?_modify, Nat.zero_add, List.length_map]
                by_cases hij : j = i
                · subst hij
                  rw [if_pos rfl, if_pos rfl]
                  have : ents[j]? = some e := by simpa using q2
                  simp at q0
                  simp [this, q0]
                · rw [if_neg hij, if_neg hij]
            · have hfk := run_findKey (P := P) (w := w) hkt q1
              refine ⟨_, ?_, hK _ (upd (ents.push { key := .string ⟨(s.map UInt8.ofNat).toArray⟩, val := V, born := cl }) (cl + 1) ?_ ?_)⟩
              · simp only [Instr.mapUpdate, Sem.run_bind, run_underlying hu, Result.andThen_ok, MapKept.run_getObj_map m1, hck, hfk, MapKept.run_setObj_map _ m1]
              · simp only [List.map_append, Array.toList_push, List.map_cons, List.map_nil]
                exact upL_append m2 (upL_cons.2 ⟨_, _, rfl, upL_nil.2 rfl, rfl⟩)
              · simp only [List.map_append, Array.toList_push, List.map_cons, List.map_nil]
                exact upL_append m3 (upL_cons.2 ⟨_, _, hv, upL_nil.2 rfl, rfl⟩)
          · cases hm
        · cases hl
      · cases hl
    · cases hl
  · cases hl

end Go.CW.Ex
