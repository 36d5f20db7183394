/- Arguments that came in, read cell by cell: structs and arrays by a schema that the kernel reckons. For every program. -/
import Derived.Test.YtghineciiljeoaaGreatDoorOpen
import Derived.OpenShut
set_option linter.unusedVariables false
namespace Go.CW
open Go.RowKit

/-- what stands in a cell: a number, a truth value, or a thing of one cell that is opened further -/
inductive CK where
  | int (k : IntKind)
  | bool
  | raw (t : TypeId)

def schF (f : TypeId → Option (List CK)) : List Field → Nat → Option (List CK)
  | [], _ => some []
  | x :: xs, o => bif Nat.beq x.offset o then (match f x.type with
    | some ks => match schF f xs (o + ks.length) with
      | some rs => some (ks ++ rs)
      | none => none
    | none => none) else none

def sch (P : Program) : Nat → TypeId → Option (List CK)
  | 0, _ => none
  | d + 1, t => match (match P.underlying t with
    | some (.int k) => some [CK.int k]
    | some .bool => some [CK.bool]
    | some (.struct fs) => schF (sch P d) fs.toList 0
    | some (.array n e) => match sch P d e with
      | some ks => some (List.replicate n ks).flatten
      | none => none
    | _ => some [CK.raw t]) with
    | some ks => bif Nat.beq ks.length (P.cellsOf t) then some ks else none
    | none => none

section
variable {H : Type} {enc : TypeId × Value → H} {P : Program} {w : World} {base : Nat} {spare : Nat → Bool} {held : Bool}

def CKok (enc : TypeId × Value → H) (P : Program) (w : World) (base : Nat) (spare : Nat → Bool) (held : Bool) : CK → Value → Prop
  | .int k, c => ∃ q, c = .int k q ∧ Fits k q
  | .bool, c => ∃ b, c = .bool b
  | .raw t, c => ∃ f x, DataW.trod enc P w base spare held f t [c] = some x

def CKs (enc : TypeId × Value → H) (P : Program) (w : World) (base : Nat) (spare : Nat → Bool) (held : Bool) (ks : List CK) (cs : List Value) : Prop :=
  cs.length = ks.length ∧ ∀ (i : Nat) (k : CK) (c : Value), ks[i]? = some k → cs[i]? = some c → CKok enc P w base spare held k c

theorem CKs.app {ks rs : List CK} {cs : List Value} (h1 : CKs enc P w base spare held ks (cs.take ks.length)) (h2 : CKs enc P w base spare held rs (cs.drop ks.length)) : CKs enc P w base spare held (ks ++ rs) cs := by
  obtain ⟨l1, a1⟩ := h1
  obtain ⟨l2, a2⟩ := h2
  rw [List.length_take] at l1
  rw [List.length_drop] at l2
  refine ⟨by rw [List.length_append]; omega, fun i k c hk hc => ?_⟩
  by_cases hi : i < ks.length
  · rw [List.getElem?_append_left hi] at hk
    exact a1 i k c hk (by rw [List.getElem?_take_of_lt hi]; exact hc)
  · rw [List.getElem?_append_right (by omega)] at hk
    exact a2 (i - ks.length) k c hk (by rw [List.getElem?_drop]; rw [show ks.length + (i - ks.length) = i by omega]; exact hc)

theorem CKs.one {k : CK} {c : Value} (h : CKok enc P w base spare held k c) : CKs enc P w base spare held [k] [c] := by
  refine ⟨rfl, fun i k' c' hk hc => ?_⟩
  cases i with
  | zero => simp at hk hc; subst hk; subst hc; exact h
  | succ i => simp at hk

theorem CKs.head {k : CK} {ks : List CK} {c : Value} {cs : List Value} (h : CKs enc P w base spare held (k :: ks) (c :: cs)) : CKok enc P w base spare held k c ∧ CKs enc P w base spare held ks cs :=
  ⟨h.2 0 k c rfl rfl, by simpa using h.1, fun i k' c' hk hc => h.2 (i + 1) k' c' (by simpa using hk) (by simpa using hc)⟩

theorem sch_fields {f : TypeId → Option (List CK)} {n : Nat} {cs : List Value} (hf : ∀ t ks cs' x, f t = some ks → DataW.trod enc P w base spare held n t cs' = some x → CKs enc P w base spare held ks cs') (hc : ∀ t ks, f t = some ks → ks.length = P.cellsOf t) :
    ∀ (xs : List Field) (o : Nat) (ks : List CK), schF f xs o = some ks → (∀ x ∈ xs, ∃ y, DataW.trod enc P w base spare held n x.type ((cs.drop x.offset).take (P.cellsOf x.type)) = some y) →
      cs.length = o + ks.length → CKs enc P w base spare held ks (cs.drop o)
  | [], o, ks, h, _, hl => by
    simp only [schF, Option.some.injEq] at h
    subst h
    exact ⟨by simp at hl ⊢; omega, fun i k c hk => by simp at hk⟩
  | x :: xs, o, ks, h, ht, hl => by
    simp only [schF] at h
    cases hb : Nat.beq x.offset o with
    | false => rw [hb] at h; cases h
    | true =>
      rw [hb, cond_true] at h
      have ho := Nat.eq_of_beq_eq_true hb
      split at h
      · next k1 h1 =>
        split at h
        · next rs h2 =>
          cases h
          rw [List.length_append] at hl
          obtain ⟨y, hy⟩ := ht x (by simp)
          have e1 := hf _ _ _ _ h1 hy
          have e2 := hc _ _ h1
          rw [ho, ← e2] at e1
          have e3 := sch_fields hf hc xs (o + k1.length) rs h2 (fun z hz => ht z (by simp [hz])) (by omega)
          refine CKs.app e1 ?_
          rw [List.drop_drop]; exact e3
        · cases h
      · cases h

theorem sch_rep {n : Nat} {e : TypeId} {ks : List CK} (hk : ks.length = P.cellsOf e) : ∀ (m o : Nat) (cs : List Value), (∀ i, i < m → CKs enc P w base spare held ks ((cs.drop ((o + i) * P.cellsOf e)).take (P.cellsOf e))) → cs.length = (o + m) * P.cellsOf e →
    CKs enc P w base spare held (List.replicate m ks).flatten (cs.drop (o * P.cellsOf e))
  | 0, o, cs, _, hl => ⟨by rw [Nat.add_zero] at hl; simp; omega, fun i k c hk => by simp at hk⟩
  | m + 1, o, cs, h, hl => by
    rw [List.replicate_succ, List.flatten_cons]
    refine CKs.app (by rw [hk]; exact h 0 (by omega)) ?_
    rw [List.drop_drop, hk]
    have e : o * P.cellsOf e + P.cellsOf e = (o + 1) * P.cellsOf e := by rw [Nat.add_mul, Nat.one_mul]
    rw [e]
    refine sch_rep (n := n) hk m (o + 1) cs (fun i hi => ?_) (by rw [hl]; congr 1; omega)
    have := h (i + 1) (by omega)
    rw [show o + 1 + i = o + (i + 1) by omega]
    exact this

theorem sum_rep (a : Nat) : ∀ n : Nat, (List.replicate n a).sum = n * a
  | 0 => by simp
  | n + 1 => by rw [List.replicate_succ, List.sum_cons, sum_rep a n, Nat.add_mul]; omega

theorem sch_len : ∀ (d : Nat) (t : TypeId) (ks : List CK), sch P d t = some ks → ks.length = P.cellsOf t
  | 0, _, _, h => by simp [sch] at h
  | d + 1, t, ks, h => by
    unfold sch at h
    split at h
    · next ks' _ =>
      cases hb : Nat.beq ks'.length (P.cellsOf t) with
      | false => rw [hb] at h; cases h
      | true => rw [hb] at h; cases h; exact Nat.eq_of_beq_eq_true hb
    · cases h

theorem open_sch : ∀ (d : Nat) (t : TypeId) (ks : List CK) (n : Nat) (cs : List Value) (x : DataW H × List MemPlace), sch P d t = some ks → DataW.trod enc P w base spare held n t cs = some x → CKs enc P w base spare held ks cs
  | 0, _, _, _, _, _, h, _ => by simp [sch] at h
  | d + 1, t, ks, n, cs, x, h, hx => by
    have hlen := sch_len (d + 1) t ks h
    unfold sch at h
    split at h
    · next ks' h2 =>
      have : ks' = ks := by
        cases hb : Nat.beq ks'.length (P.cellsOf t) with
        | false => rw [hb] at h; cases h
        | true => rw [hb] at h; exact Option.some.inj h
      subst this
      split at h2
      · next k hu =>
        cases h2
        obtain ⟨q, rfl, _, hw⟩ := DataW.trod_int hu hx
        exact CKs.one ⟨q, rfl, Fits.of_wf hw⟩
      · next hu =>
        cases h2
        obtain ⟨b, rfl, _⟩ := DataW.trod_bool hu hx
        exact CKs.one ⟨b, rfl⟩
      · next fs hu =>
        obtain ⟨xs, m, _, _, hl, hxl, hf⟩ := DataW.trod_struct hu hx
        have := sch_fields (n := m) (cs := cs) (fun t ks cs' x h1 h2 => open_sch d t ks m cs' x h1 h2) (fun t ks h => sch_len d t ks h) fs.toList 0 ks' h2 (fun z hz => by
          obtain ⟨i, hi, he⟩ := List.mem_iff_getElem.1 hz
          have h3 := hf i z (by rw [← he]; simp)
          rw [List.getElem?_eq_getElem (by rw [hxl]; simpa using hi)] at h3
          exact ⟨_, h3⟩) (by omega)
        simpa using this
      · next len e hu =>
        split at h2
        · next ks1 h3 =>
          cases h2
          obtain ⟨xs, m, _, _, hl, hxl, hf⟩ := DataW.trod_array hu hx
          have hk1 := sch_len d e ks1 h3
          have := sch_rep (n := m) hk1 len 0 cs (fun i hi => by
            have h4 := hf i hi
            rw [List.getElem?_eq_getElem (by omega)] at h4
            rw [Nat.zero_add]
            exact open_sch d e ks1 m _ _ h3 h4) (by
              rw [hl, ← hlen, List.length_flatten, List.map_replicate, sum_rep, hk1, Nat.zero_add])
          simpa using this
        · cases h2
      · next h3 h4 h5 h6 =>
        cases h2
        have hc : cs.length = 1 := by
          cases n with
          | zero => simp [DataW.trod] at hx
          | succ n =>
            unfold DataW.trod at hx
            split at hx <;> first | rfl | (next hu => exact absurd hu (h5 _)) | (next hu => exact absurd hu (h6 _ _)) | cases hx
        match cs, hc with
        | [c], _ => exact CKs.one ⟨n, x, hx⟩
    · cases h

/-- a slice of bytes -/
theorem raw_bytes {t e : TypeId} {c : Value} (hs : ∀ b, spare b = true) (ht : P.underlying t = some (.slice e)) (he : P.underlying e = some (.int .u8)) (hc : P.cellsOf e = 1) (h : CKok enc P w base spare held (.raw t) c) : ∃ bs, RdB w c bs := by
  obtain ⟨f, x, hx⟩ := h
  rcases Go.ChangeShapes.open_ints ht he hc hx with ⟨hv, _⟩ | ⟨a, len, cap, zs, hv, hb, hl, hm, hz, _, hcell, hwz⟩
  · simp only [List.cons.injEq, and_true] at hv
    subst hv
    exact ⟨[], Rd.nil w⟩
  · simp only [List.cons.injEq, and_true] at hv
    subst hv
    rw [hs, if_pos rfl] at hz
    exact rdB_of_row (.inr ⟨a, rfl, hl, hm, hz, hcell, hwz⟩)

/-- a text -/
theorem raw_text {t : TypeId} {c : Value} (ht : P.underlying t = some .string) (h : CKok enc P w base spare held (.raw t) c) : ∃ s : ByteArray, c = .string s ∧ s.size ≤ maxLen := by
  obtain ⟨f, x, hx⟩ := h
  cases f with
  | zero => simp [DataW.trod] at hx
  | succ n =>
    unfold DataW.trod at hx
    rw [ht] at hx
    split at hx <;> simp_all

/-- a byte's cell -/
theorem CKok.byte {c : Value} (h : CKok enc P w base spare held (.int .u8) c) : ∃ x : UInt8, c = b8 x := by
  obtain ⟨q, rfl, hq⟩ := h
  have := hq.u8
  exact ⟨byt q, by rw [← b8_byt]; congr 1; omega⟩

end
end Go.CW
