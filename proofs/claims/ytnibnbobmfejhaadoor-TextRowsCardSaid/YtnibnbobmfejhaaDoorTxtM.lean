/- Texts as lists of bytes; numerals of base ten and sixteen; the least contracts. -/
import Derived.Test.YtnibnbobmfejhaaDoorIto
import Derived.Test.YtnibnbobmfejhaaDoorNam
import Derived.Test.YtnibnbobmfejhaaDoorGTxt
import Derived.Test.YtnibnbobmfejhaaDoorGEnc
import Derived.Test.YtnibnbobmfejhaaDoorGPar
import Derived.Test.YtnibnbobmfejhaaDoorGPai
import Derived.Test.YtnibnbobmfejhaaDoorGPae
import Derived.Laws.IdiomStrings
import Derived.Laws.Build
set_option linter.unusedVariables false
set_option linter.unusedSimpArgs false
set_option maxRecDepth 100000
namespace Go.Proofs.YtnibnbobmfejhaaDoor
open Go Go.CW Go.RowKit

theorem JoinP.go {rs : List Rep} {rest : FunR rs} {body : FunR rs → Prop} (h : body rest) : JoinP rs rest body := h

theorem mk_text (a : Array UInt8) : ByteArray.mk a = textOf a.toList := by simp [textOf]
theorem text_get (l : List UInt8) (i : Nat) : (textOf l).get! i = l.getD i 0 := by
  simp [textOf, ByteArray.get!, List.getD, getElem!_def]
  cases l[i]? <;> rfl
theorem text_extract (l : List UInt8) (a b : Nat) : (textOf l).extract a b = textOf ((l.drop a).take (b - a)) := by
  apply ByteArray.ext
  apply Array.toList_inj.1
  rw [Lib.extract_data]
  simp [textOf]
theorem text_eqb (a : List UInt8) (b : Array UInt8) : ((textOf a).toList == (ByteArray.mk b).toList) = decide (a = b.toList) := by rw [mk_text, text_beq']

/-! ### inside, of -/
theorem inside_c {w : World} {c lo hi : Int} {R : KV} (k : R (.bool (decide (c ≥ lo) && decide (c ≤ hi))) w) : Go.CW.Spec Tryd.prog 21 #[.int .u8 c, .int .u8 lo, .int .u8 hi] w R := by
  apply text_inside_wp
  refine JoinP.go (cond_intro (fun h => ?_) (fun h => ?_))
  · rw [h, Bool.true_and] at k; exact k
  · rw [h, Bool.false_and] at k; exact k

theorem of_c {w : World} {l : List UInt8} {f : Value} {p : UInt8 → Bool} {R : KV} (hl : l.length ≤ 1000000000)
    (hf : ∀ (c : UInt8) (ww : World) (K : KV), Grow w ww → (∀ w', Grow ww w' → K (.bool (p c)) w') → callU Tryd.prog f #[.int .u8 (c.toNat : Int)] ww K)
    (k : ∀ w', Grow w w' → R (.bool (l.all p)) w') : Go.CW.Spec Tryd.prog 22 #[.string (textOf l), f] w R := by
  apply text_of_wp
  unfold text_of_F
  rw [textOf_size]
  refine ⟨fun (i : Int) (ww : World) => 0 ≤ i ∧ i ≤ l.length ∧ Grow w ww ∧ (l.take i.toNat).all p = true, fun (i : Int) (ww : World) => (l.length - i).toNat, ?_, ?_⟩
  · dsimp only
    exact ⟨by omega, by omega, Grow.refl w, by simp⟩
  · dsimp only [allR, mapR2, eqN, ltN]
    rintro m i ww ⟨⟨h0, h1, g, ha⟩, hm⟩
    refine cond_intro (fun h2 => ?_) (fun h2 => ?_)
    · simp at h2
      have e : l.getD i.toNat 0 = l[i.toNat]'(by omega) := by simp [List.getD, show i.toNat < l.length by omega]
      refine ⟨⟨h0, h2⟩, ?_⟩
      rw [text_get, e]
      refine hf _ ww _ g fun w' g' => ⟨_, rfl, cond_intro (fun h3 => ?_) (fun h3 => ?_)⟩
      · have : l.all p = false := by
          rw [List.all_eq_false]
          exact ⟨l[i.toNat]'(by omega), List.getElem_mem _, by simpa using h3⟩
        rw [this] at k
        exact k _ (g.then g')
      · rw [wi64_id (n := i + 1) (by omega) (by omega)]
        refine ⟨⟨by omega, by omega, g.then g', ?_⟩, by omega⟩
        have e2 : (i + 1).toNat = i.toNat + 1 := by omega
        rw [e2, take_snoc l i.toNat (by omega), List.all_append, ha]
        simpa using h3
    · simp at h2
      rw [List.take_of_length_le (by omega)] at ha
      rw [ha] at k
      exact k _ g

/-! ### prefixes -/
def hasP (l p : List UInt8) : Bool := decide (p.length ≤ l.length) && decide (l.take p.length = p)

theorem HasPrefix_c {w : World} {l p : List UInt8} {R : KV} (hl : l.length ≤ 1000000000) (hp : p.length ≤ 1000000000) (k : R (.bool (hasP l p)) w) : Go.CW.Spec Tryd.prog 43 #[.string (textOf l), .string (textOf p)] w R := by
  apply stringslite_HasPrefix_wp
  unfold stringslite_HasPrefix_F
  rw [textOf_size, textOf_size]
  refine JoinP.go (cond_intro (fun h => ?_) (fun h => ?_))
  · simp at h
    refine ⟨_, _, _, bounds_ni (k := .i64) (b := (p.length : Int)) (by omega) (by omega), ?_⟩
    rw [text_extract, text_beq']
    unfold hasP at k
    rw [decide_eq_true (by omega), Bool.true_and] at k
    simpa using k
  · simp at h
    unfold hasP at k
    rw [decide_eq_false (by omega), Bool.false_and] at k
    exact k

theorem CutPrefix_c {w : World} {l p : List UInt8} {R : KV} (hl : l.length ≤ 1000000000) (hp : p.length ≤ 1000000000)
    (k : R (.tuple #[.string (textOf (bif hasP l p then l.drop p.length else l)), .bool (hasP l p)]) w) : Go.CW.Spec Tryd.prog 19 #[.string (textOf l), .string (textOf p)] w R := by
  apply strings_CutPrefix_wp
  apply stringslite_CutPrefix_wp
  refine HasPrefix_c hl hp ⟨_, rfl, cond_intro (fun h => ?_) (fun h => ?_)⟩
  · simp only [Bool.not_eq_true'] at h
    rw [h] at k
    exact ⟨_, _, rfl, k⟩
  · simp only [Bool.not_eq_false'] at h
    rw [h, cond_true] at k
    have hq : p.length ≤ l.length := by unfold hasP at h; simp at h; exact h.1
    rw [textOf_size, textOf_size]
    refine ⟨_, _, _, bounds_in (k := .i64) (a := (p.length : Int)) (by omega) (by omega), _, _, rfl, ?_⟩
    rw [text_extract, List.take_of_length_le (by simp)]
    simpa using k

/-! ### digits -/
def digN (c : UInt8) : Nat := bif decide (c.toNat < 58) then c.toNat - 48 else (c.toNat ||| 32) - 87
def decD (c : UInt8) : Bool := decide (48 ≤ c.toNat) && decide (c.toNat ≤ 57)
def hexD (c : UInt8) : Bool := (decide (97 ≤ c.toNat) && decide (c.toNat ≤ 102)) || (decide (65 ≤ c.toNat) && decide (c.toNat ≤ 70))
def okD (b : Int) (c : UInt8) : Bool := decD c || (b == 16 && hexD c)
def valD (b : Nat) (l : List UInt8) : Nat := l.foldl (fun v c => v * b + digN c) 0

theorem lower_all : ∀ n, n < 256 → bitsI .or .u8 ((n : Nat) : Int) (32 : Int) = ((n ||| 32 : Nat) : Int) := by decide +kernel
theorem hex_facts : ∀ n, n < 256 → ((97 ≤ n ∧ n ≤ 102) ∨ (65 ≤ n ∧ n ≤ 70)) → 97 ≤ (n ||| 32) ∧ (n ||| 32) ≤ 102 := by decide +kernel

theorem digN_lt {b : Nat} {c : UInt8} (hb : b = 10 ∨ b = 16) (h : okD (b : Int) c = true) : digN c < b := by
  have hc := c.toNat_lt
  unfold okD decD hexD at h
  unfold digN
  by_cases h1 : c.toNat < 58
  · rw [decide_eq_true h1, cond_true]
    simp at h
    omega
  · rw [decide_eq_false h1, cond_false]
    simp at h
    have hx : ((97 ≤ c.toNat ∧ c.toNat ≤ 102) ∨ (65 ≤ c.toNat ∧ c.toNat ≤ 70)) := by omega
    have := hex_facts _ hc hx
    omega

theorem valD_snoc (b : Nat) (l : List UInt8) (c : UInt8) : valD b (l ++ [c]) = valD b l * b + digN c := by simp [valD]
theorem valD_lt {b : Nat} (hb : b = 10 ∨ b = 16) (l : List UInt8) (h : l.all (okD (b : Int)) = true) : valD b l < b ^ l.length := by
  have key : ∀ (l : List UInt8) (v M : Nat), l.all (okD (b : Int)) = true → v < M → l.foldl (fun v c => v * b + digN c) v < M * b ^ l.length := by
    intro l
    induction l with
    | nil => intro v M _ h; simpa using h
    | cons c l ih =>
      intro v M ha h
      simp only [List.all_cons, Bool.and_eq_true] at ha
      have hd := digN_lt hb ha.1
      have h2 := ih (v * b + digN c) (M * b) ha.2 (by
        have : (v + 1) * b ≤ M * b := Nat.mul_le_mul_right _ h
        rw [Nat.add_mul, Nat.one_mul] at this
        omega)
      rw [List.foldl_cons, List.length_cons, Nat.pow_succ, Nat.mul_comm (b ^ l.length), ← Nat.mul_assoc]
      exact h2
  have := key l 0 1 h (by omega)
  simpa [valD] using this

end Go.Proofs.YtnibnbobmfejhaaDoor
