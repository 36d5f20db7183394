/- A command's bytes in plain terms: the kinds' table, what is encoded, when it is decoded, and that both agree. -/
import Derived.Test.YtdkknncpmkajnaaRec
import Derived.Test.YtdkknncpmkajnaaPG
set_option linter.unusedVariables false
set_option linter.unusedSimpArgs false
namespace Go.Proofs.Ytdkknncpmkajnaa
open Go Go.CW Go.RowKit

structure Cod where
  k : Int
  op : UInt8
  sub : UInt8
  at_ : Bool
  n : Bool
  sh : Bool
  fo : Bool
  ty : Bool
  pa : Bool
deriving DecidableEq

def EC : Enc Cod := ⟨9, fun c => [.int .i64 c.k, .int .u8 (c.op.toNat : Int), .int .u8 (c.sub.toNat : Int), .bool c.at_, .bool c.n, .bool c.sh, .bool c.fo, .bool c.ty, .bool c.pa], fun _ => rfl, by omega, fun _ => rfl⟩

def zC : Cod := ⟨0, 0, 0, false, false, false, false, false, false⟩

def codesL : List Cod := [
  ⟨1, 0, 0, false, false, false, false, false, false⟩,
  ⟨9, 3, 0, false, false, false, false, false, false⟩,
  ⟨8, 18, 0, false, false, false, false, false, false⟩,
  ⟨7, 37, 0, false, false, false, false, false, false⟩,
  ⟨2, 136, 0, true, true, false, false, false, false⟩,
  ⟨3, 138, 0, true, true, false, true, false, false⟩,
  ⟨4, 145, 0, true, true, false, false, false, false⟩,
  ⟨5, 66, 0, true, true, false, false, false, false⟩,
  ⟨6, 137, 0, true, false, true, true, false, false⟩,
  ⟨10, 95, 0, false, false, false, false, false, true⟩,
  ⟨12, 95, 1, false, false, false, false, true, true⟩,
  ⟨13, 95, 2, false, false, false, false, true, true⟩,
  ⟨14, 95, 3, false, false, false, false, false, true⟩,
  ⟨15, 95, 4, false, false, false, false, true, true⟩,
  ⟨11, 95, 6, false, false, false, false, false, true⟩,
  ⟨16, 94, 0, false, false, false, false, false, true⟩,
  ⟨17, 94, 1, false, false, false, false, false, true⟩]

def isK (k : Int) (c : Cod) : Bool := c.k == k
def isD (o s : UInt8) (c : Cod) : Bool := decide (c.op = o) && (!c.pa || decide (c.sub = s))

/-- the bytes -/
def e2 (x : Cod) (fo : Bool) : List UInt8 := x.op :: (if x.fo && fo then 8 else x.sub) :: List.replicate 14 0
def e3 (x : Cod) (fo : Bool) (t : Int) : List UInt8 := if x.ty then (e2 x fo).set 2 (byt t) else e2 x fo
def e4 (x : Cod) (fo : Bool) (t a : Int) : List UInt8 := if x.at_ then (e3 x fo t).take 2 ++ putL a 8 ++ (e3 x fo t).drop 10 else e3 x fo t
def encB (x : Cod) (fo : Bool) (t a n : Int) : List UInt8 := if x.n then (e4 x fo t a).take 10 ++ putL n 4 ++ (e4 x fo t a).drop 14 else if x.sh then (e4 x fo t a).set 13 (byt n) else e4 x fo t a

theorem e3_length (x : Cod) (fo : Bool) (t : Int) : (e3 x fo t).length = 16 := by unfold e3; split <;> simp [e2]
theorem e4_length (x : Cod) (fo : Bool) (t a : Int) : (e4 x fo t a).length = 16 := by
  unfold e4; split
  · simp [putL_length, e3_length]
  · exact e3_length ..
theorem encB_length (x : Cod) (fo : Bool) (t a n : Int) : (encB x fo t a n).length = 16 := by
  unfold encB; split
  · simp [putL_length, e4_length]
  · split
    · simp [e4_length]
    · exact e4_length ..

def named (x : Cod) (i : Nat) : Bool := i == 0 || (i == 1 && x.pa) || (i == 2 && x.ty) || (decide (2 ≤ i) && decide (i < 10) && x.at_) || (decide (10 ≤ i) && decide (i < 14) && x.n) || (i == 13 && x.sh)

/-- nothing where nothing is named -/
def okD (bs : List UInt8) (x : Cod) : Prop := ∀ i, i < 16 → named x i = true ∨ (i = 1 ∧ x.fo = true ∧ bs.getD 1 0 = 8) ∨ bs.getD i 0 = 0

theorem sub0 : ∀ x ∈ codesL, x.pa = true ∨ x.sub = 0 := by decide
theorem findK : ∀ i : Fin 17, (codesL.find? (isK ((i.val : Int) + 1))).isSome = true := by decide
theorem findD : ∀ x ∈ codesL, ∀ fo : Bool, codesL.find? (isD x.op (if x.fo && fo then 8 else x.sub)) = some x := by decide
theorem notBoth : ∀ x ∈ codesL, x.at_ = false ∨ x.ty = false := by decide

theorem enc_ok {x : Cod} (hx : x ∈ codesL) (fo : Bool) (t a n : Int) : okD (encB x fo t a n) x := by
  intro i hi
  have hs := sub0 x hx
  obtain ⟨k, op, sub, at_, nn, sh, fo', ty, pa⟩ := x
  simp only at hs
  have hc : i = 0 ∨ i = 1 ∨ i = 2 ∨ i = 3 ∨ i = 4 ∨ i = 5 ∨ i = 6 ∨ i = 7 ∨ i = 8 ∨ i = 9 ∨ i = 10 ∨ i = 11 ∨ i = 12 ∨ i = 13 ∨ i = 14 ∨ i = 15 := by omega
  rcases hc with rfl | rfl | rfl | rfl | rfl | rfl | rfl | rfl | rfl | rfl | rfl | rfl | rfl | rfl | rfl | rfl
  · left; rfl
  · rcases hs with rfl | rfl
    · left; rfl
    · right
      cases fo' <;> cases fo <;> cases at_ <;> cases nn <;> cases sh <;> cases ty <;> first | (left; exact ⟨rfl, rfl, rfl⟩) | (right; rfl)
  all_goals (cases at_ <;> cases nn <;> cases sh <;> cases ty <;> first | (left; rfl) | (right; right; rfl))

theorem enc_0 (x : Cod) (fo : Bool) (t a n : Int) : (encB x fo t a n).getD 0 0 = x.op ∧ (encB x fo t a n).getD 1 0 = (if x.fo && fo then 8 else x.sub) := by
  obtain ⟨k, op, sub, at_, nn, sh, fo', ty, pa⟩ := x
  cases at_ <;> cases nn <;> cases sh <;> cases ty <;> exact ⟨rfl, rfl⟩

theorem enc_find {x : Cod} (hx : x ∈ codesL) (fo : Bool) (t a n : Int) : codesL.find? (isD ((encB x fo t a n).getD 0 0) ((encB x fo t a n).getD 1 0)) = some x := by
  obtain ⟨h0, h1⟩ := enc_0 x fo t a n
  rw [h0, h1]; exact findD x hx fo

theorem enc_at {x : Cod} (h : x.at_ = true) (fo : Bool) (t a n : Int) (ha : 0 ≤ a ∧ a < 18446744073709551616) : getV (encB x fo t a n) 2 8 = a := by
  have e : encB x fo t a n = [x.op, (if x.fo && fo then 8 else x.sub)] ++ putL a 8 ++ (encB x fo t a n).drop 10 := by
    obtain ⟨k, op, sub, at_, nn, sh, fo', ty, pa⟩ := x
    simp only at h; subst h
    cases nn <;> cases sh <;> cases ty <;> rfl
  rw [e]
  have := getV_at (pre := [x.op, (if x.fo && fo then 8 else x.sub)]) (post := (encB x fo t a n).drop 10) (x := a) (n := 8) ha.1 (by omega) (a := 2) rfl
  rw [show (8 : Int) = ((8 : Nat) : Int) from rfl, this]
  exact Int.emod_eq_of_lt ha.1 (by simpa using ha.2)

theorem enc_n {x : Cod} (h : x.n = true) (fo : Bool) (t a n : Int) (ha : 0 ≤ n ∧ n < 4294967296) : getV (encB x fo t a n) 10 4 = n := by
  have e : encB x fo t a n = (e4 x fo t a).take 10 ++ putL n 4 ++ (e4 x fo t a).drop 14 := by unfold encB; rw [if_pos h]
  rw [e]
  have := getV_at (pre := (e4 x fo t a).take 10) (post := (e4 x fo t a).drop 14) (x := n) (n := 4) ha.1 (by omega) (a := 10) (by simp [e4_length])
  rw [show (4 : Int) = ((4 : Nat) : Int) from rfl, this]
  exact Int.emod_eq_of_lt ha.1 (by simpa using ha.2)

theorem getV_le (bs : List UInt8) : 0 ≤ getV bs 2 8 := (getV_range bs 2 8).1

end Go.Proofs.Ytdkknncpmkajnaa
