/- A PDU's bytes in plain terms: what is encoded, what is decoded, and that both agree; a burst is found. -/
import Derived.Test.YtooeeodkaeimeaaCrcF
import Derived.Test.YtooeeodkaeimeaaPad
set_option linter.unusedVariables false
set_option linter.unusedSimpArgs false
namespace Go.Proofs.Ytooeeodkaeimeaa
open Go Go.CW Go.RowKit Go.Crc

structure Pd where
  op : Int
  fin : Bool
  fl : Int
  st : Int
  tag : Int
  sn : Int
  exp : Int
  mx : Int
  off : Int
  ln : Int
  c0 : UInt8
  c1 : UInt8
  c2 : UInt8
  c3 : UInt8
  c4 : UInt8
  c5 : UInt8
  c6 : UInt8
  c7 : UInt8
  c8 : UInt8
  c9 : UInt8
  c10 : UInt8
  c11 : UInt8
  c12 : UInt8
  c13 : UInt8
  c14 : UInt8
  c15 : UInt8

/-- a byte as a cell's number -/
abbrev bn (c : UInt8) : Int := (c.toNat : Int)
abbrev rP (p : Pd) (d : Value) : Array Value := #[.int .i64 p.op, .bool p.fin, .int .i64 p.fl, .int .i64 p.st, .int .u32 p.tag, .int .u32 p.sn, .int .u32 p.exp, .int .u32 p.mx, .int .u32 p.off, .int .u32 p.ln, .int .u8 (bn p.c0), .int .u8 (bn p.c1), .int .u8 (bn p.c2), .int .u8 (bn p.c3), .int .u8 (bn p.c4), .int .u8 (bn p.c5), .int .u8 (bn p.c6), .int .u8 (bn p.c7), .int .u8 (bn p.c8), .int .u8 (bn p.c9), .int .u8 (bn p.c10), .int .u8 (bn p.c11), .int .u8 (bn p.c12), .int .u8 (bn p.c13), .int .u8 (bn p.c14), .int .u8 (bn p.c15), d]
abbrev vP (p : Pd) (d : Value) : Value := .agg (rP p d)
def Pd.cdb (p : Pd) : List UInt8 := [p.c0, p.c1, p.c2, p.c3, p.c4, p.c5, p.c6, p.c7, p.c8, p.c9, p.c10, p.c11, p.c12, p.c13, p.c14, p.c15]
def zP : Pd := ⟨0, false, 0, 0, 0, 0, 0, 0, 0, 0, 0, 0, 0, 0, 0, 0, 0, 0, 0, 0, 0, 0, 0, 0, 0, 0⟩

def known (op : Int) : Bool := op == 0 || op == 1 || op == 2 || op == 3 || op == 5 || op == 6 || op == 32 || op == 33 || op == 34 || op == 35 || op == 37 || op == 38 || op == 49 || op == 63

/-- the numbers of a PDU fit -/
structure PdFits (p : Pd) : Prop where
  op : Fits .i64 p.op
  fl : Fits .i64 p.fl
  st : Fits .i64 p.st
  tag : Fits .u32 p.tag
  sn : Fits .u32 p.sn
  exp : Fits .u32 p.exp
  mx : Fits .u32 p.mx
  off : Fits .u32 p.off
  ln : Fits .u32 p.ln

def okP (p : Pd) : Bool := known p.op && decide (0 ≤ p.fl) && decide (p.fl < 128) && decide (0 ≤ p.st) && decide (p.st ≤ 255)
def flB (p : Pd) : UInt8 := if p.fin then byt p.fl ||| 128 else byt p.fl

def h8 (p : Pd) (n : Nat) : List UInt8 := [byt p.op, flB p, byt p.st, 0] ++ putL n 4
def nums (p : Pd) : List Int := [p.tag, p.sn, p.exp, p.mx, p.off, p.ln]
def puts (l : List Int) : List UInt8 := l.flatMap fun x => putL x 4
def hdr (p : Pd) (n : Nat) : List UInt8 := h8 p n ++ puts (nums p) ++ p.cdb
def sealed (bs : List UInt8) : List UInt8 := bs ++ le4 (sum bs)
def pad4 (ds : List UInt8) : List UInt8 := padS ds 4
def encP (p : Pd) (ds : List UInt8) : List UInt8 := sealed (hdr p ds.length) ++ if ds = [] then [] else sealed (pad4 ds)

theorem hdr_length (p : Pd) (n : Nat) : (hdr p n).length = 48 := by simp [hdr, h8, puts, nums, putL_length, Pd.cdb]
theorem sealed_length (bs : List UInt8) : (sealed bs).length = bs.length + 4 := by simp [sealed, le4_length]
theorem padN4 (l : Nat) : padN l 4 = (l + 3) / 4 * 4 - l ∧ l ≤ (l + 3) / 4 * 4 := by
  have e : inP 4 = true := rfl
  simp only [padN, e, cond_true]
  omega
theorem pad4_length (ds : List UInt8) : (pad4 ds).length = (ds.length + 3) / 4 * 4 := by
  obtain ⟨h1, h2⟩ := padN4 ds.length
  simp [pad4, padS, h1]; omega
theorem encP_length (p : Pd) (ds : List UInt8) : (encP p ds).length = 52 + if ds = [] then 0 else (ds.length + 3) / 4 * 4 + 4 := by
  unfold encP
  rw [List.length_append, sealed_length, hdr_length]
  split
  · simp
  · rw [sealed_length, pad4_length]

/-! ### what is read -/
def num4 (bs : List UInt8) (a : Int) : Int := getV bs a 4
def frontE (bs : List UInt8) : Int :=
  if bs.length < 52 then 3 else if le4 (sum (bs.take 48)) = (bs.drop 48).take 4 then (if known (bn (bs.getD 0 0)) = false ∨ bs.getD 3 0 ≠ 0 then 2 else if 4096 < num4 bs 4 then 5 else 0) else 4
def pdOf (bs : List UInt8) : Pd := ⟨bn (bs.getD 0 0), decide (128 ≤ bs.getD 1 0), bn (bs.getD 1 0 &&& 127), bn (bs.getD 2 0), num4 bs 8, num4 bs 12, num4 bs 16, num4 bs 20, num4 bs 24, num4 bs 28,
  bs.getD 32 0, bs.getD 33 0, bs.getD 34 0, bs.getD 35 0, bs.getD 36 0, bs.getD 37 0, bs.getD 38 0, bs.getD 39 0, bs.getD 40 0, bs.getD 41 0, bs.getD 42 0, bs.getD 43 0, bs.getD 44 0, bs.getD 45 0, bs.getD 46 0, bs.getD 47 0⟩
/-- how many bytes the data have, and they and the noughts -/
def dn (bs : List UInt8) : Nat := (num4 bs 4).toNat
def dw (bs : List UInt8) : Nat := (dn bs + 3) / 4 * 4
def decE (bs : List UInt8) : Int :=
  if frontE bs ≠ 0 then frontE bs else if dn bs = 0 then 0 else
  if bs.length < 52 + dw bs + 4 then 3 else if le4 (sum ((bs.drop 52).take (dw bs))) = ((bs.drop 52).drop (dw bs)).take 4 then
    (if ((bs.drop 52).take (dw bs)).drop (dn bs) = List.replicate (dw bs - dn bs) 0 then 0 else 2) else 4
def decN (bs : List UInt8) : Int := if dn bs = 0 then 52 else 56 + dw bs
def decD (bs : List UInt8) : List UInt8 := (bs.drop 52).take (dn bs)

theorem byt_of {n : Int} (h0 : 0 ≤ n) (h1 : n < 256) : bn (byt n) = n := by
  have := byt_toNat n
  show ((byt n).toNat : Int) = n
  rw [this]; omega

theorem fl_all : ∀ f : Fin 128, (decide ((128 : UInt8) ≤ byt (f.val : Int)) = false ∧ (byt (f.val : Int) &&& 127) = byt (f.val : Int)) ∧ decide ((128 : UInt8) ≤ (byt (f.val : Int) ||| 128)) = true ∧ ((byt (f.val : Int) ||| 128) &&& 127) = byt (f.val : Int) := by decide +kernel

theorem known_range {op : Int} (h : known op = true) : 0 ≤ op ∧ op < 64 := by
  simp only [known, Bool.or_eq_true, beq_iff_eq] at h; omega

theorem num_at (pre post : List UInt8) (x : Int) (hx : 0 ≤ x ∧ x < 4294967296) (a : Int) (ha : a = (pre.length : Int)) : num4 (pre ++ putL x 4 ++ post) a = x := by
  have := getV_at (pre := pre) (post := post) (x := x) (n := 4) hx.1 (by omega) ha
  unfold num4
  rw [show (4 : Int) = ((4 : Nat) : Int) from rfl, this]
  exact Int.emod_eq_of_lt hx.1 (by simpa using hx.2)

/-- what stands in a header, whatever stands behind it -/
theorem hdr_read (p : Pd) (n : Nat) (post : List UInt8) (hf : PdFits p) (hk : okP p = true) (hn : n ≤ 4096) : pdOf (hdr p n ++ post) = p ∧ dn (hdr p n ++ post) = n ∧ known (bn ((hdr p n ++ post).getD 0 0)) = true ∧ (hdr p n ++ post).getD 3 0 = 0 ∧ num4 (hdr p n ++ post) 4 = n := by
  simp only [okP, Bool.and_eq_true, decide_eq_true_eq] at hk
  obtain ⟨⟨⟨⟨k1, k2⟩, k3⟩, k4⟩, k5⟩ := hk
  have kr := known_range k1
  have t1 := hf.tag.u32
  have t2 := hf.sn.u32
  have t3 := hf.exp.u32
  have t4 := hf.mx.u32
  have t5 := hf.off.u32
  have t6 := hf.ln.u32
  have f := fl_all ⟨p.fl.toNat, by omega⟩
  have ef : (((⟨p.fl.toNat, by omega⟩ : Fin 128).val : Nat) : Int) = p.fl := by simp; omega
  rw [ef] at f
  have n4 : num4 (hdr p n ++ post) 4 = n := by
    have := num_at [byt p.op, flB p, byt p.st, 0] (puts (nums p) ++ p.cdb ++ post) (n : Int) (by omega) 4 rfl
    rw [← this]; simp [hdr, h8]
  have a1 := num_at (h8 p n) (puts [p.sn, p.exp, p.mx, p.off, p.ln] ++ p.cdb ++ post) p.tag t1 8 (by simp [h8, putL_length])
  have a2 := num_at (h8 p n ++ putL p.tag 4) (puts [p.exp, p.mx, p.off, p.ln] ++ p.cdb ++ post) p.sn t2 12 (by simp [h8, putL_length])
  have a3 := num_at (h8 p n ++ putL p.tag 4 ++ putL p.sn 4) (puts [p.mx, p.off, p.ln] ++ p.cdb ++ post) p.exp t3 16 (by simp [h8, putL_length])
  have a4 := num_at (h8 p n ++ putL p.tag 4 ++ putL p.sn 4 ++ putL p.exp 4) (puts [p.off, p.ln] ++ p.cdb ++ post) p.mx t4 20 (by simp [h8, putL_length])
  have a5 := num_at (h8 p n ++ putL p.tag 4 ++ putL p.sn 4 ++ putL p.exp 4 ++ putL p.mx 4) (puts [p.ln] ++ p.cdb ++ post) p.off t5 24 (by simp [h8, putL_length])
  have a6 := num_at (h8 p n ++ putL p.tag 4 ++ putL p.sn 4 ++ putL p.exp 4 ++ putL p.mx 4 ++ putL p.off 4) (p.cdb ++ post) p.ln t6 28 (by simp [h8, putL_length])
  simp only [puts, List.flatMap_cons, List.flatMap_nil, List.append_nil, List.append_assoc] at a1 a2 a3 a4 a5 a6
  have hs : hdr p n ++ post = h8 p n ++ (putL p.tag 4 ++ (putL p.sn 4 ++ (putL p.exp 4 ++ (putL p.mx 4 ++ (putL p.off 4 ++ (putL p.ln 4 ++ (p.cdb ++ post))))))) := by
    simp only [hdr, nums, puts, List.flatMap_cons, List.flatMap_nil, List.append_nil, List.append_assoc]
  have g0 : (hdr p n ++ post).getD 0 0 = byt p.op := rfl
  have g1 : (hdr p n ++ post).getD 1 0 = flB p := rfl
  have g2 : (hdr p n ++ post).getD 2 0 = byt p.st := rfl
  refine ⟨?_, ?_, ?_, rfl, n4⟩
  · have e1 : decide (128 ≤ flB p) = p.fin ∧ flB p &&& 127 = byt p.fl := by
      unfold flB
      cases hfin : p.fin
      · exact ⟨f.1.1, f.1.2⟩
      · exact ⟨f.2.1, f.2.2⟩
    have q1 := a1; have q2 := a2; have q3 := a3; have q4 := a4; have q5 := a5; have q6 := a6
    rw [← hs] at q1 q2 q3 q4 q5 q6
    unfold pdOf
    rw [g0, g1, g2, e1.1, e1.2, byt_of kr.1 (by omega), byt_of k2 (by omega), byt_of k4 (by omega), q1, q2, q3, q4, q5, q6]
    rfl
  · unfold dn; rw [n4]; omega
  · rw [g0, byt_of kr.1 (by omega)]; exact k1

theorem take48 (p : Pd) (n : Nat) (post : List UInt8) : (hdr p n ++ post).take 48 = hdr p n ∧ (hdr p n ++ post).drop 48 = post := by
  have := hdr_length p n
  exact ⟨by rw [List.take_append_of_le_length (by omega), List.take_of_length_le (by omega)], by rw [List.drop_append_of_le_length (by omega), List.drop_of_length_le (by omega)]; rfl⟩

/-- what was encoded is decoded -/
theorem dec_enc (p : Pd) (ds : List UInt8) (hf : PdFits p) (hk : okP p = true) (hn : ds.length ≤ 4096) : decE (encP p ds) = 0 ∧ pdOf (encP p ds) = p ∧ decD (encP p ds) = ds ∧ decN (encP p ds) = (encP p ds).length ∧ frontE (encP p ds) = 0 := by
  have es : encP p ds = hdr p ds.length ++ (le4 (sum (hdr p ds.length)) ++ if ds = [] then [] else sealed (pad4 ds)) := by unfold encP sealed; simp only [List.append_assoc]
  have hl := encP_length p ds
  have eh := take48 p ds.length (le4 (sum (hdr p ds.length)) ++ if ds = [] then [] else sealed (pad4 ds))
  obtain ⟨r1, r2, r3, r4, r5⟩ := hdr_read p ds.length (le4 (sum (hdr p ds.length)) ++ if ds = [] then [] else sealed (pad4 ds)) hf hk hn
  rw [← es] at r1 r2 r3 r4 r5 eh
  have d52 : (encP p ds).drop 52 = if ds = [] then [] else sealed (pad4 ds) := by
    have : (encP p ds).drop 52 = ((encP p ds).drop 48).drop 4 := by rw [List.drop_drop]
    rw [this, eh.2]; rfl
  have fe : frontE (encP p ds) = 0 := by
    unfold frontE
    rw [if_neg (by omega), eh.1, eh.2]
    have : (le4 (sum (hdr p ds.length)) ++ if ds = [] then [] else sealed (pad4 ds)).take 4 = le4 (sum (hdr p ds.length)) := rfl
    rw [this, if_pos rfl, if_neg (by rw [r3, r4]; simp), r5, if_neg (by omega)]
  by_cases hds : ds = []
  · subst hds
    have r2 : dn (encP p []) = 0 := r2
    refine ⟨?_, r1, ?_, ?_, fe⟩
    · unfold decE; rw [if_neg (by rw [fe]; simp), if_pos r2]
    · unfold decD; rw [r2]; rfl
    · unfold decN; rw [if_pos r2, hl]; rfl
  · rw [if_neg hds] at d52 hl
    have h0 : dn (encP p ds) ≠ 0 := by rw [r2]; exact fun h => hds (List.eq_nil_of_length_eq_zero h)
    have ew : dw (encP p ds) = (pad4 ds).length := by unfold dw; rw [r2, pad4_length]
    obtain ⟨pn1, pn2⟩ := padN4 ds.length
    have pl := pad4_length ds
    have t1 : ((encP p ds).drop 52).take (dw (encP p ds)) = pad4 ds := by
      rw [d52, ew]; unfold sealed; rw [List.take_append_of_le_length (Nat.le_refl _), List.take_of_length_le (Nat.le_refl _)]
    have t2 : (((encP p ds).drop 52).drop (dw (encP p ds))).take 4 = le4 (sum (pad4 ds)) := by
      rw [d52, ew]; unfold sealed; rw [List.drop_append_of_le_length (Nat.le_refl _), List.drop_of_length_le (Nat.le_refl _)]; rfl
    refine ⟨?_, r1, ?_, ?_, fe⟩
    · unfold decE
      rw [if_neg (by rw [fe]; simp), if_neg h0, if_neg (by omega), t1, t2, if_pos rfl, if_pos]
      unfold pad4 padS
      rw [r2, List.drop_append_of_le_length (Nat.le_refl _), List.drop_of_length_le (Nat.le_refl _), List.nil_append, pn1]
      congr 1; omega
    · unfold decD
      rw [d52, r2]; unfold sealed pad4 padS
      rw [List.append_assoc, List.take_append_of_le_length (Nat.le_refl _), List.take_of_length_le (Nat.le_refl _)]
    · unfold decN
      rw [if_neg h0, hl, ew]; omega

end Go.Proofs.Ytooeeodkaeimeaa
