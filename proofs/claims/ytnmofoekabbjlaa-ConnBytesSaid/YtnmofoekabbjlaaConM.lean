/- An end of a stream in plain terms: what it sends, what it does with what comes; a text goes over. -/
import Derived.Test.YtnmofoekabbjlaaCrcO
import Derived.Test.YtnmofoekabbjlaaPG
set_option linter.unusedVariables false
set_option linter.unusedSimpArgs false
namespace Go.Proofs.Ytnmofoekabbjlaa
open Go Go.CW Go.RowKit Go.Crc

structure Cs where
  own : Int
  first : Bool
  peer : Int
  known : Bool
  met : Bool
  reset : Bool
  out : List UInt8
  base : Int
  sent : Int
  inn : List UInt8
  got : Int
  say : Bool

/-- a packet: its kind, the lives, what came, where its bytes stand -/
structure Pk where
  k : UInt8
  life : Int
  mine : Int
  ack : Int
  pos : Int
  bs : List UInt8

def Pk.head (p : Pk) : List UInt8 := [p.k] ++ putL p.life 4 ++ putL p.mine 4 ++ putL p.ack 4 ++ putL p.pos 4
def Pk.enc (p : Pk) : List UInt8 := sld (p.head ++ p.bs)
theorem Pk.head_length (p : Pk) : p.head.length = 17 := by simp [Pk.head, putL_length]

def u32 (n : Int) : Prop := 0 ≤ n ∧ n < 4294967296
structure PkFits (p : Pk) : Prop where
  k : p.k ≤ 2
  life : u32 p.life
  mine : u32 p.mine
  ack : u32 p.ack
  pos : u32 p.pos
  bs : p.bs.length ≤ 4096

def gap (a b : Int) : Int := IntKind.wrap .i64 (IntKind.wrap .i32 (IntKind.wrap .u32 (b - a)))

def Cs.kind (c : Cs) : UInt8 := if c.met then 2 else if c.known then 1 else 0
def Cs.pk (c : Cs) (f : Int) (bs : List UInt8) : Pk := ⟨c.kind, c.own, c.peer, c.got, IntKind.wrap .u32 (c.base + IntKind.wrap .u32 f), bs⟩

def newC (own : Int) (first : Bool) : Cs := ⟨own, first, 0, false, false, false, [], 0, 0, [], 0, first⟩
def tickC (c : Cs) : Cs := { c with sent := 0, say := c.say || (c.first && !c.known) || (c.known && !c.met) || decide (0 < c.out.length) }
def ackC (c : Cs) (n ack : Int) : Cs := if 0 < n ∧ n ≤ c.out.length then { c with out := c.out.drop n.toNat, base := ack, sent := max (c.sent - n) 0 } else c
def gotC (c : Cs) (old : Int) (bs : List UInt8) : Cs := if old < 0 ∨ (bs.length : Int) ≤ old then c else
  { c with inn := c.inn ++ (bs.drop old.toNat).take (min (bs.length - old.toNat) (4096 - c.inn.length)), got := IntKind.wrap .u32 (c.got + IntKind.wrap .u32 (min (bs.length - old.toNat) (4096 - c.inn.length) : Nat)) }
def takeC (c : Cs) (ack pos : Int) (bs : List UInt8) : Cs :=
  if bs = [] then ackC c (gap c.base ack) ack else gotC { ackC c (gap c.base ack) ack with say := true } (gap pos c.got) bs
def inC (c : Cs) (p : Pk) : Cs :=
  if c.reset then c else if c.known = true ∧ p.life ≠ c.peer then { c with reset := true } else
  if p.k = 0 ∨ p.mine ≠ c.own then { c with peer := p.life, known := true, say := true } else
  takeC { c with say := c.say || !c.met || p.k == 1, peer := p.life, known := true, met := true } p.ack p.pos p.bs

def chunk (c : Cs) : Int := min ((c.out.length : Int) - c.sent) 1024
def outs : Nat → Cs → List Pk × Cs
  | 0, c => ([], c)
  | f + 1, c => if chunk c = 0 then ([], c) else (c.pk c.sent ((c.out.drop c.sent.toNat).take (chunk c).toNat) :: (outs f { c with sent := c.sent + chunk c }).1, (outs f { c with sent := c.sent + chunk c }).2)
def chunks (c : Cs) : List Pk × Cs := if c.known then outs 5 c else ([], c)
def outC (c : Cs) : List Pk × Cs :=
  if c.reset then ([], c) else if (chunks c).2.say = true ∧ (chunks c).1 = [] then ([(chunks c).2.pk (chunks c).2.sent []], { (chunks c).2 with say := false }) else ((chunks c).1, { (chunks c).2 with say := false })
def sendN (c : Cs) (bs : List UInt8) : Nat := if c.reset then 0 else min bs.length (4096 - c.out.length)
def sendC (c : Cs) (bs : List UInt8) : Cs := if c.reset then c else { c with out := c.out ++ bs.take (sendN c bs) }

/-- a round of both -/
def roundC (s : Cs × Cs) : Cs × Cs :=
  ((outC (tickC s.2)).1.foldl inC (outC (tickC s.1)).2, (outC (tickC s.1)).1.foldl inC (outC (tickC s.2)).2)
/-- and all that came is taken at the second -/
def stepC (s : Cs × Cs × List UInt8) : Cs × Cs × List UInt8 :=
  ((roundC (s.1, s.2.1)).1, { (roundC (s.1, s.2.1)).2 with inn := [] }, s.2.2 ++ (roundC (s.1, s.2.1)).2.inn)
def runC : Nat → Cs × Cs × List UInt8 → Cs × Cs × List UInt8
  | 0, s => s
  | n + 1, s => stepC (runC n s)

/-! ### a text goes over -/
def st0 (t : List UInt8) : Cs × Cs × List UInt8 := (sendC (newC 1 true) t, newC 2 false, [])
def fin (t : List UInt8) : Cs × Cs × List UInt8 := (⟨1, true, 2, true, true, false, [], t.length, 0, [], 0, false⟩, ⟨2, false, 1, true, true, false, [], 0, 0, [], t.length, false⟩, t)

theorem gap0 (n : Nat) (h : n ≤ 1000) : gap 0 n = n := by
  unfold gap
  rw [Int.sub_zero, w32_id (by omega) (by omega), wi32, wi64_id (by omega) (by omega)]; omega
theorem gapS (n : Int) (h : 0 ≤ n ∧ n ≤ 1000) : gap n n = 0 := by
  unfold gap; rw [Int.sub_self]; decide

theorem sta (t : List UInt8) (h : t.length ≤ 1000) : runC 5 (st0 t) = fin t := by
  have g1 := gap0 t.length h
  have g2 := gapS t.length ⟨by omega, by omega⟩
  have g3 : gap 0 0 = 0 := by decide
  have m0 : min (0 : Int) 1024 = 0 := by decide
  have hw : IntKind.wrap .u32 (0 + IntKind.wrap .u32 (t.length : Int)) = t.length := by rw [w32_id (n := (t.length : Int)) (by omega) (by omega), w32_id (by omega) (by omega)]; omega
  have hw0 : IntKind.wrap .u32 0 = 0 := by decide
  have hwL : IntKind.wrap .u32 (t.length : Int) = t.length := w32_id (by omega) (by omega)
  have s0 : st0 t = (⟨1, true, 0, false, false, false, t, 0, 0, [], 0, true⟩, newC 2 false, []) := by
    have : min t.length (4096 - 0) = t.length := by omega
    simp [st0, sendC, sendN, newC, this]
  have hm : min (t.length : Int) 1024 = t.length := by omega
  by_cases h0 : t = []
  · subst h0; rfl
  have hp : 0 < t.length := List.length_pos_iff.2 h0
  have hpi : (0 : Int) < t.length := by omega
  have hne : ¬ ((t.length : Int) = 0) := by omega
  have hmin : min t.length 4096 = t.length := by omega
  have s1 : stepC (st0 t) = (⟨1, true, 0, false, false, false, t, 0, 0, [], 0, false⟩, ⟨2, false, 1, true, false, false, [], 0, 0, [], 0, true⟩, []) := by
    rw [s0]
    simp [stepC, roundC, tickC, outC, chunks, newC, Cs.pk, Cs.kind, inC]
  have s2 : stepC (stepC (st0 t)) = (⟨1, true, 2, true, true, false, t, 0, 0, [], 0, true⟩, ⟨2, false, 1, true, false, false, [], 0, 0, [], 0, true⟩, []) := by
    rw [s1]
    simp [stepC, roundC, tickC, outC, chunks, outs, chunk, m0, Cs.pk, Cs.kind, inC, takeC, ackC, gotC, g3]
  have s3 : stepC (stepC (stepC (st0 t))) = (⟨1, true, 2, true, true, false, t, 0, t.length, [], 0, true⟩, ⟨2, false, 1, true, true, false, [], 0, 0, [], t.length, true⟩, t) := by
    rw [s2]
    simp [stepC, roundC, tickC, outC, chunks, outs, chunk, m0, Cs.pk, Cs.kind, inC, takeC, ackC, gotC, g3, h0, hm, hne, hwL, hw0, hmin]
  have s4 : stepC (stepC (stepC (stepC (st0 t)))) = (⟨1, true, 2, true, true, false, [], t.length, 0, [], 0, false⟩, ⟨2, false, 1, true, true, false, [], 0, 0, [], t.length, true⟩, t) := by
    rw [s3]
    simp [stepC, roundC, tickC, outC, chunks, outs, chunk, m0, Cs.pk, Cs.kind, inC, takeC, ackC, gotC, g3, h0, hm, hne, hwL, hw0, hmin, g1, hp, hpi]
  show stepC (stepC (stepC (stepC (stepC (st0 t))))) = _
  rw [s4]
  simp [stepC, roundC, tickC, outC, chunks, outs, chunk, m0, Cs.pk, Cs.kind, inC, takeC, ackC, gotC, g2, fin, hw0]

theorem stay (t : List UInt8) : stepC (fin t) = fin t := by
  have m0 : min (0 : Int) 1024 = 0 := by decide
  simp [stepC, roundC, tickC, outC, chunks, outs, chunk, m0, fin]

theorem run_end (t : List UInt8) (h : t.length ≤ 1000) : ∀ n, runC (5 + n) (st0 t) = fin t
  | 0 => sta t h
  | n + 1 => by
    show stepC (runC (5 + n) (st0 t)) = _
    rw [run_end t h n]; exact stay t

end Go.Proofs.Ytnmofoekabbjlaa
