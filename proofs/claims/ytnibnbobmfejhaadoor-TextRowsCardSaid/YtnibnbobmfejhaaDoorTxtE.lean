/- A map of texts that were had; whether a pair may be; Encode and Decode of pairs that may be. -/
import Derived.Test.YtnibnbobmfejhaaDoorTxtQ
import Derived.Maps.OwnSet
import Derived.Maps.Views
set_option linter.unusedVariables false
set_option linter.unusedSimpArgs false
set_option maxRecDepth 100000
namespace Go.Proofs.YtnibnbobmfejhaaDoor
open Go Go.CW Go.RowKit

abbrev tM : TypeId := 54
abbrev tBo : TypeId := 4

/-- block b is a map that has these texts -/
def Had (w : World) (b n : Nat) (ks : List (List UInt8)) : Prop :=
  ∃ D : DataW Unit, w.ownsMap Tryd.prog tS (plainElem Tryd.prog tBo) b n D ∧ ∀ k, D.atKey (.string k) (.lit (.bool false)) = .lit (.bool (decide (k ∈ ks)))

theorem keyS : Maps.Keyed Tryd.prog tS := Maps.string_keyed (by kernel_rfl)
theorem undM : Tryd.prog.underlying tM = some (.map tS tBo) := by kernel_rfl
theorem undBo : Tryd.prog.underlying tBo = some .bool := by kernel_rfl

theorem undS : Tryd.prog.underlying tS = some .string := by kernel_rfl
theorem keyOfS (k : List UInt8) (hk : k.length ≤ 1000000) : keyOf Tryd.prog tS (.string (textOf k)) = some (.string k) := by
  unfold keyOf mapKey
  rw [undS]
  have : (textOf k).size ≤ maxLen := by rw [textOf_size]; simp [maxLen]; omega
  simp only [if_pos this]; simp [textOf]

theorem had_make (w : World) : ∃ w', Sem.run Tryd.prog (Instr.makeMap tM none) w = .ok (.map (some w.heap.size)) w' ∧ Had w' w.heap.size 0 [] ∧ Grow w w' :=
  ⟨_, rfl, ⟨.map [], World.ownsMap_made w _ _ _, fun k => by simp; rfl⟩, Grow.al (Grow.refl w) _⟩

theorem Had.grow {w w' : World} {b n : Nat} {ks : List (List UInt8)} (h : Had w b n ks) (g : Grow w w') : Had w' b n ks := by
  obtain ⟨D, h1, h2⟩ := h
  exact ⟨D, h1.kept (g.by_ none) (by simp), h2⟩
theorem Had.at {w w' : World} {b n : Nat} {ks : List (List UInt8)} (h : Had w b n ks) (e : w'.heap[b]? = w.heap[b]?) : Had w' b n ks := by
  obtain ⟨D, ⟨es, clock, hb, F, hs, hD⟩, h2⟩ := h
  exact ⟨D, ⟨es, clock, e.trans hb, F, hs, hD⟩, h2⟩
theorem Had.lt {w : World} {b n : Nat} {ks : List (List UInt8)} (h : Had w b n ks) : b < w.heap.size := let ⟨_, h1, _⟩ := h; h1.lt

theorem Had.kept {w w' : World} {b n : Nat} {ks : List (List UInt8)} {r : Option Nat} (h : Had w b n ks) (g : w.grownBy w' r) (hne : some b ≠ r) : Had w' b n ks := by
  obtain ⟨D, h1, h2⟩ := h
  exact ⟨D, h1.kept g hne, h2⟩

theorem had_look {w : World} {b n : Nat} {ks : List (List UInt8)} (h : Had w b n ks) (k : List UInt8) (hk : k.length ≤ 1000000) :
    Sem.run Tryd.prog (Instr.lookup tM (.map (some b)) (.string (textOf k)) false) w = .ok (.bool (decide (k ∈ ks))) w := by
  obtain ⟨D, h1, h2⟩ := h
  obtain ⟨v, ps, hrun, hv⟩ := h1.lookup keyS undM (z := .bool false) (by kernel_rfl) (zd := .lit (.bool false)) (zp := []) (by simp [plainElem, undBo]) (key := .string (textOf k)) (kl := .string k) (keyOfS k hk)
  rw [h2 k] at hv
  unfold plainElem at hv
  rw [undBo] at hv
  cases v <;> simp at hv
  rw [hrun, hv.1]

theorem had_put {w : World} {b n : Nat} {ks : List (List UInt8)} (h : Had w b n ks) (hn : n < 1000000) (k : List UInt8) (hk : k.length ≤ 1000000) :
    ∃ w', Sem.run Tryd.prog (Instr.mapUpdate tM (.map (some b)) (.string (textOf k)) (.bool true)) w = .ok PUnit.unit w' ∧ Had w' b (n + 1) (k :: ks) ∧ w.grownBy w' (some b) := by
  obtain ⟨D, h1, h2⟩ := h
  obtain ⟨w', hrun, r1, r2⟩ := h1.update keyS undM (by simp [maxLen]; omega) (key := .string (textOf k)) (kl := .string k) (val := .bool true) (d := .lit (.bool true)) (ps := []) (keyOfS k hk) (by simp [plainElem, undBo])
  refine ⟨w', hrun, ⟨_, r1, fun k' => ?_⟩, r2⟩
  by_cases e : k' = k
  · subst e
    rw [Maps.atKey_put_same h1.isMap (show WideAt.IsKeyLit (.string k') from trivial)]
    simp
  · rw [Maps.atKey_put_other (by simpa using e), h2 k']
    simp [e]

/-! ### pairs -/
abbrev Pr := List UInt8 × List UInt8
def EP : Enc Pr := ⟨2, fun p => [.string (textOf p.1), .string (textOf p.2)], fun _ => rfl, by omega, fun _ => rfl⟩
abbrev tP : TypeId := 31
abbrev tPs : TypeId := 29
theorem tyP : SlTyN Tryd.prog tPs tP EP.s 32 := SlTyN.of (by kernel_rfl)

def markL : List UInt8 := [46, 45, 43, 64, 95]
def signB (c : UInt8) : Bool := (decide ((c.toNat : Int) ≥ 65) && decide ((c.toNat : Int) ≤ 90)) || ((decide ((c.toNat : Int) ≥ 97) && decide ((c.toNat : Int) ≤ 122)) || ((decide ((c.toNat : Int) ≥ 48) && decide ((c.toNat : Int) ≤ 57)) || decide (Lib.indexByte markL c ≥ 0)))
def rightB (p : Pr) : Bool := !decide (p.1 = []) && (decide ((p.1.length : Int) ≤ 63) && (p.1.all signB && (decide ((p.2.length : Int) ≤ 255) && decide (Lib.indexByte p.2 0 < 0))))

theorem IndexByte_c {w : World} {l : List UInt8} {c : UInt8} {R : KV} (k : R (.int .i64 (Lib.indexByte l c)) w) : Go.CW.Spec Tryd.prog 38 #[.string (textOf l), .int .u8 (c.toNat : Int)] w R :=
  (Go.Proofs.Tryd.strings_IndexByte (textOf l) (c.toNat : Int) w).mono fun e w' ⟨he, hw⟩ => ⟨_, he, by
    subst hw
    have : ((c.toNat : Int)).toNat.toUInt8 = c := by simp
    rw [this]
    exact k⟩

theorem right_1_c {w : World} {c : UInt8} {R : KV} (k : R (.bool (signB c)) w) : Go.CW.Spec Tryd.prog 37 #[.int .u8 (c.toNat : Int)] w R := by
  apply text_right_1_wp
  unfold signB at k
  refine JoinP.go (inside_c ⟨_, rfl, cond_intro (fun h => ?_) (fun h => inside_c ⟨_, rfl, cond_intro (fun h2 => ?_) (fun h2 => inside_c ⟨_, rfl, cond_intro (fun h3 => ?_) (fun h3 => ?_)⟩)⟩)⟩)
  · rw [h] at k; exact k
  · rw [h, h2] at k; exact k
  · rw [h, h2, h3] at k; exact k
  · rw [h, h2, h3] at k
    rw [mk_text]
    exact IndexByte_c (l := markL) ⟨_, rfl, k⟩

theorem right_c {w : World} {p : Pr} {R : KV} (h1 : p.1.length ≤ 1000000) (k : ∀ w', Grow w w' → R (.bool (rightB p)) w') : Go.CW.Spec Tryd.prog 24 #[.agg #[.string (textOf p.1), .string (textOf p.2)]] w R := by
  apply text_right_wp
  unfold rightB at k
  refine nm fun w0 e0 => ?_
  obtain ⟨b0, g0, _⟩ := alE e0
  refine JoinP.go ⟨_, b0.cell 0, cond_intro (fun h => ?_) (fun h => ?_)⟩
  · rw [text_eqb] at h
    have h' : decide (p.1 = []) = false := by simpa using h
    rw [h'] at k
    refine ⟨_, b0.cell 0, cond_intro (fun h2 => ?_) (fun h2 => ?_)⟩
    · rw [textOf_size] at h2
      rw [h2] at k
      refine ⟨_, b0.cell 0, of_c (p := signB) (by omega) (fun c ww K gw kk => callU_of (by kernel_rfl) (right_1_c (kk _ (Grow.refl _)))) fun w8 g8 => ⟨_, rfl, cond_intro (fun h3 => ?_) (fun h3 => ?_)⟩⟩
      · rw [h3] at k
        refine ⟨_, (b0.grow g8).cell 1, cond_intro (fun h4 => ?_) (fun h4 => ?_)⟩
        · rw [textOf_size] at h4
          rw [h4] at k
          exact ⟨_, (b0.grow g8).cell 1, IndexByte_c (c := 0) ⟨_, rfl, k _ (g0.then g8)⟩⟩
        · rw [textOf_size] at h4
          rw [h4] at k
          exact k _ (g0.then g8)
      · rw [h3] at k
        exact k _ (g0.then g8)
    · rw [textOf_size] at h2
      rw [h2] at k
      exact k _ g0
  · rw [text_eqb] at h
    have h' : decide (p.1 = []) = true := by simpa using h
    rw [h'] at k
    exact k _ g0

end Go.Proofs.YtnibnbobmfejhaaDoor
