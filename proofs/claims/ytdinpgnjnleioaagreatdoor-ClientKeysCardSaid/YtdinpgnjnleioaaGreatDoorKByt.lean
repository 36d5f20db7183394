/- Bytes in this seat's program: appends, clones, clips, comparisons, texts. -/
import Derived.Test.YtdinpgnjnleioaaGreatDoorKGA
set_option linter.unusedSimpArgs false
set_option linter.unusedVariables false
namespace Go.Proofs.YtdinpgnjnleioaaGreatDoor
open Go Go.CW Go.RowKit
abbrev tB : TypeId := 33
abbrev tb : TypeId := 5
theorem tyB : SlTy Tryz.prog tB tb 1 := SlTy.of (by kernel_rfl)
def Law (w : World) : KV := fun v w' => v = .bool true ∧ Grow w w'
theorem Law.calls {f : FuncId} {args : Array Value} {w : World} (h : CW.Spec Tryz.prog f args w (Law w)) : Calls Tryz.prog f args w fun e w' => e = .returned (.bool true) ∧ Below w.heap.size w w' :=
 Calls.mono h fun e w' ⟨v, he, hv, hg⟩ => ⟨by rw [he, hv], hg⟩
theorem b8_xor (a b : UInt8) : bitsI .xor .u8 (a.toNat : Int) (b.toNat : Int) = ((a ^^^ b).toNat : Int) := by
 have h : ∀ c : UInt8, BitVec.ofInt 8 (c.toNat : Int) = c.toBitVec := by
  intro c
  rw [BitVec.ofInt_natCast]
  apply BitVec.eq_of_toNat_eq
  simp
 show IntKind.wrap .u8 (((BitVec.ofInt 8 (a.toNat : Int) ^^^ BitVec.ofInt 8 (b.toNat : Int)).toNat : Nat) : Int) = _
 rw [h, h]
 have e : (a.toBitVec ^^^ b.toBitVec).toNat = (a ^^^ b).toNat := rfl
 rw [e]
 have := (a ^^^ b).toNat_lt
 exact w8_id (by omega) (by omega)
theorem app_byte {w : World} {B : Nat} {v : Value} {bs : List UInt8} (ho : OwnB w B tb v bs) (hB : B ≤ w.heap.size) (n : Int) (x : UInt8) (hx : Value.int .u8 n = b8 x) (hb : bs.length ≤ 1099511627776) :
 ∃ v' w', Sem.run Tryz.prog (Builtin.append_ #[tB, tB] tB #[v, .slice (some ⟨w.heap.size, 0, none⟩) 1 1]) (w.alloc (.cells #[.int .u8 n] tb)) = .ok v' w' ∧ OwnB w' B tb v' (bs ++ [x]) ∧ OwnNext w v w' v' := by
 have ho' : OwnB (w.alloc (.cells #[.int .u8 n] tb)) B tb v bs := Own.grow ho (Grow.al (Grow.refl w) _)
 have hl := Own.lit w (Nat.le_refl _) tb #[b8 x] 1 rfl (by simp [maxLen])
 rw [hx]
 rw [hx] at ho'
 obtain ⟨v', w', h1, h2, h3⟩ := app_own tyB ho' hl.rd (one_b8 (bs := [x])) (by simp; omega) (by simp; omega)
 exact ⟨v', w', h1, by simpa [OwnB] using h2, OwnNext.behind (Grow.al (Grow.refl w) _) h3⟩
theorem app_bytes {w : World} {B : Nat} {v src : Value} {bs cs : List UInt8} (ho : OwnB w B tb v bs) (hr : RdB w src cs) (hB : B ≤ w.heap.size) (hb : bs.length + cs.length ≤ 1099511627776) :
 ∃ v' w', Sem.run Tryz.prog (Builtin.append_ #[tB, tB] tB #[v, src]) w = .ok v' w' ∧ OwnB w' B tb v' (bs ++ cs) ∧ OwnNext w v w' v' := by
 obtain ⟨v', w', h1, h2, h3⟩ := app_own tyB ho hr one_b8 (by simp; omega) hB
 exact ⟨v', w', h1, by simpa [OwnB] using h2, h3⟩
theorem app_copy {w : World} {src : Value} {cs : List UInt8} (hr : RdB w src cs) (hb : cs.length ≤ 1099511627776) :
 ∃ v' w', Sem.run Tryz.prog (Builtin.append_ #[tB, tB] tB #[.slice (some ⟨w.heap.size, 0, none⟩) 0 0, src]) (w.alloc (.cells #[] tb)) = .ok v' w' ∧ OwnB w' w.heap.size tb v' cs ∧ Grow w w' := by
 have ho : OwnB (w.alloc (.cells #[] tb)) w.heap.size tb (.slice (some ⟨w.heap.size, 0, none⟩) 0 0) [] := Own.lit w (Nat.le_refl _) tb #[] 0 rfl (by simp [maxLen])
 obtain ⟨v', w', h1, h2, h3⟩ := app_bytes ho (hr.grow (Grow.al (Grow.refl w) _)) (by simp) (by simp; omega)
 exact ⟨v', w', h1, h2, (Grow.al (Grow.refl w) _).trans (h3.below (by simp) ho.blk)⟩
theorem slices_Clone_c {w : World} {v : Value} {bs : List UInt8} {R : KV} (hr : RdB w v bs) (hb : bs.length ≤ 1099511627776)
 (k : ∀ v' w', Grow w w' → OwnB w' w.heap.size tb v' bs → R v' w') : CW.Spec Tryz.prog 86 #[v] w R := by
 apply q101W
 obtain ⟨b, hb1, hb2⟩ := Rd.isNil hr
 refine ⟨b, hb1, cond_intro (fun h => ?_) (fun h => ?_)⟩
 · have := (hb2 h).1
   simp at this; subst this
   exact k _ _ (Grow.refl _) (Own.nil _ _ _)
 · obtain ⟨v', w', h1, h2, h3⟩ := app_copy hr hb
   exact ⟨v', w', h1, k _ _ h3 h2⟩
theorem slices_Clip_c {w : World} {v : Value} {bs : List UInt8} {R : KV} (hr : RdB w v bs) (k : ∀ v', RdB w v' bs → v'.ownBlock = v.ownBlock → R v' w) : CW.Spec Tryz.prog 72 #[v] w R := by
 apply q99W
 refine ⟨_, hr.len, _, hr.len, ?_⟩
 obtain ⟨a, cap, rfl, h1, h2, h3, h4⟩ := hr
 have h0 : (0 : Int) ≤ (bs.length : Int) := by omega
 simp only [List.length_map] at h1 h4 ⊢
 refine ⟨.slice a bs.length bs.length, ?_, k _ ⟨a, bs.length, by simp, by simp, by omega, fun h => by have := h3 h; omega, h4⟩ (by cases a <;> rfl)⟩
 have e : (bs.length : Int) ≤ cap := by omega
 simp only [subSlice, boundsOf, boundOf, h0, e, and_self, if_true, Int.toNat_natCast, Int.le_refl, Nat.sub_zero]
 split
 · rfl
 · cases a <;> simp [add_zero]
theorem to_text {w : World} {v : Value} {bs : List UInt8} (h : RdB w v bs) : Sem.run Tryz.prog (convert tB 9 v) w = .ok (.string (textOf bs)) w :=
 run_text (e := tb) (by kernel_rfl) (by kernel_rfl) (by kernel_rfl) h
theorem make_bytes {w : World} (n : Nat) (hn : n ≤ 1099511627776) :
 ∃ v' w', Sem.run Tryz.prog (Instr.makeSlice tB (.int .i64 (n : Int)) (.int .i64 (n : Int))) w = .ok v' w' ∧ OwnB w' w.heap.size tb v' (List.replicate n 0) ∧ Grow w w' := by
 obtain ⟨v', w', h1, h2, h3⟩ := make_own (w := w) tyB (u := .int .u8 0) (by kernel_rfl) rfl n (by omega)
 exact ⟨v', w', h1, by rw [OwnB, List.map_replicate]; exact h2, h3⟩
end Go.Proofs.YtdinpgnjnleioaaGreatDoor
