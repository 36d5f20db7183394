/- The statement TextRows, closed: the walk by the law's contract. -/
import Derived.Test.YtnibnbobmfejhaaDoorTxtS
import Derived.Test.YtnibnbobmfejhaaDoorSch
import Derived.Test.YtnibnbobmfejhaaDoorRows
import Derived.WalkKit
import Derived.ProofKit
import Derived.OpenShut
import Derived.ShutString
import Derived.ChangeOld
import Derived.Below
import Derived.Deep.Matrix
import Derived.SliceStrings
import Derived.Test.YtnibnbobmfejhaaDoorCards
import Derived.Test.YtnibnbobmfejhaaDoorTie
import Derived.Lay
import Derived.MakeChecks
import Derived.Lib.LaidU8
import Derived.Handed
import Derived.JoinedOf
import Derived.SevenTiedAt
import Derived.Test.YtnibnbobmfejhaaDoorWrap
import Derived.Shelf.Vars
namespace Go.Proofs.YtnibnbobmfejhaaDoor.textRows
open Go
open Go.ChangeShapes Go.WideShapes Go.ChangeAt Go.RowKit
set_option linter.unusedVariables false

theorem own : ownKnob Tryd.prog.godebug = none := by kernel_rfl
theorem laidOut : laidOutB Tryd.prog = true := by kernel_rfl

theorem tab_of {W : World} (h : laidMetH Tryd.prog Rows.textRowsRow.laid W) : Tab W := by
  rw [MakeChecks.laidMetH_plain _ _ _ (by kernel_rfl)] at h
  obtain ⟨g, t, cs, fuel, p, hg, hty, hvar, hd⟩ := Lib.laidMet.reads h (n := "internal/strconv.uint64pow10") (d := Lib.tabData .u64 Lib.pow10Tab) (List.getElem_mem (l := Rows.textRowsRow.laid) (n := 2) (by decide))
  have hg' : Tryd.prog.globalNamed "internal/strconv.uint64pow10" = some (5 : Nat) := by kernel_rfl
  obtain rfl := Option.some.inj (hg'.symm.trans hg)
  have hty' : (Tryd.prog.globals[(5 : Nat)]?).map (·.type) = some 104 := by kernel_rfl
  obtain rfl := Option.some.inj (hty'.symm.trans hty)
  unfold Tab Lib.TabIs
  rw [hvar, ← Lib.cells_of_tab (t := 104) (n := 20) (e := 69) (by kernel_rfl) (by kernel_rfl) (by kernel_rfl) (by kernel_rfl) hd]

theorem env_of {W : World} (h : laidMetH Tryd.prog Rows.textRowsRow.laid W) (hsh : W.ShapedOpen Tryd.prog) : Env W :=
  ⟨tab_of h, cell_of_shapedOpen_int (P := Tryd.prog) (g := 2) (t := 3) (zero := #[.int .i64 0]) hsh (of_decide_eq_true (by kernel_rfl)) (by kernel_rfl) rfl (by kernel_rfl) (by kernel_rfl) Tryd.underlying3⟩

set_option maxRecDepth 100000 in
theorem lifted (os : Os) (started : os.Started) (H : Type) (enc : TypeId × Value → H) :
    ReturnsInHanded {} Tryd.checked os 4 .any (fun w args => (Rows.textRowsSpec.pre enc Tryd.prog Tryd.f4 Rows.textRowsRow.domain false w args ∧ laidMetH Tryd.prog Rows.textRowsRow.laid w) ∧ sizedMet enc Tryd.prog Tryd.f4 (OpenSpec.ofChange Rows.textRowsSpec) false w args) (Rows.textRowsSpec.post enc Tryd.prog Tryd.f4 false true false false) := by
  refine Go.CW.handed_and_shaped (C := Tryd.checked) (X := fun w _ => laidMetH Tryd.prog Rows.textRowsRow.laid w) (fun _ _ _ hh h => h.of_heap hh) own started (by kernel_rfl) Tryd.func4
    (Go.CW.witness_shaped (enc := enc) (C := Tryd.checked) (X := fun w _ => laidMetH Tryd.prog Rows.textRowsRow.laid w) (World.laidAll Tryd.prog os Rows.textRowsRow.laid) #[.slice none 0 0, .int .i64 0] 8 (World.laidAll_os _ _ _) (World.shaped_of_ZipB (by kernel_rfl) (by kernel_rfl)) (by kernel_rfl) (by kernel_rfl) (by kernel_rfl)
      (by rw [MakeChecks.laidMetH_plain _ _ _ (by kernel_rfl)]; exact laidMet_laidAll _ (by kernel_rfl) (by kernel_rfl))) ?_
  intro W base args ds gs before hval0 hW hL hsh
  have hval : ∀ (j : Nat) t v, Tryd.f4.params[j]? = some t → args[j]? = some v → Value.okWide Tryd.prog W .any base t v := hval0
  have hW' := hW
  obtain ⟨p, q, hA0, hV, rfl, hfz, hnd⟩ := hW
  have hA : DataW.TrodAll enc Tryd.prog W 0 (fun _ => true) true Tryd.f4.params.toList args.toList ds p := hA0
  rw [Tryd.params4] at hA hval
  obtain ⟨v0, vs0, d0, ds0, p0, q0, hargs, rfl, rfl, h0, r0⟩ := trodAll_cons hA
  obtain ⟨v1, vs1, d1, ds1, p1, q1, rfl, rfl, rfl, h1, r1⟩ := trodAll_cons r0
  obtain ⟨rfl, rfl, rfl⟩ := trodAll_nil r1
  obtain rfl : args = #[v0, v1] := by cases args; simp_all
  obtain ⟨rfl, rfl⟩ := trodVars_none hV
  have k0 := h0
  have lt0 : ∀ x ∈ p0, x.block < W.heap.size := by obtain ⟨m, hm⟩ := k0; exact DataW.trod_lt m _ _ _ hm
  have k1 := h1
  have lt1 : ∀ x ∈ p1, x.block < W.heap.size := by obtain ⟨m, hm⟩ := k1; exact DataW.trod_lt m _ _ _ hm
  obtain ⟨a0, len0, cap0, rfl⟩ := okWide_slice Tryd.underlying28 (hval 0 28 v0 rfl rfl)
  obtain ⟨bs0, hr0⟩ : ∃ bs, Go.CW.RdR ES W (.slice a0 len0 cap0) bs := by
    obtain ⟨fuel, hf⟩ := h0
    rcases Go.ChangeShapes.open_strings Tryd.underlying28 Tryd.underlying9 (by kernel_rfl) hf with ⟨hcs, _⟩ | ⟨a, len, cap, ss, hcs, _, hl, hm, hz, _, hcell, _⟩
    · simp [Value.cells] at hcs
      obtain ⟨rfl, rfl, rfl⟩ := hcs
      exact ⟨[], Go.CW.RdR.nil W⟩
    · simp [Value.cells] at hcs
      obtain ⟨rfl, rfl, rfl⟩ := hcs
      rw [if_pos rfl] at hz
      refine ⟨(ss.take len0).map (·.toList), some a, cap0, ?_, ?_, hm, (fun h => (by cases h)), fun i u hi => ⟨a, rfl, ?_⟩⟩
      · simp; omega
      · simp; omega
      · rw [ES_flat, List.map_map] at hi
        obtain ⟨h1, h2⟩ := List.getElem?_eq_some_iff.1 hi
        simp at h1
        have := hcell i (by omega)
        rw [this, ← h2]
        have e : ss.getD i ByteArray.empty = ss[i]'(by omega) := by simp [List.getD, show i < ss.length by omega]
        rw [e]
        simp only [List.getElem_map, List.getElem_take, Function.comp]
        rw [← Go.CW.text_ext (s := ss[i]'(by omega)) rfl]
  obtain ⟨a1, rfl, rfl, rfl, w1⟩ := open_int Tryd.underlying3 (hval 1 3 v1 rfl rfl) h1
  clear hA0 hval0
  refine (Law.calls (textRows_s (env_of hL hsh) hr0 (Go.CW.Fits.of_wf w1))).mono fun e W' ⟨he, bel⟩ => ?_
  subst he
  exact ⟨_, rfl, _, _, _, [], _, [], hW', trodAll_mk1 (shut_bool Tryd.underlying4 _), (trodAll_cons_mk (Below.trod laidOut (by kernel_rfl) (of_decide_eq_true (by kernel_rfl)) k0 bel lt0) (trodAll_cons_mk (Below.trod laidOut (by kernel_rfl) (of_decide_eq_true (by kernel_rfl)) k1 bel lt1) trodAll_mk0)), rfl, bel.frame _, fun h => by cases h⟩

theorem over : Rows.textRowsRow.holds Tryd.pinned (OpenSpec.ofChange Rows.textRowsSpec) :=
  OpenClaim.holds_of_wide 4 Tryd.f4 rfl rfl rfl rfl rfl rfl rfl ⟨rfl, rfl, rfl, rfl, rfl⟩ rfl rfl rfl rfl rfl (by kernel_rfl) Tryd.func4 (by kernel_rfl)
    (of_decide_eq_true (by kernel_rfl)) (by unfold Func.isWrapper; first | (rw [if_pos (by decide +kernel)]; kernel_rfl) | (rw [if_neg (by decide +kernel)]; exact ⟨rfl, rfl⟩))
    (fun os started H enc _ => lifted os started H enc)

/-- the statement -/
theorem proved : Rows.TextRowsCardSaid :=
  Claim7.holds_tied_plain_at .later [] Rows.textRowsCard.laidKinds true Rows.textRowsCard.stood.harness true
    over (fun _ h => by cases h) (by kernel_rfl) (fun _ h => by cases h) textRows_row_tie rfl ⟨rfl, rfl⟩ (by kernel_rfl) rfl
    (fun f fn hf hfn => by
      obtain rfl : f = 4 := Option.some.inj ((show Tryd.prog.funcNamed "gemel/gemellaw3.TextRows" = some 4 by kernel_rfl).symm.trans hf) |>.symm
      obtain rfl : fn = Tryd.f4 := (Option.some.inj (Tryd.func4.symm.trans hfn)).symm
      exact ⟨by kernel_rfl, fun j t ht => by
        rw [Tryd.params4] at ht
        have hm : t ∈ [28, 3] := by
          have := Array.mem_of_getElem? ht
          simpa using this
        have hall : ([28, 3].all fun t => Tryd.prog.wantsStandIn t == false) = true := by kernel_rfl
        have := List.all_eq_true.1 hall t hm
        exact eq_of_beq this⟩)
    (by kernel_rfl)
#print axioms proved
end Go.Proofs.YtnibnbobmfejhaaDoor.textRows
