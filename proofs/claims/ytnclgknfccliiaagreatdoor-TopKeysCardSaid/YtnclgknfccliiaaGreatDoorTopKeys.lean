/- The statement TopKeys, closed: the walk by the law's contract. -/
import Derived.Test.YtnclgknfccliiaaGreatDoorKeysL
import Derived.Test.YtnclgknfccliiaaGreatDoorSch
import Derived.Test.YtnclgknfccliiaaGreatDoorRows
import Derived.WalkKit
import Derived.ProofKit
import Derived.OpenShut
import Derived.ShutString
import Derived.ChangeOld
import Derived.Below
import Derived.Deep.Matrix
import Derived.Test.YtnclgknfccliiaaGreatDoorCards
import Derived.Test.YtnclgknfccliiaaGreatDoorTie
import Derived.Lay
import Derived.MakeChecks
import Derived.Lib.LaidU8
import Derived.Handed
import Derived.JoinedOf
import Derived.SevenTiedAt
import Derived.Test.YtnclgknfccliiaaGreatDoorWrap
import Derived.Shelf.Vars
namespace Go.Proofs.YtnclgknfccliiaaGreatDoor.topKeys
open Go
open Go.ChangeShapes Go.WideShapes Go.ChangeAt Go.RowKit
set_option linter.unusedVariables false

theorem own : ownKnob Tryz.prog.godebug = none := by kernel_rfl
theorem laidOut : laidOutB Tryz.prog = true := by kernel_rfl

theorem tab_of {W : World} (h : laidMetH Tryz.prog Rows.topKeysRow.laid W) : Tab W := by
  rw [MakeChecks.laidMetH_plain _ _ _ (by kernel_rfl)] at h
  obtain ⟨g, t, cs, fuel, p, hg, hty, hvar, hd⟩ := Lib.laidMet.reads h (n := "internal/strconv.uint64pow10") (d := Lib.tabData .u64 Lib.pow10Tab) (List.getElem_mem (l := Rows.topKeysRow.laid) (n := 2) (by decide))
  have hg' : Tryz.prog.globalNamed "internal/strconv.uint64pow10" = some (1 : Nat) := by kernel_rfl
  obtain rfl := Option.some.inj (hg'.symm.trans hg)
  have hty' : (Tryz.prog.globals[(1 : Nat)]?).map (·.type) = some 324 := by kernel_rfl
  obtain rfl := Option.some.inj (hty'.symm.trans hty)
  unfold Tab Lib.TabIs
  rw [hvar, ← Lib.cells_of_tab (t := 324) (n := 20) (e := 31) (by kernel_rfl) (by kernel_rfl) (by kernel_rfl) (by kernel_rfl) hd]

theorem env_of {W : World} (h : laidMetH Tryz.prog Rows.topKeysRow.laid W) (hsh : W.ShapedOpen Tryz.prog) : Env W :=
  ⟨tab_of h, cell_of_shapedOpen_int (P := Tryz.prog) (g := 0) (t := 3) (zero := #[.int .i64 0]) hsh (of_decide_eq_true (by kernel_rfl)) (by kernel_rfl) rfl (by kernel_rfl) (by kernel_rfl) Tryz.underlying3⟩

set_option maxRecDepth 100000 in
theorem lifted (os : Os) (started : os.Started) (H : Type) (enc : TypeId × Value → H) :
    ReturnsInHanded {} Tryz.checked os 5 .any (fun w args => (Rows.topKeysSpec.pre enc Tryz.prog Tryz.f5 Rows.topKeysRow.domain false w args ∧ laidMetH Tryz.prog Rows.topKeysRow.laid w) ∧ sizedMet enc Tryz.prog Tryz.f5 (OpenSpec.ofChange Rows.topKeysSpec) false w args) (Rows.topKeysSpec.post enc Tryz.prog Tryz.f5 false true false false) := by
  refine Go.CW.handed_and_shaped (C := Tryz.checked) (X := fun w _ => laidMetH Tryz.prog Rows.topKeysRow.laid w) (fun _ _ _ hh h => h.of_heap hh) own started (by kernel_rfl) Tryz.func5
    (Go.CW.witness_shaped (enc := enc) (C := Tryz.checked) (X := fun w _ => laidMetH Tryz.prog Rows.topKeysRow.laid w) (World.laidAll Tryz.prog os Rows.topKeysRow.laid) #[.slice none 0 0, .int .u8 0, .int .u8 0] 8 (World.laidAll_os _ _ _) (World.shaped_of_ZipB (by kernel_rfl) (by kernel_rfl)) (by kernel_rfl) (by kernel_rfl) (by kernel_rfl)
      (by rw [MakeChecks.laidMetH_plain _ _ _ (by kernel_rfl)]; exact laidMet_laidAll _ (by kernel_rfl) (by kernel_rfl))) ?_
  intro W base args ds gs before hval0 hW hL hsh
  have hval : ∀ (j : Nat) t v, Tryz.f5.params[j]? = some t → args[j]? = some v → Value.okWide Tryz.prog W .any base t v := hval0
  have hW' := hW
  obtain ⟨p, q, hA0, hV, rfl, hfz, hnd⟩ := hW
  have hA : DataW.TrodAll enc Tryz.prog W 0 (fun _ => true) true Tryz.f5.params.toList args.toList ds p := hA0
  rw [Tryz.params5] at hA hval
  obtain ⟨v0, vs0, d0, ds0, p0, q0, hargs, rfl, rfl, h0, r0⟩ := trodAll_cons hA
  obtain ⟨v1, vs1, d1, ds1, p1, q1, rfl, rfl, rfl, h1, r1⟩ := trodAll_cons r0
  obtain ⟨v2, vs2, d2, ds2, p2, q2, rfl, rfl, rfl, h2, r2⟩ := trodAll_cons r1
  obtain ⟨rfl, rfl, rfl⟩ := trodAll_nil r2
  obtain rfl : args = #[v0, v1, v2] := by cases args; simp_all
  obtain ⟨rfl, rfl⟩ := trodVars_none hV
  have k0 := h0
  have lt0 : ∀ x ∈ p0, x.block < W.heap.size := by obtain ⟨m, hm⟩ := k0; exact DataW.trod_lt m _ _ _ hm
  have k1 := h1
  have lt1 : ∀ x ∈ p1, x.block < W.heap.size := by obtain ⟨m, hm⟩ := k1; exact DataW.trod_lt m _ _ _ hm
  have k2 := h2
  have lt2 : ∀ x ∈ p2, x.block < W.heap.size := by obtain ⟨m, hm⟩ := k2; exact DataW.trod_lt m _ _ _ hm
  obtain ⟨a0, len0, cap0, rfl⟩ := okWide_slice Tryz.underlying58 (hval 0 58 v0 rfl rfl)
  obtain ⟨ns0, fw0, rw0⟩ : ∃ ns : List Int, (∀ n ∈ ns, Go.CW.Fits .u64 n) ∧ Go.CW.Rd W (.slice a0 len0 cap0) (ns.map (Value.int .u64)) := by
    obtain ⟨fuel, hf⟩ := h0
    rcases open_ints Tryz.underlying58 Tryz.underlying31 (by kernel_rfl) hf with ⟨hcs, _⟩ | ⟨x, l, c, zs, hcs, _, hl, hm, hz, _, hcell, hwz⟩
    · simp [Value.cells] at hcs
      obtain ⟨rfl, rfl, rfl⟩ := hcs
      exact Go.CW.rd_of_row (zs := []) (.inl ⟨rfl, rfl, rfl, rfl⟩)
    · simp [Value.cells] at hcs
      obtain ⟨rfl, rfl, rfl⟩ := hcs
      exact Go.CW.rd_of_row (.inr ⟨_, rfl, hl, hm, by simpa using hz, hcell, hwz⟩)
  obtain ⟨a1, rfl, rfl, rfl, w1⟩ := open_int Tryz.underlying5 (hval 1 5 v1 rfl rfl) h1
  obtain ⟨a2, rfl, rfl, rfl, w2⟩ := open_int Tryz.underlying5 (hval 2 5 v2 rfl rfl) h2
  clear hA0 hval0
  refine (Law.calls (topKeys_s (env_of hL hsh) fw0 rw0 (Go.CW.Fits.of_wf w1) (Go.CW.Fits.of_wf w2))).mono fun e W' ⟨he, bel⟩ => ?_
  subst he
  exact ⟨_, rfl, _, _, _, [], _, [], hW', trodAll_mk1 (shut_bool Tryz.underlying4 _), (trodAll_cons_mk (Below.trod laidOut (by kernel_rfl) (of_decide_eq_true (by kernel_rfl)) k0 bel lt0) (trodAll_cons_mk (Below.trod laidOut (by kernel_rfl) (of_decide_eq_true (by kernel_rfl)) k1 bel lt1) (trodAll_cons_mk (Below.trod laidOut (by kernel_rfl) (of_decide_eq_true (by kernel_rfl)) k2 bel lt2) trodAll_mk0))), rfl, bel.frame _, fun h => by cases h⟩

theorem over : Rows.topKeysRow.holds Tryz.pinned (OpenSpec.ofChange Rows.topKeysSpec) :=
  OpenClaim.holds_of_wide 5 Tryz.f5 rfl rfl rfl rfl rfl rfl rfl ⟨rfl, rfl, rfl, rfl, rfl⟩ rfl rfl rfl rfl rfl (by kernel_rfl) Tryz.func5 (by kernel_rfl)
    (of_decide_eq_true (by kernel_rfl)) (by unfold Func.isWrapper; first | (rw [if_pos (by decide +kernel)]; kernel_rfl) | (rw [if_neg (by decide +kernel)]; exact ⟨rfl, rfl⟩))
    (fun os started H enc _ => lifted os started H enc)

/-- the statement -/
theorem proved : Rows.TopKeysCardSaid :=
  Claim7.holds_tied_plain_at .later [] Rows.topKeysCard.laidKinds true Rows.topKeysCard.stood.harness true
    over (fun _ h => by cases h) (by kernel_rfl) (fun _ h => by cases h) topKeys_row_tie rfl ⟨rfl, rfl⟩ (by kernel_rfl) rfl
    (fun f fn hf hfn => by
      obtain rfl : f = 5 := Option.some.inj ((show Tryz.prog.funcNamed "gemel/gemeltop.TopKeys" = some 5 by kernel_rfl).symm.trans hf) |>.symm
      obtain rfl : fn = Tryz.f5 := (Option.some.inj (Tryz.func5.symm.trans hfn)).symm
      exact ⟨by kernel_rfl, fun j t ht => by
        rw [Tryz.params5] at ht
        have hm : t ∈ [58, 5, 5] := by
          have := Array.mem_of_getElem? ht
          simpa using this
        have hall : ([58, 5, 5].all fun t => Tryz.prog.wantsStandIn t == false) = true := by kernel_rfl
        have := List.all_eq_true.1 hall t hm
        exact eq_of_beq this⟩)
    (by kernel_rfl)
#print axioms proved
end Go.Proofs.YtnclgknfccliiaaGreatDoor.topKeys
