/- The statement TopSnapshot, closed: the walk by the law's contract. -/
import Derived.Test.YtghineciiljeoaaGreatDoorQSnpL
import Derived.Test.YtghineciiljeoaaGreatDoorQSch
import Derived.Test.YtghineciiljeoaaGreatDoorRows
import Derived.ProofKit
import Derived.ShutString
import Derived.ChangeOld
import Derived.Deep.Matrix
import Derived.Test.YtghineciiljeoaaGreatDoorCards
import Derived.Test.YtghineciiljeoaaGreatDoorTie
import Derived.MakeChecks
import Derived.Lib.LaidU8
import Derived.JoinedOf
import Derived.SevenTiedAt
import Derived.Test.YtghineciiljeoaaGreatDoorQWrap
import Derived.Shelf.Vars
set_option linter.unusedVariables false
namespace Go.Proofs.YtghineciiljeoaaGreatDoor.topSnapshot
open Go
open Go.ChangeShapes Go.WideShapes Go.ChangeAt Go.RowKit
theorem own : ownKnob Tryz.prog.godebug = none := by kernel_rfl
theorem laidOut : laidOutB Tryz.prog = true := by kernel_rfl
theorem tab_of {W : World} (h : laidMetH Tryz.prog Rows.topSnapshotRow.laid W) : Tab W := by
 rw [MakeChecks.laidMetH_plain _ _ _ (by kernel_rfl)] at h
 obtain ⟨g, t, cs, fuel, p, hg, hty, hvar, hd⟩ := Lib.laidMet.reads h (n := "internal/strconv.uint64pow10") (d := Lib.tabData .u64 Lib.pow10Tab) (List.getElem_mem (l := Rows.topSnapshotRow.laid) (n := 2) (by decide))
 have hg' : Tryz.prog.globalNamed "internal/strconv.uint64pow10" = some (1 : Nat) := by kernel_rfl
 obtain rfl := Option.some.inj (hg'.symm.trans hg)
 have hty' : (Tryz.prog.globals[(1 : Nat)]?).map (·.type) = some 472 := by kernel_rfl
 obtain rfl := Option.some.inj (hty'.symm.trans hty)
 unfold Tab Lib.TabIs
 rw [hvar, ← Lib.cells_of_tab (t := 472) (n := 20) (e := 38) (by kernel_rfl) (by kernel_rfl) (by kernel_rfl) (by kernel_rfl) hd]
theorem env_of {W : World} (h : laidMetH Tryz.prog Rows.topSnapshotRow.laid W) (hsh : W.ShapedOpen Tryz.prog) : Env W :=
 ⟨tab_of h, cell_of_shapedOpen_int (P := Tryz.prog) (g := 0) (t := 3) (zero := #[.int .i64 0]) hsh (of_decide_eq_true (by kernel_rfl)) (by kernel_rfl) rfl (by kernel_rfl) (by kernel_rfl) Tryz.underlying3⟩
set_option maxRecDepth 100000 in
theorem lifted (os : Os) (started : os.Started) (H : Type) (enc : TypeId × Value → H) :
 ReturnsInHanded {} Tryz.checked os 8 .any (fun w args => (Rows.topSnapshotSpec.pre enc Tryz.prog Tryz.f8 Rows.topSnapshotRow.domain false w args ∧ laidMetH Tryz.prog Rows.topSnapshotRow.laid w) ∧ sizedMet enc Tryz.prog Tryz.f8 (OpenSpec.ofChange Rows.topSnapshotSpec) false w args) (Rows.topSnapshotSpec.post enc Tryz.prog Tryz.f8 false true false false) := by
 refine Go.CW.handed_and_shaped (C := Tryz.checked) (X := fun w _ => laidMetH Tryz.prog Rows.topSnapshotRow.laid w) (fun _ _ _ hh h => h.of_heap hh) own started (by kernel_rfl) Tryz.func8
  (Go.CW.witness_shaped (enc := enc) (C := Tryz.checked) (X := fun w _ => laidMetH Tryz.prog Rows.topSnapshotRow.laid w) (World.laidAll Tryz.prog os Rows.topSnapshotRow.laid) #[.slice none 0 0, .slice none 0 0] 8 (World.laidAll_os _ _ _) (World.shaped_of_ZipB (by kernel_rfl) (by kernel_rfl)) (by kernel_rfl) (by kernel_rfl) (by kernel_rfl)
   (by rw [MakeChecks.laidMetH_plain _ _ _ (by kernel_rfl)]; exact laidMet_laidAll _ (by kernel_rfl) (by kernel_rfl))) ?_
 intro W base args ds gs before hval0 hW hL hsh
 have hval : ∀ (j : Nat) t v, Tryz.f8.params[j]? = some t → args[j]? = some v → Value.okWide Tryz.prog W .any base t v := hval0
 have hW' := hW
 obtain ⟨p, q, hA0, hV, rfl, hfz, hnd⟩ := hW
 have hA : DataW.TrodAll enc Tryz.prog W 0 (fun _ => true) true Tryz.f8.params.toList args.toList ds p := hA0
 rw [Tryz.params8] at hA hval
 obtain ⟨v0, vs0, d0, ds0, p0, q0, hargs, rfl, rfl, h0, r0⟩ := trodAll_cons hA
 obtain ⟨v1, vs1, d1, ds1, p1, q1, rfl, rfl, rfl, h1, r1⟩ := trodAll_cons r0
 obtain ⟨rfl, rfl, rfl⟩ := trodAll_nil r1
 obtain rfl : args = #[v0, v1] := by cases args; simp_all
 obtain ⟨rfl, rfl⟩ := trodVars_none hV
 have k0 := h0
 have lt0 : ∀ x ∈ p0, x.block < W.heap.size := by obtain ⟨m, hm⟩ := k0; exact DataW.trod_lt m _ _ _ hm
 have k1 := h1
 have lt1 : ∀ x ∈ p1, x.block < W.heap.size := by obtain ⟨m, hm⟩ := k1; exact DataW.trod_lt m _ _ _ hm
 obtain ⟨a0, len0, cap0, rfl⟩ := okWide_slice Tryz.underlying22 (hval 0 22 v0 rfl rfl)
 obtain ⟨asks0, w0, _⟩ : ∃ acts, Go.CW.RdR EA W (.slice a0 len0 cap0) acts ∧ ∀ x ∈ acts, True := by
  obtain ⟨fuel, hf⟩ := h0
  refine Go.CW.open_rec EA Tryz.underlying22 (by kernel_rfl) (fun n cs x hx => ?_) hf
  obtain ⟨hl, hat⟩ := Go.CW.open_intsS (ks := [.u8, .u8, .u8]) (by kernel_rfl) hx
  obtain ⟨q0, e0, f0⟩ := hat 0 .u8 rfl
  obtain ⟨q1, e1, f1⟩ := hat 1 .u8 rfl
  obtain ⟨q2, e2, f2⟩ := hat 2 .u8 rfl
  match cs, hl with
  | [c0, c1, c2], _ =>
    simp at e0 e1 e2
    subst e0; subst e1; subst e2
    have b8 : ∀ {q : Int}, Go.CW.Fits .u8 q → ((UInt8.ofNat q.toNat).toNat : Int) = q := fun {q} h => by
     have := Go.CW.Fits.u8 h
     rw [UInt8.toNat_ofNat']; omega
    refine ⟨(UInt8.ofNat q0.toNat, UInt8.ofNat q1.toNat, UInt8.ofNat q2.toNat), ?_, trivial⟩
    show _ = [Value.int .u8 _, Value.int .u8 _, Value.int .u8 _]
    rw [b8 f0, b8 f1, b8 f2]
 obtain ⟨a1, len1, cap1, rfl⟩ := okWide_slice Tryz.underlying79 (hval 1 79 v1 rfl rfl)
 obtain ⟨ns1, fw1, rw1⟩ : ∃ ns : List Int, (∀ n ∈ ns, Go.CW.Fits .i64 n) ∧ Go.CW.Rd W (.slice a1 len1 cap1) (ns.map (Value.int .i64)) := by
  obtain ⟨fuel, hf⟩ := h1
  rcases open_ints Tryz.underlying79 Tryz.underlying3 (by kernel_rfl) hf with ⟨hcs, _⟩ | ⟨x, l, c, zs, hcs, _, hl, hm, hz, _, hcell, hwz⟩
  · simp [Value.cells] at hcs
    obtain ⟨rfl, rfl, rfl⟩ := hcs
    exact Go.CW.rd_of_row (zs := []) (.inl ⟨rfl, rfl, rfl, rfl⟩)
  · simp [Value.cells] at hcs
    obtain ⟨rfl, rfl, rfl⟩ := hcs
    exact Go.CW.rd_of_row (.inr ⟨_, rfl, hl, hm, by simpa using hz, hcell, hwz⟩)
 clear hA0 hval0
 refine (Law.calls (topSnapshot_s (env_of hL hsh) w0 fw1 rw1)).mono fun e W' ⟨he, bel⟩ => ?_
 subst he
 exact ⟨_, rfl, _, _, _, [], _, [], hW', trodAll_mk1 (shut_bool Tryz.underlying4 _), (trodAll_cons_mk (Below.trod laidOut (by kernel_rfl) (of_decide_eq_true (by kernel_rfl)) k0 bel lt0) (trodAll_cons_mk (Below.trod laidOut (by kernel_rfl) (of_decide_eq_true (by kernel_rfl)) k1 bel lt1) trodAll_mk0)), rfl, bel.frame _, fun h => by cases h⟩
theorem and_tt {a b : Bool} (h : a = true) (k : b = true) : (a && b) = true := by rw [h, k]; rfl
theorem j1 : (Rows.topSnapshotRow.wf (OpenSpec.ofChange Rows.topSnapshotSpec)) = true := by kernel_rfl
theorem j2 : (laidOutB Tryz.prog) = true := by kernel_rfl
theorem j3 : (mapsRowed Tryz.prog) = true := by kernel_rfl
theorem j4 : (Tryz.f8.params.all (Tryz.prog.readableRec ·)) = true := by kernel_rfl
theorem j5 : (namedTie Tryz.prog Rows.topSnapshotRow.named Rows.topSnapshotSpec.vars) = true := by kernel_rfl
theorem j6 : ((Rows.topSnapshotRow.stops == [])) = true := by kernel_rfl
theorem j7 : ((Tryz.prog.stops == [])) = true := by kernel_rfl
theorem j8 : ((Rows.topSnapshotRow.knobs == [])) = true := by kernel_rfl
theorem j9 : ((Tryz.prog.stopKnobs == [])) = true := by kernel_rfl
theorem j10 : ((Rows.topSnapshotRow.inPlace == Tryz.prog.inPlace 8)) = true := by kernel_rfl
theorem j11 : ((Rows.topSnapshotRow.unfollowed == Tryz.prog.unfollowed 8)) = true := by kernel_rfl
theorem j12 : ((Rows.topSnapshotRow.recurses == Tryz.prog.recurses 8)) = true := by kernel_rfl
theorem j13 : ((Rows.topSnapshotRow.named == Tryz.prog.varsNamed 8)) = true := by kernel_rfl
theorem j14 : ((Rows.topSnapshotRow.maps == (Tryz.f8.params.toList ++ Rows.topSnapshotSpec.plain.varTypes Tryz.prog).any (Tryz.prog.mapsRec ·))) = true := by kernel_rfl
theorem j15 : ((Rows.topSnapshotRow.ifaces == (Tryz.f8.params.toList ++ Rows.topSnapshotSpec.plain.varTypes Tryz.prog).any (Tryz.prog.ifacesRec ·))) = true := by kernel_rfl
theorem j16 : ((Rows.topSnapshotRow.mapsOut == Tryz.prog.mapsAmong Tryz.f8.resultTypes.toList)) = true := by kernel_rfl
theorem j17 : ((Rows.topSnapshotRow.loops == (Tryz.f8.params.toList ++ Rows.topSnapshotSpec.plain.varTypes Tryz.prog).any (Tryz.prog.loopsFrom ·))) = true := by kernel_rfl
theorem j18 : ((Rows.topSnapshotRow.wideKeys == (Tryz.f8.params.toList ++ Rows.topSnapshotSpec.plain.varTypes Tryz.prog ++ Tryz.f8.resultTypes.toList).any (Tryz.prog.wideKeysFrom ·))) = true := by kernel_rfl
theorem j19 : (Rows.topSnapshotSpec.vars.all (Tryz.prog.varReadable ·)) = true := by kernel_rfl
theorem j20 : (Tryz.f8.resultTypes.all (fun t => Tryz.prog.readableRec t && decide (t < Tryz.prog.types.size))) = true := by kernel_rfl
theorem j21 : ((Rows.topSnapshotRow.ifacesOut == Tryz.f8.resultTypes.toList.any (Tryz.prog.ifacesRec ·))) = true := by kernel_rfl
theorem j22 : ((Rows.topSnapshotRow.loopsOut == Tryz.f8.resultTypes.toList.any (Tryz.prog.loopsFrom ·))) = true := by kernel_rfl
theorem j23 : ((Rows.topSnapshotRow.plainKeys == Tryz.prog.plainKeys)) = true := by kernel_rfl
theorem j24 : (Rows.topSnapshotRow.shortTexts.isNone) = true := by kernel_rfl
theorem j25 : (Tryz.prog.stopsHeard) = true := by kernel_rfl
theorem j26 : (Tryz.prog.mayEnter) = true := by kernel_rfl
theorem j27 : ((Rows.topSnapshotRow.lifted == Tryz.prog.liftsFinal)) = true := by kernel_rfl
theorem j28 : ((Tryz.prog.make == some Rows.topSnapshotRow.make)) = true := by kernel_rfl
theorem j29 : ((Rows.topSnapshotRow.kinds == (if Rows.topSnapshotRow.domain.isEmpty then [] else Tryz.f8.params.toList.map fun t => match Tryz.prog.underlying t with | some (.int k) => some k | _ => none))) = true := by kernel_rfl
theorem j30 : ((Rows.topSnapshotRow.pinned == Rows.topSnapshotRow.pinnedBy)) = true := by kernel_rfl
theorem j31 : ((Rows.topSnapshotRow.veiled == (Tryz.f8.params.toList ++ Rows.topSnapshotSpec.plain.varTypes Tryz.prog ++ Tryz.f8.resultTypes.toList).any (Tryz.prog.veiledRec ·))) = true := by kernel_rfl
theorem j32 : (Rows.topSnapshotRow.veiledFits Tryz.prog Tryz.f8.params.toList (Tryz.f8.params.toList ++ Rows.topSnapshotSpec.plain.varTypes Tryz.prog ++ Tryz.f8.resultTypes.toList)) = true := by kernel_rfl
set_option maxRecDepth 1000000 in
theorem closed : joinedFacts Tryz.pinned.checked.prog 8 Tryz.f8 Rows.topSnapshotSpec Rows.topSnapshotRow = true := (and_tt (and_tt (and_tt (and_tt (and_tt (and_tt (and_tt (and_tt (and_tt (and_tt (and_tt (and_tt (and_tt (and_tt (and_tt (and_tt (and_tt (and_tt (and_tt (and_tt (and_tt (and_tt (and_tt (and_tt (and_tt (and_tt (and_tt (and_tt (and_tt (and_tt (and_tt j1 j2) j3) j4) j5) j6) j7) j8) j9) j10) j11) j12) j13) j14) j15) j16) j17) j18) j19) j20) j21) j22) j23) j24) j25) j26) j27) j28) j29) j30) j31) j32)
theorem named_is : Tryz.prog.funcNamed "gemel/gemeltop.TopSnapshot" = some 8 := by kernel_rfl
theorem wf_text : Rows.topSnapshotRow.wfByText (OpenSpec.ofChange Rows.topSnapshotSpec) = true := by kernel_rfl
theorem main_is : Tryz.pinned.checked.prog.mainIs = some (Rows.topSnapshotCard.stood.harness.1, Rows.topSnapshotCard.stood.harness.2.toList) := by kernel_rfl
theorem looks_is : true = Tryz.pinned.checked.prog.looks [] := by kernel_rfl
theorem goes_is : false = Rows.topSnapshotRow.goesBy Tryz.pinned.checked.prog := by kernel_rfl
theorem over : Rows.topSnapshotRow.holds Tryz.pinned (OpenSpec.ofChange Rows.topSnapshotSpec) :=
 OpenClaim.holds_of_wide 8 Tryz.f8 rfl rfl rfl rfl rfl rfl rfl ⟨rfl, rfl, rfl, rfl, rfl⟩ rfl rfl rfl rfl rfl named_is Tryz.func8 closed
  (of_decide_eq_true (by kernel_rfl)) (by unfold Func.isWrapper; first | (rw [if_pos (by decide +kernel)]; kernel_rfl) | (rw [if_neg (by decide +kernel)]; exact ⟨rfl, rfl⟩))
  (fun os started H enc _ => lifted os started H enc)
theorem proved : Rows.TopSnapshotCardSaid :=
 Claim7.holds_tied_plain_at .later [] Rows.topSnapshotCard.laidKinds true Rows.topSnapshotCard.stood.harness true
  over (fun _ h => by cases h) wf_text (fun _ h => by cases h) topSnapshot_row_tie rfl ⟨rfl, rfl⟩ main_is rfl
  (fun f fn hf hfn => by
   obtain rfl : f = 8 := Option.some.inj (named_is.symm.trans hf) |>.symm
   obtain rfl : fn = Tryz.f8 := (Option.some.inj (Tryz.func8.symm.trans hfn)).symm
   exact ⟨looks_is, fun j t ht => by
    rw [Tryz.params8] at ht
    have hm : t ∈ [22, 79] := by
     have := Array.mem_of_getElem? ht
     simpa using this
    have hall : ([22, 79].all fun t => Tryz.prog.wantsStandIn t == false) = true := by kernel_rfl
    have := List.all_eq_true.1 hall t hm
    exact eq_of_beq this⟩)
  goes_is
#print axioms proved
end Go.Proofs.YtghineciiljeoaaGreatDoor.topSnapshot
