/- The statement ClientKeys, closed: the walk by the law's contract. -/
import Derived.Test.YtdinpgnjnleioaaGreatDoorKL21
import Derived.Test.YtdinpgnjnleioaaGreatDoorKWrap
import Derived.Test.YtdinpgnjnleioaaGreatDoorKSch
import Derived.Test.YtdinpgnjnleioaaGreatDoorRows
import Derived.ProofKit
import Derived.ShutString
import Derived.ChangeOld
import Derived.Deep.Matrix
import Derived.Test.YtdinpgnjnleioaaGreatDoorCards
import Derived.Test.YtdinpgnjnleioaaGreatDoorTie
import Derived.MakeChecks
import Derived.Lib.LaidU8
import Derived.JoinedOf
import Derived.SevenTiedAt
import Derived.Shelf.Vars
set_option linter.unusedVariables false
namespace Go.Proofs.YtdinpgnjnleioaaGreatDoor.clientKeys
open Go
open Go.ChangeShapes Go.WideShapes Go.ChangeAt Go.RowKit
theorem own : ownKnob Tryz.prog.godebug = none := by kernel_rfl
theorem laidOut : laidOutB Tryz.prog = true := by kernel_rfl
theorem tab_of {W : World} (h : laidMetH Tryz.prog Rows.clientKeysRow.laid W) : Tab W := by
 rw [MakeChecks.laidMetH_plain _ _ _ (by kernel_rfl)] at h
 obtain ⟨g, t, cs, fuel, p, hg, hty, hvar, hd⟩ := Lib.laidMet.reads h (n := "internal/strconv.uint64pow10") (d := Lib.tabData .u64 Lib.pow10Tab) (List.getElem_mem (l := Rows.clientKeysRow.laid) (n := 2) (by decide))
 have hg' : Tryz.prog.globalNamed "internal/strconv.uint64pow10" = some (1 : Nat) := by kernel_rfl
 obtain rfl := Option.some.inj (hg'.symm.trans hg)
 have hty' : (Tryz.prog.globals[(1 : Nat)]?).map (·.type) = some 308 := by kernel_rfl
 obtain rfl := Option.some.inj (hty'.symm.trans hty)
 unfold Tab Lib.TabIs
 rw [hvar, ← Lib.cells_of_tab (t := 308) (n := 20) (e := 62) (by kernel_rfl) (by kernel_rfl) (by kernel_rfl) (by kernel_rfl) hd]
theorem env_of {W : World} (h : laidMetH Tryz.prog Rows.clientKeysRow.laid W) (hsh : W.ShapedOpen Tryz.prog) : Txt.Env W :=
 ⟨tab_of h, cell_of_shapedOpen_int (P := Tryz.prog) (g := 0) (t := 3) (zero := #[.int .i64 0]) hsh (of_decide_eq_true (by kernel_rfl)) (by kernel_rfl) rfl (by kernel_rfl) (by kernel_rfl) Tryz.underlying3⟩
set_option maxRecDepth 100000 in
theorem lifted (os : Os) (started : os.Started) (H : Type) (enc : TypeId × Value → H) :
 ReturnsInHanded {} Tryz.checked os 5 .any (fun w args => (Rows.clientKeysSpec.pre enc Tryz.prog Tryz.f5 Rows.clientKeysRow.domain false w args ∧ laidMetH Tryz.prog Rows.clientKeysRow.laid w) ∧ sizedMet enc Tryz.prog Tryz.f5 (OpenSpec.ofChange Rows.clientKeysSpec) false w args) (Rows.clientKeysSpec.post enc Tryz.prog Tryz.f5 false true false false) := by
 refine Go.CW.handed_and_shaped (C := Tryz.checked) (X := fun w _ => laidMetH Tryz.prog Rows.clientKeysRow.laid w) (fun _ _ _ hh h => h.of_heap hh) own started (by kernel_rfl) Tryz.func5
  (Go.CW.witness_shaped (enc := enc) (C := Tryz.checked) (X := fun w _ => laidMetH Tryz.prog Rows.clientKeysRow.laid w) (World.laidAll Tryz.prog os Rows.clientKeysRow.laid) #[.int .u64 0, .int .u8 0, .slice none 0 0] 8 (World.laidAll_os _ _ _) (World.shaped_of_ZipB (by kernel_rfl) (by kernel_rfl)) (by kernel_rfl) (by kernel_rfl) (by kernel_rfl)
   (by rw [MakeChecks.laidMetH_plain _ _ _ (by kernel_rfl)]; exact laidMet_laidAll _ (by kernel_rfl) (by kernel_rfl))) ?_
 intro W base args ds gs before hval0 hW hL hsh
 have hval : ∀ (j : Nat) t v, Tryz.f5.params[j]? = some t → args[j]? = some v → Value.okWide Tryz.prog W .any base t v := hval0
 have hW' := hW
 obtain ⟨p, q, hA0, hV, rfl, hfz, hnd⟩ := hW
 have hA : DataW.TrodAll enc Tryz.prog W 0 (fun _ => true) true Tryz.f5.params.toList args.toList ds p := hA0
 rw [Tryz.params5] at hA hval
 obtain ⟨v0, vs0, d0, ds0, p0, q0, hargs, rfl, rfl, h0, r0⟩ := trodAll_cons hA
 obtain ⟨v1, vs1, d1, ds1, p1, q1, rfl, rfl, rfl, h1, r1⟩ := trodAll_cons r0
 obtain ⟨v2, vs2, d2, ds2, p2, q2, rfl, rfl, rfl, h2, r2⟩ := trodAll_cons r1
 obtain ⟨rfl, rfl, rfl⟩ := trodAll_nil r2
 obtain rfl : args = #[v0, v1, v2] := by cases args; simp_all
 obtain ⟨rfl, rfl⟩ := trodVars_none hV
 have k0 := h0
 have lt0 : ∀ x ∈ p0, x.block < W.heap.size := by obtain ⟨m, hm⟩ := k0; exact DataW.trod_lt m _ _ _ hm
 have k1 := h1
 have lt1 : ∀ x ∈ p1, x.block < W.heap.size := by obtain ⟨m, hm⟩ := k1; exact DataW.trod_lt m _ _ _ hm
 have k2 := h2
 have lt2 : ∀ x ∈ p2, x.block < W.heap.size := by obtain ⟨m, hm⟩ := k2; exact DataW.trod_lt m _ _ _ hm
 obtain ⟨a0, rfl, rfl, rfl, w0⟩ := open_int Tryz.underlying62 (hval 0 62 v0 rfl rfl) h0
 obtain ⟨a1, rfl, rfl, rfl, w1⟩ := open_int Tryz.underlying5 (hval 1 5 v1 rfl rfl) h1
 obtain ⟨a2, len2, cap2, rfl⟩ := okWide_slice Tryz.underlying33 (hval 2 33 v2 rfl rfl)
 obtain ⟨bs2, hr2⟩ : ∃ bs, Go.CW.RdB W (.slice a2 len2 cap2) bs := by
  obtain ⟨fuel, hf⟩ := h2
  exact Go.CW.raw_bytes (fun _ => rfl) (t := 33) (e := 5) (by kernel_rfl) (by kernel_rfl) (by kernel_rfl) ⟨fuel, _, hf⟩
 clear hA0 hval0
 refine (Law.calls (Pip.clientKeys_s (env_of hL hsh) (Go.CW.Fits.of_wf w0) (Go.CW.Fits.of_wf w1) hr2)).mono fun e W' ⟨he, bel⟩ => ?_
 subst he
 exact ⟨_, rfl, _, _, _, [], _, [], hW', trodAll_mk1 (shut_bool Tryz.underlying4 _), (trodAll_cons_mk (Below.trod laidOut (by kernel_rfl) (of_decide_eq_true (by kernel_rfl)) k0 bel lt0) (trodAll_cons_mk (Below.trod laidOut (by kernel_rfl) (of_decide_eq_true (by kernel_rfl)) k1 bel lt1) (trodAll_cons_mk (Below.trod laidOut (by kernel_rfl) (of_decide_eq_true (by kernel_rfl)) k2 bel lt2) trodAll_mk0))), rfl, bel.frame _, fun h => by cases h⟩
theorem and_tt {a b : Bool} (h : a = true) (k : b = true) : (a && b) = true := by rw [h, k]; rfl
theorem j1 : (Rows.clientKeysRow.wf (OpenSpec.ofChange Rows.clientKeysSpec)) = true := by kernel_rfl
theorem j2 : (laidOutB Tryz.prog) = true := by kernel_rfl
theorem j3 : (mapsRowed Tryz.prog) = true := by kernel_rfl
theorem j4 : (Tryz.f5.params.all (Tryz.prog.readableRec ·)) = true := by kernel_rfl
theorem j5 : (namedTie Tryz.prog Rows.clientKeysRow.named Rows.clientKeysSpec.vars) = true := by kernel_rfl
theorem j6 : ((Rows.clientKeysRow.stops == [])) = true := by kernel_rfl
theorem j7 : ((Tryz.prog.stops == [])) = true := by kernel_rfl
theorem j8 : ((Rows.clientKeysRow.knobs == [])) = true := by kernel_rfl
theorem j9 : ((Tryz.prog.stopKnobs == [])) = true := by kernel_rfl
theorem j10 : ((Rows.clientKeysRow.inPlace == Tryz.prog.inPlace 5)) = true := by kernel_rfl
theorem j11 : ((Rows.clientKeysRow.unfollowed == Tryz.prog.unfollowed 5)) = true := by kernel_rfl
theorem j12 : ((Rows.clientKeysRow.recurses == Tryz.prog.recurses 5)) = true := by kernel_rfl
theorem j13 : ((Rows.clientKeysRow.named == Tryz.prog.varsNamed 5)) = true := by kernel_rfl
theorem j14 : ((Rows.clientKeysRow.maps == (Tryz.f5.params.toList ++ Rows.clientKeysSpec.plain.varTypes Tryz.prog).any (Tryz.prog.mapsRec ·))) = true := by kernel_rfl
theorem j15 : ((Rows.clientKeysRow.ifaces == (Tryz.f5.params.toList ++ Rows.clientKeysSpec.plain.varTypes Tryz.prog).any (Tryz.prog.ifacesRec ·))) = true := by kernel_rfl
theorem j16 : ((Rows.clientKeysRow.mapsOut == Tryz.prog.mapsAmong Tryz.f5.resultTypes.toList)) = true := by kernel_rfl
theorem j17 : ((Rows.clientKeysRow.loops == (Tryz.f5.params.toList ++ Rows.clientKeysSpec.plain.varTypes Tryz.prog).any (Tryz.prog.loopsFrom ·))) = true := by kernel_rfl
theorem j18 : ((Rows.clientKeysRow.wideKeys == (Tryz.f5.params.toList ++ Rows.clientKeysSpec.plain.varTypes Tryz.prog ++ Tryz.f5.resultTypes.toList).any (Tryz.prog.wideKeysFrom ·))) = true := by kernel_rfl
theorem j19 : (Rows.clientKeysSpec.vars.all (Tryz.prog.varReadable ·)) = true := by kernel_rfl
theorem j20 : (Tryz.f5.resultTypes.all (fun t => Tryz.prog.readableRec t && decide (t < Tryz.prog.types.size))) = true := by kernel_rfl
theorem j21 : ((Rows.clientKeysRow.ifacesOut == Tryz.f5.resultTypes.toList.any (Tryz.prog.ifacesRec ·))) = true := by kernel_rfl
theorem j22 : ((Rows.clientKeysRow.loopsOut == Tryz.f5.resultTypes.toList.any (Tryz.prog.loopsFrom ·))) = true := by kernel_rfl
theorem j23 : ((Rows.clientKeysRow.plainKeys == Tryz.prog.plainKeys)) = true := by kernel_rfl
theorem j24 : (Rows.clientKeysRow.shortTexts.isNone) = true := by kernel_rfl
theorem j25 : (Tryz.prog.stopsHeard) = true := by kernel_rfl
theorem j26 : (Tryz.prog.mayEnter) = true := by kernel_rfl
theorem j27 : ((Rows.clientKeysRow.lifted == Tryz.prog.liftsFinal)) = true := by kernel_rfl
theorem j28 : ((Tryz.prog.make == some Rows.clientKeysRow.make)) = true := by kernel_rfl
theorem j29 : ((Rows.clientKeysRow.kinds == (if Rows.clientKeysRow.domain.isEmpty then [] else Tryz.f5.params.toList.map fun t => match Tryz.prog.underlying t with | some (.int k) => some k | _ => none))) = true := by kernel_rfl
theorem j30 : ((Rows.clientKeysRow.pinned == Rows.clientKeysRow.pinnedBy)) = true := by kernel_rfl
theorem j31 : ((Rows.clientKeysRow.veiled == (Tryz.f5.params.toList ++ Rows.clientKeysSpec.plain.varTypes Tryz.prog ++ Tryz.f5.resultTypes.toList).any (Tryz.prog.veiledRec ·))) = true := by kernel_rfl
theorem j32 : (Rows.clientKeysRow.veiledFits Tryz.prog Tryz.f5.params.toList (Tryz.f5.params.toList ++ Rows.clientKeysSpec.plain.varTypes Tryz.prog ++ Tryz.f5.resultTypes.toList)) = true := by kernel_rfl
set_option maxRecDepth 1000000 in
theorem closed : joinedFacts Tryz.pinned.checked.prog 5 Tryz.f5 Rows.clientKeysSpec Rows.clientKeysRow = true := (and_tt (and_tt (and_tt (and_tt (and_tt (and_tt (and_tt (and_tt (and_tt (and_tt (and_tt (and_tt (and_tt (and_tt (and_tt (and_tt (and_tt (and_tt (and_tt (and_tt (and_tt (and_tt (and_tt (and_tt (and_tt (and_tt (and_tt (and_tt (and_tt (and_tt (and_tt j1 j2) j3) j4) j5) j6) j7) j8) j9) j10) j11) j12) j13) j14) j15) j16) j17) j18) j19) j20) j21) j22) j23) j24) j25) j26) j27) j28) j29) j30) j31) j32)
theorem named_is : Tryz.prog.funcNamed "gemel/gemellaw21.ClientKeys" = some 5 := by kernel_rfl
theorem wf_text : Rows.clientKeysRow.wfByText (OpenSpec.ofChange Rows.clientKeysSpec) = true := by kernel_rfl
theorem main_is : Tryz.pinned.checked.prog.mainIs = some (Rows.clientKeysCard.stood.harness.1, Rows.clientKeysCard.stood.harness.2.toList) := by kernel_rfl
theorem looks_is : true = Tryz.pinned.checked.prog.looks [] := by kernel_rfl
theorem goes_is : false = Rows.clientKeysRow.goesBy Tryz.pinned.checked.prog := by kernel_rfl
theorem over : Rows.clientKeysRow.holds Tryz.pinned (OpenSpec.ofChange Rows.clientKeysSpec) :=
 OpenClaim.holds_of_wide 5 Tryz.f5 rfl rfl rfl rfl rfl rfl rfl ⟨rfl, rfl, rfl, rfl, rfl⟩ rfl rfl rfl rfl rfl named_is Tryz.func5 closed
  (of_decide_eq_true (by kernel_rfl)) (by unfold Func.isWrapper; first | (rw [if_pos (by decide +kernel)]; kernel_rfl) | (rw [if_neg (by decide +kernel)]; exact ⟨rfl, rfl⟩))
  (fun os started H enc _ => lifted os started H enc)
theorem proved : Rows.ClientKeysCardSaid :=
 Claim7.holds_tied_plain_at .later [] Rows.clientKeysCard.laidKinds true Rows.clientKeysCard.stood.harness true
  over (fun _ h => by cases h) wf_text (fun _ h => by cases h) clientKeys_row_tie rfl ⟨rfl, rfl⟩ main_is rfl
  (fun f fn hf hfn => by
   obtain rfl : f = 5 := Option.some.inj (named_is.symm.trans hf) |>.symm
   obtain rfl : fn = Tryz.f5 := (Option.some.inj (Tryz.func5.symm.trans hfn)).symm
   exact ⟨looks_is, fun j t ht => by
    rw [Tryz.params5] at ht
    have hm : t ∈ [62, 5, 33] := by
     have := Array.mem_of_getElem? ht
     simpa using this
    have hall : ([62, 5, 33].all fun t => Tryz.prog.wantsStandIn t == false) = true := by kernel_rfl
    have := List.all_eq_true.1 hall t hm
    exact eq_of_beq this⟩)
  goes_is
#print axioms proved
end Go.Proofs.YtdinpgnjnleioaaGreatDoor.clientKeys
