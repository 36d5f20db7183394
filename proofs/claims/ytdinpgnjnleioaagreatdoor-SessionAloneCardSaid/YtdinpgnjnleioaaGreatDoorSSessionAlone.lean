/- The statement SessionAlone, closed: the walk by the law's contract. -/
import Derived.Test.YtdinpgnjnleioaaGreatDoorSL20
import Derived.Test.YtdinpgnjnleioaaGreatDoorRows
import Derived.ProofKit
import Derived.ShutString
import Derived.ChangeOld
import Derived.Deep.Matrix
import Derived.Test.YtdinpgnjnleioaaGreatDoorCards
import Derived.Test.YtdinpgnjnleioaaGreatDoorTie
import Derived.MakeChecks
import Derived.Lib.LaidU8
import Derived.JoinedOf
import Derived.SevenTiedAt
import Derived.Test.YtdinpgnjnleioaaGreatDoorSWrap
import Derived.Shelf.Vars
set_option linter.unusedVariables false
namespace Go.Proofs.YtdinpgnjnleioaaGreatDoor.sessionAlone
open ChangeShapes WideShapes ChangeAt RowKit
theorem own:ownKnob Tryz.prog.godebug=none:=by kernel_rfl
theorem laidOut:laidOutB Tryz.prog=true:=by kernel_rfl
theorem tab_of {W:World} (h:laidMetH Tryz.prog Rows.sessionAloneRow.laid W):Tab W:=by
 rw[MakeChecks.laidMetH_plain _ _ _ (by kernel_rfl)]at h
 obtain⟨g,t,cs,fuel,p,hg,hty,hvar,hd⟩:=Lib.laidMet.reads h (n:= "internal/strconv.uint64pow10") (d:=Lib.tabData .u64 Lib.pow10Tab) (List.getElem_mem (l:=Rows.sessionAloneRow.laid) (n:=2) (by decide))
 have hg':Tryz.prog.globalNamed "internal/strconv.uint64pow10" =some (1:Nat):=by kernel_rfl
 obtain rfl:=Option.some.inj (hg'.symm.trans hg)
 have hty':(Tryz.prog.globals[(1:Nat)]?).map (·.type)=some 308:=by kernel_rfl
 obtain rfl:=Option.some.inj (hty'.symm.trans hty)
 unfold Tab Lib.TabIs
 rw[hvar,←Lib.cells_of_tab (t:=308) (n:=20) (e:=62) (by kernel_rfl) (by kernel_rfl) (by kernel_rfl) (by kernel_rfl) hd]
theorem env_of {W:World} (h:laidMetH Tryz.prog Rows.sessionAloneRow.laid W) (hsh:W.ShapedOpen Tryz.prog):Txt.Env W:=
 ⟨tab_of h,cell_of_shapedOpen_int (P:=Tryz.prog) (g:=0) (t:=3) (zero:= #[.int .i64 0]) hsh (of_decide_eq_true (by kernel_rfl)) (by kernel_rfl) rfl (by kernel_rfl) (by kernel_rfl) Tryz.underlying3⟩
set_option maxRecDepth 100000 in
theorem lifted (os:Os) (started:os.Started) (H:Type) (enc:TypeId×Value->H):
 ReturnsInHanded {} Tryz.checked os 3 .any (λw args=>(Rows.sessionAloneSpec.pre enc Tryz.prog Tryz.f3 Rows.sessionAloneRow.domain false w args/\laidMetH Tryz.prog Rows.sessionAloneRow.laid w)/\sizedMet enc Tryz.prog Tryz.f3 (OpenSpec.ofChange Rows.sessionAloneSpec) false w args) (Rows.sessionAloneSpec.post enc Tryz.prog Tryz.f3 false true false false):=by
 refine Go.CW.handed_and_shaped (C:=Tryz.checked) (X:=λw _=>laidMetH Tryz.prog Rows.sessionAloneRow.laid w) (λ_ _ _ hh h=>h.of_heap hh) own started (by kernel_rfl) Tryz.func3
  (Go.CW.witness_shaped (enc:=enc) (C:=Tryz.checked) (X:=λw _=>laidMetH Tryz.prog Rows.sessionAloneRow.laid w) (World.laidAll Tryz.prog os Rows.sessionAloneRow.laid) #[.slice none 0 0,.slice none 0 0] 8 (World.laidAll_os _ _ _) (World.shaped_of_ZipB (by kernel_rfl) (by kernel_rfl)) (by kernel_rfl) (by kernel_rfl) (by kernel_rfl)
   (by rw[MakeChecks.laidMetH_plain _ _ _ (by kernel_rfl)];exact laidMet_laidAll _ (by kernel_rfl) (by kernel_rfl))) ?_
 intro W base args ds gs before hval0 hW hL hsh
 have hval:∀(j:Nat) t v,Tryz.f3.params[j]? =some t->args[j]? =some v->Value.okWide Tryz.prog W .any base t v:=hval0
 have hW':=hW
 obtain⟨p,q,hA0,hV,rfl,hfz,hnd⟩:=hW
 have hA:DataW.TrodAll enc Tryz.prog W 0 (λ_=>true) true Tryz.f3.params.toList args.toList ds p:=hA0
 rw[Tryz.params3]at hA hval
 obtain⟨v0,vs0,d0,ds0,p0,q0,hargs,rfl,rfl,h0,r0⟩:=trodAll_cons hA
 obtain⟨v1,vs1,d1,ds1,p1,q1,rfl,rfl,rfl,h1,r1⟩:=trodAll_cons r0
 obtain⟨rfl,rfl,rfl⟩:=trodAll_nil r1
 obtain rfl:args= #[v0,v1]:=by cases args;simp_all
 obtain⟨rfl,rfl⟩:=trodVars_none hV
 have k0:=h0
 have lt0:∀x∈p0,x.block < W.heap.size:=by obtain⟨m,hm⟩:=k0;exact DataW.trod_lt m _ _ _ hm
 have k1:=h1
 have lt1:∀x∈p1,x.block < W.heap.size:=by obtain⟨m,hm⟩:=k1;exact DataW.trod_lt m _ _ _ hm
 obtain⟨a0,len0,cap0,rfl⟩:=okWide_slice Tryz.underlying22 (hval 0 22 v0 rfl rfl)
 obtain⟨cs0,hr0⟩:∃l,Go.Proofs.YtdinpgnjnleioaaGreatDoor.Rs.Says W (.slice a0 len0 cap0) l:=by
  obtain⟨fuel,hf⟩:=h0
  exact Go.Proofs.YtdinpgnjnleioaaGreatDoor.Rs.open_says (λ_=>rfl) hf
 obtain⟨a1,len1,cap1,rfl⟩:=okWide_slice Tryz.underlying22 (hval 1 22 v1 rfl rfl)
 obtain⟨cs1,hr1⟩:∃l,Go.Proofs.YtdinpgnjnleioaaGreatDoor.Rs.Says W (.slice a1 len1 cap1) l:=by
  obtain⟨fuel,hf⟩:=h1
  exact Go.Proofs.YtdinpgnjnleioaaGreatDoor.Rs.open_says (λ_=>rfl) hf
 clear hA0 hval0
 refine(Law.calls (Rs.sessionAlone_s (env_of hL hsh) hr0 hr1)).mono λe W' ⟨he,bel⟩=>?_
 subst he
 exact⟨_,rfl,_,_,_,[],_,[],hW',trodAll_mk1 (shut_bool Tryz.underlying4 _),(trodAll_cons_mk (Below.trod laidOut (by kernel_rfl) (of_decide_eq_true (by kernel_rfl)) k0 bel lt0) (trodAll_cons_mk (Below.trod laidOut (by kernel_rfl) (of_decide_eq_true (by kernel_rfl)) k1 bel lt1) trodAll_mk0)),rfl,bel.frame _,λh=>by cases h⟩
theorem and_tt {a b:Bool} (h:a=true) (k:b=true):(a&&b)=true:=by rw[h,k];rfl
theorem j1:(Rows.sessionAloneRow.wf (OpenSpec.ofChange Rows.sessionAloneSpec))=true:=by kernel_rfl
theorem j2:(laidOutB Tryz.prog)=true:=by kernel_rfl
theorem j3:(mapsRowed Tryz.prog)=true:=by kernel_rfl
theorem j4:(Tryz.f3.params.all (Tryz.prog.readableRec ·))=true:=by kernel_rfl
theorem j5:(namedTie Tryz.prog Rows.sessionAloneRow.named Rows.sessionAloneSpec.vars)=true:=by kernel_rfl
theorem j6:((Rows.sessionAloneRow.stops==[]))=true:=by kernel_rfl
theorem j7:((Tryz.prog.stops==[]))=true:=by kernel_rfl
theorem j8:((Rows.sessionAloneRow.knobs==[]))=true:=by kernel_rfl
theorem j9:((Tryz.prog.stopKnobs==[]))=true:=by kernel_rfl
theorem j10:((Rows.sessionAloneRow.inPlace==Tryz.prog.inPlace 3))=true:=by kernel_rfl
theorem j11:((Rows.sessionAloneRow.unfollowed==Tryz.prog.unfollowed 3))=true:=by kernel_rfl
theorem j12:((Rows.sessionAloneRow.recurses==Tryz.prog.recurses 3))=true:=by kernel_rfl
theorem j13:((Rows.sessionAloneRow.named==Tryz.prog.varsNamed 3))=true:=by kernel_rfl
theorem j14:((Rows.sessionAloneRow.maps==(Tryz.f3.params.toList++Rows.sessionAloneSpec.plain.varTypes Tryz.prog).any (Tryz.prog.mapsRec ·)))=true:=by kernel_rfl
theorem j15:((Rows.sessionAloneRow.ifaces==(Tryz.f3.params.toList++Rows.sessionAloneSpec.plain.varTypes Tryz.prog).any (Tryz.prog.ifacesRec ·)))=true:=by kernel_rfl
theorem j16:((Rows.sessionAloneRow.mapsOut==Tryz.prog.mapsAmong Tryz.f3.resultTypes.toList))=true:=by kernel_rfl
theorem j17:((Rows.sessionAloneRow.loops==(Tryz.f3.params.toList++Rows.sessionAloneSpec.plain.varTypes Tryz.prog).any (Tryz.prog.loopsFrom ·)))=true:=by kernel_rfl
theorem j18:((Rows.sessionAloneRow.wideKeys==(Tryz.f3.params.toList++Rows.sessionAloneSpec.plain.varTypes Tryz.prog++Tryz.f3.resultTypes.toList).any (Tryz.prog.wideKeysFrom ·)))=true:=by kernel_rfl
theorem j19:(Rows.sessionAloneSpec.vars.all (Tryz.prog.varReadable ·))=true:=by kernel_rfl
theorem j20:(Tryz.f3.resultTypes.all (λt=>Tryz.prog.readableRec t&&decide (t < Tryz.prog.types.size)))=true:=by kernel_rfl
theorem j21:((Rows.sessionAloneRow.ifacesOut==Tryz.f3.resultTypes.toList.any (Tryz.prog.ifacesRec ·)))=true:=by kernel_rfl
theorem j22:((Rows.sessionAloneRow.loopsOut==Tryz.f3.resultTypes.toList.any (Tryz.prog.loopsFrom ·)))=true:=by kernel_rfl
theorem j23:((Rows.sessionAloneRow.plainKeys==Tryz.prog.plainKeys))=true:=by kernel_rfl
theorem j24:(Rows.sessionAloneRow.shortTexts.isNone)=true:=by kernel_rfl
theorem j25:(Tryz.prog.stopsHeard)=true:=by kernel_rfl
theorem j26:(Tryz.prog.mayEnter)=true:=by kernel_rfl
theorem j27:((Rows.sessionAloneRow.lifted==Tryz.prog.liftsFinal))=true:=by kernel_rfl
theorem j28:((Tryz.prog.make==some Rows.sessionAloneRow.make))=true:=by kernel_rfl
theorem j29:((Rows.sessionAloneRow.kinds==(if Rows.sessionAloneRow.domain.isEmpty then[] else Tryz.f3.params.toList.map λt=>match Tryz.prog.underlying t with|some (.int k)=>some k|_=>none)))=true:=by kernel_rfl
theorem j30:((Rows.sessionAloneRow.pinned==Rows.sessionAloneRow.pinnedBy))=true:=by kernel_rfl
theorem j31:((Rows.sessionAloneRow.veiled==(Tryz.f3.params.toList++Rows.sessionAloneSpec.plain.varTypes Tryz.prog++Tryz.f3.resultTypes.toList).any (Tryz.prog.veiledRec ·)))=true:=by kernel_rfl
theorem j32:(Rows.sessionAloneRow.veiledFits Tryz.prog Tryz.f3.params.toList (Tryz.f3.params.toList++Rows.sessionAloneSpec.plain.varTypes Tryz.prog++Tryz.f3.resultTypes.toList))=true:=by kernel_rfl
set_option maxRecDepth 1000000 in
theorem closed:joinedFacts Tryz.pinned.checked.prog 3 Tryz.f3 Rows.sessionAloneSpec Rows.sessionAloneRow=true:=(and_tt (and_tt (and_tt (and_tt (and_tt (and_tt (and_tt (and_tt (and_tt (and_tt (and_tt (and_tt (and_tt (and_tt (and_tt (and_tt (and_tt (and_tt (and_tt (and_tt (and_tt (and_tt (and_tt (and_tt (and_tt (and_tt (and_tt (and_tt (and_tt (and_tt (and_tt j1 j2) j3) j4) j5) j6) j7) j8) j9) j10) j11) j12) j13) j14) j15) j16) j17) j18) j19) j20) j21) j22) j23) j24) j25) j26) j27) j28) j29) j30) j31) j32)
theorem named_is:Tryz.prog.funcNamed "gemel/gemellaw20.SessionAlone" =some 3:=by kernel_rfl
theorem wf_text:Rows.sessionAloneRow.wfByText (OpenSpec.ofChange Rows.sessionAloneSpec)=true:=by kernel_rfl
theorem main_is:Tryz.pinned.checked.prog.mainIs=some (Rows.sessionAloneCard.stood.harness.1,Rows.sessionAloneCard.stood.harness.2.toList):=by kernel_rfl
theorem looks_is:true=Tryz.pinned.checked.prog.looks []:=by kernel_rfl
theorem goes_is:false=Rows.sessionAloneRow.goesBy Tryz.pinned.checked.prog:=by kernel_rfl
theorem over:Rows.sessionAloneRow.holds Tryz.pinned (OpenSpec.ofChange Rows.sessionAloneSpec):=
 OpenClaim.holds_of_wide 3 Tryz.f3 rfl rfl rfl rfl rfl rfl rfl ⟨rfl,rfl,rfl,rfl,rfl⟩ rfl rfl rfl rfl rfl named_is Tryz.func3 closed
  (of_decide_eq_true (by kernel_rfl)) (by unfold Func.isWrapper;first|(rw[if_pos (by decide+kernel)];kernel_rfl)|(rw[if_neg (by decide+kernel)];exact⟨rfl,rfl⟩))
  (λos started H enc _=>lifted os started H enc)
theorem proved:Rows.SessionAloneCardSaid:=
 Claim7.holds_tied_plain_at .later [] Rows.sessionAloneCard.laidKinds true Rows.sessionAloneCard.stood.harness true
  over (λ_ h=>by cases h) wf_text (λ_ h=>by cases h) sessionAlone_row_tie rfl ⟨rfl,rfl⟩ main_is rfl
  (λf fn hf hfn=>by
   obtain rfl:f=3:=Option.some.inj (named_is.symm.trans hf) |>.symm
   obtain rfl:fn=Tryz.f3:=(Option.some.inj (Tryz.func3.symm.trans hfn)).symm
   exact⟨looks_is,λj t ht=>by
    rw[Tryz.params3]at ht
    have hm:t∈[22,22]:=by
     have:=Array.mem_of_getElem? ht
     simpa using this
    have hall:([22,22].all λt=>Tryz.prog.wantsStandIn t==false)=true:=by kernel_rfl
    have:=List.all_eq_true.1 hall t hm
    exact eq_of_beq this⟩)
  goes_is
#print axioms proved
end Go.Proofs.YtdinpgnjnleioaaGreatDoor.sessionAlone
