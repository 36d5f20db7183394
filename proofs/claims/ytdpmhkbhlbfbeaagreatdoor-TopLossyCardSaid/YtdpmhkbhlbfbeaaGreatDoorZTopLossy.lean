/- The statement TopLossy, closed: the walk by the law's contract. -/
import Derived.Test.YtdpmhkbhlbfbeaaGreatDoorZLsL
import Derived.Test.YtdpmhkbhlbfbeaaGreatDoorRows
import Derived.ProofKit
import Derived.ShutString
import Derived.ChangeOld
import Derived.Deep.Matrix
import Derived.Test.YtdpmhkbhlbfbeaaGreatDoorCards
import Derived.Test.YtdpmhkbhlbfbeaaGreatDoorTie
import Derived.MakeChecks
import Derived.Lib.LaidU8
import Derived.JoinedOf
import Derived.SevenTiedAt
import Derived.Test.YtdpmhkbhlbfbeaaGreatDoorZWrap
import Derived.Shelf.Vars
set_option linter.unusedVariables false
namespace Go.Proofs.YtdpmhkbhlbfbeaaGreatDoor.topLossy
open ChangeShapes WideShapes ChangeAt RowKit
theorem own:ownKnob Tryz.prog.godebug=none:=by kernel_rfl
theorem laidOut:laidOutB Tryz.prog=true:=by kernel_rfl
theorem tab_of {W:World} (h:laidMetH Tryz.prog Rows.topLossyRow.laid W):Tab W:=by
 rw[MakeChecks.laidMetH_plain _ _ _ (by kernel_rfl)]at h
 obtain⟨g,t,cs,fuel,p,hg,hty,hvar,hd⟩:=Lib.laidMet.reads h (n:= "internal/strconv.uint64pow10") (d:=Lib.tabData .u64 Lib.pow10Tab) (List.getElem_mem (l:=Rows.topLossyRow.laid) (n:=2) (by decide))
 have hg':Tryz.prog.globalNamed "internal/strconv.uint64pow10" =some (1:Nat):=by kernel_rfl
 obtain rfl:=Option.some.inj (hg'.symm.trans hg)
 have hty':(Tryz.prog.globals[(1:Nat)]?).map (·.type)=some 283:=by kernel_rfl
 obtain rfl:=Option.some.inj (hty'.symm.trans hty)
 unfold Tab Lib.TabIs
 rw[hvar,←Lib.cells_of_tab (t:=283) (n:=20) (e:=38) (by kernel_rfl) (by kernel_rfl) (by kernel_rfl) (by kernel_rfl) hd]
theorem env_of {W:World} (h:laidMetH Tryz.prog Rows.topLossyRow.laid W) (hsh:W.ShapedOpen Tryz.prog):Txt.Env W:=
 ⟨tab_of h,cell_of_shapedOpen_int (P:=Tryz.prog) (g:=0) (t:=3) (zero:= #[.int .i64 0]) hsh (of_decide_eq_true (by kernel_rfl)) (by kernel_rfl) rfl (by kernel_rfl) (by kernel_rfl) Tryz.underlying3⟩
set_option maxRecDepth 100000 in
theorem lifted (os:Os) (started:os.Started) (H:Type) (enc:TypeId×Value->H):
 ReturnsInHanded {} Tryz.checked os 3 .any (λw args=>(Rows.topLossySpec.pre enc Tryz.prog Tryz.f3 Rows.topLossyRow.domain false w args/\laidMetH Tryz.prog Rows.topLossyRow.laid w)/\sizedMet enc Tryz.prog Tryz.f3 (OpenSpec.ofChange Rows.topLossySpec) false w args) (Rows.topLossySpec.post enc Tryz.prog Tryz.f3 false true false false):=by
 refine Go.CW.handed_and_shaped (C:=Tryz.checked) (X:=λw _=>laidMetH Tryz.prog Rows.topLossyRow.laid w) (λ_ _ _ hh h=>h.of_heap hh) own started (by kernel_rfl) Tryz.func3
  (Go.CW.witness_shaped (enc:=enc) (C:=Tryz.checked) (X:=λw _=>laidMetH Tryz.prog Rows.topLossyRow.laid w) (World.laidAll Tryz.prog os Rows.topLossyRow.laid) #[.slice none 0 0,.int .i64 0,.int .i64 0] 8 (World.laidAll_os _ _ _) (World.shaped_of_ZipB (by kernel_rfl) (by kernel_rfl)) (by kernel_rfl) (by kernel_rfl) (by kernel_rfl)
   (by rw[MakeChecks.laidMetH_plain _ _ _ (by kernel_rfl)];exact laidMet_laidAll _ (by kernel_rfl) (by kernel_rfl))) ?_
 intro W base args ds gs before hval0 hW hL hsh
 have hval:∀(j:Nat) t v,Tryz.f3.params[j]? =some t->args[j]? =some v->Value.okWide Tryz.prog W .any base t v:=hval0
 have hW':=hW
 obtain⟨p,q,hA0,hV,rfl,hfz,hnd⟩:=hW
 have hA:DataW.TrodAll enc Tryz.prog W 0 (λ_=>true) true Tryz.f3.params.toList args.toList ds p:=hA0
 rw[Tryz.params3]at hA hval
 obtain⟨v0,vs0,d0,ds0,p0,q0,hargs,rfl,rfl,h0,r0⟩:=trodAll_cons hA
 obtain⟨v1,vs1,d1,ds1,p1,q1,rfl,rfl,rfl,h1,r1⟩:=trodAll_cons r0
 obtain⟨v2,vs2,d2,ds2,p2,q2,rfl,rfl,rfl,h2,r2⟩:=trodAll_cons r1
 obtain⟨rfl,rfl,rfl⟩:=trodAll_nil r2
 obtain rfl:args= #[v0,v1,v2]:=by cases args;simp_all
 obtain⟨rfl,rfl⟩:=trodVars_none hV
 have k0:=h0
 have lt0:∀x∈p0,x.block < W.heap.size:=by obtain⟨m,hm⟩:=k0;exact DataW.trod_lt m _ _ _ hm
 have k1:=h1
 have lt1:∀x∈p1,x.block < W.heap.size:=by obtain⟨m,hm⟩:=k1;exact DataW.trod_lt m _ _ _ hm
 have k2:=h2
 have lt2:∀x∈p2,x.block < W.heap.size:=by obtain⟨m,hm⟩:=k2;exact DataW.trod_lt m _ _ _ hm
 obtain⟨a0,len0,cap0,rfl⟩:=okWide_slice Tryz.underlying22 (hval 0 22 v0 rfl rfl)
 obtain⟨asks0,w0,_⟩:∃acts,Go.CW.RdR Los.Ea W (.slice a0 len0 cap0) acts/\∀x∈acts,True:=by
  obtain⟨fuel,hf⟩:=h0
  refine Go.CW.open_rec Los.Ea Tryz.underlying22 (by kernel_rfl) (λn cs x hx=>?_) hf
  obtain⟨hl,hat⟩:=Go.CW.open_intsS (ks:=[.u8,.u8,.u8]) (by kernel_rfl) hx
  obtain⟨q0,e0,f0⟩:=hat 0 .u8 rfl
  obtain⟨q1,e1,f1⟩:=hat 1 .u8 rfl
  obtain⟨q2,e2,f2⟩:=hat 2 .u8 rfl
  match cs,hl with
  |[c0,c1,c2],_=>
   simp at e0 e1 e2
   subst e0;subst e1;subst e2
   have b8:∀{q:Int},Go.CW.Fits .u8 q->((UInt8.ofNat q.toNat).toNat:Int)=q:=λ{q} h=>by
    have:=Go.CW.Fits.u8 h
    rw[UInt8.toNat_ofNat'];omega
   refine⟨(UInt8.ofNat q0.toNat,UInt8.ofNat q1.toNat,UInt8.ofNat q2.toNat),?_,trivial⟩
   show _=[Value.int .u8 _,Value.int .u8 _,Value.int .u8 _]
   rw[b8 f0,b8 f1,b8 f2]
 obtain⟨a1,rfl,rfl,rfl,w1⟩:=open_int Tryz.underlying3 (hval 1 3 v1 rfl rfl) h1
 obtain⟨a2,rfl,rfl,rfl,w2⟩:=open_int Tryz.underlying3 (hval 2 3 v2 rfl rfl) h2
 clear hA0 hval0
 refine(Law.calls (Los.topLossy_s (env_of hL hsh) w0 (Go.CW.Fits.of_wf w1) (Go.CW.Fits.of_wf w2))).mono λe W' ⟨he,bel⟩=>?_
 subst he
 exact⟨_,rfl,_,_,_,[],_,[],hW',trodAll_mk1 (shut_bool Tryz.underlying4 _),(trodAll_cons_mk (Below.trod laidOut (by kernel_rfl) (of_decide_eq_true (by kernel_rfl)) k0 bel lt0) (trodAll_cons_mk (Below.trod laidOut (by kernel_rfl) (of_decide_eq_true (by kernel_rfl)) k1 bel lt1) (trodAll_cons_mk (Below.trod laidOut (by kernel_rfl) (of_decide_eq_true (by kernel_rfl)) k2 bel lt2) trodAll_mk0))),rfl,bel.frame _,λh=>by cases h⟩
theorem and_tt {a b:Bool} (h:a=true) (k:b=true):(a&&b)=true:=by rw[h,k];rfl
theorem j1:(Rows.topLossyRow.wf (OpenSpec.ofChange Rows.topLossySpec))=true:=by kernel_rfl
theorem j2:(laidOutB Tryz.prog)=true:=by kernel_rfl
theorem j3:(mapsRowed Tryz.prog)=true:=by kernel_rfl
theorem j4:(Tryz.f3.params.all (Tryz.prog.readableRec ·))=true:=by kernel_rfl
theorem j5:(namedTie Tryz.prog Rows.topLossyRow.named Rows.topLossySpec.vars)=true:=by kernel_rfl
theorem j6:((Rows.topLossyRow.stops==[]))=true:=by kernel_rfl
theorem j7:((Tryz.prog.stops==[]))=true:=by kernel_rfl
theorem j8:((Rows.topLossyRow.knobs==[]))=true:=by kernel_rfl
theorem j9:((Tryz.prog.stopKnobs==[]))=true:=by kernel_rfl
theorem j10:((Rows.topLossyRow.inPlace==Tryz.prog.inPlace 3))=true:=by kernel_rfl
theorem j11:((Rows.topLossyRow.unfollowed==Tryz.prog.unfollowed 3))=true:=by kernel_rfl
theorem j12:((Rows.topLossyRow.recurses==Tryz.prog.recurses 3))=true:=by kernel_rfl
theorem j13:((Rows.topLossyRow.named==Tryz.prog.varsNamed 3))=true:=by kernel_rfl
theorem j14:((Rows.topLossyRow.maps==(Tryz.f3.params.toList++Rows.topLossySpec.plain.varTypes Tryz.prog).any (Tryz.prog.mapsRec ·)))=true:=by kernel_rfl
theorem j15:((Rows.topLossyRow.ifaces==(Tryz.f3.params.toList++Rows.topLossySpec.plain.varTypes Tryz.prog).any (Tryz.prog.ifacesRec ·)))=true:=by kernel_rfl
theorem j16:((Rows.topLossyRow.mapsOut==Tryz.prog.mapsAmong Tryz.f3.resultTypes.toList))=true:=by kernel_rfl
theorem j17:((Rows.topLossyRow.loops==(Tryz.f3.params.toList++Rows.topLossySpec.plain.varTypes Tryz.prog).any (Tryz.prog.loopsFrom ·)))=true:=by kernel_rfl
theorem j18:((Rows.topLossyRow.wideKeys==(Tryz.f3.params.toList++Rows.topLossySpec.plain.varTypes Tryz.prog++Tryz.f3.resultTypes.toList).any (Tryz.prog.wideKeysFrom ·)))=true:=by kernel_rfl
theorem j19:(Rows.topLossySpec.vars.all (Tryz.prog.varReadable ·))=true:=by kernel_rfl
theorem j20:(Tryz.f3.resultTypes.all (λt=>Tryz.prog.readableRec t&&decide (t < Tryz.prog.types.size)))=true:=by kernel_rfl
theorem j21:((Rows.topLossyRow.ifacesOut==Tryz.f3.resultTypes.toList.any (Tryz.prog.ifacesRec ·)))=true:=by kernel_rfl
theorem j22:((Rows.topLossyRow.loopsOut==Tryz.f3.resultTypes.toList.any (Tryz.prog.loopsFrom ·)))=true:=by kernel_rfl
theorem j23:((Rows.topLossyRow.plainKeys==Tryz.prog.plainKeys))=true:=by kernel_rfl
theorem j24:(Rows.topLossyRow.shortTexts.isNone)=true:=by kernel_rfl
theorem j25:(Tryz.prog.stopsHeard)=true:=by kernel_rfl
theorem j26:(Tryz.prog.mayEnter)=true:=by kernel_rfl
theorem j27:((Rows.topLossyRow.lifted==Tryz.prog.liftsFinal))=true:=by kernel_rfl
theorem j28:((Tryz.prog.make==some Rows.topLossyRow.make))=true:=by kernel_rfl
theorem j29:((Rows.topLossyRow.kinds==(if Rows.topLossyRow.domain.isEmpty then[] else Tryz.f3.params.toList.map λt=>match Tryz.prog.underlying t with|some (.int k)=>some k|_=>none)))=true:=by kernel_rfl
theorem j30:((Rows.topLossyRow.pinned==Rows.topLossyRow.pinnedBy))=true:=by kernel_rfl
theorem j31:((Rows.topLossyRow.veiled==(Tryz.f3.params.toList++Rows.topLossySpec.plain.varTypes Tryz.prog++Tryz.f3.resultTypes.toList).any (Tryz.prog.veiledRec ·)))=true:=by kernel_rfl
theorem j32:(Rows.topLossyRow.veiledFits Tryz.prog Tryz.f3.params.toList (Tryz.f3.params.toList++Rows.topLossySpec.plain.varTypes Tryz.prog++Tryz.f3.resultTypes.toList))=true:=by kernel_rfl
set_option maxRecDepth 1000000 in
theorem closed:joinedFacts Tryz.pinned.checked.prog 3 Tryz.f3 Rows.topLossySpec Rows.topLossyRow=true:=(and_tt (and_tt (and_tt (and_tt (and_tt (and_tt (and_tt (and_tt (and_tt (and_tt (and_tt (and_tt (and_tt (and_tt (and_tt (and_tt (and_tt (and_tt (and_tt (and_tt (and_tt (and_tt (and_tt (and_tt (and_tt (and_tt (and_tt (and_tt (and_tt (and_tt (and_tt j1 j2) j3) j4) j5) j6) j7) j8) j9) j10) j11) j12) j13) j14) j15) j16) j17) j18) j19) j20) j21) j22) j23) j24) j25) j26) j27) j28) j29) j30) j31) j32)
theorem named_is:Tryz.prog.funcNamed "gemel/gemeltop.TopLossy" =some 3:=by kernel_rfl
theorem wf_text:Rows.topLossyRow.wfByText (OpenSpec.ofChange Rows.topLossySpec)=true:=by kernel_rfl
theorem main_is:Tryz.pinned.checked.prog.mainIs=some (Rows.topLossyCard.stood.harness.1,Rows.topLossyCard.stood.harness.2.toList):=by kernel_rfl
theorem looks_is:true=Tryz.pinned.checked.prog.looks []:=by kernel_rfl
theorem goes_is:false=Rows.topLossyRow.goesBy Tryz.pinned.checked.prog:=by kernel_rfl
theorem over:Rows.topLossyRow.holds Tryz.pinned (OpenSpec.ofChange Rows.topLossySpec):=
 OpenClaim.holds_of_wide 3 Tryz.f3 rfl rfl rfl rfl rfl rfl rfl ⟨rfl,rfl,rfl,rfl,rfl⟩ rfl rfl rfl rfl rfl named_is Tryz.func3 closed
  (of_decide_eq_true (by kernel_rfl)) (by unfold Func.isWrapper;first|(rw[if_pos (by decide+kernel)];kernel_rfl)|(rw[if_neg (by decide+kernel)];exact⟨rfl,rfl⟩))
  (λos started H enc _=>lifted os started H enc)
theorem proved:Rows.TopLossyCardSaid:=
 Claim7.holds_tied_plain_at .later [] Rows.topLossyCard.laidKinds true Rows.topLossyCard.stood.harness true
  over (λ_ h=>by cases h) wf_text (λ_ h=>by cases h) topLossy_row_tie rfl ⟨rfl,rfl⟩ main_is rfl
  (λf fn hf hfn=>by
   obtain rfl:f=3:=Option.some.inj (named_is.symm.trans hf) |>.symm
   obtain rfl:fn=Tryz.f3:=(Option.some.inj (Tryz.func3.symm.trans hfn)).symm
   exact⟨looks_is,λj t ht=>by
    rw[Tryz.params3]at ht
    have hm:t∈[22,3,3]:=by
     have:=Array.mem_of_getElem? ht
     simpa using this
    have hall:([22,3,3].all λt=>Tryz.prog.wantsStandIn t==false)=true:=by kernel_rfl
    have:=List.all_eq_true.1 hall t hm
    exact eq_of_beq this⟩)
  goes_is
#print axioms proved
end Go.Proofs.YtdpmhkbhlbfbeaaGreatDoor.topLossy
