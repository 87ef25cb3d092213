/- For every argument the law FnTop returns true; the package-level variables that its row lists are tied to the program's text; no other conditions. -/
import Derived.Test.YtkgcbbkodalfmaaGreatDoorRows
import Derived.Test.YtkgcbbkodalfmaaGreatDoorCards
import Derived.Test.YtkgcbbkodalfmaaGreatDoorTie
import Derived.Test.YtkgcbbkodalfmaaGreatDoorCard
import Derived.Stop.LaidErr
import Derived.Test.YtkgcbbkodalfmaaGreatDoorQS
import Derived.WalkKit
import Derived.ProofKit
import Derived.OpenShut
import Derived.SevenTiedAt
import Derived.Lay
namespace Go.Proofs.YtkgcbbkodalfmaaGreatDoor.fnTop
open Go.Proofs.YtkgcbbkodalfmaaGreatDoor Go.ChangeShapes Go.WideShapes Go.ChangeAt Go.RowKit
set_option linter.unusedVariables false
set_option maxRecDepth 100000
theorem own:ownKnob Tryz.prog.godebug=none:=by kernel_rfl
theorem Z3(os:Os)(args:Array Value):laidMetH Tryz.prog Rows.fnTopRow.laid ((World.laidAll Tryz.prog os Rows.fnTopRow.laid).forCall (fun _ _=>0) ⟨#[],args,[]⟩).memory:=by
 rw[MakeChecks.laidMetH_plain _ _ _ (by kernel_rfl)]
 exact laidMet_laidAll args (by kernel_rfl) (by kernel_rfl)
theorem abz {W:World}(h:laidMetH Tryz.prog Rows.fnTopRow.laid W)(hs:W.ShapedOpen Tryz.prog):G0.I W:=trivial
set_option maxRecDepth 100000 in
theorem lifted(os:Os)(started:os.Started)(H:Type)(enc:TypeId×Value→H):
  ReturnsInHanded {} Tryz.checked os 3 .any (fun w args=>(Rows.fnTopSpec.pre enc Tryz.prog Tryz.f3 [] false w args∧laidMetH Tryz.prog Rows.fnTopRow.laid w)∧sizedMet enc Tryz.prog Tryz.f3 (OpenSpec.ofChange Rows.fnTopSpec) false w args)
   (Rows.fnTopSpec.post enc Tryz.prog Tryz.f3 false true false false):=by
 refine Up (C:=Tryz.checked) (X:=fun w _=>laidMetH Tryz.prog Rows.fnTopRow.laid w) (fun _ _ _ hh h=>h.of_heap hh) own started (by kernel_rfl) Tryz.func3
  (ChangeSpec.witness_shaped (enc:=enc) (C:=Tryz.checked) (os:=os) (X:=fun w _=>laidMetH Tryz.prog Rows.fnTopRow.laid w) false (World.laidAll Tryz.prog os Rows.fnTopRow.laid) #[.slice none 0 0] 8 (World.laidAll_os _ _ _) (World.shaped_of_ZipB (by kernel_rfl) (by kernel_rfl)) (by kernel_rfl) (by kernel_rfl) (by kernel_rfl) (Z3 os _)) ?_
 intro W base args ds gs ld hval0 hW hS hL
 exact Xs (n:=1) (abz hL hS) Wh rfl (fun x hx=>aby x hx) (by kernel_rfl) (by kernel_rfl) rfl Tryz.underlying4 rfl (by kernel_rfl) (fun ds h=>by obtain⟨d,rfl⟩:=List.length_eq_one_iff.1 h;rfl) hval0 hW
theorem j1:(Rows.fnTopRow.wf (OpenSpec.ofChange Rows.fnTopSpec))=true:=by kernel_rfl
theorem j2:(laidOutB Tryz.prog)=true:=by kernel_rfl
theorem j3:(mapsRowed Tryz.prog)=true:=by kernel_rfl
theorem j4:(Tryz.f3.params.all (Tryz.prog.readableRec ·))=true:=by kernel_rfl
theorem j5:(namedTie Tryz.prog Rows.fnTopRow.named Rows.fnTopSpec.vars)=true:=by kernel_rfl
theorem j6:((Rows.fnTopRow.stops== []))=true:=by kernel_rfl
theorem j7:((Tryz.prog.stops== []))=true:=by kernel_rfl
theorem j8:((Rows.fnTopRow.knobs== []))=true:=by kernel_rfl
theorem j9:((Tryz.prog.stopKnobs== []))=true:=by kernel_rfl
theorem j10:((Rows.fnTopRow.inPlace==Tryz.prog.inPlace 3))=true:=by kernel_rfl
theorem j11:((Rows.fnTopRow.unfollowed==Tryz.prog.unfollowed 3))=true:=by kernel_rfl
theorem j12:((Rows.fnTopRow.recurses==Tryz.prog.recurses 3))=true:=by kernel_rfl
theorem j13:((Rows.fnTopRow.named==Tryz.prog.varsNamed 3))=true:=by kernel_rfl
theorem j14:((Rows.fnTopRow.maps==(Tryz.f3.params.toList++Rows.fnTopSpec.plain.varTypes Tryz.prog).any (Tryz.prog.mapsRec ·)))=true:=by kernel_rfl
theorem j15:((Rows.fnTopRow.ifaces==(Tryz.f3.params.toList++Rows.fnTopSpec.plain.varTypes Tryz.prog).any (Tryz.prog.ifacesRec ·)))=true:=by kernel_rfl
theorem j16:((Rows.fnTopRow.mapsOut==Tryz.prog.mapsAmong Tryz.f3.resultTypes.toList))=true:=by kernel_rfl
theorem j17:((Rows.fnTopRow.loops==(Tryz.f3.params.toList++Rows.fnTopSpec.plain.varTypes Tryz.prog).any (Tryz.prog.loopsFrom ·)))=true:=by kernel_rfl
theorem j18:((Rows.fnTopRow.wideKeys==(Tryz.f3.params.toList++Rows.fnTopSpec.plain.varTypes Tryz.prog++Tryz.f3.resultTypes.toList).any (Tryz.prog.wideKeysFrom ·)))=true:=by kernel_rfl
theorem j19:(Rows.fnTopSpec.vars.all (Tryz.prog.varReadable ·))=true:=by kernel_rfl
theorem j20:(Tryz.f3.resultTypes.all (fun t=>Tryz.prog.readableRec t&&decide (t<Tryz.prog.types.size)))=true:=by kernel_rfl
theorem j21:((Rows.fnTopRow.ifacesOut==Tryz.f3.resultTypes.toList.any (Tryz.prog.ifacesRec ·)))=true:=by kernel_rfl
theorem j22:((Rows.fnTopRow.loopsOut==Tryz.f3.resultTypes.toList.any (Tryz.prog.loopsFrom ·)))=true:=by kernel_rfl
theorem j23:((Rows.fnTopRow.plainKeys==Tryz.prog.plainKeys))=true:=by kernel_rfl
theorem j24:(Rows.fnTopRow.shortTexts.isNone)=true:=by kernel_rfl
theorem j25:(Tryz.prog.stopsHeard)=true:=by kernel_rfl
theorem j26:(Tryz.prog.mayEnter)=true:=by kernel_rfl
theorem j27:((Rows.fnTopRow.lifted==Tryz.prog.liftsFinal))=true:=by kernel_rfl
theorem j28:((Tryz.prog.make==some Rows.fnTopRow.make))=true:=by kernel_rfl
theorem j29:((Rows.fnTopRow.kinds==(if Rows.fnTopRow.domain.isEmpty then []else Tryz.f3.params.toList.map fun t=>match Tryz.prog.underlying t with|some (.int k)=>some k|_=>none)))=true:=by kernel_rfl
theorem j30:((Rows.fnTopRow.pinned==Rows.fnTopRow.pinnedBy))=true:=by kernel_rfl
theorem j31:((Rows.fnTopRow.veiled==(Tryz.f3.params.toList++Rows.fnTopSpec.plain.varTypes Tryz.prog++Tryz.f3.resultTypes.toList).any (Tryz.prog.veiledRec ·)))=true:=by kernel_rfl
theorem j32:(Rows.fnTopRow.veiledFits Tryz.prog Tryz.f3.params.toList (Tryz.f3.params.toList++Rows.fnTopSpec.plain.varTypes Tryz.prog++Tryz.f3.resultTypes.toList))=true:=by kernel_rfl
theorem ade:joinedFacts Tryz.prog 3 Tryz.f3 Rows.fnTopSpec Rows.fnTopRow=true:=YG j1 j2 j3 j4 j5 j6 j7 j8 j9 j10 j11 j12 j13 j14 j15 j16 j17 j18 j19 j20 j21 j22 j23 j24 j25 j26 j27 j28 j29 j30 j31 j32
theorem named:Tryz.prog.funcNamed "loop.example/g00833/laws.FnTop"=some 3 :=by kernel_rfl
theorem adB:Func.isInstance Tryz.prog Tryz.f3 Rows.fnTopRow.origin Rows.fnTopRow.targs:=of_decide_eq_true (by kernel_rfl)
theorem wrap:Func.isWrapper Tryz.prog Tryz.f3 Rows.fnTopRow.wrapper Rows.fnTopRow.mainSum:=by unfold Func.isWrapper;first|(rw[if_pos (by decide+kernel)];kernel_rfl)|(rw[if_neg (by decide+kernel)];exact⟨rfl,rfl⟩)
theorem adC:Rows.FnTopSaid:=
 OpenClaim.holds_of_wide 3 Tryz.f3 rfl rfl rfl rfl rfl rfl rfl ⟨rfl,rfl,rfl,rfl,rfl⟩ rfl rfl rfl rfl rfl named Tryz.func3 ade
  adB wrap
  (fun os started H enc _=>lifted os started H enc)
theorem adf:Rows.fnTopRow.wfByText (OpenSpec.ofChange Rows.fnTopSpec)=true:=by kernel_rfl
theorem main:Tryz.prog.mainIs=some (((true,"d2ebe32c17f94a5f2423837fbcb3cb46b4ef764dd38c38174cbf81255fc79df7"):Bool×String).1,((true,"d2ebe32c17f94a5f2423837fbcb3cb46b4ef764dd38c38174cbf81255fc79df7"):Bool×String).2.toList):=by kernel_rfl
theorem looks:false=Tryz.prog.looks []:=by kernel_rfl
theorem abA:(Tryz.f3.params.toList.all fun u=> !Tryz.prog.wantsStandIn u)=true:=by kernel_rfl
theorem adD:false=Rows.fnTopRow.goesBy Tryz.prog:=by kernel_rfl
theorem proved:Rows.FnTopCardSaid:=
 Claim7.holds_tied_plain_at .later [] [.data,.pinned] true (true,"d2ebe32c17f94a5f2423837fbcb3cb46b4ef764dd38c38174cbf81255fc79df7") false
  adC (fun _ h=>by cases h) adf (fun _ h=>by cases h) fnTop_row_tie rfl ⟨rfl,rfl⟩ main rfl
  (fun f fn hf hfn=>by
    obtain rfl:f=3 :=Option.some.inj (named.symm.trans hf) |>.symm
    obtain rfl:fn=Tryz.f3 :=(Option.some.inj (Tryz.func3.symm.trans hfn)).symm
    exact⟨looks,fun j t ht=>by
     have hm:t ∈ Tryz.f3.params.toList:=by simpa using Array.mem_of_getElem? ht
     have:=List.all_eq_true.1 abA t hm
     exact(show Tryz.prog.wantsStandIn t=false by simpa using this)⟩)
  adD
#print axioms proved
end Go.Proofs.YtkgcbbkodalfmaaGreatDoor.fnTop
