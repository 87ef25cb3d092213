/- For every argument the law FnRunSteps returns true; the package-level variables that its row lists are tied to the program's text; no other conditions. -/
import Derived.Test.YtkgcbbkodalfmaaGreatDoorRows
import Derived.Test.YtkgcbbkodalfmaaGreatDoorCards
import Derived.Test.YtkgcbbkodalfmaaGreatDoorTie
import Derived.Test.YtkgcbbkodalfmaaGreatDoorCard
import Derived.Stop.LaidErr
import Derived.Test.YtkgcbbkodalfmaaGreatDoorQR
import Derived.WalkKit
import Derived.ProofKit
import Derived.OpenShut
import Derived.SevenTiedAt
import Derived.Lay
namespace Go.Proofs.YtkgcbbkodalfmaaGreatDoor.fnRunSteps
open Go.Proofs.YtkgcbbkodalfmaaGreatDoor Go.ChangeShapes Go.WideShapes Go.ChangeAt Go.RowKit
set_option linter.unusedVariables false
set_option maxRecDepth 100000
theorem own:ownKnob Tryz.prog.godebug=none:=by kernel_rfl
theorem afK(os:Os)(args:Array Value):laidMetH Tryz.prog Rows.fnRunStepsRow.laid ((World.laidAll Tryz.prog os Rows.fnRunStepsRow.laid).forCall (fun _ _=>0) ⟨#[],args,[]⟩).memory:=by
 rw[MakeChecks.laidMetH_plain _ _ _ (by kernel_rfl)]
 exact laidMet_laidAll args (by kernel_rfl) (by kernel_rfl)
theorem agb {W:World}(h:laidMetH Tryz.prog Rows.fnRunStepsRow.laid W)(hs:W.ShapedOpen Tryz.prog):G0.I W:=trivial
set_option maxRecDepth 100000 in
theorem lifted(os:Os)(started:os.Started)(H:Type)(enc:TypeId×Value→H):
  ReturnsInHanded {} Tryz.checked os 5 .any (fun w args=>(Rows.fnRunStepsSpec.pre enc Tryz.prog Tryz.f5 [] false w args∧laidMetH Tryz.prog Rows.fnRunStepsRow.laid w)∧sizedMet enc Tryz.prog Tryz.f5 (OpenSpec.ofChange Rows.fnRunStepsSpec) false w args)
   (Rows.fnRunStepsSpec.post enc Tryz.prog Tryz.f5 false true false false):=by
 refine Hh (C:=Tryz.checked) (X:=fun w _=>laidMetH Tryz.prog Rows.fnRunStepsRow.laid w) (fun _ _ _ hh h=>h.of_heap hh) own started (by kernel_rfl) Tryz.func5
  (ChangeSpec.witness_shaped (enc:=enc) (C:=Tryz.checked) (os:=os) (X:=fun w _=>laidMetH Tryz.prog Rows.fnRunStepsRow.laid w) false (World.laidAll Tryz.prog os Rows.fnRunStepsRow.laid) #[.slice none 0 0] 8 (World.laidAll_os _ _ _) (World.shaped_of_ZipB (by kernel_rfl) (by kernel_rfl)) (by kernel_rfl) (by kernel_rfl) (by kernel_rfl) (afK os _)) ?_
 intro W base args ds gs aaP hval0 hW hS hL
 exact Nt (n:=1) (agb hL hS) adT rfl (fun x hx=>aec x hx) (by kernel_rfl) (by kernel_rfl) rfl Tryz.underlying4 rfl (by kernel_rfl) (fun ds h=>by obtain⟨d,rfl⟩:=List.length_eq_one_iff.1 h;rfl) hval0 hW
theorem j1:(Rows.fnRunStepsRow.wf (OpenSpec.ofChange Rows.fnRunStepsSpec))=true:=by kernel_rfl
theorem j2:(laidOutB Tryz.prog)=true:=by kernel_rfl
theorem j3:(mapsRowed Tryz.prog)=true:=by kernel_rfl
theorem j4:(Tryz.f5.params.all (Tryz.prog.readableRec ·))=true:=by kernel_rfl
theorem j5:(namedTie Tryz.prog Rows.fnRunStepsRow.named Rows.fnRunStepsSpec.vars)=true:=by kernel_rfl
theorem j6:((Rows.fnRunStepsRow.stops== []))=true:=by kernel_rfl
theorem j7:((Tryz.prog.stops== []))=true:=by kernel_rfl
theorem j8:((Rows.fnRunStepsRow.knobs== []))=true:=by kernel_rfl
theorem j9:((Tryz.prog.stopKnobs== []))=true:=by kernel_rfl
theorem j10:((Rows.fnRunStepsRow.inPlace==Tryz.prog.inPlace 5))=true:=by kernel_rfl
theorem j11:((Rows.fnRunStepsRow.unfollowed==Tryz.prog.unfollowed 5))=true:=by kernel_rfl
theorem j12:((Rows.fnRunStepsRow.recurses==Tryz.prog.recurses 5))=true:=by kernel_rfl
theorem j13:((Rows.fnRunStepsRow.named==Tryz.prog.varsNamed 5))=true:=by kernel_rfl
theorem j14:((Rows.fnRunStepsRow.maps==(Tryz.f5.params.toList++Rows.fnRunStepsSpec.plain.varTypes Tryz.prog).any (Tryz.prog.mapsRec ·)))=true:=by kernel_rfl
theorem j15:((Rows.fnRunStepsRow.ifaces==(Tryz.f5.params.toList++Rows.fnRunStepsSpec.plain.varTypes Tryz.prog).any (Tryz.prog.ifacesRec ·)))=true:=by kernel_rfl
theorem j16:((Rows.fnRunStepsRow.mapsOut==Tryz.prog.mapsAmong Tryz.f5.resultTypes.toList))=true:=by kernel_rfl
theorem j17:((Rows.fnRunStepsRow.loops==(Tryz.f5.params.toList++Rows.fnRunStepsSpec.plain.varTypes Tryz.prog).any (Tryz.prog.loopsFrom ·)))=true:=by kernel_rfl
theorem j18:((Rows.fnRunStepsRow.wideKeys==(Tryz.f5.params.toList++Rows.fnRunStepsSpec.plain.varTypes Tryz.prog++Tryz.f5.resultTypes.toList).any (Tryz.prog.wideKeysFrom ·)))=true:=by kernel_rfl
theorem j19:(Rows.fnRunStepsSpec.vars.all (Tryz.prog.varReadable ·))=true:=by kernel_rfl
theorem j20:(Tryz.f5.resultTypes.all (fun t=>Tryz.prog.readableRec t&&decide (t<Tryz.prog.types.size)))=true:=by kernel_rfl
theorem j21:((Rows.fnRunStepsRow.ifacesOut==Tryz.f5.resultTypes.toList.any (Tryz.prog.ifacesRec ·)))=true:=by kernel_rfl
theorem j22:((Rows.fnRunStepsRow.loopsOut==Tryz.f5.resultTypes.toList.any (Tryz.prog.loopsFrom ·)))=true:=by kernel_rfl
theorem j23:((Rows.fnRunStepsRow.plainKeys==Tryz.prog.plainKeys))=true:=by kernel_rfl
theorem j24:(Rows.fnRunStepsRow.shortTexts.isNone)=true:=by kernel_rfl
theorem j25:(Tryz.prog.stopsHeard)=true:=by kernel_rfl
theorem j26:(Tryz.prog.mayEnter)=true:=by kernel_rfl
theorem j27:((Rows.fnRunStepsRow.lifted==Tryz.prog.liftsFinal))=true:=by kernel_rfl
theorem j28:((Tryz.prog.make==some Rows.fnRunStepsRow.make))=true:=by kernel_rfl
theorem j29:((Rows.fnRunStepsRow.kinds==(if Rows.fnRunStepsRow.domain.isEmpty then []else Tryz.f5.params.toList.map fun t=>match Tryz.prog.underlying t with|some (.int k)=>some k|_=>none)))=true:=by kernel_rfl
theorem j30:((Rows.fnRunStepsRow.pinned==Rows.fnRunStepsRow.pinnedBy))=true:=by kernel_rfl
theorem j31:((Rows.fnRunStepsRow.veiled==(Tryz.f5.params.toList++Rows.fnRunStepsSpec.plain.varTypes Tryz.prog++Tryz.f5.resultTypes.toList).any (Tryz.prog.veiledRec ·)))=true:=by kernel_rfl
theorem j32:(Rows.fnRunStepsRow.veiledFits Tryz.prog Tryz.f5.params.toList (Tryz.f5.params.toList++Rows.fnRunStepsSpec.plain.varTypes Tryz.prog++Tryz.f5.resultTypes.toList))=true:=by kernel_rfl
theorem agH:joinedFacts Tryz.prog 5 Tryz.f5 Rows.fnRunStepsSpec Rows.fnRunStepsRow=true:=N0 j1 j2 j3 j4 j5 j6 j7 j8 j9 j10 j11 j12 j13 j14 j15 j16 j17 j18 j19 j20 j21 j22 j23 j24 j25 j26 j27 j28 j29 j30 j31 j32
theorem named:Tryz.prog.funcNamed "loop.example/g00833/laws.FnRunSteps"=some 5 :=by kernel_rfl
theorem agK:Func.isInstance Tryz.prog Tryz.f5 Rows.fnRunStepsRow.origin Rows.fnRunStepsRow.targs:=of_decide_eq_true (by kernel_rfl)
theorem wrap:Func.isWrapper Tryz.prog Tryz.f5 Rows.fnRunStepsRow.wrapper Rows.fnRunStepsRow.mainSum:=by unfold Func.isWrapper;first|(rw[if_pos (by decide+kernel)];kernel_rfl)|(rw[if_neg (by decide+kernel)];exact⟨rfl,rfl⟩)
theorem agL:Rows.FnRunStepsSaid:=
 OpenClaim.holds_of_wide 5 Tryz.f5 rfl rfl rfl rfl rfl rfl rfl ⟨rfl,rfl,rfl,rfl,rfl⟩ rfl rfl rfl rfl rfl named Tryz.func5 agH
  agK wrap
  (fun os started H enc _=>lifted os started H enc)
theorem agI:Rows.fnRunStepsRow.wfByText (OpenSpec.ofChange Rows.fnRunStepsSpec)=true:=by kernel_rfl
theorem main:Tryz.prog.mainIs=some (((true,"d2ebe32c17f94a5f2423837fbcb3cb46b4ef764dd38c38174cbf81255fc79df7"):Bool×String).1,((true,"d2ebe32c17f94a5f2423837fbcb3cb46b4ef764dd38c38174cbf81255fc79df7"):Bool×String).2.toList):=by kernel_rfl
theorem looks:false=Tryz.prog.looks []:=by kernel_rfl
theorem agc:(Tryz.f5.params.toList.all fun u=> !Tryz.prog.wantsStandIn u)=true:=by kernel_rfl
theorem agM:false=Rows.fnRunStepsRow.goesBy Tryz.prog:=by kernel_rfl
theorem proved:Rows.FnRunStepsCardSaid:=
 Claim7.holds_tied_plain_at .later [] [.data,.pinned] true (true,"d2ebe32c17f94a5f2423837fbcb3cb46b4ef764dd38c38174cbf81255fc79df7") false
  agL (fun _ h=>by cases h) agI (fun _ h=>by cases h) fnRunSteps_row_tie rfl ⟨rfl,rfl⟩ main rfl
  (fun f fn hf hfn=>by
    obtain rfl:f=5 :=Option.some.inj (named.symm.trans hf) |>.symm
    obtain rfl:fn=Tryz.f5 :=(Option.some.inj (Tryz.func5.symm.trans hfn)).symm
    exact⟨looks,fun j t ht=>by
     have hm:t ∈ Tryz.f5.params.toList:=by simpa using Array.mem_of_getElem? ht
     have:=List.all_eq_true.1 agc t hm
     exact(show Tryz.prog.wantsStandIn t=false by simpa using this)⟩)
  agM
#print axioms proved
end Go.Proofs.YtkgcbbkodalfmaaGreatDoor.fnRunSteps
