/- For every argument the law FnExactRunSteps returns true; the package-level variables that its row lists are tied to the program's text; no other conditions. -/
import Derived.Test.YthfgmmmeplanbaaGreatDoorRows
import Derived.Test.YthfgmmmeplanbaaGreatDoorCards
import Derived.Test.YthfgmmmeplanbaaGreatDoorTie
import Derived.Test.YthfgmmmeplanbaaGreatDoorCard
import Derived.Stop.LaidErr
import Derived.Test.YthfgmmmeplanbaaGreatDoorQ4
import Derived.WalkKit
import Derived.ProofKit
import Derived.OpenShut
import Derived.SevenTiedAt
import Derived.Lay
namespace Go.Proofs.YthfgmmmeplanbaaGreatDoor.fnExactRunSteps
open Go.Proofs.YthfgmmmeplanbaaGreatDoor Go.ChangeShapes Go.WideShapes Go.ChangeAt Go.RowKit
set_option linter.unusedVariables false
set_option maxRecDepth 100000
theorem own:ownKnob Tryz.prog.godebug=none:=by kernel_rfl
theorem aci(os:Os)(args:Array Value):laidMetH Tryz.prog Rows.fnExactRunStepsRow.laid ((World.laidAll Tryz.prog os Rows.fnExactRunStepsRow.laid).forCall (fun _ _=>0) ⟨#[],args,[]⟩).memory:=by
 rw[MakeChecks.laidMetH_plain _ _ _ (by kernel_rfl)]
 exact laidMet_laidAll args (by kernel_rfl) (by kernel_rfl)
theorem acm {W:World}(h:laidMetH Tryz.prog Rows.fnExactRunStepsRow.laid W)(hs:W.ShapedOpen Tryz.prog):G0.I W:=trivial
set_option maxRecDepth 100000 in
theorem lifted(os:Os)(started:os.Started)(H:Type)(enc:TypeId×Value→H):
  ReturnsInHanded {} Tryz.checked os 7 .any (fun w args=>(Rows.fnExactRunStepsSpec.pre enc Tryz.prog Tryz.f7 [] false w args∧laidMetH Tryz.prog Rows.fnExactRunStepsRow.laid w)∧sizedMet enc Tryz.prog Tryz.f7 (OpenSpec.ofChange Rows.fnExactRunStepsSpec) false w args)
   (Rows.fnExactRunStepsSpec.post enc Tryz.prog Tryz.f7 false true false false):=by
 refine GV (C:=Tryz.checked) (X:=fun w _=>laidMetH Tryz.prog Rows.fnExactRunStepsRow.laid w) (fun _ _ _ hh h=>h.of_heap hh) own started (by kernel_rfl) Tryz.func7
  (ChangeSpec.witness_shaped (enc:=enc) (C:=Tryz.checked) (os:=os) (X:=fun w _=>laidMetH Tryz.prog Rows.fnExactRunStepsRow.laid w) false (World.laidAll Tryz.prog os Rows.fnExactRunStepsRow.laid) #[.agg #[.int .i64 0,.slice none 0 0,.slice none 0 0,.slice none 0 0],.agg #[.int .i64 0,.int .i64 0,.int .i64 0,.int .i64 0,.int .i64 0],.slice none 0 0] 8 (World.laidAll_os _ _ _) (World.shaped_of_ZipB (by kernel_rfl) (by kernel_rfl)) (by kernel_rfl) (by kernel_rfl) (by kernel_rfl) (aci os _)) ?_
 intro W base args ds gs before hval0 hW hS hL
 exact Ny (n:=3) (acm hL hS) abN rfl (fun x hx=>ab9 x hx) (by kernel_rfl) (by kernel_rfl) rfl Tryz.underlying4 rfl (by kernel_rfl) (fun ds h=>by obtain⟨b,c,d,rfl⟩:=Wb h;rfl) hval0 hW
theorem j1:(Rows.fnExactRunStepsRow.wf (OpenSpec.ofChange Rows.fnExactRunStepsSpec))=true:=by kernel_rfl
theorem j2:(laidOutB Tryz.prog)=true:=by kernel_rfl
theorem j3:(mapsRowed Tryz.prog)=true:=by kernel_rfl
theorem j4:(Tryz.f7.params.all (Tryz.prog.readableRec ·))=true:=by kernel_rfl
theorem j5:(namedTie Tryz.prog Rows.fnExactRunStepsRow.named Rows.fnExactRunStepsSpec.vars)=true:=by kernel_rfl
theorem j6:((Rows.fnExactRunStepsRow.stops== []))=true:=by kernel_rfl
theorem j7:((Tryz.prog.stops== []))=true:=by kernel_rfl
theorem j8:((Rows.fnExactRunStepsRow.knobs== []))=true:=by kernel_rfl
theorem j9:((Tryz.prog.stopKnobs== []))=true:=by kernel_rfl
theorem eV:((Rows.fnExactRunStepsRow.inPlace==Tryz.prog.inPlace 7))=true:=by kernel_rfl
theorem fV:((Rows.fnExactRunStepsRow.unfollowed==Tryz.prog.unfollowed 7))=true:=by kernel_rfl
theorem gG:((Rows.fnExactRunStepsRow.recurses==Tryz.prog.recurses 7))=true:=by kernel_rfl
theorem gH:((Rows.fnExactRunStepsRow.named==Tryz.prog.varsNamed 7))=true:=by kernel_rfl
theorem i7:((Rows.fnExactRunStepsRow.maps==(Tryz.f7.params.toList++Rows.fnExactRunStepsSpec.plain.varTypes Tryz.prog).any (Tryz.prog.mapsRec ·)))=true:=by kernel_rfl
theorem jR:((Rows.fnExactRunStepsRow.ifaces==(Tryz.f7.params.toList++Rows.fnExactRunStepsSpec.plain.varTypes Tryz.prog).any (Tryz.prog.ifacesRec ·)))=true:=by kernel_rfl
theorem ka:((Rows.fnExactRunStepsRow.mapsOut==Tryz.prog.mapsAmong Tryz.f7.resultTypes.toList))=true:=by kernel_rfl
theorem kb:((Rows.fnExactRunStepsRow.loops==(Tryz.f7.params.toList++Rows.fnExactRunStepsSpec.plain.varTypes Tryz.prog).any (Tryz.prog.loopsFrom ·)))=true:=by kernel_rfl
theorem kN:((Rows.fnExactRunStepsRow.wideKeys==(Tryz.f7.params.toList++Rows.fnExactRunStepsSpec.plain.varTypes Tryz.prog++Tryz.f7.resultTypes.toList).any (Tryz.prog.wideKeysFrom ·)))=true:=by kernel_rfl
theorem kS:(Rows.fnExactRunStepsSpec.vars.all (Tryz.prog.varReadable ·))=true:=by kernel_rfl
theorem kX:(Tryz.f7.resultTypes.all (fun t=>Tryz.prog.readableRec t&&decide (t<Tryz.prog.types.size)))=true:=by kernel_rfl
theorem le:((Rows.fnExactRunStepsRow.ifacesOut==Tryz.f7.resultTypes.toList.any (Tryz.prog.ifacesRec ·)))=true:=by kernel_rfl
theorem lW:((Rows.fnExactRunStepsRow.loopsOut==Tryz.f7.resultTypes.toList.any (Tryz.prog.loopsFrom ·)))=true:=by kernel_rfl
theorem lX:((Rows.fnExactRunStepsRow.plainKeys==Tryz.prog.plainKeys))=true:=by kernel_rfl
theorem l5:(Rows.fnExactRunStepsRow.shortTexts.isNone)=true:=by kernel_rfl
theorem mM:(Tryz.prog.stopsHeard)=true:=by kernel_rfl
theorem na:(Tryz.prog.mayEnter)=true:=by kernel_rfl
theorem pz:((Rows.fnExactRunStepsRow.lifted==Tryz.prog.liftsFinal))=true:=by kernel_rfl
theorem pA:((Tryz.prog.make==some Rows.fnExactRunStepsRow.make))=true:=by kernel_rfl
theorem pC:((Rows.fnExactRunStepsRow.kinds==(if Rows.fnExactRunStepsRow.domain.isEmpty then []else Tryz.f7.params.toList.map fun t=>match Tryz.prog.underlying t with|some (.int k)=>some k|_=>none)))=true:=by kernel_rfl
theorem pK:((Rows.fnExactRunStepsRow.pinned==Rows.fnExactRunStepsRow.pinnedBy))=true:=by kernel_rfl
theorem pL:((Rows.fnExactRunStepsRow.veiled==(Tryz.f7.params.toList++Rows.fnExactRunStepsSpec.plain.varTypes Tryz.prog++Tryz.f7.resultTypes.toList).any (Tryz.prog.veiledRec ·)))=true:=by kernel_rfl
theorem pN:(Rows.fnExactRunStepsRow.veiledFits Tryz.prog Tryz.f7.params.toList (Tryz.f7.params.toList++Rows.fnExactRunStepsSpec.plain.varTypes Tryz.prog++Tryz.f7.resultTypes.toList))=true:=by kernel_rfl
theorem acq:joinedFacts Tryz.prog 7 Tryz.f7 Rows.fnExactRunStepsSpec Rows.fnExactRunStepsRow=true:=NY j1 j2 j3 j4 j5 j6 j7 j8 j9 eV fV gG gH i7 jR ka kb kN kS kX le lW lX l5 mM na pz pA pC pK pL pN
theorem named:Tryz.prog.funcNamed "loop.example/g00833/laws.FnExactRunSteps"=some 7 :=by kernel_rfl
theorem act:Func.isInstance Tryz.prog Tryz.f7 Rows.fnExactRunStepsRow.origin Rows.fnExactRunStepsRow.targs:=of_decide_eq_true (by kernel_rfl)
theorem wrap:Func.isWrapper Tryz.prog Tryz.f7 Rows.fnExactRunStepsRow.wrapper Rows.fnExactRunStepsRow.mainSum:=by unfold Func.isWrapper;first|(rw[if_pos (by decide+kernel)];kernel_rfl)|(rw[if_neg (by decide+kernel)];exact⟨rfl,rfl⟩)
theorem acu:Rows.FnExactRunStepsSaid:=
 OpenClaim.holds_of_wide 7 Tryz.f7 rfl rfl rfl rfl rfl rfl rfl ⟨rfl,rfl,rfl,rfl,rfl⟩ rfl rfl rfl rfl rfl named Tryz.func7 acq
  act wrap
  (fun os started H enc _=>lifted os started H enc)
theorem acr:Rows.fnExactRunStepsRow.wfByText (OpenSpec.ofChange Rows.fnExactRunStepsSpec)=true:=by kernel_rfl
theorem main:Tryz.prog.mainIs=some (((true,"8741093498c4a244a107787e11f4b55fd34bf2195abbc8f7fd0b72f1f8441ddd"):Bool×String).1,((true,"8741093498c4a244a107787e11f4b55fd34bf2195abbc8f7fd0b72f1f8441ddd"):Bool×String).2.toList):=by kernel_rfl
theorem looks:false=Tryz.prog.looks []:=by kernel_rfl
theorem acn:(Tryz.f7.params.toList.all fun u=> !Tryz.prog.wantsStandIn u)=true:=by kernel_rfl
theorem acv:false=Rows.fnExactRunStepsRow.goesBy Tryz.prog:=by kernel_rfl
theorem proved:Rows.FnExactRunStepsCardSaid:=
 Claim7.holds_tied_plain_at .later [] [.data,.pinned] true (true,"8741093498c4a244a107787e11f4b55fd34bf2195abbc8f7fd0b72f1f8441ddd") false
  acu (fun _ h=>by cases h) acr (fun _ h=>by cases h) fnExactRunSteps_row_tie rfl ⟨rfl,rfl⟩ main rfl
  (fun f fn hf hfn=>by
    obtain rfl:f=7 :=Option.some.inj (named.symm.trans hf) |>.symm
    obtain rfl:fn=Tryz.f7 :=(Option.some.inj (Tryz.func7.symm.trans hfn)).symm
    exact⟨looks,fun j t ht=>by
     have hm:t ∈ Tryz.f7.params.toList:=by simpa using Array.mem_of_getElem? ht
     have:=List.all_eq_true.1 acn t hm
     exact(show Tryz.prog.wantsStandIn t=false by simpa using this)⟩)
  acv
#print axioms proved
end Go.Proofs.YthfgmmmeplanbaaGreatDoor.fnExactRunSteps
