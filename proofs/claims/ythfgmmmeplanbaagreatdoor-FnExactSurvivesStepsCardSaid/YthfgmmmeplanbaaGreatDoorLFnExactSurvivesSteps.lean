/- For every argument the law FnExactSurvivesSteps returns true; the package-level variables that its row lists are tied to the program's text; no other conditions. -/
import Derived.Test.YthfgmmmeplanbaaGreatDoorRows
import Derived.Test.YthfgmmmeplanbaaGreatDoorCards
import Derived.Test.YthfgmmmeplanbaaGreatDoorTie
import Derived.Test.YthfgmmmeplanbaaGreatDoorCard
import Derived.Stop.LaidErr
import Derived.Test.YthfgmmmeplanbaaGreatDoorQ4
import Derived.WalkKit
import Derived.ProofKit
import Derived.OpenShut
import Derived.SevenTiedAt
import Derived.Lay
namespace Go.Proofs.YthfgmmmeplanbaaGreatDoor.fnExactSurvivesSteps
open Go.Proofs.YthfgmmmeplanbaaGreatDoor Go.ChangeShapes Go.WideShapes Go.ChangeAt Go.RowKit
set_option linter.unusedVariables false
set_option maxRecDepth 100000
theorem own:ownKnob Tryz.prog.godebug=none:=by kernel_rfl
theorem door_met(os:Os)(args:Array Value):laidMetH Tryz.prog Rows.fnExactSurvivesStepsRow.laid ((World.laidAll Tryz.prog os Rows.fnExactSurvivesStepsRow.laid).forCall (fun _ _=>0) ⟨#[],args,[]⟩).memory:=by
 rw[MakeChecks.laidMetH_plain _ _ _ (by kernel_rfl)]
 exact laidMet_laidAll args (by kernel_rfl) (by kernel_rfl)
theorem of_laid {W:World}(h:laidMetH Tryz.prog Rows.fnExactSurvivesStepsRow.laid W)(hs:W.ShapedOpen Tryz.prog):G0.I W:=trivial
set_option maxRecDepth 100000 in
theorem lifted(os:Os)(started:os.Started)(H:Type)(enc:TypeId×Value→H):
  ReturnsInHanded {} Tryz.checked os 4 .any (fun w args=>(Rows.fnExactSurvivesStepsSpec.pre enc Tryz.prog Tryz.f4 [] false w args∧laidMetH Tryz.prog Rows.fnExactSurvivesStepsRow.laid w)∧sizedMet enc Tryz.prog Tryz.f4 (OpenSpec.ofChange Rows.fnExactSurvivesStepsSpec) false w args)
   (Rows.fnExactSurvivesStepsSpec.post enc Tryz.prog Tryz.f4 false true false false):=by
 refine GV (C:=Tryz.checked) (X:=fun w _=>laidMetH Tryz.prog Rows.fnExactSurvivesStepsRow.laid w) (fun _ _ _ hh h=>h.of_heap hh) own started (by kernel_rfl) Tryz.func4
  (ChangeSpec.witness_shaped (enc:=enc) (C:=Tryz.checked) (os:=os) (X:=fun w _=>laidMetH Tryz.prog Rows.fnExactSurvivesStepsRow.laid w) false (World.laidAll Tryz.prog os Rows.fnExactSurvivesStepsRow.laid) #[.agg #[.int .i64 0,.slice none 0 0,.slice none 0 0,.slice none 0 0],.agg #[.int .i64 0,.int .i64 0,.int .i64 0,.int .i64 0,.int .i64 0],.slice none 0 0] 8 (World.laidAll_os _ _ _) (World.shaped_of_ZipB (by kernel_rfl) (by kernel_rfl)) (by kernel_rfl) (by kernel_rfl) (by kernel_rfl) (door_met os _)) ?_
 intro W base args ds gs before hval0 hW hS hL
 exact Ny (n:=3) (of_laid hL hS) s9 rfl (fun x hx=>FZ x hx) (by kernel_rfl) (by kernel_rfl) rfl Tryz.underlying4 rfl (by kernel_rfl) (fun ds h=>by obtain⟨b,c,d,rfl⟩:=Wb h;rfl) hval0 hW
theorem j1:(Rows.fnExactSurvivesStepsRow.wf (OpenSpec.ofChange Rows.fnExactSurvivesStepsSpec))=true:=by kernel_rfl
theorem j2:(laidOutB Tryz.prog)=true:=by kernel_rfl
theorem j3:(mapsRowed Tryz.prog)=true:=by kernel_rfl
theorem j4:(Tryz.f4.params.all (Tryz.prog.readableRec ·))=true:=by kernel_rfl
theorem j5:(namedTie Tryz.prog Rows.fnExactSurvivesStepsRow.named Rows.fnExactSurvivesStepsSpec.vars)=true:=by kernel_rfl
theorem j6:((Rows.fnExactSurvivesStepsRow.stops== []))=true:=by kernel_rfl
theorem j7:((Tryz.prog.stops== []))=true:=by kernel_rfl
theorem j8:((Rows.fnExactSurvivesStepsRow.knobs== []))=true:=by kernel_rfl
theorem j9:((Tryz.prog.stopKnobs== []))=true:=by kernel_rfl
theorem j10:((Rows.fnExactSurvivesStepsRow.inPlace==Tryz.prog.inPlace 4))=true:=by kernel_rfl
theorem j11:((Rows.fnExactSurvivesStepsRow.unfollowed==Tryz.prog.unfollowed 4))=true:=by kernel_rfl
theorem j12:((Rows.fnExactSurvivesStepsRow.recurses==Tryz.prog.recurses 4))=true:=by kernel_rfl
theorem j13:((Rows.fnExactSurvivesStepsRow.named==Tryz.prog.varsNamed 4))=true:=by kernel_rfl
theorem j14:((Rows.fnExactSurvivesStepsRow.maps==(Tryz.f4.params.toList++Rows.fnExactSurvivesStepsSpec.plain.varTypes Tryz.prog).any (Tryz.prog.mapsRec ·)))=true:=by kernel_rfl
theorem j15:((Rows.fnExactSurvivesStepsRow.ifaces==(Tryz.f4.params.toList++Rows.fnExactSurvivesStepsSpec.plain.varTypes Tryz.prog).any (Tryz.prog.ifacesRec ·)))=true:=by kernel_rfl
theorem j16:((Rows.fnExactSurvivesStepsRow.mapsOut==Tryz.prog.mapsAmong Tryz.f4.resultTypes.toList))=true:=by kernel_rfl
theorem j17:((Rows.fnExactSurvivesStepsRow.loops==(Tryz.f4.params.toList++Rows.fnExactSurvivesStepsSpec.plain.varTypes Tryz.prog).any (Tryz.prog.loopsFrom ·)))=true:=by kernel_rfl
theorem j18:((Rows.fnExactSurvivesStepsRow.wideKeys==(Tryz.f4.params.toList++Rows.fnExactSurvivesStepsSpec.plain.varTypes Tryz.prog++Tryz.f4.resultTypes.toList).any (Tryz.prog.wideKeysFrom ·)))=true:=by kernel_rfl
theorem j19:(Rows.fnExactSurvivesStepsSpec.vars.all (Tryz.prog.varReadable ·))=true:=by kernel_rfl
theorem j20:(Tryz.f4.resultTypes.all (fun t=>Tryz.prog.readableRec t&&decide (t<Tryz.prog.types.size)))=true:=by kernel_rfl
theorem j21:((Rows.fnExactSurvivesStepsRow.ifacesOut==Tryz.f4.resultTypes.toList.any (Tryz.prog.ifacesRec ·)))=true:=by kernel_rfl
theorem j22:((Rows.fnExactSurvivesStepsRow.loopsOut==Tryz.f4.resultTypes.toList.any (Tryz.prog.loopsFrom ·)))=true:=by kernel_rfl
theorem j23:((Rows.fnExactSurvivesStepsRow.plainKeys==Tryz.prog.plainKeys))=true:=by kernel_rfl
theorem j24:(Rows.fnExactSurvivesStepsRow.shortTexts.isNone)=true:=by kernel_rfl
theorem j25:(Tryz.prog.stopsHeard)=true:=by kernel_rfl
theorem j26:(Tryz.prog.mayEnter)=true:=by kernel_rfl
theorem j27:((Rows.fnExactSurvivesStepsRow.lifted==Tryz.prog.liftsFinal))=true:=by kernel_rfl
theorem j28:((Tryz.prog.make==some Rows.fnExactSurvivesStepsRow.make))=true:=by kernel_rfl
theorem j29:((Rows.fnExactSurvivesStepsRow.kinds==(if Rows.fnExactSurvivesStepsRow.domain.isEmpty then []else Tryz.f4.params.toList.map fun t=>match Tryz.prog.underlying t with|some (.int k)=>some k|_=>none)))=true:=by kernel_rfl
theorem j30:((Rows.fnExactSurvivesStepsRow.pinned==Rows.fnExactSurvivesStepsRow.pinnedBy))=true:=by kernel_rfl
theorem j31:((Rows.fnExactSurvivesStepsRow.veiled==(Tryz.f4.params.toList++Rows.fnExactSurvivesStepsSpec.plain.varTypes Tryz.prog++Tryz.f4.resultTypes.toList).any (Tryz.prog.veiledRec ·)))=true:=by kernel_rfl
theorem j32:(Rows.fnExactSurvivesStepsRow.veiledFits Tryz.prog Tryz.f4.params.toList (Tryz.f4.params.toList++Rows.fnExactSurvivesStepsSpec.plain.varTypes Tryz.prog++Tryz.f4.resultTypes.toList))=true:=by kernel_rfl
theorem closed:joinedFacts Tryz.prog 4 Tryz.f4 Rows.fnExactSurvivesStepsSpec Rows.fnExactSurvivesStepsRow=true:=NY j1 j2 j3 j4 j5 j6 j7 j8 j9 j10 j11 j12 j13 j14 j15 j16 j17 j18 j19 j20 j21 j22 j23 j24 j25 j26 j27 j28 j29 j30 j31 j32
theorem named:Tryz.prog.funcNamed "loop.example/g00833/laws.FnExactSurvivesSteps"=some 4 :=by kernel_rfl
theorem inst:Func.isInstance Tryz.prog Tryz.f4 Rows.fnExactSurvivesStepsRow.origin Rows.fnExactSurvivesStepsRow.targs:=of_decide_eq_true (by kernel_rfl)
theorem wrap:Func.isWrapper Tryz.prog Tryz.f4 Rows.fnExactSurvivesStepsRow.wrapper Rows.fnExactSurvivesStepsRow.mainSum:=by unfold Func.isWrapper;first|(rw[if_pos (by decide+kernel)];kernel_rfl)|(rw[if_neg (by decide+kernel)];exact⟨rfl,rfl⟩)
theorem over:Rows.FnExactSurvivesStepsSaid:=
 OpenClaim.holds_of_wide 4 Tryz.f4 rfl rfl rfl rfl rfl rfl rfl ⟨rfl,rfl,rfl,rfl,rfl⟩ rfl rfl rfl rfl rfl named Tryz.func4 closed
  inst wrap
  (fun os started H enc _=>lifted os started H enc)
theorem byText:Rows.fnExactSurvivesStepsRow.wfByText (OpenSpec.ofChange Rows.fnExactSurvivesStepsSpec)=true:=by kernel_rfl
theorem main:Tryz.prog.mainIs=some (((true,"8741093498c4a244a107787e11f4b55fd34bf2195abbc8f7fd0b72f1f8441ddd"):Bool×String).1,((true,"8741093498c4a244a107787e11f4b55fd34bf2195abbc8f7fd0b72f1f8441ddd"):Bool×String).2.toList):=by kernel_rfl
theorem looks:false=Tryz.prog.looks []:=by kernel_rfl
theorem apartIn:(Tryz.f4.params.toList.all fun u=> !Tryz.prog.wantsStandIn u)=true:=by kernel_rfl
theorem goes:false=Rows.fnExactSurvivesStepsRow.goesBy Tryz.prog:=by kernel_rfl
theorem proved:Rows.FnExactSurvivesStepsCardSaid:=
 Claim7.holds_tied_plain_at .later [] [.data,.pinned] true (true,"8741093498c4a244a107787e11f4b55fd34bf2195abbc8f7fd0b72f1f8441ddd") false
  over (fun _ h=>by cases h) byText (fun _ h=>by cases h) fnExactSurvivesSteps_row_tie rfl ⟨rfl,rfl⟩ main rfl
  (fun f fn hf hfn=>by
    obtain rfl:f=4 :=Option.some.inj (named.symm.trans hf) |>.symm
    obtain rfl:fn=Tryz.f4 :=(Option.some.inj (Tryz.func4.symm.trans hfn)).symm
    exact⟨looks,fun j t ht=>by
     have hm:t ∈ Tryz.f4.params.toList:=by simpa using Array.mem_of_getElem? ht
     have:=List.all_eq_true.1 apartIn t hm
     exact(show Tryz.prog.wantsStandIn t=false by simpa using this)⟩)
  goes
#print axioms proved
end Go.Proofs.YthfgmmmeplanbaaGreatDoor.fnExactSurvivesSteps
