/- For every argument the law FnSurvived returns true; the package-level variables that its row lists are tied to the program's text; no other conditions. -/
import Derived.Test.YtkgcbbkodalfmaaGreatDoorRows
import Derived.Test.YtkgcbbkodalfmaaGreatDoorCards
import Derived.Test.YtkgcbbkodalfmaaGreatDoorTie
import Derived.Test.YtkgcbbkodalfmaaGreatDoorCard
import Derived.Stop.LaidErr
import Derived.Test.YtkgcbbkodalfmaaGreatDoorQV
import Derived.WalkKit
import Derived.ProofKit
import Derived.OpenShut
import Derived.SevenTiedAt
import Derived.Lay
namespace Go.Proofs.YtkgcbbkodalfmaaGreatDoor.fnSurvived
open Go.Proofs.YtkgcbbkodalfmaaGreatDoor Go.ChangeShapes Go.WideShapes Go.ChangeAt Go.RowKit
set_option linter.unusedVariables false
set_option maxRecDepth 100000
theorem own:ownKnob Tryz.prog.godebug=none:=by kernel_rfl
theorem Av(os:Os)(args:Array Value):laidMetH Tryz.prog Rows.fnSurvivedRow.laid ((World.laidAll Tryz.prog os Rows.fnSurvivedRow.laid).forCall (fun _ _=>0) ⟨#[],args,[]⟩).memory:=by
 rw[MakeChecks.laidMetH_plain _ _ _ (by kernel_rfl)]
 exact laidMet_laidAll args (by kernel_rfl) (by kernel_rfl)
theorem Fn {W:World}(h:laidMetH Tryz.prog Rows.fnSurvivedRow.laid W)(hs:W.ShapedOpen Tryz.prog):G0.I W:=trivial
set_option maxRecDepth 100000 in
theorem lifted(os:Os)(started:os.Started)(H:Type)(enc:TypeId×Value→H):
  ReturnsInHanded {} Tryz.checked os 7 .any (fun w args=>(Rows.fnSurvivedSpec.pre enc Tryz.prog Tryz.f7 [] false w args∧laidMetH Tryz.prog Rows.fnSurvivedRow.laid w)∧sizedMet enc Tryz.prog Tryz.f7 (OpenSpec.ofChange Rows.fnSurvivedSpec) false w args)
   (Rows.fnSurvivedSpec.post enc Tryz.prog Tryz.f7 false true false false):=by
 refine Hh (C:=Tryz.checked) (X:=fun w _=>laidMetH Tryz.prog Rows.fnSurvivedRow.laid w) (fun _ _ _ hh h=>h.of_heap hh) own started (by kernel_rfl) Tryz.func7
  (ChangeSpec.witness_shaped (enc:=enc) (C:=Tryz.checked) (os:=os) (X:=fun w _=>laidMetH Tryz.prog Rows.fnSurvivedRow.laid w) false (World.laidAll Tryz.prog os Rows.fnSurvivedRow.laid) #[.slice none 0 0] 8 (World.laidAll_os _ _ _) (World.shaped_of_ZipB (by kernel_rfl) (by kernel_rfl)) (by kernel_rfl) (by kernel_rfl) (by kernel_rfl) (Av os _)) ?_
 intro W base args ds gs before hval0 hW hS hL
 exact Nt (n:=1) (Fn hL hS) Ln rfl (fun x hx=>R2 x hx) (by kernel_rfl) (by kernel_rfl) rfl Tryz.underlying4 rfl (by kernel_rfl) (fun ds h=>by obtain⟨d,rfl⟩:=List.length_eq_one_iff.1 h;rfl) hval0 hW
theorem j1:(Rows.fnSurvivedRow.wf (OpenSpec.ofChange Rows.fnSurvivedSpec))=true:=by kernel_rfl
theorem j2:(laidOutB Tryz.prog)=true:=by kernel_rfl
theorem j3:(mapsRowed Tryz.prog)=true:=by kernel_rfl
theorem j4:(Tryz.f7.params.all (Tryz.prog.readableRec ·))=true:=by kernel_rfl
theorem j5:(namedTie Tryz.prog Rows.fnSurvivedRow.named Rows.fnSurvivedSpec.vars)=true:=by kernel_rfl
theorem j6:((Rows.fnSurvivedRow.stops== []))=true:=by kernel_rfl
theorem j7:((Tryz.prog.stops== []))=true:=by kernel_rfl
theorem j8:((Rows.fnSurvivedRow.knobs== []))=true:=by kernel_rfl
theorem j9:((Tryz.prog.stopKnobs== []))=true:=by kernel_rfl
theorem PB:((Rows.fnSurvivedRow.inPlace==Tryz.prog.inPlace 7))=true:=by kernel_rfl
theorem QT:((Rows.fnSurvivedRow.unfollowed==Tryz.prog.unfollowed 7))=true:=by kernel_rfl
theorem QV:((Rows.fnSurvivedRow.recurses==Tryz.prog.recurses 7))=true:=by kernel_rfl
theorem Q3:((Rows.fnSurvivedRow.named==Tryz.prog.varsNamed 7))=true:=by kernel_rfl
theorem Q4:((Rows.fnSurvivedRow.maps==(Tryz.f7.params.toList++Rows.fnSurvivedSpec.plain.varTypes Tryz.prog).any (Tryz.prog.mapsRec ·)))=true:=by kernel_rfl
theorem Q5:((Rows.fnSurvivedRow.ifaces==(Tryz.f7.params.toList++Rows.fnSurvivedSpec.plain.varTypes Tryz.prog).any (Tryz.prog.ifacesRec ·)))=true:=by kernel_rfl
theorem Q6:((Rows.fnSurvivedRow.mapsOut==Tryz.prog.mapsAmong Tryz.f7.resultTypes.toList))=true:=by kernel_rfl
theorem Rd:((Rows.fnSurvivedRow.loops==(Tryz.f7.params.toList++Rows.fnSurvivedSpec.plain.varTypes Tryz.prog).any (Tryz.prog.loopsFrom ·)))=true:=by kernel_rfl
theorem Sh:((Rows.fnSurvivedRow.wideKeys==(Tryz.f7.params.toList++Rows.fnSurvivedSpec.plain.varTypes Tryz.prog++Tryz.f7.resultTypes.toList).any (Tryz.prog.wideKeysFrom ·)))=true:=by kernel_rfl
theorem j19:(Rows.fnSurvivedSpec.vars.all (Tryz.prog.varReadable ·))=true:=by kernel_rfl
theorem j20:(Tryz.f7.resultTypes.all (fun t=>Tryz.prog.readableRec t&&decide (t<Tryz.prog.types.size)))=true:=by kernel_rfl
theorem j21:((Rows.fnSurvivedRow.ifacesOut==Tryz.f7.resultTypes.toList.any (Tryz.prog.ifacesRec ·)))=true:=by kernel_rfl
theorem j22:((Rows.fnSurvivedRow.loopsOut==Tryz.f7.resultTypes.toList.any (Tryz.prog.loopsFrom ·)))=true:=by kernel_rfl
theorem j23:((Rows.fnSurvivedRow.plainKeys==Tryz.prog.plainKeys))=true:=by kernel_rfl
theorem j24:(Rows.fnSurvivedRow.shortTexts.isNone)=true:=by kernel_rfl
theorem j25:(Tryz.prog.stopsHeard)=true:=by kernel_rfl
theorem j26:(Tryz.prog.mayEnter)=true:=by kernel_rfl
theorem j27:((Rows.fnSurvivedRow.lifted==Tryz.prog.liftsFinal))=true:=by kernel_rfl
theorem j28:((Tryz.prog.make==some Rows.fnSurvivedRow.make))=true:=by kernel_rfl
theorem j29:((Rows.fnSurvivedRow.kinds==(if Rows.fnSurvivedRow.domain.isEmpty then []else Tryz.f7.params.toList.map fun t=>match Tryz.prog.underlying t with|some (.int k)=>some k|_=>none)))=true:=by kernel_rfl
theorem j30:((Rows.fnSurvivedRow.pinned==Rows.fnSurvivedRow.pinnedBy))=true:=by kernel_rfl
theorem j31:((Rows.fnSurvivedRow.veiled==(Tryz.f7.params.toList++Rows.fnSurvivedSpec.plain.varTypes Tryz.prog++Tryz.f7.resultTypes.toList).any (Tryz.prog.veiledRec ·)))=true:=by kernel_rfl
theorem j32:(Rows.fnSurvivedRow.veiledFits Tryz.prog Tryz.f7.params.toList (Tryz.f7.params.toList++Rows.fnSurvivedSpec.plain.varTypes Tryz.prog++Tryz.f7.resultTypes.toList))=true:=by kernel_rfl
theorem GB:joinedFacts Tryz.prog 7 Tryz.f7 Rows.fnSurvivedSpec Rows.fnSurvivedRow=true:=N0 j1 j2 j3 j4 j5 j6 j7 j8 j9 PB QT QV Q3 Q4 Q5 Q6 Rd Sh j19 j20 j21 j22 j23 j24 j25 j26 j27 j28 j29 j30 j31 j32
theorem named:Tryz.prog.funcNamed "loop.example/g00833/laws.FnSurvived"=some 7 :=by kernel_rfl
theorem GT:Func.isInstance Tryz.prog Tryz.f7 Rows.fnSurvivedRow.origin Rows.fnSurvivedRow.targs:=of_decide_eq_true (by kernel_rfl)
theorem wrap:Func.isWrapper Tryz.prog Tryz.f7 Rows.fnSurvivedRow.wrapper Rows.fnSurvivedRow.mainSum:=by unfold Func.isWrapper;first|(rw[if_pos (by decide+kernel)];kernel_rfl)|(rw[if_neg (by decide+kernel)];exact⟨rfl,rfl⟩)
theorem GV:Rows.FnSurvivedSaid:=
 OpenClaim.holds_of_wide 7 Tryz.f7 rfl rfl rfl rfl rfl rfl rfl ⟨rfl,rfl,rfl,rfl,rfl⟩ rfl rfl rfl rfl rfl named Tryz.func7 GB
  GT wrap
  (fun os started H enc _=>lifted os started H enc)
theorem GC:Rows.fnSurvivedRow.wfByText (OpenSpec.ofChange Rows.fnSurvivedSpec)=true:=by kernel_rfl
theorem main:Tryz.prog.mainIs=some (((true,"d2ebe32c17f94a5f2423837fbcb3cb46b4ef764dd38c38174cbf81255fc79df7"):Bool×String).1,((true,"d2ebe32c17f94a5f2423837fbcb3cb46b4ef764dd38c38174cbf81255fc79df7"):Bool×String).2.toList):=by kernel_rfl
theorem looks:false=Tryz.prog.looks []:=by kernel_rfl
theorem GA:(Tryz.f7.params.toList.all fun u=> !Tryz.prog.wantsStandIn u)=true:=by kernel_rfl
theorem PA:false=Rows.fnSurvivedRow.goesBy Tryz.prog:=by kernel_rfl
theorem proved:Rows.FnSurvivedCardSaid:=
 Claim7.holds_tied_plain_at .later [] [.data,.pinned] true (true,"d2ebe32c17f94a5f2423837fbcb3cb46b4ef764dd38c38174cbf81255fc79df7") false
  GV (fun _ h=>by cases h) GC (fun _ h=>by cases h) fnSurvived_row_tie rfl ⟨rfl,rfl⟩ main rfl
  (fun f fn hf hfn=>by
    obtain rfl:f=7 :=Option.some.inj (named.symm.trans hf) |>.symm
    obtain rfl:fn=Tryz.f7 :=(Option.some.inj (Tryz.func7.symm.trans hfn)).symm
    exact⟨looks,fun j t ht=>by
     have hm:t ∈ Tryz.f7.params.toList:=by simpa using Array.mem_of_getElem? ht
     have:=List.all_eq_true.1 GA t hm
     exact(show Tryz.prog.wantsStandIn t=false by simpa using this)⟩)
  PA
#print axioms proved
end Go.Proofs.YtkgcbbkodalfmaaGreatDoor.fnSurvived
