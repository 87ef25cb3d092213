/- For every argument the law FnSteps returns true; the package-level variables that its row lists are tied to the program's text; no other conditions. -/
import Derived.Test.YtnambbcafhnhpaaGreatDoorRows
import Derived.Test.YtnambbcafhnhpaaGreatDoorCards
import Derived.Test.YtnambbcafhnhpaaGreatDoorTie
import Derived.Test.YtnambbcafhnhpaaGreatDoorCard
import Derived.Stop.LaidErr
import Derived.Test.YtnambbcafhnhpaaGreatDoorQS
import Derived.WalkKit
import Derived.ProofKit
import Derived.OpenShut
import Derived.SevenTiedAt
import Derived.Lay
namespace Go.Proofs.YtnambbcafhnhpaaGreatDoor.fnSteps
open Go.Proofs.YtnambbcafhnhpaaGreatDoor Go.ChangeShapes Go.WideShapes Go.ChangeAt Go.RowKit
set_option linter.unusedVariables false
set_option maxRecDepth 100000
theorem own:ownKnob Tryz.prog.godebug=none:=by kernel_rfl
theorem aeb(os:Os)(args:Array Value):laidMetH Tryz.prog Rows.fnStepsRow.laid ((World.laidAll Tryz.prog os Rows.fnStepsRow.laid).forCall (fun _ _=>0) ⟨#[],args,[]⟩).memory:=by
 rw[MakeChecks.laidMetH_plain _ _ _ (by kernel_rfl)]
 exact laidMet_laidAll args (by kernel_rfl) (by kernel_rfl)
theorem afE {W:World}(h:laidMetH Tryz.prog Rows.fnStepsRow.laid W)(hs:W.ShapedOpen Tryz.prog):G0.I W:=trivial
set_option maxRecDepth 100000 in
theorem lifted(os:Os)(started:os.Started)(H:Type)(enc:TypeId×Value→H):
  ReturnsInHanded {} Tryz.checked os 3 .any (fun w args=>(Rows.fnStepsSpec.pre enc Tryz.prog Tryz.f3 [] false w args∧laidMetH Tryz.prog Rows.fnStepsRow.laid w)∧sizedMet enc Tryz.prog Tryz.f3 (OpenSpec.ofChange Rows.fnStepsSpec) false w args)
   (Rows.fnStepsSpec.post enc Tryz.prog Tryz.f3 false true false false):=by
 refine Yp (C:=Tryz.checked) (X:=fun w _=>laidMetH Tryz.prog Rows.fnStepsRow.laid w) (fun _ _ _ hh h=>h.of_heap hh) own started (by kernel_rfl) Tryz.func3
  (ChangeSpec.witness_shaped (enc:=enc) (C:=Tryz.checked) (os:=os) (X:=fun w _=>laidMetH Tryz.prog Rows.fnStepsRow.laid w) false (World.laidAll Tryz.prog os Rows.fnStepsRow.laid) #[.slice none 0 0] 8 (World.laidAll_os _ _ _) (World.shaped_of_ZipB (by kernel_rfl) (by kernel_rfl)) (by kernel_rfl) (by kernel_rfl) (by kernel_rfl) (aeb os _)) ?_
 intro W base args ds gs nD hval0 hW hS hL
 exact abr (n:=1) (afE hL hS) Wx rfl (fun x hx=>acH x hx) (by kernel_rfl) (by kernel_rfl) rfl Tryz.underlying4 rfl (by kernel_rfl) (fun ds h=>by obtain⟨d,rfl⟩:=List.length_eq_one_iff.1 h;rfl) hval0 hW
theorem j1:(Rows.fnStepsRow.wf (OpenSpec.ofChange Rows.fnStepsSpec))=true:=by kernel_rfl
theorem j2:(laidOutB Tryz.prog)=true:=by kernel_rfl
theorem j3:(mapsRowed Tryz.prog)=true:=by kernel_rfl
theorem j4:(Tryz.f3.params.all (Tryz.prog.readableRec ·))=true:=by kernel_rfl
theorem j5:(namedTie Tryz.prog Rows.fnStepsRow.named Rows.fnStepsSpec.vars)=true:=by kernel_rfl
theorem j6:((Rows.fnStepsRow.stops== []))=true:=by kernel_rfl
theorem j7:((Tryz.prog.stops== []))=true:=by kernel_rfl
theorem j8:((Rows.fnStepsRow.knobs== []))=true:=by kernel_rfl
theorem j9:((Tryz.prog.stopKnobs== []))=true:=by kernel_rfl
theorem j10:((Rows.fnStepsRow.inPlace==Tryz.prog.inPlace 3))=true:=by kernel_rfl
theorem j11:((Rows.fnStepsRow.unfollowed==Tryz.prog.unfollowed 3))=true:=by kernel_rfl
theorem j12:((Rows.fnStepsRow.recurses==Tryz.prog.recurses 3))=true:=by kernel_rfl
theorem j13:((Rows.fnStepsRow.named==Tryz.prog.varsNamed 3))=true:=by kernel_rfl
theorem j14:((Rows.fnStepsRow.maps==(Tryz.f3.params.toList++Rows.fnStepsSpec.plain.varTypes Tryz.prog).any (Tryz.prog.mapsRec ·)))=true:=by kernel_rfl
theorem j15:((Rows.fnStepsRow.ifaces==(Tryz.f3.params.toList++Rows.fnStepsSpec.plain.varTypes Tryz.prog).any (Tryz.prog.ifacesRec ·)))=true:=by kernel_rfl
theorem j16:((Rows.fnStepsRow.mapsOut==Tryz.prog.mapsAmong Tryz.f3.resultTypes.toList))=true:=by kernel_rfl
theorem j17:((Rows.fnStepsRow.loops==(Tryz.f3.params.toList++Rows.fnStepsSpec.plain.varTypes Tryz.prog).any (Tryz.prog.loopsFrom ·)))=true:=by kernel_rfl
theorem j18:((Rows.fnStepsRow.wideKeys==(Tryz.f3.params.toList++Rows.fnStepsSpec.plain.varTypes Tryz.prog++Tryz.f3.resultTypes.toList).any (Tryz.prog.wideKeysFrom ·)))=true:=by kernel_rfl
theorem j19:(Rows.fnStepsSpec.vars.all (Tryz.prog.varReadable ·))=true:=by kernel_rfl
theorem j20:(Tryz.f3.resultTypes.all (fun t=>Tryz.prog.readableRec t&&decide (t<Tryz.prog.types.size)))=true:=by kernel_rfl
theorem j21:((Rows.fnStepsRow.ifacesOut==Tryz.f3.resultTypes.toList.any (Tryz.prog.ifacesRec ·)))=true:=by kernel_rfl
theorem j22:((Rows.fnStepsRow.loopsOut==Tryz.f3.resultTypes.toList.any (Tryz.prog.loopsFrom ·)))=true:=by kernel_rfl
theorem j23:((Rows.fnStepsRow.plainKeys==Tryz.prog.plainKeys))=true:=by kernel_rfl
theorem j24:(Rows.fnStepsRow.shortTexts.isNone)=true:=by kernel_rfl
theorem j25:(Tryz.prog.stopsHeard)=true:=by kernel_rfl
theorem j26:(Tryz.prog.mayEnter)=true:=by kernel_rfl
theorem j27:((Rows.fnStepsRow.lifted==Tryz.prog.liftsFinal))=true:=by kernel_rfl
theorem j28:((Tryz.prog.make==some Rows.fnStepsRow.make))=true:=by kernel_rfl
theorem j29:((Rows.fnStepsRow.kinds==(if Rows.fnStepsRow.domain.isEmpty then []else Tryz.f3.params.toList.map fun t=>match Tryz.prog.underlying t with|some (.int k)=>some k|_=>none)))=true:=by kernel_rfl
theorem j30:((Rows.fnStepsRow.pinned==Rows.fnStepsRow.pinnedBy))=true:=by kernel_rfl
theorem j31:((Rows.fnStepsRow.veiled==(Tryz.f3.params.toList++Rows.fnStepsSpec.plain.varTypes Tryz.prog++Tryz.f3.resultTypes.toList).any (Tryz.prog.veiledRec ·)))=true:=by kernel_rfl
theorem j32:(Rows.fnStepsRow.veiledFits Tryz.prog Tryz.f3.params.toList (Tryz.f3.params.toList++Rows.fnStepsSpec.plain.varTypes Tryz.prog++Tryz.f3.resultTypes.toList))=true:=by kernel_rfl
theorem ahe:joinedFacts Tryz.prog 3 Tryz.f3 Rows.fnStepsSpec Rows.fnStepsRow=true:=acI j1 j2 j3 j4 j5 j6 j7 j8 j9 j10 j11 j12 j13 j14 j15 j16 j17 j18 j19 j20 j21 j22 j23 j24 j25 j26 j27 j28 j29 j30 j31 j32
theorem named:Tryz.prog.funcNamed "loop.example/g00833/laws.FnSteps"=some 3 :=by kernel_rfl
theorem ahF:Func.isInstance Tryz.prog Tryz.f3 Rows.fnStepsRow.origin Rows.fnStepsRow.targs:=of_decide_eq_true (by kernel_rfl)
theorem wrap:Func.isWrapper Tryz.prog Tryz.f3 Rows.fnStepsRow.wrapper Rows.fnStepsRow.mainSum:=by unfold Func.isWrapper;first|(rw[if_pos (by decide+kernel)];kernel_rfl)|(rw[if_neg (by decide+kernel)];exact⟨rfl,rfl⟩)
theorem ahG:Rows.FnStepsSaid:=
 OpenClaim.holds_of_wide 3 Tryz.f3 rfl rfl rfl rfl rfl rfl rfl ⟨rfl,rfl,rfl,rfl,rfl⟩ rfl rfl rfl rfl rfl named Tryz.func3 ahe
  ahF wrap
  (fun os started H enc _=>lifted os started H enc)
theorem ahf:Rows.fnStepsRow.wfByText (OpenSpec.ofChange Rows.fnStepsSpec)=true:=by kernel_rfl
theorem main:Tryz.prog.mainIs=some (((true,"e582ec48f6f5cb06331eed79dcdbc4811dda7c413f3f843e6d2b5a5738b8aca2"):Bool×String).1,((true,"e582ec48f6f5cb06331eed79dcdbc4811dda7c413f3f843e6d2b5a5738b8aca2"):Bool×String).2.toList):=by kernel_rfl
theorem looks:false=Tryz.prog.looks []:=by kernel_rfl
theorem afF:(Tryz.f3.params.toList.all fun u=> !Tryz.prog.wantsStandIn u)=true:=by kernel_rfl
theorem ahH:false=Rows.fnStepsRow.goesBy Tryz.prog:=by kernel_rfl
theorem proved:Rows.FnStepsCardSaid:=
 Claim7.holds_tied_plain_at .later [] [.data,.pinned] true (true,"e582ec48f6f5cb06331eed79dcdbc4811dda7c413f3f843e6d2b5a5738b8aca2") false
  ahG (fun _ h=>by cases h) ahf (fun _ h=>by cases h) fnSteps_row_tie rfl ⟨rfl,rfl⟩ main rfl
  (fun f fn hf hfn=>by
    obtain rfl:f=3 :=Option.some.inj (named.symm.trans hf) |>.symm
    obtain rfl:fn=Tryz.f3 :=(Option.some.inj (Tryz.func3.symm.trans hfn)).symm
    exact⟨looks,fun j t ht=>by
     have hm:t ∈ Tryz.f3.params.toList:=by simpa using Array.mem_of_getElem? ht
     have:=List.all_eq_true.1 afF t hm
     exact(show Tryz.prog.wantsStandIn t=false by simpa using this)⟩)
  ahH
#print axioms proved
end Go.Proofs.YtnambbcafhnhpaaGreatDoor.fnSteps
