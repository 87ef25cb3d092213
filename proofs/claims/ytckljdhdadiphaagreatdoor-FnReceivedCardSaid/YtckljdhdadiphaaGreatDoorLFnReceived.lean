/- For every argument the law FnReceived returns true; the package-level variables that its row lists are tied to the program's text; no other conditions. -/
import Derived.Test.YtckljdhdadiphaaGreatDoorRows
import Derived.Test.YtckljdhdadiphaaGreatDoorCards
import Derived.Test.YtckljdhdadiphaaGreatDoorTie
import Derived.Test.YtckljdhdadiphaaGreatDoorCard
import Derived.Stop.LaidErr
import Derived.Test.YtckljdhdadiphaaGreatDoorQS
import Derived.WalkKit
import Derived.ProofKit
import Derived.OpenShut
import Derived.SevenTiedAt
import Derived.Lay
namespace Go.Proofs.YtckljdhdadiphaaGreatDoor.fnReceived
open Go.Proofs.YtckljdhdadiphaaGreatDoor Go.ChangeShapes Go.WideShapes Go.ChangeAt Go.RowKit
set_option linter.unusedVariables false
set_option maxRecDepth 100000
theorem own:ownKnob Tryz.prog.godebug=none:=by kernel_rfl
theorem door_met(os:Os)(args:Array Value):laidMetH Tryz.prog Rows.fnReceivedRow.laid ((World.laidAll Tryz.prog os Rows.fnReceivedRow.laid).forCall (fun _ _=>0) ⟨#[],args,[]⟩).memory:=by
 rw[MakeChecks.laidMetH_plain _ _ _ (by kernel_rfl)]
 exact laidMet_laidAll args (by kernel_rfl) (by kernel_rfl)
theorem of_laid {W:World}(h:laidMetH Tryz.prog Rows.fnReceivedRow.laid W)(hs:W.ShapedOpen Tryz.prog):G0.I W:=trivial
set_option maxRecDepth 100000 in
theorem lifted(os:Os)(started:os.Started)(H:Type)(enc:TypeId×Value→H):
  ReturnsInHanded {} Tryz.checked os 5 .any (fun w args=>(Rows.fnReceivedSpec.pre enc Tryz.prog Tryz.f5 [] false w args∧laidMetH Tryz.prog Rows.fnReceivedRow.laid w)∧sizedMet enc Tryz.prog Tryz.f5 (OpenSpec.ofChange Rows.fnReceivedSpec) false w args)
   (Rows.fnReceivedSpec.post enc Tryz.prog Tryz.f5 false true false false):=by
 refine Io (C:=Tryz.checked) (X:=fun w _=>laidMetH Tryz.prog Rows.fnReceivedRow.laid w) (fun _ _ _ hh h=>h.of_heap hh) own started (by kernel_rfl) Tryz.func5
  (ChangeSpec.witness_shaped (enc:=enc) (C:=Tryz.checked) (os:=os) (X:=fun w _=>laidMetH Tryz.prog Rows.fnReceivedRow.laid w) false (World.laidAll Tryz.prog os Rows.fnReceivedRow.laid) #[.slice none 0 0] 8 (World.laidAll_os _ _ _) (World.shaped_of_ZipB (by kernel_rfl) (by kernel_rfl)) (by kernel_rfl) (by kernel_rfl) (by kernel_rfl) (door_met os _)) ?_
 intro W base args ds gs jX hval0 hW hS hL
 exact Oj (n:=1) (of_laid hL hS) LC rfl (fun x hx=>R6 x hx) (by kernel_rfl) (by kernel_rfl) rfl Tryz.underlying4 rfl (by kernel_rfl) (fun ds h=>by obtain⟨d,rfl⟩:=List.length_eq_one_iff.1 h;rfl) hval0 hW
theorem j1:(Rows.fnReceivedRow.wf (OpenSpec.ofChange Rows.fnReceivedSpec))=true:=by kernel_rfl
theorem j2:(laidOutB Tryz.prog)=true:=by kernel_rfl
theorem j3:(mapsRowed Tryz.prog)=true:=by kernel_rfl
theorem j4:(Tryz.f5.params.all (Tryz.prog.readableRec ·))=true:=by kernel_rfl
theorem j5:(namedTie Tryz.prog Rows.fnReceivedRow.named Rows.fnReceivedSpec.vars)=true:=by kernel_rfl
theorem j6:((Rows.fnReceivedRow.stops== []))=true:=by kernel_rfl
theorem j7:((Tryz.prog.stops== []))=true:=by kernel_rfl
theorem j8:((Rows.fnReceivedRow.knobs== []))=true:=by kernel_rfl
theorem j9:((Tryz.prog.stopKnobs== []))=true:=by kernel_rfl
theorem j10:((Rows.fnReceivedRow.inPlace==Tryz.prog.inPlace 5))=true:=by kernel_rfl
theorem j11:((Rows.fnReceivedRow.unfollowed==Tryz.prog.unfollowed 5))=true:=by kernel_rfl
theorem j12:((Rows.fnReceivedRow.recurses==Tryz.prog.recurses 5))=true:=by kernel_rfl
theorem j13:((Rows.fnReceivedRow.named==Tryz.prog.varsNamed 5))=true:=by kernel_rfl
theorem j14:((Rows.fnReceivedRow.maps==(Tryz.f5.params.toList++Rows.fnReceivedSpec.plain.varTypes Tryz.prog).any (Tryz.prog.mapsRec ·)))=true:=by kernel_rfl
theorem j15:((Rows.fnReceivedRow.ifaces==(Tryz.f5.params.toList++Rows.fnReceivedSpec.plain.varTypes Tryz.prog).any (Tryz.prog.ifacesRec ·)))=true:=by kernel_rfl
theorem j16:((Rows.fnReceivedRow.mapsOut==Tryz.prog.mapsAmong Tryz.f5.resultTypes.toList))=true:=by kernel_rfl
theorem j17:((Rows.fnReceivedRow.loops==(Tryz.f5.params.toList++Rows.fnReceivedSpec.plain.varTypes Tryz.prog).any (Tryz.prog.loopsFrom ·)))=true:=by kernel_rfl
theorem j18:((Rows.fnReceivedRow.wideKeys==(Tryz.f5.params.toList++Rows.fnReceivedSpec.plain.varTypes Tryz.prog++Tryz.f5.resultTypes.toList).any (Tryz.prog.wideKeysFrom ·)))=true:=by kernel_rfl
theorem j19:(Rows.fnReceivedSpec.vars.all (Tryz.prog.varReadable ·))=true:=by kernel_rfl
theorem j20:(Tryz.f5.resultTypes.all (fun t=>Tryz.prog.readableRec t&&decide (t<Tryz.prog.types.size)))=true:=by kernel_rfl
theorem j21:((Rows.fnReceivedRow.ifacesOut==Tryz.f5.resultTypes.toList.any (Tryz.prog.ifacesRec ·)))=true:=by kernel_rfl
theorem j22:((Rows.fnReceivedRow.loopsOut==Tryz.f5.resultTypes.toList.any (Tryz.prog.loopsFrom ·)))=true:=by kernel_rfl
theorem j23:((Rows.fnReceivedRow.plainKeys==Tryz.prog.plainKeys))=true:=by kernel_rfl
theorem j24:(Rows.fnReceivedRow.shortTexts.isNone)=true:=by kernel_rfl
theorem j25:(Tryz.prog.stopsHeard)=true:=by kernel_rfl
theorem j26:(Tryz.prog.mayEnter)=true:=by kernel_rfl
theorem j27:((Rows.fnReceivedRow.lifted==Tryz.prog.liftsFinal))=true:=by kernel_rfl
theorem j28:((Tryz.prog.make==some Rows.fnReceivedRow.make))=true:=by kernel_rfl
theorem j29:((Rows.fnReceivedRow.kinds==(if Rows.fnReceivedRow.domain.isEmpty then []else Tryz.f5.params.toList.map fun t=>match Tryz.prog.underlying t with|some (.int k)=>some k|_=>none)))=true:=by kernel_rfl
theorem j30:((Rows.fnReceivedRow.pinned==Rows.fnReceivedRow.pinnedBy))=true:=by kernel_rfl
theorem j31:((Rows.fnReceivedRow.veiled==(Tryz.f5.params.toList++Rows.fnReceivedSpec.plain.varTypes Tryz.prog++Tryz.f5.resultTypes.toList).any (Tryz.prog.veiledRec ·)))=true:=by kernel_rfl
theorem j32:(Rows.fnReceivedRow.veiledFits Tryz.prog Tryz.f5.params.toList (Tryz.f5.params.toList++Rows.fnReceivedSpec.plain.varTypes Tryz.prog++Tryz.f5.resultTypes.toList))=true:=by kernel_rfl
theorem closed:joinedFacts Tryz.prog 5 Tryz.f5 Rows.fnReceivedSpec Rows.fnReceivedRow=true:=OV j1 j2 j3 j4 j5 j6 j7 j8 j9 j10 j11 j12 j13 j14 j15 j16 j17 j18 j19 j20 j21 j22 j23 j24 j25 j26 j27 j28 j29 j30 j31 j32
theorem named:Tryz.prog.funcNamed "loop.example/g00833/laws.FnReceived"=some 5 :=by kernel_rfl
theorem inst:Func.isInstance Tryz.prog Tryz.f5 Rows.fnReceivedRow.origin Rows.fnReceivedRow.targs:=of_decide_eq_true (by kernel_rfl)
theorem wrap:Func.isWrapper Tryz.prog Tryz.f5 Rows.fnReceivedRow.wrapper Rows.fnReceivedRow.mainSum:=by unfold Func.isWrapper;first|(rw[if_pos (by decide+kernel)];kernel_rfl)|(rw[if_neg (by decide+kernel)];exact⟨rfl,rfl⟩)
theorem over:Rows.FnReceivedSaid:=
 OpenClaim.holds_of_wide 5 Tryz.f5 rfl rfl rfl rfl rfl rfl rfl ⟨rfl,rfl,rfl,rfl,rfl⟩ rfl rfl rfl rfl rfl named Tryz.func5 closed
  inst wrap
  (fun os started H enc _=>lifted os started H enc)
theorem byText:Rows.fnReceivedRow.wfByText (OpenSpec.ofChange Rows.fnReceivedSpec)=true:=by kernel_rfl
theorem main:Tryz.prog.mainIs=some (((true,"ee5949c8b258eaec06b88d383d93166b4767119f4a59c1b8cd92b15b2d2e3f51"):Bool×String).1,((true,"ee5949c8b258eaec06b88d383d93166b4767119f4a59c1b8cd92b15b2d2e3f51"):Bool×String).2.toList):=by kernel_rfl
theorem looks:false=Tryz.prog.looks []:=by kernel_rfl
theorem apartIn:(Tryz.f5.params.toList.all fun u=> !Tryz.prog.wantsStandIn u)=true:=by kernel_rfl
theorem goes:false=Rows.fnReceivedRow.goesBy Tryz.prog:=by kernel_rfl
theorem proved:Rows.FnReceivedCardSaid:=
 Claim7.holds_tied_plain_at .later [] [.data,.pinned] true (true,"ee5949c8b258eaec06b88d383d93166b4767119f4a59c1b8cd92b15b2d2e3f51") false
  over (fun _ h=>by cases h) byText (fun _ h=>by cases h) fnReceived_row_tie rfl ⟨rfl,rfl⟩ main rfl
  (fun f fn hf hfn=>by
    obtain rfl:f=5 :=Option.some.inj (named.symm.trans hf) |>.symm
    obtain rfl:fn=Tryz.f5 :=(Option.some.inj (Tryz.func5.symm.trans hfn)).symm
    exact⟨looks,fun j t ht=>by
     have hm:t ∈ Tryz.f5.params.toList:=by simpa using Array.mem_of_getElem? ht
     have:=List.all_eq_true.1 apartIn t hm
     exact(show Tryz.prog.wantsStandIn t=false by simpa using this)⟩)
  goes
#print axioms proved
end Go.Proofs.YtckljdhdadiphaaGreatDoor.fnReceived
