/- For every argument the law FnBothChannels returns true; the package-level variables that its row lists are tied to the program's text; no other conditions. -/
import Derived.Test.YtckljdhdadiphaaGreatDoorRows
import Derived.Test.YtckljdhdadiphaaGreatDoorCards
import Derived.Test.YtckljdhdadiphaaGreatDoorTie
import Derived.Test.YtckljdhdadiphaaGreatDoorCard
import Derived.Stop.LaidErr
import Derived.Test.YtckljdhdadiphaaGreatDoorQT
import Derived.WalkKit
import Derived.ProofKit
import Derived.OpenShut
import Derived.SevenTiedAt
import Derived.Lay
namespace Go.Proofs.YtckljdhdadiphaaGreatDoor.fnBothChannels
open Go.Proofs.YtckljdhdadiphaaGreatDoor Go.ChangeShapes Go.WideShapes Go.ChangeAt Go.RowKit
set_option linter.unusedVariables false
set_option maxRecDepth 100000
theorem own:ownKnob Tryz.prog.godebug=none:=by kernel_rfl
theorem door_met(os:Os)(args:Array Value):laidMetH Tryz.prog Rows.fnBothChannelsRow.laid ((World.laidAll Tryz.prog os Rows.fnBothChannelsRow.laid).forCall (fun _ _=>0) ⟨#[],args,[]⟩).memory:=by
 rw[MakeChecks.laidMetH_plain _ _ _ (by kernel_rfl)]
 exact laidMet_laidAll args (by kernel_rfl) (by kernel_rfl)
theorem of_laid {W:World}(h:laidMetH Tryz.prog Rows.fnBothChannelsRow.laid W)(hs:W.ShapedOpen Tryz.prog):G0.I W:=trivial
set_option maxRecDepth 100000 in
theorem lifted(os:Os)(started:os.Started)(H:Type)(enc:TypeId×Value→H):
  ReturnsInHanded {} Tryz.checked os 6 .any (fun w args=>(Rows.fnBothChannelsSpec.pre enc Tryz.prog Tryz.f6 [] false w args∧laidMetH Tryz.prog Rows.fnBothChannelsRow.laid w)∧sizedMet enc Tryz.prog Tryz.f6 (OpenSpec.ofChange Rows.fnBothChannelsSpec) false w args)
   (Rows.fnBothChannelsSpec.post enc Tryz.prog Tryz.f6 false true false false):=by
 refine Io (C:=Tryz.checked) (X:=fun w _=>laidMetH Tryz.prog Rows.fnBothChannelsRow.laid w) (fun _ _ _ hh h=>h.of_heap hh) own started (by kernel_rfl) Tryz.func6
  (ChangeSpec.witness_shaped (enc:=enc) (C:=Tryz.checked) (os:=os) (X:=fun w _=>laidMetH Tryz.prog Rows.fnBothChannelsRow.laid w) false (World.laidAll Tryz.prog os Rows.fnBothChannelsRow.laid) #[.slice none 0 0] 8 (World.laidAll_os _ _ _) (World.shaped_of_ZipB (by kernel_rfl) (by kernel_rfl)) (by kernel_rfl) (by kernel_rfl) (by kernel_rfl) (door_met os _)) ?_
 intro W base args ds gs jX hval0 hW hS hL
 exact Oj (n:=1) (of_laid hL hS) D9 rfl (fun x hx=>JU x hx) (by kernel_rfl) (by kernel_rfl) rfl Tryz.underlying4 rfl (by kernel_rfl) (fun ds h=>by obtain⟨d,rfl⟩:=List.length_eq_one_iff.1 h;rfl) hval0 hW
theorem j1:(Rows.fnBothChannelsRow.wf (OpenSpec.ofChange Rows.fnBothChannelsSpec))=true:=by kernel_rfl
theorem j2:(laidOutB Tryz.prog)=true:=by kernel_rfl
theorem j3:(mapsRowed Tryz.prog)=true:=by kernel_rfl
theorem j4:(Tryz.f6.params.all (Tryz.prog.readableRec ·))=true:=by kernel_rfl
theorem j5:(namedTie Tryz.prog Rows.fnBothChannelsRow.named Rows.fnBothChannelsSpec.vars)=true:=by kernel_rfl
theorem j6:((Rows.fnBothChannelsRow.stops== []))=true:=by kernel_rfl
theorem j7:((Tryz.prog.stops== []))=true:=by kernel_rfl
theorem j8:((Rows.fnBothChannelsRow.knobs== []))=true:=by kernel_rfl
theorem j9:((Tryz.prog.stopKnobs== []))=true:=by kernel_rfl
theorem j10:((Rows.fnBothChannelsRow.inPlace==Tryz.prog.inPlace 6))=true:=by kernel_rfl
theorem j11:((Rows.fnBothChannelsRow.unfollowed==Tryz.prog.unfollowed 6))=true:=by kernel_rfl
theorem j12:((Rows.fnBothChannelsRow.recurses==Tryz.prog.recurses 6))=true:=by kernel_rfl
theorem j13:((Rows.fnBothChannelsRow.named==Tryz.prog.varsNamed 6))=true:=by kernel_rfl
theorem j14:((Rows.fnBothChannelsRow.maps==(Tryz.f6.params.toList++Rows.fnBothChannelsSpec.plain.varTypes Tryz.prog).any (Tryz.prog.mapsRec ·)))=true:=by kernel_rfl
theorem j15:((Rows.fnBothChannelsRow.ifaces==(Tryz.f6.params.toList++Rows.fnBothChannelsSpec.plain.varTypes Tryz.prog).any (Tryz.prog.ifacesRec ·)))=true:=by kernel_rfl
theorem j16:((Rows.fnBothChannelsRow.mapsOut==Tryz.prog.mapsAmong Tryz.f6.resultTypes.toList))=true:=by kernel_rfl
theorem j17:((Rows.fnBothChannelsRow.loops==(Tryz.f6.params.toList++Rows.fnBothChannelsSpec.plain.varTypes Tryz.prog).any (Tryz.prog.loopsFrom ·)))=true:=by kernel_rfl
theorem j18:((Rows.fnBothChannelsRow.wideKeys==(Tryz.f6.params.toList++Rows.fnBothChannelsSpec.plain.varTypes Tryz.prog++Tryz.f6.resultTypes.toList).any (Tryz.prog.wideKeysFrom ·)))=true:=by kernel_rfl
theorem j19:(Rows.fnBothChannelsSpec.vars.all (Tryz.prog.varReadable ·))=true:=by kernel_rfl
theorem j20:(Tryz.f6.resultTypes.all (fun t=>Tryz.prog.readableRec t&&decide (t<Tryz.prog.types.size)))=true:=by kernel_rfl
theorem j21:((Rows.fnBothChannelsRow.ifacesOut==Tryz.f6.resultTypes.toList.any (Tryz.prog.ifacesRec ·)))=true:=by kernel_rfl
theorem j22:((Rows.fnBothChannelsRow.loopsOut==Tryz.f6.resultTypes.toList.any (Tryz.prog.loopsFrom ·)))=true:=by kernel_rfl
theorem j23:((Rows.fnBothChannelsRow.plainKeys==Tryz.prog.plainKeys))=true:=by kernel_rfl
theorem j24:(Rows.fnBothChannelsRow.shortTexts.isNone)=true:=by kernel_rfl
theorem j25:(Tryz.prog.stopsHeard)=true:=by kernel_rfl
theorem j26:(Tryz.prog.mayEnter)=true:=by kernel_rfl
theorem j27:((Rows.fnBothChannelsRow.lifted==Tryz.prog.liftsFinal))=true:=by kernel_rfl
theorem j28:((Tryz.prog.make==some Rows.fnBothChannelsRow.make))=true:=by kernel_rfl
theorem j29:((Rows.fnBothChannelsRow.kinds==(if Rows.fnBothChannelsRow.domain.isEmpty then []else Tryz.f6.params.toList.map fun t=>match Tryz.prog.underlying t with|some (.int k)=>some k|_=>none)))=true:=by kernel_rfl
theorem j30:((Rows.fnBothChannelsRow.pinned==Rows.fnBothChannelsRow.pinnedBy))=true:=by kernel_rfl
theorem j31:((Rows.fnBothChannelsRow.veiled==(Tryz.f6.params.toList++Rows.fnBothChannelsSpec.plain.varTypes Tryz.prog++Tryz.f6.resultTypes.toList).any (Tryz.prog.veiledRec ·)))=true:=by kernel_rfl
theorem j32:(Rows.fnBothChannelsRow.veiledFits Tryz.prog Tryz.f6.params.toList (Tryz.f6.params.toList++Rows.fnBothChannelsSpec.plain.varTypes Tryz.prog++Tryz.f6.resultTypes.toList))=true:=by kernel_rfl
theorem closed:joinedFacts Tryz.prog 6 Tryz.f6 Rows.fnBothChannelsSpec Rows.fnBothChannelsRow=true:=OV j1 j2 j3 j4 j5 j6 j7 j8 j9 j10 j11 j12 j13 j14 j15 j16 j17 j18 j19 j20 j21 j22 j23 j24 j25 j26 j27 j28 j29 j30 j31 j32
theorem named:Tryz.prog.funcNamed "loop.example/g00833/laws.FnBothChannels"=some 6 :=by kernel_rfl
theorem inst:Func.isInstance Tryz.prog Tryz.f6 Rows.fnBothChannelsRow.origin Rows.fnBothChannelsRow.targs:=of_decide_eq_true (by kernel_rfl)
theorem wrap:Func.isWrapper Tryz.prog Tryz.f6 Rows.fnBothChannelsRow.wrapper Rows.fnBothChannelsRow.mainSum:=by unfold Func.isWrapper;first|(rw[if_pos (by decide+kernel)];kernel_rfl)|(rw[if_neg (by decide+kernel)];exact⟨rfl,rfl⟩)
theorem over:Rows.FnBothChannelsSaid:=
 OpenClaim.holds_of_wide 6 Tryz.f6 rfl rfl rfl rfl rfl rfl rfl ⟨rfl,rfl,rfl,rfl,rfl⟩ rfl rfl rfl rfl rfl named Tryz.func6 closed
  inst wrap
  (fun os started H enc _=>lifted os started H enc)
theorem byText:Rows.fnBothChannelsRow.wfByText (OpenSpec.ofChange Rows.fnBothChannelsSpec)=true:=by kernel_rfl
theorem main:Tryz.prog.mainIs=some (((true,"ee5949c8b258eaec06b88d383d93166b4767119f4a59c1b8cd92b15b2d2e3f51"):Bool×String).1,((true,"ee5949c8b258eaec06b88d383d93166b4767119f4a59c1b8cd92b15b2d2e3f51"):Bool×String).2.toList):=by kernel_rfl
theorem looks:false=Tryz.prog.looks []:=by kernel_rfl
theorem apartIn:(Tryz.f6.params.toList.all fun u=> !Tryz.prog.wantsStandIn u)=true:=by kernel_rfl
theorem goes:false=Rows.fnBothChannelsRow.goesBy Tryz.prog:=by kernel_rfl
theorem proved:Rows.FnBothChannelsCardSaid:=
 Claim7.holds_tied_plain_at .later [] [.data,.pinned] true (true,"ee5949c8b258eaec06b88d383d93166b4767119f4a59c1b8cd92b15b2d2e3f51") false
  over (fun _ h=>by cases h) byText (fun _ h=>by cases h) fnBothChannels_row_tie rfl ⟨rfl,rfl⟩ main rfl
  (fun f fn hf hfn=>by
    obtain rfl:f=6 :=Option.some.inj (named.symm.trans hf) |>.symm
    obtain rfl:fn=Tryz.f6 :=(Option.some.inj (Tryz.func6.symm.trans hfn)).symm
    exact⟨looks,fun j t ht=>by
     have hm:t ∈ Tryz.f6.params.toList:=by simpa using Array.mem_of_getElem? ht
     have:=List.all_eq_true.1 apartIn t hm
     exact(show Tryz.prog.wantsStandIn t=false by simpa using this)⟩)
  goes
#print axioms proved
end Go.Proofs.YtckljdhdadiphaaGreatDoor.fnBothChannels
