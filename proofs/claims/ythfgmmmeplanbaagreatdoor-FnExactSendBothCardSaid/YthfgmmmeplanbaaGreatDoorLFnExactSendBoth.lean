import Derived.Test.YthfgmmmeplanbaaGreatDoorRows
import Derived.Test.YthfgmmmeplanbaaGreatDoorCards
import Derived.Test.YthfgmmmeplanbaaGreatDoorTie
import Derived.Test.YthfgmmmeplanbaaGreatDoorCard
import Derived.Stop.LaidErr
import Derived.Test.YthfgmmmeplanbaaGreatDoorQ3
import Derived.WalkKit
import Derived.ProofKit
import Derived.OpenShut
import Derived.SevenTiedAt
import Derived.Lay
namespace Go.Proofs.YthfgmmmeplanbaaGreatDoor.fnExactSendBoth
open Go.Proofs.YthfgmmmeplanbaaGreatDoor Go.ChangeShapes Go.WideShapes Go.ChangeAt Go.RowKit
set_option linter.unusedVariables false
set_option maxRecDepth 100000
theorem own:ownKnob Tryz.prog.godebug=none:=by kernel_rfl
theorem door_met(os:Os)(args:Array Value):laidMetH Tryz.prog Rows.fnExactSendBothRow.laid ((World.laidAll Tryz.prog os Rows.fnExactSendBothRow.laid).forCall (fun _ _=>0) ⟨#[],args,[]⟩).memory:=by
 rw[MakeChecks.laidMetH_plain _ _ _ (by kernel_rfl)]
 exact laidMet_laidAll args (by kernel_rfl) (by kernel_rfl)
theorem of_laid {W:World}(h:laidMetH Tryz.prog Rows.fnExactSendBothRow.laid W)(hs:W.ShapedOpen Tryz.prog):G0.I W:=trivial
set_option maxRecDepth 100000 in
theorem lifted(os:Os)(started:os.Started)(H:Type)(enc:TypeId×Value→H):
  ReturnsInHanded {} Tryz.checked os 3 .any (fun w args=>(Rows.fnExactSendBothSpec.pre enc Tryz.prog Tryz.f3 [] false w args∧laidMetH Tryz.prog Rows.fnExactSendBothRow.laid w)∧sizedMet enc Tryz.prog Tryz.f3 (OpenSpec.ofChange Rows.fnExactSendBothSpec) false w args)
   (Rows.fnExactSendBothSpec.post enc Tryz.prog Tryz.f3 false true false false):=by
 refine handed_card (C:=Tryz.checked) (X:=fun w _=>laidMetH Tryz.prog Rows.fnExactSendBothRow.laid w) (fun _ _ _ hh h=>h.of_heap hh) own started (by kernel_rfl) Tryz.func3
  (ChangeSpec.witness_shaped (enc:=enc) (C:=Tryz.checked) (os:=os) (X:=fun w _=>laidMetH Tryz.prog Rows.fnExactSendBothRow.laid w) false (World.laidAll Tryz.prog os Rows.fnExactSendBothRow.laid) #[.agg #[.int .i64 0,.slice none 0 0,.slice none 0 0,.slice none 0 0],.agg #[.int .i64 0,.int .i64 0,.int .i64 0,.int .i64 0,.int .i64 0],.agg #[.int .i64 0,.int .i64 0,.int .i64 0,.int .i64 0,.int .i64 0,.int .i64 0,.int .i64 0,.slice none 0 0],.slice none 0 0,.slice none 0 0] 8 (World.laidAll_os _ _ _) (World.shaped_of_ZipB (by kernel_rfl) (by kernel_rfl)) (by kernel_rfl) (by kernel_rfl) (by kernel_rfl) (door_met os _)) ?_
 intro W base args ds gs before hval0 hW hS hL
 exact law_calls (n:=5) (of_laid hL hS) ok_l_FnExactSendBoth rfl (fun x hx=>law_SendBoth x hx) (by kernel_rfl) (by kernel_rfl) rfl Tryz.underlying4 rfl (by kernel_rfl) (fun ds h=>by match ds,h with| [_,_,_,_,_],_=>rfl) hval0 hW
theorem j1:(Rows.fnExactSendBothRow.wf (OpenSpec.ofChange Rows.fnExactSendBothSpec))=true:=by kernel_rfl
theorem j2:(laidOutB Tryz.prog)=true:=by kernel_rfl
theorem j3:(mapsRowed Tryz.prog)=true:=by kernel_rfl
theorem j4:(Tryz.f3.params.all (Tryz.prog.readableRec ·))=true:=by kernel_rfl
theorem j5:(namedTie Tryz.prog Rows.fnExactSendBothRow.named Rows.fnExactSendBothSpec.vars)=true:=by kernel_rfl
theorem j6:((Rows.fnExactSendBothRow.stops== []))=true:=by kernel_rfl
theorem j7:((Tryz.prog.stops== []))=true:=by kernel_rfl
theorem j8:((Rows.fnExactSendBothRow.knobs== []))=true:=by kernel_rfl
theorem j9:((Tryz.prog.stopKnobs== []))=true:=by kernel_rfl
theorem j10:((Rows.fnExactSendBothRow.inPlace==Tryz.prog.inPlace 3))=true:=by kernel_rfl
theorem j11:((Rows.fnExactSendBothRow.unfollowed==Tryz.prog.unfollowed 3))=true:=by kernel_rfl
theorem j12:((Rows.fnExactSendBothRow.recurses==Tryz.prog.recurses 3))=true:=by kernel_rfl
theorem j13:((Rows.fnExactSendBothRow.named==Tryz.prog.varsNamed 3))=true:=by kernel_rfl
theorem j14:((Rows.fnExactSendBothRow.maps==(Tryz.f3.params.toList++Rows.fnExactSendBothSpec.plain.varTypes Tryz.prog).any (Tryz.prog.mapsRec ·)))=true:=by kernel_rfl
theorem j15:((Rows.fnExactSendBothRow.ifaces==(Tryz.f3.params.toList++Rows.fnExactSendBothSpec.plain.varTypes Tryz.prog).any (Tryz.prog.ifacesRec ·)))=true:=by kernel_rfl
theorem j16:((Rows.fnExactSendBothRow.mapsOut==Tryz.prog.mapsAmong Tryz.f3.resultTypes.toList))=true:=by kernel_rfl
theorem j17:((Rows.fnExactSendBothRow.loops==(Tryz.f3.params.toList++Rows.fnExactSendBothSpec.plain.varTypes Tryz.prog).any (Tryz.prog.loopsFrom ·)))=true:=by kernel_rfl
theorem j18:((Rows.fnExactSendBothRow.wideKeys==(Tryz.f3.params.toList++Rows.fnExactSendBothSpec.plain.varTypes Tryz.prog++Tryz.f3.resultTypes.toList).any (Tryz.prog.wideKeysFrom ·)))=true:=by kernel_rfl
theorem j19:(Rows.fnExactSendBothSpec.vars.all (Tryz.prog.varReadable ·))=true:=by kernel_rfl
theorem j20:(Tryz.f3.resultTypes.all (fun t=>Tryz.prog.readableRec t&&decide (t<Tryz.prog.types.size)))=true:=by kernel_rfl
theorem j21:((Rows.fnExactSendBothRow.ifacesOut==Tryz.f3.resultTypes.toList.any (Tryz.prog.ifacesRec ·)))=true:=by kernel_rfl
theorem j22:((Rows.fnExactSendBothRow.loopsOut==Tryz.f3.resultTypes.toList.any (Tryz.prog.loopsFrom ·)))=true:=by kernel_rfl
theorem j23:((Rows.fnExactSendBothRow.plainKeys==Tryz.prog.plainKeys))=true:=by kernel_rfl
theorem j24:(Rows.fnExactSendBothRow.shortTexts.isNone)=true:=by kernel_rfl
theorem j25:(Tryz.prog.stopsHeard)=true:=by kernel_rfl
theorem j26:(Tryz.prog.mayEnter)=true:=by kernel_rfl
theorem j27:((Rows.fnExactSendBothRow.lifted==Tryz.prog.liftsFinal))=true:=by kernel_rfl
theorem j28:((Tryz.prog.make==some Rows.fnExactSendBothRow.make))=true:=by kernel_rfl
theorem j29:((Rows.fnExactSendBothRow.kinds==(if Rows.fnExactSendBothRow.domain.isEmpty then []else Tryz.f3.params.toList.map fun t=>match Tryz.prog.underlying t with|some (.int k)=>some k|_=>none)))=true:=by kernel_rfl
theorem j30:((Rows.fnExactSendBothRow.pinned==Rows.fnExactSendBothRow.pinnedBy))=true:=by kernel_rfl
theorem j31:((Rows.fnExactSendBothRow.veiled==(Tryz.f3.params.toList++Rows.fnExactSendBothSpec.plain.varTypes Tryz.prog++Tryz.f3.resultTypes.toList).any (Tryz.prog.veiledRec ·)))=true:=by kernel_rfl
theorem j32:(Rows.fnExactSendBothRow.veiledFits Tryz.prog Tryz.f3.params.toList (Tryz.f3.params.toList++Rows.fnExactSendBothSpec.plain.varTypes Tryz.prog++Tryz.f3.resultTypes.toList))=true:=by kernel_rfl
theorem closed:joinedFacts Tryz.prog 3 Tryz.f3 Rows.fnExactSendBothSpec Rows.fnExactSendBothRow=true:=joined_of j1 j2 j3 j4 j5 j6 j7 j8 j9 j10 j11 j12 j13 j14 j15 j16 j17 j18 j19 j20 j21 j22 j23 j24 j25 j26 j27 j28 j29 j30 j31 j32
theorem named:Tryz.prog.funcNamed "loop.example/g00833/laws.FnExactSendBoth"=some 3 :=by kernel_rfl
theorem inst:Func.isInstance Tryz.prog Tryz.f3 Rows.fnExactSendBothRow.origin Rows.fnExactSendBothRow.targs:=of_decide_eq_true (by kernel_rfl)
theorem wrap:Func.isWrapper Tryz.prog Tryz.f3 Rows.fnExactSendBothRow.wrapper Rows.fnExactSendBothRow.mainSum:=by unfold Func.isWrapper;first|(rw[if_pos (by decide+kernel)];kernel_rfl)|(rw[if_neg (by decide+kernel)];exact⟨rfl,rfl⟩)
theorem over:Rows.FnExactSendBothSaid:=
 OpenClaim.holds_of_wide 3 Tryz.f3 rfl rfl rfl rfl rfl rfl rfl ⟨rfl,rfl,rfl,rfl,rfl⟩ rfl rfl rfl rfl rfl named Tryz.func3 closed
  inst wrap
  (fun os started H enc _=>lifted os started H enc)
theorem byText:Rows.fnExactSendBothRow.wfByText (OpenSpec.ofChange Rows.fnExactSendBothSpec)=true:=by kernel_rfl
theorem main:Tryz.prog.mainIs=some (((true,"8741093498c4a244a107787e11f4b55fd34bf2195abbc8f7fd0b72f1f8441ddd"):Bool×String).1,((true,"8741093498c4a244a107787e11f4b55fd34bf2195abbc8f7fd0b72f1f8441ddd"):Bool×String).2.toList):=by kernel_rfl
theorem looks:false=Tryz.prog.looks []:=by kernel_rfl
theorem apartIn:(Tryz.f3.params.toList.all fun u=> !Tryz.prog.wantsStandIn u)=true:=by kernel_rfl
theorem goes:false=Rows.fnExactSendBothRow.goesBy Tryz.prog:=by kernel_rfl
theorem proved:Rows.FnExactSendBothCardSaid:=
 Claim7.holds_tied_plain_at .later [] [.data,.pinned] true (true,"8741093498c4a244a107787e11f4b55fd34bf2195abbc8f7fd0b72f1f8441ddd") false
  over (fun _ h=>by cases h) byText (fun _ h=>by cases h) fnExactSendBoth_row_tie rfl ⟨rfl,rfl⟩ main rfl
  (fun f fn hf hfn=>by
    obtain rfl:f=3 :=Option.some.inj (named.symm.trans hf) |>.symm
    obtain rfl:fn=Tryz.f3 :=(Option.some.inj (Tryz.func3.symm.trans hfn)).symm
    exact⟨looks,fun j t ht=>by
     have hm:t ∈ Tryz.f3.params.toList:=by simpa using Array.mem_of_getElem? ht
     have:=List.all_eq_true.1 apartIn t hm
     exact(show Tryz.prog.wantsStandIn t=false by simpa using this)⟩)
  goes
#print axioms proved
end Go.Proofs.YthfgmmmeplanbaaGreatDoor.fnExactSendBoth
