/- For every argument the law FnExactStepOnce returns true; the package-level variables that its row lists are tied to the program's text; no other conditions. -/
import Derived.Test.YthfgmmmeplanbaaGreatDoorRows
import Derived.Test.YthfgmmmeplanbaaGreatDoorCards
import Derived.Test.YthfgmmmeplanbaaGreatDoorTie
import Derived.Test.YthfgmmmeplanbaaGreatDoorCard
import Derived.Stop.LaidErr
import Derived.Test.YthfgmmmeplanbaaGreatDoorQ4
import Derived.WalkKit
import Derived.ProofKit
import Derived.OpenShut
import Derived.SevenTiedAt
import Derived.Lay
namespace Go.Proofs.YthfgmmmeplanbaaGreatDoor.fnExactStepOnce
open Go.Proofs.YthfgmmmeplanbaaGreatDoor Go.ChangeShapes Go.WideShapes Go.ChangeAt Go.RowKit
set_option linter.unusedVariables false
set_option maxRecDepth 100000
theorem own:ownKnob Tryz.prog.godebug=none:=by kernel_rfl
theorem Vx(os:Os)(args:Array Value):laidMetH Tryz.prog Rows.fnExactStepOnceRow.laid ((World.laidAll Tryz.prog os Rows.fnExactStepOnceRow.laid).forCall (fun _ _=>0) ⟨#[],args,[]⟩).memory:=by
 rw[MakeChecks.laidMetH_plain _ _ _ (by kernel_rfl)]
 exact laidMet_laidAll args (by kernel_rfl) (by kernel_rfl)
theorem WT {W:World}(h:laidMetH Tryz.prog Rows.fnExactStepOnceRow.laid W)(hs:W.ShapedOpen Tryz.prog):G0.I W:=trivial
set_option maxRecDepth 100000 in
theorem lifted(os:Os)(started:os.Started)(H:Type)(enc:TypeId×Value→H):
  ReturnsInHanded {} Tryz.checked os 5 .any (fun w args=>(Rows.fnExactStepOnceSpec.pre enc Tryz.prog Tryz.f5 [] false w args∧laidMetH Tryz.prog Rows.fnExactStepOnceRow.laid w)∧sizedMet enc Tryz.prog Tryz.f5 (OpenSpec.ofChange Rows.fnExactStepOnceSpec) false w args)
   (Rows.fnExactStepOnceSpec.post enc Tryz.prog Tryz.f5 false true false false):=by
 refine QZ (C:=Tryz.checked) (X:=fun w _=>laidMetH Tryz.prog Rows.fnExactStepOnceRow.laid w) (fun _ _ _ hh h=>h.of_heap hh) own started (by kernel_rfl) Tryz.func5
  (ChangeSpec.witness_shaped (enc:=enc) (C:=Tryz.checked) (os:=os) (X:=fun w _=>laidMetH Tryz.prog Rows.fnExactStepOnceRow.laid w) false (World.laidAll Tryz.prog os Rows.fnExactStepOnceRow.laid) #[.agg #[.int .i64 0,.slice none 0 0,.slice none 0 0,.slice none 0 0],.agg #[.int .i64 0,.int .i64 0,.int .i64 0,.int .i64 0,.int .i64 0],.agg #[.int .i64 0,.int .i64 0,.slice none 0 0,.slice none 0 0]] 8 (World.laidAll_os _ _ _) (World.shaped_of_ZipB (by kernel_rfl) (by kernel_rfl)) (by kernel_rfl) (by kernel_rfl) (by kernel_rfl) (Vx os _)) ?_
 intro W base args ds gs before hval0 hW hS hL
 exact TH (n:=3) (WT hL hS) yA rfl (fun x hx=>PF x hx) (by kernel_rfl) (by kernel_rfl) rfl Tryz.underlying4 rfl (by kernel_rfl) (fun ds h=>by obtain⟨b,c,d,rfl⟩:=W4 h;rfl) hval0 hW
theorem j1:(Rows.fnExactStepOnceRow.wf (OpenSpec.ofChange Rows.fnExactStepOnceSpec))=true:=by kernel_rfl
theorem j2:(laidOutB Tryz.prog)=true:=by kernel_rfl
theorem j3:(mapsRowed Tryz.prog)=true:=by kernel_rfl
theorem j4:(Tryz.f5.params.all (Tryz.prog.readableRec ·))=true:=by kernel_rfl
theorem j5:(namedTie Tryz.prog Rows.fnExactStepOnceRow.named Rows.fnExactStepOnceSpec.vars)=true:=by kernel_rfl
theorem j6:((Rows.fnExactStepOnceRow.stops== []))=true:=by kernel_rfl
theorem j7:((Tryz.prog.stops== []))=true:=by kernel_rfl
theorem j8:((Rows.fnExactStepOnceRow.knobs== []))=true:=by kernel_rfl
theorem j9:((Tryz.prog.stopKnobs== []))=true:=by kernel_rfl
theorem Yv:((Rows.fnExactStepOnceRow.inPlace==Tryz.prog.inPlace 5))=true:=by kernel_rfl
theorem Yw:((Rows.fnExactStepOnceRow.unfollowed==Tryz.prog.unfollowed 5))=true:=by kernel_rfl
theorem Yx:((Rows.fnExactStepOnceRow.recurses==Tryz.prog.recurses 5))=true:=by kernel_rfl
theorem Yy:((Rows.fnExactStepOnceRow.named==Tryz.prog.varsNamed 5))=true:=by kernel_rfl
theorem Yz:((Rows.fnExactStepOnceRow.maps==(Tryz.f5.params.toList++Rows.fnExactStepOnceSpec.plain.varTypes Tryz.prog).any (Tryz.prog.mapsRec ·)))=true:=by kernel_rfl
theorem YA:((Rows.fnExactStepOnceRow.ifaces==(Tryz.f5.params.toList++Rows.fnExactStepOnceSpec.plain.varTypes Tryz.prog).any (Tryz.prog.ifacesRec ·)))=true:=by kernel_rfl
theorem YB:((Rows.fnExactStepOnceRow.mapsOut==Tryz.prog.mapsAmong Tryz.f5.resultTypes.toList))=true:=by kernel_rfl
theorem YC:((Rows.fnExactStepOnceRow.loops==(Tryz.f5.params.toList++Rows.fnExactStepOnceSpec.plain.varTypes Tryz.prog).any (Tryz.prog.loopsFrom ·)))=true:=by kernel_rfl
theorem YD:((Rows.fnExactStepOnceRow.wideKeys==(Tryz.f5.params.toList++Rows.fnExactStepOnceSpec.plain.varTypes Tryz.prog++Tryz.f5.resultTypes.toList).any (Tryz.prog.wideKeysFrom ·)))=true:=by kernel_rfl
theorem YE:(Rows.fnExactStepOnceSpec.vars.all (Tryz.prog.varReadable ·))=true:=by kernel_rfl
theorem YF:(Tryz.f5.resultTypes.all (fun t=>Tryz.prog.readableRec t&&decide (t<Tryz.prog.types.size)))=true:=by kernel_rfl
theorem YG:((Rows.fnExactStepOnceRow.ifacesOut==Tryz.f5.resultTypes.toList.any (Tryz.prog.ifacesRec ·)))=true:=by kernel_rfl
theorem YH:((Rows.fnExactStepOnceRow.loopsOut==Tryz.f5.resultTypes.toList.any (Tryz.prog.loopsFrom ·)))=true:=by kernel_rfl
theorem YI:((Rows.fnExactStepOnceRow.plainKeys==Tryz.prog.plainKeys))=true:=by kernel_rfl
theorem YJ:(Rows.fnExactStepOnceRow.shortTexts.isNone)=true:=by kernel_rfl
theorem YK:(Tryz.prog.stopsHeard)=true:=by kernel_rfl
theorem YL:(Tryz.prog.mayEnter)=true:=by kernel_rfl
theorem YM:((Rows.fnExactStepOnceRow.lifted==Tryz.prog.liftsFinal))=true:=by kernel_rfl
theorem YN:((Tryz.prog.make==some Rows.fnExactStepOnceRow.make))=true:=by kernel_rfl
theorem YO:((Rows.fnExactStepOnceRow.kinds==(if Rows.fnExactStepOnceRow.domain.isEmpty then []else Tryz.f5.params.toList.map fun t=>match Tryz.prog.underlying t with|some (.int k)=>some k|_=>none)))=true:=by kernel_rfl
theorem YP:((Rows.fnExactStepOnceRow.pinned==Rows.fnExactStepOnceRow.pinnedBy))=true:=by kernel_rfl
theorem YQ:((Rows.fnExactStepOnceRow.veiled==(Tryz.f5.params.toList++Rows.fnExactStepOnceSpec.plain.varTypes Tryz.prog++Tryz.f5.resultTypes.toList).any (Tryz.prog.veiledRec ·)))=true:=by kernel_rfl
theorem YR:(Rows.fnExactStepOnceRow.veiledFits Tryz.prog Tryz.f5.params.toList (Tryz.f5.params.toList++Rows.fnExactStepOnceSpec.plain.varTypes Tryz.prog++Tryz.f5.resultTypes.toList))=true:=by kernel_rfl
theorem XR:joinedFacts Tryz.prog 5 Tryz.f5 Rows.fnExactStepOnceSpec Rows.fnExactStepOnceRow=true:=UC j1 j2 j3 j4 j5 j6 j7 j8 j9 Yv Yw Yx Yy Yz YA YB YC YD YE YF YG YH YI YJ YK YL YM YN YO YP YQ YR
theorem named:Tryz.prog.funcNamed "loop.example/g00833/laws.FnExactStepOnce"=some 5 :=by kernel_rfl
theorem Yn:Func.isInstance Tryz.prog Tryz.f5 Rows.fnExactStepOnceRow.origin Rows.fnExactStepOnceRow.targs:=of_decide_eq_true (by kernel_rfl)
theorem wrap:Func.isWrapper Tryz.prog Tryz.f5 Rows.fnExactStepOnceRow.wrapper Rows.fnExactStepOnceRow.mainSum:=by unfold Func.isWrapper;first|(rw[if_pos (by decide+kernel)];kernel_rfl)|(rw[if_neg (by decide+kernel)];exact⟨rfl,rfl⟩)
theorem Yo:Rows.FnExactStepOnceSaid:=
 OpenClaim.holds_of_wide 5 Tryz.f5 rfl rfl rfl rfl rfl rfl rfl ⟨rfl,rfl,rfl,rfl,rfl⟩ rfl rfl rfl rfl rfl named Tryz.func5 XR
  Yn wrap
  (fun os started H enc _=>lifted os started H enc)
theorem XS:Rows.fnExactStepOnceRow.wfByText (OpenSpec.ofChange Rows.fnExactStepOnceSpec)=true:=by kernel_rfl
theorem main:Tryz.prog.mainIs=some (((true,"8741093498c4a244a107787e11f4b55fd34bf2195abbc8f7fd0b72f1f8441ddd"):Bool×String).1,((true,"8741093498c4a244a107787e11f4b55fd34bf2195abbc8f7fd0b72f1f8441ddd"):Bool×String).2.toList):=by kernel_rfl
theorem looks:false=Tryz.prog.looks []:=by kernel_rfl
theorem WU:(Tryz.f5.params.toList.all fun u=> !Tryz.prog.wantsStandIn u)=true:=by kernel_rfl
theorem Yp:false=Rows.fnExactStepOnceRow.goesBy Tryz.prog:=by kernel_rfl
theorem proved:Rows.FnExactStepOnceCardSaid:=
 Claim7.holds_tied_plain_at .later [] [.data,.pinned] true (true,"8741093498c4a244a107787e11f4b55fd34bf2195abbc8f7fd0b72f1f8441ddd") false
  Yo (fun _ h=>by cases h) XS (fun _ h=>by cases h) fnExactStepOnce_row_tie rfl ⟨rfl,rfl⟩ main rfl
  (fun f fn hf hfn=>by
    obtain rfl:f=5 :=Option.some.inj (named.symm.trans hf) |>.symm
    obtain rfl:fn=Tryz.f5 :=(Option.some.inj (Tryz.func5.symm.trans hfn)).symm
    exact⟨looks,fun j t ht=>by
     have hm:t ∈ Tryz.f5.params.toList:=by simpa using Array.mem_of_getElem? ht
     have:=List.all_eq_true.1 WU t hm
     exact(show Tryz.prog.wantsStandIn t=false by simpa using this)⟩)
  Yp
#print axioms proved
end Go.Proofs.YthfgmmmeplanbaaGreatDoor.fnExactStepOnce
