/- For every argument the law FnExactReceiveBoth returns true; the package-level variables that its row lists are tied to the program's text; no other conditions. -/
import Derived.Test.YtieajgkcadmchaaGreatDoorRows
import Derived.Test.YtieajgkcadmchaaGreatDoorCards
import Derived.Test.YtieajgkcadmchaaGreatDoorTie
import Derived.Test.YtieajgkcadmchaaGreatDoorCard
import Derived.Stop.LaidErr
import Derived.Test.YtieajgkcadmchaaGreatDoorQ2
import Derived.WalkKit
import Derived.ProofKit
import Derived.OpenShut
import Derived.SevenTiedAt
import Derived.Lay
namespace Go.Proofs.YtieajgkcadmchaaGreatDoor.fnExactReceiveBoth
open Go.Proofs.YtieajgkcadmchaaGreatDoor Go.ChangeShapes Go.WideShapes Go.ChangeAt Go.RowKit
set_option linter.unusedVariables false
set_option maxRecDepth 100000

theorem own : ownKnob Tryz.prog.godebug = none := by kernel_rfl

/-- A heap in which the variables lie as they are listed. -/
theorem door_met (os : Os) (args : Array Value) : laidMetH Tryz.prog Rows.fnExactReceiveBothRow.laid ((World.laidAll Tryz.prog os Rows.fnExactReceiveBothRow.laid).forCall (fun _ _ => 0) ⟨#[], args, []⟩).memory := by
  rw [MakeChecks.laidMetH_plain _ _ _ (by kernel_rfl)]
  exact laidMet_laidAll args (by kernel_rfl) (by kernel_rfl)


theorem of_laid {W : World} (h : laidMetH Tryz.prog Rows.fnExactReceiveBothRow.laid W) (hs : W.ShapedOpen Tryz.prog) : G0.I W := trivial

set_option maxRecDepth 100000 in
theorem lifted (os : Os) (started : os.Started) (H : Type) (enc : TypeId × Value → H) :
    ReturnsInHanded {} Tryz.checked os 4 .any (fun w args => (Rows.fnExactReceiveBothSpec.pre enc Tryz.prog Tryz.f4 [] false w args ∧ laidMetH Tryz.prog Rows.fnExactReceiveBothRow.laid w) ∧ sizedMet enc Tryz.prog Tryz.f4 (OpenSpec.ofChange Rows.fnExactReceiveBothSpec) false w args)
      (Rows.fnExactReceiveBothSpec.post enc Tryz.prog Tryz.f4 false true false false) := by
  refine handed_card (C := Tryz.checked) (X := fun w _ => laidMetH Tryz.prog Rows.fnExactReceiveBothRow.laid w) (fun _ _ _ hh h => h.of_heap hh) own started (by kernel_rfl) Tryz.func4
    (ChangeSpec.witness_shaped (enc := enc) (C := Tryz.checked) (os := os) (X := fun w _ => laidMetH Tryz.prog Rows.fnExactReceiveBothRow.laid w) false (World.laidAll Tryz.prog os Rows.fnExactReceiveBothRow.laid) #[.agg #[.int .i64 0, .slice none 0 0, .slice none 0 0, .slice none 0 0], .agg #[.int .i64 0, .int .i64 0, .int .i64 0, .int .i64 0, .int .i64 0], .slice none 0 0, .slice none 0 0] 8 (World.laidAll_os _ _ _) (World.shaped_of_ZipB (by kernel_rfl) (by kernel_rfl)) (by kernel_rfl) (by kernel_rfl) (by kernel_rfl) (door_met os _)) ?_
  intro W base args ds gs before hval0 hW hS hL
  exact law_calls (n := 4) (of_laid hL hS) ok_l_FnExactReceiveBoth rfl (fun x hx => law_ReceiveBoth x hx) (by kernel_rfl) (by kernel_rfl) rfl Tryz.underlying4 rfl (by kernel_rfl) (fun ds h => by match ds, h with | [_, _, _, _], _ => rfl) hval0 hW

theorem j1 : (Rows.fnExactReceiveBothRow.wf (OpenSpec.ofChange Rows.fnExactReceiveBothSpec)) = true := by kernel_rfl
theorem j2 : (laidOutB Tryz.prog) = true := by kernel_rfl
theorem j3 : (mapsRowed Tryz.prog) = true := by kernel_rfl
theorem j4 : (Tryz.f4.params.all (Tryz.prog.readableRec ·)) = true := by kernel_rfl
theorem j5 : (namedTie Tryz.prog Rows.fnExactReceiveBothRow.named Rows.fnExactReceiveBothSpec.vars) = true := by kernel_rfl
theorem j6 : ((Rows.fnExactReceiveBothRow.stops == [])) = true := by kernel_rfl
theorem j7 : ((Tryz.prog.stops == [])) = true := by kernel_rfl
theorem j8 : ((Rows.fnExactReceiveBothRow.knobs == [])) = true := by kernel_rfl
theorem j9 : ((Tryz.prog.stopKnobs == [])) = true := by kernel_rfl
theorem j10 : ((Rows.fnExactReceiveBothRow.inPlace == Tryz.prog.inPlace 4)) = true := by kernel_rfl
theorem j11 : ((Rows.fnExactReceiveBothRow.unfollowed == Tryz.prog.unfollowed 4)) = true := by kernel_rfl
theorem j12 : ((Rows.fnExactReceiveBothRow.recurses == Tryz.prog.recurses 4)) = true := by kernel_rfl
theorem j13 : ((Rows.fnExactReceiveBothRow.named == Tryz.prog.varsNamed 4)) = true := by kernel_rfl
theorem j14 : ((Rows.fnExactReceiveBothRow.maps == (Tryz.f4.params.toList ++ Rows.fnExactReceiveBothSpec.plain.varTypes Tryz.prog).any (Tryz.prog.mapsRec ·))) = true := by kernel_rfl
theorem j15 : ((Rows.fnExactReceiveBothRow.ifaces == (Tryz.f4.params.toList ++ Rows.fnExactReceiveBothSpec.plain.varTypes Tryz.prog).any (Tryz.prog.ifacesRec ·))) = true := by kernel_rfl
theorem j16 : ((Rows.fnExactReceiveBothRow.mapsOut == Tryz.prog.mapsAmong Tryz.f4.resultTypes.toList)) = true := by kernel_rfl
theorem j17 : ((Rows.fnExactReceiveBothRow.loops == (Tryz.f4.params.toList ++ Rows.fnExactReceiveBothSpec.plain.varTypes Tryz.prog).any (Tryz.prog.loopsFrom ·))) = true := by kernel_rfl
theorem j18 : ((Rows.fnExactReceiveBothRow.wideKeys == (Tryz.f4.params.toList ++ Rows.fnExactReceiveBothSpec.plain.varTypes Tryz.prog ++ Tryz.f4.resultTypes.toList).any (Tryz.prog.wideKeysFrom ·))) = true := by kernel_rfl
theorem j19 : (Rows.fnExactReceiveBothSpec.vars.all (Tryz.prog.varReadable ·)) = true := by kernel_rfl
theorem j20 : (Tryz.f4.resultTypes.all (fun t => Tryz.prog.readableRec t && decide (t < Tryz.prog.types.size))) = true := by kernel_rfl
theorem j21 : ((Rows.fnExactReceiveBothRow.ifacesOut == Tryz.f4.resultTypes.toList.any (Tryz.prog.ifacesRec ·))) = true := by kernel_rfl
theorem j22 : ((Rows.fnExactReceiveBothRow.loopsOut == Tryz.f4.resultTypes.toList.any (Tryz.prog.loopsFrom ·))) = true := by kernel_rfl
theorem j23 : ((Rows.fnExactReceiveBothRow.plainKeys == Tryz.prog.plainKeys)) = true := by kernel_rfl
theorem j24 : (Rows.fnExactReceiveBothRow.shortTexts.isNone) = true := by kernel_rfl
theorem j25 : (Tryz.prog.stopsHeard) = true := by kernel_rfl
theorem j26 : (Tryz.prog.mayEnter) = true := by kernel_rfl
theorem j27 : ((Rows.fnExactReceiveBothRow.lifted == Tryz.prog.liftsFinal)) = true := by kernel_rfl
theorem j28 : ((Tryz.prog.make == some Rows.fnExactReceiveBothRow.make)) = true := by kernel_rfl
theorem j29 : ((Rows.fnExactReceiveBothRow.kinds == (if Rows.fnExactReceiveBothRow.domain.isEmpty then [] else Tryz.f4.params.toList.map fun t => match Tryz.prog.underlying t with | some (.int k) => some k | _ => none))) = true := by kernel_rfl
theorem j30 : ((Rows.fnExactReceiveBothRow.pinned == Rows.fnExactReceiveBothRow.pinnedBy)) = true := by kernel_rfl
theorem j31 : ((Rows.fnExactReceiveBothRow.veiled == (Tryz.f4.params.toList ++ Rows.fnExactReceiveBothSpec.plain.varTypes Tryz.prog ++ Tryz.f4.resultTypes.toList).any (Tryz.prog.veiledRec ·))) = true := by kernel_rfl
theorem j32 : (Rows.fnExactReceiveBothRow.veiledFits Tryz.prog Tryz.f4.params.toList (Tryz.f4.params.toList ++ Rows.fnExactReceiveBothSpec.plain.varTypes Tryz.prog ++ Tryz.f4.resultTypes.toList)) = true := by kernel_rfl
theorem closed : joinedFacts Tryz.prog 4 Tryz.f4 Rows.fnExactReceiveBothSpec Rows.fnExactReceiveBothRow = true := joined_of j1 j2 j3 j4 j5 j6 j7 j8 j9 j10 j11 j12 j13 j14 j15 j16 j17 j18 j19 j20 j21 j22 j23 j24 j25 j26 j27 j28 j29 j30 j31 j32
theorem named : Tryz.prog.funcNamed "loop.example/g00833/laws.FnExactReceiveBoth" = some 4 := by kernel_rfl
theorem inst : Func.isInstance Tryz.prog Tryz.f4 Rows.fnExactReceiveBothRow.origin Rows.fnExactReceiveBothRow.targs := of_decide_eq_true (by kernel_rfl)
theorem wrap : Func.isWrapper Tryz.prog Tryz.f4 Rows.fnExactReceiveBothRow.wrapper Rows.fnExactReceiveBothRow.mainSum := by unfold Func.isWrapper; first | (rw [if_pos (by decide +kernel)]; kernel_rfl) | (rw [if_neg (by decide +kernel)]; exact ⟨rfl, rfl⟩)
theorem over : Rows.FnExactReceiveBothSaid :=
  OpenClaim.holds_of_wide 4 Tryz.f4 rfl rfl rfl rfl rfl rfl rfl ⟨rfl, rfl, rfl, rfl, rfl⟩ rfl rfl rfl rfl rfl named Tryz.func4 closed
    inst wrap
    (fun os started H enc _ => lifted os started H enc)

theorem byText : Rows.fnExactReceiveBothRow.wfByText (OpenSpec.ofChange Rows.fnExactReceiveBothSpec) = true := by kernel_rfl
theorem main : Tryz.prog.mainIs = some (((true, "a94338c09f5ada395f87dbac9f9f47d6c8839259cc389133e15df40e46265d3b") : Bool × String).1, ((true, "a94338c09f5ada395f87dbac9f9f47d6c8839259cc389133e15df40e46265d3b") : Bool × String).2.toList) := by kernel_rfl
theorem looks : false = Tryz.prog.looks [] := by kernel_rfl
theorem apartIn : (Tryz.f4.params.toList.all fun u => !Tryz.prog.wantsStandIn u) = true := by kernel_rfl
theorem goes : false = Rows.fnExactReceiveBothRow.goesBy Tryz.prog := by kernel_rfl
/-- The statement. -/
theorem proved : Rows.FnExactReceiveBothCardSaid :=
  Claim7.holds_tied_plain_at .later [] [.data, .pinned] true (true, "a94338c09f5ada395f87dbac9f9f47d6c8839259cc389133e15df40e46265d3b") false
    over (fun _ h => by cases h) byText (fun _ h => by cases h) fnExactReceiveBoth_row_tie rfl ⟨rfl, rfl⟩ main rfl
    (fun f fn hf hfn => by
      obtain rfl : f = 4 := Option.some.inj (named.symm.trans hf) |>.symm
      obtain rfl : fn = Tryz.f4 := (Option.some.inj (Tryz.func4.symm.trans hfn)).symm
      exact ⟨looks, fun j t ht => by
        have hm : t ∈ Tryz.f4.params.toList := by simpa using Array.mem_of_getElem? ht
        have := List.all_eq_true.1 apartIn t hm
        exact (show Tryz.prog.wantsStandIn t = false by simpa using this)⟩)
    goes
#print axioms proved
end Go.Proofs.YtieajgkcadmchaaGreatDoor.fnExactReceiveBoth
