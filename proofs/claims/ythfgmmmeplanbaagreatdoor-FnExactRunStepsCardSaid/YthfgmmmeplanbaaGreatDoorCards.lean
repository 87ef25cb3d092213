/-
  DERIVED. GIVEN WITH THE SEED: THE CARDS: each row of YthfgmmmeplanbaaGreatDoorRows.lean that lists a variable, with what it lists TIED to the program's text (the seventh form; the later family's looks); each row that meets fmt, with fmt's text TOLD by the authors' own Lean function (tested against real Go, not proved from fmt's source: count such statements apart). THE CARD IS WHAT COUNTS. Prove the row's statement (the work); the ties are given (YthfgmmmeplanbaaGreatDoorTie.lean); close each card by the builder's one call (the guide's Derived/Test/ToyasCard.lean, 'card_holds'). Laid BY PROGRAM, IN A SANDBOX (cutbox-door.mjs). By AI agents, Wed Nov 11 2026. No macro, syntax, notation, axiom, sorry.
-/
import Derived.Test.YthfgmmmeplanbaaGreatDoorRows
import GoSem.ClaimSeven
namespace Go.Proofs.YthfgmmmeplanbaaGreatDoor
namespace Rows

/-- THE TIED CARD OF 'laws.FnExactSendBoth'. -/
def fnExactSendBothCard : Claim7 := { stood := { row := fnExactSendBothRow, standIns := [], harness := (true, "8741093498c4a244a107787e11f4b55fd34bf2195abbc8f7fd0b72f1f8441ddd"), looks := false }, kinds := [], alts := [], laidByText := true, laidKinds := [.data, .pinned], laidTests := true, laidLooks := .later }
def FnExactSendBothCardSaid : Prop := Claim7.holds Tryz.pinned (.plain (OpenSpec.ofChange fnExactSendBothSpec)) fnExactSendBothCard

/-- THE TIED CARD OF 'laws.FnExactSurvivesSteps'. -/
def fnExactSurvivesStepsCard : Claim7 := { stood := { row := fnExactSurvivesStepsRow, standIns := [], harness := (true, "8741093498c4a244a107787e11f4b55fd34bf2195abbc8f7fd0b72f1f8441ddd"), looks := false }, kinds := [], alts := [], laidByText := true, laidKinds := [.data, .pinned], laidTests := true, laidLooks := .later }
def FnExactSurvivesStepsCardSaid : Prop := Claim7.holds Tryz.pinned (.plain (OpenSpec.ofChange fnExactSurvivesStepsSpec)) fnExactSurvivesStepsCard

/-- THE TIED CARD OF 'laws.FnExactStepOnce'. -/
def fnExactStepOnceCard : Claim7 := { stood := { row := fnExactStepOnceRow, standIns := [], harness := (true, "8741093498c4a244a107787e11f4b55fd34bf2195abbc8f7fd0b72f1f8441ddd"), looks := false }, kinds := [], alts := [], laidByText := true, laidKinds := [.data, .pinned], laidTests := true, laidLooks := .later }
def FnExactStepOnceCardSaid : Prop := Claim7.holds Tryz.pinned (.plain (OpenSpec.ofChange fnExactStepOnceSpec)) fnExactStepOnceCard

/-- THE TIED CARD OF 'laws.FnExactTraceSteps'. -/
def fnExactTraceStepsCard : Claim7 := { stood := { row := fnExactTraceStepsRow, standIns := [], harness := (true, "8741093498c4a244a107787e11f4b55fd34bf2195abbc8f7fd0b72f1f8441ddd"), looks := false }, kinds := [], alts := [], laidByText := true, laidKinds := [.data, .pinned], laidTests := true, laidLooks := .later }
def FnExactTraceStepsCardSaid : Prop := Claim7.holds Tryz.pinned (.plain (OpenSpec.ofChange fnExactTraceStepsSpec)) fnExactTraceStepsCard

/-- THE TIED CARD OF 'laws.FnExactRunSteps'. -/
def fnExactRunStepsCard : Claim7 := { stood := { row := fnExactRunStepsRow, standIns := [], harness := (true, "8741093498c4a244a107787e11f4b55fd34bf2195abbc8f7fd0b72f1f8441ddd"), looks := false }, kinds := [], alts := [], laidByText := true, laidKinds := [.data, .pinned], laidTests := true, laidLooks := .later }
def FnExactRunStepsCardSaid : Prop := Claim7.holds Tryz.pinned (.plain (OpenSpec.ofChange fnExactRunStepsSpec)) fnExactRunStepsCard

/-- THE SECOND FORM's CARD OF 'laws.FnExactSendBoth'. -/
def fnExactSendBothUptoCard : Claim7 := { stood := { row := fnExactSendBothUptoRow, standIns := [], harness := (true, "8741093498c4a244a107787e11f4b55fd34bf2195abbc8f7fd0b72f1f8441ddd"), looks := false }, kinds := [], alts := [], laidByText := true, laidKinds := [.data, .pinned], laidTests := true, laidLooks := .later }
def FnExactSendBothUptoCardSaid : Prop := Claim7.holds Tryz.pinned (.plain (OpenSpec.upto fnExactSendBothSpec)) fnExactSendBothUptoCard

/-- THE SECOND FORM's CARD OF 'laws.FnExactSurvivesSteps'. -/
def fnExactSurvivesStepsUptoCard : Claim7 := { stood := { row := fnExactSurvivesStepsUptoRow, standIns := [], harness := (true, "8741093498c4a244a107787e11f4b55fd34bf2195abbc8f7fd0b72f1f8441ddd"), looks := false }, kinds := [], alts := [], laidByText := true, laidKinds := [.data, .pinned], laidTests := true, laidLooks := .later }
def FnExactSurvivesStepsUptoCardSaid : Prop := Claim7.holds Tryz.pinned (.plain (OpenSpec.upto fnExactSurvivesStepsSpec)) fnExactSurvivesStepsUptoCard

/-- THE SECOND FORM's CARD OF 'laws.FnExactStepOnce'. -/
def fnExactStepOnceUptoCard : Claim7 := { stood := { row := fnExactStepOnceUptoRow, standIns := [], harness := (true, "8741093498c4a244a107787e11f4b55fd34bf2195abbc8f7fd0b72f1f8441ddd"), looks := false }, kinds := [], alts := [], laidByText := true, laidKinds := [.data, .pinned], laidTests := true, laidLooks := .later }
def FnExactStepOnceUptoCardSaid : Prop := Claim7.holds Tryz.pinned (.plain (OpenSpec.upto fnExactStepOnceSpec)) fnExactStepOnceUptoCard

/-- THE SECOND FORM's CARD OF 'laws.FnExactTraceSteps'. -/
def fnExactTraceStepsUptoCard : Claim7 := { stood := { row := fnExactTraceStepsUptoRow, standIns := [], harness := (true, "8741093498c4a244a107787e11f4b55fd34bf2195abbc8f7fd0b72f1f8441ddd"), looks := false }, kinds := [], alts := [], laidByText := true, laidKinds := [.data, .pinned], laidTests := true, laidLooks := .later }
def FnExactTraceStepsUptoCardSaid : Prop := Claim7.holds Tryz.pinned (.plain (OpenSpec.upto fnExactTraceStepsSpec)) fnExactTraceStepsUptoCard

/-- THE SECOND FORM's CARD OF 'laws.FnExactRunSteps'. -/
def fnExactRunStepsUptoCard : Claim7 := { stood := { row := fnExactRunStepsUptoRow, standIns := [], harness := (true, "8741093498c4a244a107787e11f4b55fd34bf2195abbc8f7fd0b72f1f8441ddd"), looks := false }, kinds := [], alts := [], laidByText := true, laidKinds := [.data, .pinned], laidTests := true, laidLooks := .later }
def FnExactRunStepsUptoCardSaid : Prop := Claim7.holds Tryz.pinned (.plain (OpenSpec.upto fnExactRunStepsSpec)) fnExactRunStepsUptoCard
end Rows
end Go.Proofs.YthfgmmmeplanbaaGreatDoor
