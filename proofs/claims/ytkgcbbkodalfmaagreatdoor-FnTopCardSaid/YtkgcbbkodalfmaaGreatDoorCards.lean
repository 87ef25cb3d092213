/-
  DERIVED. GIVEN WITH THE SEED: THE CARDS: each row of YtkgcbbkodalfmaaGreatDoorRows.lean that lists a variable, with what it lists TIED to the program's text (the seventh form; the later family's looks); each row that meets fmt, with fmt's text TOLD by the authors' own Lean function (tested against real Go, not proved from fmt's source: count such statements apart). THE CARD IS WHAT COUNTS. Prove the row's statement (the work); the ties are given (YtkgcbbkodalfmaaGreatDoorTie.lean); close each card by the builder's one call (the guide's Derived/Test/ToyasCard.lean, 'card_holds'). Laid BY PROGRAM, IN A SANDBOX (cutbox-door.mjs). By AI agents, Wed Nov 11 2026. No macro, syntax, notation, axiom, sorry.
-/
import Derived.Test.YtkgcbbkodalfmaaGreatDoorRows
import GoSem.ClaimSeven
namespace Go.Proofs.YtkgcbbkodalfmaaGreatDoor
namespace Rows

/-- THE TIED CARD OF 'laws.FnTop'. -/
def fnTopCard : Claim7 := { stood := { row := fnTopRow, standIns := [], harness := (true, "d2ebe32c17f94a5f2423837fbcb3cb46b4ef764dd38c38174cbf81255fc79df7"), looks := false }, kinds := [], alts := [], laidByText := true, laidKinds := [.data, .pinned], laidTests := true, laidLooks := .later }
def FnTopCardSaid : Prop := Claim7.holds Tryz.pinned (.plain (OpenSpec.ofChange fnTopSpec)) fnTopCard

/-- THE TIED CARD OF 'laws.FnSteps'. -/
def fnStepsCard : Claim7 := { stood := { row := fnStepsRow, standIns := [], harness := (true, "d2ebe32c17f94a5f2423837fbcb3cb46b4ef764dd38c38174cbf81255fc79df7"), looks := false }, kinds := [], alts := [], laidByText := true, laidKinds := [.data, .pinned], laidTests := true, laidLooks := .later }
def FnStepsCardSaid : Prop := Claim7.holds Tryz.pinned (.plain (OpenSpec.ofChange fnStepsSpec)) fnStepsCard

/-- THE TIED CARD OF 'laws.FnRunSteps'. -/
def fnRunStepsCard : Claim7 := { stood := { row := fnRunStepsRow, standIns := [], harness := (true, "d2ebe32c17f94a5f2423837fbcb3cb46b4ef764dd38c38174cbf81255fc79df7"), looks := false }, kinds := [], alts := [], laidByText := true, laidKinds := [.data, .pinned], laidTests := true, laidLooks := .later }
def FnRunStepsCardSaid : Prop := Claim7.holds Tryz.pinned (.plain (OpenSpec.ofChange fnRunStepsSpec)) fnRunStepsCard

/-- THE TIED CARD OF 'laws.FnTraces'. -/
def fnTracesCard : Claim7 := { stood := { row := fnTracesRow, standIns := [], harness := (true, "d2ebe32c17f94a5f2423837fbcb3cb46b4ef764dd38c38174cbf81255fc79df7"), looks := false }, kinds := [], alts := [], laidByText := true, laidKinds := [.data, .pinned], laidTests := true, laidLooks := .later }
def FnTracesCardSaid : Prop := Claim7.holds Tryz.pinned (.plain (OpenSpec.ofChange fnTracesSpec)) fnTracesCard

/-- THE TIED CARD OF 'laws.FnSurvived'. -/
def fnSurvivedCard : Claim7 := { stood := { row := fnSurvivedRow, standIns := [], harness := (true, "d2ebe32c17f94a5f2423837fbcb3cb46b4ef764dd38c38174cbf81255fc79df7"), looks := false }, kinds := [], alts := [], laidByText := true, laidKinds := [.data, .pinned], laidTests := true, laidLooks := .later }
def FnSurvivedCardSaid : Prop := Claim7.holds Tryz.pinned (.plain (OpenSpec.ofChange fnSurvivedSpec)) fnSurvivedCard

/-- THE SECOND FORM's CARD OF 'laws.FnTop'. -/
def fnTopUptoCard : Claim7 := { stood := { row := fnTopUptoRow, standIns := [], harness := (true, "d2ebe32c17f94a5f2423837fbcb3cb46b4ef764dd38c38174cbf81255fc79df7"), looks := false }, kinds := [], alts := [], laidByText := true, laidKinds := [.data, .pinned], laidTests := true, laidLooks := .later }
def FnTopUptoCardSaid : Prop := Claim7.holds Tryz.pinned (.plain (OpenSpec.upto fnTopSpec)) fnTopUptoCard

/-- THE SECOND FORM's CARD OF 'laws.FnSteps'. -/
def fnStepsUptoCard : Claim7 := { stood := { row := fnStepsUptoRow, standIns := [], harness := (true, "d2ebe32c17f94a5f2423837fbcb3cb46b4ef764dd38c38174cbf81255fc79df7"), looks := false }, kinds := [], alts := [], laidByText := true, laidKinds := [.data, .pinned], laidTests := true, laidLooks := .later }
def FnStepsUptoCardSaid : Prop := Claim7.holds Tryz.pinned (.plain (OpenSpec.upto fnStepsSpec)) fnStepsUptoCard

/-- THE SECOND FORM's CARD OF 'laws.FnRunSteps'. -/
def fnRunStepsUptoCard : Claim7 := { stood := { row := fnRunStepsUptoRow, standIns := [], harness := (true, "d2ebe32c17f94a5f2423837fbcb3cb46b4ef764dd38c38174cbf81255fc79df7"), looks := false }, kinds := [], alts := [], laidByText := true, laidKinds := [.data, .pinned], laidTests := true, laidLooks := .later }
def FnRunStepsUptoCardSaid : Prop := Claim7.holds Tryz.pinned (.plain (OpenSpec.upto fnRunStepsSpec)) fnRunStepsUptoCard

/-- THE SECOND FORM's CARD OF 'laws.FnTraces'. -/
def fnTracesUptoCard : Claim7 := { stood := { row := fnTracesUptoRow, standIns := [], harness := (true, "d2ebe32c17f94a5f2423837fbcb3cb46b4ef764dd38c38174cbf81255fc79df7"), looks := false }, kinds := [], alts := [], laidByText := true, laidKinds := [.data, .pinned], laidTests := true, laidLooks := .later }
def FnTracesUptoCardSaid : Prop := Claim7.holds Tryz.pinned (.plain (OpenSpec.upto fnTracesSpec)) fnTracesUptoCard

/-- THE SECOND FORM's CARD OF 'laws.FnSurvived'. -/
def fnSurvivedUptoCard : Claim7 := { stood := { row := fnSurvivedUptoRow, standIns := [], harness := (true, "d2ebe32c17f94a5f2423837fbcb3cb46b4ef764dd38c38174cbf81255fc79df7"), looks := false }, kinds := [], alts := [], laidByText := true, laidKinds := [.data, .pinned], laidTests := true, laidLooks := .later }
def FnSurvivedUptoCardSaid : Prop := Claim7.holds Tryz.pinned (.plain (OpenSpec.upto fnSurvivedSpec)) fnSurvivedUptoCard
end Rows
end Go.Proofs.YtkgcbbkodalfmaaGreatDoor
