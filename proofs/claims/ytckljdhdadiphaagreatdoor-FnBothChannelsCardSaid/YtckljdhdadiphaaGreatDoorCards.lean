/-
  DERIVED. GIVEN WITH THE SEED: THE CARDS: each row of YtckljdhdadiphaaGreatDoorRows.lean that lists a variable, with what it lists TIED to the program's text (the seventh form; the later family's looks); each row that meets fmt, with fmt's text TOLD by the authors' own Lean function (tested against real Go, not proved from fmt's source: count such statements apart). THE CARD IS WHAT COUNTS. Prove the row's statement (the work); the ties are given (YtckljdhdadiphaaGreatDoorTie.lean); close each card by the builder's one call (the guide's Derived/Test/ToyasCard.lean, 'card_holds'). Laid BY PROGRAM, IN A SANDBOX (cutbox-door.mjs). By AI agents, Wed Nov 11 2026. No macro, syntax, notation, axiom, sorry.
-/
import Derived.Test.YtckljdhdadiphaaGreatDoorRows
import GoSem.ClaimSeven
namespace Go.Proofs.YtckljdhdadiphaaGreatDoor
namespace Rows

/-- THE TIED CARD OF 'laws.FnReceivedBytes'. -/
def fnReceivedBytesCard : Claim7 := { stood := { row := fnReceivedBytesRow, standIns := [], harness := (true, "ee5949c8b258eaec06b88d383d93166b4767119f4a59c1b8cd92b15b2d2e3f51"), looks := false }, kinds := [], alts := [], laidByText := true, laidKinds := [.data, .pinned], laidTests := true, laidLooks := .later }
def FnReceivedBytesCardSaid : Prop := Claim7.holds Tryz.pinned (.plain (OpenSpec.ofChange fnReceivedBytesSpec)) fnReceivedBytesCard

/-- THE TIED CARD OF 'laws.FnSlotSamples'. -/
def fnSlotSamplesCard : Claim7 := { stood := { row := fnSlotSamplesRow, standIns := [], harness := (true, "ee5949c8b258eaec06b88d383d93166b4767119f4a59c1b8cd92b15b2d2e3f51"), looks := false }, kinds := [], alts := [], laidByText := true, laidKinds := [.data, .pinned], laidTests := true, laidLooks := .later }
def FnSlotSamplesCardSaid : Prop := Claim7.holds Tryz.pinned (.plain (OpenSpec.ofChange fnSlotSamplesSpec)) fnSlotSamplesCard

/-- THE TIED CARD OF 'laws.FnReceived'. -/
def fnReceivedCard : Claim7 := { stood := { row := fnReceivedRow, standIns := [], harness := (true, "ee5949c8b258eaec06b88d383d93166b4767119f4a59c1b8cd92b15b2d2e3f51"), looks := false }, kinds := [], alts := [], laidByText := true, laidKinds := [.data, .pinned], laidTests := true, laidLooks := .later }
def FnReceivedCardSaid : Prop := Claim7.holds Tryz.pinned (.plain (OpenSpec.ofChange fnReceivedSpec)) fnReceivedCard

/-- THE TIED CARD OF 'laws.FnBothChannels'. -/
def fnBothChannelsCard : Claim7 := { stood := { row := fnBothChannelsRow, standIns := [], harness := (true, "ee5949c8b258eaec06b88d383d93166b4767119f4a59c1b8cd92b15b2d2e3f51"), looks := false }, kinds := [], alts := [], laidByText := true, laidKinds := [.data, .pinned], laidTests := true, laidLooks := .later }
def FnBothChannelsCardSaid : Prop := Claim7.holds Tryz.pinned (.plain (OpenSpec.ofChange fnBothChannelsSpec)) fnBothChannelsCard

/-- THE SECOND FORM's CARD OF 'laws.FnReceivedBytes'. -/
def fnReceivedBytesUptoCard : Claim7 := { stood := { row := fnReceivedBytesUptoRow, standIns := [], harness := (true, "ee5949c8b258eaec06b88d383d93166b4767119f4a59c1b8cd92b15b2d2e3f51"), looks := false }, kinds := [], alts := [], laidByText := true, laidKinds := [.data, .pinned], laidTests := true, laidLooks := .later }
def FnReceivedBytesUptoCardSaid : Prop := Claim7.holds Tryz.pinned (.plain (OpenSpec.upto fnReceivedBytesSpec)) fnReceivedBytesUptoCard

/-- THE SECOND FORM's CARD OF 'laws.FnSlotSamples'. -/
def fnSlotSamplesUptoCard : Claim7 := { stood := { row := fnSlotSamplesUptoRow, standIns := [], harness := (true, "ee5949c8b258eaec06b88d383d93166b4767119f4a59c1b8cd92b15b2d2e3f51"), looks := false }, kinds := [], alts := [], laidByText := true, laidKinds := [.data, .pinned], laidTests := true, laidLooks := .later }
def FnSlotSamplesUptoCardSaid : Prop := Claim7.holds Tryz.pinned (.plain (OpenSpec.upto fnSlotSamplesSpec)) fnSlotSamplesUptoCard

/-- THE SECOND FORM's CARD OF 'laws.FnReceived'. -/
def fnReceivedUptoCard : Claim7 := { stood := { row := fnReceivedUptoRow, standIns := [], harness := (true, "ee5949c8b258eaec06b88d383d93166b4767119f4a59c1b8cd92b15b2d2e3f51"), looks := false }, kinds := [], alts := [], laidByText := true, laidKinds := [.data, .pinned], laidTests := true, laidLooks := .later }
def FnReceivedUptoCardSaid : Prop := Claim7.holds Tryz.pinned (.plain (OpenSpec.upto fnReceivedSpec)) fnReceivedUptoCard

/-- THE SECOND FORM's CARD OF 'laws.FnBothChannels'. -/
def fnBothChannelsUptoCard : Claim7 := { stood := { row := fnBothChannelsUptoRow, standIns := [], harness := (true, "ee5949c8b258eaec06b88d383d93166b4767119f4a59c1b8cd92b15b2d2e3f51"), looks := false }, kinds := [], alts := [], laidByText := true, laidKinds := [.data, .pinned], laidTests := true, laidLooks := .later }
def FnBothChannelsUptoCardSaid : Prop := Claim7.holds Tryz.pinned (.plain (OpenSpec.upto fnBothChannelsSpec)) fnBothChannelsUptoCard
end Rows
end Go.Proofs.YtckljdhdadiphaaGreatDoor
