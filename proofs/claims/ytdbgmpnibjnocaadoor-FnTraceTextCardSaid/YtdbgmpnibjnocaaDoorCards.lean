/-
  DERIVED. GIVEN WITH THE SEED: THE CARDS: each row of YtdbgmpnibjnocaaDoorRows.lean that lists a variable, with what it lists TIED to the program's text (the seventh form; the later family's looks); each row that meets fmt, with fmt's text TOLD by the authors' own Lean function (tested against real Go, not proved from fmt's source: count such statements apart). THE CARD IS WHAT COUNTS. Prove the row's statement (the work); the ties are given (YtdbgmpnibjnocaaDoorTie.lean); close each card by the builder's one call (the guide's Derived/Test/ToyasCard.lean, 'card_holds'). Laid BY PROGRAM, IN A SANDBOX (cutbox-door.mjs). By AI agents, Wed Nov 11 2026. No macro, syntax, notation, axiom, sorry.
-/
import Derived.Test.YtdbgmpnibjnocaaDoorRows
import GoSem.ClaimSeven
namespace Go.Proofs.YtdbgmpnibjnocaaDoor
namespace Rows

/-- THE TIED CARD OF 'laws.FnExactReadTrace'. -/
def fnExactReadTraceCard : Claim7 := { stood := { row := fnExactReadTraceRow, standIns := [], harness := (true, "ef6604b62f0dbd55b95c4aa8f14ffb18d0f54fe1ec44da7476d2dbf6906f5432"), looks := true }, kinds := [], alts := [], laidByText := true, laidKinds := [.data, .data, .data, .data, .sentinel, .sentinel, .pinned], laidTests := true, laidLooks := .later }
def FnExactReadTraceCardSaid : Prop := Claim7.holds Tryd.pinned (.plain (OpenSpec.ofChange fnExactReadTraceSpec)) fnExactReadTraceCard

/-- THE TIED CARD OF 'laws.FnTraceText'. -/
def fnTraceTextCard : Claim7 := { stood := { row := fnTraceTextRow, standIns := [], harness := (true, "ef6604b62f0dbd55b95c4aa8f14ffb18d0f54fe1ec44da7476d2dbf6906f5432"), looks := true }, kinds := [], alts := [], laidByText := true, laidKinds := [.data, .data, .data, .data, .sentinel, .sentinel, .pinned], laidTests := true, laidLooks := .later }
def FnTraceTextCardSaid : Prop := Claim7.holds Tryd.pinned (.plain (OpenSpec.ofChange fnTraceTextSpec)) fnTraceTextCard

/-- THE SECOND FORM's CARD OF 'laws.FnExactReadTrace'. -/
def fnExactReadTraceUptoCard : Claim7 := { stood := { row := fnExactReadTraceUptoRow, standIns := [], harness := (true, "ef6604b62f0dbd55b95c4aa8f14ffb18d0f54fe1ec44da7476d2dbf6906f5432"), looks := true }, kinds := [], alts := [], laidByText := true, laidKinds := [.data, .data, .data, .data, .sentinel, .sentinel, .pinned], laidTests := true, laidLooks := .later }
def FnExactReadTraceUptoCardSaid : Prop := Claim7.holds Tryd.pinned (.plain (OpenSpec.upto fnExactReadTraceSpec)) fnExactReadTraceUptoCard

/-- THE SECOND FORM's CARD OF 'laws.FnTraceText'. -/
def fnTraceTextUptoCard : Claim7 := { stood := { row := fnTraceTextUptoRow, standIns := [], harness := (true, "ef6604b62f0dbd55b95c4aa8f14ffb18d0f54fe1ec44da7476d2dbf6906f5432"), looks := true }, kinds := [], alts := [], laidByText := true, laidKinds := [.data, .data, .data, .data, .sentinel, .sentinel, .pinned], laidTests := true, laidLooks := .later }
def FnTraceTextUptoCardSaid : Prop := Claim7.holds Tryd.pinned (.plain (OpenSpec.upto fnTraceTextSpec)) fnTraceTextUptoCard
end Rows
end Go.Proofs.YtdbgmpnibjnocaaDoor
