/-
  DERIVED. GIVEN WITH THE SEED: THE CARDS: each row of YtmdflpfagbcaiaaDoorRows.lean that lists a variable, with what it lists TIED to the program's text (the seventh form; the later family's looks); each row that meets fmt, with fmt's text TOLD by the authors' own Lean function (tested against real Go, not proved from fmt's source: count such statements apart). THE CARD IS WHAT COUNTS. Prove the row's statement (the work); the ties are given (YtmdflpfagbcaiaaDoorTie.lean); close each card by the builder's one call (the guide's Derived/Test/ToyasCard.lean, 'card_holds'). Laid BY PROGRAM, IN A SANDBOX (cutbox-door.mjs). By AI agents, Wed Nov 11 2026. No macro, syntax, notation, axiom, sorry.
-/
import Derived.Test.YtmdflpfagbcaiaaDoorRows
import GoSem.ClaimSeven
namespace Go.Proofs.YtmdflpfagbcaiaaDoor
namespace Rows

/-- THE TIED CARD OF 'laws.FnExactTraceText'. -/
def fnExactTraceTextCard : Claim7 := { stood := { row := fnExactTraceTextRow, standIns := [], harness := (true, "6fe4a3561614220d65ac16c5f0b35b0e9747682536ee64518e85234800afdbc9"), looks := false }, kinds := [], alts := [], laidByText := true, laidKinds := [.data, .data, .data], laidTests := true, laidLooks := .later }
def FnExactTraceTextCardSaid : Prop := Claim7.holds Tryd.pinned (.plain (OpenSpec.ofChange fnExactTraceTextSpec)) fnExactTraceTextCard

/-- THE SECOND FORM's CARD OF 'laws.FnExactTraceText'. -/
def fnExactTraceTextUptoCard : Claim7 := { stood := { row := fnExactTraceTextUptoRow, standIns := [], harness := (true, "6fe4a3561614220d65ac16c5f0b35b0e9747682536ee64518e85234800afdbc9"), looks := false }, kinds := [], alts := [], laidByText := true, laidKinds := [.data, .data, .data], laidTests := true, laidLooks := .later }
def FnExactTraceTextUptoCardSaid : Prop := Claim7.holds Tryd.pinned (.plain (OpenSpec.upto fnExactTraceTextSpec)) fnExactTraceTextUptoCard
end Rows
end Go.Proofs.YtmdflpfagbcaiaaDoor
