/-
  DERIVED. GIVEN WITH THE SEED: THE CARDS: each row of YtieajgkcadmchaaGreatDoorRows.lean that lists a variable, with what it lists TIED to the program's text (the seventh form; the later family's looks); each row that meets fmt, with fmt's text TOLD by the authors' own Lean function (tested against real Go, not proved from fmt's source: count such statements apart). THE CARD IS WHAT COUNTS. Prove the row's statement (the work); the ties are given (YtieajgkcadmchaaGreatDoorTie.lean); close each card by the builder's one call (the guide's Derived/Test/ToyasCard.lean, 'card_holds'). Laid BY PROGRAM, IN A SANDBOX (cutbox-door.mjs). By AI agents, Wed Nov 11 2026. No macro, syntax, notation, axiom, sorry.
-/
import Derived.Test.YtieajgkcadmchaaGreatDoorRows
import GoSem.ClaimSeven
namespace Go.Proofs.YtieajgkcadmchaaGreatDoor
namespace Rows

/-- THE TIED CARD OF 'laws.FnExactReceiveChannel'. -/
def fnExactReceiveChannelCard : Claim7 := { stood := { row := fnExactReceiveChannelRow, standIns := [], harness := (true, "a94338c09f5ada395f87dbac9f9f47d6c8839259cc389133e15df40e46265d3b"), looks := false }, kinds := [], alts := [], laidByText := true, laidKinds := [.data, .pinned], laidTests := true, laidLooks := .later }
def FnExactReceiveChannelCardSaid : Prop := Claim7.holds Tryz.pinned (.plain (OpenSpec.ofChange fnExactReceiveChannelSpec)) fnExactReceiveChannelCard

/-- THE TIED CARD OF 'laws.FnExactReceiveBoth'. -/
def fnExactReceiveBothCard : Claim7 := { stood := { row := fnExactReceiveBothRow, standIns := [], harness := (true, "a94338c09f5ada395f87dbac9f9f47d6c8839259cc389133e15df40e46265d3b"), looks := false }, kinds := [], alts := [], laidByText := true, laidKinds := [.data, .pinned], laidTests := true, laidLooks := .later }
def FnExactReceiveBothCardSaid : Prop := Claim7.holds Tryz.pinned (.plain (OpenSpec.ofChange fnExactReceiveBothSpec)) fnExactReceiveBothCard

/-- THE SECOND FORM's CARD OF 'laws.FnExactReceiveChannel'. -/
def fnExactReceiveChannelUptoCard : Claim7 := { stood := { row := fnExactReceiveChannelUptoRow, standIns := [], harness := (true, "a94338c09f5ada395f87dbac9f9f47d6c8839259cc389133e15df40e46265d3b"), looks := false }, kinds := [], alts := [], laidByText := true, laidKinds := [.data, .pinned], laidTests := true, laidLooks := .later }
def FnExactReceiveChannelUptoCardSaid : Prop := Claim7.holds Tryz.pinned (.plain (OpenSpec.upto fnExactReceiveChannelSpec)) fnExactReceiveChannelUptoCard

/-- THE SECOND FORM's CARD OF 'laws.FnExactReceiveBoth'. -/
def fnExactReceiveBothUptoCard : Claim7 := { stood := { row := fnExactReceiveBothUptoRow, standIns := [], harness := (true, "a94338c09f5ada395f87dbac9f9f47d6c8839259cc389133e15df40e46265d3b"), looks := false }, kinds := [], alts := [], laidByText := true, laidKinds := [.data, .pinned], laidTests := true, laidLooks := .later }
def FnExactReceiveBothUptoCardSaid : Prop := Claim7.holds Tryz.pinned (.plain (OpenSpec.upto fnExactReceiveBothSpec)) fnExactReceiveBothUptoCard
end Rows
end Go.Proofs.YtieajgkcadmchaaGreatDoor
