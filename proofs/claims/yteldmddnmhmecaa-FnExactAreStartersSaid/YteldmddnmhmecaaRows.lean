/-
  No cell of these rows narrows 'for every input' (looked for: loops, veiled, ifaces, maps, wideKeys, modest, calm, conditions, laid).
  DERIVED. THE GIVEN ROWS OF THIS SEAT. 12 by the template 'for every input the law returns true; each argument reads behind the call as it read before'; 0 by the template 'total and deterministic' (their statements: YteldmddnmhmecaaTotals.lean).
  GIVEN WITH THE SEED: the statements are not yours to turn. If you find one false, say at which input.
  Laid BY PROGRAM, IN A SANDBOX (cutbox-rows.mjs): the forced cells as the released guide's own fill.sh prints them over the translation e04ca368420457db… (all of the seat's roots in one cut). By AI agents, Wed Nov 11 2026. No macro, syntax, notation, axiom, sorry.
-/
import Derived.Test.YteldmddnmhmecaaChecked
import GoSem.Claim
import GoSem.ClaimJoined
import GoSem.ClaimMapViews
import Derived.JoinedTies
import Derived.KernelRfl
namespace Go.Proofs.Yteldmddnmhmecaa
/- THE CELL 'sum', in the pinned program and in every row, IS THE sha256 OF THE DUMP (.gsa) THAT YteldmddnmhmecaaProg.lean LOADS. Nothing in Lean hashes anything: it is a label: what it is worth is what the hold of that sum in a sandbox is worth. -/
noncomputable def Try.pinned : Pinned := { name := "yteldmddnmhmecaa", sum := "e04ca368420457db1e584102cec67c58cf2d65da44a0386e8cf02eb279287fb3", checked := Try.checked }
namespace Rows
def none {H : Type} : Left H := { results := [], args := [] }

/-- 'laws.FnExactLostMembers': WHATEVER THE INPUT: true; the input reads as it did. -/
def fnExactLostMembersSpec : ChangeSpec := { name := "fnExactLostMembers", fn := fun _ => fun
  | [d1, d2] => { results := [.lit (.bool true)], args := [d1, d2] }
  | _ => none }
def fnExactLostMembersRow : OpenClaim := { program := "yteldmddnmhmecaa", sum := "e04ca368420457db1e584102cec67c58cf2d65da44a0386e8cf02eb279287fb3", func := "loop.example/g00833/laws.FnExactLostMembers", spec := "fnExactLostMembers", apart := false }
def FnExactLostMembersSaid : Prop := fnExactLostMembersRow.holds Try.pinned (OpenSpec.ofChange fnExactLostMembersSpec)

/-- ITS FALSE NEIGHBOUR: 'it returns false'. Refute it at one input. -/
def fnExactLostMembersWrong : ChangeSpec := { name := "fnExactLostMembers", fn := fun _ => fun
  | [d1, d2] => { results := [.lit (.bool false)], args := [d1, d2] }
  | _ => none }
def FnExactLostMembersWrongFalsely : Prop := fnExactLostMembersRow.holds Try.pinned (OpenSpec.ofChange fnExactLostMembersWrong)

/-- 'laws.FnExactLeftOut': WHATEVER THE INPUT: true; the input reads as it did. -/
def fnExactLeftOutSpec : ChangeSpec := { name := "fnExactLeftOut", fn := fun _ => fun
  | [d] => { results := [.lit (.bool true)], args := [d] }
  | _ => none }
def fnExactLeftOutRow : OpenClaim := { program := "yteldmddnmhmecaa", sum := "e04ca368420457db1e584102cec67c58cf2d65da44a0386e8cf02eb279287fb3", func := "loop.example/g00833/laws.FnExactLeftOut", spec := "fnExactLeftOut", apart := false }
def FnExactLeftOutSaid : Prop := fnExactLeftOutRow.holds Try.pinned (OpenSpec.ofChange fnExactLeftOutSpec)

/-- ITS FALSE NEIGHBOUR: 'it returns false'. Refute it at one input. -/
def fnExactLeftOutWrong : ChangeSpec := { name := "fnExactLeftOut", fn := fun _ => fun
  | [d] => { results := [.lit (.bool false)], args := [d] }
  | _ => none }
def FnExactLeftOutWrongFalsely : Prop := fnExactLeftOutRow.holds Try.pinned (OpenSpec.ofChange fnExactLeftOutWrong)

/-- 'laws.FnExactIsMark': WHATEVER THE INPUT: true; the input reads as it did. -/
def fnExactIsMarkSpec : ChangeSpec := { name := "fnExactIsMark", fn := fun _ => fun
  | [d] => { results := [.lit (.bool true)], args := [d] }
  | _ => none }
def fnExactIsMarkRow : OpenClaim := { program := "yteldmddnmhmecaa", sum := "e04ca368420457db1e584102cec67c58cf2d65da44a0386e8cf02eb279287fb3", func := "loop.example/g00833/laws.FnExactIsMark", spec := "fnExactIsMark", apart := false }
def FnExactIsMarkSaid : Prop := fnExactIsMarkRow.holds Try.pinned (OpenSpec.ofChange fnExactIsMarkSpec)

/-- ITS FALSE NEIGHBOUR: 'it returns false'. Refute it at one input. -/
def fnExactIsMarkWrong : ChangeSpec := { name := "fnExactIsMark", fn := fun _ => fun
  | [d] => { results := [.lit (.bool false)], args := [d] }
  | _ => none }
def FnExactIsMarkWrongFalsely : Prop := fnExactIsMarkRow.holds Try.pinned (OpenSpec.ofChange fnExactIsMarkWrong)

/-- 'laws.FnExactSpreadOf': WHATEVER THE INPUT: true; the input reads as it did. -/
def fnExactSpreadOfSpec : ChangeSpec := { name := "fnExactSpreadOf", fn := fun _ => fun
  | [d] => { results := [.lit (.bool true)], args := [d] }
  | _ => none }
def fnExactSpreadOfRow : OpenClaim := { program := "yteldmddnmhmecaa", sum := "e04ca368420457db1e584102cec67c58cf2d65da44a0386e8cf02eb279287fb3", func := "loop.example/g00833/laws.FnExactSpreadOf", spec := "fnExactSpreadOf", apart := false }
def FnExactSpreadOfSaid : Prop := fnExactSpreadOfRow.holds Try.pinned (OpenSpec.ofChange fnExactSpreadOfSpec)

/-- ITS FALSE NEIGHBOUR: 'it returns false'. Refute it at one input. -/
def fnExactSpreadOfWrong : ChangeSpec := { name := "fnExactSpreadOf", fn := fun _ => fun
  | [d] => { results := [.lit (.bool false)], args := [d] }
  | _ => none }
def FnExactSpreadOfWrongFalsely : Prop := fnExactSpreadOfRow.holds Try.pinned (OpenSpec.ofChange fnExactSpreadOfWrong)

/-- 'laws.FnExactAreStarters': WHATEVER THE INPUT: true; the input reads as it did. -/
def fnExactAreStartersSpec : ChangeSpec := { name := "fnExactAreStarters", fn := fun _ => fun
  | [d] => { results := [.lit (.bool true)], args := [d] }
  | _ => none }
def fnExactAreStartersRow : OpenClaim := { program := "yteldmddnmhmecaa", sum := "e04ca368420457db1e584102cec67c58cf2d65da44a0386e8cf02eb279287fb3", func := "loop.example/g00833/laws.FnExactAreStarters", spec := "fnExactAreStarters", unfollowed := true, recurses := true, apart := false }
def FnExactAreStartersSaid : Prop := fnExactAreStartersRow.holds Try.pinned (OpenSpec.ofChange fnExactAreStartersSpec)

/-- ITS FALSE NEIGHBOUR: 'it returns false'. Refute it at one input. -/
def fnExactAreStartersWrong : ChangeSpec := { name := "fnExactAreStarters", fn := fun _ => fun
  | [d] => { results := [.lit (.bool false)], args := [d] }
  | _ => none }
def FnExactAreStartersWrongFalsely : Prop := fnExactAreStartersRow.holds Try.pinned (OpenSpec.ofChange fnExactAreStartersWrong)

/-- 'laws.FnExactFirstLoss': WHATEVER THE INPUT: true; the input reads as it did. -/
def fnExactFirstLossSpec : ChangeSpec := { name := "fnExactFirstLoss", fn := fun _ => fun
  | [d] => { results := [.lit (.bool true)], args := [d] }
  | _ => none }
def fnExactFirstLossRow : OpenClaim := { program := "yteldmddnmhmecaa", sum := "e04ca368420457db1e584102cec67c58cf2d65da44a0386e8cf02eb279287fb3", func := "loop.example/g00833/laws.FnExactFirstLoss", spec := "fnExactFirstLoss", unfollowed := true, recurses := true, apart := false }
def FnExactFirstLossSaid : Prop := fnExactFirstLossRow.holds Try.pinned (OpenSpec.ofChange fnExactFirstLossSpec)

/-- ITS FALSE NEIGHBOUR: 'it returns false'. Refute it at one input. -/
def fnExactFirstLossWrong : ChangeSpec := { name := "fnExactFirstLoss", fn := fun _ => fun
  | [d] => { results := [.lit (.bool false)], args := [d] }
  | _ => none }
def FnExactFirstLossWrongFalsely : Prop := fnExactFirstLossRow.holds Try.pinned (OpenSpec.ofChange fnExactFirstLossWrong)

/-- 'laws.FnExactQuietSteps': WHATEVER THE INPUT: true; the input reads as it did. -/
def fnExactQuietStepsSpec : ChangeSpec := { name := "fnExactQuietSteps", fn := fun _ => fun
  | [d] => { results := [.lit (.bool true)], args := [d] }
  | _ => none }
def fnExactQuietStepsRow : OpenClaim := { program := "yteldmddnmhmecaa", sum := "e04ca368420457db1e584102cec67c58cf2d65da44a0386e8cf02eb279287fb3", func := "loop.example/g00833/laws.FnExactQuietSteps", spec := "fnExactQuietSteps", apart := false }
def FnExactQuietStepsSaid : Prop := fnExactQuietStepsRow.holds Try.pinned (OpenSpec.ofChange fnExactQuietStepsSpec)

/-- ITS FALSE NEIGHBOUR: 'it returns false'. Refute it at one input. -/
def fnExactQuietStepsWrong : ChangeSpec := { name := "fnExactQuietSteps", fn := fun _ => fun
  | [d] => { results := [.lit (.bool false)], args := [d] }
  | _ => none }
def FnExactQuietStepsWrongFalsely : Prop := fnExactQuietStepsRow.holds Try.pinned (OpenSpec.ofChange fnExactQuietStepsWrong)

/-- 'laws.FnExactAdvanceClocks': WHATEVER THE INPUT: true; the input reads as it did. -/
def fnExactAdvanceClocksSpec : ChangeSpec := { name := "fnExactAdvanceClocks", fn := fun _ => fun
  | [d1, d2, d3] => { results := [.lit (.bool true)], args := [d1, d2, d3] }
  | _ => none }
def fnExactAdvanceClocksRow : OpenClaim := { program := "yteldmddnmhmecaa", sum := "e04ca368420457db1e584102cec67c58cf2d65da44a0386e8cf02eb279287fb3", func := "loop.example/g00833/laws.FnExactAdvanceClocks", spec := "fnExactAdvanceClocks", apart := false }
def FnExactAdvanceClocksSaid : Prop := fnExactAdvanceClocksRow.holds Try.pinned (OpenSpec.ofChange fnExactAdvanceClocksSpec)

/-- ITS FALSE NEIGHBOUR: 'it returns false'. Refute it at one input. -/
def fnExactAdvanceClocksWrong : ChangeSpec := { name := "fnExactAdvanceClocks", fn := fun _ => fun
  | [d1, d2, d3] => { results := [.lit (.bool false)], args := [d1, d2, d3] }
  | _ => none }
def FnExactAdvanceClocksWrongFalsely : Prop := fnExactAdvanceClocksRow.holds Try.pinned (OpenSpec.ofChange fnExactAdvanceClocksWrong)

/-- 'laws.FnExactLongestLoss': WHATEVER THE INPUT: true; the input reads as it did. -/
def fnExactLongestLossSpec : ChangeSpec := { name := "fnExactLongestLoss", fn := fun _ => fun
  | [d1, d2] => { results := [.lit (.bool true)], args := [d1, d2] }
  | _ => none }
def fnExactLongestLossRow : OpenClaim := { program := "yteldmddnmhmecaa", sum := "e04ca368420457db1e584102cec67c58cf2d65da44a0386e8cf02eb279287fb3", func := "loop.example/g00833/laws.FnExactLongestLoss", spec := "fnExactLongestLoss", unfollowed := true, recurses := true, apart := false }
def FnExactLongestLossSaid : Prop := fnExactLongestLossRow.holds Try.pinned (OpenSpec.ofChange fnExactLongestLossSpec)

/-- ITS FALSE NEIGHBOUR: 'it returns false'. Refute it at one input. -/
def fnExactLongestLossWrong : ChangeSpec := { name := "fnExactLongestLoss", fn := fun _ => fun
  | [d1, d2] => { results := [.lit (.bool false)], args := [d1, d2] }
  | _ => none }
def FnExactLongestLossWrongFalsely : Prop := fnExactLongestLossRow.holds Try.pinned (OpenSpec.ofChange fnExactLongestLossWrong)

/-- 'laws.FnExactIsStep': WHATEVER THE INPUT: true; the input reads as it did. -/
def fnExactIsStepSpec : ChangeSpec := { name := "fnExactIsStep", fn := fun _ => fun
  | [d] => { results := [.lit (.bool true)], args := [d] }
  | _ => none }
def fnExactIsStepRow : OpenClaim := { program := "yteldmddnmhmecaa", sum := "e04ca368420457db1e584102cec67c58cf2d65da44a0386e8cf02eb279287fb3", func := "loop.example/g00833/laws.FnExactIsStep", spec := "fnExactIsStep", unfollowed := true, recurses := true, apart := false }
def FnExactIsStepSaid : Prop := fnExactIsStepRow.holds Try.pinned (OpenSpec.ofChange fnExactIsStepSpec)

/-- ITS FALSE NEIGHBOUR: 'it returns false'. Refute it at one input. -/
def fnExactIsStepWrong : ChangeSpec := { name := "fnExactIsStep", fn := fun _ => fun
  | [d] => { results := [.lit (.bool false)], args := [d] }
  | _ => none }
def FnExactIsStepWrongFalsely : Prop := fnExactIsStepRow.holds Try.pinned (OpenSpec.ofChange fnExactIsStepWrong)

/-- 'laws.FnExactAvailabilityOf': WHATEVER THE INPUT: true; the input reads as it did. -/
def fnExactAvailabilityOfSpec : ChangeSpec := { name := "fnExactAvailabilityOf", fn := fun _ => fun
  | [d1, d2] => { results := [.lit (.bool true)], args := [d1, d2] }
  | _ => none }
def fnExactAvailabilityOfRow : OpenClaim := { program := "yteldmddnmhmecaa", sum := "e04ca368420457db1e584102cec67c58cf2d65da44a0386e8cf02eb279287fb3", func := "loop.example/g00833/laws.FnExactAvailabilityOf", spec := "fnExactAvailabilityOf", unfollowed := true, recurses := true, apart := false }
def FnExactAvailabilityOfSaid : Prop := fnExactAvailabilityOfRow.holds Try.pinned (OpenSpec.ofChange fnExactAvailabilityOfSpec)

/-- ITS FALSE NEIGHBOUR: 'it returns false'. Refute it at one input. -/
def fnExactAvailabilityOfWrong : ChangeSpec := { name := "fnExactAvailabilityOf", fn := fun _ => fun
  | [d1, d2] => { results := [.lit (.bool false)], args := [d1, d2] }
  | _ => none }
def FnExactAvailabilityOfWrongFalsely : Prop := fnExactAvailabilityOfRow.holds Try.pinned (OpenSpec.ofChange fnExactAvailabilityOfWrong)

/-- 'laws.FnExactStatusCounts': WHATEVER THE INPUT: true; the input reads as it did. -/
def fnExactStatusCountsSpec : ChangeSpec := { name := "fnExactStatusCounts", fn := fun _ => fun
  | [d] => { results := [.lit (.bool true)], args := [d] }
  | _ => none }
def fnExactStatusCountsRow : OpenClaim := { program := "yteldmddnmhmecaa", sum := "e04ca368420457db1e584102cec67c58cf2d65da44a0386e8cf02eb279287fb3", func := "loop.example/g00833/laws.FnExactStatusCounts", spec := "fnExactStatusCounts", unfollowed := true, recurses := true, apart := false }
def FnExactStatusCountsSaid : Prop := fnExactStatusCountsRow.holds Try.pinned (OpenSpec.ofChange fnExactStatusCountsSpec)

/-- ITS FALSE NEIGHBOUR: 'it returns false'. Refute it at one input. -/
def fnExactStatusCountsWrong : ChangeSpec := { name := "fnExactStatusCounts", fn := fun _ => fun
  | [d] => { results := [.lit (.bool false)], args := [d] }
  | _ => none }
def FnExactStatusCountsWrongFalsely : Prop := fnExactStatusCountsRow.holds Try.pinned (OpenSpec.ofChange fnExactStatusCountsWrong)

/- THE SECOND FORM. 'bulk': how many values and letters a reading holds, each counted each time it is reached (what is shared counts as often as it is met; a slice's spare places count too). A statement '..UptoSaid' is the law's where the arguments, and the package variables that the reading takes, are together of bulk at most 1048576: NARROWER than '..Said'. Prove '..Said' where nothing that the law and all that it calls make is longer than what came in: it says more and counts as full. Else prove '..UptoSaid'. A law counts once. -/
mutual
def uptoBulk {H : Type} : DataW H → Nat
  | .lit (.string bytes) => bytes.length + 1
  | .lit _ => 1
  | .nil => 1
  | .ptr d => uptoBulk d + 1
  | .slice elems spare => uptoBulkAll elems + uptoBulkAll spare + 1
  | .agg parts => uptoBulkAll parts + 1
  | .iface _ d => uptoBulk d + 1
  | .map entries => uptoBulkEntries entries + 1
  | .held _ => 1
def uptoBulkAll {H : Type} : List (DataW H) → Nat
  | [] => 0
  | d :: r => uptoBulk d + uptoBulkAll r
def uptoBulkEntries {H : Type} : List (Lit × DataW H) → Nat
  | [] => 0
  | x :: r => uptoBulkEntry x + uptoBulkEntries r
def uptoBulkEntry {H : Type} : Lit × DataW H → Nat
  | (.string bytes, d) => bytes.length + uptoBulk d + 1
  | (_, d) => uptoBulk d + 1
 end
def uptoSmall : (H : Type) → List (DataW H) → Bool := fun _ ds => decide (uptoBulkAll ds ≤ 1048576)
def OpenSpec.upto (s : _root_.Go.ChangeSpec) : _root_.Go.OpenSpec := { _root_.Go.OpenSpec.ofChange s with cond := some uptoSmall }

/-- 'laws.FnExactLostMembers', WHERE WHAT IT READS IS OF BULK AT MOST 1048576: true; the input reads as it did. -/
def fnExactLostMembersUptoRow : OpenClaim := { program := "yteldmddnmhmecaa", sum := "e04ca368420457db1e584102cec67c58cf2d65da44a0386e8cf02eb279287fb3", func := "loop.example/g00833/laws.FnExactLostMembers", spec := "fnExactLostMembers", apart := false, narrowed := true }
def FnExactLostMembersUptoSaid : Prop := fnExactLostMembersUptoRow.holds Try.pinned (OpenSpec.upto fnExactLostMembersSpec)

/-- 'laws.FnExactLeftOut', WHERE WHAT IT READS IS OF BULK AT MOST 1048576: true; the input reads as it did. -/
def fnExactLeftOutUptoRow : OpenClaim := { program := "yteldmddnmhmecaa", sum := "e04ca368420457db1e584102cec67c58cf2d65da44a0386e8cf02eb279287fb3", func := "loop.example/g00833/laws.FnExactLeftOut", spec := "fnExactLeftOut", apart := false, narrowed := true }
def FnExactLeftOutUptoSaid : Prop := fnExactLeftOutUptoRow.holds Try.pinned (OpenSpec.upto fnExactLeftOutSpec)

/-- 'laws.FnExactIsMark', WHERE WHAT IT READS IS OF BULK AT MOST 1048576: true; the input reads as it did. -/
def fnExactIsMarkUptoRow : OpenClaim := { program := "yteldmddnmhmecaa", sum := "e04ca368420457db1e584102cec67c58cf2d65da44a0386e8cf02eb279287fb3", func := "loop.example/g00833/laws.FnExactIsMark", spec := "fnExactIsMark", apart := false, narrowed := true }
def FnExactIsMarkUptoSaid : Prop := fnExactIsMarkUptoRow.holds Try.pinned (OpenSpec.upto fnExactIsMarkSpec)

/-- 'laws.FnExactSpreadOf', WHERE WHAT IT READS IS OF BULK AT MOST 1048576: true; the input reads as it did. -/
def fnExactSpreadOfUptoRow : OpenClaim := { program := "yteldmddnmhmecaa", sum := "e04ca368420457db1e584102cec67c58cf2d65da44a0386e8cf02eb279287fb3", func := "loop.example/g00833/laws.FnExactSpreadOf", spec := "fnExactSpreadOf", apart := false, narrowed := true }
def FnExactSpreadOfUptoSaid : Prop := fnExactSpreadOfUptoRow.holds Try.pinned (OpenSpec.upto fnExactSpreadOfSpec)

/-- 'laws.FnExactAreStarters', WHERE WHAT IT READS IS OF BULK AT MOST 1048576: true; the input reads as it did. -/
def fnExactAreStartersUptoRow : OpenClaim := { program := "yteldmddnmhmecaa", sum := "e04ca368420457db1e584102cec67c58cf2d65da44a0386e8cf02eb279287fb3", func := "loop.example/g00833/laws.FnExactAreStarters", spec := "fnExactAreStarters", unfollowed := true, recurses := true, apart := false, narrowed := true }
def FnExactAreStartersUptoSaid : Prop := fnExactAreStartersUptoRow.holds Try.pinned (OpenSpec.upto fnExactAreStartersSpec)

/-- 'laws.FnExactFirstLoss', WHERE WHAT IT READS IS OF BULK AT MOST 1048576: true; the input reads as it did. -/
def fnExactFirstLossUptoRow : OpenClaim := { program := "yteldmddnmhmecaa", sum := "e04ca368420457db1e584102cec67c58cf2d65da44a0386e8cf02eb279287fb3", func := "loop.example/g00833/laws.FnExactFirstLoss", spec := "fnExactFirstLoss", unfollowed := true, recurses := true, apart := false, narrowed := true }
def FnExactFirstLossUptoSaid : Prop := fnExactFirstLossUptoRow.holds Try.pinned (OpenSpec.upto fnExactFirstLossSpec)

/-- 'laws.FnExactQuietSteps', WHERE WHAT IT READS IS OF BULK AT MOST 1048576: true; the input reads as it did. -/
def fnExactQuietStepsUptoRow : OpenClaim := { program := "yteldmddnmhmecaa", sum := "e04ca368420457db1e584102cec67c58cf2d65da44a0386e8cf02eb279287fb3", func := "loop.example/g00833/laws.FnExactQuietSteps", spec := "fnExactQuietSteps", apart := false, narrowed := true }
def FnExactQuietStepsUptoSaid : Prop := fnExactQuietStepsUptoRow.holds Try.pinned (OpenSpec.upto fnExactQuietStepsSpec)

/-- 'laws.FnExactAdvanceClocks', WHERE WHAT IT READS IS OF BULK AT MOST 1048576: true; the input reads as it did. -/
def fnExactAdvanceClocksUptoRow : OpenClaim := { program := "yteldmddnmhmecaa", sum := "e04ca368420457db1e584102cec67c58cf2d65da44a0386e8cf02eb279287fb3", func := "loop.example/g00833/laws.FnExactAdvanceClocks", spec := "fnExactAdvanceClocks", apart := false, narrowed := true }
def FnExactAdvanceClocksUptoSaid : Prop := fnExactAdvanceClocksUptoRow.holds Try.pinned (OpenSpec.upto fnExactAdvanceClocksSpec)

/-- 'laws.FnExactLongestLoss', WHERE WHAT IT READS IS OF BULK AT MOST 1048576: true; the input reads as it did. -/
def fnExactLongestLossUptoRow : OpenClaim := { program := "yteldmddnmhmecaa", sum := "e04ca368420457db1e584102cec67c58cf2d65da44a0386e8cf02eb279287fb3", func := "loop.example/g00833/laws.FnExactLongestLoss", spec := "fnExactLongestLoss", unfollowed := true, recurses := true, apart := false, narrowed := true }
def FnExactLongestLossUptoSaid : Prop := fnExactLongestLossUptoRow.holds Try.pinned (OpenSpec.upto fnExactLongestLossSpec)

/-- 'laws.FnExactIsStep', WHERE WHAT IT READS IS OF BULK AT MOST 1048576: true; the input reads as it did. -/
def fnExactIsStepUptoRow : OpenClaim := { program := "yteldmddnmhmecaa", sum := "e04ca368420457db1e584102cec67c58cf2d65da44a0386e8cf02eb279287fb3", func := "loop.example/g00833/laws.FnExactIsStep", spec := "fnExactIsStep", unfollowed := true, recurses := true, apart := false, narrowed := true }
def FnExactIsStepUptoSaid : Prop := fnExactIsStepUptoRow.holds Try.pinned (OpenSpec.upto fnExactIsStepSpec)

/-- 'laws.FnExactAvailabilityOf', WHERE WHAT IT READS IS OF BULK AT MOST 1048576: true; the input reads as it did. -/
def fnExactAvailabilityOfUptoRow : OpenClaim := { program := "yteldmddnmhmecaa", sum := "e04ca368420457db1e584102cec67c58cf2d65da44a0386e8cf02eb279287fb3", func := "loop.example/g00833/laws.FnExactAvailabilityOf", spec := "fnExactAvailabilityOf", unfollowed := true, recurses := true, apart := false, narrowed := true }
def FnExactAvailabilityOfUptoSaid : Prop := fnExactAvailabilityOfUptoRow.holds Try.pinned (OpenSpec.upto fnExactAvailabilityOfSpec)

/-- 'laws.FnExactStatusCounts', WHERE WHAT IT READS IS OF BULK AT MOST 1048576: true; the input reads as it did. -/
def fnExactStatusCountsUptoRow : OpenClaim := { program := "yteldmddnmhmecaa", sum := "e04ca368420457db1e584102cec67c58cf2d65da44a0386e8cf02eb279287fb3", func := "loop.example/g00833/laws.FnExactStatusCounts", spec := "fnExactStatusCounts", unfollowed := true, recurses := true, apart := false, narrowed := true }
def FnExactStatusCountsUptoSaid : Prop := fnExactStatusCountsUptoRow.holds Try.pinned (OpenSpec.upto fnExactStatusCountsSpec)

end Rows
end Go.Proofs.Yteldmddnmhmecaa
