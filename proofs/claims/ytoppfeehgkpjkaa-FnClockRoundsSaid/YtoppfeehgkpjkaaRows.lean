/-
  No cell of these rows narrows 'for every input' (looked for: loops, veiled, ifaces, maps, wideKeys, modest, calm, conditions, laid).
  DERIVED. THE GIVEN ROWS OF THIS SEAT. 7 by the template 'for every input the law returns true; each argument reads behind the call as it read before'; 0 by the template 'total and deterministic' (their statements: YtoppfeehgkpjkaaTotals.lean).
  GIVEN WITH THE SEED: the statements are not yours to turn. If you find one false, say at which input.
  Laid BY PROGRAM, IN A SANDBOX (cutbox-rows.mjs): the forced cells as the released guide's own fill.sh prints them over the translation 18337a15784e8784… (all of the seat's roots in one cut). By AI agents, Wed Nov 11 2026. No macro, syntax, notation, axiom, sorry.
-/
import Derived.Test.YtoppfeehgkpjkaaChecked
import GoSem.Claim
import GoSem.ClaimJoined
import GoSem.ClaimMapViews
import Derived.JoinedTies
import Derived.KernelRfl
namespace Go.Proofs.Ytoppfeehgkpjkaa
/- THE CELL 'sum', in the pinned program and in every row, IS THE sha256 OF THE DUMP (.gsa) THAT YtoppfeehgkpjkaaProg.lean LOADS. Nothing in Lean hashes anything: it is a label: what it is worth is what the hold of that sum in a sandbox is worth. -/
noncomputable def Try.pinned : Pinned := { name := "ytoppfeehgkpjkaa", sum := "18337a15784e8784345265184f82335bc7ed0ac135ecd636d57201b9cd026755", checked := Try.checked }
namespace Rows
def none {H : Type} : Left H := { results := [], args := [] }

/-- 'laws.FnMeans': WHATEVER THE INPUT: true; the input reads as it did. -/
def fnMeansSpec : ChangeSpec := { name := "fnMeans", fn := fun _ => fun
  | [d] => { results := [.lit (.bool true)], args := [d] }
  | _ => none }
def fnMeansRow : OpenClaim := { program := "ytoppfeehgkpjkaa", sum := "18337a15784e8784345265184f82335bc7ed0ac135ecd636d57201b9cd026755", func := "loop.example/g00833/laws.FnMeans", spec := "fnMeans", recurses := true, apart := false }
def FnMeansSaid : Prop := fnMeansRow.holds Try.pinned (OpenSpec.ofChange fnMeansSpec)

/-- ITS FALSE NEIGHBOUR: 'it returns false'. Refute it at one input. -/
def fnMeansWrong : ChangeSpec := { name := "fnMeans", fn := fun _ => fun
  | [d] => { results := [.lit (.bool false)], args := [d] }
  | _ => none }
def FnMeansWrongFalsely : Prop := fnMeansRow.holds Try.pinned (OpenSpec.ofChange fnMeansWrong)

/-- 'laws.FnExactCorrectClocks': WHATEVER THE INPUT: true; the input reads as it did. -/
def fnExactCorrectClocksSpec : ChangeSpec := { name := "fnExactCorrectClocks", fn := fun _ => fun
  | [d] => { results := [.lit (.bool true)], args := [d] }
  | _ => none }
def fnExactCorrectClocksRow : OpenClaim := { program := "ytoppfeehgkpjkaa", sum := "18337a15784e8784345265184f82335bc7ed0ac135ecd636d57201b9cd026755", func := "loop.example/g00833/laws.FnExactCorrectClocks", spec := "fnExactCorrectClocks", recurses := true, apart := false }
def FnExactCorrectClocksSaid : Prop := fnExactCorrectClocksRow.holds Try.pinned (OpenSpec.ofChange fnExactCorrectClocksSpec)

/-- ITS FALSE NEIGHBOUR: 'it returns false'. Refute it at one input. -/
def fnExactCorrectClocksWrong : ChangeSpec := { name := "fnExactCorrectClocks", fn := fun _ => fun
  | [d] => { results := [.lit (.bool false)], args := [d] }
  | _ => none }
def FnExactCorrectClocksWrongFalsely : Prop := fnExactCorrectClocksRow.holds Try.pinned (OpenSpec.ofChange fnExactCorrectClocksWrong)

/-- 'laws.FnExactCorrectAround': WHATEVER THE INPUT: true; the input reads as it did. -/
def fnExactCorrectAroundSpec : ChangeSpec := { name := "fnExactCorrectAround", fn := fun _ => fun
  | [d1, d2, d3] => { results := [.lit (.bool true)], args := [d1, d2, d3] }
  | _ => none }
def fnExactCorrectAroundRow : OpenClaim := { program := "ytoppfeehgkpjkaa", sum := "18337a15784e8784345265184f82335bc7ed0ac135ecd636d57201b9cd026755", func := "loop.example/g00833/laws.FnExactCorrectAround", spec := "fnExactCorrectAround", recurses := true, apart := false }
def FnExactCorrectAroundSaid : Prop := fnExactCorrectAroundRow.holds Try.pinned (OpenSpec.ofChange fnExactCorrectAroundSpec)

/-- ITS FALSE NEIGHBOUR: 'it returns false'. Refute it at one input. -/
def fnExactCorrectAroundWrong : ChangeSpec := { name := "fnExactCorrectAround", fn := fun _ => fun
  | [d1, d2, d3] => { results := [.lit (.bool false)], args := [d1, d2, d3] }
  | _ => none }
def FnExactCorrectAroundWrongFalsely : Prop := fnExactCorrectAroundRow.holds Try.pinned (OpenSpec.ofChange fnExactCorrectAroundWrong)

/-- 'laws.FnFaultyClocks': WHATEVER THE INPUT: true; the input reads as it did. -/
def fnFaultyClocksSpec : ChangeSpec := { name := "fnFaultyClocks", fn := fun _ => fun
  | [d] => { results := [.lit (.bool true)], args := [d] }
  | _ => none }
def fnFaultyClocksRow : OpenClaim := { program := "ytoppfeehgkpjkaa", sum := "18337a15784e8784345265184f82335bc7ed0ac135ecd636d57201b9cd026755", func := "loop.example/g00833/laws.FnFaultyClocks", spec := "fnFaultyClocks", recurses := true, apart := false }
def FnFaultyClocksSaid : Prop := fnFaultyClocksRow.holds Try.pinned (OpenSpec.ofChange fnFaultyClocksSpec)

/-- ITS FALSE NEIGHBOUR: 'it returns false'. Refute it at one input. -/
def fnFaultyClocksWrong : ChangeSpec := { name := "fnFaultyClocks", fn := fun _ => fun
  | [d] => { results := [.lit (.bool false)], args := [d] }
  | _ => none }
def FnFaultyClocksWrongFalsely : Prop := fnFaultyClocksRow.holds Try.pinned (OpenSpec.ofChange fnFaultyClocksWrong)

/-- 'laws.FnCorrectedClocks': WHATEVER THE INPUT: true; the input reads as it did. -/
def fnCorrectedClocksSpec : ChangeSpec := { name := "fnCorrectedClocks", fn := fun _ => fun
  | [d] => { results := [.lit (.bool true)], args := [d] }
  | _ => none }
def fnCorrectedClocksRow : OpenClaim := { program := "ytoppfeehgkpjkaa", sum := "18337a15784e8784345265184f82335bc7ed0ac135ecd636d57201b9cd026755", func := "loop.example/g00833/laws.FnCorrectedClocks", spec := "fnCorrectedClocks", recurses := true, apart := false }
def FnCorrectedClocksSaid : Prop := fnCorrectedClocksRow.holds Try.pinned (OpenSpec.ofChange fnCorrectedClocksSpec)

/-- ITS FALSE NEIGHBOUR: 'it returns false'. Refute it at one input. -/
def fnCorrectedClocksWrong : ChangeSpec := { name := "fnCorrectedClocks", fn := fun _ => fun
  | [d] => { results := [.lit (.bool false)], args := [d] }
  | _ => none }
def FnCorrectedClocksWrongFalsely : Prop := fnCorrectedClocksRow.holds Try.pinned (OpenSpec.ofChange fnCorrectedClocksWrong)

/-- 'laws.FnExactRunClocks': WHATEVER THE INPUT: true; the input reads as it did. -/
def fnExactRunClocksSpec : ChangeSpec := { name := "fnExactRunClocks", fn := fun _ => fun
  | [d1, d2, d3, d4] => { results := [.lit (.bool true)], args := [d1, d2, d3, d4] }
  | _ => none }
def fnExactRunClocksRow : OpenClaim := { program := "ytoppfeehgkpjkaa", sum := "18337a15784e8784345265184f82335bc7ed0ac135ecd636d57201b9cd026755", func := "loop.example/g00833/laws.FnExactRunClocks", spec := "fnExactRunClocks", recurses := true, apart := false }
def FnExactRunClocksSaid : Prop := fnExactRunClocksRow.holds Try.pinned (OpenSpec.ofChange fnExactRunClocksSpec)

/-- ITS FALSE NEIGHBOUR: 'it returns false'. Refute it at one input. -/
def fnExactRunClocksWrong : ChangeSpec := { name := "fnExactRunClocks", fn := fun _ => fun
  | [d1, d2, d3, d4] => { results := [.lit (.bool false)], args := [d1, d2, d3, d4] }
  | _ => none }
def FnExactRunClocksWrongFalsely : Prop := fnExactRunClocksRow.holds Try.pinned (OpenSpec.ofChange fnExactRunClocksWrong)

/-- 'laws.FnClockRounds': WHATEVER THE INPUT: true; the input reads as it did. -/
def fnClockRoundsSpec : ChangeSpec := { name := "fnClockRounds", fn := fun _ => fun
  | [d] => { results := [.lit (.bool true)], args := [d] }
  | _ => none }
def fnClockRoundsRow : OpenClaim := { program := "ytoppfeehgkpjkaa", sum := "18337a15784e8784345265184f82335bc7ed0ac135ecd636d57201b9cd026755", func := "loop.example/g00833/laws.FnClockRounds", spec := "fnClockRounds", recurses := true, apart := false }
def FnClockRoundsSaid : Prop := fnClockRoundsRow.holds Try.pinned (OpenSpec.ofChange fnClockRoundsSpec)

/-- ITS FALSE NEIGHBOUR: 'it returns false'. Refute it at one input. -/
def fnClockRoundsWrong : ChangeSpec := { name := "fnClockRounds", fn := fun _ => fun
  | [d] => { results := [.lit (.bool false)], args := [d] }
  | _ => none }
def FnClockRoundsWrongFalsely : Prop := fnClockRoundsRow.holds Try.pinned (OpenSpec.ofChange fnClockRoundsWrong)

/- THE SECOND FORM. 'bulk': how many values and letters a reading holds, each counted each time it is reached (what is shared counts as often as it is met; a slice's spare places count too). A statement '..UptoSaid' is the law's where the arguments, and the package variables that the reading takes, are together of bulk at most 1048576: NARROWER than '..Said'. Prove '..Said' where nothing that the law and all that it calls make is longer than what came in: it says more and counts as full. Else prove '..UptoSaid'. A law counts once. -/
mutual
def uptoBulk {H : Type} : DataW H → Nat
  | .lit (.string bytes) => bytes.length + 1
  | .lit _ => 1
  | .nil => 1
  | .ptr d => uptoBulk d + 1
  | .slice elems spare => uptoBulkAll elems + uptoBulkAll spare + 1
  | .agg parts => uptoBulkAll parts + 1
  | .iface _ d => uptoBulk d + 1
  | .map entries => uptoBulkEntries entries + 1
  | .held _ => 1
def uptoBulkAll {H : Type} : List (DataW H) → Nat
  | [] => 0
  | d :: r => uptoBulk d + uptoBulkAll r
def uptoBulkEntries {H : Type} : List (Lit × DataW H) → Nat
  | [] => 0
  | x :: r => uptoBulkEntry x + uptoBulkEntries r
def uptoBulkEntry {H : Type} : Lit × DataW H → Nat
  | (.string bytes, d) => bytes.length + uptoBulk d + 1
  | (_, d) => uptoBulk d + 1
 end
def uptoSmall : (H : Type) → List (DataW H) → Bool := fun _ ds => decide (uptoBulkAll ds ≤ 1048576)
def OpenSpec.upto (s : _root_.Go.ChangeSpec) : _root_.Go.OpenSpec := { _root_.Go.OpenSpec.ofChange s with cond := some uptoSmall }

/-- 'laws.FnMeans', WHERE WHAT IT READS IS OF BULK AT MOST 1048576: true; the input reads as it did. -/
def fnMeansUptoRow : OpenClaim := { program := "ytoppfeehgkpjkaa", sum := "18337a15784e8784345265184f82335bc7ed0ac135ecd636d57201b9cd026755", func := "loop.example/g00833/laws.FnMeans", spec := "fnMeans", recurses := true, apart := false, narrowed := true }
def FnMeansUptoSaid : Prop := fnMeansUptoRow.holds Try.pinned (OpenSpec.upto fnMeansSpec)

/-- 'laws.FnExactCorrectClocks', WHERE WHAT IT READS IS OF BULK AT MOST 1048576: true; the input reads as it did. -/
def fnExactCorrectClocksUptoRow : OpenClaim := { program := "ytoppfeehgkpjkaa", sum := "18337a15784e8784345265184f82335bc7ed0ac135ecd636d57201b9cd026755", func := "loop.example/g00833/laws.FnExactCorrectClocks", spec := "fnExactCorrectClocks", recurses := true, apart := false, narrowed := true }
def FnExactCorrectClocksUptoSaid : Prop := fnExactCorrectClocksUptoRow.holds Try.pinned (OpenSpec.upto fnExactCorrectClocksSpec)

/-- 'laws.FnExactCorrectAround', WHERE WHAT IT READS IS OF BULK AT MOST 1048576: true; the input reads as it did. -/
def fnExactCorrectAroundUptoRow : OpenClaim := { program := "ytoppfeehgkpjkaa", sum := "18337a15784e8784345265184f82335bc7ed0ac135ecd636d57201b9cd026755", func := "loop.example/g00833/laws.FnExactCorrectAround", spec := "fnExactCorrectAround", recurses := true, apart := false, narrowed := true }
def FnExactCorrectAroundUptoSaid : Prop := fnExactCorrectAroundUptoRow.holds Try.pinned (OpenSpec.upto fnExactCorrectAroundSpec)

/-- 'laws.FnFaultyClocks', WHERE WHAT IT READS IS OF BULK AT MOST 1048576: true; the input reads as it did. -/
def fnFaultyClocksUptoRow : OpenClaim := { program := "ytoppfeehgkpjkaa", sum := "18337a15784e8784345265184f82335bc7ed0ac135ecd636d57201b9cd026755", func := "loop.example/g00833/laws.FnFaultyClocks", spec := "fnFaultyClocks", recurses := true, apart := false, narrowed := true }
def FnFaultyClocksUptoSaid : Prop := fnFaultyClocksUptoRow.holds Try.pinned (OpenSpec.upto fnFaultyClocksSpec)

/-- 'laws.FnCorrectedClocks', WHERE WHAT IT READS IS OF BULK AT MOST 1048576: true; the input reads as it did. -/
def fnCorrectedClocksUptoRow : OpenClaim := { program := "ytoppfeehgkpjkaa", sum := "18337a15784e8784345265184f82335bc7ed0ac135ecd636d57201b9cd026755", func := "loop.example/g00833/laws.FnCorrectedClocks", spec := "fnCorrectedClocks", recurses := true, apart := false, narrowed := true }
def FnCorrectedClocksUptoSaid : Prop := fnCorrectedClocksUptoRow.holds Try.pinned (OpenSpec.upto fnCorrectedClocksSpec)

/-- 'laws.FnExactRunClocks', WHERE WHAT IT READS IS OF BULK AT MOST 1048576: true; the input reads as it did. -/
def fnExactRunClocksUptoRow : OpenClaim := { program := "ytoppfeehgkpjkaa", sum := "18337a15784e8784345265184f82335bc7ed0ac135ecd636d57201b9cd026755", func := "loop.example/g00833/laws.FnExactRunClocks", spec := "fnExactRunClocks", recurses := true, apart := false, narrowed := true }
def FnExactRunClocksUptoSaid : Prop := fnExactRunClocksUptoRow.holds Try.pinned (OpenSpec.upto fnExactRunClocksSpec)

/-- 'laws.FnClockRounds', WHERE WHAT IT READS IS OF BULK AT MOST 1048576: true; the input reads as it did. -/
def fnClockRoundsUptoRow : OpenClaim := { program := "ytoppfeehgkpjkaa", sum := "18337a15784e8784345265184f82335bc7ed0ac135ecd636d57201b9cd026755", func := "loop.example/g00833/laws.FnClockRounds", spec := "fnClockRounds", recurses := true, apart := false, narrowed := true }
def FnClockRoundsUptoSaid : Prop := fnClockRoundsUptoRow.holds Try.pinned (OpenSpec.upto fnClockRoundsSpec)

end Rows
end Go.Proofs.Ytoppfeehgkpjkaa
