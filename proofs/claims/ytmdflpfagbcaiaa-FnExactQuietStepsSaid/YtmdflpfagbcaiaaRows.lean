/-
  No cell of these rows narrows 'for every input' (looked for: loops, veiled, ifaces, maps, wideKeys, modest, calm, conditions, laid).
  DERIVED. THE GIVEN ROWS OF THIS SEAT. 11 by the template 'for every input the law returns true; each argument reads behind the call as it read before'; 0 by the template 'total and deterministic' (their statements: YtmdflpfagbcaiaaTotals.lean).
  GIVEN WITH THE SEED: the statements are not yours to turn. If you find one false, say at which input.
  Laid BY PROGRAM, IN A SANDBOX (cutbox-rows.mjs): the forced cells as the released guide's own fill.sh prints them over the translation 0bf7ace664f3b89e… (all of the seat's roots in one cut). By AI agents, Wed Nov 11 2026. No macro, syntax, notation, axiom, sorry.
-/
import Derived.Test.YtmdflpfagbcaiaaChecked
import GoSem.Claim
import GoSem.ClaimJoined
import GoSem.ClaimMapViews
import Derived.JoinedTies
import Derived.KernelRfl
namespace Go.Proofs.Ytmdflpfagbcaiaa
/- THE CELL 'sum', in the pinned program and in every row, IS THE sha256 OF THE DUMP (.gsa) THAT YtmdflpfagbcaiaaProg.lean LOADS. Nothing in Lean hashes anything: it is a label: what it is worth is what the hold of that sum in a sandbox is worth. -/
noncomputable def Try.pinned : Pinned := { name := "ytmdflpfagbcaiaa", sum := "0bf7ace664f3b89e550b7073ac3233e7c4a5e7db2c8a06e0935e1d1daa07a2d7", checked := Try.checked }
namespace Rows
def none {H : Type} : Left H := { results := [], args := [] }

/-- 'laws.FnExactQuietSteps': WHATEVER THE INPUT: true; the input reads as it did. -/
def fnExactQuietStepsSpec : ChangeSpec := { name := "fnExactQuietSteps", fn := fun _ => fun
  | [d] => { results := [.lit (.bool true)], args := [d] }
  | _ => none }
def fnExactQuietStepsRow : OpenClaim := { program := "ytmdflpfagbcaiaa", sum := "0bf7ace664f3b89e550b7073ac3233e7c4a5e7db2c8a06e0935e1d1daa07a2d7", func := "loop.example/g00833/laws.FnExactQuietSteps", spec := "fnExactQuietSteps", apart := false }
def FnExactQuietStepsSaid : Prop := fnExactQuietStepsRow.holds Try.pinned (OpenSpec.ofChange fnExactQuietStepsSpec)

/-- ITS FALSE NEIGHBOUR: 'it returns false'. Refute it at one input. -/
def fnExactQuietStepsWrong : ChangeSpec := { name := "fnExactQuietSteps", fn := fun _ => fun
  | [d] => { results := [.lit (.bool false)], args := [d] }
  | _ => none }
def FnExactQuietStepsWrongFalsely : Prop := fnExactQuietStepsRow.holds Try.pinned (OpenSpec.ofChange fnExactQuietStepsWrong)

/-- 'laws.FnExactWithoutStarter': WHATEVER THE INPUT: true; the input reads as it did. -/
def fnExactWithoutStarterSpec : ChangeSpec := { name := "fnExactWithoutStarter", fn := fun _ => fun
  | [d1, d2] => { results := [.lit (.bool true)], args := [d1, d2] }
  | _ => none }
def fnExactWithoutStarterRow : OpenClaim := { program := "ytmdflpfagbcaiaa", sum := "0bf7ace664f3b89e550b7073ac3233e7c4a5e7db2c8a06e0935e1d1daa07a2d7", func := "loop.example/g00833/laws.FnExactWithoutStarter", spec := "fnExactWithoutStarter", unfollowed := true, recurses := true, apart := false }
def FnExactWithoutStarterSaid : Prop := fnExactWithoutStarterRow.holds Try.pinned (OpenSpec.ofChange fnExactWithoutStarterSpec)

/-- ITS FALSE NEIGHBOUR: 'it returns false'. Refute it at one input. -/
def fnExactWithoutStarterWrong : ChangeSpec := { name := "fnExactWithoutStarter", fn := fun _ => fun
  | [d1, d2] => { results := [.lit (.bool false)], args := [d1, d2] }
  | _ => none }
def FnExactWithoutStarterWrongFalsely : Prop := fnExactWithoutStarterRow.holds Try.pinned (OpenSpec.ofChange fnExactWithoutStarterWrong)

/-- 'laws.FnLeaders': WHATEVER THE INPUT: true; the input reads as it did. -/
def fnLeadersSpec : ChangeSpec := { name := "fnLeaders", fn := fun _ => fun
  | [d] => { results := [.lit (.bool true)], args := [d] }
  | _ => none }
def fnLeadersRow : OpenClaim := { program := "ytmdflpfagbcaiaa", sum := "0bf7ace664f3b89e550b7073ac3233e7c4a5e7db2c8a06e0935e1d1daa07a2d7", func := "loop.example/g00833/laws.FnLeaders", spec := "fnLeaders", unfollowed := true, recurses := true, apart := false }
def FnLeadersSaid : Prop := fnLeadersRow.holds Try.pinned (OpenSpec.ofChange fnLeadersSpec)

/-- ITS FALSE NEIGHBOUR: 'it returns false'. Refute it at one input. -/
def fnLeadersWrong : ChangeSpec := { name := "fnLeaders", fn := fun _ => fun
  | [d] => { results := [.lit (.bool false)], args := [d] }
  | _ => none }
def FnLeadersWrongFalsely : Prop := fnLeadersRow.holds Try.pinned (OpenSpec.ofChange fnLeadersWrong)

/-- 'laws.FnTwoStarters': WHATEVER THE INPUT: true; the input reads as it did. -/
def fnTwoStartersSpec : ChangeSpec := { name := "fnTwoStarters", fn := fun _ => fun
  | [d] => { results := [.lit (.bool true)], args := [d] }
  | _ => none }
def fnTwoStartersRow : OpenClaim := { program := "ytmdflpfagbcaiaa", sum := "0bf7ace664f3b89e550b7073ac3233e7c4a5e7db2c8a06e0935e1d1daa07a2d7", func := "loop.example/g00833/laws.FnTwoStarters", spec := "fnTwoStarters", unfollowed := true, recurses := true, apart := false }
def FnTwoStartersSaid : Prop := fnTwoStartersRow.holds Try.pinned (OpenSpec.ofChange fnTwoStartersSpec)

/-- ITS FALSE NEIGHBOUR: 'it returns false'. Refute it at one input. -/
def fnTwoStartersWrong : ChangeSpec := { name := "fnTwoStarters", fn := fun _ => fun
  | [d] => { results := [.lit (.bool false)], args := [d] }
  | _ => none }
def FnTwoStartersWrongFalsely : Prop := fnTwoStartersRow.holds Try.pinned (OpenSpec.ofChange fnTwoStartersWrong)

/-- 'laws.FnJoined': WHATEVER THE INPUT: true; the input reads as it did. -/
def fnJoinedSpec : ChangeSpec := { name := "fnJoined", fn := fun _ => fun
  | [d] => { results := [.lit (.bool true)], args := [d] }
  | _ => none }
def fnJoinedRow : OpenClaim := { program := "ytmdflpfagbcaiaa", sum := "0bf7ace664f3b89e550b7073ac3233e7c4a5e7db2c8a06e0935e1d1daa07a2d7", func := "loop.example/g00833/laws.FnJoined", spec := "fnJoined", unfollowed := true, recurses := true, apart := false }
def FnJoinedSaid : Prop := fnJoinedRow.holds Try.pinned (OpenSpec.ofChange fnJoinedSpec)

/-- ITS FALSE NEIGHBOUR: 'it returns false'. Refute it at one input. -/
def fnJoinedWrong : ChangeSpec := { name := "fnJoined", fn := fun _ => fun
  | [d] => { results := [.lit (.bool false)], args := [d] }
  | _ => none }
def FnJoinedWrongFalsely : Prop := fnJoinedRow.holds Try.pinned (OpenSpec.ofChange fnJoinedWrong)

/-- 'laws.FnMerged': WHATEVER THE INPUT: true; the input reads as it did. -/
def fnMergedSpec : ChangeSpec := { name := "fnMerged", fn := fun _ => fun
  | [d] => { results := [.lit (.bool true)], args := [d] }
  | _ => none }
def fnMergedRow : OpenClaim := { program := "ytmdflpfagbcaiaa", sum := "0bf7ace664f3b89e550b7073ac3233e7c4a5e7db2c8a06e0935e1d1daa07a2d7", func := "loop.example/g00833/laws.FnMerged", spec := "fnMerged", apart := false }
def FnMergedSaid : Prop := fnMergedRow.holds Try.pinned (OpenSpec.ofChange fnMergedSpec)

/-- ITS FALSE NEIGHBOUR: 'it returns false'. Refute it at one input. -/
def fnMergedWrong : ChangeSpec := { name := "fnMerged", fn := fun _ => fun
  | [d] => { results := [.lit (.bool false)], args := [d] }
  | _ => none }
def FnMergedWrongFalsely : Prop := fnMergedRow.holds Try.pinned (OpenSpec.ofChange fnMergedWrong)

/-- 'laws.FnExactMergeVerdicts': WHATEVER THE INPUT: true; the input reads as it did. -/
def fnExactMergeVerdictsSpec : ChangeSpec := { name := "fnExactMergeVerdicts", fn := fun _ => fun
  | [d1, d2] => { results := [.lit (.bool true)], args := [d1, d2] }
  | _ => none }
def fnExactMergeVerdictsRow : OpenClaim := { program := "ytmdflpfagbcaiaa", sum := "0bf7ace664f3b89e550b7073ac3233e7c4a5e7db2c8a06e0935e1d1daa07a2d7", func := "loop.example/g00833/laws.FnExactMergeVerdicts", spec := "fnExactMergeVerdicts", apart := false }
def FnExactMergeVerdictsSaid : Prop := fnExactMergeVerdictsRow.holds Try.pinned (OpenSpec.ofChange fnExactMergeVerdictsSpec)

/-- ITS FALSE NEIGHBOUR: 'it returns false'. Refute it at one input. -/
def fnExactMergeVerdictsWrong : ChangeSpec := { name := "fnExactMergeVerdicts", fn := fun _ => fun
  | [d1, d2] => { results := [.lit (.bool false)], args := [d1, d2] }
  | _ => none }
def FnExactMergeVerdictsWrongFalsely : Prop := fnExactMergeVerdictsRow.holds Try.pinned (OpenSpec.ofChange fnExactMergeVerdictsWrong)

/-- 'laws.FnExactCountStatuses': WHATEVER THE INPUT: true; the input reads as it did. -/
def fnExactCountStatusesSpec : ChangeSpec := { name := "fnExactCountStatuses", fn := fun _ => fun
  | [d] => { results := [.lit (.bool true)], args := [d] }
  | _ => none }
def fnExactCountStatusesRow : OpenClaim := { program := "ytmdflpfagbcaiaa", sum := "0bf7ace664f3b89e550b7073ac3233e7c4a5e7db2c8a06e0935e1d1daa07a2d7", func := "loop.example/g00833/laws.FnExactCountStatuses", spec := "fnExactCountStatuses", unfollowed := true, recurses := true, apart := false }
def FnExactCountStatusesSaid : Prop := fnExactCountStatusesRow.holds Try.pinned (OpenSpec.ofChange fnExactCountStatusesSpec)

/-- ITS FALSE NEIGHBOUR: 'it returns false'. Refute it at one input. -/
def fnExactCountStatusesWrong : ChangeSpec := { name := "fnExactCountStatuses", fn := fun _ => fun
  | [d] => { results := [.lit (.bool false)], args := [d] }
  | _ => none }
def FnExactCountStatusesWrongFalsely : Prop := fnExactCountStatusesRow.holds Try.pinned (OpenSpec.ofChange fnExactCountStatusesWrong)

/-- 'laws.FnExactMergeAll': WHATEVER THE INPUT: true; the input reads as it did. -/
def fnExactMergeAllSpec : ChangeSpec := { name := "fnExactMergeAll", fn := fun _ => fun
  | [d] => { results := [.lit (.bool true)], args := [d] }
  | _ => none }
def fnExactMergeAllRow : OpenClaim := { program := "ytmdflpfagbcaiaa", sum := "0bf7ace664f3b89e550b7073ac3233e7c4a5e7db2c8a06e0935e1d1daa07a2d7", func := "loop.example/g00833/laws.FnExactMergeAll", spec := "fnExactMergeAll", unfollowed := true, recurses := true, apart := false }
def FnExactMergeAllSaid : Prop := fnExactMergeAllRow.holds Try.pinned (OpenSpec.ofChange fnExactMergeAllSpec)

/-- ITS FALSE NEIGHBOUR: 'it returns false'. Refute it at one input. -/
def fnExactMergeAllWrong : ChangeSpec := { name := "fnExactMergeAll", fn := fun _ => fun
  | [d] => { results := [.lit (.bool false)], args := [d] }
  | _ => none }
def FnExactMergeAllWrongFalsely : Prop := fnExactMergeAllRow.holds Try.pinned (OpenSpec.ofChange fnExactMergeAllWrong)

/-- 'laws.FnMergedAll': WHATEVER THE INPUT: true; the input reads as it did. -/
def fnMergedAllSpec : ChangeSpec := { name := "fnMergedAll", fn := fun _ => fun
  | [d] => { results := [.lit (.bool true)], args := [d] }
  | _ => none }
def fnMergedAllRow : OpenClaim := { program := "ytmdflpfagbcaiaa", sum := "0bf7ace664f3b89e550b7073ac3233e7c4a5e7db2c8a06e0935e1d1daa07a2d7", func := "loop.example/g00833/laws.FnMergedAll", spec := "fnMergedAll", unfollowed := true, recurses := true, apart := false }
def FnMergedAllSaid : Prop := fnMergedAllRow.holds Try.pinned (OpenSpec.ofChange fnMergedAllSpec)

/-- ITS FALSE NEIGHBOUR: 'it returns false'. Refute it at one input. -/
def fnMergedAllWrong : ChangeSpec := { name := "fnMergedAll", fn := fun _ => fun
  | [d] => { results := [.lit (.bool false)], args := [d] }
  | _ => none }
def FnMergedAllWrongFalsely : Prop := fnMergedAllRow.holds Try.pinned (OpenSpec.ofChange fnMergedAllWrong)

/-- 'laws.FnExactToleratedMean': WHATEVER THE INPUT: true; the input reads as it did. -/
def fnExactToleratedMeanSpec : ChangeSpec := { name := "fnExactToleratedMean", fn := fun _ => fun
  | [d] => { results := [.lit (.bool true)], args := [d] }
  | _ => none }
def fnExactToleratedMeanRow : OpenClaim := { program := "ytmdflpfagbcaiaa", sum := "0bf7ace664f3b89e550b7073ac3233e7c4a5e7db2c8a06e0935e1d1daa07a2d7", func := "loop.example/g00833/laws.FnExactToleratedMean", spec := "fnExactToleratedMean", recurses := true, apart := false }
def FnExactToleratedMeanSaid : Prop := fnExactToleratedMeanRow.holds Try.pinned (OpenSpec.ofChange fnExactToleratedMeanSpec)

/-- ITS FALSE NEIGHBOUR: 'it returns false'. Refute it at one input. -/
def fnExactToleratedMeanWrong : ChangeSpec := { name := "fnExactToleratedMean", fn := fun _ => fun
  | [d] => { results := [.lit (.bool false)], args := [d] }
  | _ => none }
def FnExactToleratedMeanWrongFalsely : Prop := fnExactToleratedMeanRow.holds Try.pinned (OpenSpec.ofChange fnExactToleratedMeanWrong)

/- THE SECOND FORM. 'bulk': how many values and letters a reading holds, each counted each time it is reached (what is shared counts as often as it is met; a slice's spare places count too). A statement '..UptoSaid' is the law's where the arguments, and the package variables that the reading takes, are together of bulk at most 1048576: NARROWER than '..Said'. Prove '..Said' where nothing that the law and all that it calls make is longer than what came in: it says more and counts as full. Else prove '..UptoSaid'. A law counts once. -/
mutual
def uptoBulk {H : Type} : DataW H → Nat
  | .lit (.string bytes) => bytes.length + 1
  | .lit _ => 1
  | .nil => 1
  | .ptr d => uptoBulk d + 1
  | .slice elems spare => uptoBulkAll elems + uptoBulkAll spare + 1
  | .agg parts => uptoBulkAll parts + 1
  | .iface _ d => uptoBulk d + 1
  | .map entries => uptoBulkEntries entries + 1
  | .held _ => 1
def uptoBulkAll {H : Type} : List (DataW H) → Nat
  | [] => 0
  | d :: r => uptoBulk d + uptoBulkAll r
def uptoBulkEntries {H : Type} : List (Lit × DataW H) → Nat
  | [] => 0
  | x :: r => uptoBulkEntry x + uptoBulkEntries r
def uptoBulkEntry {H : Type} : Lit × DataW H → Nat
  | (.string bytes, d) => bytes.length + uptoBulk d + 1
  | (_, d) => uptoBulk d + 1
 end
def uptoSmall : (H : Type) → List (DataW H) → Bool := fun _ ds => decide (uptoBulkAll ds ≤ 1048576)
def OpenSpec.upto (s : _root_.Go.ChangeSpec) : _root_.Go.OpenSpec := { _root_.Go.OpenSpec.ofChange s with cond := some uptoSmall }

/-- 'laws.FnExactQuietSteps', WHERE WHAT IT READS IS OF BULK AT MOST 1048576: true; the input reads as it did. -/
def fnExactQuietStepsUptoRow : OpenClaim := { program := "ytmdflpfagbcaiaa", sum := "0bf7ace664f3b89e550b7073ac3233e7c4a5e7db2c8a06e0935e1d1daa07a2d7", func := "loop.example/g00833/laws.FnExactQuietSteps", spec := "fnExactQuietSteps", apart := false, narrowed := true }
def FnExactQuietStepsUptoSaid : Prop := fnExactQuietStepsUptoRow.holds Try.pinned (OpenSpec.upto fnExactQuietStepsSpec)

/-- 'laws.FnExactWithoutStarter', WHERE WHAT IT READS IS OF BULK AT MOST 1048576: true; the input reads as it did. -/
def fnExactWithoutStarterUptoRow : OpenClaim := { program := "ytmdflpfagbcaiaa", sum := "0bf7ace664f3b89e550b7073ac3233e7c4a5e7db2c8a06e0935e1d1daa07a2d7", func := "loop.example/g00833/laws.FnExactWithoutStarter", spec := "fnExactWithoutStarter", unfollowed := true, recurses := true, apart := false, narrowed := true }
def FnExactWithoutStarterUptoSaid : Prop := fnExactWithoutStarterUptoRow.holds Try.pinned (OpenSpec.upto fnExactWithoutStarterSpec)

/-- 'laws.FnLeaders', WHERE WHAT IT READS IS OF BULK AT MOST 1048576: true; the input reads as it did. -/
def fnLeadersUptoRow : OpenClaim := { program := "ytmdflpfagbcaiaa", sum := "0bf7ace664f3b89e550b7073ac3233e7c4a5e7db2c8a06e0935e1d1daa07a2d7", func := "loop.example/g00833/laws.FnLeaders", spec := "fnLeaders", unfollowed := true, recurses := true, apart := false, narrowed := true }
def FnLeadersUptoSaid : Prop := fnLeadersUptoRow.holds Try.pinned (OpenSpec.upto fnLeadersSpec)

/-- 'laws.FnTwoStarters', WHERE WHAT IT READS IS OF BULK AT MOST 1048576: true; the input reads as it did. -/
def fnTwoStartersUptoRow : OpenClaim := { program := "ytmdflpfagbcaiaa", sum := "0bf7ace664f3b89e550b7073ac3233e7c4a5e7db2c8a06e0935e1d1daa07a2d7", func := "loop.example/g00833/laws.FnTwoStarters", spec := "fnTwoStarters", unfollowed := true, recurses := true, apart := false, narrowed := true }
def FnTwoStartersUptoSaid : Prop := fnTwoStartersUptoRow.holds Try.pinned (OpenSpec.upto fnTwoStartersSpec)

/-- 'laws.FnJoined', WHERE WHAT IT READS IS OF BULK AT MOST 1048576: true; the input reads as it did. -/
def fnJoinedUptoRow : OpenClaim := { program := "ytmdflpfagbcaiaa", sum := "0bf7ace664f3b89e550b7073ac3233e7c4a5e7db2c8a06e0935e1d1daa07a2d7", func := "loop.example/g00833/laws.FnJoined", spec := "fnJoined", unfollowed := true, recurses := true, apart := false, narrowed := true }
def FnJoinedUptoSaid : Prop := fnJoinedUptoRow.holds Try.pinned (OpenSpec.upto fnJoinedSpec)

/-- 'laws.FnMerged', WHERE WHAT IT READS IS OF BULK AT MOST 1048576: true; the input reads as it did. -/
def fnMergedUptoRow : OpenClaim := { program := "ytmdflpfagbcaiaa", sum := "0bf7ace664f3b89e550b7073ac3233e7c4a5e7db2c8a06e0935e1d1daa07a2d7", func := "loop.example/g00833/laws.FnMerged", spec := "fnMerged", apart := false, narrowed := true }
def FnMergedUptoSaid : Prop := fnMergedUptoRow.holds Try.pinned (OpenSpec.upto fnMergedSpec)

/-- 'laws.FnExactMergeVerdicts', WHERE WHAT IT READS IS OF BULK AT MOST 1048576: true; the input reads as it did. -/
def fnExactMergeVerdictsUptoRow : OpenClaim := { program := "ytmdflpfagbcaiaa", sum := "0bf7ace664f3b89e550b7073ac3233e7c4a5e7db2c8a06e0935e1d1daa07a2d7", func := "loop.example/g00833/laws.FnExactMergeVerdicts", spec := "fnExactMergeVerdicts", apart := false, narrowed := true }
def FnExactMergeVerdictsUptoSaid : Prop := fnExactMergeVerdictsUptoRow.holds Try.pinned (OpenSpec.upto fnExactMergeVerdictsSpec)

/-- 'laws.FnExactCountStatuses', WHERE WHAT IT READS IS OF BULK AT MOST 1048576: true; the input reads as it did. -/
def fnExactCountStatusesUptoRow : OpenClaim := { program := "ytmdflpfagbcaiaa", sum := "0bf7ace664f3b89e550b7073ac3233e7c4a5e7db2c8a06e0935e1d1daa07a2d7", func := "loop.example/g00833/laws.FnExactCountStatuses", spec := "fnExactCountStatuses", unfollowed := true, recurses := true, apart := false, narrowed := true }
def FnExactCountStatusesUptoSaid : Prop := fnExactCountStatusesUptoRow.holds Try.pinned (OpenSpec.upto fnExactCountStatusesSpec)

/-- 'laws.FnExactMergeAll', WHERE WHAT IT READS IS OF BULK AT MOST 1048576: true; the input reads as it did. -/
def fnExactMergeAllUptoRow : OpenClaim := { program := "ytmdflpfagbcaiaa", sum := "0bf7ace664f3b89e550b7073ac3233e7c4a5e7db2c8a06e0935e1d1daa07a2d7", func := "loop.example/g00833/laws.FnExactMergeAll", spec := "fnExactMergeAll", unfollowed := true, recurses := true, apart := false, narrowed := true }
def FnExactMergeAllUptoSaid : Prop := fnExactMergeAllUptoRow.holds Try.pinned (OpenSpec.upto fnExactMergeAllSpec)

/-- 'laws.FnMergedAll', WHERE WHAT IT READS IS OF BULK AT MOST 1048576: true; the input reads as it did. -/
def fnMergedAllUptoRow : OpenClaim := { program := "ytmdflpfagbcaiaa", sum := "0bf7ace664f3b89e550b7073ac3233e7c4a5e7db2c8a06e0935e1d1daa07a2d7", func := "loop.example/g00833/laws.FnMergedAll", spec := "fnMergedAll", unfollowed := true, recurses := true, apart := false, narrowed := true }
def FnMergedAllUptoSaid : Prop := fnMergedAllUptoRow.holds Try.pinned (OpenSpec.upto fnMergedAllSpec)

/-- 'laws.FnExactToleratedMean', WHERE WHAT IT READS IS OF BULK AT MOST 1048576: true; the input reads as it did. -/
def fnExactToleratedMeanUptoRow : OpenClaim := { program := "ytmdflpfagbcaiaa", sum := "0bf7ace664f3b89e550b7073ac3233e7c4a5e7db2c8a06e0935e1d1daa07a2d7", func := "loop.example/g00833/laws.FnExactToleratedMean", spec := "fnExactToleratedMean", recurses := true, apart := false, narrowed := true }
def FnExactToleratedMeanUptoSaid : Prop := fnExactToleratedMeanUptoRow.holds Try.pinned (OpenSpec.upto fnExactToleratedMeanSpec)

end Rows
end Go.Proofs.Ytmdflpfagbcaiaa
