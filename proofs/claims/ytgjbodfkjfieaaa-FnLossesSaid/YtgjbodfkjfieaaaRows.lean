/-
  No cell of these rows narrows 'for every input' (looked for: loops, veiled, ifaces, maps, wideKeys, modest, calm, conditions, laid).
  DERIVED. THE GIVEN ROWS OF THIS SEAT. 12 by the template 'for every input the law returns true; each argument reads behind the call as it read before'; 0 by the template 'total and deterministic' (their statements: YtgjbodfkjfieaaaTotals.lean).
  GIVEN WITH THE SEED: the statements are not yours to turn. If you find one false, say at which input.
  Laid BY PROGRAM, IN A SANDBOX (cutbox-rows.mjs): the forced cells as the released guide's own fill.sh prints them over the translation dd8364ee0680af01… (all of the seat's roots in one cut). By AI agents, Wed Nov 11 2026. No macro, syntax, notation, axiom, sorry.
-/
import Derived.Test.YtgjbodfkjfieaaaChecked
import GoSem.Claim
import GoSem.ClaimJoined
import GoSem.ClaimMapViews
import Derived.JoinedTies
import Derived.KernelRfl
namespace Go.Proofs.Ytgjbodfkjfieaaa
/- THE CELL 'sum', in the pinned program and in every row, IS THE sha256 OF THE DUMP (.gsa) THAT YtgjbodfkjfieaaaProg.lean LOADS. Nothing in Lean hashes anything: it is a label: what it is worth is what the hold of that sum in a sandbox is worth. -/
noncomputable def Try.pinned : Pinned := { name := "ytgjbodfkjfieaaa", sum := "dd8364ee0680af011836b55b788045d643f8022ab466e53733978b75d0f31b1a", checked := Try.checked }
namespace Rows
def none {H : Type} : Left H := { results := [], args := [] }

/-- 'laws.FnExactWithoutStarter': WHATEVER THE INPUT: true; the input reads as it did. -/
def fnExactWithoutStarterSpec : ChangeSpec := { name := "fnExactWithoutStarter", fn := fun _ => fun
  | [d1, d2] => { results := [.lit (.bool true)], args := [d1, d2] }
  | _ => none }
def fnExactWithoutStarterRow : OpenClaim := { program := "ytgjbodfkjfieaaa", sum := "dd8364ee0680af011836b55b788045d643f8022ab466e53733978b75d0f31b1a", func := "loop.example/g00833/laws.FnExactWithoutStarter", spec := "fnExactWithoutStarter", unfollowed := true, recurses := true, apart := false }
def FnExactWithoutStarterSaid : Prop := fnExactWithoutStarterRow.holds Try.pinned (OpenSpec.ofChange fnExactWithoutStarterSpec)

/-- ITS FALSE NEIGHBOUR: 'it returns false'. Refute it at one input. -/
def fnExactWithoutStarterWrong : ChangeSpec := { name := "fnExactWithoutStarter", fn := fun _ => fun
  | [d1, d2] => { results := [.lit (.bool false)], args := [d1, d2] }
  | _ => none }
def FnExactWithoutStarterWrongFalsely : Prop := fnExactWithoutStarterRow.holds Try.pinned (OpenSpec.ofChange fnExactWithoutStarterWrong)

/-- 'laws.FnExactFirstStart': WHATEVER THE INPUT: true; the input reads as it did. -/
def fnExactFirstStartSpec : ChangeSpec := { name := "fnExactFirstStart", fn := fun _ => fun
  | [d] => { results := [.lit (.bool true)], args := [d] }
  | _ => none }
def fnExactFirstStartRow : OpenClaim := { program := "ytgjbodfkjfieaaa", sum := "dd8364ee0680af011836b55b788045d643f8022ab466e53733978b75d0f31b1a", func := "loop.example/g00833/laws.FnExactFirstStart", spec := "fnExactFirstStart", unfollowed := true, recurses := true, apart := false }
def FnExactFirstStartSaid : Prop := fnExactFirstStartRow.holds Try.pinned (OpenSpec.ofChange fnExactFirstStartSpec)

/-- ITS FALSE NEIGHBOUR: 'it returns false'. Refute it at one input. -/
def fnExactFirstStartWrong : ChangeSpec := { name := "fnExactFirstStart", fn := fun _ => fun
  | [d] => { results := [.lit (.bool false)], args := [d] }
  | _ => none }
def FnExactFirstStartWrongFalsely : Prop := fnExactFirstStartRow.holds Try.pinned (OpenSpec.ofChange fnExactFirstStartWrong)

/-- 'laws.FnExactLeaderOf': WHATEVER THE INPUT: true; the input reads as it did. -/
def fnExactLeaderOfSpec : ChangeSpec := { name := "fnExactLeaderOf", fn := fun _ => fun
  | [d] => { results := [.lit (.bool true)], args := [d] }
  | _ => none }
def fnExactLeaderOfRow : OpenClaim := { program := "ytgjbodfkjfieaaa", sum := "dd8364ee0680af011836b55b788045d643f8022ab466e53733978b75d0f31b1a", func := "loop.example/g00833/laws.FnExactLeaderOf", spec := "fnExactLeaderOf", unfollowed := true, recurses := true, apart := false }
def FnExactLeaderOfSaid : Prop := fnExactLeaderOfRow.holds Try.pinned (OpenSpec.ofChange fnExactLeaderOfSpec)

/-- ITS FALSE NEIGHBOUR: 'it returns false'. Refute it at one input. -/
def fnExactLeaderOfWrong : ChangeSpec := { name := "fnExactLeaderOf", fn := fun _ => fun
  | [d] => { results := [.lit (.bool false)], args := [d] }
  | _ => none }
def FnExactLeaderOfWrongFalsely : Prop := fnExactLeaderOfRow.holds Try.pinned (OpenSpec.ofChange fnExactLeaderOfWrong)

/-- 'laws.FnLosses': WHATEVER THE INPUT: true; the input reads as it did. -/
def fnLossesSpec : ChangeSpec := { name := "fnLosses", fn := fun _ => fun
  | [d] => { results := [.lit (.bool true)], args := [d] }
  | _ => none }
def fnLossesRow : OpenClaim := { program := "ytgjbodfkjfieaaa", sum := "dd8364ee0680af011836b55b788045d643f8022ab466e53733978b75d0f31b1a", func := "loop.example/g00833/laws.FnLosses", spec := "fnLosses", unfollowed := true, recurses := true, apart := false }
def FnLossesSaid : Prop := fnLossesRow.holds Try.pinned (OpenSpec.ofChange fnLossesSpec)

/-- ITS FALSE NEIGHBOUR: 'it returns false'. Refute it at one input. -/
def fnLossesWrong : ChangeSpec := { name := "fnLosses", fn := fun _ => fun
  | [d] => { results := [.lit (.bool false)], args := [d] }
  | _ => none }
def FnLossesWrongFalsely : Prop := fnLossesRow.holds Try.pinned (OpenSpec.ofChange fnLossesWrong)

/-- 'laws.FnExactDueTimes': WHATEVER THE INPUT: true; the input reads as it did. -/
def fnExactDueTimesSpec : ChangeSpec := { name := "fnExactDueTimes", fn := fun _ => fun
  | [d1, d2] => { results := [.lit (.bool true)], args := [d1, d2] }
  | _ => none }
def fnExactDueTimesRow : OpenClaim := { program := "ytgjbodfkjfieaaa", sum := "dd8364ee0680af011836b55b788045d643f8022ab466e53733978b75d0f31b1a", func := "loop.example/g00833/laws.FnExactDueTimes", spec := "fnExactDueTimes", unfollowed := true, recurses := true, apart := false }
def FnExactDueTimesSaid : Prop := fnExactDueTimesRow.holds Try.pinned (OpenSpec.ofChange fnExactDueTimesSpec)

/-- ITS FALSE NEIGHBOUR: 'it returns false'. Refute it at one input. -/
def fnExactDueTimesWrong : ChangeSpec := { name := "fnExactDueTimes", fn := fun _ => fun
  | [d1, d2] => { results := [.lit (.bool false)], args := [d1, d2] }
  | _ => none }
def FnExactDueTimesWrongFalsely : Prop := fnExactDueTimesRow.holds Try.pinned (OpenSpec.ofChange fnExactDueTimesWrong)

/-- 'laws.FnLeaders': WHATEVER THE INPUT: true; the input reads as it did. -/
def fnLeadersSpec : ChangeSpec := { name := "fnLeaders", fn := fun _ => fun
  | [d] => { results := [.lit (.bool true)], args := [d] }
  | _ => none }
def fnLeadersRow : OpenClaim := { program := "ytgjbodfkjfieaaa", sum := "dd8364ee0680af011836b55b788045d643f8022ab466e53733978b75d0f31b1a", func := "loop.example/g00833/laws.FnLeaders", spec := "fnLeaders", unfollowed := true, recurses := true, apart := false }
def FnLeadersSaid : Prop := fnLeadersRow.holds Try.pinned (OpenSpec.ofChange fnLeadersSpec)

/-- ITS FALSE NEIGHBOUR: 'it returns false'. Refute it at one input. -/
def fnLeadersWrong : ChangeSpec := { name := "fnLeaders", fn := fun _ => fun
  | [d] => { results := [.lit (.bool false)], args := [d] }
  | _ => none }
def FnLeadersWrongFalsely : Prop := fnLeadersRow.holds Try.pinned (OpenSpec.ofChange fnLeadersWrong)

/-- 'laws.FnTwoStarters': WHATEVER THE INPUT: true; the input reads as it did. -/
def fnTwoStartersSpec : ChangeSpec := { name := "fnTwoStarters", fn := fun _ => fun
  | [d] => { results := [.lit (.bool true)], args := [d] }
  | _ => none }
def fnTwoStartersRow : OpenClaim := { program := "ytgjbodfkjfieaaa", sum := "dd8364ee0680af011836b55b788045d643f8022ab466e53733978b75d0f31b1a", func := "loop.example/g00833/laws.FnTwoStarters", spec := "fnTwoStarters", unfollowed := true, recurses := true, apart := false }
def FnTwoStartersSaid : Prop := fnTwoStartersRow.holds Try.pinned (OpenSpec.ofChange fnTwoStartersSpec)

/-- ITS FALSE NEIGHBOUR: 'it returns false'. Refute it at one input. -/
def fnTwoStartersWrong : ChangeSpec := { name := "fnTwoStarters", fn := fun _ => fun
  | [d] => { results := [.lit (.bool false)], args := [d] }
  | _ => none }
def FnTwoStartersWrongFalsely : Prop := fnTwoStartersRow.holds Try.pinned (OpenSpec.ofChange fnTwoStartersWrong)

/-- 'laws.FnExactJoinTimes': WHATEVER THE INPUT: true; the input reads as it did. -/
def fnExactJoinTimesSpec : ChangeSpec := { name := "fnExactJoinTimes", fn := fun _ => fun
  | [d1, d2] => { results := [.lit (.bool true)], args := [d1, d2] }
  | _ => none }
def fnExactJoinTimesRow : OpenClaim := { program := "ytgjbodfkjfieaaa", sum := "dd8364ee0680af011836b55b788045d643f8022ab466e53733978b75d0f31b1a", func := "loop.example/g00833/laws.FnExactJoinTimes", spec := "fnExactJoinTimes", unfollowed := true, recurses := true, apart := false }
def FnExactJoinTimesSaid : Prop := fnExactJoinTimesRow.holds Try.pinned (OpenSpec.ofChange fnExactJoinTimesSpec)

/-- ITS FALSE NEIGHBOUR: 'it returns false'. Refute it at one input. -/
def fnExactJoinTimesWrong : ChangeSpec := { name := "fnExactJoinTimes", fn := fun _ => fun
  | [d1, d2] => { results := [.lit (.bool false)], args := [d1, d2] }
  | _ => none }
def FnExactJoinTimesWrongFalsely : Prop := fnExactJoinTimesRow.holds Try.pinned (OpenSpec.ofChange fnExactJoinTimesWrong)

/-- 'laws.FnExactIsAgreement': WHATEVER THE INPUT: true; the input reads as it did. -/
def fnExactIsAgreementSpec : ChangeSpec := { name := "fnExactIsAgreement", fn := fun _ => fun
  | [d] => { results := [.lit (.bool true)], args := [d] }
  | _ => none }
def fnExactIsAgreementRow : OpenClaim := { program := "ytgjbodfkjfieaaa", sum := "dd8364ee0680af011836b55b788045d643f8022ab466e53733978b75d0f31b1a", func := "loop.example/g00833/laws.FnExactIsAgreement", spec := "fnExactIsAgreement", unfollowed := true, recurses := true, apart := false }
def FnExactIsAgreementSaid : Prop := fnExactIsAgreementRow.holds Try.pinned (OpenSpec.ofChange fnExactIsAgreementSpec)

/-- ITS FALSE NEIGHBOUR: 'it returns false'. Refute it at one input. -/
def fnExactIsAgreementWrong : ChangeSpec := { name := "fnExactIsAgreement", fn := fun _ => fun
  | [d] => { results := [.lit (.bool false)], args := [d] }
  | _ => none }
def FnExactIsAgreementWrongFalsely : Prop := fnExactIsAgreementRow.holds Try.pinned (OpenSpec.ofChange fnExactIsAgreementWrong)

/-- 'laws.FnJoined': WHATEVER THE INPUT: true; the input reads as it did. -/
def fnJoinedSpec : ChangeSpec := { name := "fnJoined", fn := fun _ => fun
  | [d] => { results := [.lit (.bool true)], args := [d] }
  | _ => none }
def fnJoinedRow : OpenClaim := { program := "ytgjbodfkjfieaaa", sum := "dd8364ee0680af011836b55b788045d643f8022ab466e53733978b75d0f31b1a", func := "loop.example/g00833/laws.FnJoined", spec := "fnJoined", unfollowed := true, recurses := true, apart := false }
def FnJoinedSaid : Prop := fnJoinedRow.holds Try.pinned (OpenSpec.ofChange fnJoinedSpec)

/-- ITS FALSE NEIGHBOUR: 'it returns false'. Refute it at one input. -/
def fnJoinedWrong : ChangeSpec := { name := "fnJoined", fn := fun _ => fun
  | [d] => { results := [.lit (.bool false)], args := [d] }
  | _ => none }
def FnJoinedWrongFalsely : Prop := fnJoinedRow.holds Try.pinned (OpenSpec.ofChange fnJoinedWrong)

/-- 'laws.FnMerged': WHATEVER THE INPUT: true; the input reads as it did. -/
def fnMergedSpec : ChangeSpec := { name := "fnMerged", fn := fun _ => fun
  | [d] => { results := [.lit (.bool true)], args := [d] }
  | _ => none }
def fnMergedRow : OpenClaim := { program := "ytgjbodfkjfieaaa", sum := "dd8364ee0680af011836b55b788045d643f8022ab466e53733978b75d0f31b1a", func := "loop.example/g00833/laws.FnMerged", spec := "fnMerged", apart := false }
def FnMergedSaid : Prop := fnMergedRow.holds Try.pinned (OpenSpec.ofChange fnMergedSpec)

/-- ITS FALSE NEIGHBOUR: 'it returns false'. Refute it at one input. -/
def fnMergedWrong : ChangeSpec := { name := "fnMerged", fn := fun _ => fun
  | [d] => { results := [.lit (.bool false)], args := [d] }
  | _ => none }
def FnMergedWrongFalsely : Prop := fnMergedRow.holds Try.pinned (OpenSpec.ofChange fnMergedWrong)

/-- 'laws.FnExactMergeVerdicts': WHATEVER THE INPUT: true; the input reads as it did. -/
def fnExactMergeVerdictsSpec : ChangeSpec := { name := "fnExactMergeVerdicts", fn := fun _ => fun
  | [d1, d2] => { results := [.lit (.bool true)], args := [d1, d2] }
  | _ => none }
def fnExactMergeVerdictsRow : OpenClaim := { program := "ytgjbodfkjfieaaa", sum := "dd8364ee0680af011836b55b788045d643f8022ab466e53733978b75d0f31b1a", func := "loop.example/g00833/laws.FnExactMergeVerdicts", spec := "fnExactMergeVerdicts", apart := false }
def FnExactMergeVerdictsSaid : Prop := fnExactMergeVerdictsRow.holds Try.pinned (OpenSpec.ofChange fnExactMergeVerdictsSpec)

/-- ITS FALSE NEIGHBOUR: 'it returns false'. Refute it at one input. -/
def fnExactMergeVerdictsWrong : ChangeSpec := { name := "fnExactMergeVerdicts", fn := fun _ => fun
  | [d1, d2] => { results := [.lit (.bool false)], args := [d1, d2] }
  | _ => none }
def FnExactMergeVerdictsWrongFalsely : Prop := fnExactMergeVerdictsRow.holds Try.pinned (OpenSpec.ofChange fnExactMergeVerdictsWrong)

/- THE SECOND FORM. 'bulk': how many values and letters a reading holds, each counted each time it is reached (what is shared counts as often as it is met; a slice's spare places count too). A statement '..UptoSaid' is the law's where the arguments, and the package variables that the reading takes, are together of bulk at most 1048576: NARROWER than '..Said'. Prove '..Said' where nothing that the law and all that it calls make is longer than what came in: it says more and counts as full. Else prove '..UptoSaid'. A law counts once. -/
mutual
def uptoBulk {H : Type} : DataW H → Nat
  | .lit (.string bytes) => bytes.length + 1
  | .lit _ => 1
  | .nil => 1
  | .ptr d => uptoBulk d + 1
  | .slice elems spare => uptoBulkAll elems + uptoBulkAll spare + 1
  | .agg parts => uptoBulkAll parts + 1
  | .iface _ d => uptoBulk d + 1
  | .map entries => uptoBulkEntries entries + 1
  | .held _ => 1
def uptoBulkAll {H : Type} : List (DataW H) → Nat
  | [] => 0
  | d :: r => uptoBulk d + uptoBulkAll r
def uptoBulkEntries {H : Type} : List (Lit × DataW H) → Nat
  | [] => 0
  | x :: r => uptoBulkEntry x + uptoBulkEntries r
def uptoBulkEntry {H : Type} : Lit × DataW H → Nat
  | (.string bytes, d) => bytes.length + uptoBulk d + 1
  | (_, d) => uptoBulk d + 1
 end
def uptoSmall : (H : Type) → List (DataW H) → Bool := fun _ ds => decide (uptoBulkAll ds ≤ 1048576)
def OpenSpec.upto (s : _root_.Go.ChangeSpec) : _root_.Go.OpenSpec := { _root_.Go.OpenSpec.ofChange s with cond := some uptoSmall }

/-- 'laws.FnExactWithoutStarter', WHERE WHAT IT READS IS OF BULK AT MOST 1048576: true; the input reads as it did. -/
def fnExactWithoutStarterUptoRow : OpenClaim := { program := "ytgjbodfkjfieaaa", sum := "dd8364ee0680af011836b55b788045d643f8022ab466e53733978b75d0f31b1a", func := "loop.example/g00833/laws.FnExactWithoutStarter", spec := "fnExactWithoutStarter", unfollowed := true, recurses := true, apart := false, narrowed := true }
def FnExactWithoutStarterUptoSaid : Prop := fnExactWithoutStarterUptoRow.holds Try.pinned (OpenSpec.upto fnExactWithoutStarterSpec)

/-- 'laws.FnExactFirstStart', WHERE WHAT IT READS IS OF BULK AT MOST 1048576: true; the input reads as it did. -/
def fnExactFirstStartUptoRow : OpenClaim := { program := "ytgjbodfkjfieaaa", sum := "dd8364ee0680af011836b55b788045d643f8022ab466e53733978b75d0f31b1a", func := "loop.example/g00833/laws.FnExactFirstStart", spec := "fnExactFirstStart", unfollowed := true, recurses := true, apart := false, narrowed := true }
def FnExactFirstStartUptoSaid : Prop := fnExactFirstStartUptoRow.holds Try.pinned (OpenSpec.upto fnExactFirstStartSpec)

/-- 'laws.FnExactLeaderOf', WHERE WHAT IT READS IS OF BULK AT MOST 1048576: true; the input reads as it did. -/
def fnExactLeaderOfUptoRow : OpenClaim := { program := "ytgjbodfkjfieaaa", sum := "dd8364ee0680af011836b55b788045d643f8022ab466e53733978b75d0f31b1a", func := "loop.example/g00833/laws.FnExactLeaderOf", spec := "fnExactLeaderOf", unfollowed := true, recurses := true, apart := false, narrowed := true }
def FnExactLeaderOfUptoSaid : Prop := fnExactLeaderOfUptoRow.holds Try.pinned (OpenSpec.upto fnExactLeaderOfSpec)

/-- 'laws.FnLosses', WHERE WHAT IT READS IS OF BULK AT MOST 1048576: true; the input reads as it did. -/
def fnLossesUptoRow : OpenClaim := { program := "ytgjbodfkjfieaaa", sum := "dd8364ee0680af011836b55b788045d643f8022ab466e53733978b75d0f31b1a", func := "loop.example/g00833/laws.FnLosses", spec := "fnLosses", unfollowed := true, recurses := true, apart := false, narrowed := true }
def FnLossesUptoSaid : Prop := fnLossesUptoRow.holds Try.pinned (OpenSpec.upto fnLossesSpec)

/-- 'laws.FnExactDueTimes', WHERE WHAT IT READS IS OF BULK AT MOST 1048576: true; the input reads as it did. -/
def fnExactDueTimesUptoRow : OpenClaim := { program := "ytgjbodfkjfieaaa", sum := "dd8364ee0680af011836b55b788045d643f8022ab466e53733978b75d0f31b1a", func := "loop.example/g00833/laws.FnExactDueTimes", spec := "fnExactDueTimes", unfollowed := true, recurses := true, apart := false, narrowed := true }
def FnExactDueTimesUptoSaid : Prop := fnExactDueTimesUptoRow.holds Try.pinned (OpenSpec.upto fnExactDueTimesSpec)

/-- 'laws.FnLeaders', WHERE WHAT IT READS IS OF BULK AT MOST 1048576: true; the input reads as it did. -/
def fnLeadersUptoRow : OpenClaim := { program := "ytgjbodfkjfieaaa", sum := "dd8364ee0680af011836b55b788045d643f8022ab466e53733978b75d0f31b1a", func := "loop.example/g00833/laws.FnLeaders", spec := "fnLeaders", unfollowed := true, recurses := true, apart := false, narrowed := true }
def FnLeadersUptoSaid : Prop := fnLeadersUptoRow.holds Try.pinned (OpenSpec.upto fnLeadersSpec)

/-- 'laws.FnTwoStarters', WHERE WHAT IT READS IS OF BULK AT MOST 1048576: true; the input reads as it did. -/
def fnTwoStartersUptoRow : OpenClaim := { program := "ytgjbodfkjfieaaa", sum := "dd8364ee0680af011836b55b788045d643f8022ab466e53733978b75d0f31b1a", func := "loop.example/g00833/laws.FnTwoStarters", spec := "fnTwoStarters", unfollowed := true, recurses := true, apart := false, narrowed := true }
def FnTwoStartersUptoSaid : Prop := fnTwoStartersUptoRow.holds Try.pinned (OpenSpec.upto fnTwoStartersSpec)

/-- 'laws.FnExactJoinTimes', WHERE WHAT IT READS IS OF BULK AT MOST 1048576: true; the input reads as it did. -/
def fnExactJoinTimesUptoRow : OpenClaim := { program := "ytgjbodfkjfieaaa", sum := "dd8364ee0680af011836b55b788045d643f8022ab466e53733978b75d0f31b1a", func := "loop.example/g00833/laws.FnExactJoinTimes", spec := "fnExactJoinTimes", unfollowed := true, recurses := true, apart := false, narrowed := true }
def FnExactJoinTimesUptoSaid : Prop := fnExactJoinTimesUptoRow.holds Try.pinned (OpenSpec.upto fnExactJoinTimesSpec)

/-- 'laws.FnExactIsAgreement', WHERE WHAT IT READS IS OF BULK AT MOST 1048576: true; the input reads as it did. -/
def fnExactIsAgreementUptoRow : OpenClaim := { program := "ytgjbodfkjfieaaa", sum := "dd8364ee0680af011836b55b788045d643f8022ab466e53733978b75d0f31b1a", func := "loop.example/g00833/laws.FnExactIsAgreement", spec := "fnExactIsAgreement", unfollowed := true, recurses := true, apart := false, narrowed := true }
def FnExactIsAgreementUptoSaid : Prop := fnExactIsAgreementUptoRow.holds Try.pinned (OpenSpec.upto fnExactIsAgreementSpec)

/-- 'laws.FnJoined', WHERE WHAT IT READS IS OF BULK AT MOST 1048576: true; the input reads as it did. -/
def fnJoinedUptoRow : OpenClaim := { program := "ytgjbodfkjfieaaa", sum := "dd8364ee0680af011836b55b788045d643f8022ab466e53733978b75d0f31b1a", func := "loop.example/g00833/laws.FnJoined", spec := "fnJoined", unfollowed := true, recurses := true, apart := false, narrowed := true }
def FnJoinedUptoSaid : Prop := fnJoinedUptoRow.holds Try.pinned (OpenSpec.upto fnJoinedSpec)

/-- 'laws.FnMerged', WHERE WHAT IT READS IS OF BULK AT MOST 1048576: true; the input reads as it did. -/
def fnMergedUptoRow : OpenClaim := { program := "ytgjbodfkjfieaaa", sum := "dd8364ee0680af011836b55b788045d643f8022ab466e53733978b75d0f31b1a", func := "loop.example/g00833/laws.FnMerged", spec := "fnMerged", apart := false, narrowed := true }
def FnMergedUptoSaid : Prop := fnMergedUptoRow.holds Try.pinned (OpenSpec.upto fnMergedSpec)

/-- 'laws.FnExactMergeVerdicts', WHERE WHAT IT READS IS OF BULK AT MOST 1048576: true; the input reads as it did. -/
def fnExactMergeVerdictsUptoRow : OpenClaim := { program := "ytgjbodfkjfieaaa", sum := "dd8364ee0680af011836b55b788045d643f8022ab466e53733978b75d0f31b1a", func := "loop.example/g00833/laws.FnExactMergeVerdicts", spec := "fnExactMergeVerdicts", apart := false, narrowed := true }
def FnExactMergeVerdictsUptoSaid : Prop := fnExactMergeVerdictsUptoRow.holds Try.pinned (OpenSpec.upto fnExactMergeVerdictsSpec)

end Rows
end Go.Proofs.Ytgjbodfkjfieaaa
