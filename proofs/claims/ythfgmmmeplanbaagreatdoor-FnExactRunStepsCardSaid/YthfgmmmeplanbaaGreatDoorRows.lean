/-
  NARROWER THAN 'FOR EVERY INPUT', by the rows' own cells (each row's printed sentence says how): FnExactSendBoth: laid · FnExactSurvivesSteps: laid · FnExactStepOnce: laid · FnExactTraceSteps: laid · FnExactRunSteps: laid.
  DERIVED. THE GIVEN ROWS OF THIS SEAT. 5 by the template 'for every input the law returns true; each argument reads behind the call as it read before'; 0 by the template 'total and deterministic' (their statements: YthfgmmmeplanbaaGreatDoorTotals.lean).
  GIVEN WITH THE SEED: the statements are not yours to turn. If you find one false, say at which input.
  Laid BY PROGRAM, IN A SANDBOX (cutbox-rows.mjs): the forced cells as the released guide's own fill.sh prints them over the translation e527cc5390cbdd28… (all of the seat's roots in one cut). By AI agents, Wed Nov 11 2026. No macro, syntax, notation, axiom, sorry.
-/
import Derived.Test.YthfgmmmeplanbaaGreatDoorChecked
import GoSem.PinnedTables
import GoSem.Claim
import GoSem.ClaimJoined
import GoSem.ClaimMapViews
import Derived.JoinedTies
import Derived.KernelRfl
namespace Go.Proofs.YthfgmmmeplanbaaGreatDoor
/- THE CELL 'sum', in the pinned program and in every row, IS THE sha256 OF THE DUMP (.gsa) THAT YthfgmmmeplanbaaGreatDoorProg.lean LOADS. Nothing in Lean hashes anything: it is a label: what it is worth is what the hold of that sum in a sandbox is worth. -/
noncomputable def Tryz.pinned : Pinned := { name := "ythfgmmmeplanbaagreatdoor", sum := "e527cc5390cbdd28e865e85f9549fc427cf9839a8dc75202be4f01d723348e1d", checked := Tryz.checked }
namespace Rows
def none {H : Type} : Left H := { results := [], args := [] }

/- WHAT THE LISTED PACKAGE-LEVEL VARIABLES READ AS WHEN THE CALL BEGINS. Each datum BY PROGRAM (the guide's laid-datum.mjs) off the statement by which the dump's own 'gosem.cut.vars' lays the variable. In a bare row this is a premise. The card (YthfgmmmeplanbaaGreatDoorCards.lean) ties it to the program's text. -/
def laid_unicode_utf8_acceptRanges {H : Type} : DataW H := .agg [.agg [.lit (.int .u8 128), .lit (.int .u8 191)], .agg [.lit (.int .u8 160), .lit (.int .u8 191)], .agg [.lit (.int .u8 128), .lit (.int .u8 159)], .agg [.lit (.int .u8 144), .lit (.int .u8 191)], .agg [.lit (.int .u8 128), .lit (.int .u8 143)], .agg [.lit (.int .u8 0), .lit (.int .u8 0)], .agg [.lit (.int .u8 0), .lit (.int .u8 0)], .agg [.lit (.int .u8 0), .lit (.int .u8 0)], .agg [.lit (.int .u8 0), .lit (.int .u8 0)], .agg [.lit (.int .u8 0), .lit (.int .u8 0)], .agg [.lit (.int .u8 0), .lit (.int .u8 0)], .agg [.lit (.int .u8 0), .lit (.int .u8 0)], .agg [.lit (.int .u8 0), .lit (.int .u8 0)], .agg [.lit (.int .u8 0), .lit (.int .u8 0)], .agg [.lit (.int .u8 0), .lit (.int .u8 0)], .agg [.lit (.int .u8 0), .lit (.int .u8 0)]]
/-- One of Go's own tables, pinned by name: the form's constant. -/
def laid_unicode_utf8_first : DataW Unit := Go.Pinned.utf8First

/-- 'laws.FnExactSendBoth': WHATEVER THE INPUT: true; the input reads as it did. -/
def fnExactSendBothSpec : ChangeSpec := { name := "fnExactSendBoth", fn := fun _ => fun
  | [d1, d2, d3, d4, d5] => { results := [.lit (.bool true)], args := [d1, d2, d3, d4, d5] }
  | _ => none }
def fnExactSendBothRow : OpenClaim := { program := "ythfgmmmeplanbaagreatdoor", sum := "e527cc5390cbdd28e865e85f9549fc427cf9839a8dc75202be4f01d723348e1d", func := "loop.example/g00833/laws.FnExactSendBoth", spec := "fnExactSendBoth", inPlace := ["internal/bytealg.IndexByteString", "internal/bytealg.IndexString", "slices.overlaps[int64]"], unfollowed := true, recurses := true, named := ["unicode/utf8.first", "unicode/utf8.acceptRanges", "internal/bytealg.MaxLen"], apart := false, laid := [("unicode/utf8.acceptRanges", laid_unicode_utf8_acceptRanges), ("unicode/utf8.first", laid_unicode_utf8_first)] }
def FnExactSendBothSaid : Prop := fnExactSendBothRow.holds Tryz.pinned (OpenSpec.ofChange fnExactSendBothSpec)

/-- ITS FALSE NEIGHBOUR: 'it returns false'. Refute it at one input. -/
def fnExactSendBothWrong : ChangeSpec := { name := "fnExactSendBoth", fn := fun _ => fun
  | [d1, d2, d3, d4, d5] => { results := [.lit (.bool false)], args := [d1, d2, d3, d4, d5] }
  | _ => none }
def FnExactSendBothWrongFalsely : Prop := fnExactSendBothRow.holds Tryz.pinned (OpenSpec.ofChange fnExactSendBothWrong)

/-- 'laws.FnExactSurvivesSteps': WHATEVER THE INPUT: true; the input reads as it did. -/
def fnExactSurvivesStepsSpec : ChangeSpec := { name := "fnExactSurvivesSteps", fn := fun _ => fun
  | [d1, d2, d3] => { results := [.lit (.bool true)], args := [d1, d2, d3] }
  | _ => none }
def fnExactSurvivesStepsRow : OpenClaim := { program := "ythfgmmmeplanbaagreatdoor", sum := "e527cc5390cbdd28e865e85f9549fc427cf9839a8dc75202be4f01d723348e1d", func := "loop.example/g00833/laws.FnExactSurvivesSteps", spec := "fnExactSurvivesSteps", inPlace := ["internal/bytealg.IndexByteString", "internal/bytealg.IndexString", "slices.overlaps[int64]"], unfollowed := true, recurses := true, named := ["unicode/utf8.first", "unicode/utf8.acceptRanges", "internal/bytealg.MaxLen"], apart := false, laid := [("unicode/utf8.acceptRanges", laid_unicode_utf8_acceptRanges), ("unicode/utf8.first", laid_unicode_utf8_first)] }
def FnExactSurvivesStepsSaid : Prop := fnExactSurvivesStepsRow.holds Tryz.pinned (OpenSpec.ofChange fnExactSurvivesStepsSpec)

/-- ITS FALSE NEIGHBOUR: 'it returns false'. Refute it at one input. -/
def fnExactSurvivesStepsWrong : ChangeSpec := { name := "fnExactSurvivesSteps", fn := fun _ => fun
  | [d1, d2, d3] => { results := [.lit (.bool false)], args := [d1, d2, d3] }
  | _ => none }
def FnExactSurvivesStepsWrongFalsely : Prop := fnExactSurvivesStepsRow.holds Tryz.pinned (OpenSpec.ofChange fnExactSurvivesStepsWrong)

/-- 'laws.FnExactStepOnce': WHATEVER THE INPUT: true; the input reads as it did. -/
def fnExactStepOnceSpec : ChangeSpec := { name := "fnExactStepOnce", fn := fun _ => fun
  | [d1, d2, d3] => { results := [.lit (.bool true)], args := [d1, d2, d3] }
  | _ => none }
def fnExactStepOnceRow : OpenClaim := { program := "ythfgmmmeplanbaagreatdoor", sum := "e527cc5390cbdd28e865e85f9549fc427cf9839a8dc75202be4f01d723348e1d", func := "loop.example/g00833/laws.FnExactStepOnce", spec := "fnExactStepOnce", inPlace := ["internal/bytealg.IndexByteString", "internal/bytealg.IndexString", "slices.overlaps[int64]"], unfollowed := true, recurses := true, named := ["unicode/utf8.first", "unicode/utf8.acceptRanges", "internal/bytealg.MaxLen"], apart := false, laid := [("unicode/utf8.acceptRanges", laid_unicode_utf8_acceptRanges), ("unicode/utf8.first", laid_unicode_utf8_first)] }
def FnExactStepOnceSaid : Prop := fnExactStepOnceRow.holds Tryz.pinned (OpenSpec.ofChange fnExactStepOnceSpec)

/-- ITS FALSE NEIGHBOUR: 'it returns false'. Refute it at one input. -/
def fnExactStepOnceWrong : ChangeSpec := { name := "fnExactStepOnce", fn := fun _ => fun
  | [d1, d2, d3] => { results := [.lit (.bool false)], args := [d1, d2, d3] }
  | _ => none }
def FnExactStepOnceWrongFalsely : Prop := fnExactStepOnceRow.holds Tryz.pinned (OpenSpec.ofChange fnExactStepOnceWrong)

/-- 'laws.FnExactTraceSteps': WHATEVER THE INPUT: true; the input reads as it did. -/
def fnExactTraceStepsSpec : ChangeSpec := { name := "fnExactTraceSteps", fn := fun _ => fun
  | [d1, d2, d3] => { results := [.lit (.bool true)], args := [d1, d2, d3] }
  | _ => none }
def fnExactTraceStepsRow : OpenClaim := { program := "ythfgmmmeplanbaagreatdoor", sum := "e527cc5390cbdd28e865e85f9549fc427cf9839a8dc75202be4f01d723348e1d", func := "loop.example/g00833/laws.FnExactTraceSteps", spec := "fnExactTraceSteps", inPlace := ["internal/bytealg.IndexByteString", "internal/bytealg.IndexString", "slices.overlaps[int64]"], unfollowed := true, recurses := true, named := ["unicode/utf8.first", "unicode/utf8.acceptRanges", "internal/bytealg.MaxLen"], apart := false, laid := [("unicode/utf8.acceptRanges", laid_unicode_utf8_acceptRanges), ("unicode/utf8.first", laid_unicode_utf8_first)] }
def FnExactTraceStepsSaid : Prop := fnExactTraceStepsRow.holds Tryz.pinned (OpenSpec.ofChange fnExactTraceStepsSpec)

/-- ITS FALSE NEIGHBOUR: 'it returns false'. Refute it at one input. -/
def fnExactTraceStepsWrong : ChangeSpec := { name := "fnExactTraceSteps", fn := fun _ => fun
  | [d1, d2, d3] => { results := [.lit (.bool false)], args := [d1, d2, d3] }
  | _ => none }
def FnExactTraceStepsWrongFalsely : Prop := fnExactTraceStepsRow.holds Tryz.pinned (OpenSpec.ofChange fnExactTraceStepsWrong)

/-- 'laws.FnExactRunSteps': WHATEVER THE INPUT: true; the input reads as it did. -/
def fnExactRunStepsSpec : ChangeSpec := { name := "fnExactRunSteps", fn := fun _ => fun
  | [d1, d2, d3] => { results := [.lit (.bool true)], args := [d1, d2, d3] }
  | _ => none }
def fnExactRunStepsRow : OpenClaim := { program := "ythfgmmmeplanbaagreatdoor", sum := "e527cc5390cbdd28e865e85f9549fc427cf9839a8dc75202be4f01d723348e1d", func := "loop.example/g00833/laws.FnExactRunSteps", spec := "fnExactRunSteps", inPlace := ["internal/bytealg.IndexByteString", "internal/bytealg.IndexString", "slices.overlaps[int64]"], unfollowed := true, recurses := true, named := ["unicode/utf8.first", "unicode/utf8.acceptRanges", "internal/bytealg.MaxLen"], apart := false, laid := [("unicode/utf8.acceptRanges", laid_unicode_utf8_acceptRanges), ("unicode/utf8.first", laid_unicode_utf8_first)] }
def FnExactRunStepsSaid : Prop := fnExactRunStepsRow.holds Tryz.pinned (OpenSpec.ofChange fnExactRunStepsSpec)

/-- ITS FALSE NEIGHBOUR: 'it returns false'. Refute it at one input. -/
def fnExactRunStepsWrong : ChangeSpec := { name := "fnExactRunSteps", fn := fun _ => fun
  | [d1, d2, d3] => { results := [.lit (.bool false)], args := [d1, d2, d3] }
  | _ => none }
def FnExactRunStepsWrongFalsely : Prop := fnExactRunStepsRow.holds Tryz.pinned (OpenSpec.ofChange fnExactRunStepsWrong)

/- THE SECOND FORM. 'bulk': how many values and letters a reading holds, each counted each time it is reached (what is shared counts as often as it is met; a slice's spare places count too). A statement '..UptoSaid' is the law's where the arguments, and the package variables that the reading takes, are together of bulk at most 1048576: NARROWER than '..Said'. Prove '..Said' where nothing that the law and all that it calls make is longer than what came in: it says more and counts as full. Else prove '..UptoSaid'. A law counts once. -/
mutual
def uptoBulk {H : Type} : DataW H → Nat
  | .lit (.string bytes) => bytes.length + 1
  | .lit _ => 1
  | .nil => 1
  | .ptr d => uptoBulk d + 1
  | .slice elems spare => uptoBulkAll elems + uptoBulkAll spare + 1
  | .agg parts => uptoBulkAll parts + 1
  | .iface _ d => uptoBulk d + 1
  | .map entries => uptoBulkEntries entries + 1
  | .held _ => 1
def uptoBulkAll {H : Type} : List (DataW H) → Nat
  | [] => 0
  | d :: r => uptoBulk d + uptoBulkAll r
def uptoBulkEntries {H : Type} : List (Lit × DataW H) → Nat
  | [] => 0
  | x :: r => uptoBulkEntry x + uptoBulkEntries r
def uptoBulkEntry {H : Type} : Lit × DataW H → Nat
  | (.string bytes, d) => bytes.length + uptoBulk d + 1
  | (_, d) => uptoBulk d + 1
 end
def uptoSmall : (H : Type) → List (DataW H) → Bool := fun _ ds => decide (uptoBulkAll ds ≤ 1048576)
def OpenSpec.upto (s : _root_.Go.ChangeSpec) : _root_.Go.OpenSpec := { _root_.Go.OpenSpec.ofChange s with cond := some uptoSmall }

/-- 'laws.FnExactSendBoth', WHERE WHAT IT READS IS OF BULK AT MOST 1048576: true; the input reads as it did. -/
def fnExactSendBothUptoRow : OpenClaim := { program := "ythfgmmmeplanbaagreatdoor", sum := "e527cc5390cbdd28e865e85f9549fc427cf9839a8dc75202be4f01d723348e1d", func := "loop.example/g00833/laws.FnExactSendBoth", spec := "fnExactSendBoth", inPlace := ["internal/bytealg.IndexByteString", "internal/bytealg.IndexString", "slices.overlaps[int64]"], unfollowed := true, recurses := true, named := ["unicode/utf8.first", "unicode/utf8.acceptRanges", "internal/bytealg.MaxLen"], apart := false, laid := [("unicode/utf8.acceptRanges", laid_unicode_utf8_acceptRanges), ("unicode/utf8.first", laid_unicode_utf8_first)], narrowed := true }
def FnExactSendBothUptoSaid : Prop := fnExactSendBothUptoRow.holds Tryz.pinned (OpenSpec.upto fnExactSendBothSpec)

/-- 'laws.FnExactSurvivesSteps', WHERE WHAT IT READS IS OF BULK AT MOST 1048576: true; the input reads as it did. -/
def fnExactSurvivesStepsUptoRow : OpenClaim := { program := "ythfgmmmeplanbaagreatdoor", sum := "e527cc5390cbdd28e865e85f9549fc427cf9839a8dc75202be4f01d723348e1d", func := "loop.example/g00833/laws.FnExactSurvivesSteps", spec := "fnExactSurvivesSteps", inPlace := ["internal/bytealg.IndexByteString", "internal/bytealg.IndexString", "slices.overlaps[int64]"], unfollowed := true, recurses := true, named := ["unicode/utf8.first", "unicode/utf8.acceptRanges", "internal/bytealg.MaxLen"], apart := false, laid := [("unicode/utf8.acceptRanges", laid_unicode_utf8_acceptRanges), ("unicode/utf8.first", laid_unicode_utf8_first)], narrowed := true }
def FnExactSurvivesStepsUptoSaid : Prop := fnExactSurvivesStepsUptoRow.holds Tryz.pinned (OpenSpec.upto fnExactSurvivesStepsSpec)

/-- 'laws.FnExactStepOnce', WHERE WHAT IT READS IS OF BULK AT MOST 1048576: true; the input reads as it did. -/
def fnExactStepOnceUptoRow : OpenClaim := { program := "ythfgmmmeplanbaagreatdoor", sum := "e527cc5390cbdd28e865e85f9549fc427cf9839a8dc75202be4f01d723348e1d", func := "loop.example/g00833/laws.FnExactStepOnce", spec := "fnExactStepOnce", inPlace := ["internal/bytealg.IndexByteString", "internal/bytealg.IndexString", "slices.overlaps[int64]"], unfollowed := true, recurses := true, named := ["unicode/utf8.first", "unicode/utf8.acceptRanges", "internal/bytealg.MaxLen"], apart := false, laid := [("unicode/utf8.acceptRanges", laid_unicode_utf8_acceptRanges), ("unicode/utf8.first", laid_unicode_utf8_first)], narrowed := true }
def FnExactStepOnceUptoSaid : Prop := fnExactStepOnceUptoRow.holds Tryz.pinned (OpenSpec.upto fnExactStepOnceSpec)

/-- 'laws.FnExactTraceSteps', WHERE WHAT IT READS IS OF BULK AT MOST 1048576: true; the input reads as it did. -/
def fnExactTraceStepsUptoRow : OpenClaim := { program := "ythfgmmmeplanbaagreatdoor", sum := "e527cc5390cbdd28e865e85f9549fc427cf9839a8dc75202be4f01d723348e1d", func := "loop.example/g00833/laws.FnExactTraceSteps", spec := "fnExactTraceSteps", inPlace := ["internal/bytealg.IndexByteString", "internal/bytealg.IndexString", "slices.overlaps[int64]"], unfollowed := true, recurses := true, named := ["unicode/utf8.first", "unicode/utf8.acceptRanges", "internal/bytealg.MaxLen"], apart := false, laid := [("unicode/utf8.acceptRanges", laid_unicode_utf8_acceptRanges), ("unicode/utf8.first", laid_unicode_utf8_first)], narrowed := true }
def FnExactTraceStepsUptoSaid : Prop := fnExactTraceStepsUptoRow.holds Tryz.pinned (OpenSpec.upto fnExactTraceStepsSpec)

/-- 'laws.FnExactRunSteps', WHERE WHAT IT READS IS OF BULK AT MOST 1048576: true; the input reads as it did. -/
def fnExactRunStepsUptoRow : OpenClaim := { program := "ythfgmmmeplanbaagreatdoor", sum := "e527cc5390cbdd28e865e85f9549fc427cf9839a8dc75202be4f01d723348e1d", func := "loop.example/g00833/laws.FnExactRunSteps", spec := "fnExactRunSteps", inPlace := ["internal/bytealg.IndexByteString", "internal/bytealg.IndexString", "slices.overlaps[int64]"], unfollowed := true, recurses := true, named := ["unicode/utf8.first", "unicode/utf8.acceptRanges", "internal/bytealg.MaxLen"], apart := false, laid := [("unicode/utf8.acceptRanges", laid_unicode_utf8_acceptRanges), ("unicode/utf8.first", laid_unicode_utf8_first)], narrowed := true }
def FnExactRunStepsUptoSaid : Prop := fnExactRunStepsUptoRow.holds Tryz.pinned (OpenSpec.upto fnExactRunStepsSpec)

end Rows
end Go.Proofs.YthfgmmmeplanbaaGreatDoor
