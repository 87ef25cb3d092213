/- For every argument the law FnExactQuietSteps returns true; no conditions. -/
import Derived.Test.YtmdflpfagbcaiaaRows
import Derived.Test.YtmdflpfagbcaiaaLaw
import Derived.Test.YtmdflpfagbcaiaaPQuiet
import Derived.WalkKit
import Derived.ProofKit
import Derived.OpenShut
namespace Go.Proofs.Ytmdflpfagbcaiaa.fnExactQuietSteps
open Go.Proofs.Ytmdflpfagbcaiaa Go.ChangeShapes Go.WideShapes Go.ChangeAt Go.RowKit
set_option linter.unusedVariables false

theorem own : ownKnob Try.prog.godebug = none := by kernel_rfl

set_option maxRecDepth 100000 in
theorem lifted (os : Os) (started : os.Started) (H : Type) (enc : TypeId × Value → H) :
    ReturnsInHanded {} Try.checked os 3 .any (Rows.fnExactQuietStepsSpec.pre6 enc Try.prog Try.f3 Rows.fnExactQuietStepsRow.domain false) (Rows.fnExactQuietStepsSpec.post enc Try.prog Try.f3 false true false false) := by
  refine returnsInHanded_of_change (C := Try.checked) own started (by kernel_rfl) Try.func3
    (ChangeSpec.witness6 (enc := enc) (C := Try.checked) false ⟨#[], #[.int .i64 0], []⟩ 8 (by kernel_rfl) (by kernel_rfl) (by kernel_rfl) (by kernel_rfl)) ?_
  intro W base args ds gs before hval0 hW hcnd _
  exact law_calls (n := 1) ok_l_FnExactQuietSteps rfl (fun x hx => law_QuietSteps x hx) (by kernel_rfl) (by kernel_rfl) rfl Try.underlying4 rfl (by kernel_rfl) (fun ds h => by obtain ⟨d, rfl⟩ := List.length_eq_one_iff.1 h; rfl) hval0 hW

theorem over : Rows.fnExactQuietStepsRow.holds Try.pinned (OpenSpec.ofChange Rows.fnExactQuietStepsSpec) :=
  OpenClaim.holds_of_wide 3 Try.f3 rfl rfl rfl rfl rfl rfl rfl ⟨rfl, rfl, rfl, rfl, rfl⟩ rfl rfl rfl rfl rfl (by kernel_rfl) Try.func3 (by kernel_rfl)
    (of_decide_eq_true (by kernel_rfl)) (by unfold Func.isWrapper; first | (rw [if_pos (by decide +kernel)]; kernel_rfl) | (rw [if_neg (by decide +kernel)]; exact ⟨rfl, rfl⟩))
    (fun os started H enc _ => lifted os started H enc)

/-- The statement. -/
theorem proved : Rows.FnExactQuietStepsSaid :=
  over
#print axioms proved
end Go.Proofs.Ytmdflpfagbcaiaa.fnExactQuietSteps
