/- For every argument the law FnExactRunClocks returns true; no conditions. -/
import Derived.Test.YtoppfeehgkpjkaaRows
import Derived.Test.YtoppfeehgkpjkaaLaw
import Derived.Test.YtoppfeehgkpjkaaPRun
import Derived.WalkKit
import Derived.ProofKit
import Derived.OpenShut
namespace Go.Proofs.Ytoppfeehgkpjkaa.fnExactRunClocks
open Go.Proofs.Ytoppfeehgkpjkaa Go.ChangeShapes Go.WideShapes Go.ChangeAt Go.RowKit
set_option linter.unusedVariables false

theorem own : ownKnob Try.prog.godebug = none := by kernel_rfl

set_option maxRecDepth 100000 in
theorem lifted (os : Os) (started : os.Started) (H : Type) (enc : TypeId × Value → H) :
    ReturnsInHanded {} Try.checked os 8 .any (Rows.fnExactRunClocksSpec.pre6 enc Try.prog Try.f8 Rows.fnExactRunClocksRow.domain false) (Rows.fnExactRunClocksSpec.post enc Try.prog Try.f8 false true false false) := by
  refine returnsInHanded_of_change (C := Try.checked) own started (by kernel_rfl) Try.func8
    (ChangeSpec.witness6 (enc := enc) (C := Try.checked) false ⟨#[], #[.slice none 0 0, .slice none 0 0, .int .i64 0, .int .i64 0], []⟩ 8 (by kernel_rfl) (by kernel_rfl) (by kernel_rfl) (by kernel_rfl)) ?_
  intro W base args ds gs before hval0 hW hcnd _
  exact law_calls (n := 4) ok_l_FnExactRunClocks rfl (fun x hx => law_RunClocks x hx) (by kernel_rfl) (by kernel_rfl) rfl Try.underlying4 rfl (by kernel_rfl) (fun ds h => by match ds, h with | [_, _, _, _], _ => rfl) hval0 hW

theorem over : Rows.fnExactRunClocksRow.holds Try.pinned (OpenSpec.ofChange Rows.fnExactRunClocksSpec) :=
  OpenClaim.holds_of_wide 8 Try.f8 rfl rfl rfl rfl rfl rfl rfl ⟨rfl, rfl, rfl, rfl, rfl⟩ rfl rfl rfl rfl rfl (by kernel_rfl) Try.func8 (by kernel_rfl)
    (of_decide_eq_true (by kernel_rfl)) (by unfold Func.isWrapper; first | (rw [if_pos (by decide +kernel)]; kernel_rfl) | (rw [if_neg (by decide +kernel)]; exact ⟨rfl, rfl⟩))
    (fun os started H enc _ => lifted os started H enc)

/-- The statement. -/
theorem proved : Rows.FnExactRunClocksSaid :=
  over
#print axioms proved
end Go.Proofs.Ytoppfeehgkpjkaa.fnExactRunClocks
