/- Plain laws: ranges. -/
import Derived.Test.YtdbgmpnibjnocaaDoorPA
namespace Go.Proofs.YtdbgmpnibjnocaaDoor
open Go.RowKit
set_option linter.unusedVariables false
set_option linter.unusedSimpArgs false

def inB (v lo hi : Int) : Bool := decide (v ≥ lo) && decide (v ≤ hi)
theorem s_in (x) : s_l01In x = some (inB x.1 x.2.1 x.2.2.1, ()) := by
  unfold s_l01In inB
  cases decide (x.1 ≥ x.2.1) <;> rfl
theorem i_in (x) : i_within x = some (inB x.1 x.2.1 x.2.2.1, ()) := s_in x
theorem in_iff {v lo hi : Int} : inB v lo hi = true ↔ lo ≤ v ∧ v ≤ hi := by
  unfold inB
  simp
end Go.Proofs.YtdbgmpnibjnocaaDoor
