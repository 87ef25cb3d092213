/- Plain laws: nodes. -/
import Derived.Test.YtdbgmpnibjnocaaDoorPIn
namespace Go.Proofs.YtdbgmpnibjnocaaDoor
open Go.RowKit
set_option linter.unusedVariables false
set_option linter.unusedSimpArgs false

theorem s_node (x) : s_l05Node x = some (inB x.1 0 31, ()) := by
  unfold s_l05Node
  simp only [s_in]
theorem i_node (x) : i_isNode x = some (inB x.1 0 31, ()) := by
  unfold i_isNode
  simp only [i_in]
end Go.Proofs.YtdbgmpnibjnocaaDoor
