/- Plain laws: states. -/
import Derived.Test.YtdbgmpnibjnocaaDoorPIn
namespace Go.Proofs.YtdbgmpnibjnocaaDoor
open Go.RowKit
set_option linter.unusedVariables false
set_option linter.unusedSimpArgs false

def stateB (x : TState.T) : Bool := inB x.1 0 65535 && inB x.2.1 0 15 && inB x.2.2.1 0 15 && inB x.2.2.2.1 0 255 && inB x.2.2.2.2.1 0 4294967295
theorem s_state (x) : s_IsState x = some (stateB x.1, ()) := by
  unfold s_IsState stateB
  simp only [s_in]
  repeat' split
  all_goals simp_all
theorem i_state (x) : i_IsState x = some (stateB x.1, ()) := by
  unfold i_IsState stateB i_isVector
  simp only [i_in]
  repeat' split
  all_goals simp_all
end Go.Proofs.YtdbgmpnibjnocaaDoor
