/- Plain law: AreStarters. -/
import Derived.Test.YteldmddnmhmecaaPStarter
namespace Go.Proofs.Yteldmddnmhmecaa
open Go.RowKit
set_option linter.unusedVariables false
set_option linter.unusedSimpArgs false

theorem law_AreStarters (x) (hx : Wf (.pair (.list TStarter) .unit) x) : l_FnExactAreStarters x = some (true, ()) := by
  obtain ⟨l, u⟩ := x
  have hm : l.length ≤ maxLen := hx.1.1
  have hsz := sz_StarterS (l, 1048576, ()) (by simp) (by simp) hm
  unfold l_FnExactAreStarters
  simp only [hsz]
  by_cases h : (1048576 : Int) - l.length < 0
  · simp [h]
  · have hl : l.length ≤ 1099511627776 := by omega
    rw [if_neg h]
    simp only [decide_eq_false h, to_StarterS, hl, s_starters, i_starters, eq_StarterS, bne_self_b, Bool.not_true]
end Go.Proofs.Yteldmddnmhmecaa
