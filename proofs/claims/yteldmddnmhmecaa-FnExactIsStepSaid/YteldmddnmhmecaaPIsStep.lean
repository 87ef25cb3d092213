/- Plain law: IsStep. -/
import Derived.Test.YteldmddnmhmecaaPStep
namespace Go.Proofs.Yteldmddnmhmecaa
open Go.RowKit
set_option linter.unusedVariables false
set_option linter.unusedSimpArgs false

theorem law_IsStep (x) (hx : Wf (.pair TStep .unit) x) : l_FnExactIsStep x = some (true, ()) := by
  obtain ⟨⟨a, b, l, m, u⟩, u'⟩ := x
  have hl : l.length ≤ maxLen := hx.1.2.2.1.1
  have hm : m.length ≤ maxLen := hx.1.2.2.2.1.1
  have s1 := sz_FaultS (l, 1048576, ()) (by simp) (by simp) hl
  unfold l_FnExactIsStep l_szStep
  simp only [s1]
  by_cases h : (1048576 : Int) - l.length < 0
  · simp [h]
  · have hl : l.length ≤ 1099511627776 := by omega
    have s2 := sz_FaultS (m, 1048576 - (l.length : Int), ()) (by show (0 : Int) ≤ 1048576 - (l.length : Int); omega) (by show 1048576 - (l.length : Int) ≤ 1048576; omega) hm
    rw [if_neg h]
    simp only [decide_eq_false h, s2]
    by_cases h' : (1048576 : Int) - l.length - m.length < 0
    · simp [h']
    · have hm : m.length ≤ 1099511627776 := by omega
      rw [if_neg h']
      simp only [decide_eq_false h', l_toStep, to_FaultS, hl, hm, s_step, i_step, l_eqStep, eq_FaultS, bne_self_b, bne_self_i, Bool.not_true]
end Go.Proofs.Yteldmddnmhmecaa
