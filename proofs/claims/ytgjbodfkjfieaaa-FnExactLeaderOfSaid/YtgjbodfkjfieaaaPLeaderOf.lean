/- Plain law: LeaderOf. -/
import Derived.Test.YtgjbodfkjfieaaaPLead
namespace Go.Proofs.Ytgjbodfkjfieaaa
open Go.RowKit
set_option linter.unusedVariables false
set_option linter.unusedSimpArgs false

theorem law_LeaderOf (x) (hx : Wf (.pair (.list TStarter) .unit) x) : l_FnExactLeaderOf x = some (true, ()) := by
  obtain ⟨l, u⟩ := x
  have hm : l.length ≤ maxLen := hx.1.1
  have hsz := sz_StarterS (l, 1048576, ()) (by simp) (by simp) hm
  unfold l_FnExactLeaderOf
  simp only [hsz]
  by_cases h : (1048576 : Int) - l.length < 0
  · simp [h]
  · have hl : l.length ≤ 1099511627776 := by omega
    rw [if_neg h]
    have b1 : ((leaderL l).1 != (leaderL l).1) = false := bne_self_i _
    have b2 : ((leaderL l).2.1 != (leaderL l).2.1) = false := bne_self_i _
    have b3 : ((leaderL l).2.2.1 != (leaderL l).2.2.1) = false := bne_self_i _
    have b4 : ((leaderL l).2.2.2.1 != (leaderL l).2.2.2.1) = false := bne_self_i _
    simp only [decide_eq_false h, to_StarterS, hl, s_leaderOf l hl, i_leaderOf l hl, eq_StarterS, b1, b2, b3, b4, Bool.not_true]
end Go.Proofs.Ytgjbodfkjfieaaa
