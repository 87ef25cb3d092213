/- Plain law: FnExactWithoutStarter. -/
import Derived.Test.YtmdflpfagbcaiaaPWithout
namespace Go.Proofs.Ytmdflpfagbcaiaa
open Go.RowKit
set_option linter.unusedVariables false
set_option linter.unusedSimpArgs false

theorem law_WithoutStarter (x) (hx : Wf (.pair (.list TStarter) (.pair (.int .i64) .unit)) x) : l_FnExactWithoutStarter x = some (true, ()) := by
  obtain ⟨l, n, u⟩ := x
  have hm : l.length ≤ maxLen := hx.1.1
  have hsz := sz_StarterS (l, 1048576, ()) (by simp) (by simp) hm
  unfold l_FnExactWithoutStarter
  simp only [hsz]
  by_cases h : (1048576 : Int) - l.length < 0
  · simp [h]
  · have hl : l.length ≤ 1099511627776 := by omega
    rw [if_neg h]
    have hr := without_len l n
    have hs := s_without l n hl
    have hi := i_without l n hl
    generalize withoutL l n = r at hr hs hi
    obtain ⟨r, e, u⟩ := r
    have hr' : r.length ≤ 1099511627776 := by simp only at hr; omega
    have m1 := q_StarterS l hl 1 (by omega) (by omega)
    have m3 := q_StarterS r hr' 1 (by omega) (by omega)
    have n1 : decide ((marks f_Starter l 1).2 < 0) = false := by simp; omega
    have n3 : decide ((marks f_Starter r 1).2 < 0) = false := by simp; omega
    have hh := held_StarterS r hr' ((marks f_Starter r 1).1, 1, ()) rfl
    simp only [decide_eq_false h, to_StarterS, hl, hs, hi, eq_StarterS, hr', bne_self_i, Bool.not_true, mark_StarterS, n1, hh, n3]
end Go.Proofs.Ytmdflpfagbcaiaa
