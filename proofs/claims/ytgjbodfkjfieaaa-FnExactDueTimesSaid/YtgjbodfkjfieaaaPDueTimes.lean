/- Plain law: DueTimes. -/
import Derived.Test.YtgjbodfkjfieaaaPDue
namespace Go.Proofs.Ytgjbodfkjfieaaa
open Go.RowKit
set_option linter.unusedVariables false
set_option linter.unusedSimpArgs false

theorem law_DueTimes (x) (hx : Wf (.pair (.list TStarter) (.pair (.int .i64) .unit)) x) : l_FnExactDueTimes x = some (true, ()) := by
  obtain ⟨l, (k : Int), u⟩ := x
  have hm : l.length ≤ maxLen := hx.1.1
  have hsz := sz_StarterS (l, 1048576, ()) (by simp) (by simp) hm
  unfold l_FnExactDueTimes
  simp only [hsz]
  by_cases h : (1048576 : Int) - l.length < 0
  · simp [h]
  · have hl : l.length ≤ 1099511627776 := by omega
    rw [if_neg h]
    have hs := s_dueTimes l k hl
    have hi := i_dueTimes l k hl
    have hr := dueR_len l k
    generalize dueR l k = y at *
    obtain ⟨(r : List Int), (e : Int), u⟩ := y
    have hr : r.length ≤ 32 := hr
    have hr' : r.length ≤ 1099511627776 := by omega
    have m1 := q_StarterS l hl 1 (by omega) (by omega)
    have m3 := q_Int64S r hr' 1 (by omega) (by omega)
    have n1 : decide ((marks f_Starter l 1).2 < 0) = false := by simp; omega
    have n3 : decide ((marks f_Int64 r 1).2 < 0) = false := by simp; omega
    have hh := held_Int64S r hr' ((marks f_Int64 r 1).1, 1, ()) rfl
    simp only [decide_eq_false h, to_StarterS, hl, hs, hi, eq_Int64S, eq_StarterS, hr', bne_self_i, Bool.not_true, mark_Int64S, mark_StarterS, n1, hh, n3]
end Go.Proofs.Ytgjbodfkjfieaaa
