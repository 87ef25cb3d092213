/- Plain laws: CorrectClocks, CorrectAround. -/
import Derived.Test.YtoppfeehgkpjkaaPCorrect
namespace Go.Proofs.Ytoppfeehgkpjkaa
open Go.RowKit
set_option linter.unusedVariables false
set_option linter.unusedSimpArgs false

theorem ccR_len (l : List Int) : (ccR l).1.length ≤ 32 := by
  unfold ccR
  split
  · rename_i h
    have := clocks_of h
    simp only [corr_len]
    omega
  · simp
theorem caR_len (l : List Int) (f : Int) (shown : List Int) : (caR l f shown).1.length ≤ 32 := by
  unfold caR
  split
  · rename_i h
    have := clocks_of h
    split
    · split
      · simp
      · split
        · simp only [around_len]; omega
        · simp
    · simp
  · simp
theorem law_CorrectClocks (x) (hx : Wf (.pair (.list (.int .i64)) .unit) x) : l_FnExactCorrectClocks x = some (true, ()) := by
  obtain ⟨(l : List Int), u⟩ := x
  unfold l_FnExactCorrectClocks
  by_cases h : (l.length : Int) > 1048576
  · simp only [decide_eq_true h]
  · have hl : l.length ≤ 1099511627776 := by omega
    have hs := s_cc l hl
    have hi := i_cc l hl
    have hr := ccR_len l
    generalize ccR l = y at *
    obtain ⟨(r : List Int), (e : Int), u⟩ := y
    have hr : r.length ≤ 32 := hr
    have hr' : r.length ≤ 1099511627776 := by omega
    have t1 : l_toInt64S (l, ()) = some (l, ()) := to_Int64S (l, ()) hl
    have q1 : l_eqInt64S (l, l, ()) = some (true, ()) := eq_Int64S (l, l, ()) rfl hl
    have q2 : l_eqInt64S (r, r, ()) = some (true, ()) := eq_Int64S (r, r, ()) rfl hr'
    have k1 : l_markInt64S (l, 1, ()) = _ := mark_Int64S (l, 1, ()) hl
    have k2 : l_markInt64S (r, 1, ()) = _ := mark_Int64S (r, 1, ()) hr'
    have m1 := q_Int64S l hl 1 (by omega) (by omega)
    have m3 := q_Int64S r hr' 1 (by omega) (by omega)
    have n1 : decide ((marks f_Int64 l 1).2 < 0) = false := by simp; omega
    have n3 : decide ((marks f_Int64 r 1).2 < 0) = false := by simp; omega
    have hh := held_Int64S r hr' ((marks f_Int64 r 1).1, 1, ()) rfl
    simp only [decide_eq_false h, t1, hs, hi, q1, q2, k1, k2, bne_self_i, Bool.not_true, n1, hh, n3]
theorem law_CorrectAround (x) (hx : Wf (.pair (.list (.int .i64)) (.pair (.int .i64) (.pair (.list (.int .i64)) .unit))) x) : l_FnExactCorrectAround x = some (true, ()) := by
  obtain ⟨(l : List Int), (f : Int), (m : List Int), u⟩ := x
  unfold l_FnExactCorrectAround
  by_cases h : (l.length : Int) > 1048576
  · simp only [decide_eq_true h]
  · by_cases h2 : (m.length : Int) > 1048576
    · simp only [decide_eq_false h, decide_eq_true h2]
    · have hl : l.length ≤ 1099511627776 := by omega
      have hm : m.length ≤ 1099511627776 := by omega
      have hs := s_ca l f m hl hm
      have hi := i_ca l f m hl hm
      have hr := caR_len l f m
      generalize caR l f m = y at *
      obtain ⟨(r : List Int), (e : Int), u⟩ := y
      have hr : r.length ≤ 32 := hr
      have hr' : r.length ≤ 1099511627776 := by omega
      have t1 : l_toInt64S (l, ()) = some (l, ()) := to_Int64S (l, ()) hl
      have t2 : l_toInt64S (m, ()) = some (m, ()) := to_Int64S (m, ()) hm
      have q1 : l_eqInt64S (l, l, ()) = some (true, ()) := eq_Int64S (l, l, ()) rfl hl
      have q2 : l_eqInt64S (r, r, ()) = some (true, ()) := eq_Int64S (r, r, ()) rfl hr'
      have q3 : l_eqInt64S (m, m, ()) = some (true, ()) := eq_Int64S (m, m, ()) rfl hm
      have k1 : l_markInt64S (l, 1, ()) = _ := mark_Int64S (l, 1, ()) hl
      have m1 := q_Int64S l hl 1 (by omega) (by omega)
      have k4 : l_markInt64S (m, (marks f_Int64 l 1).2, ()) = _ := mark_Int64S (m, (marks f_Int64 l 1).2, ()) hm
      have m4 := q_Int64S m hm (marks f_Int64 l 1).2 (by omega) (by omega)
      have k2 : l_markInt64S (r, 1, ()) = _ := mark_Int64S (r, 1, ()) hr'
      have m3 := q_Int64S r hr' 1 (by omega) (by omega)
      have n1 : decide ((marks f_Int64 m (marks f_Int64 l 1).2).2 < 0) = false := by simp; omega
      have n3 : decide ((marks f_Int64 r 1).2 < 0) = false := by simp; omega
      have hh := held_Int64S r hr' ((marks f_Int64 r 1).1, 1, ()) rfl
      simp only [decide_eq_false h, decide_eq_false h2, t1, t2, hs, hi, q1, q2, q3, k1, k4, k2, bne_self_i, Bool.not_true, n1, hh, n3]
end Go.Proofs.Ytoppfeehgkpjkaa
