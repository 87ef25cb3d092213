/- Plain laws: AdvanceClocks. -/
import Derived.Test.YtoppfeehgkpjkaaPAdvance
import Derived.Test.YtoppfeehgkpjkaaPMinMax
namespace Go.Proofs.Ytoppfeehgkpjkaa
open Go.RowKit
set_option linter.unusedVariables false
set_option linter.unusedSimpArgs false

theorem code_zero {c d : List Int} {p k : Int} (h : codeB c d p k = 0) : clocksB c = true ∧ d.length = c.length ∧ (∀ v ∈ d, inB v (-1000) 1000 = true) ∧ inB p 0 65535 = true := by
  unfold codeB at h
  split at h
  · rename_i h1
    split at h
    · rename_i h2
      simp only [Bool.and_eq_true, decide_eq_true_eq, List.all_eq_true] at h2
      exact ⟨h1, h2.1.1.1, h2.1.1.2, h2.1.2⟩
    · cases h
  · cases h
theorem clocks_in {c : List Int} (h : clocksB c = true) : (∀ v ∈ c, inB v 0 1000000000 = true) ∧ 1 ≤ c.length ∧ c.length ≤ 32 := by
  unfold clocksB at h
  simp only [Bool.and_eq_true, List.all_eq_true] at h
  have := in_iff.1 h.1
  exact ⟨h.2, by omega, by omega⟩

theorem advance_eq (c d : List Int) (p : Int) (hc : c.length ≤ 1099511627776) (hd : d.length ≤ 1099511627776) : ∃ (r : List Int) (e : Int), s_AdvanceClocks (c, d, p, ()) = some (r, e, ()) ∧ i_AdvanceClocks (c, d, p, ()) = some (r, e, ()) ∧ r.length ≤ 32 := by
  unfold s_AdvanceClocks i_AdvanceClocks
  simp only [s_code1 c d p 0 hc hd, i_code1 c d p 0 hc hd]
  by_cases h : codeB c d p 0 = 0
  · obtain ⟨h1, h2, h3, h4⟩ := code_zero h
    obtain ⟨h5, h6, h7⟩ := clocks_in h1
    have hz : (codeB c d p 0 != 0) = false := by simp [h]
    rw [hz]
    simp only [s_adv1 c d p h2.symm (by omega), i_adv1 c d p h2.symm (by omega)]
    have hlen := advL_length p c d h2.symm
    have hpos := advL_pos h4 c d h5 h3
    have hall : s_l30All (advL p c d, ()) = some ((advL p c d).all (fun v => inB v 0 1000000000), ()) := s_all _ (by show (advL p c d).length ≤ _; omega)
    generalize advL p c d = r at *
    cases r with
    | nil => exact absurd hlen (by simp; omega)
    | cons v r =>
      rw [hall, i_max v r (by omega)]
      simp only
      by_cases hm : List.foldl maxL v r ≤ 1000000000
      · have h8 := (max_le 1000000000 r v).1 hm
        have h9 : (v :: r).all (fun v => inB v 0 1000000000) = true := by
          rw [List.all_eq_true]
          intro u hu
          refine in_iff.2 ⟨hpos u hu, ?_⟩
          rcases List.mem_cons.1 hu with rfl | hu
          · exact h8.1
          · exact h8.2 u hu
        have h10 : decide (List.foldl maxL v r > 1000000000) = false := by simp; omega
        rw [h9, h10]
        exact ⟨_, _, rfl, rfl, by omega⟩
      · have h9 : (v :: r).all (fun v => inB v 0 1000000000) = false := by
          rw [← Bool.not_eq_true, List.all_eq_true]
          intro hh
          exact hm ((max_le 1000000000 r v).2 ⟨(in_iff.1 (hh v (by simp))).2, fun u hu => (in_iff.1 (hh u (by simp [hu]))).2⟩)
        have h10 : decide (List.foldl maxL v r > 1000000000) = true := by simp; omega
        rw [h9, h10]
        exact ⟨_, _, rfl, rfl, by simp⟩
  · have hz : (codeB c d p 0 != 0) = true := by simp [h]
    rw [hz]
    exact ⟨_, _, rfl, rfl, by simp⟩
end Go.Proofs.Ytoppfeehgkpjkaa
