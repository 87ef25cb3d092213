/- Plain law: MergeAll. -/
import Derived.Test.YtmdflpfagbcaiaaPMarkVerdicts
namespace Go.Proofs.Ytmdflpfagbcaiaa
open Go.RowKit
set_option linter.unusedVariables false
set_option linter.unusedSimpArgs false

theorem mergeAll_dataL {l : List TVerdict.T} {n : Nat} (hd : ∀ v ∈ l, (dataV v).length ≤ n) : (dataV (mergeAllL l)).length ≤ n := by
  cases l with
  | nil => exact Nat.zero_le _
  | cons v r => exact merge_foldD r v (hd v (by simp)) (fun u hu => hd u (by simp [hu]))
theorem mergeAllR_data {l : List TVerdict.T} {n : Nat} (hd : ∀ v ∈ l, (dataV v).length ≤ n) : (dataV (mergeAllR l).1).length ≤ n := by
  unfold mergeAllR
  split
  · split
    · exact mergeAll_dataL hd
    · exact Nat.zero_le _
  · exact Nat.zero_le _
theorem law_ExactMergeAll (x) (hx : Wf (.pair (.list TVerdict) .unit) x) : l_FnExactMergeAll x = some (true, ()) := by
  obtain ⟨l, u⟩ := x
  obtain ⟨y, hy, hp⟩ := sz_Verdicts l hx.1.1 (fun v hv => (hx.1.2 v hv).2.1.2.2.2.1.1)
  unfold l_FnExactMergeAll
  simp only [hy]
  by_cases h : y < 0
  · simp only [decide_eq_true h]
  · obtain ⟨h1, h2⟩ := hp (by omega)
    have hl : l.length ≤ 1099511627776 := by omega
    have hd : ∀ v ∈ l, (dataV v).length ≤ 1099511627776 := fun v hv => by have := h2 v hv; omega
    have c1 := s_mergeAll l hl hd
    have c2 := i_mergeAll l hl hd
    have hr := mergeAllR_data hd
    generalize mergeAllR l = r at *
    obtain ⟨g, (e : Int), u2⟩ := r
    have hg : (dataV g).length ≤ 1099511627776 := hr
    have k1 : decide ((marks f_Verdict l 1).2 < 0) = false := by have := marked_ge l h1 h2; simp; omega
    have m3 := q_Int64S (dataV g) hg 1 (by omega) (by omega)
    have n3 : decide ((marks f_Int64 (dataV g) 1).2 < 0) = false := by simp; omega
    have hm : l_markVerdict (g, 1, ()) = _ := mark_Verdict g 1 hg
    have hh : l_heldVerdict ((g.1, (g.2.1.1, g.2.1.2.1, g.2.1.2.2.1, (marks f_Int64 (dataV g) 1).1, ()), ()), 1, ()) = _ := held_Verdict g (dataV g) hg
    have ht : l_toVerdictS (l, ()) = some (l, ()) := to_VerdictS (l, ()) hl hd
    have q1 : l_eqVerdict (g, g, ()) = some (true, ()) := eq_Verdict (g, g, ()) rfl hg
    have q2 : l_eqVerdictS (l, l, ()) = some (true, ()) := eq_VerdictS (l, l, ()) rfl hl hd
    simp only [decide_eq_false h, ht, c1, c2, q1, q2, bne_self_i, Bool.not_true, mark_VerdictS l 1 hl hd, k1, hm, withData, hh, n3]
end Go.Proofs.Ytmdflpfagbcaiaa
