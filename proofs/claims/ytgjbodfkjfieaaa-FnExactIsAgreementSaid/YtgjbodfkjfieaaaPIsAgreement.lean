/- Plain law: IsAgreement. -/
import Derived.Test.YtgjbodfkjfieaaaPAgree
namespace Go.Proofs.Ytgjbodfkjfieaaa
open Go.RowKit
set_option linter.unusedVariables false
set_option linter.unusedSimpArgs false

theorem law_IsAgreement (x) (hx : Wf (.pair (.list TVerdict) .unit) x) : l_FnExactIsAgreement x = some (true, ()) := by
  obtain ⟨l, u⟩ := x
  obtain ⟨y, hy, hp⟩ := sz_Verdicts l hx.1.1 (fun v hv => (hx.1.2 v hv).2.1.2.2.2.1.1)
  unfold l_FnExactIsAgreement
  simp only [hy]
  by_cases h : y < 0
  · simp only [decide_eq_true h]
  · obtain ⟨h1, h2⟩ := hp (by omega)
    have hl : l.length ≤ 1099511627776 := by omega
    have hd : ∀ v ∈ l, (dataV v).length ≤ 1099511627776 := fun v hv => by have := h2 v hv; omega
    simp only [decide_eq_false h, to_VerdictS (l, ()) hl hd, s_agree l hl hd, i_agree l hl hd, eq_VerdictS (l, l, ()) rfl hl hd, bne_self_b, Bool.not_true]
end Go.Proofs.Ytgjbodfkjfieaaa
