/- Plain laws: agreements. -/
import Derived.Test.YtmdflpfagbcaiaaPVerdicts
namespace Go.Proofs.Ytmdflpfagbcaiaa
open Go.RowKit
set_option linter.unusedVariables false
set_option linter.unusedSimpArgs false

theorem s_sameVerdict (x) (h : x.1.2.1.2.2.2.1.length ≤ 1099511627776) : s_SameVerdict x = some (sameVerdictB x.1 x.2.1, ()) := by
  have e0 : s_SameVerdict x = match (x.1.1 == x.2.1.1) with
    | true => match s_l28Same (x.1.2.1, x.2.1.2.1, ()) with
      | none => none
      | some v1 => some (v1.1, ())
    | false => some (false, ()) := rfl
  rw [e0, s_sameFrame (x.1.2.1, x.2.1.2.1, ()) h]
  unfold sameVerdictB
  rcases Bool.eq_false_or_eq_true (x.1.1 == x.2.1.1) with h1 | h1 <;> simp only [h1] <;> rfl
/-- Do all say the same? -/
noncomputable def agreeB (l : List TVerdict.T) : Bool := inB l.length 1 32 && (l.all verdictB && (match l with
  | [] => true
  | v :: _ => l.all (fun u => sameVerdictB u v)))
theorem s_agree (l : List TVerdict.T) (hl : l.length ≤ 1099511627776) (hd : ∀ v ∈ l, (dataV v).length ≤ 1099511627776) : s_IsAgreement (l, ()) = some (agreeB l, ()) := by
  have e0 : s_IsAgreement (l, ()) = match loopL b_s_IsAgreement_2 (l, ((0 : Nat) : Int), ()) with
    | none => none
    | some (.inl v6) => match s_l01In ((v6.1.length : Int), (1 : Int), (32 : Int), ()) with
      | none => none
      | some v8 => some (v8.1, ())
    | some (.inr v7) => some (v7.1, ()) := rfl
  cases l with
  | nil =>
    rw [e0, loopL_eq]
    rfl
  | cons v r =>
    have e := all_ok (B := b_s_IsAgreement_2) (v :: r) (fun i => (v :: r, (i : Int), ())) (fun u => verdictB u && sameVerdictB u v) (.inl (v :: r, ())) (.inr (false, ())) (by simp only [b_s_IsAgreement_2, lt_n]) (fun i h => by
      have hv := hd _ (List.getElem_mem h)
      have h0 : idx (v :: r) (0 : Int) = some v := rfl
      have h1 := s_verdict ((v :: r)[i], ()) hv
      have h2 := s_sameVerdict ((v :: r)[i], v, ()) hv
      simp only [b_s_IsAgreement_2, lt_i h, next_i h hl, idx_nat h, onSome, h0]
      rw [h1, h2]
      simp only
      cases verdictB (v :: r)[i] <;> cases sameVerdictB (v :: r)[i] v <;> simp)
    rw [e0, e]
    unfold agreeB
    have ha : (v :: r).all (fun u => verdictB u && sameVerdictB u v) = ((v :: r).all verdictB && (v :: r).all (fun u => sameVerdictB u v)) := by
      rw [Bool.eq_iff_iff]
      simp only [List.all_eq_true, Bool.and_eq_true]
      exact ⟨fun h => ⟨fun u hu => (h u hu).1, fun u hu => (h u hu).2⟩, fun h u hu => ⟨h.1 u hu, h.2 u hu⟩⟩
    rw [ha]
    simp only [s_in]
    rcases Bool.eq_false_or_eq_true ((v :: r).all verdictB) with h1 | h1 <;> rcases Bool.eq_false_or_eq_true ((v :: r).all (fun u => sameVerdictB u v)) with h2 | h2 <;> simp only [h1, h2] <;> simp
theorem i_agree (l : List TVerdict.T) (hl : l.length ≤ 1099511627776) (hd : ∀ v ∈ l, (dataV v).length ≤ 1099511627776) : i_IsAgreement (l, ()) = some (agreeB l, ()) := by
  unfold i_IsAgreement agreeB inB
  simp only [i_verdicts l hl hd]
  by_cases hc : (l.length : Int) < 1
  · have h1 : decide ((l.length : Int) ≥ 1) = false := by simp; omega
    simp only [decide_eq_true hc, h1]
    simp
  · by_cases hc2 : (l.length : Int) > 32
    · have h1 : decide ((l.length : Int) ≤ 32) = false := by simp; omega
      simp only [decide_eq_false hc, decide_eq_true hc2, h1]
      simp
    · have h1 : decide ((l.length : Int) ≤ 32) = true := by simp; omega
      have h2 : decide ((l.length : Int) ≥ 1) = true := by simp; omega
      simp only [decide_eq_false hc, decide_eq_false hc2, h1, h2]
      cases l with
      | nil => simp at hc
      | cons v r =>
        have h3 := contains_Verdict (v :: r) hl (fun z => i_IsAgreement_1 (z.1, v :: r, ())) (fun u => !sameVerdictB u v) (fun i h => by
          have h0 : idx (v :: r) (0 : Int) = some v := rfl
          have e1 : i_IsAgreement_1 ((v :: r)[i], v :: r, ()) = onSome (idx (v :: r) (0 : Int)) fun v1 => match i_SameVerdict ((v :: r)[i], v1, ()) with
            | none => none
            | some v2 => some ((!v2.1), ()) := rfl
          rw [e1, h0]
          simp only [onSome]
          rw [i_sameVerdict _ (hd _ (List.getElem_mem h))])
        cases (v :: r).all verdictB
        · simp
        · simp only [Bool.not_true, h3, all_any (fun u => sameVerdictB u v)]
          simp
end Go.Proofs.Ytmdflpfagbcaiaa
