/- Plain law: ToleratedMean. -/
import Derived.Test.YtoppfeehgkpjkaaPMean
namespace Go.Proofs.Ytoppfeehgkpjkaa
open Go.RowKit
set_option linter.unusedVariables false
set_option linter.unusedSimpArgs false

/-! ### ToleratedMean -/
theorem i_allT (l : List Int) (lo hi : Int) (hl : l.length ≤ 1099511627776) : i_allWithin (l, lo, hi, ()) = some (l.all (fun v => inB v lo hi), ()) := by
  have e := all_ok (B := b_i_allWithin_2) l (fun i => (lo, hi, l, (l.length : Int), (i : Int), ())) (fun v => inB v lo hi) (.inl ()) (.inr (false, ())) (by simp only [b_i_allWithin_2, lt_n]) (fun i h => by
    simp only [b_i_allWithin_2, lt_i h, next_i h hl, idx_nat h, onSome, inB]
    by_cases c1 : l[i] < lo
    · have c2 : decide (l[i] ≥ lo) = false := by simp; omega
      simp [c1, c2]
    · have c2 : decide (l[i] ≥ lo) = true := by simp; omega
      by_cases c3 : l[i] > hi
      · have c4 : decide (l[i] ≤ hi) = false := by simp; omega
        simp [c1, c2, c3, c4]
      · have c4 : decide (l[i] ≤ hi) = true := by simp; omega
        simp [c1, c2, c3, c4])
  have e' : loopL b_i_allWithin_2 (lo, hi, l, (l.length : Int), (0 : Int), ()) = _ := e
  unfold i_allWithin
  simp only [e']
  cases l.all (fun v => inB v lo hi) <;> simp
/-- What ToleratedMean answers. -/
def tolR (l : List Int) : Int × Int × Unit := if inB l.length 1 32 then (if l.all (fun v => inB v (-1000000) 1000000) then (meanL l, (0 : Int), ()) else ((0 : Int), (2 : Int), ())) else ((0 : Int), (3 : Int), ())
theorem all_small {l : List Int} {lo hi : Int} (h : l.all (fun v => inB v lo hi) = true) (h0 : -2000000000 ≤ lo) (h1 : hi ≤ 2000000000) : Small l := by
  intro v hv
  have := in_iff.1 (List.all_eq_true.1 h v hv)
  omega
theorem i_tol (l : List Int) (hl : l.length ≤ 1099511627776) : i_ToleratedMean (l, ()) = some (tolR l) := by
  unfold i_ToleratedMean tolR
  simp only [i_allT l _ _ hl]
  by_cases c1 : (l.length : Int) < 1
  · have h1 : inB (l.length : Int) 1 32 = false := by
      cases h : inB (l.length : Int) 1 32 with
      | false => rfl
      | true => have := in_iff.1 h; omega
    simp only [decide_eq_true c1, h1]
    rfl
  · by_cases c2 : (l.length : Int) > 32
    · have h1 : inB (l.length : Int) 1 32 = false := by
        cases h : inB (l.length : Int) 1 32 with
        | false => rfl
        | true => have := in_iff.1 h; omega
      simp only [decide_eq_false c1, decide_eq_true c2, h1]
      rfl
    · have h1 : inB (l.length : Int) 1 32 = true := in_iff.2 (by omega)
      simp only [decide_eq_false c1, decide_eq_false c2, h1, if_true]
      cases ha : l.all (fun v => inB v (-1000000) 1000000) with
      | false => rfl
      | true => simp only [Bool.not_true, i_mean l (by omega) (by omega) (all_small ha (by omega) (by omega)), if_true]
theorem s_tol (l : List Int) (hl : l.length ≤ 1099511627776) : s_ToleratedMean (l, ()) = some (tolR l) := by
  have e := all_ok (B := b_s_ToleratedMean_4) l (fun i => (l, (i : Int), ())) (fun v => inB v (-1000000) 1000000) (.inl (l, ())) (.inr ((0 : Int), (2 : Int), ())) (by simp only [b_s_ToleratedMean_4, lt_n]) (fun i h => by
    simp only [b_s_ToleratedMean_4, lt_i h, next_i h hl, idx_nat h, onSome, s_in]
    cases inB l[i] (-1000000) 1000000 <;> simp)
  have e' : loopL b_s_ToleratedMean_4 (l, (0 : Int), ()) = _ := e
  unfold s_ToleratedMean tolR
  simp only [s_in, e']
  cases h1 : inB (l.length : Int) 1 32 with
  | false => rfl
  | true =>
    have := in_iff.1 h1
    cases ha : l.all (fun v => inB v (-1000000) 1000000) with
    | false => rfl
    | true => simp only [Bool.not_true, if_true, s_mean l (by omega) (by omega) (all_small ha (by omega) (by omega))]
end Go.Proofs.Ytoppfeehgkpjkaa
