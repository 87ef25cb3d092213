/- Plain laws: clocks. -/
import Derived.Test.YtoppfeehgkpjkaaPIn
namespace Go.Proofs.Ytoppfeehgkpjkaa
open Go.RowKit
set_option linter.unusedVariables false
set_option linter.unusedSimpArgs false

theorem s_all (x) (hl : x.1.length ≤ 1099511627776) : s_l30All x = some (x.1.all (fun v => inB v 0 1000000000), ()) := by
  obtain ⟨l, u⟩ := x
  have hl : l.length ≤ 1099511627776 := hl
  have e := all_ok (B := b_s_l30All_2) l (fun i => (l, (i : Int), ())) (fun v => inB v 0 1000000000) (.inl ()) (.inr (false, ())) (by simp only [b_s_l30All_2, lt_n]) (fun i h => by
    simp only [b_s_l30All_2, lt_i h, next_i h hl, idx_nat h, onSome, s_in]
    cases inB l[i] 0 1000000000 <;> simp)
  have e0 : s_l30All (l, u) = match loopL b_s_l30All_2 (l, ((0 : Nat) : Int), ()) with
    | none => none
    | some (.inl _) => some (true, ())
    | some (.inr v4) => some (v4.1, ()) := rfl
  rw [e0, e]
  cases l.all (fun v => inB v 0 1000000000) <;> simp

theorem i_all1 (l : List Int) (lo hi : Int) (hl : l.length ≤ 1099511627776) : i_allWithin (l, lo, hi, ()) = some (l.all (fun v => inB v lo hi), ()) := by
  have e := all_ok (B := b_i_allWithin_2) l (fun i => (lo, hi, l, (l.length : Int), (i : Int), ())) (fun v => inB v lo hi) (.inl ()) (.inr (false, ())) (by simp only [b_i_allWithin_2, lt_n]) (fun i h => by
    simp only [b_i_allWithin_2, lt_i h, next_i h hl, idx_nat h, onSome]
    unfold inB
    by_cases h1 : l[i] < lo
    · have h2 : ¬ l[i] ≥ lo := by omega
      simp [h1, h2]
    · have h2 : l[i] ≥ lo := by omega
      by_cases h3 : l[i] > hi
      · have h4 : ¬ l[i] ≤ hi := by omega
        simp [h1, h3, h4]
      · have h4 : l[i] ≤ hi := by omega
        simp [h1, h2, h3, h4])
  have e0 : i_allWithin (l, lo, hi, ()) = match loopL b_i_allWithin_2 (lo, hi, l, (l.length : Int), ((0 : Nat) : Int), ()) with
    | none => none
    | some (.inl _) => some (true, ())
    | some (.inr v3) => some (v3.1, ()) := rfl
  rw [e0, e]
  cases l.all (fun v => inB v lo hi) <;> simp
theorem i_all (x) (hl : x.1.length ≤ 1099511627776) : i_allWithin x = some (x.1.all (fun v => inB v x.2.1 x.2.2.1), ()) := i_all1 x.1 x.2.1 x.2.2.1 hl

/-- May it be a list of clocks? -/
def clocksB (l : List Int) : Bool := inB l.length 1 32 && l.all (fun v => inB v 0 1000000000)
theorem s_clocks (x) (hl : x.1.length ≤ 1099511627776) : s_l30Clocks x = some (clocksB x.1, ()) := by
  unfold s_l30Clocks clocksB
  simp only [s_in, s_all (x.1, ()) hl]
  cases inB (x.1.length : Int) 1 32 <;> rfl
theorem i_clocks (x) (hl : x.1.length ≤ 1099511627776) : i_areClocks x = some (clocksB x.1, ()) := by
  unfold i_areClocks clocksB
  simp only [i_all (x.1, 0, 1000000000, ()) hl]
  unfold inB
  cases decide ((x.1.length : Int) ≥ 1) <;> cases decide ((x.1.length : Int) ≤ 32) <;> rfl
end Go.Proofs.Ytoppfeehgkpjkaa
