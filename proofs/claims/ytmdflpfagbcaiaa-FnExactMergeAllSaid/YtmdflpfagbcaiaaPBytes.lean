/- Plain laws: lists of numbers that are alike, or within a range. -/
import Derived.Test.YtmdflpfagbcaiaaPIn
namespace Go.Proofs.Ytmdflpfagbcaiaa
open Go.RowKit
set_option linter.unusedVariables false
set_option linter.unusedSimpArgs false

theorem allI_ok {X O : Type} {B : X → Option (X ⊕ O)} (n : Nat) (e : Nat → X) (p : Nat → Bool) (fin o : O) (hend : B (e n) = some (.inr fin))
    (hstep : ∀ i (h : i < n), B (e i) = if p i then some (.inl (e (i + 1))) else some (.inr o)) : loopL B (e 0) = some (if (List.range n).all p then fin else o) := by
  have h := all_ok (B := B) (List.range n) e p fin o (by rw [List.length_range]; exact hend) (fun i h => by
    have hi : i < n := by simpa using h
    rw [List.getElem_range]
    exact hstep i hi)
  exact h
theorem all_get {T : Type} [DecidableEq T] (l m : List T) (h : l.length = m.length) : (List.range l.length).all (fun i => l[i]? == m[i]?) = decide (l = m) := by
  rw [Bool.eq_iff_iff, List.all_eq_true, decide_eq_true_eq]
  constructor
  · intro hh
    apply List.ext_getElem?
    intro i
    by_cases hi : i < l.length
    · have := hh i (by simpa using hi)
      simpa using this
    · rw [List.getElem?_eq_none (by omega), List.getElem?_eq_none (by omega)]
  · rintro rfl i _
    simp
theorem same_ok {X O : Type} {B : X → Option (X ⊕ O)} (l m : List Int) (hlm : l.length = m.length) (e : Nat → X) (fin o : O) (hend : B (e l.length) = some (.inr fin))
    (hstep : ∀ i (h : i < l.length) (h' : i < m.length), B (e i) = if l[i] == m[i] then some (.inl (e (i + 1))) else some (.inr o)) : loopL B (e 0) = some (if decide (l = m) then fin else o) := by
  rw [allI_ok (B := B) l.length e (fun i => l[i]? == m[i]?) fin o hend (fun i h => by
    have h' : i < m.length := by omega
    rw [hstep i h h']
    have : (l[i]? == m[i]?) = (l[i] == m[i]) := by rw [List.getElem?_eq_getElem h, List.getElem?_eq_getElem h']; rfl
    rw [this]), all_get l m hlm]
theorem len_ne {l m : List Int} (h : ((l.length : Int) != (m.length : Int)) = true) : decide (l = m) = false := by
  simp at h
  simp
  rintro rfl
  exact h rfl
theorem s_same (l m : List Int) (hl : l.length ≤ 1099511627776) : s_l01Same (l, m, ()) = some (decide (l = m), ()) := by
  unfold s_l01Same
  rcases Bool.eq_false_or_eq_true ((l.length : Int) != (m.length : Int)) with h | h
  · simp only [h, len_ne h]
  · have hlm : l.length = m.length := by simp at h; omega
    have e := same_ok (B := b_s_l01Same_4) l m hlm (fun i => (l, m, (i : Int), ())) (.inl ()) (.inr (false, ())) (by simp only [b_s_l01Same_4, lt_n]) (fun i h h' => by
      simp only [b_s_l01Same_4, lt_i h, next_i h hl, idx_nat h, idx_nat h', onSome, bne]
      rcases Bool.eq_false_or_eq_true (l[i] == m[i]) with h1 | h1 <;> simp only [h1] <;> rfl)
    have e' : loopL b_s_l01Same_4 (l, m, (0 : Int), ()) = _ := e
    simp only [h, e']
    cases decide (l = m) <;> simp
theorem i_same (l m : List Int) (hl : l.length ≤ 1099511627776) : slices_Equal_int64 (l, m, ()) = some (decide (l = m), ()) := by
  unfold slices_Equal_int64
  rcases Bool.eq_false_or_eq_true ((l.length : Int) != (m.length : Int)) with h | h
  · simp only [h, len_ne h]
  · have hlm : l.length = m.length := by simp at h; omega
    have e := same_ok (B := b_slices_Equal_int64_4) l m hlm (fun i => (l, m, (l.length : Int), (i : Int), ())) (.inl ()) (.inr (false, ())) (by simp only [b_slices_Equal_int64_4, lt_n]) (fun i h h' => by
      simp only [b_slices_Equal_int64_4, lt_i h, next_i h hl, idx_nat h, idx_nat h', onSome, bne]
      rcases Bool.eq_false_or_eq_true (l[i] == m[i]) with h1 | h1 <;> simp only [h1] <;> rfl)
    have e' : loopL b_slices_Equal_int64_4 (l, m, (l.length : Int), (0 : Int), ()) = _ := e
    simp only [h, e']
    cases decide (l = m) <;> simp

theorem i_allIn1 (l : List Int) (lo hi : Int) (hl : l.length ≤ 1099511627776) : i_allWithin (l, lo, hi, ()) = some (l.all (fun v => inB v lo hi), ()) := by
  have e := all_ok (B := b_i_allWithin_2) l (fun i => (lo, hi, l, (l.length : Int), (i : Int), ())) (fun v => inB v lo hi) (.inl ()) (.inr (false, ())) (by simp only [b_i_allWithin_2, lt_n]) (fun i h => by
    simp only [b_i_allWithin_2, lt_i h, next_i h hl, idx_nat h, onSome]
    unfold inB
    by_cases h1 : l[i] < lo
    · have h2 : ¬ l[i] ≥ lo := by omega
      simp [h1, h2]
    · have h2 : l[i] ≥ lo := by omega
      by_cases h3 : l[i] > hi
      · have h4 : ¬ l[i] ≤ hi := by omega
        simp [h1, h3, h4]
      · have h4 : l[i] ≤ hi := by omega
        simp [h1, h2, h3, h4])
  have e0 : i_allWithin (l, lo, hi, ()) = match loopL b_i_allWithin_2 (lo, hi, l, (l.length : Int), ((0 : Nat) : Int), ()) with
    | none => none
    | some (.inl _) => some (true, ())
    | some (.inr v3) => some (v3.1, ()) := rfl
  rw [e0, e]
  cases l.all (fun v => inB v lo hi) <;> simp
def bytesB (l : List Int) : Bool := decide ((l.length : Int) ≤ 1024) && l.all (fun v => inB v 0 255)
theorem s_bytes (x) (hl : x.1.length ≤ 1099511627776) : s_IsBytes x = some (bytesB x.1, ()) := by
  obtain ⟨l, u⟩ := x
  have hl : l.length ≤ 1099511627776 := hl
  have e := all_ok (B := b_s_l01All_4) l (fun i => (l, (255 : Int), (i : Int), ())) (fun v => inB v 0 255) (.inl ()) (.inr (false, ())) (by simp only [b_s_l01All_4, lt_n]) (fun i h => by
    simp only [b_s_l01All_4, lt_i h, next_i h hl, idx_nat h, onSome, s_in]
    cases inB l[i] 0 255 <;> simp)
  have e' : loopL b_s_l01All_4 (l, (255 : Int), (0 : Int), ()) = _ := e
  unfold s_IsBytes s_l01All bytesB
  by_cases hc : (l.length : Int) ≤ 1024
  · have h1 : decide ((l.length : Int) > 1024) = false := by simp; omega
    simp only [h1, e', decide_eq_true hc]
    cases l.all (fun v => inB v 0 255) <;> simp
  · have h1 : decide ((l.length : Int) > 1024) = true := by simp; omega
    simp only [h1, decide_eq_false hc]
    simp
theorem i_bytes (x) (hl : x.1.length ≤ 1099511627776) : i_IsBytes x = some (bytesB x.1, ()) := by
  obtain ⟨l, u⟩ := x
  unfold i_IsBytes bytesB
  simp only [i_allIn1 l 0 255 hl]
  rcases Bool.eq_false_or_eq_true (decide ((l.length : Int) ≤ 1024)) with h1 | h1 <;> simp only [h1] <;> simp
end Go.Proofs.Ytmdflpfagbcaiaa
