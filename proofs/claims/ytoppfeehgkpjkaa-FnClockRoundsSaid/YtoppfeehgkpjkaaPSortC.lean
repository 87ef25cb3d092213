/- The library's sort: equal elements, pivots, patterns. -/
import Derived.Test.YtoppfeehgkpjkaaPSortB
namespace Go.Proofs.Ytoppfeehgkpjkaa
open Go.RowKit
set_option linter.unusedVariables false
set_option linter.unusedSimpArgs false

/-! ### partitionEqualOrdered -/
theorem peq3 (d : List Int) (a j i : Nat) (ha : a < d.length) (hj : j < d.length) (hl : d.length ≤ 1000) (hi : i ≤ j + 1) : b_slices_partitionEqualOrdered_int64_3 (st4 d a i j) = if i ≤ j ∧ ¬ nth d a < nth d i then some (.inl (st4 d a (i + 1) j)) else some (.inr (.inl (st4 d a i j))) := by
  show b_slices_partitionEqualOrdered_int64_3 (d, (a : Int), (i : Int), (j : Int), ()) = _
  by_cases h : i ≤ j
  · have h1 : decide ((i : Int) ≤ (j : Int)) = true := by simp; omega
    have hil : i < d.length := by omega
    simp only [b_slices_partitionEqualOrdered_int64_3, st4, h1, idx_nth hil, idx_nth ha, onSome, Int.toNat_natCast, nth_get hil, nth_get ha, less_ok, w_succ (j := i) (by omega)]
    by_cases h2 : nth d a < nth d i
    · simp only [lt_t h2, h, h2, Bool.not_true, not_true, and_false, if_false]
    · simp only [lt_f h2, h, h2, Bool.not_false, not_false_eq_true, and_self, if_true]
  · have h1 : decide ((i : Int) ≤ (j : Int)) = false := by simp; omega
    simp only [b_slices_partitionEqualOrdered_int64_3, st4, h1, h, false_and, if_false]
theorem peq5 (d : List Int) (a i j : Nat) (ha : a < d.length) (hj : j < d.length) (hl : d.length ≤ 1000) (hi : 1 ≤ i) : b_slices_partitionEqualOrdered_int64_5 (st4 d a i j) = if i ≤ j ∧ nth d a < nth d j then some (.inl (st4 d a i (j - 1))) else some (.inr (.inl (st4 d a i j))) := by
  show b_slices_partitionEqualOrdered_int64_5 (d, (a : Int), (i : Int), (j : Int), ()) = _
  by_cases h : i ≤ j
  · have h1 : decide ((i : Int) ≤ (j : Int)) = true := by simp; omega
    simp only [b_slices_partitionEqualOrdered_int64_5, st4, h1, idx_nth hj, idx_nth ha, onSome, Int.toNat_natCast, nth_get hj, nth_get ha, less_ok, w_pred (j := j) (by omega) (by omega)]
    by_cases h2 : nth d a < nth d j
    · simp only [lt_t h2, h, h2, and_self, if_true]
    · simp only [lt_f h2, h, h2, and_false, if_false]
  · have h1 : decide ((i : Int) ≤ (j : Int)) = false := by simp; omega
    simp only [b_slices_partitionEqualOrdered_int64_5, st4, h1, h, false_and, if_false]
theorem peq1003 (d : List Int) (a i j : Nat) (ha : a < d.length) (hj : j < d.length) (hl : d.length ≤ 1000) (hi : 1 ≤ i) (hij : i ≤ j + 1) : ∃ (i' j' : Nat), i ≤ i' ∧ j' ≤ j ∧ i' ≤ j' + 1 ∧ (∀ k, i ≤ k → k < i' → ¬ nth d a < nth d k) ∧ (∀ k, j' < k → k ≤ j → nth d a < nth d k) ∧ (i' ≤ j' → nth d a < nth d i' ∧ ¬ nth d a < nth d j') ∧
    b_slices_partitionEqualOrdered_int64_1003 (st4 d a i j) = if i' ≤ j' then some (.inl (st4 (swp d i' j') a (i' + 1) (j' - 1))) else some (.inr (.inl (d, (i' : Int), ()))) := by
  obtain ⟨i', h1, h2, h3, h4, h5⟩ := scan_up (B := b_slices_partitionEqualOrdered_int64_3) (fun i => st4 d a i j) j (fun i => ¬ nth d a < nth d i) (fun i h => peq3 d a j i ha hj hl h) (j + 1 - i) i (by omega)
  obtain ⟨j', g1, g2, g3, g4, g5⟩ := scan_down (B := b_slices_partitionEqualOrdered_int64_5) (fun j => st4 d a i' j) i' j (by omega) (fun j => nth d a < nth d j) (fun j h => peq5 d a i' j ha (by omega) hl (by omega)) (j + 1 - i') j (by omega) (Nat.le_refl _)
  refine ⟨i', j', h2, g2, g3, h4, g4, fun h => ⟨?_, g5 h⟩, ?_⟩
  · exact Classical.not_not.1 (h5 (by omega))
  show b_slices_partitionEqualOrdered_int64_1003 (d, (a : Int), (i : Int), (j : Int), ()) = _
  have h1' : loopL b_slices_partitionEqualOrdered_int64_3 (d, (a : Int), (i : Int), (j : Int), ()) = some (.inl (d, (a : Int), (i' : Int), (j : Int), ())) := h1
  have h2' : loopL b_slices_partitionEqualOrdered_int64_5 (d, (a : Int), (i' : Int), (j : Int), ()) = some (.inl (d, (a : Int), (i' : Int), (j' : Int), ())) := g1
  by_cases c : i' ≤ j'
  · have hd : decide ((i' : Int) > (j' : Int)) = false := by simp; omega
    have l1 : i' < d.length := by omega
    have l2 : j' < d.length := by omega
    simp only [b_slices_partitionEqualOrdered_int64_1003, st4, h1', h2', hd, idx_nth l1, idx_nth l2, onSome, Int.toNat_natCast, nth_get l1, nth_get l2, set_idx l2, set_get l2, both_x, w_succ (j := i') (by omega), w_pred (j := j') (by omega) (by omega), c, if_true]
    rfl
  · have hd : decide ((i' : Int) > (j' : Int)) = true := by simp; omega
    simp only [b_slices_partitionEqualOrdered_int64_1003, st4, h1', h2', hd, c, if_false]

theorem partEq_ok (d : List Int) (a b p : Nat) (hap : a ≤ p) (hpb : p < b) (hab : a + 1 < b) (hb : b ≤ d.length) (hl : d.length ≤ 1000) : ∃ (m : Nat) (d' : List Int), slices_partitionEqualOrdered_int64 (d, (a : Int), (b : Int), (p : Int), ()) = some ((m : Int), d', ()) ∧ a < m ∧ m ≤ b ∧ Sw a b d d' ∧ (∀ k, a ≤ k → k < m → ¬ nth d p < nth d' k) ∧ (∀ k, m ≤ k → k < b → nth d p < nth d' k) := by
  have lp : p < d.length := by omega
  have la : a < d.length := by omega
  have s0 : Sw a b d (swp d a p) := Sw.one (Nat.le_refl _) (by omega) hap hpb la lp
  have l0 : (swp d a p).length = d.length := swp_len _ _ _
  have ea : nth (swp d a p) a = nth d p := by
    rw [swp_nth la lp]
    by_cases c : a = p
    · subst c; simp
    · rw [if_neg c, if_pos rfl]
  have w1 := w_succ (j := a) (by omega)
  have w2 := w_pred (j := b) (by omega) (by omega)
  obtain ⟨o, h1, h2⟩ := loop_rule (B := b_slices_partitionEqualOrdered_int64_1003) (fun n x => ∃ (d' : List Int) (i j : Nat), x = st4 d' a i j ∧ n = j + 1 - i ∧ a + 1 ≤ i ∧ i ≤ j + 1 ∧ j < b ∧ Sw (a + 1) b (swp d a p) d' ∧ (∀ k, a < k → k < i → ¬ nth d' a < nth d' k) ∧ (∀ k, j < k → k < b → nth d' a < nth d' k))
    (fun o => ∃ (d' : List Int) (m : Nat), o = .inl (d', (m : Int), ()) ∧ Sw (a + 1) b (swp d a p) d' ∧ a < m ∧ m ≤ b ∧ (∀ k, a < k → k < m → ¬ nth d' a < nth d' k) ∧ (∀ k, m ≤ k → k < b → nth d' a < nth d' k)) (by
      rintro n x ⟨d', i, j, rfl, hn, k1, k2, k3, hsw, k4, k5⟩
      have hlen := hsw.len
      obtain ⟨i', j', g1, g2, g3, g4, g5, g6, g7⟩ := peq1003 d' a i j (by omega) (by omega) (by omega) (by omega) k2
      rw [g7]
      by_cases c : i' ≤ j'
      · right
        rw [if_pos c]
        obtain ⟨g8, g9⟩ := g6 c
        have hne : i' ≠ j' := fun e => by subst e; exact g9 g8
        have l1 : i' < d'.length := by omega
        have l2 : j' < d'.length := by omega
        have e := swp_nth l1 l2
        refine ⟨_, j' - 1 + 1 - (i' + 1), rfl, by omega, swp d' i' j', i' + 1, j' - 1, rfl, rfl, by omega, by omega, by omega, .step hsw (by omega) (by omega) (by omega) (by omega) l1 l2, ?_, ?_⟩
        · intro k h1 h2
          rw [e, e, if_neg (show ¬ k = j' by omega), if_neg (show ¬ a = j' by omega), if_neg (show ¬ a = i' by omega)]
          by_cases c1 : k = i'
          · rw [if_pos c1]; exact g9
          · rw [if_neg c1]
            by_cases c2 : k < i
            · exact k4 k h1 c2
            · exact g4 k (by omega) (by omega)
        · intro k h1 h2
          rw [e, e, if_neg (show ¬ a = j' by omega), if_neg (show ¬ a = i' by omega)]
          by_cases c1 : k = j'
          · rw [if_pos c1]; exact g8
          · rw [if_neg c1, if_neg (show ¬ k = i' by omega)]
            by_cases c2 : k ≤ j
            · exact g5 k (by omega) c2
            · exact k5 k (by omega) h2
      · left
        rw [if_neg c]
        refine ⟨_, rfl, d', i', rfl, hsw, by omega, by omega, fun k h1 h2 => ?_, fun k h1 h2 => ?_⟩
        · by_cases c2 : k < i
          · exact k4 k h1 c2
          · exact g4 k (by omega) (by omega)
        · by_cases c2 : k ≤ j
          · exact g5 k (by omega) c2
          · exact k5 k (by omega) h2) (b - 1 + 1 - (a + 1)) (st4 (swp d a p) a (a + 1) (b - 1)) ⟨swp d a p, a + 1, b - 1, rfl, rfl, Nat.le_refl _, by omega, by omega, .refl, fun k h1 h2 => by omega, fun k h1 h2 => by omega⟩
  obtain ⟨d', m, rfl, h3, h4, h5, h6, h7⟩ := h2
  have e' : nth d' a = nth d p := by rw [h3.out (.inl (by omega)), ea]
  refine ⟨m, d', ?_, h4, h5, s0.trans (h3.mono (by omega) (Nat.le_refl _)), fun k k1 k2 => ?_, fun k k1 k2 => ?_⟩
  · have h1' : loopL b_slices_partitionEqualOrdered_int64_1003 ((d.set a (nth d p)).set p (nth d a), (a : Int), ((a + 1 : Nat) : Int), ((b - 1 : Nat) : Int), ()) = some (.inl (d', (m : Int), ())) := h1
    simp only [slices_partitionEqualOrdered_int64, w1, w2, idx_nth la, idx_nth lp, onSome, Int.toNat_natCast, nth_get la, nth_get lp, set_idx lp, set_get lp, both_x, h1']
  · by_cases c : k = a
    · subst c; rw [e']; omega
    · have := h6 k (by omega) k2
      rw [e'] at this; exact this
  · have := h7 k k1 k2
    rw [e'] at this; exact this

/-! ### partialInsertionSortOrdered, below 50 -/
abbrev St5 := Ty.T (.pair (.own 2 (.int .i64)) (.pair (.int .i64) (.pair (.int .i64) (.pair (.int .i64) (.pair (.int .i64) .unit)))))
def st5 (d : List Int) (a b i : Nat) : St5 := (d, (a : Int), (b : Int), (i : Int), (0 : Int), ())
theorem pin5 (d : List Int) (a b i : Nat) (hb : b ≤ d.length) (hl : d.length ≤ 1000) (hi : 1 ≤ i) : b_slices_partialInsertionSortOrdered_int64_5 (st5 d a b i) = if i < b ∧ ¬ nth d i < nth d (i - 1) then some (.inl (st5 d a b (i + 1))) else some (.inr (.inl (st5 d a b i))) := by
  show b_slices_partialInsertionSortOrdered_int64_5 (d, (a : Int), (b : Int), (i : Int), (0 : Int), ()) = _
  by_cases h : i < b
  · have h1 : decide ((i : Int) < (b : Int)) = true := by simp; omega
    have hil : i < d.length := by omega
    have hil1 : i - 1 < d.length := by omega
    simp only [b_slices_partialInsertionSortOrdered_int64_5, st5, h1, idx_nth hil, idx_nth hil1, onSome, Int.toNat_natCast, nth_get hil, nth_get hil1, less_ok, w_succ (j := i) (by omega), w_pred (j := i) (by omega) (by omega)]
    by_cases h2 : nth d i < nth d (i - 1)
    · simp only [lt_t h2, h, h2, Bool.not_true, not_true, and_false, if_false]
    · simp only [lt_f h2, h, h2, Bool.not_false, not_false_eq_true, and_self, if_true]
  · have h1 : decide ((i : Int) < (b : Int)) = false := by simp; omega
    simp only [b_slices_partialInsertionSortOrdered_int64_5, st5, h1, h, false_and, if_false]
theorem pin_scan (d : List Int) (a b : Nat) (hb : b ≤ d.length) (hl : d.length ≤ 1000) : ∀ (n i : Nat), i + n = b → 1 ≤ i → ∃ i', loopL b_slices_partialInsertionSortOrdered_int64_5 (st5 d a b i) = some (.inl (st5 d a b i')) ∧ i' ≤ b ∧ (∀ k, i ≤ k → k < i' → ¬ nth d k < nth d (k - 1))
  | 0, i, h, hi => ⟨i, by rw [loopL_eq, pin5 d a b i hb hl hi, if_neg (by omega)], by omega, fun k h1 h2 => by omega⟩
  | n + 1, i, h, hi => by
    by_cases hc : i < b ∧ ¬ nth d i < nth d (i - 1)
    · obtain ⟨i', h1, h2, h3⟩ := pin_scan d a b hb hl n (i + 1) (by omega) (by omega)
      refine ⟨i', by rw [loopL_eq, pin5 d a b i hb hl hi, if_pos hc]; exact h1, h2, fun k h6 h7 => ?_⟩
      by_cases e : k = i
      · subst e; exact hc.2
      · exact h3 k (by omega) h7
    · exact ⟨i, by rw [loopL_eq, pin5 d a b i hb hl hi, if_neg hc], by omega, fun k h1 h2 => by omega⟩
theorem partIns_ok (d : List Int) (a b : Nat) (hab : a < b) (hb : b ≤ d.length) (hl : d.length ≤ 32) : ∃ q : Bool, slices_partialInsertionSortOrdered_int64 (d, (a : Int), (b : Int), ()) = some (q, d, ()) ∧ (q = true → Srt a b d) := by
  obtain ⟨i, h1, h2, h3⟩ := pin_scan d a b hb (by omega) (b - (a + 1)) (a + 1) (by omega) (by omega)
  have h1' : loopL b_slices_partialInsertionSortOrdered_int64_5 (d, (a : Int), (b : Int), ((a + 1 : Nat) : Int), (0 : Int), ()) = some (.inl (d, (a : Int), (b : Int), (i : Int), (0 : Int), ())) := h1
  have w1 := w_succ (j := a) (by omega)
  have w3 : IntKind.i64.wrap ((b : Int) - (a : Int)) = ((b - a : Nat) : Int) := by rw [wrap_i64] <;> omega
  have d5 : decide ((0 : Int) < 5) = true := rfl
  have d50 : decide (((b - a : Nat) : Int) < 50) = true := by simp; omega
  by_cases c : i = b
  · refine ⟨true, ?_, fun _ => Srt.step fun k k1 k2 => ?_⟩
    · have e : ((i : Int) == (b : Int)) = true := by simp [c]
      have e3 : b_slices_partialInsertionSortOrdered_int64_3 (d, (a : Int), (b : Int), ((a + 1 : Nat) : Int), (0 : Int), ()) = some (.inr (.inr (d, true, ()))) := by
        simp only [b_slices_partialInsertionSortOrdered_int64_3, d5, h1', e]
      unfold slices_partialInsertionSortOrdered_int64
      simp only [w1]
      rw [loopL_eq, e3]
    · have := h3 (k + 1) (by omega) (by omega)
      rw [Nat.add_sub_cancel] at this
      omega
  · refine ⟨false, ?_, fun h => by cases h⟩
    have e : ((i : Int) == (b : Int)) = false := by simp; omega
    have e3 : b_slices_partialInsertionSortOrdered_int64_3 (d, (a : Int), (b : Int), ((a + 1 : Nat) : Int), (0 : Int), ()) = some (.inr (.inr (d, false, ()))) := by
      simp only [b_slices_partialInsertionSortOrdered_int64_3, d5, h1', e, w3, d50]
    unfold slices_partialInsertionSortOrdered_int64
    simp only [w1]
    rw [loopL_eq, e3]

/-! ### reverseRangeOrdered -/
theorem rev_ok (d : List Int) (a b : Nat) (hab : a < b) (hb : b ≤ d.length) (hl : d.length ≤ 1000) : ∃ d', slices_reverseRangeOrdered_int64 (d, (a : Int), (b : Int), ()) = some (d', ()) ∧ Sw a b d d' := by
  obtain ⟨o, h1, h2⟩ := loop_rule (B := b_slices_reverseRangeOrdered_int64_2) (fun n x => ∃ (d' : List Int) (i j : Nat), x = (d', (i : Int), (j : Int), ()) ∧ n = j + 1 - i ∧ a ≤ i ∧ j < b ∧ Sw a b d d')
    (fun o => ∃ d', o = .inl (d', ()) ∧ Sw a b d d') (by
      rintro n x ⟨d', i, j, rfl, hn, k1, k2, hsw⟩
      have hlen := hsw.len
      by_cases c : i < j
      · right
        have hd : decide ((i : Int) < (j : Int)) = true := by simp; omega
        have l1 : i < d'.length := by omega
        have l2 : j < d'.length := by omega
        refine ⟨(swp d' i j, ((i + 1 : Nat) : Int), ((j - 1 : Nat) : Int), ()), j - 1 + 1 - (i + 1), ?_, by omega, _, i + 1, j - 1, rfl, rfl, by omega, by omega, .step hsw (by omega) (by omega) (by omega) (by omega) l1 l2⟩
        simp only [b_slices_reverseRangeOrdered_int64_2, hd, idx_nth l1, idx_nth l2, onSome, Int.toNat_natCast, nth_get l1, nth_get l2, set_idx l2, set_get l2, both_x, w_succ (j := i) (by omega), w_pred (j := j) (by omega) (by omega)]
        rfl
      · left
        have hd : decide ((i : Int) < (j : Int)) = false := by simp; omega
        exact ⟨_, by simp only [b_slices_reverseRangeOrdered_int64_2, hd], d', rfl, hsw⟩) (b - 1 + 1 - a) (d, (a : Int), ((b - 1 : Nat) : Int), ()) ⟨d, a, b - 1, rfl, rfl, Nat.le_refl _, by omega, .refl⟩
  obtain ⟨d', rfl, h3⟩ := h2
  refine ⟨d', ?_, h3⟩
  unfold slices_reverseRangeOrdered_int64
  simp only [w_pred (j := b) (by omega) (by omega), h1]

/-! ### choosePivotOrdered, below 50 -/
theorem order2_ok (d : List Int) (i j : Nat) (s : Int) (hi : i < d.length) (hj : j < d.length) : ∃ (p q : Nat) (s' : Int), slices_order2Ordered_int64 (d, (i : Int), (j : Int), s, ()) = some ((p : Int), (q : Int), s', ()) ∧ ((p = i ∧ q = j) ∨ (p = j ∧ q = i)) := by
  have e : slices_order2Ordered_int64 (d, (i : Int), (j : Int), s, ()) = match ltB (nth d j) (nth d i) with
    | true => some ((j : Int), (i : Int), IntKind.i64.wrap (s + 1), ())
    | false => some ((i : Int), (j : Int), s, ()) := by
    simp only [slices_order2Ordered_int64, idx_nth hi, idx_nth hj, onSome, Int.toNat_natCast, nth_get hi, nth_get hj, less_ok]
    rfl
  rw [e]
  cases ltB (nth d j) (nth d i)
  · exact ⟨i, j, s, rfl, .inl ⟨rfl, rfl⟩⟩
  · exact ⟨j, i, _, rfl, .inr ⟨rfl, rfl⟩⟩
theorem median_ok (d : List Int) (i j k : Nat) (s : Int) (hi : i < d.length) (hj : j < d.length) (hk : k < d.length) : ∃ (p : Nat) (s' : Int), slices_medianOrdered_int64 (d, (i : Int), (j : Int), (k : Int), s, ()) = some ((p : Int), s', ()) ∧ (p = i ∨ p = j ∨ p = k) := by
  obtain ⟨p1, q1, s1, h1, g1⟩ := order2_ok d i j s hi hj
  obtain ⟨p2, q2, s2, h2, g2⟩ := order2_ok d q1 k s1 (by omega) hk
  obtain ⟨p3, q3, s3, h3, g3⟩ := order2_ok d p1 p2 s2 (by omega) (by omega)
  refine ⟨q3, s3, ?_, by omega⟩
  simp only [slices_medianOrdered_int64, h1, h2, h3]
theorem choose_ok (d : List Int) (a b : Nat) (hab : a + 12 < b) (hb : b ≤ d.length) (hl : d.length ≤ 32) : ∃ (p : Nat) (h : Int), slices_choosePivotOrdered_int64 (d, (a : Int), (b : Int), ()) = some ((p : Int), h, d, ()) ∧ a ≤ p ∧ p < b ∧ (h = 0 ∨ h = 1 ∨ h = 2) := by
  have w3 : IntKind.i64.wrap ((b : Int) - (a : Int)) = ((b - a : Nat) : Int) := by rw [wrap_i64] <;> omega
  have d8 : decide (((b - a : Nat) : Int) ≥ 8) = true := by simp; omega
  have d50 : decide (((b - a : Nat) : Int) ≥ 50) = false := by simp; omega
  have t4 : Int.tdiv ((b - a : Nat) : Int) 4 = (((b - a) / 4 : Nat) : Int) := by rw [Int.tdiv_eq_ediv_of_nonneg (by omega)]; omega
  have w4 : IntKind.i64.wrap (((b - a) / 4 : Nat) : Int) = (((b - a) / 4 : Nat) : Int) := by rw [wrap_i64] <;> omega
  generalize hq : (b - a) / 4 = q at t4 w4
  have m1 : IntKind.i64.wrap ((q : Int) * 1) = ((q * 1 : Nat) : Int) := by rw [wrap_i64] <;> omega
  have m2 : IntKind.i64.wrap ((q : Int) * 2) = ((q * 2 : Nat) : Int) := by rw [wrap_i64] <;> omega
  have m3 : IntKind.i64.wrap ((q : Int) * 3) = ((q * 3 : Nat) : Int) := by rw [wrap_i64] <;> omega
  have a1 : IntKind.i64.wrap ((a : Int) + ((q * 1 : Nat) : Int)) = ((a + q * 1 : Nat) : Int) := by rw [wrap_i64] <;> omega
  have a2 : IntKind.i64.wrap ((a : Int) + ((q * 2 : Nat) : Int)) = ((a + q * 2 : Nat) : Int) := by rw [wrap_i64] <;> omega
  have a3 : IntKind.i64.wrap ((a : Int) + ((q * 3 : Nat) : Int)) = ((a + q * 3 : Nat) : Int) := by rw [wrap_i64] <;> omega
  obtain ⟨p, s, h1, h2⟩ := median_ok d (a + q * 1) (a + q * 2) (a + q * 3) 0 (by omega) (by omega) (by omega)
  have key : slices_choosePivotOrdered_int64 (d, (a : Int), (b : Int), ()) = match (s == (0 : Int)) with
    | true => some ((p : Int), (1 : Int), d, ())
    | false => match (s == (12 : Int)) with
      | true => some ((p : Int), (2 : Int), d, ())
      | false => some ((p : Int), (0 : Int), d, ()) := by
    simp only [slices_choosePivotOrdered_int64, w3, d8, d50, t4, w4, m1, m2, m3, a1, a2, a3, h1]
    rfl
  rw [key]
  cases (s == (0 : Int))
  · cases (s == (12 : Int))
    · exact ⟨p, 0, rfl, by omega, by omega, .inl rfl⟩
    · exact ⟨p, 2, rfl, by omega, by omega, .inr (.inr rfl)⟩
  · exact ⟨p, 1, rfl, by omega, by omega, .inr (.inl rfl)⟩

/-! ### breakPatternsOrdered -/
theorem and_u64_le (v : Int) (m : Nat) (hm : m < 9223372036854775808) : ∃ k : Nat, bits .and .u64 v (m : Int) = (k : Int) ∧ k ≤ m := by
  have h2 : (BitVec.ofInt 64 (m : Int)).toNat = m := by
    rw [BitVec.ofInt_natCast, BitVec.toNat_ofNat]; exact Nat.mod_eq_of_lt (by omega)
  refine ⟨(BitVec.ofInt 64 v).toNat &&& m, ?_, Nat.and_le_right⟩
  have hx : (BitVec.ofInt 64 v).toNat &&& m ≤ m := Nat.and_le_right
  show IntKind.u64.wrap ((BitVec.ofInt 64 v &&& BitVec.ofInt 64 (m : Int)).toNat : Int) = _
  rw [BitVec.toNat_and, h2]
  generalize (BitVec.ofInt 64 v).toNat &&& m = x at hx
  simp [IntKind.wrap, IntKind.signed, IntKind.bits]
  omega
theorem xor_ok (r : Int) : ∃ v r' : Int, slices_xorshift_Next (r, ()) = some (v, r', ()) := by
  unfold slices_xorshift_Next same
  simp only [both_x]
  exact ⟨_, _, rfl⟩
theorem pow_ok (n : Nat) (h1 : 12 ≤ n) (h2 : n ≤ 32) : ∃ m : Nat, slices_nextPowerOfTwo ((n : Int), ()) = some ((m : Int), ()) ∧ 1 ≤ m ∧ m ≤ 2 * n := by
  have : n = 12 ∨ n = 13 ∨ n = 14 ∨ n = 15 ∨ n = 16 ∨ n = 17 ∨ n = 18 ∨ n = 19 ∨ n = 20 ∨ n = 21 ∨ n = 22 ∨ n = 23 ∨ n = 24 ∨ n = 25 ∨ n = 26 ∨ n = 27 ∨ n = 28 ∨ n = 29 ∨ n = 30 ∨ n = 31 ∨ n = 32 := by omega
  rcases this with rfl | rfl | rfl | rfl | rfl | rfl | rfl | rfl | rfl | rfl | rfl | rfl | rfl | rfl | rfl | rfl | rfl | rfl | rfl | rfl | rfl
  · exact ⟨16, by kernel_rfl, by omega, by omega⟩
  · exact ⟨16, by kernel_rfl, by omega, by omega⟩
  · exact ⟨16, by kernel_rfl, by omega, by omega⟩
  · exact ⟨16, by kernel_rfl, by omega, by omega⟩
  · exact ⟨32, by kernel_rfl, by omega, by omega⟩
  · exact ⟨32, by kernel_rfl, by omega, by omega⟩
  · exact ⟨32, by kernel_rfl, by omega, by omega⟩
  · exact ⟨32, by kernel_rfl, by omega, by omega⟩
  · exact ⟨32, by kernel_rfl, by omega, by omega⟩
  · exact ⟨32, by kernel_rfl, by omega, by omega⟩
  · exact ⟨32, by kernel_rfl, by omega, by omega⟩
  · exact ⟨32, by kernel_rfl, by omega, by omega⟩
  · exact ⟨32, by kernel_rfl, by omega, by omega⟩
  · exact ⟨32, by kernel_rfl, by omega, by omega⟩
  · exact ⟨32, by kernel_rfl, by omega, by omega⟩
  · exact ⟨32, by kernel_rfl, by omega, by omega⟩
  · exact ⟨32, by kernel_rfl, by omega, by omega⟩
  · exact ⟨32, by kernel_rfl, by omega, by omega⟩
  · exact ⟨32, by kernel_rfl, by omega, by omega⟩
  · exact ⟨32, by kernel_rfl, by omega, by omega⟩
  · exact ⟨64, by kernel_rfl, by omega, by omega⟩
theorem len_ok (n : Nat) (h2 : n ≤ 32) : ∃ m : Nat, math_bits_Len (IntKind.u64.wrap (n : Int), ()) = some ((m : Int), ()) ∧ m ≤ 6 := by
  have : n = 0 ∨ n = 1 ∨ n = 2 ∨ n = 3 ∨ n = 4 ∨ n = 5 ∨ n = 6 ∨ n = 7 ∨ n = 8 ∨ n = 9 ∨ n = 10 ∨ n = 11 ∨ n = 12 ∨ n = 13 ∨ n = 14 ∨ n = 15 ∨ n = 16 ∨ n = 17 ∨ n = 18 ∨ n = 19 ∨ n = 20 ∨ n = 21 ∨ n = 22 ∨ n = 23 ∨ n = 24 ∨ n = 25 ∨ n = 26 ∨ n = 27 ∨ n = 28 ∨ n = 29 ∨ n = 30 ∨ n = 31 ∨ n = 32 := by omega
  rcases this with rfl | rfl | rfl | rfl | rfl | rfl | rfl | rfl | rfl | rfl | rfl | rfl | rfl | rfl | rfl | rfl | rfl | rfl | rfl | rfl | rfl | rfl | rfl | rfl | rfl | rfl | rfl | rfl | rfl | rfl | rfl | rfl | rfl
  · exact ⟨0, by kernel_rfl, by omega⟩
  · exact ⟨1, by kernel_rfl, by omega⟩
  · exact ⟨2, by kernel_rfl, by omega⟩
  · exact ⟨2, by kernel_rfl, by omega⟩
  · exact ⟨3, by kernel_rfl, by omega⟩
  · exact ⟨3, by kernel_rfl, by omega⟩
  · exact ⟨3, by kernel_rfl, by omega⟩
  · exact ⟨3, by kernel_rfl, by omega⟩
  · exact ⟨4, by kernel_rfl, by omega⟩
  · exact ⟨4, by kernel_rfl, by omega⟩
  · exact ⟨4, by kernel_rfl, by omega⟩
  · exact ⟨4, by kernel_rfl, by omega⟩
  · exact ⟨4, by kernel_rfl, by omega⟩
  · exact ⟨4, by kernel_rfl, by omega⟩
  · exact ⟨4, by kernel_rfl, by omega⟩
  · exact ⟨4, by kernel_rfl, by omega⟩
  · exact ⟨5, by kernel_rfl, by omega⟩
  · exact ⟨5, by kernel_rfl, by omega⟩
  · exact ⟨5, by kernel_rfl, by omega⟩
  · exact ⟨5, by kernel_rfl, by omega⟩
  · exact ⟨5, by kernel_rfl, by omega⟩
  · exact ⟨5, by kernel_rfl, by omega⟩
  · exact ⟨5, by kernel_rfl, by omega⟩
  · exact ⟨5, by kernel_rfl, by omega⟩
  · exact ⟨5, by kernel_rfl, by omega⟩
  · exact ⟨5, by kernel_rfl, by omega⟩
  · exact ⟨5, by kernel_rfl, by omega⟩
  · exact ⟨5, by kernel_rfl, by omega⟩
  · exact ⟨5, by kernel_rfl, by omega⟩
  · exact ⟨5, by kernel_rfl, by omega⟩
  · exact ⟨5, by kernel_rfl, by omega⟩
  · exact ⟨5, by kernel_rfl, by omega⟩
  · exact ⟨6, by kernel_rfl, by omega⟩

theorem brk5 (d : List Int) (a n i : Nat) (r : Int) (m : Nat) (hn : 12 ≤ n) (hl : a + n ≤ d.length) (h32 : d.length ≤ 32) (hm : 1 ≤ m) (hm2 : m ≤ 2 * n) (hi : i ≤ a + n / 4 * 2 + 1) : ∃ (j : Nat) (r' : Int), a ≤ j ∧ j < a + n ∧ b_slices_breakPatternsOrdered_int64_5 (d, (a : Int), (n : Int), r, (m : Int), (i : Int), ()) = some (.inl (swp d i j, (a : Int), (n : Int), r', (m : Int), ((i + 1 : Nat) : Int), ())) := by
  obtain ⟨v, r', hx⟩ := xor_ok r
  have wm : IntKind.u64.wrap ((m : Int) - 1) = ((m - 1 : Nat) : Int) := by
    simp [IntKind.wrap, IntKind.signed, IntKind.bits]
    omega
  obtain ⟨k, hk, hk2⟩ := and_u64_le v (m - 1) (by omega)
  have wk : IntKind.i64.wrap (k : Int) = (k : Int) := by rw [wrap_i64] <;> omega
  have t4 : Int.tdiv (n : Int) 4 = ((n / 4 : Nat) : Int) := by rw [Int.tdiv_eq_ediv_of_nonneg (by omega)]; omega
  have w4 : IntKind.i64.wrap ((n / 4 : Nat) : Int) = ((n / 4 : Nat) : Int) := by rw [wrap_i64] <;> omega
  have hn4 : n / 4 ≤ n := Nat.div_le_self _ _
  have hq : n / 4 * 2 + 1 < n := by omega
  generalize n / 4 = q at t4 w4 hi hq hn4
  have m2 : IntKind.i64.wrap ((q : Int) * 2) = ((q * 2 : Nat) : Int) := by rw [wrap_i64] <;> omega
  have a2 : IntKind.i64.wrap ((a : Int) + ((q * 2 : Nat) : Int)) = ((a + q * 2 : Nat) : Int) := by rw [wrap_i64] <;> omega
  have a3 : IntKind.i64.wrap (((a + q * 2 : Nat) : Int) + 1) = ((a + q * 2 + 1 : Nat) : Int) := by rw [wrap_i64] <;> omega
  have hd : decide ((i : Int) ≤ ((a + q * 2 + 1 : Nat) : Int)) = true := by simp; omega
  have li : i < d.length := by omega
  by_cases c : k ≥ n
  · have hc : decide ((k : Int) ≥ (n : Int)) = true := by simp; omega
    have e1 : IntKind.i64.wrap ((k : Int) - (n : Int)) = ((k - n : Nat) : Int) := by rw [wrap_i64] <;> omega
    have e2 : IntKind.i64.wrap ((a : Int) + ((k - n : Nat) : Int)) = ((a + (k - n) : Nat) : Int) := by rw [wrap_i64] <;> omega
    have lj : a + (k - n) < d.length := by omega
    refine ⟨a + (k - n), r', by omega, by omega, ?_⟩
    simp only [b_slices_breakPatternsOrdered_int64_5, t4, w4, m2, a2, a3, hd, hx, wm, hk, wk, hc, e1, e2, idx_nth li, idx_nth lj, onSome, Int.toNat_natCast, nth_get li, nth_get lj, set_idx lj, set_get lj, both_x, w_succ (j := i) (by omega)]
    rfl
  · have hc : decide ((k : Int) ≥ (n : Int)) = false := by simp; omega
    have e2 : IntKind.i64.wrap ((a : Int) + (k : Int)) = ((a + k : Nat) : Int) := by rw [wrap_i64] <;> omega
    have lj : a + k < d.length := by omega
    refine ⟨a + k, r', by omega, by omega, ?_⟩
    simp only [b_slices_breakPatternsOrdered_int64_5, t4, w4, m2, a2, a3, hd, hx, wm, hk, wk, hc, e2, idx_nth li, idx_nth lj, onSome, Int.toNat_natCast, nth_get li, nth_get lj, set_idx lj, set_get lj, both_x, w_succ (j := i) (by omega)]
    rfl
theorem brk_ok (d : List Int) (a b : Nat) (hab : a + 12 < b) (hb : b ≤ d.length) (hl : d.length ≤ 32) : ∃ d', slices_breakPatternsOrdered_int64 (d, (a : Int), (b : Int), ()) = some (d', ()) ∧ Sw a b d d' := by
  obtain ⟨n, rfl⟩ : ∃ n, b = a + n := ⟨b - a, by omega⟩
  have w3 : IntKind.i64.wrap (((a + n : Nat) : Int) - (a : Int)) = (n : Int) := by rw [wrap_i64] <;> omega
  have d8 : decide ((n : Int) ≥ 8) = true := by simp; omega
  obtain ⟨m, hm, hm1, hm2⟩ := pow_ok n (by omega) (by omega)
  have t4 : Int.tdiv (n : Int) 4 = ((n / 4 : Nat) : Int) := by rw [Int.tdiv_eq_ediv_of_nonneg (by omega)]; omega
  have w4 : IntKind.i64.wrap ((n / 4 : Nat) : Int) = ((n / 4 : Nat) : Int) := by rw [wrap_i64] <;> omega
  have m2 : IntKind.i64.wrap (((n / 4 : Nat) : Int) * 2) = ((n / 4 * 2 : Nat) : Int) := by rw [wrap_i64] <;> omega
  have a2 : IntKind.i64.wrap ((a : Int) + ((n / 4 * 2 : Nat) : Int)) = ((a + n / 4 * 2 : Nat) : Int) := by rw [wrap_i64] <;> omega
  have a3 : IntKind.i64.wrap (((a + n / 4 * 2 : Nat) : Int) - 1) = ((a + n / 4 * 2 - 1 : Nat) : Int) := by rw [wrap_i64] <;> omega
  have hq : n / 4 * 2 + 1 < n := by omega
  obtain ⟨o, h1, h2⟩ := loop_rule (B := b_slices_breakPatternsOrdered_int64_5) (fun k x => ∃ (d' : List Int) (i : Nat) (r : Int), x = (d', (a : Int), (n : Int), r, (m : Int), (i : Int), ()) ∧ k = a + n / 4 * 2 + 2 - i ∧ a ≤ i ∧ i ≤ a + n / 4 * 2 + 2 ∧ Sw a (a + n) d d')
    (fun o => ∃ d', o = .inl (d', ()) ∧ Sw a (a + n) d d') (by
      rintro k x ⟨d', i, r, rfl, hk, k1, k2, hsw⟩
      have hlen := hsw.len
      by_cases c : i ≤ a + n / 4 * 2 + 1
      · right
        obtain ⟨j, r', g1, g2, g3⟩ := brk5 d' a n i r m (by omega) (by omega) (by omega) hm1 hm2 c
        exact ⟨_, a + n / 4 * 2 + 2 - (i + 1), g3, by omega, _, i + 1, r', rfl, rfl, by omega, by omega, .step hsw (by omega) (by omega) g1 g2 (by omega) (by omega)⟩
      · left
        have a4 : IntKind.i64.wrap (((a + n / 4 * 2 : Nat) : Int) + 1) = ((a + n / 4 * 2 + 1 : Nat) : Int) := by rw [wrap_i64] <;> omega
        have hd : decide ((i : Int) ≤ ((a + n / 4 * 2 + 1 : Nat) : Int)) = false := by simp; omega
        exact ⟨_, by simp only [b_slices_breakPatternsOrdered_int64_5, t4, w4, m2, a2, a4, hd], d', rfl, hsw⟩) (a + n / 4 * 2 + 2 - (a + n / 4 * 2 - 1)) (d, (a : Int), (n : Int), IntKind.u64.wrap (n : Int), (m : Int), ((a + n / 4 * 2 - 1 : Nat) : Int), ()) ⟨d, a + n / 4 * 2 - 1, _, rfl, rfl, by omega, by omega, .refl⟩
  obtain ⟨d', rfl, h3⟩ := h2
  refine ⟨d', ?_, h3⟩
  unfold slices_breakPatternsOrdered_int64
  simp only [w3, d8, hm, t4, w4, m2, a2, a3, h1]
end Go.Proofs.Ytoppfeehgkpjkaa
