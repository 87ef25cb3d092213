/- Plain laws: losses. -/
import Derived.Test.YtgjbodfkjfieaaaPMark
namespace Go.Proofs.Ytgjbodfkjfieaaa
open Go.RowKit
set_option linter.unusedVariables false
set_option linter.unusedSimpArgs false

abbrev nodeM (m : TMark.T) : Int := m.2.1
abbrev statM (m : TMark.T) : Int := m.2.2.1

/-- What FirstLoss answers. -/
noncomputable def firstLossR (l : List TMark.T) : Int × Int × Unit := if traceB l then (match firstI (fun m : TMark.T => statM m != 3) 0 l with | none => (0, 4, ()) | some i => ((i : Int), 0, ())) else (0, 1, ())
theorem s_firstLoss (l : List TMark.T) (hl : l.length ≤ 1099511627776) : s_FirstLoss (l, ()) = some (firstLossR l) := by
  have e := first_ok (B := b_s_FirstLoss_4) l (fun i => (l, (i : Int), ())) (fun m : TMark.T => statM m != 3) (.inl ()) (fun i => .inr ((i : Int), (0 : Int), ())) (by simp only [b_s_FirstLoss_4, lt_n]) (fun i h => by
    simp only [b_s_FirstLoss_4, lt_i h, next_i h hl, idx_nat h, onSome, statM]
    rcases Bool.eq_false_or_eq_true (l[i].2.2.1 != (3 : Int)) with h1 | h1 <;> simp only [h1] <;> rfl)
  have e' : loopL b_s_FirstLoss_4 (l, (0 : Int), ()) = _ := e
  unfold s_FirstLoss firstLossR
  simp only [s_trace, hl, e']
  cases traceB l
  · rfl
  · cases firstI (fun m : TMark.T => statM m != 3) 0 l <;> rfl
theorem i_firstLoss (l : List TMark.T) (hl : l.length ≤ 1099511627776) : i_FirstLoss (l, ()) = some (firstLossR l) := by
  have h76 := index_Mark l hl i_FirstLoss_1 (fun m => statM m != 3) (fun _ _ => rfl)
  unfold i_FirstLoss firstLossR
  simp only [i_trace, hl, h76]
  cases traceB l
  · rfl
  · cases firstI (fun m : TMark.T => statM m != 3) 0 l with
    | none => rfl
    | some i =>
      have : decide ((i : Int) < 0) = false := by simp
      simp [this]

/-- One mark, at LongestLoss: the longest run and the run at hand. -/
def stepRun (n : Int) (s : Int × Int) (m : TMark.T) : Int × Int :=
  if (nodeM m != n) = true then s else if (statM m == (3 : Int)) = true then (if (0 : Int) > s.1 then (0 : Int) else s.1, 0)
  else (if IntKind.i64.wrap (s.2 + 1) > s.1 then IntKind.i64.wrap (s.2 + 1) else s.1, IntKind.i64.wrap (s.2 + 1))
noncomputable def longestR (l : List TMark.T) (n : Int) : Int × Int × Unit := if traceB l then ((l.foldl (stepRun n) (0, 0)).1, 0, ()) else (0, 1, ())
theorem s_longest (l : List TMark.T) (n : Int) (hl : l.length ≤ 1099511627776) : s_LongestLoss (l, n, ()) = some (longestR l n) := by
  have e := fold_ok (B := b_s_LongestLoss_5) l (fun (s : Int × Int) i => (l, n, s.1, s.2, (i : Int), ())) (stepRun n) (fun s => .inl (s.1, ())) (fun s => by simp only [b_s_LongestLoss_5, lt_n]) (fun s i h => by
    simp only [b_s_LongestLoss_5, lt_i h, next_i h hl, idx_nat h, onSome, stepRun, nodeM, statM]
    rcases Bool.eq_false_or_eq_true (l[i].2.1 != n) with h1 | h1 <;> simp only [h1]
    · rfl
    · rcases Bool.eq_false_or_eq_true (l[i].2.2.1 == (3 : Int)) with h2 | h2 <;> simp only [h2] <;> rfl) (0, 0)
  have e' : loopL b_s_LongestLoss_5 (l, n, (0 : Int), (0 : Int), (0 : Int), ()) = _ := e
  unfold s_LongestLoss longestR
  simp only [s_trace, hl, e']
  cases traceB l <;> rfl
theorem i_longest (l : List TMark.T) (n : Int) (hl : l.length ≤ 1099511627776) : i_LongestLoss (l, n, ()) = some (longestR l n) := by
  have e := fold_ok (B := b_i_LongestLoss_5) l (fun (s : Int × Int) i => (n, s.1, s.2, l, (l.length : Int), (i : Int), ())) (stepRun n) (fun s => .inl (s.1, ())) (fun s => by simp only [b_i_LongestLoss_5, lt_n]) (fun s i h => by
    simp only [b_i_LongestLoss_5, lt_i h, next_i h hl, idx_nat h, onSome, stepRun, nodeM, statM]
    rcases Bool.eq_false_or_eq_true (l[i].2.1 != n) with h1 | h1 <;> simp only [h1]
    · rfl
    · rcases Bool.eq_false_or_eq_true (l[i].2.2.1 == (3 : Int)) with h2 | h2 <;> simp only [h2] <;> rfl) (0, 0)
  have e' : loopL b_i_LongestLoss_5 (n, (0 : Int), (0 : Int), l, (l.length : Int), (0 : Int), ()) = _ := e
  unfold i_LongestLoss longestR
  simp only [i_trace, hl, e']
  cases traceB l <;> rfl

/-- One mark, at AvailabilityOf: of how many slots, how many were received. -/
def stepAv (n : Int) (s : Int × Int) (m : TMark.T) : Int × Int :=
  if (nodeM m == n) = true then (IntKind.i64.wrap (s.1 + 1), if (statM m == (3 : Int)) = true then IntKind.i64.wrap (s.2 + 1) else s.2) else s
noncomputable def availR (l : List TMark.T) (n : Int) : Int × Int × Unit := if traceB l then (if (l.foldl (stepAv n) (0, 0)).1 = 0 then (0, 4, ()) else (IntKind.i64.wrap (Int.tdiv (IntKind.i64.wrap ((1000 : Int) * (l.foldl (stepAv n) (0, 0)).2)) (l.foldl (stepAv n) (0, 0)).1), 0, ())) else (0, 1, ())
theorem s_avail (l : List TMark.T) (n : Int) (hl : l.length ≤ 1099511627776) : s_AvailabilityOf (l, n, ()) = some (availR l n) := by
  have e := fold_ok (B := b_s_AvailabilityOf_5) l (fun (s : Int × Int) i => (l, n, s.1, s.2, (i : Int), ())) (stepAv n) (fun s => .inl (s.1, s.2, ())) (fun s => by simp only [b_s_AvailabilityOf_5, lt_n]) (fun s i h => by
    simp only [b_s_AvailabilityOf_5, lt_i h, next_i h hl, idx_nat h, onSome, stepAv, nodeM, statM]
    rcases Bool.eq_false_or_eq_true (l[i].2.1 == n) with h1 | h1 <;> simp only [h1]
    · rcases Bool.eq_false_or_eq_true (l[i].2.2.1 == (3 : Int)) with h2 | h2 <;> simp only [h2] <;> rfl
    · rfl) (0, 0)
  have e' : loopL b_s_AvailabilityOf_5 (l, n, (0 : Int), (0 : Int), (0 : Int), ()) = _ := e
  unfold s_AvailabilityOf availR
  simp only [s_trace, hl, e']
  cases traceB l
  · rfl
  · simp only [Bool.not_true, if_true]
    generalize l.foldl (stepAv n) (0, 0) = s
    by_cases h : s.1 = 0
    · have hb : (s.1 == 0) = true := by simp [h]
      simp only [hb]
      simp [h]
    · have hb : (s.1 == 0) = false := by simp [h]
      simp only [hb, h, if_false]
theorem i_avail (l : List TMark.T) (n : Int) (hl : l.length ≤ 1099511627776) : i_AvailabilityOf (l, n, ()) = some (availR l n) := by
  have key : ∀ (k : Nat) (i : Nat) (s : Int × Int), i + k = l.length → 0 ≤ s.2 → s.2 + k ≤ 4611686018427387904 →
      loopL b_i_AvailabilityOf_5 (n, s.2, s.1, l, (l.length : Int), (i : Int), ()) = some (.inl (((l.drop i).foldl (stepAv n) s).2, ((l.drop i).foldl (stepAv n) s).1, ())) := by
    intro k
    induction k with
    | zero =>
      intro i s hi h0 h1
      have : i = l.length := by omega
      subst this
      rw [loopL_eq]
      simp only [b_i_AvailabilityOf_5, lt_n, List.drop_length, List.foldl_nil]
    | succ k ih =>
      intro i s hi h0 h1
      have hlt : i < l.length := by omega
      rw [loopL_eq, List.drop_eq_getElem_cons hlt]
      have w2 : IntKind.i64.wrap (s.2 + 0) = s.2 := by rw [wrap_i64] <;> omega
      have w3 : IntKind.i64.wrap (s.2 + 1) = s.2 + 1 := by rw [wrap_i64] <;> omega
      simp only [b_i_AvailabilityOf_5, lt_i hlt, next_i hlt hl, idx_nat hlt, onSome, i_oneIf, List.foldl_cons]
      have e : stepAv n s l[i] = if (l[i].2.1 == n) = true then (IntKind.i64.wrap (s.1 + 1), if (l[i].2.2.1 == (3 : Int)) = true then IntKind.i64.wrap (s.2 + 1) else s.2) else s := rfl
      rw [e]
      rcases Bool.eq_false_or_eq_true (l[i].2.1 == n) with h1 | h1 <;> simp only [h1]
      · rcases Bool.eq_false_or_eq_true (l[i].2.2.1 == (3 : Int)) with h2 | h2 <;> simp only [h2]
        · simp only [w3, if_true]
          exact ih (i + 1) (IntKind.i64.wrap (s.1 + 1), s.2 + 1) (by omega) (by simp; omega) (by simp; omega)
        · simp only [w2, if_true]
          exact ih (i + 1) (IntKind.i64.wrap (s.1 + 1), s.2) (by omega) h0 (by simp; omega)
      · exact ih (i + 1) s (by omega) h0 (by omega)
  have e := key l.length 0 (0, 0) (by omega) (by simp) (by simp; omega)
  rw [List.drop_zero] at e
  have e' : loopL b_i_AvailabilityOf_5 (n, (0 : Int), (0 : Int), l, (l.length : Int), (0 : Int), ()) = _ := e
  unfold i_AvailabilityOf availR
  simp only [i_trace, hl, e']
  cases traceB l
  · rfl
  · simp only [Bool.not_true, if_true]
    generalize l.foldl (stepAv n) (0, 0) = s
    by_cases h : s.1 = 0
    · have hb : (s.1 == 0) = true := by simp [h]
      simp only [hb]
      simp [h]
    · have hb : (s.1 == 0) = false := by simp [h]
      simp only [hb, h, if_false]

/-! ### No loss, and all received -/
theorem run_zero (n : Int) : ∀ (l : List TMark.T) (a b : Int), 0 ≤ a → 0 ≤ b → b + l.length ≤ 1000000 → 0 ≤ (l.foldl (stepRun n) (a, b)).1 ∧ ((l.foldl (stepRun n) (a, b)).1 = 0 ↔ a = 0 ∧ ∀ m ∈ l, nodeM m = n → statM m = 3)
  | [], a, b, ha, _, _ => by simp [ha]
  | m :: r, a, b, ha, hb, hlen => by
    have hlen' : b + (r.length : Int) + 1 ≤ 1000000 := by simp at hlen; omega
    rw [List.foldl_cons]
    have hw : IntKind.i64.wrap (b + 1) = b + 1 := by rw [wrap_i64] <;> omega
    have e : stepRun n (a, b) m = if (nodeM m != n) = true then (a, b) else if (statM m == (3 : Int)) = true then (a, 0) else (if b + 1 > a then b + 1 else a, b + 1) := by
      unfold stepRun
      simp only [hw]
      rw [if_neg (show ¬ (0 : Int) > a by omega)]
    rw [e]
    by_cases h1 : nodeM m = n
    · have hb1 : (nodeM m != n) = false := by simp [h1]
      simp only [hb1, Bool.false_eq_true, if_false]
      by_cases h2 : statM m = 3
      · have hb2 : (statM m == 3) = true := by simp [h2]
        simp only [hb2, if_true]
        have ih := run_zero n r a 0 ha (by omega) (by omega)
        refine ⟨ih.1, ih.2.trans ?_⟩
        simp only [List.mem_cons, forall_eq_or_imp, h2, implies_true, true_and]
      · have hb2 : (statM m == 3) = false := by simp [h2]
        simp only [hb2, Bool.false_eq_true, if_false]
        have ih := run_zero n r (if b + 1 > a then b + 1 else a) (b + 1) (by split <;> omega) (by omega) (by omega)
        refine ⟨ih.1, ih.2.trans ?_⟩
        constructor
        · rintro ⟨h3, _⟩
          exfalso
          split at h3 <;> omega
        · rintro ⟨_, h3⟩
          exact absurd (h3 m (by simp) h1) h2
    · have hb1 : (nodeM m != n) = true := by simp [h1]
      simp only [hb1, if_true]
      have ih := run_zero n r a b ha hb (by omega)
      refine ⟨ih.1, ih.2.trans ?_⟩
      simp only [List.mem_cons, forall_eq_or_imp, h1, false_implies, true_and]
theorem av_all (n : Int) : ∀ (l : List TMark.T) (c r : Int), 0 ≤ r → r ≤ c → c + l.length ≤ 1000000 → (0 : Int) ≤ (l.foldl (stepAv n) (c, r)).2 ∧ (l.foldl (stepAv n) (c, r)).2 ≤ (l.foldl (stepAv n) (c, r)).1 ∧ (l.foldl (stepAv n) (c, r)).1 ≤ 1000000 ∧ (l.foldl (stepAv n) (c, r)).1 - (l.foldl (stepAv n) (c, r)).2 ≥ c - r ∧ ((l.foldl (stepAv n) (c, r)).2 = (l.foldl (stepAv n) (c, r)).1 ↔ r = c ∧ ∀ m ∈ l, nodeM m = n → statM m = 3)
  | [], c, r, h0, h1, h2 => by simp at h2; simp [h0, h1, h2]
  | m :: t, c, r, h0, h1, h2 => by
    have hlen : c + (t.length : Int) + 1 ≤ 1000000 := by simp at h2; omega
    rw [List.foldl_cons]
    have hw1 : IntKind.i64.wrap (c + 1) = c + 1 := by rw [wrap_i64] <;> omega
    have hw2 : IntKind.i64.wrap (r + 1) = r + 1 := by rw [wrap_i64] <;> omega
    have e : stepAv n (c, r) m = if (nodeM m == n) = true then (c + 1, if (statM m == (3 : Int)) = true then r + 1 else r) else (c, r) := by
      unfold stepAv
      simp only [hw1, hw2]
    rw [e]
    by_cases h3 : nodeM m = n
    · have hb1 : (nodeM m == n) = true := by simp [h3]
      simp only [hb1, if_true]
      by_cases h4 : statM m = 3
      · have hb2 : (statM m == 3) = true := by simp [h4]
        simp only [hb2, if_true]
        obtain ⟨i1, i2, i3, i4, i5⟩ := av_all n t (c + 1) (r + 1) (by omega) (by omega) (by omega)
        refine ⟨i1, i2, i3, by omega, i5.trans ?_⟩
        simp only [List.mem_cons, forall_eq_or_imp, h4, implies_true, true_and]
        constructor
        · rintro ⟨h, h'⟩; exact ⟨by omega, h'⟩
        · rintro ⟨h, h'⟩; exact ⟨by omega, h'⟩
      · have hb2 : (statM m == 3) = false := by simp [h4]
        simp only [hb2, Bool.false_eq_true, if_false]
        obtain ⟨i1, i2, i3, i4, i5⟩ := av_all n t (c + 1) r (by omega) (by omega) (by omega)
        refine ⟨i1, i2, i3, by omega, ?_⟩
        constructor
        · intro h; omega
        · rintro ⟨_, h⟩
          exact absurd (h m (by simp) h3) h4
    · have hb1 : (nodeM m == n) = false := by simp [h3]
      simp only [hb1, Bool.false_eq_true, if_false]
      obtain ⟨i1, i2, i3, i4, i5⟩ := av_all n t c r (by omega) (by omega) (by omega)
      refine ⟨i1, i2, i3, i4, i5.trans ?_⟩
      simp only [List.mem_cons, forall_eq_or_imp, h3, false_implies, true_and]
/-- No loss is full availability. -/
theorem loss_avail (l : List TMark.T) (n : Int) (hz : (availR l n).2.1 = 0) : ((longestR l n).1 = 0 ↔ (availR l n).1 = 1000) := by
  unfold availR longestR at *
  cases ht : traceB l with
  | false => rw [ht] at hz; simp at hz
  | true =>
    have hlen : (l.length : Int) ≤ 60 := by
      unfold traceB at ht
      simp only [Bool.and_eq_true, decide_eq_true_eq] at ht
      exact ht.2
    rw [ht] at hz
    simp only [if_true] at hz ⊢
    have hr := run_zero n l 0 0 (by omega) (by omega) (by omega)
    obtain ⟨i1, i2, i3, i4, i5⟩ := av_all n l 0 0 (by omega) (by omega) (by omega)
    generalize l.foldl (stepAv n) (0, 0) = s at *
    generalize (l.foldl (stepRun n) (0, 0)).1 = a at *
    obtain ⟨c, r⟩ := s
    simp only at i1 i2 i3 i4 i5 hz ⊢
    by_cases hc : c = 0
    · simp [hc] at hz
    · rw [if_neg hc]
      rw [hr.2]
      have hw : IntKind.i64.wrap (1000 * r) = 1000 * r := by rw [wrap_i64] <;> omega
      have hd : Int.tdiv (1000 * r) c = 1000 * r / c := Int.tdiv_eq_ediv_of_nonneg (by omega)
      have hle : 1000 * r / c ≤ 1000 := by
        apply Int.ediv_le_of_le_mul (by omega)
        omega
      have hge : 0 ≤ 1000 * r / c := Int.ediv_nonneg (by omega) (by omega)
      rw [hw, hd, wrap_i64 (by omega) (by omega)]
      have : (1000 * r / c = 1000) ↔ r = c := by
        constructor
        · intro h
          have := Int.le_ediv_iff_mul_le (a := 1000) (b := 1000 * r) (c := c) (by omega)
          have := this.1 (by omega)
          omega
        · rintro rfl
          exact Int.mul_ediv_cancel _ hc
      rw [this, i5]
      simp
end Go.Proofs.Ytgjbodfkjfieaaa
