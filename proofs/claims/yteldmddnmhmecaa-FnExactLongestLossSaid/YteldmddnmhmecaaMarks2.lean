/- The plain laws of LongestLoss and AvailabilityOf. -/
import Derived.Test.YteldmddnmhmecaaMarks
namespace Go.Proofs.Yteldmddnmhmecaa
open Go.RowKit

/-- One mark, at LongestLoss: the longest run and the run at hand. -/
noncomputable def stepRun (n : Int) (s : Int × Int) (m : MK.T) : Int × Int :=
  if (m.2.1 != n) = true then s else if (m.2.2.1 == (3 : Int)) = true then (if (0 : Int) > s.1 then (0 : Int) else s.1, 0)
  else (if IntKind.i64.wrap (s.2 + 1) > s.1 then IntKind.i64.wrap (s.2 + 1) else s.1, IntKind.i64.wrap (s.2 + 1))

theorem l46 (l : List MK.T) (n : Int) (hl : l.length ≤ 1099511627776) : loopL b46_5 (l, n, (0 : Int), (0 : Int), ((0 : Nat) : Int), ()) = some (.inl ((l.foldl (stepRun n) (0, 0)).1, ())) := by
  rw [loop_list (B := b46_5) l (fun (s : Int × Int) i => (l, n, s.1, s.2, (i : Int), ())) (fun _ v s => some (.inl (stepRun n s v))) (fun s => .inl (s.1, ())) ?_ ?_ l.length 0 (0, 0) (by omega),
    List.drop_zero, runL_total (g := stepRun n) (fun _ _ _ => rfl)]
  · intro s
    simp only [b46_5, lt_n]
  · intro s i hi
    simp only [b46_5, lt_i hi, next_i hi hl, idx_nat hi, onSome]
    unfold stepRun
    cases (l[i].2.1 != n)
    · cases (l[i].2.2.1 == (3 : Int)) <;> rfl
    · rfl
theorem l47 (l : List MK.T) (n : Int) (hl : l.length ≤ 1099511627776) : loopL b47_5 (n, (0 : Int), (0 : Int), l, (l.length : Int), ((0 : Nat) : Int), ()) = some (.inl ((l.foldl (stepRun n) (0, 0)).1, ())) := by
  rw [loop_list (B := b47_5) l (fun (s : Int × Int) i => (n, s.1, s.2, l, (l.length : Int), (i : Int), ())) (fun _ v s => some (.inl (stepRun n s v))) (fun s => .inl (s.1, ())) ?_ ?_ l.length 0 (0, 0) (by omega),
    List.drop_zero, runL_total (g := stepRun n) (fun _ _ _ => rfl)]
  · intro s
    simp only [b47_5, lt_n]
  · intro s i hi
    simp only [b47_5, lt_i hi, next_i hi hl, idx_nat hi, onSome]
    unfold stepRun
    cases (l[i].2.1 != n)
    · cases (l[i].2.2.1 == (3 : Int)) <;> rfl
    · rfl

theorem e47 (l : List MK.T) (n : Int) (hl : l.length ≤ 1099511627776) : ∃ y, g46 (l, n, ()) = some y ∧ g47 (l, n, ()) = some y := by
  have e0 : g46 (l, n, ()) = match g74 (l, ()) with
    | none => none
    | some v1 => match (!v1.1) with
      | true => some ((0 : Int), (1 : Int), ())
      | false => match loopL b46_5 (l, n, (0 : Int), (0 : Int), ((0 : Nat) : Int), ()) with
        | none => none
        | some (.inl v4) => some (v4.1, (0 : Int), ())
        | some (.inr _) => none := rfl
  have e1 : g47 (l, n, ()) = match g75 (l, ()) with
    | none => none
    | some v1 => match (!v1.1) with
      | true => some ((0 : Int), (1 : Int), ())
      | false => match loopL b47_5 (n, (0 : Int), (0 : Int), l, (l.length : Int), ((0 : Nat) : Int), ()) with
        | none => none
        | some (.inl v4) => some (v4.1, (0 : Int), ())
        | some (.inr _) => none := rfl
  rw [e0, e1, l46 l n hl, l47 l n hl, e75 l hl, e74 l hl]
  cases (l.all okM && decide ((l.length : Int) ≤ 60))
  · exact ⟨_, rfl, rfl⟩
  · exact ⟨_, rfl, rfl⟩

/-- One mark, at AvailabilityOf: of how many slots, how many were received. -/
noncomputable def stepAv (n : Int) (s : Int × Int) (m : MK.T) : Int × Int :=
  if (m.2.1 == n) = true then (IntKind.i64.wrap (s.1 + 1), if (m.2.2.1 == (3 : Int)) = true then IntKind.i64.wrap (s.2 + 1) else s.2) else s

theorem l53 (l : List MK.T) (n : Int) (hl : l.length ≤ 1099511627776) : loopL b53_5 (l, n, (0 : Int), (0 : Int), ((0 : Nat) : Int), ()) = some (.inl ((l.foldl (stepAv n) (0, 0)).1, (l.foldl (stepAv n) (0, 0)).2, ())) := by
  rw [loop_list (B := b53_5) l (fun (s : Int × Int) i => (l, n, s.1, s.2, (i : Int), ())) (fun _ v s => some (.inl (stepAv n s v))) (fun s => .inl (s.1, s.2, ())) ?_ ?_ l.length 0 (0, 0) (by omega),
    List.drop_zero, runL_total (g := stepAv n) (fun _ _ _ => rfl)]
  · intro s
    simp only [b53_5, lt_n]
  · intro s i hi
    simp only [b53_5, lt_i hi, next_i hi hl, idx_nat hi, onSome]
    unfold stepAv
    cases (l[i].2.1 == n)
    · rfl
    · cases (l[i].2.2.1 == (3 : Int)) <;> rfl

theorem l54 (l : List MK.T) (n : Int) (hl : l.length ≤ 1099511627776) : loopL b54_5 (n, (0 : Int), (0 : Int), l, (l.length : Int), ((0 : Nat) : Int), ()) = some (.inl ((l.foldl (stepAv n) (0, 0)).2, (l.foldl (stepAv n) (0, 0)).1, ())) := by
  have key : ∀ (k : Nat) (i : Nat) (s : Int × Int), i + k = l.length → 0 ≤ s.2 → s.2 + k ≤ 4611686018427387904 →
      loopL b54_5 (n, s.2, s.1, l, (l.length : Int), (i : Int), ()) = some (.inl (((l.drop i).foldl (stepAv n) s).2, ((l.drop i).foldl (stepAv n) s).1, ())) := by
    intro k
    induction k with
    | zero =>
      intro i s hi h0 h1
      have : i = l.length := by omega
      subst this
      rw [loopL_eq]
      simp only [b54_5, lt_n, List.drop_length, List.foldl_nil]
    | succ k ih =>
      intro i s hi h0 h1
      have hlt : i < l.length := by omega
      rw [loopL_eq, List.drop_eq_getElem_cons hlt]
      have w2 : IntKind.i64.wrap (s.2 + 0) = s.2 := by rw [wrap_i64] <;> omega
      have w3 : IntKind.i64.wrap (s.2 + 1) = s.2 + 1 := by rw [wrap_i64] <;> omega
      simp only [b54_5, lt_i hlt, next_i hlt hl, idx_nat hlt, onSome, g92, List.foldl_cons]
      have e : stepAv n s l[i] = if (l[i].2.1 == n) = true then (IntKind.i64.wrap (s.1 + 1), if (l[i].2.2.1 == (3 : Int)) = true then IntKind.i64.wrap (s.2 + 1) else s.2) else s := rfl
      rw [e]
      cases (l[i].2.1 == n)
      · exact ih (i + 1) s (by omega) h0 (by omega)
      · cases (l[i].2.2.1 == (3 : Int))
        · simp only [w2]
          exact ih (i + 1) (IntKind.i64.wrap (s.1 + 1), s.2) (by omega) h0 (by simp; omega)
        · simp only [w3]
          exact ih (i + 1) (IntKind.i64.wrap (s.1 + 1), s.2 + 1) (by omega) (by simp; omega) (by simp; omega)
  have := key l.length 0 (0, 0) (by omega) (by simp) (by simp; omega)
  simpa using this

theorem e54 (l : List MK.T) (n : Int) (hl : l.length ≤ 1099511627776) : ∃ y, g53 (l, n, ()) = some y ∧ g54 (l, n, ()) = some y := by
  have e0 : g53 (l, n, ()) = match g74 (l, ()) with
    | none => none
    | some v1 => match (!v1.1) with
      | true => some ((0 : Int), (1 : Int), ())
      | false => match loopL b53_5 (l, n, (0 : Int), (0 : Int), ((0 : Nat) : Int), ()) with
        | none => none
        | some (.inl v4) => match (v4.1 == (0 : Int)) with
          | true => some ((0 : Int), (4 : Int), ())
          | false => if v4.1 = 0 then none else some ((IntKind.i64.wrap (Int.tdiv (IntKind.i64.wrap ((1000 : Int) * v4.2.1)) v4.1)), (0 : Int), ())
        | some (.inr _) => none := rfl
  have e1 : g54 (l, n, ()) = match g75 (l, ()) with
    | none => none
    | some v1 => match (!v1.1) with
      | true => some ((0 : Int), (1 : Int), ())
      | false => match loopL b54_5 (n, (0 : Int), (0 : Int), l, (l.length : Int), ((0 : Nat) : Int), ()) with
        | none => none
        | some (.inl v4) => match (v4.2.1 == (0 : Int)) with
          | true => some ((0 : Int), (4 : Int), ())
          | false => if v4.2.1 = 0 then none else some ((IntKind.i64.wrap (Int.tdiv (IntKind.i64.wrap ((1000 : Int) * v4.1)) v4.2.1)), (0 : Int), ())
        | some (.inr _) => none := rfl
  rw [e0, e1, l53 l n hl, l54 l n hl, e75 l hl, e74 l hl]
  cases (l.all okM && decide ((l.length : Int) ≤ 60))
  · exact ⟨_, rfl, rfl⟩
  · simp only [Bool.not_true]
    generalize (l.foldl (stepAv n) (0, 0)) = s
    by_cases h : s.1 = 0
    · simp [h]
    · have : (s.1 == 0) = false := by simpa using h
      simp [this, h]

theorem law11 (x) (hx : Wf (.pair (.list MK) (.pair (.int .i64) .unit)) x) : g11 x = some (true, ()) := by
  obtain ⟨l, n, u⟩ := x
  have hm : l.length ≤ maxLen := hx.1.1
  unfold g11
  simp only [e32 l hm]
  by_cases h : (1048576 : Int) - l.length < 0
  · simp [h]
  · have hl : l.length ≤ 1099511627776 := by omega
    have h1 : decide ((1048576 : Int) - l.length < 0) = false := by simpa using h
    obtain ⟨y, hy, hz⟩ := e47 l n hl
    have h2 : (y.1 != y.1) = false := by simp
    have h3 : (y.2.1 != y.2.1) = false := by simp
    rw [if_neg h]
    simp only [h1, e34 l hl, hy, hz, h2, h3, e36 l hl]
    rfl
theorem law13 (x) (hx : Wf (.pair (.list MK) (.pair (.int .i64) .unit)) x) : g13 x = some (true, ()) := by
  obtain ⟨l, n, u⟩ := x
  have hm : l.length ≤ maxLen := hx.1.1
  unfold g13
  simp only [e32 l hm]
  by_cases h : (1048576 : Int) - l.length < 0
  · simp [h]
  · have hl : l.length ≤ 1099511627776 := by omega
    have h1 : decide ((1048576 : Int) - l.length < 0) = false := by simpa using h
    obtain ⟨y, hy, hz⟩ := e54 l n hl
    have h2 : (y.1 != y.1) = false := by simp
    have h3 : (y.2.1 != y.2.1) = false := by simp
    rw [if_neg h]
    simp only [h1, e34 l hl, hy, hz, h2, h3, e36 l hl]
    rfl
end Go.Proofs.Yteldmddnmhmecaa
