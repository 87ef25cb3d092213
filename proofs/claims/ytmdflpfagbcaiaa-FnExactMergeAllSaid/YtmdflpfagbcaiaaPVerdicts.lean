/- Plain laws: lists of verdicts. -/
import Derived.Test.YtmdflpfagbcaiaaPVerdict
namespace Go.Proofs.Ytmdflpfagbcaiaa
open Go.RowKit
set_option linter.unusedVariables false
set_option linter.unusedSimpArgs false

/-- The frame's data. -/
abbrev dataV (v : TVerdict.T) : List Int := v.2.1.2.2.2.1
theorem sz_Verdict (v : TVerdict.T) (n : Int) (h0 : 0 ≤ n) (h1 : n ≤ 1048576) (h : (dataV v).length ≤ maxLen) : l_szVerdict (v, n, ()) = some ((if n - ((dataV v).length : Int) < 0 then (-1 : Int) else n - ((dataV v).length : Int)), ()) := by
  have hs : l_szInt64S (dataV v, n, ()) = _ := sz_Int64S (dataV v, n, ()) h0 h1 h
  have e0 : l_szVerdict (v, n, ()) = match (match l_szInt64S (dataV v, n, ()) with
      | none => none
      | some v1 => match (decide (v1.1 < (0 : Int))) with
        | true => some ((-1 : Int), ())
        | false => some (v1.1, ()) : Option (Int × Unit)) with
    | none => none
    | some v1 => match (decide (v1.1 < (0 : Int))) with
      | true => some ((-1 : Int), ())
      | false => some (v1.1, ()) := rfl
  rw [e0, hs]
  by_cases hc : n - ((dataV v).length : Int) < 0
  · simp [hc]
  · simp only [if_neg hc, decide_eq_false hc]
theorem sz_Verdicts (l : List TVerdict.T) (hl : l.length ≤ maxLen) (hd : ∀ v ∈ l, (dataV v).length ≤ maxLen) : ∃ y : Int, l_szVerdictS (l, 1048576, ()) = some (y, ()) ∧ (0 ≤ y → l.length ≤ 1048576 ∧ ∀ v ∈ l, (dataV v).length ≤ 1048576) := by
  have hl' : l.length ≤ 9223372036854775807 := hl
  have hw : IntKind.i64.wrap ((1048576 : Int) - (l.length : Int)) = 1048576 - l.length := by rw [wrap_i64] <;> omega
  unfold l_szVerdictS
  simp only [hw]
  by_cases hc : (1048576 : Int) - l.length < 0
  · exact ⟨-1, by simp only [decide_eq_true hc], by omega⟩
  · simp only [decide_eq_false hc]
    have hl2 : l.length ≤ 1099511627776 := by omega
    have hl3 : l.length ≤ 1048576 := by omega
    have key : ∀ (k i : Nat) (n : Int), i + k = l.length → 0 ≤ n → n ≤ 1048576 → ∃ r, loopL b_l_szVerdictS_5 (l, n, (i : Int), ()) = some r ∧ (match r with
        | .inl y => (0 : Int) ≤ y.1 ∧ ∀ v ∈ l.drop i, (dataV v).length ≤ 1048576
        | .inr y => (y.1 : Int) < 0) := by
      intro k
      induction k with
      | zero =>
        intro i n hi h0 h1
        have : i = l.length := by omega
        subst this
        refine ⟨.inl (n, ()), ?_, h0, by simp⟩
        rw [loopL_eq]
        simp only [b_l_szVerdictS_5, lt_n]
      | succ k ih =>
        intro i n hi h0 h1
        have h : i < l.length := by omega
        have hv : l[i] ∈ l := List.getElem_mem h
        have hs := sz_Verdict l[i] n h0 h1 (hd _ hv)
        rw [loopL_eq]
        simp only [b_l_szVerdictS_5, lt_i h, next_i h hl2, idx_nat h, onSome, hs]
        by_cases hc : n - ((dataV l[i]).length : Int) < 0
        · refine ⟨.inr (-1, ()), ?_, by show (-1 : Int) < 0; omega⟩
          simp [hc]
        · obtain ⟨r, hr, hp⟩ := ih (i + 1) (n - ((dataV l[i]).length : Int)) (by omega) (by omega) (by omega)
          refine ⟨r, ?_, ?_⟩
          · simp only [if_neg hc, decide_eq_false hc]
            exact hr
          · cases r with
            | inr y => exact hp
            | inl y =>
              refine ⟨hp.1, ?_⟩
              rw [List.drop_eq_getElem_cons h]
              intro v hv
              rcases List.mem_cons.1 hv with rfl | hv
              · omega
              · exact hp.2 v hv
    obtain ⟨r, hr, hp⟩ := key l.length 0 (1048576 - (l.length : Int)) (by omega) (by omega) (by omega)
    have hr' : loopL b_l_szVerdictS_5 (l, 1048576 - (l.length : Int), (0 : Int), ()) = some r := hr
    rw [hr']
    cases r with
    | inl y => exact ⟨y.1, rfl, fun _ => ⟨hl3, by simpa using hp.2⟩⟩
    | inr y => exact ⟨y.1, rfl, fun h => absurd h (Int.not_le.2 hp)⟩

theorem to_Frame (x) (h : x.1.2.2.2.1.length ≤ 1099511627776) : l_toFrame x = some (x.1, ()) := by
  have e0 : l_toFrame x = match l_toInt64S (x.1.2.2.2.1, ()) with
    | none => none
    | some v2 => some ((x.1.1, x.1.2.1, x.1.2.2.1, v2.1, ()), ()) := rfl
  rw [e0, to_Int64S _ h]
theorem to_Verdict (x) (h : x.1.2.1.2.2.2.1.length ≤ 1099511627776) : l_toVerdict x = some (x.1, ()) := by
  have e0 : l_toVerdict x = match l_toFrame (x.1.2.1, ()) with
    | none => none
    | some v1 => some ((x.1.1, v1.1, ()), ()) := rfl
  rw [e0, to_Frame _ h]
theorem to_VerdictS (x) (hl : x.1.length ≤ 1099511627776) (hd : ∀ v ∈ x.1, (dataV v).length ≤ 1099511627776) : l_toVerdictS x = some (x.1, ()) :=
  toS_ok (g := l_toVerdictS) (B := b_l_toVerdictS_3) (z := (((0 : Int), ((0 : Int), (0 : Int), ((0 : Int), (0 : Int), (0 : Int), (0 : Int), (0 : Int), ()), [], ()), ()) : TVerdict.T)) (fun _ => by kernel_rfl) x.1 hl (fun s => by simp only [b_l_toVerdictS_3, lt_n]) (fun s i h h' => by
    have ht := to_Verdict (x.1[i], ()) (hd _ (List.getElem_mem h))
    simp only [b_l_toVerdictS_3, lt_i h, next_i h hl, idx_nat h, onSome, idx_nat h', Int.toNat_natCast, List.getElem?_eq_getElem h']
    rw [ht])
theorem eq_Frame (x) (h : x.2.1 = x.1) (hd : x.1.2.2.2.1.length ≤ 1099511627776) : l_eqFrame x = some (true, ()) := by
  obtain ⟨a, b, u⟩ := x
  obtain rfl : b = a := h
  have h1 : l_eqState (b.2.2.1, b.2.2.1, ()) = _ := eq_State _ rfl
  have h2 : l_eqInt64S (b.2.2.2.1, b.2.2.2.1, ()) = _ := eq_Int64S _ rfl hd
  have e0 : l_eqFrame (b, b, u) = match (b.1 != b.1) with
    | true => some (false, ())
    | false => match (b.2.1 != b.2.1) with
      | true => some (false, ())
      | false => match l_eqState (b.2.2.1, b.2.2.1, ()) with
        | none => none
        | some v1 => match (!v1.1) with
          | true => some (false, ())
          | false => match l_eqInt64S (b.2.2.2.1, b.2.2.2.1, ()) with
            | none => none
            | some v2 => match (!v2.1) with
              | true => some (false, ())
              | false => some (true, ()) := rfl
  rw [e0, h1, h2]
  simp
theorem eq_Verdict (x) (h : x.2.1 = x.1) (hd : x.1.2.1.2.2.2.1.length ≤ 1099511627776) : l_eqVerdict x = some (true, ()) := by
  obtain ⟨a, b, u⟩ := x
  obtain rfl : b = a := h
  have h1 : l_eqFrame (b.2.1, b.2.1, ()) = _ := eq_Frame _ rfl hd
  have e0 : l_eqVerdict (b, b, u) = match (b.1 != b.1) with
    | true => some (false, ())
    | false => match l_eqFrame (b.2.1, b.2.1, ()) with
        | none => none
        | some v1 => match (!v1.1) with
          | true => some (false, ())
          | false => some (true, ()) := rfl
  rw [e0, h1]
  simp
theorem eq_VerdictS (x) (h : x.2.1 = x.1) (hl : x.1.length ≤ 1099511627776) (hd : ∀ v ∈ x.1, (dataV v).length ≤ 1099511627776) : l_eqVerdictS x = some (true, ()) := by
  obtain ⟨l, m, u⟩ := x
  obtain rfl : m = l := h
  have hl : m.length ≤ 1099511627776 := hl
  exact eqS_ok (g := l_eqVerdictS) (B := b_l_eqVerdictS_4) (fun _ => by kernel_rfl) m (by simp only [b_l_eqVerdictS_4, lt_n]) (fun i h => by
    simp only [b_l_eqVerdictS_4, lt_i h, lt_n, next_i h hl, idx_nat h, onSome]
    rw [eq_Verdict _ rfl (hd _ (List.getElem_mem h))]
    simp)

theorem i_verdicts (l : List TVerdict.T) (hl : l.length ≤ 1099511627776) (hd : ∀ v ∈ l, (dataV v).length ≤ 1099511627776) : i_areVerdicts (l, ()) = some (l.all verdictB, ()) := by
  have h := contains_Verdict l hl i_areVerdicts_1 (fun m => !verdictB m) (fun i h => by
    have : i_areVerdicts_1 (l[i], ()) = match i_IsVerdict (l[i], ()) with | none => none | some v1 => some ((!v1.1), ()) := rfl
    rw [this, i_verdict _ (hd _ (List.getElem_mem h))])
  have e0 : i_areVerdicts (l, ()) = match slices_ContainsFunc_Verdict (l, i_areVerdicts_1, ()) with | none => none | some v1 => some ((!v1.1), ()) := rfl
  rw [e0, h, all_any]
end Go.Proofs.Ytmdflpfagbcaiaa
