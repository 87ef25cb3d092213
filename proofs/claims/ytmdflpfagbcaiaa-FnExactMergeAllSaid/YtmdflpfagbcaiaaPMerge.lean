/- Plain laws: merging verdicts. -/
import Derived.Test.YtmdflpfagbcaiaaPVerdicts
import Derived.Test.YtmdflpfagbcaiaaPClone
import Derived.Test.YtmdflpfagbcaiaaPLike
namespace Go.Proofs.Ytmdflpfagbcaiaa
open Go.RowKit
set_option linter.unusedVariables false
set_option linter.unusedSimpArgs false

theorem eqState_iff (x y : TState.T) : eqT TState x y = true ↔ x = y := by
  obtain ⟨(a : Int), (b : Int), (c : Int), (d : Int), (e : Int), ⟨⟩⟩ := x
  obtain ⟨(a' : Int), (b' : Int), (c' : Int), (d' : Int), (e' : Int), ⟨⟩⟩ := y
  have h : eqT TState (a, b, c, d, e, ()) (a', b', c', d', e', ()) = ((a == a') && ((b == b') && ((c == c') && ((d == d') && ((e == e') && true))))) := rfl
  rw [h]
  simp only [Bool.and_eq_true, beq_iff_eq, and_true]
  constructor
  · rintro ⟨rfl, rfl, rfl, rfl, rfl⟩; rfl
  · intro h
    cases h
    exact ⟨rfl, rfl, rfl, rfl, rfl⟩
theorem sameFrame_iff (x y : TFrame.T) : sameFrameB x y = true ↔ x = y := by
  obtain ⟨(a : Int), (b : Int), c, (d : List Int), ⟨⟩⟩ := x
  obtain ⟨(a' : Int), (b' : Int), c', (d' : List Int), ⟨⟩⟩ := y
  have h : sameFrameB (a, b, c, d, ()) (a', b', c', d', ()) = ((a == a') && ((b == b') && (eqT TState c c' && decide (d = d')))) := rfl
  rw [h]
  simp only [Bool.and_eq_true, beq_iff_eq, eqState_iff, decide_eq_true_eq]
  constructor
  · rintro ⟨rfl, rfl, rfl, rfl⟩; rfl
  · intro h
    cases h
    exact ⟨rfl, rfl, rfl, rfl⟩
def zeroF : TFrame.T := ((0 : Int), (0 : Int), ((0 : Int), (0 : Int), (0 : Int), (0 : Int), (0 : Int), ()), ([] : List Int), ())
/-- A verdict without a frame. -/
def bareV (s : Int) : TVerdict.T := (s, zeroF, ())
theorem verdict_cases {v : TVerdict.T} (h : verdictB v = true) : (∃ f, v = ((3 : Int), f, ()) ∧ frameB f = true) ∨ (∃ s : Int, v = bareV s ∧ 0 ≤ s ∧ s ≤ 4 ∧ s ≠ 3) := by
  obtain ⟨(s : Int), f, ⟨⟩⟩ := v
  have h : (if s == (3 : Int) then frameB f else inB s 0 4 && sameFrameB f zeroF) = true := h
  by_cases hs : s = 3
  · subst hs
    exact .inl ⟨f, rfl, by simpa using h⟩
  · have hb : (s == (3 : Int)) = false := by simp [hs]
    rw [hb] at h
    simp only [Bool.false_eq_true, if_false, Bool.and_eq_true, sameFrame_iff] at h
    obtain ⟨h1, rfl⟩ := h
    have := in_iff.1 h1
    exact .inr ⟨s, rfl, this.1, this.2, hs⟩
theorem bare_ok {s : Int} (h0 : 0 ≤ s) (h4 : s ≤ 4) (h3 : s ≠ 3) : verdictB (bareV s) = true := by
  have e : verdictB (bareV s) = if s == (3 : Int) then frameB zeroF else inB s 0 4 && sameFrameB zeroF zeroF := rfl
  have hb : (s == (3 : Int)) = false := by simp [h3]
  rw [e, hb, (sameFrame_iff zeroF zeroF).2 rfl, in_iff.2 ⟨h0, h4⟩]
  rfl

noncomputable def mergeL (a b : TVerdict.T) : TVerdict.T := if (a.1 == (3 : Int)) && ((b.1 == (3 : Int)) && sameFrameB a.2.1 b.2.1) then a else if ((a.1 == (3 : Int)) && (b.1 == (3 : Int))) || ((a.1 == (4 : Int)) || (b.1 == (4 : Int))) then bareV 4 else if a.1 == (3 : Int) then a else if b.1 == (3 : Int) then b else bareV (if b.1 > a.1 then b.1 else a.1)
noncomputable def mergeI (a b : TVerdict.T) : TVerdict.T := if (a.1 == (3 : Int)) && sameVerdictB a b then a else if ((a.1 == (3 : Int)) && (b.1 == (3 : Int))) || ((a.1 == (4 : Int)) || (b.1 == (4 : Int))) then bareV 4 else if decide (a.1 ≥ b.1) then a else b

theorem s_merge (a b : TVerdict.T) (h : (dataV a).length ≤ 1099511627776) : s_l29Merge (a, b, ()) = some (mergeL a b, ()) := by
  have hs : s_l28Same (a.2.1, b.2.1, ()) = some (sameFrameB a.2.1 b.2.1, ()) := s_sameFrame _ h
  obtain ⟨(s : Int), ⟨(k : Int), (r : Int), ⟨(t1 : Int), (t2 : Int), (t3 : Int), (t4 : Int), (t5 : Int), ⟨⟩⟩, (d : List Int), ⟨⟩⟩, ⟨⟩⟩ := a
  obtain ⟨(s' : Int), ⟨(k' : Int), (r' : Int), ⟨(u1 : Int), (u2 : Int), (u3 : Int), (u4 : Int), (u5 : Int), ⟨⟩⟩, (d' : List Int), ⟨⟩⟩, ⟨⟩⟩ := b
  unfold s_l29Merge mergeL
  simp only at hs ⊢
  rw [hs]
  rcases Bool.eq_false_or_eq_true (s == (3 : Int)) with h1 | h1 <;> rcases Bool.eq_false_or_eq_true (s' == (3 : Int)) with h2 | h2 <;> rcases Bool.eq_false_or_eq_true (s == (4 : Int)) with h3 | h3 <;> rcases Bool.eq_false_or_eq_true (s' == (4 : Int)) with h4 | h4 <;> (try (rcases Bool.eq_false_or_eq_true (sameFrameB (k, r, (t1, t2, t3, t4, t5, ()), d, ()) (k', r', (u1, u2, u3, u4, u5, ()), d', ())) with h5 | h5)) <;> simp only [h1, h2, h3, h4, h5] <;> rfl
theorem i_merge_ok (a b : TVerdict.T) (h : (dataV a).length ≤ 1099511627776) : i_merge (a, b, ()) = some (mergeI a b, ()) := by
  have hs : i_SameVerdict (a, b, ()) = some (sameVerdictB a b, ()) := i_sameVerdict _ h
  obtain ⟨(s : Int), ⟨(k : Int), (r : Int), ⟨(t1 : Int), (t2 : Int), (t3 : Int), (t4 : Int), (t5 : Int), ⟨⟩⟩, (d : List Int), ⟨⟩⟩, ⟨⟩⟩ := a
  obtain ⟨(s' : Int), ⟨(k' : Int), (r' : Int), ⟨(u1 : Int), (u2 : Int), (u3 : Int), (u4 : Int), (u5 : Int), ⟨⟩⟩, (d' : List Int), ⟨⟩⟩, ⟨⟩⟩ := b
  unfold i_merge mergeI
  simp only at hs ⊢
  rw [hs]
  generalize sameVerdictB (s, (k, r, (t1, t2, t3, t4, t5, ()), d, ()), ()) (s', (k', r', (u1, u2, u3, u4, u5, ()), d', ()), ()) = q
  rcases Bool.eq_false_or_eq_true (s == (3 : Int)) with h1 | h1 <;> rcases Bool.eq_false_or_eq_true (s' == (3 : Int)) with h2 | h2 <;> rcases Bool.eq_false_or_eq_true (s == (4 : Int)) with h3 | h3 <;> rcases Bool.eq_false_or_eq_true (s' == (4 : Int)) with h4 | h4 <;> rcases Bool.eq_false_or_eq_true (decide (s ≥ s')) with h6 | h6 <;> cases q <;> simp only [h1, h2, h3, h4, h6] <;> rfl
theorem merge_same {a b : TVerdict.T} (ha : verdictB a = true) (hb : verdictB b = true) : mergeI a b = mergeL a b := by
  rcases verdict_cases ha with ⟨f, rfl, hf⟩ | ⟨s, rfl, h0, h4, h3⟩ <;> rcases verdict_cases hb with ⟨g, rfl, hg⟩ | ⟨s', rfl, h0', h4', h3'⟩
  · have e : sameVerdictB ((3 : Int), f, ()) ((3 : Int), g, ()) = sameFrameB f g := by
      show (((3 : Int) == 3) && sameFrameB f g) = _
      simp
    unfold mergeI mergeL
    rw [e]
    cases sameFrameB f g <;> rfl
  · have e : sameVerdictB ((3 : Int), f, ()) (bareV s') = false := by
      show (((3 : Int) == s') && sameFrameB f zeroF) = _
      have : ((3 : Int) == s') = false := by simp; omega
      rw [this]; rfl
    have e3 : (s' == (3 : Int)) = false := by simp [h3']
    unfold mergeI mergeL
    rw [e]
    show (if ((3 : Int) == 3 && false) = true then _ else if (((3 : Int) == 3 && s' == (3 : Int)) || ((3 : Int) == 4 || s' == (4 : Int))) = true then bareV 4 else if decide ((3 : Int) ≥ s') = true then _ else bareV s') = (if ((3 : Int) == 3 && (s' == (3 : Int) && sameFrameB f zeroF)) = true then _ else if (((3 : Int) == 3 && s' == (3 : Int)) || ((3 : Int) == 4 || s' == (4 : Int))) = true then bareV 4 else if ((3 : Int) == 3) = true then _ else if (s' == (3 : Int)) = true then _ else _)
    rw [e3]
    rcases Bool.eq_false_or_eq_true (s' == (4 : Int)) with h | h
    · rw [h]; rfl
    · have : s' ≠ 4 := by simpa using h
      have hd : decide ((3 : Int) ≥ s') = true := by simp; omega
      rw [h, hd]; rfl
  · have e3 : (s == (3 : Int)) = false := by simp [h3]
    unfold mergeI mergeL
    show (if (s == (3 : Int) && sameVerdictB (bareV s) ((3 : Int), g, ())) = true then _ else if ((s == (3 : Int) && (3 : Int) == (3 : Int)) || (s == (4 : Int) || (3 : Int) == (4 : Int))) = true then bareV 4 else if decide (s ≥ (3 : Int)) = true then _ else _) = (if (s == (3 : Int) && ((3 : Int) == (3 : Int) && sameFrameB zeroF g)) = true then _ else if ((s == (3 : Int) && (3 : Int) == (3 : Int)) || (s == (4 : Int) || (3 : Int) == (4 : Int))) = true then bareV 4 else if (s == (3 : Int)) = true then _ else if ((3 : Int) == (3 : Int)) = true then _ else _)
    rw [e3]
    rcases Bool.eq_false_or_eq_true (s == (4 : Int)) with h | h
    · rw [h]; rfl
    · have : s ≠ 4 := by simpa using h
      have hd : decide (s ≥ (3 : Int)) = false := by simp; omega
      rw [h, hd]; rfl
  · have e3 : (s == (3 : Int)) = false := by simp [h3]
    have e3' : (s' == (3 : Int)) = false := by simp [h3']
    unfold mergeI mergeL
    show (if (s == (3 : Int) && sameVerdictB (bareV s) (bareV s')) = true then _ else if ((s == (3 : Int) && s' == (3 : Int)) || (s == (4 : Int) || s' == (4 : Int))) = true then bareV 4 else if decide (s ≥ s') = true then bareV s else bareV s') = (if (s == (3 : Int) && (s' == (3 : Int) && sameFrameB zeroF zeroF)) = true then _ else if ((s == (3 : Int) && s' == (3 : Int)) || (s == (4 : Int) || s' == (4 : Int))) = true then bareV 4 else if (s == (3 : Int)) = true then bareV s else if (s' == (3 : Int)) = true then bareV s' else bareV (if s' > s then s' else s))
    rw [e3, e3']
    simp only [Bool.false_and, Bool.false_eq_true, if_false, Bool.false_or]
    rcases Bool.eq_false_or_eq_true (s == (4 : Int) || s' == (4 : Int)) with h | h
    · simp only [h, if_true]
    · simp only [h, Bool.false_eq_true, if_false]
      by_cases hg : s' > s
      · have hd : decide (s ≥ s') = false := by simp; omega
        simp [hd, hg]
      · have hd : decide (s ≥ s') = true := by simp; omega
        simp [hd, hg]

/-- What a merging of valid verdicts is. -/
theorem merge_valid {a b : TVerdict.T} (ha : verdictB a = true) (hb : verdictB b = true) : verdictB (mergeL a b) = true := by
  unfold mergeL
  split
  · exact ha
  · split
    · exact bare_ok (by omega) (by omega) (by omega)
    · split
      · exact ha
      · split
        · exact hb
        · rename_i h1 h2 h3 h4
          rcases verdict_cases ha with ⟨f, rfl, hf⟩ | ⟨s, rfl, h0, h4, h3⟩
          · exact absurd rfl h3
          · rcases verdict_cases hb with ⟨g, rfl, hg⟩ | ⟨s', rfl, h0', h4', h3'⟩
            · exact absurd rfl h4
            · show verdictB (bareV (if s' > s then s' else s)) = true
              split
              · exact bare_ok (by assumption) (by assumption) (by assumption)
              · exact bare_ok (by assumption) (by assumption) (by assumption)
theorem merge_comm {a b : TVerdict.T} (ha : verdictB a = true) (hb : verdictB b = true) : mergeL b a = mergeL a b := by
  rcases verdict_cases ha with ⟨f, rfl, hf⟩ | ⟨s, rfl, h0, h4, h3⟩ <;> rcases verdict_cases hb with ⟨g, rfl, hg⟩ | ⟨s', rfl, h0', h4', h3'⟩
  · unfold mergeL
    show (if ((3 : Int) == 3 && ((3 : Int) == 3 && sameFrameB g f)) = true then ((3 : Int), g, ()) else _) = (if ((3 : Int) == 3 && ((3 : Int) == 3 && sameFrameB f g)) = true then ((3 : Int), f, ()) else _)
    by_cases h : f = g
    · subst h; rfl
    · have h1 : sameFrameB f g = false := by
        cases h1 : sameFrameB f g with
        | false => rfl
        | true => exact absurd ((sameFrame_iff f g).1 h1) h
      have h2 : sameFrameB g f = false := by
        cases h2 : sameFrameB g f with
        | false => rfl
        | true => exact absurd ((sameFrame_iff g f).1 h2).symm h
      rw [h1, h2]; rfl
  · have e3 : (s' == (3 : Int)) = false := by simp [h3']
    unfold mergeL
    show (if (s' == (3 : Int) && ((3 : Int) == (3 : Int) && sameFrameB zeroF f)) = true then _ else if ((s' == (3 : Int) && (3 : Int) == (3 : Int)) || (s' == (4 : Int) || (3 : Int) == (4 : Int))) = true then bareV 4 else if (s' == (3 : Int)) = true then _ else if ((3 : Int) == (3 : Int)) = true then _ else _) = (if ((3 : Int) == 3 && (s' == (3 : Int) && sameFrameB f zeroF)) = true then _ else if (((3 : Int) == 3 && s' == (3 : Int)) || ((3 : Int) == 4 || s' == (4 : Int))) = true then bareV 4 else if ((3 : Int) == 3) = true then _ else if (s' == (3 : Int)) = true then _ else _)
    rw [e3]
    rcases Bool.eq_false_or_eq_true (s' == (4 : Int)) with h | h <;> rw [h] <;> rfl
  · have e3 : (s == (3 : Int)) = false := by simp [h3]
    unfold mergeL
    show (if ((3 : Int) == 3 && (s == (3 : Int) && sameFrameB g zeroF)) = true then _ else if (((3 : Int) == 3 && s == (3 : Int)) || ((3 : Int) == 4 || s == (4 : Int))) = true then bareV 4 else if ((3 : Int) == 3) = true then _ else if (s == (3 : Int)) = true then _ else _) = (if (s == (3 : Int) && ((3 : Int) == (3 : Int) && sameFrameB zeroF g)) = true then _ else if ((s == (3 : Int) && (3 : Int) == (3 : Int)) || (s == (4 : Int) || (3 : Int) == (4 : Int))) = true then bareV 4 else if (s == (3 : Int)) = true then _ else if ((3 : Int) == (3 : Int)) = true then _ else _)
    rw [e3]
    rcases Bool.eq_false_or_eq_true (s == (4 : Int)) with h | h <;> rw [h] <;> rfl
  · have e3 : (s == (3 : Int)) = false := by simp [h3]
    have e3' : (s' == (3 : Int)) = false := by simp [h3']
    unfold mergeL
    show (if (s' == (3 : Int) && (s == (3 : Int) && sameFrameB zeroF zeroF)) = true then _ else if ((s' == (3 : Int) && s == (3 : Int)) || (s' == (4 : Int) || s == (4 : Int))) = true then bareV 4 else if (s' == (3 : Int)) = true then bareV s' else if (s == (3 : Int)) = true then bareV s else bareV (if s > s' then s else s')) = (if (s == (3 : Int) && (s' == (3 : Int) && sameFrameB zeroF zeroF)) = true then _ else if ((s == (3 : Int) && s' == (3 : Int)) || (s == (4 : Int) || s' == (4 : Int))) = true then bareV 4 else if (s == (3 : Int)) = true then bareV s else if (s' == (3 : Int)) = true then bareV s' else bareV (if s' > s then s' else s))
    rw [e3, e3']
    rcases Bool.eq_false_or_eq_true (s == (4 : Int)) with h | h <;> rcases Bool.eq_false_or_eq_true (s' == (4 : Int)) with h' | h' <;> rw [h, h'] <;> simp
    have : (if s > s' then s else s') = (if s' > s then s' else s) := by split <;> split <;> omega
    simpa using congrArg bareV this
theorem merge_self {a : TVerdict.T} (ha : verdictB a = true) : mergeL a a = a := by
  rcases verdict_cases ha with ⟨f, rfl, hf⟩ | ⟨s, rfl, h0, h4, h3⟩
  · unfold mergeL
    show (if ((3 : Int) == 3 && ((3 : Int) == 3 && sameFrameB f f)) = true then ((3 : Int), f, ()) else _) = _
    rw [(sameFrame_iff f f).2 rfl]; rfl
  · have e3 : (s == (3 : Int)) = false := by simp [h3]
    unfold mergeL
    show (if (s == (3 : Int) && (s == (3 : Int) && sameFrameB zeroF zeroF)) = true then _ else if ((s == (3 : Int) && s == (3 : Int)) || (s == (4 : Int) || s == (4 : Int))) = true then bareV 4 else if (s == (3 : Int)) = true then bareV s else if (s == (3 : Int)) = true then bareV s else bareV (if s > s then s else s)) = bareV s
    rw [e3]
    rcases Bool.eq_false_or_eq_true (s == (4 : Int)) with h | h <;> rw [h] <;> simp
    have : s = 4 := by simpa using h
    rw [this]
theorem merge_null {a : TVerdict.T} (ha : verdictB a = true) : mergeL a (bareV 0) = a := by
  rcases verdict_cases ha with ⟨f, rfl, hf⟩ | ⟨s, rfl, h0, h4, h3⟩
  · rfl
  · have e3 : (s == (3 : Int)) = false := by simp [h3]
    unfold mergeL
    show (if (s == (3 : Int) && ((0 : Int) == (3 : Int) && sameFrameB zeroF zeroF)) = true then _ else if ((s == (3 : Int) && (0 : Int) == (3 : Int)) || (s == (4 : Int) || (0 : Int) == (4 : Int))) = true then bareV 4 else if (s == (3 : Int)) = true then bareV s else if ((0 : Int) == (3 : Int)) = true then bareV 0 else bareV (if 0 > s then 0 else s)) = bareV s
    rw [e3]
    have hn : ¬ (0 > s) := by omega
    rcases Bool.eq_false_or_eq_true (s == (4 : Int)) with h | h <;> rw [h] <;> simp [hn]
    have : s = 4 := by simpa using h
    rw [this]

theorem merge_data {a b : TVerdict.T} {n : Nat} (ha : (dataV a).length ≤ n) (hb : (dataV b).length ≤ n) : (dataV (mergeL a b)).length ≤ n := by
  unfold mergeL
  split
  · exact ha
  · split
    · exact Nat.zero_le _
    · split
      · exact ha
      · split
        · exact hb
        · exact Nat.zero_le _
theorem own_s (l : List Int) (hl : l.length ≤ 1099511627776) : s_l01Own (l, ()) = some (l, ()) := by
  unfold s_l01Own room
  rw [if_pos (by simp; omega)]
  rfl
theorem s_own (a : TVerdict.T) (h : (dataV a).length ≤ 1099511627776) : s_l29Own (a, ()) = some (a, ()) := by
  have := own_s (dataV a) h
  obtain ⟨(s : Int), ⟨(k : Int), (r : Int), ⟨(t1 : Int), (t2 : Int), (t3 : Int), (t4 : Int), (t5 : Int), ⟨⟩⟩, (d : List Int), ⟨⟩⟩, ⟨⟩⟩ := a
  unfold s_l29Own
  simp only at this ⊢
  rw [this]
theorem i_own (a : TVerdict.T) (h : (dataV a).length ≤ 1099511627776) : i_ownVerdict (a, ()) = some (a, ()) := by
  have := clone_ok (dataV a) h
  obtain ⟨(s : Int), ⟨(k : Int), (r : Int), ⟨(t1 : Int), (t2 : Int), (t3 : Int), (t4 : Int), (t5 : Int), ⟨⟩⟩, (d : List Int), ⟨⟩⟩, ⟨⟩⟩ := a
  unfold i_ownVerdict
  simp only at this ⊢
  rw [this]

/-- What MergeVerdicts answers. -/
noncomputable def mergeR (a b : TVerdict.T) : TVerdict.T × Int × Unit := if verdictB a && verdictB b then (mergeL a b, (0 : Int), ()) else (bareV 0, (1 : Int), ())
theorem s_mergeVerdicts (a b : TVerdict.T) (ha : (dataV a).length ≤ 1099511627776) (hb : (dataV b).length ≤ 1099511627776) : s_MergeVerdicts (a, b, ()) = some (mergeR a b) := by
  have h1 : s_IsVerdict (a, ()) = some (verdictB a, ()) := s_verdict _ ha
  have h2 : s_IsVerdict (b, ()) = some (verdictB b, ()) := s_verdict _ hb
  have h3 := s_merge a b ha
  have h4 := s_own (mergeL a b) (merge_data ha hb)
  have e0 : s_MergeVerdicts (a, b, ()) = match s_IsVerdict (a, ()) with
    | none => none
    | some v1 => match (!v1.1) with
      | true => some (bareV 0, (1 : Int), ())
      | false => match s_IsVerdict (b, ()) with
        | none => none
        | some v2 => match (!v2.1) with
          | true => some (bareV 0, (1 : Int), ())
          | false => match s_l29Merge (a, b, ()) with
            | none => none
            | some v3 => match s_l29Own (v3.1, ()) with
              | none => none
              | some v4 => some (v4.1, (0 : Int), ()) := rfl
  rw [e0, h1, h2, h3]
  simp only
  rw [h4]
  unfold mergeR
  cases verdictB a <;> cases verdictB b <;> rfl
theorem i_mergeVerdicts (a b : TVerdict.T) (ha : (dataV a).length ≤ 1099511627776) (hb : (dataV b).length ≤ 1099511627776) : i_MergeVerdicts (a, b, ()) = some (mergeR a b) := by
  have h1 : i_IsVerdict (a, ()) = some (verdictB a, ()) := i_verdict _ ha
  have h2 : i_IsVerdict (b, ()) = some (verdictB b, ()) := i_verdict _ hb
  have h3 := i_merge_ok a b ha
  have h4 := i_own (mergeL a b) (merge_data ha hb)
  have e0 : i_MergeVerdicts (a, b, ()) = match i_IsVerdict (a, ()) with
    | none => none
    | some v1 => match (!v1.1) with
      | true => some (bareV 0, (1 : Int), ())
      | false => match i_IsVerdict (b, ()) with
        | none => none
        | some v2 => match (!v2.1) with
          | true => some (bareV 0, (1 : Int), ())
          | false => match i_merge (a, b, ()) with
            | none => none
            | some v3 => match i_ownVerdict (v3.1, ()) with
              | none => none
              | some v4 => some (v4.1, (0 : Int), ()) := rfl
  rw [e0, h1, h2, h3]
  simp only
  unfold mergeR
  cases ha : verdictB a <;> cases hb : verdictB b <;> first | rfl | (rw [merge_same ha hb, h4]; rfl)
theorem likeFrames_ok (a : TFrame.T) (h : (a.2.2.2.1 : List Int).length ≤ 1099511627776) : l_likeFrames (a, a, ()) = some (true, ()) := by
  have h1 := likeInts_ok a.2.2.2.1 h
  have e0 : l_likeFrames (a, a, ()) = match (a.1 == a.1) with
    | true => match (a.2.1 == a.2.1) with
      | true => match eqT TState a.2.2.1 a.2.2.1 with
        | true => match l_likeInts (a.2.2.2.1, a.2.2.2.1, ()) with
          | none => none
          | some v1 => some (v1.1, ())
        | false => some (false, ())
      | false => some (false, ())
    | false => some (false, ()) := rfl
  rw [e0, h1, (eqState_iff _ _).2 rfl]
  simp
theorem likeVerdicts_ok (a : TVerdict.T) (h : (dataV a).length ≤ 1099511627776) : l_likeVerdicts (a, a, ()) = some (true, ()) := by
  have h1 := likeFrames_ok a.2.1 h
  have e0 : l_likeVerdicts (a, a, ()) = match (a.1 == a.1) with
    | true => match l_likeFrames (a.2.1, a.2.1, ()) with
      | none => none
      | some v1 => some (v1.1, ())
    | false => some (false, ()) := rfl
  rw [e0, h1]
  simp
end Go.Proofs.Ytmdflpfagbcaiaa
