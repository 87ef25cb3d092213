/- Plain laws: faults, scripts, steps. -/
import Derived.Test.YteldmddnmhmecaaPIn
namespace Go.Proofs.Yteldmddnmhmecaa
open Go.RowKit
set_option linter.unusedVariables false
set_option linter.unusedSimpArgs false

noncomputable def faultB (x : TStarter.T) : Bool := match s_IsFault (x, ()) with
  | some v => v.1
  | none => false
theorem s_fields (x) : s_l24Fields x = some (decide (x.1 = 2 ∨ x.1 = 3 ∨ x.1 = 4 ∨ x.1 = 6), decide (x.1 = 4 ∨ x.1 = 6), ()) := by
  obtain ⟨(k : Int), u⟩ := x
  unfold s_l24Fields
  simp only
  by_cases h2 : k = 2
  · subst h2; rfl
  by_cases h3 : k = 3
  · subst h3; rfl
  by_cases h4 : k = 4
  · subst h4; rfl
  by_cases h6 : k = 6
  · subst h6; rfl
  have b2 : (k == 2) = false := by simp [h2]
  have b3 : (k == 3) = false := by simp [h3]
  have b4 : (k == 4) = false := by simp [h4]
  have b6 : (k == 6) = false := by simp [h6]
  simp only [b2, b3, b4, b6, h2, h3, h4, h6, or_self, decide_false]
theorem s_fault (x) : s_IsFault x = some (faultB x.1, ()) := by
  have h : ∃ b, s_IsFault x = some (b, ()) := by
    unfold s_IsFault
    simp only [s_in, s_fields]
    repeat' split
    all_goals first | exact ⟨_, rfl⟩ | simp_all
  obtain ⟨b, hb⟩ := h
  have e : faultB x.1 = match s_IsFault x with
    | some v => v.1
    | none => false := rfl
  rw [e, hb]
theorem i_fault (x) : i_IsFault x = some (faultB x.1, ()) := by
  rw [← s_fault x]
  obtain ⟨⟨(k : Int), (a : Int), (n : Int), (v : Int), u⟩, u'⟩ := x
  unfold i_IsFault s_IsFault i_hasLength i_hasValue
  simp only [s_in, i_in, s_fields]
  rcases Bool.eq_false_or_eq_true (inB k 1 6) with h1 | h1
  · have hk := in_iff.1 h1
    simp only [h1, Bool.not_true]
    have h6 : k = 1 ∨ k = 2 ∨ k = 3 ∨ k = 4 ∨ k = 5 ∨ k = 6 := by omega
    rcases Bool.eq_false_or_eq_true (inB a 0 8192) with h2 | h2 <;> simp only [h2]
    case inl.inr => simp
    rcases h6 with rfl | rfl | rfl | rfl | rfl | rfl <;> rcases Bool.eq_false_or_eq_true (inB n 1 8192) with h3 | h3 <;> rcases Bool.eq_false_or_eq_true (inB v 0 1) with h4 | h4 <;> rcases Bool.eq_false_or_eq_true (v == 0) with h5 | h5 <;> rcases Bool.eq_false_or_eq_true (n == 0) with h7 | h7 <;> first | (simp [h3, h4, h5, h7, bne]; done) | (exfalso; simp_all [inB]; done)
  · simp [h1]
theorem faults_all (l : List TStarter.T) (hl : l.length ≤ 1099511627776) : loopL b_s_IsScript_2 (l, ((0 : Nat) : Int), ()) = some (if l.all faultB then .inl (l, ()) else .inr (false, ())) :=
  all_ok (B := b_s_IsScript_2) l (fun i => (l, (i : Int), ())) faultB (.inl (l, ())) (.inr (false, ())) (by simp only [b_s_IsScript_2, lt_n]) (fun i h => by
    simp only [b_s_IsScript_2, lt_i h, next_i h hl, idx_nat h, onSome, s_fault]
    cases faultB l[i] <;> simp)
noncomputable def scriptB (l : List TStarter.T) : Bool := l.all faultB && decide ((l.length : Int) ≤ 30)
theorem s_script (x) (hl : x.1.length ≤ 1099511627776) : s_IsScript x = some (scriptB x.1, ()) := by
  obtain ⟨l, u⟩ := x
  have e0 : s_IsScript (l, u) = match loopL b_s_IsScript_2 (l, ((0 : Nat) : Int), ()) with
    | none => none
    | some (.inl v3) => some ((decide ((v3.1.length : Int) ≤ (30 : Int))), ())
    | some (.inr v4) => some (v4.1, ()) := rfl
  rw [e0, faults_all l hl]
  unfold scriptB
  cases l.all faultB <;> simp
theorem i_script (x) (hl : x.1.length ≤ 1099511627776) : i_IsScript x = some (scriptB x.1, ()) := by
  have h := contains_Fault x.1 hl i_IsScript_1 (fun m => !faultB m) (fun i h => by
    have : i_IsScript_1 (x.1[i], ()) = match i_IsFault (x.1[i], ()) with | none => none | some v1 => some ((!v1.1), ()) := rfl
    rw [this, i_fault])
  unfold i_IsScript scriptB
  rw [h, all_any]
  cases decide ((x.1.length : Int) ≤ 30) <;> simp
noncomputable def stepB (x : TStep.T) : Bool := inB x.1 0 255 && inB x.2.1 0 7 && scriptB x.2.2.1 && scriptB x.2.2.2.1
theorem s_step (x) (h1 : x.1.2.2.1.length ≤ 1099511627776) (h2 : x.1.2.2.2.1.length ≤ 1099511627776) : s_IsStep x = some (stepB x.1, ()) := by
  unfold s_IsStep stepB
  simp only [s_in, s_script (x.1.2.2.1, ()) h1, s_script (x.1.2.2.2.1, ()) h2]
  repeat' split
  all_goals simp_all
theorem i_step (x) (h1 : x.1.2.2.1.length ≤ 1099511627776) (h2 : x.1.2.2.2.1.length ≤ 1099511627776) : i_IsStep x = some (stepB x.1, ()) := by
  unfold i_IsStep stepB
  simp only [i_in, i_script (x.1.2.2.1, ()) h1, i_script (x.1.2.2.2.1, ()) h2]
  repeat' split
  all_goals simp_all
end Go.Proofs.Yteldmddnmhmecaa
