/- Plain laws: marks and traces. -/
import Derived.Test.YtdbgmpnibjnocaaDoorPNode
import Derived.Test.YtdbgmpnibjnocaaDoorPState
namespace Go.Proofs.YtdbgmpnibjnocaaDoor
open Go.RowKit
set_option linter.unusedVariables false
set_option linter.unusedSimpArgs false

noncomputable def markB (x : TMark.T) : Bool := match s_IsMark (x, ()) with
  | some v => v.1
  | none => false
theorem s_mark (x) : s_IsMark x = some (markB x.1, ()) := by
  have h : ∃ b, s_IsMark x = some (b, ()) := by
    unfold s_IsMark
    simp only [s_in, s_state, s_node]
    repeat' split
    all_goals first | exact ⟨_, rfl⟩ | simp_all
  obtain ⟨b, hb⟩ := h
  have e : markB x.1 = match s_IsMark x with
    | some v => v.1
    | none => false := rfl
  rw [e, hb]
theorem i_mark (x) : i_IsMark x = some (markB x.1, ()) := by
  rw [← s_mark x]
  unfold i_IsMark s_IsMark
  simp only [s_in, i_in, s_state, s_node, i_state, i_node]

noncomputable def traceB (l : List TMark.T) : Bool := l.all markB && decide ((l.length : Int) ≤ 60)
theorem s_trace (x) (hl : x.1.length ≤ 1099511627776) : s_l33List x = some (traceB x.1, ()) := by
  obtain ⟨l, u⟩ := x
  have hl : l.length ≤ 1099511627776 := hl
  have e := all_ok (B := b_s_l33List_2) l (fun i => (l, (i : Int), ())) markB (.inl (l, ())) (.inr (false, ())) (by simp only [b_s_l33List_2, lt_n]) (fun i h => by
    simp only [b_s_l33List_2, lt_i h, next_i h hl, idx_nat h, onSome, s_mark]
    cases markB l[i] <;> simp)
  have e0 : s_l33List (l, u) = match loopL b_s_l33List_2 (l, ((0 : Nat) : Int), ()) with
    | none => none
    | some (.inl v3) => some ((decide ((v3.1.length : Int) ≤ (60 : Int))), ())
    | some (.inr v4) => some (v4.1, ()) := rfl
  rw [e0, e]
  unfold traceB
  cases l.all markB <;> simp
theorem i_trace (x) (hl : x.1.length ≤ 1099511627776) : i_isTrace x = some (traceB x.1, ()) := by
  have h := contains_Mark x.1 hl i_isTrace_1 (fun m => !markB m) (fun i h => by
    have : i_isTrace_1 (x.1[i], ()) = match i_IsMark (x.1[i], ()) with | none => none | some v1 => some ((!v1.1), ()) := rfl
    rw [this, i_mark])
  unfold i_isTrace traceB
  rw [h, all_any]
  cases decide ((x.1.length : Int) ≤ 60) <;> simp
end Go.Proofs.YtdbgmpnibjnocaaDoor
