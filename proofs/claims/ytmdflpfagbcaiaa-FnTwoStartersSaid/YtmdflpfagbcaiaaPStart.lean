/- Plain laws: who starts. -/
import Derived.Test.YtmdflpfagbcaiaaPStarter
import Derived.Test.YtmdflpfagbcaiaaPMin
import Derived.Test.YtmdflpfagbcaiaaPPush
namespace Go.Proofs.Ytmdflpfagbcaiaa
open Go.RowKit
set_option linter.unusedVariables false
set_option linter.unusedSimpArgs false

theorem starters_len {l : List TStarter.T} (h : startersB l = true) : 1 ≤ l.length ∧ l.length ≤ 32 := by
  unfold startersB at h
  simp only [Bool.and_eq_true] at h
  have := in_iff.1 h.2
  omega

def maxR (m v : Int) : Int := if v > m then v else m
theorem s_ends (v : Int) (r : List Int) (hl : (v :: r).length ≤ 1099511627776) : s_l17Ends (v :: r, ()) = some (r.foldl minL v, r.foldl maxR v, ()) := by
  have e : loopL b_s_l17Ends_3 (v :: r, v, v, ((1 : Nat) : Int), ()) = some (.inl (r.foldl minL v, r.foldl maxR v, ())) := by
    rw [loop_list (B := b_s_l17Ends_3) (v :: r) (fun (s : Int × Int) i => (v :: r, s.1, s.2, (i : Int), ())) (fun _ u s => some (.inl (minL s.1 u, maxR s.2 u))) (fun s => .inl (s.1, s.2, ())) ?_ ?_ r.length 1 (v, v) (by simp; omega)]
    · rw [runL_total (g := fun (s : Int × Int) u => (minL s.1 u, maxR s.2 u)) (fun _ _ _ => rfl), List.drop_one, List.tail_cons, foldl_pair]
    · intro s
      simp only [b_s_l17Ends_3, lt_n]
    · intro s i hi
      simp only [b_s_l17Ends_3, lt_i hi, next_i hi hl, idx_nat hi, onSome]
      rfl
  have e0 : s_l17Ends (v :: r, ()) = match loopL b_s_l17Ends_3 (v :: r, v, v, ((1 : Nat) : Int), ()) with
    | none => none
    | some (.inl v5) => some (v5.1, v5.2.1, ())
    | some (.inr _) => none := rfl
  rw [e0, e]

/-- When each one is first due. -/
def dueL (l : List TStarter.T) : List Int := l.map (fun v => IntKind.i64.wrap (v.2.1 + v.2.2.1))
theorem s_due (l : List TStarter.T) (hl : l.length ≤ 1000000000) : s_l31Due (l, ()) = some (dueL l, ()) := by
  have e := push_ok (B := b_s_l31Due_3) l hl (fun s i => (l, s, (i : Int), ())) (fun _ v => [IntKind.i64.wrap (v.2.1 + v.2.2.1)]) (by simp) (fun s => .inl (s, ())) (fun s => by simp only [b_s_l31Due_3, lt_n]) (fun s i h hs => by
    simp only [b_s_l31Due_3, lt_i h, next_i h (show l.length ≤ 1099511627776 by omega), idx_nat h, onSome]
    rw [room_ok (by simp; omega)])
  have e' : loopL b_s_l31Due_3 (l, [], (0 : Int), ()) = _ := e
  unfold s_l31Due
  simp only [e', pushes_map]
  rfl
theorem i_due (l : List TStarter.T) (hl : l.length ≤ 1000000000) : i_firstDue (l, ()) = some (dueL l, ()) := by
  have e := push_ok (B := b_i_firstDue_3) l hl (fun s i => (s, l, (l.length : Int), (i : Int), ())) (fun _ v => [IntKind.i64.wrap (v.2.1 + v.2.2.1)]) (by simp) (fun s => .inl (s, ())) (fun s => by simp only [b_i_firstDue_3, lt_n]) (fun s i h hs => by
    simp only [b_i_firstDue_3, lt_i h, next_i h (show l.length ≤ 1099511627776 by omega), idx_nat h, onSome]
    rw [room_ok (by simp; omega)])
  have e' : loopL b_i_firstDue_3 ([], l, (l.length : Int), (0 : Int), ()) = _ := e
  unfold i_firstDue
  simp only [e', pushes_map]
  rfl

/-- Whose turn it is: the indices of the least. -/
def firstsL (m : Int) (l : List Int) : List Int := pushes (fun i v => if v == m then [(i : Int)] else []) 0 l
theorem firsts_len (m : Int) (l : List Int) : (firstsL m l).length ≤ l.length := pushes_length _ (fun i v => by split <;> simp) 0 l
theorem firsts_in1 (m : Int) : ∀ (l : List Int) (i : Nat) (k : Int), k ∈ pushes (fun i v => if v == m then [(i : Int)] else []) i l ↔ ∃ j : Nat, k = (i + j : Nat) ∧ l[j]? = some m
  | [], i, k => by simp [pushes]
  | v :: r, i, k => by
    simp only [pushes, List.mem_append, firsts_in1 m r (i + 1) k]
    constructor
    · rintro (h | ⟨j, h1, h2⟩)
      · split at h
        · rename_i hv
          refine ⟨0, by simpa using h, ?_⟩
          simpa using hv
        · cases h
      · exact ⟨j + 1, by omega, by simpa using h2⟩
    · rintro ⟨j, h1, h2⟩
      cases j with
      | zero =>
        left
        have : v = m := by simpa using h2
        simp [this, h1]
      | succ j =>
        right
        exact ⟨j, by omega, by simpa using h2⟩
theorem firsts_in (m : Int) (l : List Int) (k : Int) : k ∈ firstsL m l ↔ ∃ j : Nat, k = (j : Int) ∧ l[j]? = some m := by
  unfold firstsL
  rw [firsts_in1]
  simp

def leastI : List Int → Int
  | [] => 0
  | v :: r => r.foldl minL v
def leastL (l : List Int) : List Int := firstsL (leastI l) l
theorem least_mem {l : List Int} (h : 1 ≤ l.length) : leastI l ∈ l := by
  cases l with
  | nil => simp at h
  | cons v r => exact min_mem r v
theorem least_some {l : List Int} (h : 1 ≤ l.length) : ∃ k : Nat, ∃ r, leastL l = (k : Int) :: r ∧ l[k]? = some (leastI l) ∧ k < l.length := by
  obtain ⟨j, hj, he⟩ := List.getElem_of_mem (least_mem h)
  have h1 : (j : Int) ∈ leastL l := (firsts_in _ _ _).2 ⟨j, rfl, by rw [List.getElem?_eq_getElem hj, he]⟩
  cases hl : leastL l with
  | nil => rw [hl] at h1; cases h1
  | cons k r =>
    have h2 : k ∈ leastL l := by rw [hl]; simp
    obtain ⟨i, rfl, h3⟩ := (firsts_in _ _ _).1 h2
    refine ⟨i, r, rfl, h3, ?_⟩
    obtain ⟨hi, _⟩ := List.getElem?_eq_some_iff.1 h3
    exact hi

theorem s_first (l : List Int) (h : 1 ≤ l.length) (hl : l.length ≤ 1000000000) : s_l31First (l, ()) = some (leastL l, ()) := by
  cases l with
  | nil => simp at h
  | cons v r =>
    have e := push_ok (B := b_s_l31First_4) (v :: r) hl (fun s i => (v :: r, r.foldl minL v, s, (i : Int), ())) (fun i u => if u == r.foldl minL v then [(i : Int)] else []) (fun i u => by split <;> simp) (fun s => .inl (s, ())) (fun s => by simp only [b_s_l31First_4, lt_n]) (fun s i h hs => by
      simp only [b_s_l31First_4, lt_i h, next_i h (show (v :: r).length ≤ 1099511627776 by omega), idx_nat h, onSome]
      rcases Bool.eq_false_or_eq_true ((v :: r)[i] == List.foldl minL v r) with h1 | h1
      · simp only [h1, if_true]
        rw [room_ok (by simp; omega)]
      · simp only [h1]
        simp)
    have e' : loopL b_s_l31First_4 (v :: r, List.foldl minL v r, [], (0 : Int), ()) = _ := e
    unfold s_l31First
    simp only [s_ends v r (by omega), e']
    rfl
theorem i_least (l : List Int) (h : 1 ≤ l.length) (hl : l.length ≤ 1000000000) : i_leastDue (l, ()) = some (leastL l, ()) := by
  cases l with
  | nil => simp at h
  | cons v r =>
    have e := push_ok (B := b_i_leastDue_3) (v :: r) hl (fun s i => (v :: r, s, v :: r, ((v :: r).length : Int), (i : Int), ())) (fun i u => if u == r.foldl minL v then [(i : Int)] else []) (fun i u => by split <;> simp) (fun s => .inl (s, ())) (fun s => by simp only [b_i_leastDue_3, lt_n]) (fun s i h hs => by
      simp only [b_i_leastDue_3, lt_i h, next_i h (show (v :: r).length ≤ 1099511627776 by omega), idx_nat h, onSome, i_min v r (show (v :: r).length ≤ 1099511627776 by omega)]
      rcases Bool.eq_false_or_eq_true ((v :: r)[i] == List.foldl minL v r) with h1 | h1
      · simp only [h1, if_true]
        rw [room_ok (by simp; omega)]
      · simp only [h1]
        simp)
    have e' : loopL b_i_leastDue_3 (v :: r, [], v :: r, ((v :: r).length : Int), (0 : Int), ()) = _ := e
    unfold i_leastDue
    simp only [e']
    rfl
end Go.Proofs.Ytmdflpfagbcaiaa
