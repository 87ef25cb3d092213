/- Plain laws: starters. -/
import Derived.Test.YtmdflpfagbcaiaaPNode
namespace Go.Proofs.Ytmdflpfagbcaiaa
open Go.RowKit
set_option linter.unusedVariables false
set_option linter.unusedSimpArgs false

def starterB (v : TStarter.T) : Bool := inB v.1 0 31 && inB v.2.1 0 100000 && inB v.2.2.1 1 100000 && inB v.2.2.2.1 1 100000
def clashB (v u : TStarter.T) : Bool := (u.1 == v.1) || (u.2.2.2.1 == v.2.2.2.1)
/-- Each one is a starter, and clashes with none before it. -/
def startersGo : List TStarter.T → List TStarter.T → Bool
  | _, [] => true
  | done, v :: r => starterB v && !done.any (clashB v) && startersGo (done ++ [v]) r
def startersB (l : List TStarter.T) : Bool := startersGo [] l && inB l.length 1 32

theorem starters_loop {X O : Type} {B : X → Option (X ⊕ O)} (l : List TStarter.T) (e : Nat → X) (fin o : O) (hend : B (e l.length) = some (.inr fin))
    (hstep : ∀ i (h : i < l.length), B (e i) = if starterB l[i] && !(l.take i).any (clashB l[i]) then some (.inl (e (i + 1))) else some (.inr o)) : loopL B (e 0) = some (if startersGo [] l then fin else o) := by
  have key : ∀ (k i : Nat), i + k = l.length → loopL B (e i) = some (if startersGo (l.take i) (l.drop i) then fin else o) := by
    intro k
    induction k with
    | zero =>
      intro i hi
      have : i = l.length := by omega
      subst this
      rw [loopL_eq, hend]
      simp [startersGo]
    | succ k ih =>
      intro i hi
      have h : i < l.length := by omega
      rw [loopL_eq, hstep i h, List.drop_eq_getElem_cons h]
      have e1 : l.take i ++ [l[i]] = l.take (i + 1) := by rw [List.take_add_one]; simp [h]
      unfold startersGo
      rw [e1]
      cases hb : (starterB l[i] && !(l.take i).any (clashB l[i]))
      · simp
      · simp only [if_true, Bool.true_and]
        exact ih (i + 1) (by omega)
  have := key l.length 0 (by omega)
  simpa using this

theorem s_clash (l : List TStarter.T) (hl : l.length ≤ 1099511627776) (i : Nat) (h : i < l.length) (v : TStarter.T) (hv : v = l[i]) :
    loopL b_s_AreStarters_8 (l, (i : Int), v, (0 : Int), ()) = some (if (l.take i).any (clashB v) then .inr (false, ()) else .inl (l, (i : Int), ())) := by
  have hi : (l.take i).length = i := by simp; omega
  have e := all_ok (B := b_s_AreStarters_8) (l.take i) (fun j => (l, (i : Int), v, (j : Int), ())) (fun u => !clashB v u) (.inl (l, (i : Int), ())) (.inr (false, ())) (by rw [hi]; simp only [b_s_AreStarters_8, lt_n]) (fun j hj => by
    have hj' : j < i := by rw [hi] at hj; exact hj
    have hjl : j < l.length := by omega
    have hg : (l.take i)[j] = l[j] := by simp
    rw [hg]
    simp only [b_s_AreStarters_8, lt_i hj', next_i hjl hl, idx_nat hjl, onSome, clashB]
    rcases Bool.eq_false_or_eq_true (l[j].1 == v.1) with h1 | h1 <;> rcases Bool.eq_false_or_eq_true (l[j].2.2.2.1 == v.2.2.2.1) with h2 | h2 <;> simp only [h1, h2] <;> rfl)
  have e' : loopL b_s_AreStarters_8 (l, (i : Int), v, (0 : Int), ()) = _ := e
  rw [e', all_any]
  simp only [Bool.not_not]
  cases (l.take i).any (clashB v) <;> simp

theorem s_starters1 (l : List TStarter.T) (hl : l.length ≤ 1099511627776) : s_AreStarters (l, ()) = some (startersB l, ()) := by
  have e := starters_loop (B := b_s_AreStarters_2) l (fun i => (l, (i : Int), ())) (.inl (l, ())) (.inr (false, ())) (by simp only [b_s_AreStarters_2, lt_n]) (fun i h => by
    have hc : loopL b_s_AreStarters_8 (l, (i : Int), (l[i].1, l[i].2.1, l[i].2.2.1, l[i].2.2.2.1, ()), (0 : Int), ()) = _ := s_clash l hl i h l[i] rfl
    simp only [b_s_AreStarters_2, lt_i h, next_i h hl, idx_nat h, onSome, s_node, s_in, starterB, hc]
    rcases Bool.eq_false_or_eq_true (inB l[i].1 0 31) with h1 | h1 <;> rcases Bool.eq_false_or_eq_true (inB l[i].2.1 0 100000) with h2 | h2 <;> rcases Bool.eq_false_or_eq_true (inB l[i].2.2.1 1 100000) with h3 | h3 <;> rcases Bool.eq_false_or_eq_true (inB l[i].2.2.2.1 1 100000) with h4 | h4 <;> rcases Bool.eq_false_or_eq_true ((l.take i).any (clashB l[i])) with h5 | h5 <;> simp only [h1, h2, h3, h4, h5] <;> first | rfl | simp [next_i h hl])
  have e' : loopL b_s_AreStarters_2 (l, (0 : Int), ()) = _ := e
  unfold s_AreStarters startersB
  simp only [e', s_in]
  cases startersGo [] l <;> simp
theorem s_starters (x) (hl : x.1.length ≤ 1099511627776) : s_AreStarters x = some (startersB x.1, ()) := s_starters1 x.1 hl

theorem i_starters1 (l : List TStarter.T) (hl : l.length ≤ 1099511627776) : i_AreStarters (l, ()) = some (startersB l, ()) := by
  have e := starters_loop (B := b_i_AreStarters_2) l (fun i => (l, l, (l.length : Int), (i : Int), ())) (.inl (l, ())) (.inr (false, ())) (by simp only [b_i_AreStarters_2, lt_n]) (fun i h => by
    have hb : bounds l.length none (some (.dat (.int .i64) (i : Int))) = some (0, i) := by
      have hh : (0 : Int) ≤ 0 ∧ (0 : Int) ≤ (i : Int) ∧ (i : Int) ≤ (l.length : Int) := ⟨by omega, by omega, by omega⟩
      simp only [bounds, bndOr]
      exact if_pos hh
    have hc : ∀ p : (Ty.pair TStarter .unit).T → Option (Ty.pair .bool .unit).T, (∀ u, p (u, ()) = some (clashB l[i] u, ())) → slices_ContainsFunc_Starter (List.drop 0 (List.take i l), p, ()) = some ((l.take i).any (clashB l[i]), ()) := by
      intro p hp
      rw [List.drop_zero]
      exact contains_Starter (l.take i) (by simp; omega) p _ (fun j hj => hp _)
    simp only [b_i_AreStarters_2, lt_i h, next_i h hl, idx_nat h, onSome, i_node, i_in, starterB, hb]
    rw [hc _ (fun u => by
      simp only [i_AreStarters_1, clashB]
      cases (u.1 == l[i].1) <;> simp)]
    rcases Bool.eq_false_or_eq_true (inB l[i].1 0 31) with h1 | h1 <;> rcases Bool.eq_false_or_eq_true (inB l[i].2.1 0 100000) with h2 | h2 <;> rcases Bool.eq_false_or_eq_true (inB l[i].2.2.1 1 100000) with h3 | h3 <;> rcases Bool.eq_false_or_eq_true (inB l[i].2.2.2.1 1 100000) with h4 | h4 <;> rcases Bool.eq_false_or_eq_true ((l.take i).any (clashB l[i])) with h5 | h5 <;> simp only [h1, h2, h3, h4, h5] <;> first | rfl | simp [next_i h hl])
  have e' : loopL b_i_AreStarters_2 (l, l, (l.length : Int), (0 : Int), ()) = _ := e
  unfold i_AreStarters startersB
  simp only [e']
  unfold inB
  cases hs : startersGo [] l
  · simp
  · simp only [if_true, Bool.true_and]
    rcases Bool.eq_false_or_eq_true (decide ((l.length : Int) ≥ 1)) with h1 | h1 <;> simp only [h1] <;> simp
theorem i_starters (x) (hl : x.1.length ≤ 1099511627776) : i_AreStarters x = some (startersB x.1, ()) := i_starters1 x.1 hl
end Go.Proofs.Ytmdflpfagbcaiaa
