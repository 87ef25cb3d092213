/- Plain laws: loops that append. -/
import Derived.Test.YtdbgmpnibjnocaaDoorPB
namespace Go.Proofs.YtdbgmpnibjnocaaDoor
open Go.RowKit
set_option linter.unusedVariables false
set_option linter.unusedSimpArgs false
section
variable {T R O X : Type}

/-- What a loop appends. -/
def pushes (g : Nat → T → List R) : Nat → List T → List R
  | _, [] => []
  | i, v :: r => g i v ++ pushes g (i + 1) r
theorem pushes_length (g : Nat → T → List R) (h : ∀ i v, (g i v).length ≤ 1) : ∀ (i : Nat) (l : List T), (pushes g i l).length ≤ l.length
  | _, [] => by simp [pushes]
  | i, v :: r => by
    have h1 := h i v
    have h2 := pushes_length g h (i + 1) r
    simp [pushes]
    omega
theorem pushes_map (f : T → R) : ∀ (i : Nat) (l : List T), pushes (fun _ v => [f v]) i l = l.map f
  | _, [] => rfl
  | i, v :: r => by simp [pushes, pushes_map f (i + 1) r]
theorem pushes_filter (p : T → Bool) : ∀ (i : Nat) (l : List T), pushes (fun _ v => if p v then [v] else []) i l = l.filter p
  | _, [] => rfl
  | i, v :: r => by
    cases h : p v <;> simp [pushes, h, pushes_filter p (i + 1) r]

theorem push_ok {B : X → Option (X ⊕ O)} (l : List T) (hl : l.length ≤ 1000000000) (e : List R → Nat → X) (g : Nat → T → List R) (hg : ∀ i v, (g i v).length ≤ 1) (fin : List R → O) (hend : ∀ s, B (e s l.length) = some (.inr (fin s)))
    (hstep : ∀ s i (h : i < l.length), s.length ≤ 1000000000 → B (e s i) = some (.inl (e (s ++ g i l[i]) (i + 1)))) : loopL B (e [] 0) = some (fin (pushes g 0 l)) := by
  have key : ∀ (k i : Nat) (s : List R), i + k = l.length → s.length ≤ i → loopL B (e s i) = some (fin (s ++ pushes g i (l.drop i))) := by
    intro k
    induction k with
    | zero =>
      intro i s hi hs
      have : i = l.length := by omega
      subst this
      rw [loopL_eq, hend]
      simp [pushes]
    | succ k ih =>
      intro i s hi hs
      have h1 : i < l.length := by omega
      rw [loopL_eq, hstep s i h1 (by omega)]
      simp only
      have hg1 := hg i l[i]
      rw [ih (i + 1) _ (by omega) (by simp; omega), List.drop_eq_getElem_cons h1]
      simp [pushes]
  have := key l.length 0 [] (by omega) (by simp)
  simpa using this

theorem pushes_get (g : Nat → T → R) : ∀ (l : List T) (k i : Nat) (h : i < l.length), (pushes (fun i v => [g i v]) k l)[i]? = some (g (k + i) l[i])
  | [], k, i, h => by simp at h
  | v :: r, k, 0, h => by simp [pushes]
  | v :: r, k, i + 1, h => by
    have := pushes_get g r (k + 1) i (by simpa using h)
    simp only [pushes, List.singleton_append, List.getElem?_cons_succ, this, List.getElem_cons_succ]
    congr 2
    omega
theorem pushes_len1 (g : Nat → T → R) : ∀ (l : List T) (k : Nat), (pushes (fun i v => [g i v]) k l).length = l.length
  | [], k => rfl
  | v :: r, k => by simp [pushes, pushes_len1 g r (k + 1)]
theorem room_ok {n : Nat} {x : Option R} (h : n ≤ 1099511627776) : room n x = x := by
  unfold room
  rw [if_pos h]
end
end Go.Proofs.YtdbgmpnibjnocaaDoor
