/- The plain law of SpreadOf. -/
import Derived.Test.YteldmddnmhmecaaPlain
import Derived.Test.YteldmddnmhmecaaList
namespace Go.Proofs.Yteldmddnmhmecaa
open Go.RowKit

theorem next_i {i n : Nat} (h : i < n) (hn : n ≤ 1099511627776) : IntKind.i64.wrap ((i : Int) + 1) = ((i + 1 : Nat) : Int) := by
  rw [wrap_i64] <;> omega
theorem lt_i {i n : Nat} (h : i < n) : decide ((i : Int) < (n : Int)) = true := by
  simp; omega
theorem lt_n (n : Nat) : decide ((n : Int) < (n : Int)) = false := by simp

theorem e83 (l : List Int) (hl : l.length ≤ 1099511627776) : g83 (l, ()) = some (l.all (fun v => decide (v ≥ 0) && decide (v ≤ 1000000000)), ()) := by
  have e : loopL b83_2 (l, ((0 : Nat) : Int), ()) = some (if l.all (fun v => decide (v ≥ 0) && decide (v ≤ 1000000000)) then .inl () else .inr (false, ())) := by
    rw [loop_list (B := b83_2) l (fun (_ : Unit) i => (l, (i : Int), ())) (fun _ v s => if (decide (v ≥ 0) && decide (v ≤ 1000000000)) then some (.inl s) else some (.inr (.inr (false, ())))) (fun _ => .inl ()) ?_ ?_ l.length 0 () (by omega),
      List.drop_zero, runL_all (p := fun v => decide (v ≥ 0) && decide (v ≤ 1000000000)) (fun _ _ _ => rfl)]
    · intro s
      simp only [b83_2, lt_n]
    · intro s i hi
      simp only [b83_2, lt_i hi, next_i hi hl, idx_nat hi, onSome, e60]
      cases hp : (decide (l[i] ≥ 0) && decide (l[i] ≤ 1000000000)) <;> simp
  have e0 : g83 (l, ()) = match loopL b83_2 (l, ((0 : Nat) : Int), ()) with
    | none => none
    | some (.inl _) => some (true, ())
    | some (.inr v4) => some (v4.1, ()) := rfl
  rw [e0, e]
  cases l.all (fun v => decide (v ≥ 0) && decide (v ≤ 1000000000)) <;> rfl

theorem e94 (l : List Int) (lo hi : Int) (hl : l.length ≤ 1099511627776) : g94 (l, lo, hi, ()) = some (l.all (fun v => decide (v ≥ lo) && decide (v ≤ hi)), ()) := by
  have e : loopL b94_2 (lo, hi, l, (l.length : Int), ((0 : Nat) : Int), ()) = some (if l.all (fun v => decide (v ≥ lo) && decide (v ≤ hi)) then .inl () else .inr (false, ())) := by
    rw [loop_list (B := b94_2) l (fun (_ : Unit) i => (lo, hi, l, (l.length : Int), (i : Int), ())) (fun _ v s => if (decide (v ≥ lo) && decide (v ≤ hi)) then some (.inl s) else some (.inr (.inr (false, ())))) (fun _ => .inl ()) ?_ ?_ l.length 0 () (by omega),
      List.drop_zero, runL_all (p := fun v => decide (v ≥ lo) && decide (v ≤ hi)) (fun _ _ _ => rfl)]
    · intro s
      simp only [b94_2, lt_n]
    · intro s i hi'
      simp only [b94_2, lt_i hi', next_i hi' hl, idx_nat hi', onSome]
      by_cases h1 : l[i] < lo
      · have h2 : ¬ l[i] ≥ lo := by omega
        simp [h1, h2]
      · have h2 : l[i] ≥ lo := by omega
        by_cases h3 : l[i] > hi
        · have h4 : ¬ l[i] ≤ hi := by omega
          simp [h1, h3, h4]
        · have h4 : l[i] ≤ hi := by omega
          simp [h1, h2, h3, h4]
  have e0 : g94 (l, lo, hi, ()) = match loopL b94_2 (lo, hi, l, (l.length : Int), ((0 : Nat) : Int), ()) with
    | none => none
    | some (.inl _) => some (true, ())
    | some (.inr v3) => some (v3.1, ()) := rfl
  rw [e0, e]
  cases l.all (fun v => decide (v ≥ lo) && decide (v ≤ hi)) <;> rfl

theorem e24 (l : List Int) (hl : l.length ≤ 1099511627776) : g24 (l, ()) = some (l, ()) := by
  have e : loopL b24_3 (l, List.replicate l.length 0, ((0 : Nat) : Int), ()) = some (.inl (l, ())) := by
    rw [loop_list (B := b24_3) l (fun (s : List Int) i => (l, s, (i : Int), ())) (fun i v s => if i < s.length then some (.inl (s.set i v)) else none) (fun s => .inl (s, ())) ?_ ?_ l.length 0 (List.replicate l.length 0) (by omega), List.drop_zero]
    · have := runL_copy (O := (Ty.T (.pair (.list (.int .i64)) .unit)) ⊕ (Ty.T .unit)) (f := fun i v s => if i < s.length then some (.inl (s.set i v)) else none) (fin := fun s => .inl (s, ())) (fun i v s h => by simp [h]) l [] (List.replicate l.length 0) (by simp)
      simpa using this
    · intro s
      simp only [b24_3, lt_n]
    · intro s i hi
      simp only [b24_3, lt_i hi, next_i hi hl, idx_nat hi, onSome]
      by_cases h : i < s.length
      · simp [idx_nat h, h]
      · simp [idx_none (Nat.le_of_not_lt h), h]
  have e0 : g24 (l, ()) = if 0 ≤ (l.length : Int) ∧ (l.length : Int) ≤ (l.length : Int) then room ((l.length : Int).toNat) (match loopL b24_3 (l, List.replicate l.length 0, ((0 : Nat) : Int), ()) with
    | none => none
    | some (.inl v4) => some (v4.1, ())
    | some (.inr _) => none) else none := rfl
  rw [e0, e, if_pos (by omega)]
  unfold room
  rw [if_pos (by omega)]

theorem e26 (l : List Int) (hl : l.length ≤ 1099511627776) : g26 (l, l, ()) = some (true, ()) := by
  have e : loopL b26_4 (l, l, ((0 : Nat) : Int), ()) = some (.inl ()) := by
    rw [loop_list (B := b26_4) l (fun (_ : Unit) i => (l, l, (i : Int), ())) (fun _ _ s => some (.inl s)) (fun _ => .inl ()) ?_ ?_ l.length 0 () (by omega),
      List.drop_zero, runL_total (g := fun s _ => s) (fun _ _ _ => rfl)]
    · intro s
      simp only [b26_4, lt_n]
    · intro s i hi
      simp only [b26_4, lt_i hi, next_i hi hl, idx_nat hi, onSome]
      simp
  have e0 : g26 (l, l, ()) = match ((l.length : Int) != (l.length : Int)) with
    | true => some (false, ())
    | false => match loopL b26_4 (l, l, ((0 : Nat) : Int), ()) with
      | none => none
      | some (.inl _) => some (true, ())
      | some (.inr v4) => some (v4.1, ()) := rfl
  rw [e0, e]
  simp

theorem foldl_pair {α β γ : Type} (f : α → γ → α) (g : β → γ → β) : ∀ (l : List γ) (a : α) (b : β), l.foldl (fun s v => (f s.1 v, g s.2 v)) (a, b) = (l.foldl f a, l.foldl g b)
  | [], _, _ => rfl
  | v :: r, a, b => by simp only [List.foldl_cons]; exact foldl_pair f g r (f a v) (g b v)

def minL (m v : Int) : Int := if v < m then v else m
def maxL (m v : Int) : Int := if v > m then v else m

theorem e67 (v : Int) (r : List Int) (hl : (v :: r).length ≤ 1099511627776) : g67 (v :: r, ()) = some (r.foldl minL v, r.foldl maxL v, ()) := by
  have e : loopL b67_3 (v :: r, v, v, ((1 : Nat) : Int), ()) = some (.inl (r.foldl minL v, r.foldl maxL v, ())) := by
    rw [loop_list (B := b67_3) (v :: r) (fun (s : Int × Int) i => (v :: r, s.1, s.2, (i : Int), ())) (fun _ u s => some (.inl (minL s.1 u, maxL s.2 u))) (fun s => .inl (s.1, s.2, ())) ?_ ?_ r.length 1 (v, v) (by simp; omega)]
    · rw [runL_total (g := fun (s : Int × Int) u => (minL s.1 u, maxL s.2 u)) (fun _ _ _ => rfl), List.drop_one, List.tail_cons, foldl_pair]
    · intro s
      simp only [b67_3, lt_n]
    · intro s i hi
      simp only [b67_3, lt_i hi, next_i hi hl, idx_nat hi, onSome]
      rfl
  have e0 : g67 (v :: r, ()) = match loopL b67_3 (v :: r, v, v, ((1 : Nat) : Int), ()) with
    | none => none
    | some (.inl v5) => some (v5.1, v5.2.1, ())
    | some (.inr _) => none := rfl
  rw [e0, e]

theorem e86 (v : Int) (r : List Int) (hl : (v :: r).length ≤ 1099511627776) : g86 (v :: r, ()) = some (r.foldl maxL v, ()) := by
  have e : loopL b86_5 (v :: r, v, ((1 : Nat) : Int), ()) = some (.inl (r.foldl maxL v, ())) := by
    rw [loop_list (B := b86_5) (v :: r) (fun (s : Int) i => (v :: r, s, (i : Int), ())) (fun _ u s => some (.inl (maxL s u))) (fun s => .inl (s, ())) ?_ ?_ r.length 1 v (by simp; omega)]
    · rw [runL_total (g := maxL) (fun _ _ _ => rfl), List.drop_one, List.tail_cons]
    · intro s
      simp only [b86_5, lt_n]
    · intro s i hi
      simp only [b86_5, lt_i hi, next_i hi hl, idx_nat hi, onSome]
      rfl
  have e0 : g86 (v :: r, ()) = match decide (((v :: r).length : Int) < 1) with
    | true => none
    | false => match loopL b86_5 (v :: r, v, ((1 : Nat) : Int), ()) with
      | none => none
      | some (.inl v3) => some (v3.1, ())
      | some (.inr _) => none := rfl
  have h1 : decide (((v :: r).length : Int) < 1) = false := by simp; omega
  rw [e0, e, h1]
theorem e95 (v : Int) (r : List Int) (hl : (v :: r).length ≤ 1099511627776) : g95 (v :: r, ()) = some (r.foldl minL v, ()) := by
  have e : loopL b95_5 (v :: r, v, ((1 : Nat) : Int), ()) = some (.inl (r.foldl minL v, ())) := by
    rw [loop_list (B := b95_5) (v :: r) (fun (s : Int) i => (v :: r, s, (i : Int), ())) (fun _ u s => some (.inl (minL s u))) (fun s => .inl (s, ())) ?_ ?_ r.length 1 v (by simp; omega)]
    · rw [runL_total (g := minL) (fun _ _ _ => rfl), List.drop_one, List.tail_cons]
    · intro s
      simp only [b95_5, lt_n]
    · intro s i hi
      simp only [b95_5, lt_i hi, next_i hi hl, idx_nat hi, onSome]
      rfl
  have e0 : g95 (v :: r, ()) = match decide (((v :: r).length : Int) < 1) with
    | true => none
    | false => match loopL b95_5 (v :: r, v, ((1 : Nat) : Int), ()) with
      | none => none
      | some (.inl v3) => some (v3.1, ())
      | some (.inr _) => none := rfl
  have h1 : decide (((v :: r).length : Int) < 1) = false := by simp; omega
  rw [e0, e, h1]

/-- May it be a list of clocks? -/
def clocksB (l : List Int) : Bool := decide ((l.length : Int) ≥ 1) && decide ((l.length : Int) ≤ 32) && l.all (fun v => decide (v ≥ 0) && decide (v ≤ 1000000000))
theorem e66 (l : List Int) (hl : l.length ≤ 1099511627776) : g66 (l, ()) = some (clocksB l, ()) := by
  unfold g66 clocksB
  simp only [e60, e83 l hl]
  cases (decide ((l.length : Int) ≥ 1) && decide ((l.length : Int) ≤ 32)) <;> rfl
theorem e68 (l : List Int) (hl : l.length ≤ 1099511627776) : g68 (l, ()) = some (clocksB l, ()) := by
  unfold g68 clocksB
  simp only [e94 l _ _ hl]
  cases decide ((l.length : Int) ≥ 1) <;> cases decide ((l.length : Int) ≤ 32) <;> rfl

theorem e25 (l : List Int) (hl : l.length ≤ 1099511627776) : ∃ y, g23 (l, ()) = some y ∧ g25 (l, ()) = some y := by
  unfold g23 g25
  simp only [e66 l hl, e68 l hl]
  cases hc : clocksB l with
  | false => exact ⟨_, rfl, rfl⟩
  | true =>
    cases l with
    | nil => simp [clocksB] at hc
    | cons v r =>
      simp only [Bool.not_true, e67 v r hl, g69, e86 v r hl, e95 v r hl]
      exact ⟨_, rfl, rfl⟩

theorem law6 (x) : g6 x = some (true, ()) := by
  obtain ⟨l, u⟩ := x
  unfold g6
  simp only
  by_cases h : (l.length : Int) > 1048576
  · simp [h]
  · have hl : l.length ≤ 1099511627776 := by omega
    have h1 : decide ((l.length : Int) > 1048576) = false := by simpa using h
    obtain ⟨y, hy, hz⟩ := e25 l hl
    have h2 : (y.1 != y.1) = false := by simp
    have h3 : (y.2.1 != y.2.1) = false := by simp
    simp only [h1, e24 l hl, hy, hz, h2, h3, e26 l hl]
    rfl
end Go.Proofs.Yteldmddnmhmecaa
