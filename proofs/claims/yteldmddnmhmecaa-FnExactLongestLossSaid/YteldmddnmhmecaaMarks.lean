/- The plain laws of FirstLoss, LongestLoss and AvailabilityOf. -/
import Derived.Test.YteldmddnmhmecaaSpread
import Derived.Test.YteldmddnmhmecaaLift
namespace Go.Proofs.Yteldmddnmhmecaa
open Go.RowKit

abbrev MK : Ty := .pair (.pair (.int .i64) (.pair (.int .i64) (.pair (.int .i64) (.pair (.int .i64) (.pair (.int .i64) .unit))))) (.pair (.int .i64) (.pair (.int .i64) .unit))

noncomputable def okM (m : MK.T) : Bool := match g20 (m, ()) with
  | some v => v.1
  | none => false
theorem e20 (x) : g20 x = some (okM x.1, ()) := by
  obtain ⟨b, hb⟩ := some20 x
  have h : okM x.1 = b := by
    have e : okM x.1 = match g20 x with
      | some v => v.1
      | none => false := rfl
    rw [e, hb]
  rw [hb, h]
theorem e21 (x) : g21 x = some (x.1, ()) := rfl

theorem e32 (l : List MK.T) (h : l.length ≤ maxLen) : g32 (l, 1048576, ()) = some ((if (1048576 : Int) - (l.length : Int) < 0 then (-1 : Int) else (1048576 : Int) - (l.length : Int)), ()) := by
  have h' : l.length ≤ 9223372036854775807 := h
  have hw : IntKind.i64.wrap ((1048576 : Int) - l.length) = 1048576 - l.length := by rw [wrap_i64] <;> omega
  unfold g32
  simp only [hw]
  by_cases hc : (1048576 : Int) - l.length < 0 <;> simp [hc]

theorem e34 (l : List MK.T) (hl : l.length ≤ 1099511627776) : g34 (l, ()) = some (l, ()) := by
  have e : loopL b34_3 (l, List.replicate l.length (((0, 0, 0, 0, 0, ()), 0, 0, ()) : MK.T), ((0 : Nat) : Int), ()) = some (.inl (l, ())) := by
    rw [loop_list (B := b34_3) l (fun (s : List MK.T) i => (l, s, (i : Int), ())) (fun i v s => if i < s.length then some (.inl (s.set i v)) else none) (fun s => .inl (s, ())) ?_ ?_ l.length 0 (List.replicate l.length ((0, 0, 0, 0, 0, ()), 0, 0, ())) (by omega), List.drop_zero]
    · have := runL_copy (O := (Ty.T (.pair (.list MK) .unit)) ⊕ (Ty.T .unit)) (f := fun i v s => if i < s.length then some (.inl (s.set i v)) else none) (fin := fun s => .inl (s, ())) (fun i v s h => by simp [h]) l [] (List.replicate l.length ((0, 0, 0, 0, 0, ()), 0, 0, ())) (by simp)
      simpa using this
    · intro s
      simp only [b34_3, lt_n]
    · intro s i hi
      simp only [b34_3, lt_i hi, next_i hi hl, idx_nat hi, onSome, e21]
      by_cases h : i < s.length
      · simp [idx_nat h, h]
      · simp [idx_none (Nat.le_of_not_lt h), h]
  have e0 : g34 (l, ()) = if 0 ≤ (l.length : Int) ∧ (l.length : Int) ≤ (l.length : Int) then room ((l.length : Int).toNat) (match loopL b34_3 (l, List.replicate l.length (((0, 0, 0, 0, 0, ()), 0, 0, ()) : MK.T), ((0 : Nat) : Int), ()) with
    | none => none
    | some (.inl v4) => some (v4.1, ())
    | some (.inr _) => none) else none := rfl
  rw [e0, e, if_pos (by omega)]
  unfold room
  rw [if_pos (by omega)]

theorem e78 (x) (h : x.2.1 = x.1) : g78 x = some (true, ()) := by
  unfold g78 g99
  rw [h]
  simp

theorem e36 (l : List MK.T) (hl : l.length ≤ 1099511627776) : g36 (l, l, ()) = some (true, ()) := by
  have e : loopL b36_4 (l, l, ((0 : Nat) : Int), ()) = some (.inl ()) := by
    rw [loop_list (B := b36_4) l (fun (_ : Unit) i => (l, l, (i : Int), ())) (fun _ _ s => some (.inl s)) (fun _ => .inl ()) ?_ ?_ l.length 0 () (by omega),
      List.drop_zero, runL_total (g := fun s _ => s) (fun _ _ _ => rfl)]
    · intro s
      simp only [b36_4, lt_n]
    · intro s i hi
      simp only [b36_4, lt_i hi, next_i hi hl, idx_nat hi, onSome]
      rw [e78 _ rfl]
      simp
  have e0 : g36 (l, l, ()) = match ((l.length : Int) != (l.length : Int)) with
    | true => some (false, ())
    | false => match loopL b36_4 (l, l, ((0 : Nat) : Int), ()) with
      | none => none
      | some (.inl _) => some (true, ())
      | some (.inr v4) => some (v4.1, ()) := rfl
  rw [e0, e]
  simp

theorem e74 (l : List MK.T) (hl : l.length ≤ 1099511627776) : g74 (l, ()) = some (l.all okM && decide ((l.length : Int) ≤ 60), ()) := by
  have e : loopL b74_2 (l, ((0 : Nat) : Int), ()) = some (if l.all okM then .inl (l, ()) else .inr (false, ())) := by
    rw [loop_list (B := b74_2) l (fun (_ : Unit) i => (l, (i : Int), ())) (fun _ v s => if okM v then some (.inl s) else some (.inr (.inr (false, ())))) (fun _ => .inl (l, ())) ?_ ?_ l.length 0 () (by omega),
      List.drop_zero, runL_all (p := okM) (fun _ _ _ => rfl)]
    · intro s
      simp only [b74_2, lt_n]
    · intro s i hi
      simp only [b74_2, lt_i hi, next_i hi hl, idx_nat hi, onSome, e20]
      cases okM l[i] <;> simp
  have e0 : g74 (l, ()) = match loopL b74_2 (l, ((0 : Nat) : Int), ()) with
    | none => none
    | some (.inl v3) => some ((decide ((v3.1.length : Int) ≤ (60 : Int))), ())
    | some (.inr v4) => some (v4.1, ()) := rfl
  rw [e0, e]
  cases l.all okM <;> simp

/-- The first one's index. -/
def firstI {α : Type} (q : α → Bool) : Nat → List α → Option Nat
  | _, [] => none
  | i, v :: r => if q v then some i else firstI q (i + 1) r
theorem firstI_any {α : Type} (q : α → Bool) : ∀ (i : Nat) (l : List α), (firstI q i l).isSome = l.any q
  | _, [] => rfl
  | i, v :: r => by
    unfold firstI
    cases h : q v with
    | true => simp [h]
    | false => simp [h, firstI_any q (i + 1) r]
theorem runL_first {S O α : Type} {f : Nat → α → S → Option (S ⊕ O)} {fin : S → O} {q : α → Bool} {o : Nat → O} (h : ∀ i v s, f i v s = if q v then some (.inr (o i)) else some (.inl s)) : ∀ (i : Nat) (l : List α) (s : S), runL f fin i l s = some (match firstI q i l with | none => fin s | some j => o j)
  | _, [], _ => rfl
  | i, v :: r, s => by
    unfold runL
    rw [h]
    cases hp : q v with
    | true => simp [firstI, hp]
    | false =>
      simp only [Bool.false_eq_true, if_false]
      rw [runL_first h (i + 1) r s]
      simp [firstI, hp]

theorem e76 (l : List MK.T) (hl : l.length ≤ 1099511627776) (p : (Ty.pair MK .unit).T → Option (Ty.pair .bool .unit).T) (q : MK.T → Bool) (hq : ∀ x, p x = some (q x.1, ())) :
    g76 (l, p, ()) = some ((match firstI q 0 l with | none => (-1 : Int) | some i => (i : Int)), ()) := by
  have e : loopL b76_2 (l, p, (l.length : Int), ((0 : Nat) : Int), ()) = some (match firstI q 0 l with | none => .inl () | some i => .inr ((i : Int), ())) := by
    rw [loop_list (B := b76_2) l (fun (_ : Unit) i => (l, p, (l.length : Int), (i : Int), ())) (fun i v s => if q v then some (.inr (.inr ((i : Int), ()))) else some (.inl s)) (fun _ => .inl ()) ?_ ?_ l.length 0 () (by omega),
      List.drop_zero, runL_first (q := q) (o := fun i => Sum.inr ((i : Int), ())) (fun _ _ _ => rfl)]
    · intro s
      simp only [b76_2, lt_n]
    · intro s i hi
      simp only [b76_2, lt_i hi, next_i hi hl, idx_nat hi, onSome, hq]
      cases q l[i] <;> simp
  have e0 : g76 (l, p, ()) = match loopL b76_2 (l, p, (l.length : Int), ((0 : Nat) : Int), ()) with
    | none => none
    | some (.inl _) => some ((-1 : Int), ())
    | some (.inr v4) => some (v4.1, ()) := rfl
  rw [e0, e]
  cases firstI q 0 l <;> rfl

theorem e98 (x) : g98 x = some (!okM x.1, ()) := by
  have : g98 x = match g22 x with | none => none | some v1 => some ((!v1.1), ()) := rfl
  rw [this, e22, e20]
theorem all_any {α : Type} (q : α → Bool) : ∀ l : List α, l.all q = !l.any (fun m => !q m)
  | [] => rfl
  | v :: r => by simp [all_any q r]
theorem e75 (l : List MK.T) (hl : l.length ≤ 1099511627776) : g75 (l, ()) = g74 (l, ()) := by
  rw [e74 l hl]
  have h76 := e76 l hl g98 (fun m => !okM m) e98
  unfold g75 g97
  simp only [h76]
  have h1 := firstI_any (fun m => !okM m) 0 l
  rw [all_any okM l, ← h1]
  cases decide ((l.length : Int) ≤ 60)
  · simp
  · cases firstI (fun m => !okM m) 0 l <;> simp

theorem e35 (l : List MK.T) (hl : l.length ≤ 1099511627776) : ∃ y, g33 (l, ()) = some y ∧ g35 (l, ()) = some y := by
  have e : loopL b33_4 (l, ((0 : Nat) : Int), ()) = some (match firstI (fun m : MK.T => m.2.2.1 != 3) 0 l with | none => .inl () | some i => .inr ((i : Int), 0, ())) := by
    rw [loop_list (B := b33_4) l (fun (_ : Unit) i => (l, (i : Int), ())) (fun i v s => if v.2.2.1 != 3 then some (.inr (.inr ((i : Int), 0, ()))) else some (.inl s)) (fun _ => .inl ()) ?_ ?_ l.length 0 () (by omega),
      List.drop_zero, runL_first (q := fun m : MK.T => m.2.2.1 != 3) (o := fun i => Sum.inr ((i : Int), 0, ())) (fun _ _ _ => rfl)]
    · intro s
      simp only [b33_4, lt_n]
    · intro s i hi
      simp only [b33_4, lt_i hi, next_i hi hl, idx_nat hi, onSome]
      cases (l[i].2.2.1 != 3) <;> simp
  have h76 := e76 l hl g77 (fun m => m.2.2.1 != 3) (fun _ => rfl)
  have e0 : g33 (l, ()) = match g74 (l, ()) with
    | none => none
    | some v1 => match (!v1.1) with
      | true => some ((0 : Int), (1 : Int), ())
      | false => match loopL b33_4 (l, ((0 : Nat) : Int), ()) with
        | none => none
        | some (.inl _) => some ((0 : Int), (4 : Int), ())
        | some (.inr v4) => some (v4.1, v4.2.1, ()) := rfl
  rw [e0, e]
  unfold g35
  simp only [e75 l hl, h76, e74 l hl]
  cases (l.all okM && decide ((l.length : Int) ≤ 60))
  · exact ⟨_, rfl, rfl⟩
  · cases firstI (fun m : MK.T => m.2.2.1 != 3) 0 l with
    | none => exact ⟨_, rfl, rfl⟩
    | some i =>
      refine ⟨_, rfl, ?_⟩
      have : decide ((i : Int) < 0) = false := by simp
      simp [this]

theorem law8 (x) (hx : Wf (.pair (.list MK) .unit) x) : g8 x = some (true, ()) := by
  obtain ⟨l, u⟩ := x
  have hm : l.length ≤ maxLen := hx.1.1
  unfold g8
  simp only [e32 l hm]
  by_cases h : (1048576 : Int) - l.length < 0
  · simp [h]
  · have hl : l.length ≤ 1099511627776 := by omega
    have h1 : decide ((1048576 : Int) - l.length < 0) = false := by simpa using h
    obtain ⟨y, hy, hz⟩ := e35 l hl
    have h2 : (y.1 != y.1) = false := by simp
    have h3 : (y.2.1 != y.2.1) = false := by simp
    rw [if_neg h]
    simp only [h1, e34 l hl, hy, hz, h2, h3, e36 l hl]
    rfl
end Go.Proofs.Yteldmddnmhmecaa
