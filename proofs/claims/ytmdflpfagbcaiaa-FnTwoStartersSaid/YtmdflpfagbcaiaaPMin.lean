/- Plain laws: the least one. -/
import Derived.Test.YtmdflpfagbcaiaaPIn
namespace Go.Proofs.Ytmdflpfagbcaiaa
open Go.RowKit
set_option linter.unusedVariables false
set_option linter.unusedSimpArgs false

def minL (m v : Int) : Int := if v < m then v else m
theorem i_min (v : Int) (r : List Int) (hl : (v :: r).length ≤ 1099511627776) : slices_Min_int64 (v :: r, ()) = some (r.foldl minL v, ()) := by
  have e : loopL b_slices_Min_int64_5 (v :: r, v, ((1 : Nat) : Int), ()) = some (.inl (r.foldl minL v, ())) := by
    rw [loop_list (B := b_slices_Min_int64_5) (v :: r) (fun (s : Int) i => (v :: r, s, (i : Int), ())) (fun _ u s => some (.inl (minL s u))) (fun s => .inl (s, ())) ?_ ?_ r.length 1 v (by simp; omega)]
    · rw [runL_total (g := minL) (fun _ _ _ => rfl), List.drop_one, List.tail_cons]
    · intro s
      simp only [b_slices_Min_int64_5, lt_n]
    · intro s i hi
      simp only [b_slices_Min_int64_5, lt_i hi, next_i hi hl, idx_nat hi, onSome]
      rfl
  have e0 : slices_Min_int64 (v :: r, ()) = match decide (((v :: r).length : Int) < 1) with
    | true => none
    | false => match loopL b_slices_Min_int64_5 (v :: r, v, ((1 : Nat) : Int), ()) with
      | none => none
      | some (.inl v3) => some (v3.1, ())
      | some (.inr _) => none := rfl
  have h1 : decide (((v :: r).length : Int) < 1) = false := by simp; omega
  rw [e0, e, h1]
theorem le_min (b : Int) : ∀ (r : List Int) (v : Int), b ≤ r.foldl minL v ↔ b ≤ v ∧ ∀ u ∈ r, b ≤ u
  | [], v => by simp
  | u :: r, v => by
    rw [List.foldl_cons, le_min b r]
    unfold minL
    simp only [List.mem_cons, forall_eq_or_imp]
    split
    · constructor
      · rintro ⟨h1, h2⟩; exact ⟨by omega, by omega, h2⟩
      · rintro ⟨h1, h2, h3⟩; exact ⟨by omega, h3⟩
    · constructor
      · rintro ⟨h1, h2⟩; exact ⟨by omega, by omega, h2⟩
      · rintro ⟨h1, h2, h3⟩; exact ⟨by omega, h3⟩
theorem min_mem : ∀ (r : List Int) (v : Int), r.foldl minL v ∈ v :: r
  | [], v => by simp
  | u :: r, v => by
    rw [List.foldl_cons]
    have := min_mem r (minL v u)
    unfold minL at this ⊢
    split at this <;> rename_i h
    · simp only [h, if_true] at this ⊢
      rcases List.mem_cons.1 this with h2 | h2
      · simp [h2]
      · simp [h2]
    · simp only [h, if_false] at this ⊢
      rcases List.mem_cons.1 this with h2 | h2
      · simp [h2]
      · simp [h2]
end Go.Proofs.Ytmdflpfagbcaiaa
