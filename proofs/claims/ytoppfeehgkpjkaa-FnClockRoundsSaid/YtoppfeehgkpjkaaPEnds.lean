/- Plain laws: the least and the greatest; the spread. -/
import Derived.Test.YtoppfeehgkpjkaaPMin
import Derived.Test.YtoppfeehgkpjkaaPMinMax
import Derived.Test.YtoppfeehgkpjkaaPCorrect
namespace Go.Proofs.Ytoppfeehgkpjkaa
open Go.RowKit
set_option linter.unusedVariables false
set_option linter.unusedSimpArgs false

theorem ends_ok (v : Int) (r : List Int) (hl : (v :: r).length ≤ 1099511627776) : s_l17Ends (v :: r, ()) = some (r.foldl minL v, r.foldl maxL v, ()) := by
  have e : loopL b_s_l17Ends_3 (v :: r, v, v, ((1 : Nat) : Int), ()) = some (.inl (r.foldl minL v, r.foldl maxL v, ())) := by
    rw [loop_list (B := b_s_l17Ends_3) (v :: r) (fun (s : Int × Int) i => (v :: r, s.1, s.2, (i : Int), ())) (fun _ u s => some (.inl (minL s.1 u, maxL s.2 u))) (fun s => .inl (s.1, s.2, ())) ?_ ?_ r.length 1 (v, v) (by simp; omega)]
    · rw [runL_total (g := fun (s : Int × Int) u => (minL s.1 u, maxL s.2 u)) (fun _ _ _ => rfl), List.drop_one, List.tail_cons, foldl_pair]
    · intro s
      simp only [b_s_l17Ends_3, lt_n]
    · intro s i hi
      simp only [b_s_l17Ends_3, lt_i hi, next_i hi hl, idx_nat hi, onSome]
      rfl
  have e0 : s_l17Ends (v :: r, ()) = match loopL b_s_l17Ends_3 (v :: r, v, v, ((1 : Nat) : Int), ()) with
    | none => none
    | some (.inl v5) => some (v5.1, v5.2.1, ())
    | some (.inr _) => none := rfl
  rw [e0, e]
theorem max_mem : ∀ (r : List Int) (v : Int), r.foldl maxL v ∈ v :: r
  | [], v => by simp
  | u :: r, v => by
    rw [List.foldl_cons]
    have := max_mem r (maxL v u)
    unfold maxL at this ⊢
    split at this <;> rename_i h
    · simp only [h, if_true] at this ⊢
      rcases List.mem_cons.1 this with h2 | h2
      · simp [h2]
      · simp [h2]
    · simp only [h, if_false] at this ⊢
      rcases List.mem_cons.1 this with h2 | h2
      · simp [h2]
      · simp [h2]
def lowL : List Int → Int
  | [] => 0
  | v :: r => r.foldl minL v
def highL : List Int → Int
  | [] => 0
  | v :: r => r.foldl maxL v
theorem low_le : ∀ {l : List Int}, ∀ v ∈ l, lowL l ≤ v
  | w :: r, v, hv => by
    have := (le_min (lowL (w :: r)) r w).1 (Int.le_refl _)
    rcases List.mem_cons.1 hv with rfl | hv
    · exact this.1
    · exact this.2 v hv
theorem high_ge : ∀ {l : List Int}, ∀ v ∈ l, v ≤ highL l
  | w :: r, v, hv => by
    have := (max_le (highL (w :: r)) r w).1 (Int.le_refl _)
    rcases List.mem_cons.1 hv with rfl | hv
    · exact this.1
    · exact this.2 v hv
theorem low_mem {l : List Int} (h : 1 ≤ l.length) : lowL l ∈ l := by
  cases l with
  | nil => simp at h
  | cons v r => exact min_mem r v
theorem high_mem {l : List Int} (h : 1 ≤ l.length) : highL l ∈ l := by
  cases l with
  | nil => simp at h
  | cons v r => exact max_mem r v
/-- What SpreadOf answers. -/
def spreadR (l : List Int) : Int × Int × Unit := if clocksB l then (highL l - lowL l, (0 : Int), ()) else ((0 : Int), (1 : Int), ())
theorem i_spr (l : List Int) (h : Clk l) (h1 : 1 ≤ l.length) (h32 : l.length ≤ 32) : i_spreadOf (l, ()) = some (highL l - lowL l, ()) := by
  have a := h _ (low_mem h1)
  have b := h _ (high_mem h1)
  have hw : IntKind.i64.wrap (highL l - lowL l) = highL l - lowL l := by rw [wrap_i64] <;> omega
  cases l with
  | nil => simp at h1
  | cons v r =>
    have e1 : slices_Max_int64 (v :: r, ()) = some (highL (v :: r), ()) := i_max v r (by omega)
    have e2 : slices_Min_int64 (v :: r, ()) = some (lowL (v :: r), ()) := i_min v r (by omega)
    unfold i_spreadOf
    simp only [e1, e2, hw]
theorem ends_all (l : List Int) (h1 : 1 ≤ l.length) (h32 : l.length ≤ 32) : s_l17Ends (l, ()) = some (lowL l, highL l, ()) := by
  cases l with
  | nil => simp at h1
  | cons v r => exact ends_ok v r (by omega)
theorem i_spread (l : List Int) (hl : l.length ≤ 1099511627776) : i_SpreadOf (l, ()) = some (spreadR l) := by
  have hc : i_areClocks (l, ()) = some (clocksB l, ()) := i_clocks (l, ()) hl
  unfold i_SpreadOf spreadR
  simp only [hc]
  cases h : clocksB l with
  | false => rfl
  | true =>
    obtain ⟨h1, h2, h3⟩ := clocks_of h
    simp only [Bool.not_true, i_spr l h1 h2 h3, if_true]
theorem s_spread (l : List Int) (hl : l.length ≤ 1099511627776) : s_SpreadOf (l, ()) = some (spreadR l) := by
  have hc : s_l30Clocks (l, ()) = some (clocksB l, ()) := s_clocks (l, ()) hl
  unfold s_SpreadOf spreadR
  simp only [hc]
  cases h : clocksB l with
  | false => rfl
  | true =>
    obtain ⟨h1, h2, h3⟩ := clocks_of h
    have a := h1 _ (low_mem h2)
    have b := h1 _ (high_mem h2)
    have hw : IntKind.i64.wrap (highL l - lowL l) = highL l - lowL l := by rw [wrap_i64] <;> omega
    simp only [Bool.not_true, ends_all l h2 h3, hw, if_true]
theorem clocksB_of {l : List Int} (h : Clk l) (h1 : 1 ≤ l.length) (h32 : l.length ≤ 32) : clocksB l = true := by
  unfold clocksB
  rw [clk_all h, in_iff.2 (by omega)]
  rfl
theorem corr_clk {l : List Int} (h : Clk l) (h1 : 1 ≤ l.length) : Clk (corrL l) := by
  intro v hv
  obtain ⟨u, hu, rfl⟩ := List.mem_map.1 hv
  exact clk_mean h h1
theorem corr_spread {l : List Int} (h1 : 1 ≤ l.length) : highL (corrL l) - lowL (corrL l) = 0 := by
  have a : lowL (corrL l) = meanL l := by
    have := low_mem (l := corrL l) (by rw [corr_len]; exact h1)
    obtain ⟨u, hu, e⟩ := List.mem_map.1 this
    exact e.symm
  have b : highL (corrL l) = meanL l := by
    have := high_mem (l := corrL l) (by rw [corr_len]; exact h1)
    obtain ⟨u, hu, e⟩ := List.mem_map.1 this
    exact e.symm
  omega
end Go.Proofs.Ytoppfeehgkpjkaa
