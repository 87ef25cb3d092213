/- Plain laws: traces that are drawn. -/
import Derived.Test.YtdbgmpnibjnocaaDoorPDrawState
import Derived.Test.YtdbgmpnibjnocaaDoorPPush
namespace Go.Proofs.YtdbgmpnibjnocaaDoor
open Go.RowKit
set_option linter.unusedVariables false
set_option linter.unusedSimpArgs false

theorem any_ne {s : Tl01Source.T} (hs : Good s) : s_l04DrawAny (s, ()) ≠ none := by
  obtain ⟨y, h, _⟩ := drawAny hs
  rw [h]
  simp
theorem any_some {s : Tl01Source.T} {v} (hs : Good s) (h : s_l04DrawAny (s, ()) = some v) : Good (v.2.1.1, v.2.1.2.1, v.2.1.2.2.1, ()) := by
  obtain ⟨y, h', hg⟩ := drawAny hs
  rw [h'] at h
  cases h
  exact hg
theorem drawOneMark {s : Tl01Source.T} (hs : Good s) : ∃ y, s_l33DrawOne (s, ()) = some y ∧ Good (y.2.1.1, y.2.1.2.1, y.2.1.2.2.1, ()) := by
  have hs := good_eta hs
  unfold s_l33DrawOne
  simp only [onSome]
  split; (rename_i h; exact absurd h (state_ne (by assumption)))
  rename_i v h
  have hg := state_some (by assumption) h
  repeat' first
    | exact ⟨_, rfl, by assumption⟩
    | (split; (rename_i h; exact absurd h (next_ne (by assumption))); rename_i v h; obtain ⟨hd, hg⟩ := next_some (by assumption) h)
    | (split; (rename_i h; exact absurd h (any_ne (by assumption))); rename_i v h; have hg := any_some (by assumption) h)
    | (split; rotate_left; (rename_i h; exact absurd h (pick_idx_ne (by assumption) (by simp) (by simp))))
    | (split; (rename_i h; exact absurd h (pick_get (by assumption) (by simp) (by simp))); rename_i v h)
    | split
theorem drawMarks_loop : ∀ (k : Nat) (s : Tl01Source.T) (acc : List TMark.T), Good s → acc.length + k ≤ 100 → ∃ (s' : Tl01Source.T) (acc' : List TMark.T), loopL b_s_l33Draw_3 (s, acc, (k : Int), ()) = some (.inl (s', acc', ())) ∧ Good s' ∧ acc'.length ≤ 100
  | 0, s, acc, hs, hk => by
    refine ⟨s, acc, ?_, hs, by omega⟩
    rw [loopL_eq]
    rfl
  | k + 1, s, acc, hs, hk => by
    obtain ⟨y, hy, hg⟩ := drawOneMark hs
    have hgt : decide (((k + 1 : Nat) : Int) > 0) = true := by simp
    have hw : IntKind.i64.wrap (((k + 1 : Nat) : Int) - 1) = (k : Int) := by rw [wrap_i64] <;> omega
    have hy' : s_l33DrawOne ((s.1, s.2.1, s.2.2.1, ()), ()) = some y := hy
    obtain ⟨s', acc', h1, h2, h3⟩ := drawMarks_loop k (y.2.1.1, y.2.1.2.1, y.2.1.2.2.1, ()) (acc ++ [y.1]) hg (by simp; omega)
    refine ⟨s', acc', ?_, h2, h3⟩
    rw [loopL_eq]
    simp only [b_s_l33Draw_3, hgt, hy', hw]
    rw [room_ok (by simp; omega)]
    exact h1
theorem drawMarks {s : Tl01Source.T} (hs : Good s) : ∃ (l : List TMark.T) (s' : Tl01Source.T), s_l33Draw (s, ()) = some (l, s', ()) ∧ Good s' ∧ l.length ≤ 100 := by
  have hs := good_eta hs
  unfold s_l33Draw
  simp only
  split; (rename_i h; exact absurd h (next_ne (by assumption)))
  rename_i v h
  obtain ⟨hd, hg⟩ := next_some (by assumption) h
  have hv : ((v.1.toNat : Nat) : Int) = v.1 := Int.toNat_of_nonneg hd.1
  have hv9 : v.1.toNat ≤ 10 := by
    rcases hd.2 with h2 | h2
    · have h3 : ((v.1.toNat : Nat) : Int) < 10 := hv ▸ h2
      omega
    · exact absurd h2.1 (by omega)
  obtain ⟨s', acc', h1, h2, h3⟩ := drawMarks_loop v.1.toNat (v.2.1.1, v.2.1.2.1, v.2.1.2.2.1, ()) [] hg (by simp; omega)
  rw [hv] at h1
  rw [h1]
  have h2 := good_eta h2
  simp only
  split; (rename_i h; exact absurd h (next_ne (by assumption)))
  rename_i v5 h5
  obtain ⟨hd5, hg5⟩ := next_some (by assumption) h5
  split
  · split; (rename_i h; exact absurd h (next_ne (by assumption)))
    rename_i v6 h6
    obtain ⟨hd6, hg6⟩ := next_some (by assumption) h6
    have h60 : (0 : Int) ≤ v6.1 := hd6.1
    have h62 : (v6.1 : Int) < 2 := by
      rcases hd6.2 with h | h
      · exact h
      · exact absurd h.1 (by omega)
    have hw : IntKind.i64.wrap ((60 : Int) + v6.1) = 60 + v6.1 := wrap_i64 (Int.le_trans (by decide) (Int.add_nonneg (by decide) h60)) (Int.le_trans (Int.add_le_add_left (Int.le_of_lt h62) 60) (by decide))
    have hn : ((60 : Int) + v6.1).toNat ≤ 62 := by
      have : ((60 : Int) + v6.1) ≤ 62 := Int.add_le_add_left (Int.le_of_lt h62) 60
      omega
    have h0 : (0 : Int) ≤ 60 + v6.1 := Int.add_nonneg (by decide) h60
    rw [hw, if_pos ⟨h0, Int.le_refl _⟩, room_ok (by omega)]
    exact ⟨_, _, rfl, hg6, by simp; omega⟩
  · exact ⟨_, _, rfl, hg5, h3⟩
end Go.Proofs.YtdbgmpnibjnocaaDoor
