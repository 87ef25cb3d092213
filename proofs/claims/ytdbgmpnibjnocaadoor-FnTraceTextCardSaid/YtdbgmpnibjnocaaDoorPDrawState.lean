/- Plain laws: states that are drawn. -/
import Derived.Test.YtdbgmpnibjnocaaDoorPNext
namespace Go.Proofs.YtdbgmpnibjnocaaDoor
open Go.RowKit
set_option linter.unusedVariables false
set_option linter.unusedSimpArgs false

theorem drawState {s : Tl01Source.T} (hs : Good s) : ∃ y, s_l04Draw (s, ()) = some y ∧ Good (y.2.1.1, y.2.1.2.1, y.2.1.2.2.1, ()) := by
  have hs := good_eta hs
  unfold s_l04Draw
  simp only
  repeat' first
    | exact ⟨_, rfl, by assumption⟩
    | (split; (rename_i h; exact absurd h (next_ne (by assumption))); rename_i v h; obtain ⟨hd, hg⟩ := next_some (by assumption) h)
    | split

theorem state_ne {s : Tl01Source.T} (hs : Good s) : s_l04Draw (s, ()) ≠ none := by
  obtain ⟨y, h, _⟩ := drawState hs
  rw [h]
  simp
theorem state_some {s : Tl01Source.T} {v} (hs : Good s) (h : s_l04Draw (s, ()) = some v) : Good (v.2.1.1, v.2.1.2.1, v.2.1.2.2.1, ()) := by
  obtain ⟨y, h', hg⟩ := drawState hs
  rw [h'] at h
  cases h
  exact hg
theorem drawAny {s : Tl01Source.T} (hs : Good s) : ∃ y, s_l04DrawAny (s, ()) = some y ∧ Good (y.2.1.1, y.2.1.2.1, y.2.1.2.2.1, ()) := by
  have hs := good_eta hs
  unfold s_l04DrawAny
  simp only [onSome]
  split; (rename_i h; exact absurd h (state_ne (by assumption)))
  rename_i v h
  have hg := state_some (by assumption) h
  repeat' first
    | exact ⟨_, rfl, by assumption⟩
    | (split; (rename_i h; exact absurd h (next_ne (by assumption))); rename_i v h; obtain ⟨hd, hg⟩ := next_some (by assumption) h)
    | (split; rotate_left; (rename_i h; exact absurd h (pick_idx_ne (by assumption) (by simp) (by simp))))
    | (split; (rename_i h; exact absurd h (pick_get (by assumption) (by simp) (by simp))); rename_i v h)
    | split
end Go.Proofs.YtdbgmpnibjnocaaDoor
