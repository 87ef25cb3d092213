/- The plain laws: what the program's functions and the reference's functions do on data is the same; no model in sight. -/
import Derived.Test.YteldmddnmhmecaaAll
namespace Go.Proofs.Yteldmddnmhmecaa
open Go.RowKit

theorem e60 (x) : g60 x = some (decide (x.1 ≥ x.2.1) && decide (x.1 ≤ x.2.2.1), ()) := by
  unfold g60
  cases decide (x.1 ≥ x.2.1) <;> rfl
theorem e62 : g62 = g60 := rfl
theorem e93 (x) : g93 x = g60 (x.1, 0, 4294967295, ()) := by
  unfold g93; rw [e62, e60]
theorem e59 : g59 = g58 := by
  funext x
  unfold g59 g58
  rw [e62]
  simp only [e93]
theorem some58 (x) : ∃ b, g58 x = some (b, ()) := by
  unfold g58
  simp only [e60]
  repeat' split
  all_goals first | exact ⟨_, rfl⟩ | (rename_i h; cases h)
theorem e17 : g17 = g15 := by
  funext x
  unfold g17 g15
  rw [e59]
theorem some15 (x) : ∃ y, g15 x = some y := by
  unfold g15
  obtain ⟨b, h⟩ := some58 (x.1, ())
  obtain ⟨c, k⟩ := some58 (x.2.1, ())
  have h' : g58 ((x.1.1, x.1.2.1, x.1.2.2.1, x.1.2.2.2.1, x.1.2.2.2.2.1, ()), ()) = some (b, ()) := h
  have k' : g58 ((x.2.1.1, x.2.1.2.1, x.2.1.2.2.1, x.2.1.2.2.2.1, x.2.1.2.2.2.2.1, ()), ()) = some (c, ()) := k
  rw [h', k']
  cases b <;> cases c <;> exact ⟨_, rfl⟩
theorem law3 (x) : g3 x = some (true, ()) := by
  unfold g3 g16
  simp only
  rw [e17]
  obtain ⟨y, hy⟩ := some15 ((x.1.1, x.1.2.1, x.1.2.2.1, x.1.2.2.2.1, x.1.2.2.2.2.1, ()), (x.2.1.1, x.2.1.2.1, x.2.1.2.2.1, x.2.1.2.2.2.1, x.2.1.2.2.2.2.1, ()), ())
  rw [hy]
  simp only
  have h1 : (y.1 != y.1) = false := by simp
  have h2 : (y.2.1 != y.2.1) = false := by simp
  rw [h1, h2]

theorem e65 : g65 = g64 := by funext x; unfold g65 g64; rw [e62]
theorem e22 : g22 = g20 := by funext x; unfold g22 g20; rw [e62, e59, e65]
theorem some20 (x) : ∃ b, g20 x = some (b, ()) := by
  unfold g20
  obtain ⟨b, h⟩ := some58 (x.1.1, ())
  have h' : g58 ((x.1.1.1, x.1.1.2.1, x.1.1.2.2.1, x.1.1.2.2.2.1, x.1.1.2.2.2.2.1, ()), ()) = some (b, ()) := h
  rw [h']
  unfold g64
  simp only [e60]
  repeat' split
  all_goals first | exact ⟨_, rfl⟩ | (rename_i h; cases h)
theorem law5 (x) : g5 x = some (true, ()) := by
  unfold g5 g21 g16
  simp only
  rw [e22]
  obtain ⟨b, hb⟩ := some20 (((x.1.1.1, x.1.1.2.1, x.1.1.2.2.1, x.1.1.2.2.2.1, x.1.1.2.2.2.2.1, ()), x.1.2.1, x.1.2.2.1, ()), ())
  rw [hb]
  simp only
  have h1 : (b != b) = false := by cases b <;> rfl
  rw [h1]
end Go.Proofs.Yteldmddnmhmecaa
