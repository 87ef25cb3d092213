/- strings.Cut and strings.Split at one byte: what a call gives, by the library's contracts. -/
import Derived.Test.YtdbgmpnibjnocaaDoorLibS
import Derived.Test.YtdbgmpnibjnocaaDoorSh
namespace Go.Proofs.YtdbgmpnibjnocaaDoor
open Go.RowKit
set_option linter.unusedVariables false
set_option linter.unusedSimpArgs false

theorem max_cell {w : World} (h : (Gl.maxLen Tryd.prog).I w) : ∃ m, w.cell? ⟨0, 0, none⟩ = some (.int .i64 m) := by
  obtain ⟨g, m, hg, hc⟩ := h
  obtain rfl : 0 = g := Option.some.inj ((show Tryd.prog.globalNamed "internal/bytealg.MaxLen" = some 0 by kernel_rfl).symm.trans hg)
  exact ⟨m, hc⟩
theorem cut_calls (w : World) (s t : List UInt8) (y : List UInt8 × List UInt8 × Bool) (h : (Gl.maxLen Tryd.prog).I w) (hy : cutF s t = some y) :
    Calls Tryd.prog 22 #[.string ⟨s.toArray⟩, .string ⟨t.toArray⟩] w fun e w' => e = .returned (.tuple #[.string ⟨y.1.toArray⟩, .string ⟨y.2.1.toArray⟩, .bool y.2.2]) ∧ Keeps noB w w' := by
  obtain ⟨m, hm⟩ := max_cell h
  unfold cutF at hy
  split at hy
  · rename_i hh
    obtain rfl := Option.some.inj hy
    refine (Tryd.strings_Cut ⟨s.toArray⟩ ⟨t.toArray⟩ m w (by show s.toArray.size < _; simp; omega) hm).mono ?_
    rintro e w' ⟨rfl, n, rfl⟩
    exact ⟨rfl, rfl, rfl, rfl, Nat.le_refl _, fun _ _ _ => rfl⟩
  · cases hy
theorem split_calls (w : World) (s t : List UInt8) (y : List (List UInt8)) (h : (Gl.maxLen Tryd.prog).I w) (hy : splitF s t = some y) :
    y.length ≤ 1099511627776 ∧ Calls Tryd.prog 23 #[.string ⟨s.toArray⟩, .string ⟨t.toArray⟩] w fun e w' => e = .returned (.slice (some ⟨w.heap.size, 0, none⟩) y.length y.length) ∧ w' = w.alloc (.cells (y.map fun s => Value.string ⟨s.toArray⟩).toArray 9) := by
  obtain ⟨m, hm⟩ := max_cell h
  unfold splitF at hy
  split at hy
  · rename_i hh
    obtain rfl := Option.some.inj hy
    have h1 : (⟨t.toArray⟩ : ByteArray).size = 1 := by show t.toArray.size = 1; simp [hh.2]
    have hd := Lib.splitB_data ⟨t.toArray⟩ 0 (Lib.countB ⟨s.toArray⟩ ⟨t.toArray⟩) ⟨s.toArray⟩
    have hc : Lib.countB ⟨s.toArray⟩ ⟨t.toArray⟩ = Lib.count s t := rfl
    have e1 : ((Lib.splitB ⟨t.toArray⟩ 0 (Lib.countB ⟨s.toArray⟩ ⟨t.toArray⟩) ⟨s.toArray⟩).map Value.string) = (Lib.split s t).map fun s => Value.string ⟨s.toArray⟩ := by
      have : (Lib.splitB ⟨t.toArray⟩ 0 (Lib.countB ⟨s.toArray⟩ ⟨t.toArray⟩) ⟨s.toArray⟩).map (·.data.toList) = Lib.split s t := hd
      rw [← this, List.map_map]
      apply List.map_congr_left
      intro b _
      rfl
    have hl := Lib.splitB_all ⟨t.toArray⟩ (by omega) 0 (Lib.countB ⟨s.toArray⟩ ⟨t.toArray⟩) ⟨s.toArray⟩ rfl
    have hl2 : (Lib.split s t).length = Lib.countB ⟨s.toArray⟩ ⟨t.toArray⟩ + 1 := by
      have := congrArg List.length e1
      simp only [List.length_map] at this
      omega
    have hle := Lib.countB_le ⟨t.toArray⟩ (by omega) s.length ⟨s.toArray⟩ (by show s.toArray.size ≤ _; simp)
    have hs : (⟨s.toArray⟩ : ByteArray).size = s.length := by show s.toArray.size = _; simp
    refine ⟨by omega, (Tryd.strings_Split ⟨s.toArray⟩ ⟨t.toArray⟩ m w (by omega) hm (by omega)).mono ?_⟩
    rintro e w' ⟨rfl, rfl⟩
    rw [e1, hl2]
    exact ⟨rfl, rfl⟩
  · cases hy
end Go.Proofs.YtdbgmpnibjnocaaDoor
