/- The names of the statuses: what a call gives. -/
import Derived.WalkKit
import Derived.Below
import Derived.Test.YtdbgmpnibjnocaaDoorLib
import Derived.Test.YtdbgmpnibjnocaaDoorProg
namespace Go.Proofs.YtdbgmpnibjnocaaDoor
set_option linter.unusedVariables false
set_option linter.unusedSimpArgs false

def statusN (n : Int) : List UInt8 := if n = 0 then [110, 117, 108, 108] else if n = 1 then [105, 110, 118, 97, 108, 105, 100] else if n = 2 then [105, 110, 99, 111, 114, 114, 101, 99, 116] else if n = 3 then [99, 111, 114, 114, 101, 99, 116] else if n = 4 then [100, 105, 115, 97, 103, 114, 101, 101] else []
theorem status_0 (w : World) : Calls Tryd.prog 33 #[.int .i64 0] w fun e w' => e = .returned (.string ⟨#[110, 117, 108, 108]⟩) ∧ w' = w.alloc (.cells #[.string ⟨#[110, 117, 108, 108]⟩, .string ⟨#[105, 110, 118, 97, 108, 105, 100]⟩, .string ⟨#[105, 110, 99, 111, 114, 114, 101, 99, 116]⟩, .string ⟨#[99, 111, 114, 114, 101, 99, 116]⟩, .string ⟨#[100, 105, 115, 97, 103, 114, 101, 101]⟩] 79) := by
  go_enter Tryd.func33, Tryd.ntmps33
  go_wp2
  go_ret
  exact ⟨rfl, rfl⟩
theorem status_1 (w : World) : Calls Tryd.prog 33 #[.int .i64 1] w fun e w' => e = .returned (.string ⟨#[105, 110, 118, 97, 108, 105, 100]⟩) ∧ w' = w.alloc (.cells #[.string ⟨#[110, 117, 108, 108]⟩, .string ⟨#[105, 110, 118, 97, 108, 105, 100]⟩, .string ⟨#[105, 110, 99, 111, 114, 114, 101, 99, 116]⟩, .string ⟨#[99, 111, 114, 114, 101, 99, 116]⟩, .string ⟨#[100, 105, 115, 97, 103, 114, 101, 101]⟩] 79) := by
  go_enter Tryd.func33, Tryd.ntmps33
  go_wp2
  go_ret
  exact ⟨rfl, rfl⟩
theorem status_2 (w : World) : Calls Tryd.prog 33 #[.int .i64 2] w fun e w' => e = .returned (.string ⟨#[105, 110, 99, 111, 114, 114, 101, 99, 116]⟩) ∧ w' = w.alloc (.cells #[.string ⟨#[110, 117, 108, 108]⟩, .string ⟨#[105, 110, 118, 97, 108, 105, 100]⟩, .string ⟨#[105, 110, 99, 111, 114, 114, 101, 99, 116]⟩, .string ⟨#[99, 111, 114, 114, 101, 99, 116]⟩, .string ⟨#[100, 105, 115, 97, 103, 114, 101, 101]⟩] 79) := by
  go_enter Tryd.func33, Tryd.ntmps33
  go_wp2
  go_ret
  exact ⟨rfl, rfl⟩
theorem status_3 (w : World) : Calls Tryd.prog 33 #[.int .i64 3] w fun e w' => e = .returned (.string ⟨#[99, 111, 114, 114, 101, 99, 116]⟩) ∧ w' = w.alloc (.cells #[.string ⟨#[110, 117, 108, 108]⟩, .string ⟨#[105, 110, 118, 97, 108, 105, 100]⟩, .string ⟨#[105, 110, 99, 111, 114, 114, 101, 99, 116]⟩, .string ⟨#[99, 111, 114, 114, 101, 99, 116]⟩, .string ⟨#[100, 105, 115, 97, 103, 114, 101, 101]⟩] 79) := by
  go_enter Tryd.func33, Tryd.ntmps33
  go_wp2
  go_ret
  exact ⟨rfl, rfl⟩
theorem status_4 (w : World) : Calls Tryd.prog 33 #[.int .i64 4] w fun e w' => e = .returned (.string ⟨#[100, 105, 115, 97, 103, 114, 101, 101]⟩) ∧ w' = w.alloc (.cells #[.string ⟨#[110, 117, 108, 108]⟩, .string ⟨#[105, 110, 118, 97, 108, 105, 100]⟩, .string ⟨#[105, 110, 99, 111, 114, 114, 101, 99, 116]⟩, .string ⟨#[99, 111, 114, 114, 101, 99, 116]⟩, .string ⟨#[100, 105, 115, 97, 103, 114, 101, 101]⟩] 79) := by
  go_enter Tryd.func33, Tryd.ntmps33
  go_wp2
  go_ret
  exact ⟨rfl, rfl⟩
theorem status_low (w : World) (n : Int) (h : n < 0) : Calls Tryd.prog 33 #[.int .i64 n] w fun e w' => e = .returned (.string ⟨#[]⟩) ∧ w' = w.alloc (.cells #[.string ⟨#[110, 117, 108, 108]⟩, .string ⟨#[105, 110, 118, 97, 108, 105, 100]⟩, .string ⟨#[105, 110, 99, 111, 114, 114, 101, 99, 116]⟩, .string ⟨#[99, 111, 114, 114, 101, 99, 116]⟩, .string ⟨#[100, 105, 115, 97, 103, 114, 101, 101]⟩] 79) := by
  go_enter Tryd.func33, Tryd.ntmps33
  go_wp2
  go_ret
  exact ⟨rfl, rfl⟩
theorem status_high (w : World) (n : Int) (h0 : 0 ≤ n) (h : ¬ n ≤ 4) : Calls Tryd.prog 33 #[.int .i64 n] w fun e w' => e = .returned (.string ⟨#[]⟩) ∧ w' = w.alloc (.cells #[.string ⟨#[110, 117, 108, 108]⟩, .string ⟨#[105, 110, 118, 97, 108, 105, 100]⟩, .string ⟨#[105, 110, 99, 111, 114, 114, 101, 99, 116]⟩, .string ⟨#[99, 111, 114, 114, 101, 99, 116]⟩, .string ⟨#[100, 105, 115, 97, 103, 114, 101, 101]⟩] 79) := by
  go_enter Tryd.func33, Tryd.ntmps33
  go_wp2
  go_ret
  exact ⟨rfl, rfl⟩
theorem status_calls (w : World) (n : Int) : Calls Tryd.prog 33 #[.int .i64 n] w fun e w' => e = .returned (.string ⟨(statusN n).toArray⟩) ∧ Keeps noB w w' := by
  have fin : ∀ {s : List UInt8} {o : Obj}, statusN n = s → (Calls Tryd.prog 33 #[.int .i64 n] w fun e w' => e = .returned (.string ⟨s.toArray⟩) ∧ w' = w.alloc o) → Calls Tryd.prog 33 #[.int .i64 n] w fun e w' => e = .returned (.string ⟨(statusN n).toArray⟩) ∧ Keeps noB w w' := by
    intro s o hs h
    rw [hs]
    refine h.mono ?_
    rintro e w' ⟨rfl, rfl⟩
    exact ⟨rfl, Keeps.alloc _ _ _⟩
  by_cases h0 : n < 0
  · exact fin (by unfold statusN; repeat rw [if_neg (by omega)]) (status_low w n h0)
  by_cases h4 : ¬ n ≤ 4
  · exact fin (by unfold statusN; repeat rw [if_neg (by omega)]) (status_high w n (by omega) h4)
  have : n = 0 ∨ n = 1 ∨ n = 2 ∨ n = 3 ∨ n = 4 := by omega
  rcases this with rfl | rfl | rfl | rfl | rfl
  · exact fin (by decide) (status_0 w)
  · exact fin (by decide) (status_1 w)
  · exact fin (by decide) (status_2 w)
  · exact fin (by decide) (status_3 w)
  · exact fin (by decide) (status_4 w)
end Go.Proofs.YtdbgmpnibjnocaaDoor
