/- Plain law: slices.Clone. -/
import Derived.Test.YtmdflpfagbcaiaaPPush
import Derived.Test.YtmdflpfagbcaiaaPIn
namespace Go.Proofs.Ytmdflpfagbcaiaa
open Go.RowKit
set_option linter.unusedVariables false
set_option linter.unusedSimpArgs false

open Classical in
theorem clone_ok (l : List Int) (hl : l.length ≤ 1099511627776) : slices_Clone_int64 (l, ()) = some (l, ()) := by
  cases l with
  | nil =>
    have : slices_Clone_int64 ([], ()) = both (some ([], ())) (room (([] : List (Ty.T (.int .i64))).length + ([] : List Int).length) (some ((([] : List (Ty.T (.int .i64))) ++ ([] : List Int)), ()))) := rfl
    rw [this, room_ok (by simp)]
    unfold both
    exact if_pos rfl
  | cons v r =>
    have : slices_Clone_int64 (v :: r, ()) = room (([] : List (Ty.T (.int .i64))).length + (v :: r).length) (some ((([] : List (Ty.T (.int .i64))) ++ (v :: r)), ())) := rfl
    rw [this, room_ok (by simp at hl ⊢; omega)]
    rfl
end Go.Proofs.Ytmdflpfagbcaiaa
