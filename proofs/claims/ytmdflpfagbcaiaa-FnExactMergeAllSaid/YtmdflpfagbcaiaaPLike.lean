/- Plain laws: likeness of numbers. -/
import Derived.Test.YtmdflpfagbcaiaaPIn
namespace Go.Proofs.Ytmdflpfagbcaiaa
open Go.RowKit
set_option linter.unusedVariables false
set_option linter.unusedSimpArgs false

theorem likeInts_ok (c : List Int) (hl : c.length ≤ 1099511627776) : l_likeInts (c, c, ()) = some (true, ()) := by
  exact eqS_ok (g := l_likeInts) (B := b_l_likeInts_4) (fun _ => by kernel_rfl) c (by simp only [b_l_likeInts_4, lt_n]) (fun i h => by
    simp only [b_l_likeInts_4, lt_i h, next_i h hl, idx_nat h, onSome]
    simp)
end Go.Proofs.Ytmdflpfagbcaiaa
