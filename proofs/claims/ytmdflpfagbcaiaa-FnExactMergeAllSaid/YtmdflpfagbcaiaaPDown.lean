/- Plain laws: loops that count down. -/
import Derived.Test.YtmdflpfagbcaiaaPNext
namespace Go.Proofs.Ytmdflpfagbcaiaa
open Go.RowKit
set_option linter.unusedVariables false
set_option linter.unusedSimpArgs false

theorem down_ok {X O : Type} {B : X → Option (X ⊕ O)} (I : Nat → X → Prop) (Q : O → Prop) (h0 : ∀ x, I 0 x → ∃ o, B x = some (.inr o) ∧ Q o) (hs : ∀ n x, I (n + 1) x → ∃ x', B x = some (.inl x') ∧ I n x') :
    ∀ n x, I n x → ∃ o, loopL B x = some o ∧ Q o
  | 0, x, h => by
    obtain ⟨o, h1, h2⟩ := h0 x h
    refine ⟨o, ?_, h2⟩
    rw [loopL_eq, h1]
  | n + 1, x, h => by
    obtain ⟨x', h1, h2⟩ := hs n x h
    obtain ⟨o, h3, h4⟩ := down_ok I Q h0 hs n x' h2
    refine ⟨o, ?_, h4⟩
    rw [loopL_eq, h1]
    exact h3
theorem drawn_nat {n v : Int} (h : drawn n v) (hn : 1 ≤ n) : ∃ k : Nat, v = k ∧ (k : Int) < n := by
  obtain ⟨h0, h1⟩ := h
  refine ⟨v.toNat, by omega, by omega⟩
theorem drawn_lt {n v : Int} (h : drawn n v) (hn : 1 ≤ n) : 0 ≤ v ∧ v < n := by
  obtain ⟨h0, h1⟩ := h
  omega
theorem down_w {k : Nat} (hk : k ≤ 1000000) : IntKind.i64.wrap (((k + 1 : Nat) : Int) - 1) = (k : Int) := by rw [wrap_i64] <;> omega
theorem down_t (k : Nat) : decide (((k + 1 : Nat) : Int) > 0) = true := by simp
theorem down_f : decide (((0 : Nat) : Int) > 0) = false := by simp
theorem same_eq {R : Type} (x : Option R) : same x = x := by
  unfold same both
  exact if_pos rfl
end Go.Proofs.Ytmdflpfagbcaiaa
