/- Plain laws: the dice of the laws. -/
import Derived.Test.YtmdflpfagbcaiaaPBits
import Derived.Test.YtmdflpfagbcaiaaPIn
namespace Go.Proofs.Ytmdflpfagbcaiaa
open Go.RowKit
set_option linter.unusedVariables false
set_option linter.unusedSimpArgs false

theorem and_u64 (a : Int) (b : Nat) (hb : b < 9223372036854775808) : 0 ≤ bits .and .u64 a (b : Int) ∧ bits .and .u64 a (b : Int) ≤ (b : Int) := by
  have h2 : (BitVec.ofInt 64 (b : Int)).toNat = b := by
    rw [BitVec.ofInt_natCast, BitVec.toNat_ofNat]; exact Nat.mod_eq_of_lt (by omega)
  have e : bits .and .u64 a (b : Int) = IntKind.u64.wrap ((BitVec.ofInt 64 a &&& BitVec.ofInt 64 (b : Int)).toNat : Int) := rfl
  have hle : (BitVec.ofInt 64 a &&& BitVec.ofInt 64 (b : Int)).toNat ≤ b := by
    rw [BitVec.toNat_and, h2]
    exact Nat.and_le_right
  have hw : IntKind.u64.wrap ((BitVec.ofInt 64 a &&& BitVec.ofInt 64 (b : Int)).toNat : Int) = ((BitVec.ofInt 64 a &&& BitVec.ofInt 64 (b : Int)).toNat : Int) := by
    have hlt : (BitVec.ofInt 64 a &&& BitVec.ofInt 64 (b : Int)).toNat < 9223372036854775808 := Nat.lt_of_le_of_lt hle hb
    generalize (BitVec.ofInt 64 a &&& BitVec.ofInt 64 (b : Int)).toNat = k at hlt
    simp [IntKind.wrap, IntKind.signed, IntKind.bits]
    omega
  rw [e, hw]
  omega

theorem roll_ok (l : List Int) (n : Int) (hl : l.length ≤ 1099511627776) : ∃ d : Int, l_roll (l, n, ()) = some ((l, (0 : Int), d, ()), ()) := by
  have e := fold_ok (B := b_l_roll_3) l (fun (s : Int) i => (l, (l, (0 : Int), s, ()), (i : Int), ())) (fun s v => IntKind.u64.wrap ((IntKind.u64.wrap ((IntKind.u64.wrap (s * (1099511628211 : Int))) + (IntKind.u64.wrap v))) + (3 : Int))) (fun s => .inl ((l, (0 : Int), s, ()), ())) (fun s => by simp only [b_l_roll_3, lt_n]) (fun s i h => by
    simp only [b_l_roll_3, lt_i h, next_i h hl, idx_nat h, onSome]) (IntKind.u64.wrap ((IntKind.u64.wrap (n * (7919 : Int))) + (IntKind.u64.wrap (l.length : Int))))
  have e' : loopL b_l_roll_3 (l, (l, (0 : Int), (IntKind.u64.wrap ((IntKind.u64.wrap (n * (7919 : Int))) + (IntKind.u64.wrap (l.length : Int)))), ()), (0 : Int), ()) = _ := e
  unfold l_roll
  simp only [e']
  exact ⟨_, rfl⟩

theorem below_ok (l : List Int) (d n : Int) (hb : ∀ b ∈ l, (0 : Int) ≤ b ∧ b ≤ 255) (hn : 0 < n) : ∃ (k : Int) (q : Ty.T Tdice), l_dice_below ((l, (0 : Int), d, ()), n, ()) = some (k, q, ()) ∧ 0 ≤ k ∧ k < n := by
  unfold l_dice_below
  simp only
  have hne : ¬ n = 0 := by omega
  obtain ⟨a0, a1⟩ := and_u64 (Int.fdiv (IntKind.u64.wrap ((IntKind.u64.wrap (d * (6364136223846793005 : Int))) + (1442695040888963407 : Int))) (2 ^ min (33 : Int).toNat IntKind.u64.bits)) 16777215 (by omega)
  have a0 : 0 ≤ bits BinOp.and .u64 (Int.fdiv (IntKind.u64.wrap ((IntKind.u64.wrap (d * (6364136223846793005 : Int))) + (1442695040888963407 : Int))) (2 ^ min (33 : Int).toNat IntKind.u64.bits)) (16777215 : Int) := a0
  have a1 : bits BinOp.and .u64 (Int.fdiv (IntKind.u64.wrap ((IntKind.u64.wrap (d * (6364136223846793005 : Int))) + (1442695040888963407 : Int))) (2 ^ min (33 : Int).toNat IntKind.u64.bits)) (16777215 : Int) ≤ 16777215 := a1
  generalize bits BinOp.and .u64 (Int.fdiv (IntKind.u64.wrap ((IntKind.u64.wrap (d * (6364136223846793005 : Int))) + (1442695040888963407 : Int))) (2 ^ min (33 : Int).toNat IntKind.u64.bits)) (16777215 : Int) = a at *
  have wa : IntKind.i64.wrap a = a := by rw [wrap_i64] <;> omega
  by_cases h : (0 : Int) < (l.length : Int)
  · cases l with
    | nil => simp at h
    | cons b r =>
      have h0 : idx (b :: r) (0 : Int) = some b := rfl
      obtain ⟨b0, b1⟩ := hb b (by simp)
      have wb : IntKind.i64.wrap b = b := by rw [wrap_i64] <;> omega
      have wab : IntKind.i64.wrap (a + b) = a + b := by rw [wrap_i64] <;> omega
      simp only [decide_eq_true h, h0, onSome, if_neg hne, wa, wb, wab]
      exact ⟨_, _, rfl, Int.tmod_nonneg _ (by omega), Int.tmod_lt_of_pos _ hn⟩
  · simp only [decide_eq_false h, if_neg hne, wa]
    exact ⟨_, _, rfl, Int.tmod_nonneg _ (by omega), Int.tmod_lt_of_pos _ hn⟩
end Go.Proofs.Ytmdflpfagbcaiaa
