/- Plain laws: bits of numbers; one bit alone. -/
import Derived.Test.YtmdflpfagbcaiaaPB
namespace Go.Proofs.Ytmdflpfagbcaiaa
open Go.RowKit
set_option linter.unusedVariables false
set_option linter.unusedSimpArgs false

theorem and_i64 (a b : Nat) (ha : a < 9223372036854775808) (hb : b < 9223372036854775808) : bits .and .i64 (a : Int) (b : Int) = ((a &&& b : Nat) : Int) := by
  have hx : a &&& b < 2 ^ 63 := Nat.and_lt_two_pow _ (by omega)
  have h1 : (BitVec.ofInt 64 (a : Int)).toNat = a := by
    rw [BitVec.ofInt_natCast, BitVec.toNat_ofNat]; exact Nat.mod_eq_of_lt (by omega)
  have h2 : (BitVec.ofInt 64 (b : Int)).toNat = b := by
    rw [BitVec.ofInt_natCast, BitVec.toNat_ofNat]; exact Nat.mod_eq_of_lt (by omega)
  show IntKind.i64.wrap ((BitVec.ofInt 64 (a : Int) &&& BitVec.ofInt 64 (b : Int)).toNat : Int) = _
  rw [BitVec.toNat_and, h1, h2, wrap_i64] <;> omega

/-- How many bits below w are set. -/
def ones : Nat → Nat → Nat
  | 0, _ => 0
  | w + 1, n => n % 2 + ones w (n / 2)
theorem ones_zero : ∀ w, ones w 0 = 0
  | 0 => rfl
  | w + 1 => by simp [ones, ones_zero w]
theorem ones_pos : ∀ (w n : Nat), n < 2 ^ w → ones w n = 0 → n = 0
  | 0, n, h, _ => by simp at h; omega
  | w + 1, n, h, h0 => by
    simp only [ones] at h0
    have := ones_pos w (n / 2) (by rw [Nat.pow_succ] at h; omega) (by omega)
    omega
theorem and_half (a b : Nat) : a &&& b = 2 * ((a / 2) &&& (b / 2)) + (a % 2) * (b % 2) := by
  have h1 : (a &&& b) / 2 = (a / 2) &&& (b / 2) := Nat.and_div_two
  have h2 : (a &&& b) % 2 = (a % 2) * (b % 2) := by
    rcases Nat.mod_two_eq_zero_or_one a with ha | ha <;> rcases Nat.mod_two_eq_zero_or_one b with hb | hb <;> simp [Nat.and_mod_two_pow (n := 1) , ha, hb] <;> (have := Nat.and_mod_two_pow (a := a) (b := b) (n := 1); simp [ha, hb] at this; exact this)
  omega
theorem one_bit : ∀ (w n : Nat), n < 2 ^ w → (ones w n = 1 ↔ n ≠ 0 ∧ n &&& (n - 1) = 0)
  | 0, n, h => by
    have : n = 0 := by simp at h; omega
    subst this
    simp [ones]
  | w + 1, n, h => by
    rw [Nat.pow_succ] at h
    have ih := one_bit w (n / 2) (by omega)
    simp only [ones]
    rcases Nat.mod_two_eq_zero_or_one n with h2 | h2
    · by_cases h0 : n = 0
      · subst h0
        simp [ones_zero]
      · have e : n &&& (n - 1) = 2 * ((n / 2) &&& (n / 2 - 1)) := by
          rw [and_half n (n - 1), h2, show (n - 1) / 2 = n / 2 - 1 by omega]
          omega
        rw [h2, Nat.zero_add, ih, e]
        constructor
        · rintro ⟨h3, h4⟩; exact ⟨h0, by omega⟩
        · rintro ⟨h3, h4⟩; exact ⟨by omega, by omega⟩
    · have e : n &&& (n - 1) = 2 * (n / 2) := by
        rw [and_half n (n - 1), h2, show (n - 1) / 2 = n / 2 by omega, show (n - 1) % 2 = 0 by omega, Nat.and_self]
        omega
      rw [h2, e]
      constructor
      · intro h3
        have := ones_pos w (n / 2) (by omega) (by omega)
        exact ⟨by omega, by omega⟩
      · rintro ⟨h3, h4⟩
        have : n / 2 = 0 := by omega
        rw [this, ones_zero]
/-- The bits that are set, counted upwards. -/
theorem ones_range : ∀ (w n : Nat), ((List.range w).filter (fun k => (n / 2 ^ k) % 2 == 1)).length = ones w n
  | 0, n => rfl
  | w + 1, n => by
    rw [List.range_succ_eq_map, List.filter_cons, List.filter_map, ones]
    have e : ((fun k => (n / 2 ^ k) % 2 == 1) ∘ Nat.succ) = (fun k => ((n / 2) / 2 ^ k) % 2 == 1) := by
      funext k
      simp only [Function.comp, Nat.succ_eq_add_one]
      rw [Nat.pow_succ, Nat.mul_comm, Nat.div_div_eq_div_mul]
    rw [e]
    have ih := ones_range w (n / 2)
    rcases Nat.mod_two_eq_zero_or_one n with h2 | h2 <;> simp [h2, ih] <;> omega
end Go.Proofs.Ytmdflpfagbcaiaa
