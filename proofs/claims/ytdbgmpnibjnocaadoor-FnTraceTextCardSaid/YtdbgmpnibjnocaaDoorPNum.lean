/- Plain laws: texts of numbers. -/
import Derived.Test.YtdbgmpnibjnocaaDoorPDec
import Derived.Test.YtdbgmpnibjnocaaDoorNumW
import Derived.Lib.ParseIntB
namespace Go.Proofs.YtdbgmpnibjnocaaDoor
open Go.RowKit
set_option linter.unusedVariables false
set_option linter.unusedSimpArgs false

theorem u8_digit (k : Nat) (h : k < 10) : (UInt8.ofNat (48 + k)).toNat = 48 + k := by
  rw [UInt8.toNat_ofNat']
  omega
theorem parseM_dec (M : Nat) : ∀ (n : Nat) (r : List UInt8), n ≤ M → n < 18446744073709551616 → Lib.parseUintM M 0 (decL n ++ r) = Lib.parseUintM M n r := by
  intro n
  induction n using Nat.strongRecOn with
  | _ n ih =>
    intro r hM hb
    by_cases hn : n < 10
    · rw [decL_lo hn]
      have e := u8_digit n hn
      show Lib.parseUintM M 0 (UInt8.ofNat (48 + n) :: r) = _
      simp only [Lib.parseUintM, e]
      rw [if_pos (by omega), if_neg (by omega), if_neg (by omega)]
      congr 1
      omega
    · have e := u8_digit (n % 10) (by omega)
      rw [decL_hi hn, List.append_assoc, ih (n / 10) (by omega) _ (by omega) (by omega)]
      show Lib.parseUintM M (n / 10) (UInt8.ofNat (48 + n % 10) :: r) = _
      simp only [Lib.parseUintM, e]
      rw [if_pos (by omega), if_neg (by omega), if_neg (by omega)]
      congr 1
      omega
theorem dec_head (n : Nat) : ∃ c r, decL n = c :: r ∧ 48 ≤ c.toNat ∧ c.toNat ≤ 57 := by
  induction n using Nat.strongRecOn with
  | _ n ih =>
    by_cases hn : n < 10
    · have e := u8_digit n hn
      exact ⟨_, [], decL_lo hn, by omega, by omega⟩
    · obtain ⟨c, r, h1, h2, h3⟩ := ih (n / 10) (by omega)
      exact ⟨c, r ++ [UInt8.ofNat (48 + n % 10)], by rw [decL_hi hn, h1]; rfl, h2, h3⟩
theorem parse_dec {n : Nat} (h : n ≤ 9223372036854775807) : Lib.parseIntB 64 (decL n) = .ok (n : Int) := by
  obtain ⟨c, r, e, h1, h2⟩ := dec_head n
  have hp : Lib.parseUintB 64 (decL n) = .ok n := by
    unfold Lib.parseUintB
    rw [if_neg (by rw [e]; simp)]
    have := parseM_dec (2 ^ 64 - 1) n [] (by omega) (by omega)
    rw [List.append_nil] at this
    rw [this]
    rfl
  rw [e] at hp ⊢
  have hn : ¬ (c.toNat = 43 ∨ c.toNat = 45) := by omega
  have hm : ¬ c.toNat = 45 := by omega
  have hb : ¬ (¬ c.toNat = 45 ∧ 2 ^ (64 - 1) ≤ n) := by
    rintro ⟨_, h⟩
    have : (2 : Nat) ^ (64 - 1) = 9223372036854775808 := by decide
    omega
  have hb2 : ¬ (c.toNat = 45 ∧ 2 ^ (64 - 1) < n) := fun h => hm h.1
  simp only [Lib.parseIntB, if_neg hn, hp, if_neg hb, if_neg hb2, if_neg hm]

/-- What number gives. -/
def numI (s : List UInt8) : Option Int := match Lib.parseIntB 64 s with
  | .ok v => if Lib.itoa v = s then some v else none
  | _ => none
theorem numI_dec {n : Nat} (h : n ≤ 9223372036854775807) : numI (decL n) = some (n : Int) := by
  unfold numI
  rw [parse_dec h]
  simp only
  rw [if_pos (Lib.itoa_nonneg n)]
theorem numI_eq {s : List UInt8} {v : Int} (h : numI s = some v) : s = Lib.itoa v := by
  unfold numI at h
  split at h
  · split at h
    · rename_i h2
      obtain rfl := Option.some.inj h
      exact h2.symm
    · cases h
  · cases h

/-- The value of digits. -/
def valS (s : List UInt8) : Nat := s.foldl (fun n c => 10 * n + (c.toNat - 48)) 0
def digS (s : List UInt8) : Bool := s.all fun c => decide (48 ≤ c.toNat) && decide (c.toNat ≤ 57)
theorem valS_dec (n : Nat) : valS (decL n) = n ∧ digS (decL n) = true := by
  induction n using Nat.strongRecOn with
  | _ n ih =>
    by_cases hn : n < 10
    · have e := u8_digit n hn
      rw [decL_lo hn]
      constructor
      · simp only [valS, List.foldl_cons, List.foldl_nil, e]
        omega
      · simp only [digS, List.all_cons, List.all_nil, e, Bool.and_true, Bool.and_eq_true, decide_eq_true_eq]
        omega
    · have e := u8_digit (n % 10) (by omega)
      obtain ⟨h1, h2⟩ := ih (n / 10) (by omega)
      rw [decL_hi hn]
      constructor
      · unfold valS at h1 ⊢
        rw [List.foldl_append, h1]
        simp only [List.foldl_cons, List.foldl_nil, e]
        omega
      · unfold digS at h2 ⊢
        rw [List.all_append, h2]
        simp only [List.all_cons, List.all_nil, e, Bool.and_true, Bool.true_and, Bool.and_eq_true, decide_eq_true_eq]
        omega
theorem valS_lt : ∀ (s : List UInt8), digS s = true → valS s < 10 ^ s.length := by
  intro s
  unfold valS digS
  have key : ∀ (s : List UInt8) (a : Nat), (s.all fun c => decide (48 ≤ c.toNat) && decide (c.toNat ≤ 57)) = true → s.foldl (fun n c => 10 * n + (c.toNat - 48)) a < (a + 1) * 10 ^ s.length := by
    intro s
    induction s with
    | nil => intro a _; simp
    | cons c s ih =>
      intro a h
      simp only [List.all_cons, Bool.and_eq_true, decide_eq_true_eq] at h
      have := ih (10 * a + (c.toNat - 48)) (by simpa [List.all_eq_true] using h.2)
      simp only [List.foldl_cons, List.length_cons, Nat.pow_succ]
      refine Nat.lt_of_lt_of_le this ?_
      rw [Nat.mul_comm (10 ^ s.length) 10, ← Nat.mul_assoc]
      exact Nat.mul_le_mul_right _ (by omega)
  intro h
  have := key s 0 h
  simpa using this
/-- What l01Value gives. -/
def numS (s : List UInt8) : Option Nat := if 1 ≤ s.length ∧ s.length ≤ 12 ∧ digS s = true ∧ decL (valS s) = s then some (valS s) else none
theorem numS_some {s : List UInt8} {n : Nat} (h : numS s = some n) : s = decL n ∧ n < 1000000000000 := by
  unfold numS at h
  split at h
  · rename_i hh
    obtain ⟨h1, h2, h3, h4⟩ := hh
    obtain rfl := Option.some.inj h
    have h5 := valS_lt s h3
    have h6 : 10 ^ s.length ≤ 10 ^ 12 := Nat.pow_le_pow_right (by decide) h2
    have h7 : (10 : Nat) ^ 12 = 1000000000000 := by decide
    exact ⟨h4.symm, by omega⟩
  · cases h
theorem dec_pos (n : Nat) : 1 ≤ (decL n).length := by
  obtain ⟨c, r, e, _⟩ := dec_head n
  rw [e]
  simp
theorem numS_dec {n : Nat} (h : n < 1000000000000) : numS (decL n) = some n := by
  obtain ⟨h1, h2⟩ := valS_dec n
  unfold numS
  rw [if_pos ⟨dec_pos n, dec_len 11 n (by omega), h2, by rw [h1]⟩, h1]
/-- The two agree but for numbers that no field takes. -/
theorem numI_numS {s : List UInt8} {n : Nat} (h : numS s = some n) : numI s = some (n : Int) := by
  obtain ⟨rfl, h2⟩ := numS_some h
  exact numI_dec (by omega)
theorem numS_numI {s : List UInt8} {v : Int} (h : numI s = some v) (h0 : 0 ≤ v) (h1 : v < 1000000000000) : numS s = some v.toNat := by
  obtain ⟨n, rfl⟩ : ∃ n : Nat, v = n := ⟨v.toNat, by omega⟩
  have := numI_eq h
  rw [Lib.itoa_nonneg] at this
  rw [this]
  exact numS_dec (by omega)
end Go.Proofs.YtdbgmpnibjnocaaDoor
