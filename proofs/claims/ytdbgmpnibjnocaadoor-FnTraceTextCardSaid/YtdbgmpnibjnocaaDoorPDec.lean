/- Plain laws: numbers in decimal. -/
import Derived.Test.YtdbgmpnibjnocaaDoorPIn
import Derived.Test.YtdbgmpnibjnocaaDoorPPush
import Derived.Lib.ItoaMem
namespace Go.Proofs.YtdbgmpnibjnocaaDoor
open Go.RowKit
set_option linter.unusedVariables false
set_option linter.unusedSimpArgs false

theorem same_eq {R : Type} (x : Option R) : same x = x := both_same x
theorem wrap_u8 {n : Int} (h0 : 0 ≤ n) (h1 : n ≤ 255) : IntKind.u8.wrap n = n := by
  simp [IntKind.wrap, IntKind.signed, IntKind.bits]
  omega
abbrev decL (n : Nat) : List UInt8 := Lib.decDigits n
theorem decL_lo {n : Nat} (h : n < 10) : decL n = [UInt8.ofNat (48 + n)] := by
  show Lib.decDigits n = _
  rw [Lib.decDigits, dif_pos h]
theorem decL_hi {n : Nat} (h : ¬ n < 10) : decL n = decL (n / 10) ++ [UInt8.ofNat (48 + n % 10)] := by
  show Lib.decDigits n = _
  rw [Lib.decDigits, dif_neg h]

theorem digit_text (k : Nat) (h : k < 10) : List.map (fun n => UInt8.ofNat (Int.toNat n)) ([(IntKind.u8.wrap (IntKind.i64.wrap ((48 : Int) + (k : Int))))] : List Int) = [UInt8.ofNat (48 + k)] := by
  rw [wrap_i64 (by omega) (by omega), wrap_u8 (by omega) (by omega)]
  have : Int.toNat ((48 : Int) + (k : Int)) = 48 + k := by omega
  simp [this]
theorem dec_len : ∀ (i n : Nat), n < 10 ^ (i + 1) → (decL n).length ≤ i + 1
  | 0, n, h => by rw [decL_lo (by simpa using h)]; simp
  | i + 1, n, h => by
    by_cases hn : n < 10
    · rw [decL_lo hn]; simp
    · rw [decL_hi hn]
      have := dec_len i (n / 10) (by rw [Nat.pow_succ] at h; omega)
      simp
      omega
theorem dec_ok : ∀ (i n : Nat), i ≤ 1000 → n < 10 ^ (i + 1) → n ≤ 9223372036854775807 → s_l01Dec (i + 1) ((n : Int), ()) = some (decL n, ())
  | 0, n, _, h, _ => by
    have hn : n < 10 := by simpa using h
    have e : s_l01Dec (0 + 1) ((n : Int), ()) = F_s_l01Dec (s_l01Dec 0) ((n : Int), ()) := rfl
    have hd : decide ((n : Int) < 10) = true := by simp; omega
    rw [e, decL_lo hn]
    unfold F_s_l01Dec
    simp only [hd, digit_text n hn]
  | i + 1, n, hi, h, hb => by
    have e : s_l01Dec (i + 1 + 1) ((n : Int), ()) = F_s_l01Dec (s_l01Dec (i + 1)) ((n : Int), ()) := rfl
    rw [e]
    unfold F_s_l01Dec
    by_cases hn : n < 10
    · have hd : decide ((n : Int) < 10) = true := by simp; omega
      rw [decL_lo hn]
      simp only [hd, digit_text n hn]
    · have hd : decide ((n : Int) < 10) = false := by simp; omega
      have hlt : n / 10 < 10 ^ (i + 1) := by rw [Nat.pow_succ] at h; omega
      have h1 : IntKind.i64.wrap (Int.tdiv (n : Int) (10 : Int)) = ((n / 10 : Nat) : Int) := by
        have : Int.tdiv (n : Int) (10 : Int) = ((n / 10 : Nat) : Int) := rfl
        rw [this, wrap_i64] <;> omega
      have h2 : Int.tmod (n : Int) (10 : Int) = ((n % 10 : Nat) : Int) := rfl
      have h3 := digit_text (n % 10) (by omega)
      have h4 := dec_len i (n / 10) hlt
      rw [decL_hi hn]
      simp only [hd, h1, h2, h3, dec_ok i (n / 10) (by omega) hlt (by omega), same_eq, both_same]
      rw [room_ok (by simp only [List.length_cons, List.length_nil]; omega)]
theorem s_dec (n : Nat) (h : n ≤ 4294967295) : s_l01Dec 100 ((n : Int), ()) = some (decL n, ()) := dec_ok 99 n (by decide) (Nat.lt_of_lt_of_le (show n < 10 ^ 10 by omega) (Nat.pow_le_pow_right (by decide) (by decide))) (by omega)
theorem dec_len10 (n : Nat) (h : n ≤ 4294967295) : (decL n).length ≤ 10 := dec_len 9 n (by omega)
end Go.Proofs.YtdbgmpnibjnocaaDoor
