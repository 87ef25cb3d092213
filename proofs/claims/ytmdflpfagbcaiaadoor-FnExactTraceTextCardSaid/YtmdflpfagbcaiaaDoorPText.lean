/- Plain laws: numbers and states as texts. -/
import Derived.Test.YtmdflpfagbcaiaaDoorPState
import Derived.Test.YtmdflpfagbcaiaaDoorPPush
import Derived.Lib.ItoaMem
namespace Go.Proofs.YtmdflpfagbcaiaaDoor
open Go.RowKit
set_option linter.unusedVariables false
set_option linter.unusedSimpArgs false

theorem same_eq {R : Type} (x : Option R) : same x = x := both_same x
theorem wrap_u8 {n : Int} (h0 : 0 ≤ n) (h1 : n ≤ 255) : IntKind.u8.wrap n = n := by
  simp [IntKind.wrap, IntKind.signed, IntKind.bits]
  omega
abbrev decL (n : Nat) : List UInt8 := Lib.decDigits n
theorem decL_lo {n : Nat} (h : n < 10) : decL n = [UInt8.ofNat (48 + n)] := by
  show Lib.decDigits n = _
  rw [Lib.decDigits, dif_pos h]
theorem decL_hi {n : Nat} (h : ¬ n < 10) : decL n = decL (n / 10) ++ [UInt8.ofNat (48 + n % 10)] := by
  show Lib.decDigits n = _
  rw [Lib.decDigits, dif_neg h]

theorem digit_text (k : Nat) (h : k < 10) : List.map (fun n => UInt8.ofNat (Int.toNat n)) ([(IntKind.u8.wrap (IntKind.i64.wrap ((48 : Int) + (k : Int))))] : List Int) = [UInt8.ofNat (48 + k)] := by
  rw [wrap_i64 (by omega) (by omega), wrap_u8 (by omega) (by omega)]
  have : Int.toNat ((48 : Int) + (k : Int)) = 48 + k := by omega
  simp [this]
theorem dec_len : ∀ (i n : Nat), n < 10 ^ (i + 1) → (decL n).length ≤ i + 1
  | 0, n, h => by rw [decL_lo (by simpa using h)]; simp
  | i + 1, n, h => by
    by_cases hn : n < 10
    · rw [decL_lo hn]; simp
    · rw [decL_hi hn]
      have := dec_len i (n / 10) (by rw [Nat.pow_succ] at h; omega)
      simp
      omega
theorem dec_ok : ∀ (i n : Nat), i ≤ 1000 → n < 10 ^ (i + 1) → n ≤ 9223372036854775807 → s_l01Dec (i + 1) ((n : Int), ()) = some (decL n, ())
  | 0, n, _, h, _ => by
    have hn : n < 10 := by simpa using h
    have e : s_l01Dec (0 + 1) ((n : Int), ()) = F_s_l01Dec (s_l01Dec 0) ((n : Int), ()) := rfl
    have hd : decide ((n : Int) < 10) = true := by simp; omega
    rw [e, decL_lo hn]
    unfold F_s_l01Dec
    simp only [hd, digit_text n hn]
  | i + 1, n, hi, h, hb => by
    have e : s_l01Dec (i + 1 + 1) ((n : Int), ()) = F_s_l01Dec (s_l01Dec (i + 1)) ((n : Int), ()) := rfl
    rw [e]
    unfold F_s_l01Dec
    by_cases hn : n < 10
    · have hd : decide ((n : Int) < 10) = true := by simp; omega
      rw [decL_lo hn]
      simp only [hd, digit_text n hn]
    · have hd : decide ((n : Int) < 10) = false := by simp; omega
      have hlt : n / 10 < 10 ^ (i + 1) := by rw [Nat.pow_succ] at h; omega
      have h1 : IntKind.i64.wrap (Int.tdiv (n : Int) (10 : Int)) = ((n / 10 : Nat) : Int) := by
        have : Int.tdiv (n : Int) (10 : Int) = ((n / 10 : Nat) : Int) := rfl
        rw [this, wrap_i64] <;> omega
      have h2 : Int.tmod (n : Int) (10 : Int) = ((n % 10 : Nat) : Int) := rfl
      have h3 := digit_text (n % 10) (by omega)
      have h4 := dec_len i (n / 10) hlt
      rw [decL_hi hn]
      simp only [hd, h1, h2, h3, dec_ok i (n / 10) (by omega) hlt (by omega), same_eq, both_same]
      rw [room_ok (by simp only [List.length_cons, List.length_nil]; omega)]
theorem s_dec (n : Nat) (h : n ≤ 4294967295) : s_l01Dec 100 ((n : Int), ()) = some (decL n, ()) := dec_ok 99 n (by decide) (Nat.lt_of_lt_of_le (show n < 10 ^ 10 by omega) (Nat.pow_le_pow_right (by decide) (by decide))) (by omega)
theorem dec_len10 (n : Nat) (h : n ≤ 4294967295) : (decL n).length ≤ 10 := dec_len 9 n (by omega)
theorem i_dec (n : Nat) (h : n ≤ 9223372036854775807) : i_text ((n : Int), ()) = some (decL n, ()) := by
  have hh : (10 : Int) = 10 ∧ -9223372036854775808 ≤ (n : Int) ∧ (n : Int) ≤ 9223372036854775807 := ⟨rfl, by omega, by omega⟩
  have e1 : formatI (n : Int) 10 = some (decL n) := by
    unfold formatI
    rw [if_pos hh, Lib.itoa_nonneg]
  have e : strconv_FormatInt ((n : Int), (10 : Int), ()) = some (decL n, ()) := by
    unfold strconv_FormatInt
    simp only [e1, onSome]
  unfold i_text
  simp only [e]

/-- A state as a text. -/
def stateT (s : TState.T) : List UInt8 := decL (s.1 : Int).toNat ++ [47] ++ decL (s.2.1 : Int).toNat ++ [47] ++ decL (s.2.2.1 : Int).toNat ++ [47] ++ decL (s.2.2.2.1 : Int).toNat ++ [47] ++ decL (s.2.2.2.2.1 : Int).toNat
theorem in_nat {n lo hi : Int} (h : inB n lo hi = true) (h0 : 0 ≤ lo) (h1 : hi ≤ 4294967295) : ∃ k : Nat, n = k ∧ k ≤ 4294967295 := by
  obtain ⟨a, b⟩ := in_iff.1 h
  exact ⟨n.toNat, by omega, by omega⟩
theorem state_nat {s : TState.T} (h : stateB s = true) : ∃ t m r l v : Nat, s = ((t : Int), (m : Int), (r : Int), (l : Int), (v : Int), ()) ∧ t ≤ 4294967295 ∧ m ≤ 4294967295 ∧ r ≤ 4294967295 ∧ l ≤ 4294967295 ∧ v ≤ 4294967295 := by
  obtain ⟨(t : Int), (m : Int), (r : Int), (l : Int), (v : Int), u⟩ := s
  unfold stateB at h
  simp only [Bool.and_eq_true] at h
  obtain ⟨⟨⟨⟨h1, h2⟩, h3⟩, h4⟩, h5⟩ := h
  obtain ⟨t, rfl, a1⟩ := in_nat h1 (by omega) (by omega)
  obtain ⟨m, rfl, a2⟩ := in_nat h2 (by omega) (by omega)
  obtain ⟨r, rfl, a3⟩ := in_nat h3 (by omega) (by omega)
  obtain ⟨l, rfl, a4⟩ := in_nat h4 (by omega) (by omega)
  obtain ⟨v, rfl, a5⟩ := in_nat h5 (by omega) (by omega)
  exact ⟨t, m, r, l, v, rfl, a1, a2, a3, a4, a5⟩
theorem stateT_len {s : TState.T} (h : stateB s = true) : (stateT s).length ≤ 54 := by
  obtain ⟨t, m, r, l, v, rfl, a1, a2, a3, a4, a5⟩ := state_nat h
  have b1 := dec_len10 t a1
  have b2 := dec_len10 m a2
  have b3 := dec_len10 r a3
  have b4 := dec_len10 l a4
  have b5 := dec_len10 v a5
  unfold stateT
  simp only [Int.toNat_natCast, List.length_append, List.length_cons, List.length_nil]
  omega
theorem s_stateText (x) : s_StateText x = some ((if stateB x.1 then stateT x.1 else []), ()) := by
  obtain ⟨s, u⟩ := x
  have hs : s_IsState (s, ()) = some (stateB s, ()) := s_state (s, ())
  have hs' : s_IsState ((s.1, s.2.1, s.2.2.1, s.2.2.2.1, s.2.2.2.2.1, ()), ()) = some (stateB s, ()) := hs
  unfold s_StateText
  simp only [hs, hs']
  cases h : stateB s with
  | false => rfl
  | true =>
    obtain ⟨t, m, r, l, v, rfl, a1, a2, a3, a4, a5⟩ := state_nat h
    have b1 := dec_len10 t a1
    have b2 := dec_len10 m a2
    have b3 := dec_len10 r a3
    have b4 := dec_len10 l a4
    have b5 := dec_len10 v a5
    simp only [Bool.not_true, s_dec t a1, s_dec m a2, s_dec r a3, s_dec l a4, s_dec v a5, if_true]
    repeat rw [room_ok (by simp only [List.length_append, List.length_cons, List.length_nil]; omega)]
    rfl
theorem i_stateText (x) : i_StateText x = some ((if stateB x.1 then stateT x.1 else []), ()) := by
  obtain ⟨s, u⟩ := x
  have hs : i_IsState (s, ()) = some (stateB s, ()) := i_state (s, ())
  have hs' : i_IsState ((s.1, s.2.1, s.2.2.1, s.2.2.2.1, s.2.2.2.2.1, ()), ()) = some (stateB s, ()) := hs
  unfold i_StateText
  simp only [hs, hs']
  cases h : stateB s with
  | false => rfl
  | true =>
    obtain ⟨t, m, r, l, v, rfl, a1, a2, a3, a4, a5⟩ := state_nat h
    have b1 := dec_len10 t a1
    have b2 := dec_len10 m a2
    have b3 := dec_len10 r a3
    have b4 := dec_len10 l a4
    have b5 := dec_len10 v a5
    simp only [Bool.not_true, i_dec t (by omega), i_dec m (by omega), i_dec r (by omega), i_dec l (by omega), i_dec v (by omega), if_true]
    repeat rw [room_ok (by simp only [List.length_append, List.length_cons, List.length_nil]; omega)]
    rfl
end Go.Proofs.YtmdflpfagbcaiaaDoor
