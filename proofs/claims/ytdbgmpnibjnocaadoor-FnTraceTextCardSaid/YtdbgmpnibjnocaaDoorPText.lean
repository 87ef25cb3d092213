/- Plain laws: numbers and states as texts. -/
import Derived.Test.YtdbgmpnibjnocaaDoorPState
import Derived.Test.YtdbgmpnibjnocaaDoorPDec
namespace Go.Proofs.YtdbgmpnibjnocaaDoor
open Go.RowKit
set_option linter.unusedVariables false
set_option linter.unusedSimpArgs false

theorem i_dec (n : Nat) (h : n ≤ 9223372036854775807) : i_text ((n : Int), ()) = some (decL n, ()) := by
  have hh : (10 : Int) = 10 ∧ -9223372036854775808 ≤ (n : Int) ∧ (n : Int) ≤ 9223372036854775807 := ⟨rfl, by omega, by omega⟩
  have e1 : formatI (n : Int) 10 = some (decL n) := by
    unfold formatI
    rw [if_pos hh, Lib.itoa_nonneg]
  have e : strconv_FormatInt ((n : Int), (10 : Int), ()) = some (decL n, ()) := by
    unfold strconv_FormatInt
    simp only [e1, onSome]
  unfold i_text
  simp only [e]

/-- A state as a text. -/
def stateT (s : TState.T) : List UInt8 := decL (s.1 : Int).toNat ++ [47] ++ decL (s.2.1 : Int).toNat ++ [47] ++ decL (s.2.2.1 : Int).toNat ++ [47] ++ decL (s.2.2.2.1 : Int).toNat ++ [47] ++ decL (s.2.2.2.2.1 : Int).toNat
theorem in_nat {n lo hi : Int} (h : inB n lo hi = true) (h0 : 0 ≤ lo) (h1 : hi ≤ 4294967295) : ∃ k : Nat, n = k ∧ k ≤ 4294967295 := by
  obtain ⟨a, b⟩ := in_iff.1 h
  exact ⟨n.toNat, by omega, by omega⟩
theorem state_nat {s : TState.T} (h : stateB s = true) : ∃ t m r l v : Nat, s = ((t : Int), (m : Int), (r : Int), (l : Int), (v : Int), ()) ∧ t ≤ 4294967295 ∧ m ≤ 4294967295 ∧ r ≤ 4294967295 ∧ l ≤ 4294967295 ∧ v ≤ 4294967295 := by
  obtain ⟨(t : Int), (m : Int), (r : Int), (l : Int), (v : Int), u⟩ := s
  unfold stateB at h
  simp only [Bool.and_eq_true] at h
  obtain ⟨⟨⟨⟨h1, h2⟩, h3⟩, h4⟩, h5⟩ := h
  obtain ⟨t, rfl, a1⟩ := in_nat h1 (by omega) (by omega)
  obtain ⟨m, rfl, a2⟩ := in_nat h2 (by omega) (by omega)
  obtain ⟨r, rfl, a3⟩ := in_nat h3 (by omega) (by omega)
  obtain ⟨l, rfl, a4⟩ := in_nat h4 (by omega) (by omega)
  obtain ⟨v, rfl, a5⟩ := in_nat h5 (by omega) (by omega)
  exact ⟨t, m, r, l, v, rfl, a1, a2, a3, a4, a5⟩
theorem stateT_len {s : TState.T} (h : stateB s = true) : (stateT s).length ≤ 54 := by
  obtain ⟨t, m, r, l, v, rfl, a1, a2, a3, a4, a5⟩ := state_nat h
  have b1 := dec_len10 t a1
  have b2 := dec_len10 m a2
  have b3 := dec_len10 r a3
  have b4 := dec_len10 l a4
  have b5 := dec_len10 v a5
  unfold stateT
  simp only [Int.toNat_natCast, List.length_append, List.length_cons, List.length_nil]
  omega
theorem s_stateText (x) : s_StateText x = some ((if stateB x.1 then stateT x.1 else []), ()) := by
  obtain ⟨s, u⟩ := x
  have hs : s_IsState (s, ()) = some (stateB s, ()) := s_state (s, ())
  have hs' : s_IsState ((s.1, s.2.1, s.2.2.1, s.2.2.2.1, s.2.2.2.2.1, ()), ()) = some (stateB s, ()) := hs
  unfold s_StateText
  simp only [hs, hs']
  cases h : stateB s with
  | false => rfl
  | true =>
    obtain ⟨t, m, r, l, v, rfl, a1, a2, a3, a4, a5⟩ := state_nat h
    have b1 := dec_len10 t a1
    have b2 := dec_len10 m a2
    have b3 := dec_len10 r a3
    have b4 := dec_len10 l a4
    have b5 := dec_len10 v a5
    simp only [Bool.not_true, s_dec t a1, s_dec m a2, s_dec r a3, s_dec l a4, s_dec v a5, if_true]
    repeat rw [room_ok (by simp only [List.length_append, List.length_cons, List.length_nil]; omega)]
    rfl
theorem i_stateText (x) : i_StateText x = some ((if stateB x.1 then stateT x.1 else []), ()) := by
  obtain ⟨s, u⟩ := x
  have hs : i_IsState (s, ()) = some (stateB s, ()) := i_state (s, ())
  have hs' : i_IsState ((s.1, s.2.1, s.2.2.1, s.2.2.2.1, s.2.2.2.2.1, ()), ()) = some (stateB s, ()) := hs
  unfold i_StateText
  simp only [hs, hs']
  cases h : stateB s with
  | false => rfl
  | true =>
    obtain ⟨t, m, r, l, v, rfl, a1, a2, a3, a4, a5⟩ := state_nat h
    have b1 := dec_len10 t a1
    have b2 := dec_len10 m a2
    have b3 := dec_len10 r a3
    have b4 := dec_len10 l a4
    have b5 := dec_len10 v a5
    simp only [Bool.not_true, i_dec t (by omega), i_dec m (by omega), i_dec r (by omega), i_dec l (by omega), i_dec v (by omega), if_true]
    repeat rw [room_ok (by simp only [List.length_append, List.length_cons, List.length_nil]; omega)]
    rfl
end Go.Proofs.YtdbgmpnibjnocaaDoor
