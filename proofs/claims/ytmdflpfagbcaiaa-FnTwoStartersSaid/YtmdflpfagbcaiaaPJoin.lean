/- Plain law: JoinTimes. -/
import Derived.Test.YtmdflpfagbcaiaaPLead
namespace Go.Proofs.Ytmdflpfagbcaiaa
open Go.RowKit
set_option linter.unusedVariables false
set_option linter.unusedSimpArgs false

theorem wrap_mod (n : Int) : ∃ c : Int, IntKind.i64.wrap n = n + 18446744073709551616 * c := by
  simp [IntKind.wrap, IntKind.signed, IntKind.bits]
  by_cases h : 9223372036854775808 ≤ n % 18446744073709551616
  · refine ⟨-(n / 18446744073709551616) - 1, ?_⟩
    simp [h]; omega
  · refine ⟨-(n / 18446744073709551616), ?_⟩
    simp [h]; omega
theorem wrap_congr {m n : Int} (c : Int) (h : m = n + 18446744073709551616 * c) : IntKind.i64.wrap m = IntKind.i64.wrap n := by
  have : m % 18446744073709551616 = n % 18446744073709551616 := by omega
  simp [IntKind.wrap, IntKind.signed, IntKind.bits, this]
theorem wrap_join (t q p : Int) : IntKind.i64.wrap (IntKind.i64.wrap (t + IntKind.i64.wrap (q * p)) + p) = IntKind.i64.wrap (t + IntKind.i64.wrap (IntKind.i64.wrap (q + 1) * p)) := by
  obtain ⟨c1, h1⟩ := wrap_mod (q * p)
  obtain ⟨c2, h2⟩ := wrap_mod (t + IntKind.i64.wrap (q * p))
  obtain ⟨c3, h3⟩ := wrap_mod (q + 1)
  obtain ⟨c4, h4⟩ := wrap_mod (IntKind.i64.wrap (q + 1) * p)
  rw [h2, h4, h1, h3]
  have e : (q + 1 + 18446744073709551616 * c3) * p = q * p + p + 18446744073709551616 * (c3 * p) := by
    rw [Int.add_mul, Int.add_mul, Int.one_mul, Int.mul_assoc]
  rw [e]
  exact wrap_congr (c1 + c2 - c3 * p - c4) (by omega)

/-- How many slots after the leader. -/
def slotsL (w t p : Int) : Int := IntKind.i64.wrap (Int.tdiv (IntKind.i64.wrap (IntKind.i64.wrap (IntKind.i64.wrap (w - t) + p) - 1)) p)
/-- When a node joins. -/
def joinL (a : Nat) (t p : Int) (i : Nat) (v : TStarter.T) : Int := if (i : Int) == (a : Int) then t else if decide ((v.2.1 : Int) ≤ t) then IntKind.i64.wrap (t + p) else IntKind.i64.wrap (t + IntKind.i64.wrap (IntKind.i64.wrap (slotsL v.2.1 t p + 1) * p))
theorem s_join_loop (l : List TStarter.T) (hl : l.length ≤ 1000000) (a : Nat) (t p : Int) (hp : p ≠ 0) : loopL b_s_JoinTimes_10 (l, p, (a : Int), t, [], (0 : Int), ()) = some (.inl (pushes (fun i v => [joinL a t p i v]) 0 l, ())) := by
  have e := push_ok (B := b_s_JoinTimes_10) l (by omega) (fun s i => (l, p, (a : Int), t, s, (i : Int), ())) (fun i v => [joinL a t p i v]) (by simp) (fun s => .inl (s, ())) (fun s => by simp only [b_s_JoinTimes_10, lt_n]) (fun s i h hs => by
    simp only [b_s_JoinTimes_10, lt_i h, next_i h (show l.length ≤ 1099511627776 by omega), idx_nat h, onSome, joinL, slotsL]
    rcases Bool.eq_false_or_eq_true ((i : Int) == (a : Int)) with h2 | h2
    · simp only [h2, if_true]
      rw [room_ok (by simp; omega)]
    · rcases Bool.eq_false_or_eq_true (decide (l[i].2.1 ≤ t)) with h3 | h3
      · simp only [h2, h3, if_true]
        rw [room_ok (by simp; omega)]
        simp
      · simp only [h2, h3, if_neg hp]
        rw [room_ok (by simp; omega)]
        simp)
  exact e
theorem i_join_loop (l : List TStarter.T) (hl : l.length ≤ 1000000) (a : Nat) (t p : Int) (hp : p ≠ 0) : loopL b_i_JoinTimes_10 (p, (a : Int), t, [], l, (l.length : Int), (0 : Int), ()) = some (.inl (pushes (fun i v => [joinL a t p i v]) 0 l, ())) := by
  have e := push_ok (B := b_i_JoinTimes_10) l (by omega) (fun s i => (p, (a : Int), t, s, l, (l.length : Int), (i : Int), ())) (fun i v => [joinL a t p i v]) (by simp) (fun s => .inl (s, ())) (fun s => by simp only [b_i_JoinTimes_10, lt_n]) (fun s i h hs => by
    simp only [b_i_JoinTimes_10, lt_i h, next_i h (show l.length ≤ 1099511627776 by omega), idx_nat h, onSome, joinL]
    rcases Bool.eq_false_or_eq_true ((i : Int) == (a : Int)) with h2 | h2
    · simp only [h2, if_true]
      rw [room_ok (by simp; omega)]
    · rcases Bool.eq_false_or_eq_true (decide (l[i].2.1 ≤ t)) with h3 | h3
      · simp only [h2, h3, if_true]
        rw [room_ok (by simp; omega)]
        simp
      · have hw := wrap_join t (slotsL l[i].2.1 t p) p
        simp only [h2, h3, if_neg hp]
        rw [← hw]
        rw [room_ok (by simp; omega)]
        simp [slotsL])
  exact e

/-- What JoinTimes answers. -/
def joinR (l : List TStarter.T) (p : Int) : List Int × Int × Unit := if startersB l then (if inB p 1 100000 then (match leadGo l 51 (dueL l) 0 with
  | none => ([], 3, ())
  | some (a, t, _) => (pushes (fun i v => [joinL a t p i v]) 0 l, 0, ())) else ([], 2, ())) else ([], 1, ())
theorem joinR_len (l : List TStarter.T) (k : Int) : (joinR l k).1.length ≤ 32 := by
  unfold joinR
  split
  · rename_i hs
    have hn := starters_len hs
    split
    · split
      · simp
      · rename_i a t j hd
        have := pushes_length (fun i v => [joinL a t k i v]) (by simp) 0 l
        simp only
        omega
    · simp
  · simp
theorem s_joinTimes (l : List TStarter.T) (p : Int) (hl : l.length ≤ 1099511627776) : s_JoinTimes (l, p, ()) = some (joinR l p) := by
  unfold s_JoinTimes joinR
  simp only [s_starters, hl, s_in]
  cases hs : startersB l
  · rfl
  · have hn := starters_len hs
    rcases Bool.eq_false_or_eq_true (inB p 1 100000) with hk | hk
    · obtain ⟨k0, k1⟩ := in_iff.1 hk
      simp only [hk, Bool.not_true, s_leader_ok l hn.1 (by omega), if_true]
      cases hg : leadGo l 51 (dueL l) 0 with
      | none => rfl
      | some y =>
        obtain ⟨a, t, j⟩ := y
        have hneg : decide ((a : Int) < 0) = false := by simp
        simp only [hneg, s_join_loop l (show l.length ≤ 1000000 by omega) a t p (show p ≠ 0 by omega)]
    · simp [hk]
theorem i_joinTimes (l : List TStarter.T) (p : Int) (hl : l.length ≤ 1099511627776) : i_JoinTimes (l, p, ()) = some (joinR l p) := by
  unfold i_JoinTimes joinR
  simp only [i_starters, hl, i_in]
  cases hs : startersB l
  · rfl
  · have hn := starters_len hs
    rcases Bool.eq_false_or_eq_true (inB p 1 100000) with hk | hk
    · obtain ⟨k0, k1⟩ := in_iff.1 hk
      simp only [hk, Bool.not_true, i_startup_ok l hn.1 (by omega), if_true]
      cases hg : leadGo l 51 (dueL l) 0 with
      | none => rfl
      | some y =>
        obtain ⟨a, t, j⟩ := y
        simp only [Bool.not_true, i_join_loop l (show l.length ≤ 1000000 by omega) a t p (show p ≠ 0 by omega)]
    · simp [hk]
end Go.Proofs.Ytmdflpfagbcaiaa
