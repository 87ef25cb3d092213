/- Plain law: FnMeans. -/
import Derived.Test.YtoppfeehgkpjkaaPTol
import Derived.Test.YtoppfeehgkpjkaaMf
import Derived.Test.YtoppfeehgkpjkaaPCorrect
import Derived.Test.YtoppfeehgkpjkaaPDrawClocks
namespace Go.Proofs.Ytoppfeehgkpjkaa
open Go.RowKit
set_option linter.unusedVariables false
set_option linter.unusedSimpArgs false

theorem seq_ok {X O : Type} {B : X → Option (X ⊕ O)} (e : Nat → X) (n : Nat) (o : O) (hend : B (e n) = some (.inr o)) (hstep : ∀ i, i < n → B (e i) = some (.inl (e (i + 1)))) : loopL B (e 0) = some o := by
  have key : ∀ (k i : Nat), i + k = n → loopL B (e i) = some o := by
    intro k
    induction k with
    | zero =>
      intro i hi
      have : i = n := by omega
      subst this
      rw [loopL_eq, hend]
    | succ k ih =>
      intro i hi
      rw [loopL_eq, hstep i (by omega)]
      exact ih (i + 1) (by omega)
  exact key n 0 (by omega)
/-- The least, the greatest so far. -/
def loF (l : List Int) (c : Int) : Nat → Int
  | 0 => c
  | i + 1 => if nth l i < loF l c i then nth l i else loF l c i
def hiF (l : List Int) (c : Int) : Nat → Int
  | 0 => c
  | i + 1 => if nth l i > hiF l c i then nth l i else hiF l c i
theorem loF_le (l : List Int) (c : Int) : ∀ n i, i < n → loF l c n ≤ nth l i
  | n + 1, i, h => by
    unfold loF
    by_cases e : i = n
    · subst e; split <;> omega
    · have := loF_le l c n i (by omega)
      split <;> omega
theorem hiF_ge (l : List Int) (c : Int) : ∀ n i, i < n → nth l i ≤ hiF l c n
  | n + 1, i, h => by
    unfold hiF
    by_cases e : i = n
    · subst e; split <;> omega
    · have := hiF_ge l c n i (by omega)
      split <;> omega
theorem nth_of_mem {l : List Int} {v : Int} (h : v ∈ l) : ∃ i, i < l.length ∧ v = nth l i := by
  obtain ⟨i, hi, rfl⟩ := List.getElem_of_mem h
  refine ⟨i, hi, ?_⟩
  have := nth_get hi
  rw [List.getElem?_eq_getElem hi] at this
  exact Option.some.inj this
theorem get_nth {l : List Int} {i : Nat} (h : i < l.length) : l[i] = nth l i := by
  have := nth_get h
  rw [List.getElem?_eq_getElem h] at this
  exact Option.some.inj this

def loR (n : Int) : Int × Int × Unit := if inB n 1 32 then ((leftN n.toNat : Int), (0 : Int), ()) else ((0 : Int), (3 : Int), ())
theorem s_lo (n : Int) : s_LeftOut (n, ()) = some (loR n) := by
  unfold s_LeftOut loR
  simp only [s_in]
  cases h : inB n 1 32 with
  | false => rfl
  | true =>
    have := in_iff.1 h
    have e : s_l30Out (n, ()) = some ((leftN n.toNat : Int), ()) := by
      have := s_left n.toNat
      rwa [show ((n.toNat : Nat) : Int) = n by omega] at this
    simp only [Bool.not_true, e, if_true]
theorem i_lo (n : Int) : i_LeftOut (n, ()) = some (loR n) := by
  unfold i_LeftOut loR
  simp only [i_in]
  cases h : inB n 1 32 with
  | false => rfl
  | true =>
    have h1 := in_iff.1 h
    have e : i_leftOut (n, ()) = some ((leftN n.toNat : Int), ()) := by
      have := i_left n.toNat
      rwa [show ((n.toNat : Nat) : Int) = n by omega] at this
    have kle := left_le n.toNat
    have w1 : IntKind.i64.wrap n = n := by rw [wrap_i64] <;> omega
    have w2 : IntKind.i64.wrap (leftN n.toNat : Int) = (leftN n.toNat : Int) := by rw [wrap_i64] <;> omega
    simp only [Bool.not_true, w1, e, w2, if_true]

theorem means_loop (l : List Int) (x c : Int) (hl : l.length ≤ 1000) : loopL b_l_FnMeans_16 (l, x, c, c, [], (0 : Int), ()) = some (.inl (x, loF l c l.length, hiF l c l.length, l.map (fun v => IntKind.i64.wrap (v + 7)), ())) := by
  have e := seq_ok (B := b_l_FnMeans_16) (fun i => (l, x, loF l c i, hiF l c i, (l.take i).map (fun v => IntKind.i64.wrap (v + 7)), (i : Int), ())) l.length (.inl (x, loF l c l.length, hiF l c l.length, l.map (fun v => IntKind.i64.wrap (v + 7)), ())) (by
    simp only [b_l_FnMeans_16, lt_n, List.take_length]) (fun i hi => by
    have ht : (l.take (i + 1)).map (fun v => IntKind.i64.wrap (v + 7)) = (l.take i).map (fun v => IntKind.i64.wrap (v + 7)) ++ [IntKind.i64.wrap (nth l i + 7)] := by
      rw [List.take_add_one, nth_get hi]
      simp
    simp only [b_l_FnMeans_16, lt_i hi, next_i hi (show l.length ≤ 1099511627776 by omega), idx_nth hi, onSome, Int.toNat_natCast, nth_get hi]
    rw [room_ok (by simp; omega), ht]
    rfl)
  exact e

theorem law_Means (x) (hx : Wf (.pair (.list (.int .u8)) .unit) x) : l_FnMeans x = some (true, ()) := by
  obtain ⟨(l : List Int), u⟩ := x
  unfold l_FnMeans l_big
  by_cases h : (l.length : Int) > 4096
  · simp only [decide_eq_true h]
  · have hb := bytes_of hx.1
    obtain ⟨t, ht, hlen⟩ := drawTol l (by omega) hb
    obtain ⟨n, hn⟩ := drawLeft l (by omega) hb
    have hl : t.length ≤ 1099511627776 := by omega
    have b1 : ∀ a : Int, (a != a) = false := bne_self_i
    simp only [decide_eq_false h, ht, hn, i_tol t hl, s_tol t hl, i_lo n, s_lo n]
    rw [b1, b1, b1, b1]
    simp only
    have last : (match ((tolR t).2.1 != (0 : Int)) with
        | true => some (true, ())
        | false => onSome (idx t (0 : Int)) fun _ => match t[(0 : Int).toNat]? with
          | none => none
          | some v9 => onSome (idx t (0 : Int)) fun _ => match t[(0 : Int).toNat]? with
            | none => none
            | some v11 => match loopL b_l_FnMeans_16 (t, (tolR t).1, v9, v11, [], (0 : Int), ()) with
              | none => none
              | some (.inl v18) => match i_ToleratedMean (v18.2.2.2.1, ()) with
                | none => none
                | some v20 => match (decide (v18.1 ≥ v18.2.1)) with
                  | true => match (decide (v18.1 ≤ v18.2.2.1)) with
                    | true => match (v20.2.1 != (0 : Int)) with
                      | true => some (true, ())
                      | false => some ((v20.1 == (IntKind.i64.wrap (v18.1 + (7 : Int)))), ())
                    | false => some (false, ())
                  | false => some (false, ())
              | some (.inr v21) => none : Option (Bool × Unit)) = some (true, ()) := by
      cases h1 : inB (t.length : Int) 1 32 with
      | false => unfold tolR; rw [h1]; rfl
      | true =>
        cases ha : t.all (fun v => inB v (-1000000) 1000000) with
        | false => unfold tolR; rw [h1, ha]; rfl
        | true =>
          have hr : tolR t = (meanL t, (0 : Int), ()) := by unfold tolR; rw [h1, ha]; rfl
          have hln := in_iff.1 h1
          have h0 : 0 < t.length := by omega
          have hi : idx t ((0 : Nat) : Int) = some (nth t 0) := idx_nth h0
          have hi' : idx t (0 : Int) = some (nth t 0) := hi
          have hg : t[(0 : Int).toNat]? = some (nth t 0) := nth_get h0
          have hm := means_loop t (meanL t) (nth t 0) (by omega)
          have hin : ∀ v ∈ t, -1000000 ≤ v ∧ v ≤ 1000000 := fun v hv => in_iff.1 (List.all_eq_true.1 ha v hv)
          have hmap : t.map (fun v => IntKind.i64.wrap (v + 7)) = t.map (· + 7) := by
            apply List.map_congr_left
            intro v hv
            have := hin v hv
            rw [wrap_i64] <;> omega
          rw [hmap] at hm
          have hge : meanL t ≥ loF t (nth t 0) t.length := mean_ge (by omega) fun v hv => by
            obtain ⟨i, hi, rfl⟩ := nth_of_mem (kept_mem hv)
            exact loF_le _ _ _ _ hi
          have hle : meanL t ≤ hiF t (nth t 0) t.length := mean_le (by omega) fun v hv => by
            obtain ⟨i, hi, rfl⟩ := nth_of_mem (kept_mem hv)
            exact hiF_ge _ _ _ _ hi
          have hb0 : -1000000 ≤ meanL t := mean_ge (by omega) fun v hv => (hin v (kept_mem hv)).1
          have hb1 : meanL t ≤ 1000000 := mean_le (by omega) fun v hv => (hin v (kept_mem hv)).2
          have hsh := mean_shift (l := t) (by omega) 7
          have htol := i_tol (t.map (· + 7)) (by simp; omega)
          have hw : IntKind.i64.wrap (meanL t + 7) = meanL t + 7 := by rw [wrap_i64] <;> omega
          rw [hr]
          simp only [show ((0 : Int) != 0) = false from rfl, hi', hg, onSome, hm, htol, decide_eq_true hge, decide_eq_true hle, hw]
          rcases Bool.eq_false_or_eq_true ((tolR (t.map (· + 7))).2.1 != (0 : Int)) with c | c
          · simp only [c]
          · have hz : tolR (t.map (· + 7)) = (meanL (t.map (· + 7)), (0 : Int), ()) := by
              have hc : (tolR (t.map (· + 7))).2.1 = 0 := by simpa using c
              unfold tolR at hc ⊢
              split at hc
              · rename_i h2
                rw [if_pos h2]
                split at hc
                · rename_i h3
                  rw [if_pos h3]
                · cases hc
              · cases hc
            rw [hz, hsh]
            simp
    rcases Bool.eq_false_or_eq_true ((loR n).2.1 == (0 : Int)) with c | c
    · have hz : inB n 1 32 = true ∧ loR n = ((leftN n.toNat : Int), (0 : Int), ()) := by
        unfold loR at c ⊢
        cases h2 : inB n 1 32 with
        | true => exact ⟨rfl, rfl⟩
        | false => rw [h2] at c; cases c
      have hn1 := in_iff.1 hz.1
      have h2 := left_two (n := n.toNat) (by omega)
      have kle := left_le n.toNat
      have w1 : IntKind.i64.wrap ((2 : Int) * (leftN n.toNat : Int)) = 2 * (leftN n.toNat : Int) := by rw [wrap_i64] <;> omega
      have w2 : IntKind.i64.wrap (2 * (leftN n.toNat : Int) + 1) = 2 * (leftN n.toNat : Int) + 1 := by rw [wrap_i64] <;> omega
      have hd : decide (n < 2 * (leftN n.toNat : Int) + 1) = false := by simp; omega
      rw [hz.2]
      simp only [show ((0 : Int) == 0) = true from rfl, w1, w2, hd]
      exact last
    · rw [c]
      exact last
end Go.Proofs.Ytoppfeehgkpjkaa
