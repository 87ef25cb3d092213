/- Plain laws: the fault-tolerant mean. -/
import Derived.Test.YtoppfeehgkpjkaaPSortE
import Derived.Test.YtoppfeehgkpjkaaMe
import Derived.Test.YtoppfeehgkpjkaaPClone
namespace Go.Proofs.Ytoppfeehgkpjkaa
open Go.RowKit
set_option linter.unusedVariables false
set_option linter.unusedSimpArgs false

/-- How many are left out at each end. -/
def leftN (n : Nat) : Nat := if n < 3 then 0 else if n < 8 then 1 else 2
theorem left_two {n : Nat} (h : 1 ≤ n) : 2 * leftN n < n := by
  unfold leftN
  split
  · omega
  · split <;> omega
theorem left_le (n : Nat) : leftN n ≤ 2 := by
  unfold leftN
  split
  · omega
  · split <;> omega
theorem i_left (n : Nat) : i_leftOut ((n : Int), ()) = some ((leftN n : Int), ()) := by
  unfold i_leftOut leftN
  by_cases h : n < 3
  · have h1 : decide ((n : Int) < 3) = true := by simp; omega
    simp only [h1, h, if_true]
    rfl
  · have h1 : decide ((n : Int) < 3) = false := by simp; omega
    by_cases h2 : n < 8
    · have h3 : decide ((n : Int) < 8) = true := by simp; omega
      simp only [h1, h3, h, h2, if_true, if_false]
      rfl
    · have h3 : decide ((n : Int) < 8) = false := by simp; omega
      simp only [h1, h3, h, h2, if_false]
      rfl
theorem s_left (n : Nat) : s_l30Out ((n : Int), ()) = some ((leftN n : Int), ()) := i_left n

theorem floor_eq (s m : Int) (hm : 0 < m) : (if Int.tmod s m < 0 then Int.tdiv s m - 1 else Int.tdiv s m) = s / m := by
  have h1 := Int.tmod_add_mul_tdiv s m
  have h2 := Int.tmod_lt_of_pos s hm
  have h3 := Int.lt_tmod_of_pos s hm
  split
  · rename_i h
    have e := (Int.ediv_emod_unique (a := s) (b := m) (r := Int.tmod s m + m) (q := Int.tdiv s m - 1) hm).2 ⟨by
      rw [Int.mul_sub, Int.mul_one]; omega, by omega, by omega⟩
    exact e.1.symm
  · rename_i h
    have e := (Int.ediv_emod_unique (a := s) (b := m) (r := Int.tmod s m) (q := Int.tdiv s m) hm).2 ⟨h1, by omega, by omega⟩
    exact e.1.symm
theorem ediv_bound (s m : Int) (hm : 0 < m) (h0 : -1000000000000000 ≤ s) (h1 : s ≤ 1000000000000000) : -1000000000000000 ≤ s / m ∧ s / m ≤ 1000000000000000 := by
  constructor
  · refine (Int.le_ediv_iff_mul_le hm).2 ?_
    have : (1 : Int) * 1000000000000000 ≤ m * 1000000000000000 := Int.mul_le_mul_of_nonneg_right (by omega) (by omega)
    rw [Int.neg_mul, Int.mul_comm]
    omega
  · have h2 : s / m * m ≤ s := Int.ediv_mul_le s (by omega)
    by_cases c : s / m ≤ 0
    · omega
    · have : s / m * 1 ≤ s / m * m := Int.mul_le_mul_of_nonneg_left (by omega) (by omega)
      omega
theorem tdiv_bound (s m : Int) (hm : 0 < m) (h0 : -1000000000000000 ≤ s) (h1 : s ≤ 1000000000000000) : -1000000000000001 ≤ Int.tdiv s m ∧ Int.tdiv s m ≤ 1000000000000001 := by
  have h2 := ediv_bound s m hm h0 h1
  have h3 := floor_eq s m hm
  split at h3 <;> omega
theorem i_floor (s m : Int) (hm : 0 < m) (h0 : -1000000000000000 ≤ s) (h1 : s ≤ 1000000000000000) : i_floorDivide (s, m, ()) = some (s / m, ()) := by
  have hb := tdiv_bound s m hm h0 h1
  have hne : ¬ m = 0 := by omega
  have w1 : IntKind.i64.wrap (Int.tdiv s m) = Int.tdiv s m := by rw [wrap_i64] <;> omega
  have w2 : IntKind.i64.wrap (Int.tdiv s m - 1) = Int.tdiv s m - 1 := by rw [wrap_i64] <;> omega
  have e := floor_eq s m hm
  unfold i_floorDivide
  simp only [hne, if_false, w1, w2]
  by_cases c : Int.tmod s m < 0
  · rw [if_pos c] at e
    simp only [decide_eq_true c, e]
  · rw [if_neg c] at e
    simp only [decide_eq_false c, e]
theorem s_floor (s m : Int) (hm : 0 < m) (h0 : -1000000000000000 ≤ s) (h1 : s ≤ 1000000000000000) : s_l30Floor (s, m, ()) = some (s / m, ()) := i_floor s m hm h0 h1

/-- The fault-tolerant mean. -/
def meanL (l : List Int) : Int := esum (win (leftN l.length) (l.length - leftN l.length)) 0 (isort l l.length) / ((l.length - 2 * leftN l.length : Nat) : Int)
def Small (l : List Int) : Prop := ∀ v ∈ l, -2000000000 ≤ v ∧ v ≤ 2000000000
theorem Small.nth {l : List Int} (h : Small l) {i : Nat} (hi : i < l.length) : -2000000000 ≤ nth l i ∧ nth l i ≤ 2000000000 := by
  refine h _ ?_
  have := nth_get hi
  rw [List.getElem?_eq_getElem hi] at this
  rw [← Option.some.inj this]
  exact List.getElem_mem hi
theorem sum_bound : ∀ (L : List Int), Small L → -(2000000000 * (L.length : Int)) ≤ sumL L ∧ sumL L ≤ 2000000000 * (L.length : Int)
  | [], _ => by simp [sumL]
  | v :: r, h => by
    have h1 := h v (by simp)
    have h2 := sum_bound r (fun u hu => h u (by simp [hu]))
    simp only [sumL, List.length_cons]
    omega
theorem fold_sum : ∀ (L : List Int) (a : Int), Small L → -1000000000000 ≤ a - 2000000000 * (L.length : Int) → a + 2000000000 * (L.length : Int) ≤ 1000000000000 → L.foldl (fun s v => IntKind.i64.wrap (s + v)) a = a + sumL L
  | [], a, _, _, _ => by simp [sumL]
  | v :: r, a, h, h0, h1 => by
    have hv := h v (by simp)
    simp only [List.length_cons] at h0 h1
    have hw : IntKind.i64.wrap (a + v) = a + v := by rw [wrap_i64] <;> omega
    rw [List.foldl_cons, hw, fold_sum r (a + v) (fun u hu => h u (by simp [hu])) (by omega) (by omega)]
    simp only [sumL]
    omega

theorem i_mean (l : List Int) (h1 : 1 ≤ l.length) (h32 : l.length ≤ 32) (hs : Small l) : i_toleratedMean (l, ()) = some (meanL l, ()) := by
  obtain ⟨D, e1, e2, e3⟩ := sort_ok l h32
  have hD := sorted_isort e2 e3
  have hlen : D.length = l.length := e2.length_eq
  have k2 := left_two h1
  have kle := left_le l.length
  have hsm : Small D := fun v hv => hs v (e2.subset hv)
  have hw : IntKind.i64.wrap ((D.length : Int) - (leftN l.length : Int)) = ((l.length - leftN l.length : Nat) : Int) := by rw [hlen, wrap_i64] <;> omega
  have hb : bounds D.length (some (.dat (.int .i64) (leftN l.length : Int))) (some (.dat (.int .i64) ((l.length - leftN l.length : Nat) : Int))) = some (leftN l.length, l.length - leftN l.length) := by
    have hh : (0 : Int) ≤ (leftN l.length : Int) ∧ (leftN l.length : Int) ≤ ((l.length - leftN l.length : Nat) : Int) ∧ ((l.length - leftN l.length : Nat) : Int) ≤ (D.length : Int) := ⟨by omega, by omega, by omega⟩
    simp only [bounds, bndOr]
    exact if_pos hh
  have hwin := esum_win D (leftN l.length) (l.length - leftN l.length) 0 (Nat.zero_le _) (by omega)
  rw [Nat.sub_zero, Nat.sub_zero] at hwin
  generalize hL : List.drop (leftN l.length) (List.take (l.length - leftN l.length) D) = L at hwin
  have hLs : Small L := by
    intro v hv
    rw [← hL] at hv
    exact hsm v (List.mem_of_mem_take (List.mem_of_mem_drop hv))
  have hLl : L.length = l.length - 2 * leftN l.length := by
    rw [← hL]; simp; omega
  have hfold := fold_ok (B := b_i_toleratedMean_5) L (fun (s : Int) i => (L, s, L, (L.length : Int), (i : Int), ())) (fun s v => IntKind.i64.wrap (s + v)) (fun s => .inl (L, s, ())) (fun s => by simp only [b_i_toleratedMean_5, lt_n]) (fun s i h => by
    simp only [b_i_toleratedMean_5, lt_i h, next_i h (show L.length ≤ 1099511627776 by omega), idx_nat h, onSome]) 0
  have hfold' : loopL b_i_toleratedMean_5 (L, (0 : Int), L, (L.length : Int), (0 : Int), ()) = _ := hfold
  rw [fold_sum L 0 hLs (by omega) (by omega), Int.zero_add] at hfold'
  have hbd := sum_bound L hLs
  have hfl := i_floor (sumL L) (L.length : Int) (by omega) (by omega) (by omega)
  unfold i_toleratedMean
  simp only [clone_ok l (by omega), i_left l.length, e1, hw, hb, onSome, hL, hfold', hfl]
  unfold meanL
  rw [← hD, hwin, hLl]

/-! ### The model's mean -/
theorem rank_in (l : List Int) (n k s : Int) (i : Nat) (hi : i < l.length) (hl : l.length ≤ 1000) (hn : n = (l.length : Int)) : ∀ (r j : Nat), j + r = l.length → loopL b_s_l30Mean_9 (l, n, k, s, (i : Int), (rank l i j : Int), (j : Int), ()) = some (.inl (l, n, k, s, (i : Int), (rank l i l.length : Int), ()))
  | 0, j, hj => by
    have : j = l.length := by omega
    subst this
    have hd : decide ((l.length : Int) < n) = false := by rw [hn]; simp
    rw [loopL_eq]
    simp only [b_s_l30Mean_9, hd]
  | r + 1, j, hj => by
    have hjl : j < l.length := by omega
    have hd : decide ((j : Int) < n) = true := by rw [hn]; simp; omega
    have hr : rank l i j ≤ j := by
      have key : ∀ m, rank l i m ≤ m := by
        intro m
        induction m with
        | zero => exact Nat.le_refl _
        | succ m ih => simp only [rank]; split <;> omega
      exact key j
    have wj := w_succ (j := j) (by omega)
    have wr := w_succ (j := rank l i j) (by omega)
    have ih := rank_in l n k s i hi hl hn r (j + 1) (by omega)
    rw [loopL_eq]
    by_cases c : nth l j < nth l i
    · have hb : bef l i j = true := by simp [bef, c]
      simp only [rank, hb, if_true] at ih
      simp only [b_s_l30Mean_9, hd, idx_nth hjl, idx_nth hi, onSome, decide_eq_true c, wj, wr]
      exact ih
    · by_cases c2 : nth l j = nth l i
      · have he : (nth l j == nth l i) = true := by simp [c2]
        by_cases c3 : j < i
        · have hb : bef l i j = true := by simp [bef, c2, c3]
          have hd3 : decide ((j : Int) < (i : Int)) = true := by simp; omega
          simp only [rank, hb, if_true] at ih
          simp only [b_s_l30Mean_9, hd, idx_nth hjl, idx_nth hi, onSome, decide_eq_false c, he, hd3, wj, wr]
          exact ih
        · have hb : bef l i j = false := by simp [bef, c, c3]
          have hd3 : decide ((j : Int) < (i : Int)) = false := by simp; omega
          simp only [rank, hb] at ih
          simp only [b_s_l30Mean_9, hd, idx_nth hjl, idx_nth hi, onSome, decide_eq_false c, he, hd3, wj]
          exact ih
      · have he : (nth l j == nth l i) = false := by simp [c2]
        have hb : bef l i j = false := by simp [bef, c, c2]
        simp only [rank, hb] at ih
        simp only [b_s_l30Mean_9, hd, idx_nth hjl, idx_nth hi, onSome, decide_eq_false c, he, wj]
        exact ih
theorem vsum_bound (l : List Int) (hs : Small l) (k m q : Nat) : ∀ n, n ≤ l.length → -(2000000000 * (n : Int)) ≤ vsum l (win k m) q n ∧ vsum l (win k m) q n ≤ 2000000000 * (n : Int)
  | 0, _ => by simp [vsum]
  | n + 1, h => by
    have h1 := vsum_bound l hs k m q n (by omega)
    have h2 := hs.nth (i := n) (by omega)
    simp only [vsum, win]
    split <;> omega
theorem s_mean_loop (l : List Int) (hl : l.length ≤ 32) (hs : Small l) (k : Nat) (hk : k ≤ l.length) : ∀ (r i : Nat), i + r = l.length → loopL b_s_l30Mean_5 (l, (l.length : Int), (k : Int), vsum l (win k (l.length - k)) l.length i, (i : Int), ()) = some (.inl ((l.length : Int), (k : Int), vsum l (win k (l.length - k)) l.length l.length, ()))
  | 0, i, hi => by
    have : i = l.length := by omega
    subst this
    rw [loopL_eq]
    simp only [b_s_l30Mean_5, lt_n]
  | r + 1, i, hi => by
    have hil : i < l.length := by omega
    have hin := rank_in l (l.length : Int) (k : Int) (vsum l (win k (l.length - k)) l.length i) i hil (by omega) rfl l.length 0 (by omega)
    have hin' : loopL b_s_l30Mean_9 (l, (l.length : Int), (k : Int), vsum l (win k (l.length - k)) l.length i, (i : Int), (0 : Int), (0 : Int), ()) = _ := hin
    have wi := w_succ (j := i) (by omega)
    have wn : IntKind.i64.wrap ((l.length : Int) - (k : Int)) = ((l.length - k : Nat) : Int) := by rw [wrap_i64] <;> omega
    have ih := s_mean_loop l hl hs k hk r (i + 1) (by omega)
    have hv := vsum_bound l hs k (l.length - k) l.length i (by omega)
    have hx := hs.nth hil
    rw [vsum] at ih
    rw [loopL_eq]
    by_cases c1 : k ≤ rank l i l.length
    · have d1 : decide ((rank l i l.length : Int) ≥ (k : Int)) = true := by simp; omega
      by_cases c2 : rank l i l.length < l.length - k
      · have d2 : decide ((rank l i l.length : Int) < ((l.length - k : Nat) : Int)) = true := by simp; omega
        have ws : IntKind.i64.wrap (vsum l (win k (l.length - k)) l.length i + nth l i) = vsum l (win k (l.length - k)) l.length i + nth l i := by rw [wrap_i64] <;> omega
        rw [win, if_pos ⟨c1, c2⟩] at ih
        simp only [b_s_l30Mean_5, lt_i hil, hin', d1, d2, wn, idx_nth hil, onSome, wi, ws]
        exact ih
      · have d2 : decide ((rank l i l.length : Int) < ((l.length - k : Nat) : Int)) = false := by simp; omega
        rw [win, if_neg (by omega), Int.add_zero] at ih
        simp only [b_s_l30Mean_5, lt_i hil, hin', d1, d2, wn, wi]
        exact ih
    · have d1 : decide ((rank l i l.length : Int) ≥ (k : Int)) = false := by simp; omega
      rw [win, if_neg (by omega), Int.add_zero] at ih
      simp only [b_s_l30Mean_5, lt_i hil, hin', d1, wi]
      exact ih
theorem s_mean (l : List Int) (h1 : 1 ≤ l.length) (h32 : l.length ≤ 32) (hs : Small l) : s_l30Mean (l, ()) = some (meanL l, ()) := by
  have k2 := left_two h1
  have kle := left_le l.length
  have hloop := s_mean_loop l h32 hs (leftN l.length) (by omega) l.length 0 (by omega)
  have hloop' : loopL b_s_l30Mean_5 (l, (l.length : Int), (leftN l.length : Int), (0 : Int), (0 : Int), ()) = _ := hloop
  have hv := vsum_bound l hs (leftN l.length) (l.length - leftN l.length) l.length l.length (Nat.le_refl _)
  have w1 : IntKind.i64.wrap ((2 : Int) * (leftN l.length : Int)) = ((2 * leftN l.length : Nat) : Int) := by rw [wrap_i64] <;> omega
  have w2 : IntKind.i64.wrap ((l.length : Int) - ((2 * leftN l.length : Nat) : Int)) = ((l.length - 2 * leftN l.length : Nat) : Int) := by rw [wrap_i64] <;> omega
  have hfl := s_floor (vsum l (win (leftN l.length) (l.length - leftN l.length)) l.length l.length) ((l.length - 2 * leftN l.length : Nat) : Int) (by omega) (by omega) (by omega)
  unfold s_l30Mean
  simp only [s_left l.length, hloop', w1, w2, hfl]
  unfold meanL
  rw [vsum_eq]
end Go.Proofs.Ytoppfeehgkpjkaa
