/- Plain law: FnLosses. -/
import Derived.Test.YtgjbodfkjfieaaaPDrawMark
import Derived.Test.YtgjbodfkjfieaaaPLoss
import Derived.Test.YtgjbodfkjfieaaaPCounts
namespace Go.Proofs.Ytgjbodfkjfieaaa
open Go.RowKit
set_option linter.unusedVariables false
set_option linter.unusedSimpArgs false

/-! ### The sum of the counts -/
def sumI : List Int → Int
  | [] => 0
  | v :: r => v + sumI r
theorem sumI_set : ∀ (c : List Int) (k : Nat) (v : Int) (h : k < c.length), sumI (c.set k v) = sumI c - c[k] + v
  | [], k, v, h => by simp at h
  | u :: r, 0, v, h => by simp [sumI]; omega
  | u :: r, k + 1, v, h => by
    have := sumI_set r k v (by simpa using h)
    simp [sumI, this]; omega
theorem sumI_nn : ∀ (c : List Int), (∀ v ∈ c, (0 : Int) ≤ v) → 0 ≤ sumI c ∧ ∀ v ∈ c, v ≤ sumI c
  | [], _ => by simp [sumI]
  | v :: r, h => by
    have h1 := sumI_nn r (fun u hu => h u (by simp [hu]))
    have h2 := h v (by simp)
    refine ⟨by simp [sumI]; omega, ?_⟩
    intro u hu
    rcases List.mem_cons.1 hu with rfl | hu
    · simp [sumI]; omega
    · have := h1.2 u hu
      simp [sumI]; omega
theorem bumpK_sum (c c' : List Int) (k : Int) (hc : ∀ v ∈ c, (0 : Int) ≤ v) (hs : sumI c ≤ 1000000) (h : bumpK c k = some c') : sumI c' = sumI c + 1 ∧ ∀ v ∈ c', (0 : Int) ≤ v := by
  unfold bumpK idx at h
  by_cases h0 : 0 ≤ k
  · rw [if_pos h0] at h
    cases hg : c[k.toNat]? with
    | none => rw [hg] at h; cases h
    | some v =>
      rw [hg] at h
      obtain ⟨hk, hv⟩ := List.getElem?_eq_some_iff.1 hg
      have hv0 := hc v (hv ▸ List.getElem_mem hk)
      have hv1 := (sumI_nn c hc).2 v (hv ▸ List.getElem_mem hk)
      have hw : IntKind.i64.wrap (v + 1) = v + 1 := by rw [wrap_i64] <;> omega
      have e : c.set k.toNat (IntKind.i64.wrap (v + 1)) = c' := Option.some.inj h
      rw [hw] at e
      subst e
      refine ⟨by rw [sumI_set c k.toNat (v + 1) hk, hv]; omega, ?_⟩
      intro u hu
      rcases List.mem_or_eq_of_mem_set hu with hu | rfl
      · exact hc u hu
      · omega
  · rw [if_neg h0] at h
    cases h
theorem bumps_sum : ∀ (l : List TMark.T) (c c' : List Int), (∀ v ∈ c, (0 : Int) ≤ v) → sumI c + l.length ≤ 1000000 → bumps c l = some c' → sumI c' = sumI c + l.length ∧ ∀ v ∈ c', (0 : Int) ≤ v
  | [], c, c', hc, hs, h => by cases h; simp; exact hc
  | m :: r, c, c', hc, hs, h => by
    have hs' : sumI c + (r.length : Int) + 1 ≤ 1000000 := by simp at hs; omega
    simp only [bumps] at h
    cases hb : bump c m with
    | none => rw [hb] at h; cases h
    | some c2 =>
      rw [hb] at h
      obtain ⟨h1, h2⟩ := bumpK_sum c c2 m.2.2.1 hc (by omega) hb
      obtain ⟨h3, h4⟩ := bumps_sum r c2 c' h2 (by omega) h
      exact ⟨by simp; omega, h4⟩
theorem sum_ok (c : List Int) (hl : c.length ≤ 1000000) (hc : ∀ v ∈ c, (0 : Int) ≤ v) (hs : sumI c ≤ 1000000) : l_sum (c, ()) = some (sumI c, ()) := by
  have e := fold_ok (B := b_l_sum_3) c (fun (s : Int) i => (c, s, (i : Int), ())) (fun s v => IntKind.i64.wrap (s + v)) (fun s => .inl (s, ())) (fun s => by simp only [b_l_sum_3, lt_n]) (fun s i h => by
    simp only [b_l_sum_3, lt_i h, next_i h (show c.length ≤ 1099511627776 by omega), idx_nat h, onSome]) 0
  have key : ∀ (r : List Int) (a : Int), 0 ≤ a → (∀ v ∈ r, (0 : Int) ≤ v) → a + sumI r ≤ 1000000 → r.foldl (fun s v => IntKind.i64.wrap (s + v)) a = a + sumI r := by
    intro r
    induction r with
    | nil => intro a _ _ _; simp [sumI]
    | cons v r ih =>
      intro a h0 h1 h2
      have hv := h1 v (by simp)
      have hr := (sumI_nn r (fun u hu => h1 u (by simp [hu]))).1
      simp only [sumI] at h2
      have hw : IntKind.i64.wrap (a + v) = a + v := by rw [wrap_i64] <;> omega
      rw [List.foldl_cons, hw, ih (a + v) (by omega) (fun u hu => h1 u (by simp [hu])) (by omega)]
      simp [sumI]; omega
  have e' : loopL b_l_sum_3 (c, (0 : Int), (0 : Int), ()) = _ := e
  unfold l_sum
  simp only [e', key c 0 (by omega) hc (by omega)]
  simp
theorem like_ok (c : List Int) (hl : c.length ≤ 1000000) : l_likeInts (c, c, ()) = some (true, ()) := by
  exact eqS_ok (g := l_likeInts) (B := b_l_likeInts_4) (fun _ => by kernel_rfl) c (by simp only [b_l_likeInts_4, lt_n]) (fun i h => by
    simp only [b_l_likeInts_4, lt_i h, next_i h (show c.length ≤ 1099511627776 by omega), idx_nat h, onSome]
    simp)

theorem counts_eq (l : List TMark.T) (hl : l.length ≤ 1000000) : ∃ (c : List Int) (e : Int), s_StatusCounts (l, ()) = some (c, e, ()) ∧ i_StatusCounts (l, ()) = some (c, e, ()) ∧ c.length ≤ 5 ∧ (e = 0 → l_sum (c, ()) = some ((l.length : Int), ())) := by
  have hl' : l.length ≤ 1099511627776 := by omega
  obtain ⟨c, e, hs, hi, hc⟩ := status_eq l hl'
  refine ⟨c, e, hs, hi, hc, ?_⟩
  intro he
  subst he
  unfold s_StatusCounts at hs
  simp only [s_trace, hl'] at hs
  cases ht : traceB l with
  | false => rw [ht] at hs; simp at hs
  | true =>
    have hlen : (l.length : Int) ≤ 60 := by
      unfold traceB at ht
      simp only [Bool.and_eq_true, decide_eq_true_eq] at ht
      exact ht.2
    have e1 := bumps_loop (B := b_s_StatusCounts_5) l (fun s i => (l, s, (i : Int), ())) (fun s => .inl (s, ())) (fun s => by simp only [b_s_StatusCounts_5, lt_n]) (fun s i h => by
      simp only [b_s_StatusCounts_5, lt_i h, next_i h hl', idx_nat h, onSome, bump, bumpK]
      cases idx s l[i].2.2.1 <;> simp only
      cases s[l[i].2.2.1.toNat]? <;> rfl) (List.replicate 5 0)
    have e1' : loopL b_s_StatusCounts_5 (l, List.replicate (Int.toNat 5) (0 : Int), (0 : Int), ()) = _ := e1
    rw [ht, e1'] at hs
    cases hb : bumps (List.replicate 5 0) l with
    | none =>
      rw [hb] at hs
      simp [room] at hs
    | some c2 =>
      rw [hb] at hs
      simp [room] at hs
      subst hs
      have hz : sumI (List.replicate 5 (0 : Int)) = 0 := rfl
      obtain ⟨h1, h2⟩ := bumps_sum l (List.replicate 5 0) c2 (by simp) (by rw [hz]; omega) hb
      rw [hz] at h1
      have := sum_ok c2 (by omega) h2 (by omega)
      rw [this, h1]
      simp

theorem drawLosses (l : List Int) (hl : l.length ≤ 4096) (hb : ∀ b ∈ l, (0 : Int) ≤ b ∧ b ≤ 255) : ∃ (t : List TMark.T) (n : Int), s_DrawAvailabilityOf (l, ()) = some (t, n, ()) ∧ t.length ≤ 100 := by
  obtain ⟨s, hs, hg⟩ := from_ok l hl hb
  have hg := good_eta hg
  obtain ⟨t, s', h1, h2, h3⟩ := drawMarks hg
  have h2 := good_eta h2
  obtain ⟨v, s3, h4, h5, h6⟩ := next_ok _ 4 h2
  have h6 := good_eta h6
  obtain ⟨w, s4, h7, h8, h9⟩ := next_ok _ 20 h6
  unfold s_DrawAvailabilityOf
  simp only [hs, h1, h4, h7]
  exact ⟨t, _, rfl, h3⟩

theorem first_zero (t : List TMark.T) (h : (firstLossR t).2.1 = 0) : ∃ m : TMark.T, idx t (firstLossR t).1 = some m ∧ t[(firstLossR t).1.toNat]? = some m ∧ (m.2.2.1 == (3 : Int)) = false := by
  have key : ∀ (r : List TMark.T) (i j : Nat), firstI (fun m : TMark.T => statM m != 3) i r = some j → ∃ m, r[j - i]? = some m ∧ i ≤ j ∧ (m.2.2.1 == (3 : Int)) = false := by
    intro r
    induction r with
    | nil => intro i j h; cases h
    | cons v r ih =>
      intro i j h
      unfold firstI at h
      split at h
      · rename_i hv
        cases h
        exact ⟨v, by simp, by omega, by simpa [bne] using hv⟩
      · obtain ⟨m, h1, h2, h3⟩ := ih (i + 1) j h
        refine ⟨m, ?_, by omega, h3⟩
        rw [show j - i = (j - (i + 1)) + 1 by omega, List.getElem?_cons_succ]
        exact h1
  unfold firstLossR at *
  cases ht : traceB t with
  | false => rw [ht] at h; simp at h
  | true =>
    rw [ht] at h
    simp only [if_true] at h ⊢
    cases hf : firstI (fun m : TMark.T => statM m != 3) 0 t with
    | none => rw [hf] at h; simp at h
    | some j =>
      obtain ⟨m, h1, h2, h3⟩ := key t 0 j hf
      have h1 : t[j]? = some m := h1
      refine ⟨m, ?_, ?_, h3⟩
      · show idx t (j : Int) = some m
        unfold idx
        rw [if_pos (by omega)]
        exact h1
      · exact h1

theorem law_Losses (x) (hx : Wf (.pair (.list (.int .u8)) .unit) x) : l_FnLosses x = some (true, ()) := by
  obtain ⟨(l : List Int), u⟩ := x
  unfold l_FnLosses l_big
  by_cases h : (l.length : Int) > 4096
  · simp only [decide_eq_true h]
  · have hb := bytes_of hx.1
    obtain ⟨t, n, ht, hlen⟩ := drawLosses l (by omega) hb
    have hl : t.length ≤ 1099511627776 := by omega
    obtain ⟨c, e, hs, hi, hc, hsum⟩ := counts_eq t (by omega)
    have hlike := like_ok c (by omega)
    have b1 : ∀ a : Int, (a != a) = false := bne_self_i
    simp only [decide_eq_false h, ht, s_avail t n hl, i_avail t n hl, s_longest t n hl, i_longest t n hl, s_firstLoss t hl, i_firstLoss t hl, hs, hi, hlike, Bool.not_true]
    rw [b1, b1, b1, b1, b1, b1, b1]
    simp only
    have last : (match ((availR t n).2.1 != (0 : Int)) with
        | true => some (true, ())
        | false => some ((((longestR t n).1 == (0 : Int)) == ((availR t n).1 == (1000 : Int))), ())) = some (true, ()) := by
      rcases Bool.eq_false_or_eq_true ((availR t n).2.1 != (0 : Int)) with h1 | h1 <;> simp only [h1]
      have hz : (availR t n).2.1 = 0 := by simpa using h1
      have := loss_avail t n hz
      by_cases h2 : (longestR t n).1 = 0
      · have h3 := this.1 h2
        simp [h2, h3]
      · have h3 : (availR t n).1 ≠ 1000 := fun h => h2 (this.2 h)
        have b2 : ((longestR t n).1 == (0 : Int)) = false := by simp [h2]
        have b3 : ((availR t n).1 == (1000 : Int)) = false := by simp [h3]
        simp only [b2, b3]
        rfl
    have mid : (match (e == (0 : Int)) with
        | true => match l_sum (c, ()) with
          | none => none
          | some v14 => match (v14.1 != (t.length : Int)) with
            | true => some (false, ())
            | false => match ((availR t n).2.1 != (0 : Int)) with
              | true => some (true, ())
              | false => some ((((longestR t n).1 == (0 : Int)) == ((availR t n).1 == (1000 : Int))), ())
        | false => match ((availR t n).2.1 != (0 : Int)) with
              | true => some (true, ())
              | false => some ((((longestR t n).1 == (0 : Int)) == ((availR t n).1 == (1000 : Int))), ())) = some (true, ()) := by
      rcases Bool.eq_false_or_eq_true (e == (0 : Int)) with h1 | h1 <;> simp only [h1]
      · have he : e = 0 := by simpa using h1
        rw [hsum he]
        simp only [b1]
        exact last
      · exact last
    rcases Bool.eq_false_or_eq_true ((firstLossR t).2.1 == (0 : Int)) with h1 | h1 <;> simp only [h1]
    · have hz : (firstLossR t).2.1 = 0 := by simpa using h1
      obtain ⟨m, hm1, hm2, hm3⟩ := first_zero t hz
      simp only [hm1, hm2, onSome, hm3]
      exact mid
    · exact mid
end Go.Proofs.Ytgjbodfkjfieaaa
