/- Plain laws: FnCorrectedClocks, FnFaultyClocks. -/
import Derived.Test.YtoppfeehgkpjkaaPEnds
import Derived.Test.YtoppfeehgkpjkaaPMeans
import Derived.Test.YtoppfeehgkpjkaaPLike
import Derived.Test.YtoppfeehgkpjkaaPCorrectLaw
namespace Go.Proofs.Ytoppfeehgkpjkaa
open Go.RowKit
set_option linter.unusedVariables false
set_option linter.unusedSimpArgs false

theorem loF_mem (l : List Int) (c : Int) : ∀ n, loF l c n = c ∨ ∃ i, i < n ∧ loF l c n = nth l i
  | 0 => .inl rfl
  | n + 1 => by
    unfold loF
    split
    · exact .inr ⟨n, by omega, rfl⟩
    · rcases loF_mem l c n with h | ⟨i, h1, h2⟩
      · exact .inl h
      · exact .inr ⟨i, by omega, h2⟩
theorem hiF_mem (l : List Int) (c : Int) : ∀ n, hiF l c n = c ∨ ∃ i, i < n ∧ hiF l c n = nth l i
  | 0 => .inl rfl
  | n + 1 => by
    unfold hiF
    split
    · exact .inr ⟨n, by omega, rfl⟩
    · rcases hiF_mem l c n with h | ⟨i, h1, h2⟩
      · exact .inl h
      · exact .inr ⟨i, by omega, h2⟩
theorem nth_mem {l : List Int} {i : Nat} (h : i < l.length) : nth l i ∈ l := List.mem_of_getElem? (nth_get h)
theorem loF_low {l : List Int} (h : 1 ≤ l.length) : loF l (nth l 0) l.length = lowL l := by
  have h1 : lowL l ≤ loF l (nth l 0) l.length := by
    rcases loF_mem l (nth l 0) l.length with e | ⟨i, h1, e⟩
    · rw [e]; exact low_le _ (nth_mem (by omega))
    · rw [e]; exact low_le _ (nth_mem h1)
  obtain ⟨i, hi, e⟩ := nth_of_mem (low_mem h)
  have h2 := loF_le l (nth l 0) l.length i hi
  rw [← e] at h2
  omega
theorem hiF_high {l : List Int} (h : 1 ≤ l.length) : hiF l (nth l 0) l.length = highL l := by
  have h1 : hiF l (nth l 0) l.length ≤ highL l := by
    rcases hiF_mem l (nth l 0) l.length with e | ⟨i, h1, e⟩
    · rw [e]; exact high_ge _ (nth_mem (by omega))
    · rw [e]; exact high_ge _ (nth_mem h1)
  obtain ⟨i, hi, e⟩ := nth_of_mem (high_mem h)
  have h2 := hiF_ge l (nth l 0) l.length i hi
  rw [← e] at h2
  omega

theorem law_CorrectedClocks (x) (hx : Wf (.pair (.list (.int .u8)) .unit) x) : l_FnCorrectedClocks x = some (true, ()) := by
  obtain ⟨(l : List Int), u⟩ := x
  unfold l_FnCorrectedClocks l_big
  by_cases h : (l.length : Int) > 4096
  · simp only [decide_eq_true h]
  · have hb := bytes_of hx.1
    obtain ⟨t, ht, hlen⟩ := drawCC l (by omega) hb
    have hl : t.length ≤ 1099511627776 := by omega
    have b1 : ∀ a : Int, (a != a) = false := bne_self_i
    have k1 := likeInts_ok (ccR t).1 (by have := ccR_len t; omega)
    simp only [decide_eq_false h, ht, i_cc t hl, s_cc t hl, i_spread t hl, s_spread t hl, k1, Bool.not_true]
    rw [b1, b1, b1]
    simp only
    cases hc : clocksB t with
    | false => unfold ccR; rw [hc]; rfl
    | true =>
      obtain ⟨h1, h2, h3⟩ := clocks_of hc
      have hr : ccR t = (corrL t, (0 : Int), ()) := by unfold ccR; rw [hc]; rfl
      have hsp : spreadR t = (highL t - lowL t, (0 : Int), ()) := by unfold spreadR; rw [hc]; rfl
      have hcc := clocksB_of (corr_clk h1 h2) (by rw [corr_len]; exact h2) (by rw [corr_len]; exact h3)
      have hsp2 : spreadR (corrL t) = ((0 : Int), (0 : Int), ()) := by unfold spreadR; rw [hcc, corr_spread h2]; rfl
      have hi2 := i_spread (corrL t) (by rw [corr_len]; omega)
      rw [hsp2] at hi2
      have h0 : 0 < t.length := by omega
      have hi : idx t (0 : Int) = some (nth t 0) := idx_nth h0
      have hg : t[(0 : Int).toNat]? = some (nth t 0) := nth_get h0
      have e := seq_ok (B := b_l_FnCorrectedClocks_15) (fun i => (t, corrL t, highL t - lowL t, (0 : Int), (0 : Int), loF t (nth t 0) i, hiF t (nth t 0) i, (i : Int), ())) t.length (.inl (corrL t, highL t - lowL t, (0 : Int), (0 : Int), loF t (nth t 0) t.length, hiF t (nth t 0) t.length, ())) (by simp only [b_l_FnCorrectedClocks_15, lt_n]) (fun i hi => by
        simp only [b_l_FnCorrectedClocks_15, lt_i hi, next_i hi (show t.length ≤ 1099511627776 by omega), idx_nth hi, onSome, Int.toNat_natCast, nth_get hi]
        rfl)
      have e' : loopL b_l_FnCorrectedClocks_15 (t, corrL t, highL t - lowL t, (0 : Int), (0 : Int), nth t 0, nth t 0, (0 : Int), ()) = _ := e
      rw [loF_low h2, hiF_high h2] at e'
      have hm : nth (corrL t) 0 = meanL t := by
        have := nth_get (d := corrL t) (i := 0) (by rw [corr_len]; exact h0)
        unfold corrL at this
        rw [List.getElem?_map, nth_get h0] at this
        exact (Option.some.inj this).symm
      have hc0 : 0 < (corrL t).length := by rw [corr_len]; exact h0
      have hix : idx (corrL t) (0 : Int) = some (meanL t) := by rw [← hm]; exact idx_nth hc0
      have hgx : (corrL t)[(0 : Int).toNat]? = some (meanL t) := by rw [← hm]; exact nth_get hc0
      have hge : decide (meanL t ≥ lowL t) = true := decide_eq_true (mean_ge h2 fun v hv => low_le v (kept_mem hv))
      have hle : decide (meanL t ≤ highL t) = true := decide_eq_true (mean_le h2 fun v hv => high_ge v (kept_mem hv))
      have a := h1 _ (low_mem h2)
      have b := h1 _ (high_mem h2)
      have hw : IntKind.i64.wrap (highL t - lowL t) = highL t - lowL t := by rw [wrap_i64] <;> omega
      rw [hr, hsp]
      simp only [show ((0 : Int) != 0) = false from rfl, hi2, hi, hg, onSome, e', show ((0 : Int) == 0) = true from rfl, hix, hgx, hge, hle, hw]
      simp

/-! ### A faulty clock -/
def loX (l : List Int) (f : Int) (c : Int) : Nat → Int
  | 0 => c
  | i + 1 => if (i : Int) != f then (if nth l i < loX l f c i then nth l i else loX l f c i) else loX l f c i
def hiX (l : List Int) (f : Int) (c : Int) : Nat → Int
  | 0 => c
  | i + 1 => if (i : Int) != f then (if nth l i > hiX l f c i then nth l i else hiX l f c i) else hiX l f c i
theorem loX_le (l : List Int) (f c : Int) : ∀ n i : Nat, i < n → (i : Int) ≠ f → loX l f c n ≤ nth l i
  | n + 1, i, h, hne => by
    unfold loX
    by_cases e : i = n
    · subst e
      have hb : ((i : Int) != f) = true := by simp [hne]
      rw [hb, if_pos rfl]
      split <;> omega
    · have := loX_le l f c n i (by omega) hne
      split
      · split <;> omega
      · exact this
theorem hiX_ge (l : List Int) (f c : Int) : ∀ n i : Nat, i < n → (i : Int) ≠ f → nth l i ≤ hiX l f c n
  | n + 1, i, h, hne => by
    unfold hiX
    by_cases e : i = n
    · subst e
      have hb : ((i : Int) != f) = true := by simp [hne]
      rw [hb, if_pos rfl]
      split <;> omega
    · have := hiX_ge l f c n i (by omega) hne
      split
      · split <;> omega
      · exact this
theorem law_FaultyClocks (x) (hx : Wf (.pair (.list (.int .u8)) .unit) x) : l_FnFaultyClocks x = some (true, ()) := by
  obtain ⟨(l : List Int), u⟩ := x
  unfold l_FnFaultyClocks l_big
  by_cases h : (l.length : Int) > 4096
  · simp only [decide_eq_true h]
  · have hb := bytes_of hx.1
    obtain ⟨t, f, m, ht, hlen, hlen2⟩ := drawCA l (by omega) hb
    have hl : t.length ≤ 1099511627776 := by omega
    have hm : m.length ≤ 1099511627776 := by omega
    have b1 : ∀ a : Int, (a != a) = false := bne_self_i
    have k1 := likeInts_ok (caR t f m).1 (by have := caR_len t f m; omega)
    simp only [decide_eq_false h, ht, i_ca t f m hl hm, s_ca t f m hl hm, k1, Bool.not_true]
    rw [b1]
    simp only
    rcases Bool.eq_false_or_eq_true ((caR t f m).2.1 != (0 : Int)) with c | c
    · simp only [c]
    · have hz : clocksB t = true ∧ inB f 0 ((t.length : Int) - 1) = true ∧ m.length = t.length ∧ m.all (fun v => inB v 0 1000000000) = true ∧ caR t f m = (aroundL t f m, (0 : Int), ()) := by
        have hc : (caR t f m).2.1 = 0 := by simpa using c
        unfold caR at hc ⊢
        split at hc
        · rename_i g1
          split at hc
          · rename_i g2
            split at hc
            · cases hc
            · rename_i g3
              split at hc
              · rename_i g4
                refine ⟨g1, g2, ?_, g4, ?_⟩
                · have : (m.length : Int) = t.length := by simpa using g3
                  omega
                · rw [if_pos g1, if_pos g2, if_neg g3, if_pos g4]
              · cases hc
          · cases hc
        · cases hc
      obtain ⟨g1, g2, g3, g4, g5⟩ := hz
      obtain ⟨h1, h2, h3⟩ := clocks_of g1
      have gf := in_iff.1 g2
      rw [g5]
      simp only [show ((0 : Int) != 0) = false from rfl]
      by_cases h3' : (t.length : Int) < 3
      · simp only [decide_eq_true h3']
      · have e := seq_ok (B := b_l_FnFaultyClocks_12) (fun i => (t, f, aroundL t f m, loX t f 1000000000 i, hiX t f 0 i, (i : Int), ())) t.length (.inl (aroundL t f m, loX t f 1000000000 t.length, hiX t f 0 t.length, ())) (by simp only [b_l_FnFaultyClocks_12, lt_n]) (fun i hi => by
          rcases Bool.eq_false_or_eq_true ((i : Int) != f) with d | d
          · simp only [b_l_FnFaultyClocks_12, lt_i hi, next_i hi (show t.length ≤ 1099511627776 by omega), idx_nth hi, onSome, Int.toNat_natCast, nth_get hi, d, loX, hiX, if_true]
          · simp only [b_l_FnFaultyClocks_12, lt_i hi, next_i hi (show t.length ≤ 1099511627776 by omega), d, loX, hiX]
            rfl)
        have e' : loopL b_l_FnFaultyClocks_12 (t, f, aroundL t f m, (1000000000 : Int), (0 : Int), (0 : Int), ()) = _ := e
        have hk : 1 ≤ leftN t.length := by unfold leftN; split; omega; split <;> omega
        have hx : ∀ i (hi : i < t.length), loX t f 1000000000 t.length ≤ nth (aroundL t f m) i ∧ nth (aroundL t f m) i ≤ hiX t f 0 t.length := by
          intro i hi
          have e1 : nth (aroundL t f m) i = meanL (readL t f (nth m i)) := by
            have h1 := nth_get (d := aroundL t f m) (i := i) (by rw [around_len]; exact hi)
            have h2 := pushes_get (fun i _ => meanL (readL t f (nth m i))) t 0 i hi
            rw [Nat.zero_add] at h2
            have h2' : (aroundL t f m)[i]? = some (meanL (readL t f (nth m i))) := h2
            rw [h2'] at h1
            exact (Option.some.inj h1).symm
          have hrl := read_len t f (nth m i)
          rw [e1]
          constructor
          · refine mean_ge (by omega) ?_
            rw [hrl]
            refine kept_ge (f := f.toNat) hk (fun j hj hne => ?_)
            rw [hrl] at hj
            have hjf : (j : Int) ≠ f := by omega
            have hb : ((j : Int) == f) = false := by simp [hjf]
            rw [read_nth t f _ hj, hb]
            exact loX_le t f _ _ j hj hjf
          · refine mean_le (by omega) ?_
            rw [hrl]
            refine kept_le (f := f.toNat) hk (fun j hj hne => ?_)
            rw [hrl] at hj
            have hjf : (j : Int) ≠ f := by omega
            have hb : ((j : Int) == f) = false := by simp [hjf]
            rw [read_nth t f _ hj, hb]
            exact hiX_ge t f _ _ j hj hjf
        have hal := around_len t f m
        generalize aroundL t f m = y at e' hx hal ⊢
        generalize loX t f 1000000000 t.length = lo at e' hx
        generalize hiX t f 0 t.length = hi at e' hx
        have e2 := seq_ok (B := b_l_FnFaultyClocks_18) (fun i => (y, lo, hi, (i : Int), ())) y.length (.inl ()) (by simp only [b_l_FnFaultyClocks_18, lt_n]) (fun i hi' => by
          have hb := hx i (by omega)
          have d1 : decide (nth y i < lo) = false := by simp; omega
          have d2 : decide (nth y i > hi) = false := by simp; omega
          simp only [b_l_FnFaultyClocks_18, lt_i hi', next_i hi' (show y.length ≤ 1099511627776 by omega), idx_nth hi', onSome, Int.toNat_natCast, nth_get hi', d1, d2])
        have e2' : loopL b_l_FnFaultyClocks_18 (y, lo, hi, (0 : Int), ()) = _ := e2
        simp only [decide_eq_false h3', e', e2']
end Go.Proofs.Ytoppfeehgkpjkaa
