/- Plain laws: merging lists of verdicts; counting them; drawing them. -/
import Derived.Test.YtmdflpfagbcaiaaPMerge
import Derived.Test.YtmdflpfagbcaiaaPBump
import Derived.Test.YtmdflpfagbcaiaaPDrawVerdict
namespace Go.Proofs.Ytmdflpfagbcaiaa
open Go.RowKit
set_option linter.unusedVariables false
set_option linter.unusedSimpArgs false

noncomputable def mergeAllL : List TVerdict.T → TVerdict.T
  | [] => bareV 0
  | v :: r => r.foldl mergeL v
noncomputable def mergeAllR (l : List TVerdict.T) : TVerdict.T × Int × Unit := if inB l.length 1 32 then (if l.all verdictB then (mergeAllL l, (0 : Int), ()) else (bareV 0, (1 : Int), ())) else (bareV 0, (3 : Int), ())

theorem merge_foldV : ∀ (r : List TVerdict.T) (v : TVerdict.T), verdictB v = true → r.all verdictB = true → r.foldl mergeI v = r.foldl mergeL v ∧ verdictB (r.foldl mergeL v) = true
  | [], v, hv, _ => ⟨rfl, hv⟩
  | u :: r, v, hv, h => by
    simp only [List.all_cons, Bool.and_eq_true] at h
    have h1 := merge_same hv h.1
    have h2 := merge_valid hv h.1
    obtain ⟨h3, h4⟩ := merge_foldV r _ h2 h.2
    simp only [List.foldl_cons, h1]
    exact ⟨h3, h4⟩
theorem merge_foldD {n : Nat} : ∀ (r : List TVerdict.T) (v : TVerdict.T), (dataV v).length ≤ n → (∀ u ∈ r, (dataV u).length ≤ n) → (dataV (r.foldl mergeL v)).length ≤ n
  | [], v, hv, _ => hv
  | u :: r, v, hv, h => merge_foldD r _ (merge_data hv (h u (by simp))) (fun w hw => h w (by simp [hw]))
theorem mergeI_data {a b : TVerdict.T} {n : Nat} (ha : verdictB a = true) (hb : verdictB b = true) (h1 : (dataV a).length ≤ n) (h2 : (dataV b).length ≤ n) : (dataV (mergeI a b)).length ≤ n := by
  rw [merge_same ha hb]; exact merge_data h1 h2

theorem s_loopM (l : List TVerdict.T) (z : TVerdict.T) (hl : l.length ≤ 1099511627776) (hd : ∀ v ∈ l, (dataV v).length ≤ 1099511627776) : ∀ (k i : Nat) (v : TVerdict.T), i + k = l.length → (dataV v).length ≤ 1099511627776 → loopL b_s_MergeAll_10 (l, z, v, (i : Int), ()) = some (.inl (z, (l.drop i).foldl mergeL v, ())) := by
  intro k
  induction k with
  | zero =>
    intro i v hi hv
    have : i = l.length := by omega
    subst this
    rw [loopL_eq]
    simp only [b_s_MergeAll_10, lt_n]
    simp
  | succ k ih =>
    intro i v hi hv
    have h : i < l.length := by omega
    have hdi := hd l[i] (List.getElem_mem h)
    rw [loopL_eq, List.drop_eq_getElem_cons h]
    simp only [b_s_MergeAll_10, lt_i h, next_i h hl, idx_nat h, onSome]
    rw [s_merge v l[i] hv]
    simp only
    rw [ih (i + 1) _ (by omega) (merge_data hv hdi)]
    rfl
theorem i_loopM (l : List TVerdict.T) (z : TVerdict.T) (hl : l.length ≤ 1099511627776) (hd : ∀ v ∈ l, (dataV v).length ≤ 1099511627776) (hv : l.all verdictB = true) : ∀ (k i : Nat) (v : TVerdict.T), i + k = l.length → (dataV v).length ≤ 1099511627776 → verdictB v = true → loopL b_i_MergeAll_7 (z, v, l, (l.length : Int), (i : Int), ()) = some (.inl (z, (l.drop i).foldl mergeL v, ())) := by
  intro k
  induction k with
  | zero =>
    intro i v hi _ _
    have : i = l.length := by omega
    subst this
    rw [loopL_eq]
    simp only [b_i_MergeAll_7, lt_n]
    simp
  | succ k ih =>
    intro i v hi hvd hvv
    have h : i < l.length := by omega
    have hdi := hd l[i] (List.getElem_mem h)
    have hvi := List.all_eq_true.1 hv l[i] (List.getElem_mem h)
    rw [loopL_eq, List.drop_eq_getElem_cons h]
    simp only [b_i_MergeAll_7, lt_i h, next_i h hl, idx_nat h, onSome]
    rw [i_merge_ok v l[i] hvd]
    simp only
    rw [merge_same hvv hvi, ih (i + 1) _ (by omega) (merge_data hvd hdi) (merge_valid hvv hvi)]
    rfl

theorem i_mergeAll (l : List TVerdict.T) (hl : l.length ≤ 1099511627776) (hd : ∀ v ∈ l, (dataV v).length ≤ 1099511627776) : i_MergeAll (l, ()) = some (mergeAllR l) := by
  unfold i_MergeAll mergeAllR inB
  by_cases hc : (l.length : Int) < 1
  · have h1 : decide ((l.length : Int) ≥ 1) = false := by simp; omega
    simp only [decide_eq_true hc, h1]
    rfl
  · by_cases hc2 : (l.length : Int) > 32
    · have h1 : decide ((l.length : Int) ≤ 32) = false := by simp; omega
      simp only [decide_eq_false hc, decide_eq_true hc2, h1, Bool.and_false]
      rfl
    · have h1 : decide ((l.length : Int) ≤ 32) = true := by simp; omega
      have h2 : decide ((l.length : Int) ≥ 1) = true := by simp; omega
      simp only [decide_eq_false hc, decide_eq_false hc2, h1, h2, i_verdicts l hl hd]
      cases hv : l.all verdictB with
      | false => rfl
      | true =>
        cases l with
        | nil => simp at hc
        | cons v r =>
          have h0 : idx (v :: r) (0 : Int) = some v := rfl
          have hb : bounds (v :: r).length (some (.dat (.int .i64) (1 : Int))) none = some (1, (v :: r).length) := by
            have hh : (0 : Int) ≤ 1 ∧ (1 : Int) ≤ ((v :: r).length : Int) ∧ ((v :: r).length : Int) ≤ ((v :: r).length : Int) := ⟨by omega, by omega, by omega⟩
            simp only [bounds, bndOr, optInt]
            exact if_pos hh
          have ht : List.drop 1 (List.take (v :: r).length (v :: r)) = r := by rw [List.take_length]; rfl
          have hvv : verdictB v = true := List.all_eq_true.1 hv v (by simp)
          have hvr : r.all verdictB = true := by simp only [List.all_cons, Bool.and_eq_true] at hv; exact hv.2
          have hvd := hd v (by simp)
          have hdr : ∀ u ∈ r, (dataV u).length ≤ 1099511627776 := fun u hu => hd u (by simp [hu])
          have e := i_loopM r (bareV 0) (by simp at hl; omega) hdr hvr r.length 0 v (by omega) hvd hvv
          have e' : loopL b_i_MergeAll_7 (bareV 0, v, r, (r.length : Int), (0 : Int), ()) = _ := e
          have ho := i_own (r.foldl mergeL v) (merge_foldD r v hvd hdr)
          rw [List.drop_zero] at e'
          simp only [Bool.not_true, h0, onSome, hb, ht]
          unfold bareV zeroF at e'
          rw [e']
          simp only
          rw [ho]
          rfl
theorem s_mergeAll (l : List TVerdict.T) (hl : l.length ≤ 1099511627776) (hd : ∀ v ∈ l, (dataV v).length ≤ 1099511627776) : s_MergeAll (l, ()) = some (mergeAllR l) := by
  unfold s_MergeAll mergeAllR
  simp only [s_in]
  cases hin : inB (l.length : Int) 1 32 with
  | false => rfl
  | true =>
    have e := all_ok (B := b_s_MergeAll_4) l (fun i => (l, bareV 0, (i : Int), ())) verdictB (.inl (l, bareV 0, ())) (.inr (bareV 0, (1 : Int), ())) (by simp only [b_s_MergeAll_4, lt_n]) (fun i h => by
      have hv := hd _ (List.getElem_mem h)
      have h1 := s_verdict (l[i], ()) hv
      simp only [b_s_MergeAll_4, lt_i h, next_i h hl, idx_nat h, onSome]
      rw [h1]
      simp only
      cases verdictB l[i] <;> rfl)
    have e' : loopL b_s_MergeAll_4 (l, bareV 0, (0 : Int), ()) = _ := e
    unfold bareV zeroF at e'
    simp only [Bool.not_true, e']
    cases hv : l.all verdictB with
    | false => rfl
    | true =>
      simp only [if_true]
      cases l with
      | nil => exact absurd hin (by decide)
      | cons v r =>
        have h0 : idx (v :: r) (0 : Int) = some v := rfl
        have hvd := hd v (by simp)
        have hdr : ∀ u ∈ r, (dataV u).length ≤ 1099511627776 := fun u hu => hd u (by simp [hu])
        have e2 := s_loopM (v :: r) (bareV 0) hl hd r.length 1 v (by simp; omega) hvd
        have e2' : loopL b_s_MergeAll_10 (v :: r, bareV 0, v, (1 : Int), ()) = some (.inl (bareV 0, r.foldl mergeL v, ())) := e2
        have ho := s_own (r.foldl mergeL v) (merge_foldD r v hvd hdr)
        unfold bareV zeroF at e2'
        simp only [h0, onSome]
        rw [e2']
        simp only
        rw [ho]
        rfl

theorem status_in {v : TVerdict.T} (h : verdictB v = true) : (0 : Int) ≤ v.1 ∧ (v.1 : Int) < ((5 : Nat) : Int) := by
  rcases verdict_cases h with ⟨f, rfl, _⟩ | ⟨s, rfl, h0, h1, _⟩
  · exact ⟨by show (0 : Int) ≤ 3; omega, by show (3 : Int) < 5; omega⟩
  · exact ⟨h0, by show s < 5; omega⟩

theorem counts_eq (l : List TVerdict.T) (hl : l.length ≤ 8192) (hd : ∀ v ∈ l, (dataV v).length ≤ 1099511627776) : ∃ (c : List Int) (e : Int), s_CountStatuses (l, ()) = some (c, e, ()) ∧ i_CountStatuses (l, ()) = some (c, e, ()) ∧ c.length ≤ 5 ∧ (l.all verdictB = true → l_sum (c, ()) = some ((l.length : Int), ())) := by
  have hl' : l.length ≤ 1099511627776 := by omega
  have z5 : List.replicate (5 : Int).toNat (0 : Int) = [0, 0, 0, 0, 0] := rfl
  have hz : ∀ v ∈ [(0 : Int), 0, 0, 0, 0], (0 : Int) ≤ v := by
    intro v hv
    simp at hv
    omega
  have hs0 : sumI [(0 : Int), 0, 0, 0, 0] = 0 := rfl
  have e1 := checked_loop (B := b_s_CountStatuses_5) l 5 verdictB (fun v => (v.1 : Int)) (fun s i => (l, s, (i : Int), ())) (fun s => .inl (s, ())) (.inr ([], (1 : Int), ())) (fun s => by simp only [b_s_CountStatuses_5, lt_n]) (fun s i h => by
    have hv := hd _ (List.getElem_mem h)
    have h1 := s_verdict (l[i], ()) hv
    simp only [b_s_CountStatuses_5, lt_i h, next_i h hl', idx_nat h, onSome]
    rw [h1]
    simp only [bumpK, onSome]
    cases verdictB l[i] with
    | false => rfl
    | true =>
      simp only [Bool.not_true, if_true]
      cases idx s l[i].1 <;> simp only
      cases s[l[i].1.toNat]? <;> rfl) (fun v _ hv => status_in hv) [0, 0, 0, 0, 0] rfl hz (by rw [hs0]; omega)
  have h8 : ¬ (l.length : Int) > 8192 := by omega
  unfold s_CountStatuses i_CountStatuses
  simp only [decide_eq_false h8, i_verdicts l hl' hd, z5]
  cases hv : l.all verdictB with
  | false =>
    have e1' : loopL b_s_CountStatuses_5 (l, [0, 0, 0, 0, 0], (0 : Int), ()) = _ := e1.2 hv
    rw [e1']
    exact ⟨[], 1, rfl, rfl, by simp, fun h => by cases h⟩
  | true =>
    obtain ⟨c, h0, h1, h2, h3, h4⟩ := e1.1 hv
    have e1' : loopL b_s_CountStatuses_5 (l, [0, 0, 0, 0, 0], (0 : Int), ()) = _ := h1
    have e2 := checked_loop (B := b_i_CountStatuses_7) l 5 verdictB (fun v => (v.1 : Int)) (fun s i => (s, l, (l.length : Int), (i : Int), ())) (fun s => .inl (s, ())) (.inl ([], ())) (fun s => by simp only [b_i_CountStatuses_7, lt_n]) (fun s i h => by
      simp only [b_i_CountStatuses_7, lt_i h, next_i h hl', idx_nat h, onSome, bumpK, List.all_eq_true.1 hv _ (List.getElem_mem h), if_true]
      cases idx s l[i].1 <;> simp only
      cases s[l[i].1.toNat]? <;> rfl) (fun v _ hv => status_in hv) [0, 0, 0, 0, 0] rfl hz (by rw [hs0]; omega)
    obtain ⟨c2, g0, g1, _⟩ := e2.1 hv
    rw [h0] at g0
    obtain rfl := Option.some.inj g0
    have e2' : loopL b_i_CountStatuses_7 ([0, 0, 0, 0, 0], l, (l.length : Int), (0 : Int), ()) = _ := g1
    rw [hs0] at h4
    have hsum := sum_ok c (by omega) h3 (by omega)
    rw [e1', e2']
    refine ⟨c, 0, rfl, ?_, by omega, fun _ => by rw [hsum, h4, Int.zero_add]⟩
    have h55 : (0 : Int) ≤ 5 ∧ (5 : Int) ≤ 5 := by omega
    simp only [Bool.not_true, if_pos h55]
    rw [room_ok (by decide)]

theorem drawList_loop (n : Nat) (hn : n ≤ 100) (v : TVerdict.T) (hv : (dataV v).length ≤ 2000) : ∀ (s : Tl01Source.T) (l : List TVerdict.T), Good s → l.length + n ≤ 100 → (∀ u ∈ l, (dataV u).length ≤ 2000) → ∃ (s' : Tl01Source.T) (l' : List TVerdict.T), loopL b_s_l29DrawList_4 (s, v, l, (n : Int), ()) = some (.inl (s', l', ())) ∧ Good s' ∧ l'.length ≤ 100 ∧ ∀ u ∈ l', (dataV u).length ≤ 2000 := by
  induction n with
  | zero =>
    intro s l hg hl hd
    rw [loopL_eq]
    simp only [b_s_l29DrawList_4, down_f]
    exact ⟨s, l, rfl, hg, by omega, hd⟩
  | succ n ih =>
    intro s l hg hl hd
    obtain ⟨k, s1, e1, _, g1⟩ := next_ok s 3 hg
    rw [loopL_eq]
    simp only [b_s_l29DrawList_4, down_t, good_eta hg, e1]
    cases hk : (k == (0 : Int)) with
    | true =>
      obtain ⟨y, e2, g2, hy⟩ := drawVerdict g1
      simp only [e2]
      rw [room_ok (by simp; omega)]
      simp only [down_w (show n ≤ 1000000 by omega)]
      exact ih (by omega) _ _ g2 (by simp; omega) (fun u hu => by
        rcases List.mem_append.1 hu with hu | hu
        · exact hd u hu
        · simp at hu; subst hu; exact hy)
    | false =>
      simp only
      rw [room_ok (by simp; omega)]
      simp only [down_w (show n ≤ 1000000 by omega)]
      exact ih (by omega) _ _ g1 (by simp; omega) (fun u hu => by
        rcases List.mem_append.1 hu with hu | hu
        · exact hd u hu
        · simp at hu; subst hu; exact hv)

theorem drawMergeAll (l : List Int) (hl : l.length ≤ 4096) (hb : ∀ b ∈ l, (0 : Int) ≤ b ∧ b ≤ 255) : ∃ t : List TVerdict.T, s_DrawMergeAll (l, ()) = some (t, ()) ∧ t.length ≤ 100 ∧ ∀ v ∈ t, (dataV v).length ≤ 2000 := by
  obtain ⟨s, hs, hg⟩ := from_ok l hl hb
  obtain ⟨y, e2, g2, hy⟩ := drawVerdict hg
  obtain ⟨k, s1, e3, d3, g3⟩ := next_ok y.2.1 6 g2
  obtain ⟨j, rfl, hj⟩ := drawn_nat d3 (by omega)
  obtain ⟨s2, t, e4, g4, ht, htd⟩ := drawList_loop j (by omega) y.1 hy s1 [] g3 (by simp; omega) (by simp)
  obtain ⟨k5, s5, e5, d5, g5⟩ := next_ok s2 30 g4
  unfold s_DrawMergeAll s_l29DrawList
  simp only [hs, e2, e3, e4, e5]
  cases hk : (k5 == (0 : Int)) with
  | false => exact ⟨t, rfl, ht, htd⟩
  | true =>
    obtain ⟨k6, s6, e6, d6, g6⟩ := next_ok s5 2 g5
    obtain ⟨m, rfl, hm⟩ := drawn_nat d6 (by omega)
    have hw : IntKind.i64.wrap ((32 : Int) + (m : Int)) = ((32 + m : Nat) : Int) := by rw [wrap_i64] <;> omega
    have hc : (0 : Int) ≤ ((32 + m : Nat) : Int) ∧ ((32 + m : Nat) : Int) ≤ ((32 + m : Nat) : Int) := by omega
    simp only [e6, hw, if_pos hc, Int.toNat_natCast]
    rw [room_ok (by omega)]
    refine ⟨_, rfl, by simp; omega, fun v hv => ?_⟩
    have := List.eq_of_mem_replicate hv
    subst this
    exact Nat.zero_le _
end Go.Proofs.Ytmdflpfagbcaiaa
