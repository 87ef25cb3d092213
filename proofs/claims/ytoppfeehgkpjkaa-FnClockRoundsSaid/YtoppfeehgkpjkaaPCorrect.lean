/- Plain laws: clocks that are corrected. -/
import Derived.Test.YtoppfeehgkpjkaaPMean
import Derived.Test.YtoppfeehgkpjkaaMf
import Derived.Test.YtoppfeehgkpjkaaPClock
namespace Go.Proofs.Ytoppfeehgkpjkaa
open Go.RowKit
set_option linter.unusedVariables false
set_option linter.unusedSimpArgs false

theorem mean_kept {l : List Int} (h : 1 ≤ l.length) : meanL l = sumL (kept (leftN l.length) l) / ((kept (leftN l.length) l).length : Int) := by
  have h2 := left_two h
  unfold meanL
  rw [kept_sum (by omega), kept_len (by omega)]
theorem mean_shift {l : List Int} (h : 1 ≤ l.length) (c : Int) : meanL (l.map (· + c)) = meanL l + c := by
  have h2 := left_two h
  unfold meanL
  rw [List.length_map, isort_map l c l.length (Nat.le_refl _), esum_shift7, Nat.sub_zero, Nat.sub_zero]
  have e : (List.drop (leftN l.length) (List.take (l.length - leftN l.length) (isort l l.length))).length = l.length - 2 * leftN l.length := kept_len (l := l) (by omega)
  rw [e]
  exact Int.add_mul_ediv_right _ _ (by omega)
theorem mean_ge {l : List Int} (h : 1 ≤ l.length) {lo : Int} (hl : ∀ v ∈ kept (leftN l.length) l, lo ≤ v) : lo ≤ meanL l := by
  have h2 := left_two h
  rw [mean_kept h]
  have h3 := kept_len (l := l) (k := leftN l.length) (by omega)
  exact (Int.le_ediv_iff_mul_le (by omega)).2 (sumL_ge lo _ hl)
theorem mean_le {l : List Int} (h : 1 ≤ l.length) {hi : Int} (hl : ∀ v ∈ kept (leftN l.length) l, v ≤ hi) : meanL l ≤ hi := by
  have h2 := left_two h
  rw [mean_kept h]
  have h3 := kept_len (l := l) (k := leftN l.length) (by omega)
  exact Int.ediv_le_of_le_mul (by omega) (sumL_le hi _ hl)

/-- Clocks from 0 up to the greatest. -/
def Clk (l : List Int) : Prop := ∀ v ∈ l, 0 ≤ v ∧ v ≤ 1000000000
theorem clk_of {l : List Int} (h : l.all (fun v => inB v 0 1000000000) = true) : Clk l := fun v hv => in_iff.1 (List.all_eq_true.1 h v hv)
theorem clk_all {l : List Int} (h : Clk l) : l.all (fun v => inB v 0 1000000000) = true := List.all_eq_true.2 fun v hv => in_iff.2 (h v hv)
theorem Clk.at' {l : List Int} (h : Clk l) {i : Nat} (hi : i < l.length) : 0 ≤ nth l i ∧ nth l i ≤ 1000000000 := h _ (List.mem_of_getElem? (nth_get hi))
theorem clk_mean {l : List Int} (h : Clk l) (h1 : 1 ≤ l.length) : 0 ≤ meanL l ∧ meanL l ≤ 1000000000 := ⟨mean_ge h1 fun v hv => (h v (kept_mem hv)).1, mean_le h1 fun v hv => (h v (kept_mem hv)).2⟩
/-- A clock that is corrected by what its node has read is their mean. -/
theorem mean_dev {l : List Int} (h1 : 1 ≤ l.length) (c : Int) : c + meanL (l.map (fun v => v - c)) = meanL l := by
  have e : (fun v : Int => v - c) = (fun v => v + -c) := by funext v; omega
  rw [e, mean_shift h1]
  omega
theorem dev_small {l : List Int} (h : Clk l) {c : Int} (h0 : 0 ≤ c) (h1 : c ≤ 1000000000) : Small (l.map (fun v => v - c)) := by
  intro v hv
  obtain ⟨u, hu, rfl⟩ := List.mem_map.1 hv
  have := h u hu
  omega
theorem i_corr (c : Int) (l : List Int) (h : Clk l) (h1 : 1 ≤ l.length) (h32 : l.length ≤ 32) (c0 : 0 ≤ c) (c1 : c ≤ 1000000000) : i_corrected (c, l, ()) = some (meanL l, ()) := by
  have e := push_ok (B := b_i_corrected_3) l (by omega) (fun s i => (c, s, l, (l.length : Int), (i : Int), ())) (fun _ v => [v - c]) (by simp) (fun s => .inl (c, s, ())) (fun s => by simp only [b_i_corrected_3, lt_n]) (fun s i hi hs => by
    have hv := h.at' hi
    have e1 : l[i] = nth l i := by
      have := nth_get hi
      rw [List.getElem?_eq_getElem hi] at this
      exact Option.some.inj this
    have hw : IntKind.i64.wrap (l[i] - c) = l[i] - c := by rw [e1, wrap_i64] <;> omega
    simp only [b_i_corrected_3, lt_i hi, next_i hi (show l.length ≤ 1099511627776 by omega), idx_nat hi, onSome, hw]
    rw [room_ok (by simp; omega)])
  have e' : loopL b_i_corrected_3 (c, [], l, (l.length : Int), (0 : Int), ()) = _ := e
  rw [pushes_map] at e'
  have hm := i_mean (l.map (fun v => v - c)) (by simpa using h1) (by simpa using h32) (dev_small h c0 c1)
  have hd := mean_dev h1 c
  have hb := clk_mean h h1
  have hw : IntKind.i64.wrap (c + meanL (l.map (fun v => v - c))) = meanL l := by rw [hd, wrap_i64] <;> omega
  unfold i_corrected
  simp only [e', hm, hw]
/-- The clocks after a correction. -/
def corrL (l : List Int) : List Int := l.map (fun _ => meanL l)
theorem i_corr_all (l : List Int) (h : Clk l) (h1 : 1 ≤ l.length) (h32 : l.length ≤ 32) : i_correct (l, ()) = some (corrL l, ()) := by
  have e := push_ok (B := b_i_correct_3) l (by omega) (fun s i => (l, s, l, (l.length : Int), (i : Int), ())) (fun _ v => [meanL l]) (by simp) (fun s => .inl (s, ())) (fun s => by simp only [b_i_correct_3, lt_n]) (fun s i hi hs => by
    have hv := h l[i] (List.getElem_mem hi)
    have hc := i_corr l[i] l h h1 h32 hv.1 hv.2
    simp only [b_i_correct_3, lt_i hi, next_i hi (show l.length ≤ 1099511627776 by omega), idx_nat hi, onSome, hc]
    rw [room_ok (by simp; omega)])
  have e' : loopL b_i_correct_3 (l, [], l, (l.length : Int), (0 : Int), ()) = _ := e
  unfold i_correct
  simp only [e', pushes_map]
  rfl

/-- What a node reads: one clock may be shown as another. -/
def readL (l : List Int) (f s : Int) : List Int := if 0 ≤ f then l.set f.toNat s else l
theorem read_len (l : List Int) (f s : Int) : (readL l f s).length = l.length := by
  unfold readL; split <;> simp
theorem read_nth (l : List Int) (f s : Int) {j : Nat} (hj : j < l.length) : nth (readL l f s) j = if (j : Int) == f then s else nth l j := by
  unfold readL
  by_cases hf : 0 ≤ f
  · rw [if_pos hf]
    have h1 := nth_get (d := l.set f.toNat s) (i := j) (by simpa using hj)
    rw [List.getElem?_set] at h1
    by_cases c : (j : Int) = f
    · have e : f.toNat = j := by omega
      rw [if_pos e, e, if_pos hj] at h1
      have hb : ((j : Int) == f) = true := by simp [c]
      rw [hb, if_pos rfl, e]
      exact (Option.some.inj h1).symm
    · have e : ¬ f.toNat = j := by omega
      rw [if_neg e, nth_get hj] at h1
      have hb : ((j : Int) == f) = false := by simp [c]
      rw [hb]
      exact (Option.some.inj h1).symm
  · rw [if_neg hf]
    have hb : ((j : Int) == f) = false := by simp; omega
    rw [hb]
    rfl
theorem read_clk {l : List Int} {f s : Int} (h : Clk l) (h0 : 0 ≤ s) (h1 : s ≤ 1000000000) : Clk (readL l f s) := by
  intro v hv
  unfold readL at hv
  split at hv
  · rcases List.mem_or_eq_of_mem_set hv with hv | rfl
    · exact h v hv
    · exact ⟨h0, h1⟩
  · exact h v hv
/-- What all nodes come to. -/
def aroundL (l : List Int) (f : Int) (shown : List Int) : List Int := pushes (fun i _ => [meanL (readL l f (nth shown i))]) 0 l
theorem s_read (l : List Int) (f : Int) (shown out : List Int) (i : Nat) (hi : i < l.length) (h : Clk l) (h32 : l.length ≤ 32) (hf : f = -1 ∨ (shown.length = l.length ∧ Clk shown)) :
    loopL b_s_l30Correct_7 (l, f, shown, out, (i : Int), [], (0 : Int), ()) = some (.inl (l, f, shown, out, (i : Int), (readL l f (nth shown i)).map (fun v => v - nth l i), ())) := by
  have e := push_ok (B := b_s_l30Correct_7) l (by omega) (fun s j => (l, f, shown, out, (i : Int), s, (j : Int), ())) (fun j v => [(if (j : Int) == f then nth shown i else v) - nth l i]) (by simp) (fun s => .inl (l, f, shown, out, (i : Int), s, ())) (fun s => by simp only [b_s_l30Correct_7, lt_n]) (fun s j hj hs => by
    have hv := h.at' hi
    have hu := h l[j] (List.getElem_mem hj)
    simp only [b_s_l30Correct_7, lt_i hj, next_i hj (show l.length ≤ 1099511627776 by omega), idx_nat hj, idx_nth hi, onSome]
    rcases Bool.eq_false_or_eq_true ((j : Int) == f) with c | c
    · have hc : (j : Int) = f := by simpa using c
      rcases hf with hf | ⟨hf1, hf2⟩
      · omega
      · have his : i < shown.length := by omega
        have hs' := hf2.at' his
        have hw : IntKind.i64.wrap (nth shown i - nth l i) = nth shown i - nth l i := by rw [wrap_i64] <;> omega
        simp only [c, idx_nth his, if_true, hw]
        rw [room_ok (by simp; omega)]
    · have hw : IntKind.i64.wrap (l[j] - nth l i) = l[j] - nth l i := by rw [wrap_i64] <;> omega
      simp only [c, hw]
      rw [room_ok (by simp; omega)]
      simp)
  have e' : loopL b_s_l30Correct_7 (l, f, shown, out, (i : Int), [], (0 : Int), ()) = _ := e
  have key : pushes (fun j v => [(if ((j : Nat) : Int) == f then nth shown i else v) - nth l i]) 0 l = (readL l f (nth shown i)).map (fun v => v - nth l i) := by
    apply List.ext_getElem?
    intro j
    by_cases hj : j < l.length
    · rw [pushes_get _ _ _ _ hj, List.getElem?_map, nth_get (by rw [read_len]; exact hj), read_nth l f _ hj, Nat.zero_add]
      have e1 : l[j] = nth l j := by
        have := nth_get hj
        rw [List.getElem?_eq_getElem hj] at this
        exact Option.some.inj this
      rw [e1]
      rfl
    · rw [List.getElem?_eq_none (by rw [pushes_len1]; omega), List.getElem?_eq_none (by rw [List.length_map, read_len]; omega)]
  rw [e', key]
theorem s_corr (l : List Int) (f : Int) (shown : List Int) (h : Clk l) (h1 : 1 ≤ l.length) (h32 : l.length ≤ 32) (hf : f = -1 ∨ (shown.length = l.length ∧ Clk shown)) : s_l30Correct (l, f, shown, ()) = some (aroundL l f shown, ()) := by
  have hclk : ∀ i, i < l.length → Clk (readL l f (nth shown i)) := by
    intro i hi
    rcases hf with rfl | ⟨hf1, hf2⟩
    · exact h
    · have := hf2.at' (i := i) (by omega)
      exact read_clk h this.1 this.2
  have e := push_ok (B := b_s_l30Correct_3) l (by omega) (fun s i => (l, f, shown, s, (i : Int), ())) (fun i _ => [meanL (readL l f (nth shown i))]) (by simp) (fun s => .inl (s, ())) (fun s => by simp only [b_s_l30Correct_3, lt_n]) (fun s i hi hs => by
    have hr := s_read l f shown s i hi h h32 hf
    have hv := h.at' hi
    have hc := hclk i hi
    have hlen := read_len l f (nth shown i)
    have hm := s_mean ((readL l f (nth shown i)).map (fun v => v - nth l i)) (by simp; omega) (by simp; omega) (dev_small hc hv.1 hv.2)
    have hd := mean_dev (l := readL l f (nth shown i)) (by omega) (nth l i)
    have hb := clk_mean hc (by omega)
    have hw : IntKind.i64.wrap (nth l i + meanL ((readL l f (nth shown i)).map (fun v => v - nth l i))) = meanL (readL l f (nth shown i)) := by rw [hd, wrap_i64] <;> omega
    simp only [b_s_l30Correct_3, lt_i hi, next_i hi (show l.length ≤ 1099511627776 by omega), idx_nth hi, onSome, hr, hm, hw]
    rw [room_ok (by simp; omega)])
  have e' : loopL b_s_l30Correct_3 (l, f, shown, [], (0 : Int), ()) = _ := e
  unfold s_l30Correct
  simp only [e']
  rfl
theorem around_none (l shown : List Int) : aroundL l (-1) shown = corrL l := by
  unfold aroundL corrL
  rw [← pushes_map (fun _ => meanL l) 0 l]
  rfl
theorem corr_len (l : List Int) : (corrL l).length = l.length := by simp [corrL]
theorem around_len (l : List Int) (f : Int) (shown : List Int) : (aroundL l f shown).length = l.length := pushes_len1 _ _ _

/-- What CorrectClocks answers. -/
def ccR (l : List Int) : List Int × Int × Unit := if clocksB l then (corrL l, (0 : Int), ()) else ([], (1 : Int), ())
theorem clocks_of {l : List Int} (h : clocksB l = true) : Clk l ∧ 1 ≤ l.length ∧ l.length ≤ 32 := by
  unfold clocksB at h
  simp only [Bool.and_eq_true] at h
  have := in_iff.1 h.1
  exact ⟨clk_of h.2, by omega, by omega⟩
theorem i_cc (l : List Int) (hl : l.length ≤ 1099511627776) : i_CorrectClocks (l, ()) = some (ccR l) := by
  have hc : i_areClocks (l, ()) = some (clocksB l, ()) := i_clocks (l, ()) hl
  unfold i_CorrectClocks ccR
  simp only [hc]
  cases h : clocksB l with
  | false => rfl
  | true =>
    obtain ⟨h1, h2, h3⟩ := clocks_of h
    simp only [Bool.not_true, i_corr_all l h1 h2 h3, if_true]
theorem s_cc (l : List Int) (hl : l.length ≤ 1099511627776) : s_CorrectClocks (l, ()) = some (ccR l) := by
  have hc : s_l30Clocks (l, ()) = some (clocksB l, ()) := s_clocks (l, ()) hl
  unfold s_CorrectClocks ccR
  simp only [hc]
  cases h : clocksB l with
  | false => rfl
  | true =>
    obtain ⟨h1, h2, h3⟩ := clocks_of h
    simp only [Bool.not_true, s_corr l (-1) [] h1 h2 h3 (.inl rfl), around_none, if_true]

/-- What CorrectAround answers. -/
def caR (l : List Int) (f : Int) (shown : List Int) : List Int × Int × Unit := if clocksB l then (if inB f 0 ((l.length : Int) - 1) then (if (shown.length : Int) != (l.length : Int) then ([], (3 : Int), ()) else if shown.all (fun v => inB v 0 1000000000) then (aroundL l f shown, (0 : Int), ()) else ([], (3 : Int), ())) else ([], (4 : Int), ())) else ([], (1 : Int), ())
theorem i_around (l : List Int) (f : Int) (shown : List Int) (h : Clk l) (h1 : 1 ≤ l.length) (h32 : l.length ≤ 32) (hf0 : 0 ≤ f) (hf1 : f < (l.length : Int)) (hs : shown.length = l.length) (hs2 : Clk shown) :
    loopL b_i_CorrectAround_9 (l, f, shown, [], l, (l.length : Int), (0 : Int), ()) = some (.inl (aroundL l f shown, ())) := by
  obtain ⟨k, rfl⟩ : ∃ k : Nat, f = k := ⟨f.toNat, by omega⟩
  have hk : k < l.length := by omega
  have hcl := clone_ok l (by omega)
  have e := push_ok (B := b_i_CorrectAround_9) l (by omega) (fun s i => (l, (k : Int), shown, s, l, (l.length : Int), (i : Int), ())) (fun i _ => [meanL (readL l (k : Int) (nth shown i))]) (by simp) (fun s => .inl (s, ())) (fun s => by simp only [b_i_CorrectAround_9, lt_n]) (fun s i hi hsl => by
    have his : i < shown.length := by omega
    have hv := h l[i] (List.getElem_mem hi)
    have hu := hs2.at' his
    have er : readL l (k : Int) (nth shown i) = l.set k (nth shown i) := by
      unfold readL
      rw [if_pos (by omega), Int.toNat_natCast]
    have hc := read_clk (f := (k : Int)) h hu.1 hu.2
    have hlen := read_len l (k : Int) (nth shown i)
    rw [er] at hc hlen
    have hcc := i_corr l[i] (l.set k (nth shown i)) hc (by omega) (by omega) hv.1 hv.2
    simp only [b_i_CorrectAround_9, lt_i hi, next_i hi (show l.length ≤ 1099511627776 by omega), idx_nat hi, onSome, hcl, idx_nth his, idx_nth hk, Int.toNat_natCast, nth_get hk, hcc, er]
    rw [room_ok (by simp; omega)])
  exact e
theorem i_ca (l : List Int) (f : Int) (shown : List Int) (hl : l.length ≤ 1099511627776) (hs : shown.length ≤ 1099511627776) : i_CorrectAround (l, f, shown, ()) = some (caR l f shown) := by
  have hc : i_areClocks (l, ()) = some (clocksB l, ()) := i_clocks (l, ()) hl
  have ha : i_allWithin (shown, (0 : Int), (1000000000 : Int), ()) = some (shown.all (fun v => inB v 0 1000000000), ()) := i_all (shown, 0, 1000000000, ()) hs
  unfold i_CorrectAround caR
  simp only [hc, ha, i_in]
  cases h : clocksB l with
  | false => rfl
  | true =>
    obtain ⟨h1, h2, h3⟩ := clocks_of h
    have hw : IntKind.i64.wrap ((l.length : Int) - 1) = (l.length : Int) - 1 := by rw [wrap_i64] <;> omega
    simp only [Bool.not_true, hw, if_true]
    cases hf : inB f 0 ((l.length : Int) - 1) with
    | false => rfl
    | true =>
      have hfi := in_iff.1 hf
      simp only [Bool.not_true, if_true]
      cases hn : ((shown.length : Int) != (l.length : Int)) with
      | true => rfl
      | false =>
        have hne : shown.length = l.length := by
          have : (shown.length : Int) = l.length := by simpa using hn
          omega
        cases hall : shown.all (fun v => inB v 0 1000000000) with
        | false => rfl
        | true => simp only [Bool.not_true, i_around l f shown h1 h2 h3 hfi.1 (by omega) hne (clk_of hall), if_true]; rfl
theorem s_ca (l : List Int) (f : Int) (shown : List Int) (hl : l.length ≤ 1099511627776) (hs : shown.length ≤ 1099511627776) : s_CorrectAround (l, f, shown, ()) = some (caR l f shown) := by
  have hc : s_l30Clocks (l, ()) = some (clocksB l, ()) := s_clocks (l, ()) hl
  have ha : s_l30All (shown, ()) = some (shown.all (fun v => inB v 0 1000000000), ()) := s_all (shown, ()) hs
  unfold s_CorrectAround caR
  simp only [hc, ha, s_in]
  cases h : clocksB l with
  | false => rfl
  | true =>
    obtain ⟨h1, h2, h3⟩ := clocks_of h
    have hw : IntKind.i64.wrap ((l.length : Int) - 1) = (l.length : Int) - 1 := by rw [wrap_i64] <;> omega
    simp only [Bool.not_true, hw, if_true]
    cases hf : inB f 0 ((l.length : Int) - 1) with
    | false => rfl
    | true =>
      have hfi := in_iff.1 hf
      simp only [Bool.not_true, if_true]
      cases hn : ((shown.length : Int) != (l.length : Int)) with
      | true => rfl
      | false =>
        have hne : shown.length = l.length := by
          have : (shown.length : Int) = l.length := by simpa using hn
          omega
        cases hall : shown.all (fun v => inB v 0 1000000000) with
        | false => rfl
        | true => simp only [Bool.not_true, s_corr l f shown h1 h2 h3 (.inr ⟨hne, clk_of hall⟩), if_true]; rfl
end Go.Proofs.Ytoppfeehgkpjkaa
