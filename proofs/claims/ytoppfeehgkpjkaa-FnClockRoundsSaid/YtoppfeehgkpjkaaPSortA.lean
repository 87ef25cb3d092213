/- The library's sort: insertion and heap. -/
import Derived.Test.YtoppfeehgkpjkaaPIn
import Derived.Test.YtoppfeehgkpjkaaSo
namespace Go.Proofs.Ytoppfeehgkpjkaa
open Go.RowKit
set_option linter.unusedVariables false
set_option linter.unusedSimpArgs false

theorem loop_rule {X O : Type} {B : X → Option (X ⊕ O)} (I : Nat → X → Prop) (Q : O → Prop) (h : ∀ n x, I n x → (∃ o, B x = some (.inr o) ∧ Q o) ∨ (∃ x' m, B x = some (.inl x') ∧ m < n ∧ I m x')) : ∀ n x, I n x → ∃ o, loopL B x = some o ∧ Q o := by
  intro n
  induction n using Nat.strongRecOn with
  | ind n ih =>
    intro x hx
    rcases h n x hx with ⟨o, h1, h2⟩ | ⟨x', m, h1, h2, h3⟩
    · exact ⟨o, by rw [loopL_eq, h1], h2⟩
    · obtain ⟨o, h4, h5⟩ := ih m h2 x' h3
      exact ⟨o, by rw [loopL_eq, h1]; exact h4, h5⟩
theorem both_x {R : Type} (x : Option R) : both x x = x := by
  unfold both
  exact if_pos rfl
def ltB (u v : Int) : Bool := decide (u < v)
theorem lt_t {u v : Int} (h : u < v) : ltB u v = true := decide_eq_true h
theorem lt_f {u v : Int} (h : ¬ u < v) : ltB u v = false := decide_eq_false h
theorem less_ok (x) : cmp_Less_int64 x = some (ltB x.1 x.2.1, ()) := by
  unfold cmp_Less_int64 cmp_isNaN_int64 ltB
  simp
theorem idx_nth {d : List Int} {i : Nat} (h : i < d.length) : idx d (i : Int) = some (nth d i) := by
  rw [idx_nat h, ← List.getElem?_eq_getElem h, nth_get h]
theorem w_pred {j : Nat} (h : 1 ≤ j) (h2 : j ≤ 1000000) : IntKind.i64.wrap ((j : Int) - 1) = ((j - 1 : Nat) : Int) := by rw [wrap_i64] <;> omega
theorem w_succ {j : Nat} (h2 : j ≤ 1000000) : IntKind.i64.wrap ((j : Int) + 1) = ((j + 1 : Nat) : Int) := by rw [wrap_i64] <;> omega
theorem set_idx {d : List Int} {i j : Nat} (h : j < d.length) (v : Int) : idx (d.set i v) (j : Int) = some (nth (d.set i v) j) := idx_nth (by simpa using h)
theorem set_get {d : List Int} {i j : Nat} (h : j < d.length) (v : Int) : (d.set i v)[j]? = some (nth (d.set i v) j) := nth_get (by simpa using h)

/-! ### Insertion sort -/
theorem ins4 (d : List Int) (a b i j : Nat) (hj : j < d.length) (hl : d.length ≤ 1000) : b_slices_insertionSortOrdered_int64_4 (d, (a : Int), (b : Int), (i : Int), (j : Int), ()) = if a < j ∧ nth d j < nth d (j - 1) then some (.inl (swp d j (j - 1), (a : Int), (b : Int), (i : Int), ((j - 1 : Nat) : Int), ())) else some (.inr (.inl (d, (a : Int), (b : Int), (i : Int), ()))) := by
  by_cases h : a < j
  · have h1 : decide ((j : Int) > (a : Int)) = true := by simp; omega
    have hj1 : j - 1 < d.length := by omega
    have hw := w_pred (j := j) (by omega) (by omega)
    simp only [b_slices_insertionSortOrdered_int64_4, h1, hw, idx_nth hj, idx_nth hj1, onSome, Int.toNat_natCast, nth_get hj, nth_get hj1, less_ok, set_idx hj1, set_get hj1, both_x]
    by_cases h2 : nth d j < nth d (j - 1)
    · simp only [lt_t h2, h, h2, and_self, if_true]
      rfl
    · simp only [lt_f h2, h, h2, and_false, if_false]
  · have h1 : decide ((j : Int) > (a : Int)) = false := by simp; omega
    simp only [b_slices_insertionSortOrdered_int64_4, h1, h, false_and, if_false]

theorem insInner (d : List Int) (a b i : Nat) (hi : i < b) (ha : a ≤ i) (hb : b ≤ d.length) (hl : d.length ≤ 1000) (hs : Srt a i d) :
    ∃ d', loopL b_slices_insertionSortOrdered_int64_4 (d, (a : Int), (b : Int), (i : Int), (i : Int), ()) = some (.inl (d', (a : Int), (b : Int), (i : Int), ())) ∧ Sw a b d d' ∧ Srt a (i + 1) d' := by
  obtain ⟨o, h1, h2⟩ := loop_rule (B := b_slices_insertionSortOrdered_int64_4) (fun n x => ∃ (d' : List Int) (j : Nat), x = (d', (a : Int), (b : Int), (i : Int), (j : Int), ()) ∧ n = j ∧ a ≤ j ∧ j ≤ i ∧ Sw a b d d' ∧ Srt a j d' ∧ Srt j (i + 1) d' ∧ (∀ u v, a ≤ u → u < j → j < v → v ≤ i → nth d' u ≤ nth d' v))
    (fun o => ∃ d', o = .inl (d', (a : Int), (b : Int), (i : Int), ()) ∧ Sw a b d d' ∧ Srt a (i + 1) d') (by
      rintro n x ⟨d', j, rfl, hn, haj, hji, hsw, s1, s2, s3⟩
      have hlen := hsw.len
      have hjl : j < d'.length := by omega
      rw [ins4 d' a b i j hjl (by omega)]
      by_cases hc : a < j ∧ nth d' j < nth d' (j - 1)
      · right
        rw [if_pos hc]
        have hj1 : j - 1 < d'.length := by omega
        have e := swp_nth hjl hj1
        refine ⟨_, j - 1, rfl, by omega, swp d' j (j - 1), j - 1, rfl, rfl, by omega, by omega, .step hsw (by omega) (by omega) (by omega) (by omega) hjl hj1, ?_, ?_, ?_⟩
        · intro u v hu huv hv
          rw [e, e, if_neg (by omega), if_neg (by omega), if_neg (by omega), if_neg (by omega)]
          exact s1 u v hu huv (by omega)
        · intro u v hu huv hv
          rw [e, e]
          by_cases c1 : u = j - 1
          · rw [if_pos c1]
            by_cases c2 : v = j - 1
            · rw [if_pos c2]; exact Int.le_refl _
            · rw [if_neg c2]
              by_cases c3 : v = j
              · rw [if_pos c3]; omega
              · rw [if_neg c3]; exact s2 j v (by omega) (by omega) hv
          · rw [if_neg c1, if_neg (show ¬ v = j - 1 by omega)]
            by_cases c3 : u = j
            · rw [if_pos c3]
              by_cases c4 : v = j
              · rw [if_pos c4]; exact Int.le_refl _
              · rw [if_neg c4]; exact s3 (j - 1) v (by omega) (by omega) (by omega) (by omega)
            · rw [if_neg c3, if_neg (show ¬ v = j by omega)]
              exact s2 u v (by omega) huv hv
        · intro u v hu huj hv hvi
          rw [e, e, if_neg (show ¬ u = j - 1 by omega), if_neg (show ¬ u = j by omega), if_neg (show ¬ v = j - 1 by omega)]
          by_cases c3 : v = j
          · rw [if_pos c3]; exact s1 u (j - 1) hu (by omega) (by omega)
          · rw [if_neg c3]; exact s3 u v hu (by omega) (by omega) hvi
      · left
        rw [if_neg hc]
        refine ⟨_, rfl, d', rfl, hsw, ?_⟩
        refine srt_join2 s1 s2 (fun u v hu huj hjv hvi => ?_)
        have hle : nth d' u ≤ nth d' j := by
          by_cases c : a < j
          · have h2 : nth d' (j - 1) ≤ nth d' j := by
              have := fun h => hc ⟨c, h⟩
              omega
            exact Int.le_trans (s1 u (j - 1) hu (by omega) (by omega)) h2
          · omega
        exact Int.le_trans hle (s2 j v (by omega) hjv hvi)) i (d, (a : Int), (b : Int), (i : Int), (i : Int), ()) ⟨d, i, rfl, rfl, ha, Nat.le_refl _, .refl, hs, Srt.small (by omega), fun u v h1 h2 h3 h4 => by omega⟩
  obtain ⟨d', rfl, h3, h4⟩ := h2
  exact ⟨d', h1, h3, h4⟩

theorem insSort (d : List Int) (a b : Nat) (u) (hab : a ≤ b) (hb : b ≤ d.length) (hl : d.length ≤ 1000) : ∃ d', slices_insertionSortOrdered_int64 (d, (a : Int), (b : Int), u) = some (d', ()) ∧ Sw a b d d' ∧ Srt a b d' := by
  obtain ⟨o, h1, h2⟩ := loop_rule (B := b_slices_insertionSortOrdered_int64_1) (fun n x => ∃ (d' : List Int) (i : Nat), x = (d', (a : Int), (b : Int), (i : Int), ()) ∧ n = b + 1 - i ∧ a < i ∧ (i ≤ b ∨ (i = b + 1 ∧ a = b)) ∧ Sw a b d d' ∧ (i ≤ b → Srt a i d'))
    (fun o => ∃ d', o = .inl (d', ()) ∧ Sw a b d d' ∧ Srt a b d') (by
      rintro n x ⟨d', i, rfl, hn, hai, hib, hsw, hs⟩
      have hlen := hsw.len
      by_cases hc : i < b
      · right
        obtain ⟨d2, e1, e2, e3⟩ := insInner d' a b i hc (by omega) (by omega) (by omega) (hs (by omega))
        have hlt : decide ((i : Int) < (b : Int)) = true := by simp; omega
        refine ⟨(d2, (a : Int), (b : Int), ((i + 1 : Nat) : Int), ()), b + 1 - (i + 1), ?_, by omega, d2, i + 1, rfl, rfl, by omega, by omega, hsw.trans e2, fun _ => e3⟩
        simp only [b_slices_insertionSortOrdered_int64_1, hlt, e1, w_succ (j := i) (by omega)]
      · left
        have hlt : decide ((i : Int) < (b : Int)) = false := by simp; omega
        refine ⟨_, by simp only [b_slices_insertionSortOrdered_int64_1, hlt], d', rfl, hsw, ?_⟩
        by_cases hib2 : i ≤ b
        · have : i = b := by omega
          subst this
          exact hs (Nat.le_refl _)
        · exact Srt.small (by omega)) (b + 1 - (a + 1)) (d, (a : Int), (b : Int), ((a + 1 : Nat) : Int), ()) ⟨d, a + 1, rfl, rfl, by omega, by omega, .refl, fun _ => Srt.small (by omega)⟩
  obtain ⟨d', rfl, h3, h4⟩ := h2
  refine ⟨d', ?_, h3, h4⟩
  unfold slices_insertionSortOrdered_int64
  simp only [w_succ (j := a) (by omega), h1]

/-! ### Heap sort -/
theorem sift1 (d : List Int) (hi f r : Nat) (hf : f + hi ≤ d.length) (hl : d.length ≤ 1000) (hr : r < 1000) : ∃ c, (c = 2 * r + 1 ∨ c = 2 * r + 2) ∧ (c < hi → ∀ c', (c' = 2 * r + 1 ∨ c' = 2 * r + 2) → c' < hi → nth d (f + c') ≤ nth d (f + c)) ∧ (2 * r + 1 < hi → c < hi) ∧
    (b_slices_siftDownOrdered_int64_1 (d, (hi : Int), (f : Int), (r : Int), ()) = if 2 * r + 1 < hi then (if nth d (f + r) < nth d (f + c) then some (.inl (swp d (f + r) (f + c), (hi : Int), (f : Int), (c : Int), ())) else some (.inr (.inr (d, ())))) else some (.inr (.inl (d, ())))) := by
  have w1 : IntKind.i64.wrap ((2 : Int) * (r : Int)) = ((2 * r : Nat) : Int) := by rw [wrap_i64] <;> omega
  have w2 : IntKind.i64.wrap (((2 * r : Nat) : Int) + 1) = ((2 * r + 1 : Nat) : Int) := by rw [wrap_i64] <;> omega
  have w3 : IntKind.i64.wrap (((2 * r + 1 : Nat) : Int) + 1) = ((2 * r + 2 : Nat) : Int) := by rw [wrap_i64] <;> omega
  have w4 : IntKind.i64.wrap ((f : Int) + ((2 * r + 1 : Nat) : Int)) = ((f + (2 * r + 1) : Nat) : Int) := by rw [wrap_i64] <;> omega
  have w5 : IntKind.i64.wrap (((f + (2 * r + 1) : Nat) : Int) + 1) = ((f + (2 * r + 2) : Nat) : Int) := by rw [wrap_i64] <;> omega
  have w6 : IntKind.i64.wrap ((f : Int) + ((2 * r + 2 : Nat) : Int)) = ((f + (2 * r + 2) : Nat) : Int) := by rw [wrap_i64] <;> omega
  have w7 : IntKind.i64.wrap ((f : Int) + (r : Int)) = ((f + r : Nat) : Int) := by rw [wrap_i64] <;> omega
  by_cases h1 : 2 * r + 1 < hi
  · have d1 : decide (((2 * r + 1 : Nat) : Int) ≥ (hi : Int)) = false := by simp; omega
    have l1 : f + (2 * r + 1) < d.length := by omega
    have l0 : f + r < d.length := by omega
    by_cases h2 : 2 * r + 2 < hi
    · have d2 : decide (((2 * r + 2 : Nat) : Int) < (hi : Int)) = true := by simp; omega
      have l2 : f + (2 * r + 2) < d.length := by omega
      by_cases h3 : nth d (f + (2 * r + 1)) < nth d (f + (2 * r + 2))
      · refine ⟨2 * r + 2, .inr rfl, ?_, fun _ => h2, ?_⟩
        · rintro _ c' (rfl | rfl) _
          · omega
          · exact Int.le_refl _
        · simp only [b_slices_siftDownOrdered_int64_1, w1, w2, w3, w4, w5, w6, w7, d1, d2, idx_nth l0, idx_nth l1, idx_nth l2, onSome, Int.toNat_natCast, nth_get l0, nth_get l1, nth_get l2, less_ok, set_idx l0, set_idx l2, set_get l0, set_get l2, both_x, lt_t h3, h1, if_true]
          by_cases h4 : nth d (f + r) < nth d (f + (2 * r + 2))
          · simp only [lt_t h4, Bool.not_true, h4, if_true]
            rfl
          · simp only [lt_f h4, Bool.not_false, h4, if_false]
      · refine ⟨2 * r + 1, .inl rfl, ?_, fun _ => h1, ?_⟩
        · rintro _ c' (rfl | rfl) _
          · exact Int.le_refl _
          · omega
        · simp only [b_slices_siftDownOrdered_int64_1, w1, w2, w3, w4, w5, w6, w7, d1, d2, idx_nth l0, idx_nth l1, idx_nth l2, onSome, Int.toNat_natCast, nth_get l0, nth_get l1, nth_get l2, less_ok, set_idx l0, set_idx l1, set_get l0, set_get l1, both_x, lt_f h3, h1, if_true]
          by_cases h4 : nth d (f + r) < nth d (f + (2 * r + 1))
          · simp only [lt_t h4, Bool.not_true, h4, if_true]
            rfl
          · simp only [lt_f h4, Bool.not_false, h4, if_false]
    · have d2 : decide (((2 * r + 2 : Nat) : Int) < (hi : Int)) = false := by simp; omega
      refine ⟨2 * r + 1, .inl rfl, ?_, fun _ => h1, ?_⟩
      · rintro _ c' (rfl | rfl) hc'
        · exact Int.le_refl _
        · omega
      · simp only [b_slices_siftDownOrdered_int64_1, w1, w2, w3, w4, w5, w6, w7, d1, d2, idx_nth l0, idx_nth l1, onSome, Int.toNat_natCast, nth_get l0, nth_get l1, less_ok, set_idx l0, set_idx l1, set_get l0, set_get l1, both_x, h1, if_true]
        by_cases h4 : nth d (f + r) < nth d (f + (2 * r + 1))
        · simp only [lt_t h4, Bool.not_true, h4, if_true]
          rfl
        · simp only [lt_f h4, Bool.not_false, h4, if_false]
  · have d1 : decide (((2 * r + 1 : Nat) : Int) ≥ (hi : Int)) = true := by simp; omega
    refine ⟨2 * r + 1, .inl rfl, fun h => absurd h h1, fun h => absurd h h1, ?_⟩
    simp only [b_slices_siftDownOrdered_int64_1, w1, w2, d1, h1, if_false]

theorem sift (d : List Int) (lo hi f : Nat) (hlo : lo < hi) (hf : f + hi ≤ d.length) (hl : d.length ≤ 1000) (hh : Heap f (lo + 1) hi d) : ∃ d', slices_siftDownOrdered_int64 (d, (lo : Int), (hi : Int), (f : Int), ()) = some (d', ()) ∧ Sw f (f + hi) d d' ∧ Heap f lo hi d' := by
  obtain ⟨o, h1, h2⟩ := loop_rule (B := b_slices_siftDownOrdered_int64_1) (fun n x => ∃ (d' : List Int) (r : Nat), x = (d', (hi : Int), (f : Int), (r : Int), ()) ∧ n = hi - r ∧ lo ≤ r ∧ r < hi ∧ Sw f (f + hi) d d' ∧ HeapBut f lo hi r d')
    (fun o => ∃ d', (o = .inl (d', ()) ∨ o = .inr (d', ())) ∧ Sw f (f + hi) d d' ∧ Heap f lo hi d') (by
      rintro n x ⟨d', r, rfl, hn, hr0, hr1, hsw, hb⟩
      have hlen := hsw.len
      obtain ⟨c, c1, c2, c3, c4⟩ := sift1 d' hi f r (by omega) (by omega) (by omega)
      rw [c4]
      by_cases k1 : 2 * r + 1 < hi
      · have hc := c3 k1
        rw [if_pos k1]
        by_cases k2 : nth d' (f + r) < nth d' (f + c)
        · right
          rw [if_pos k2]
          exact ⟨_, hi - c, rfl, by omega, _, c, rfl, rfl, by omega, hc, .step hsw (by omega) (by omega) (by omega) (by omega) (by omega) (by omega), hb.down hr0 c1 hc (by omega) k2 (c2 hc)⟩
        · left
          rw [if_neg k2]
          exact ⟨_, rfl, d', .inr rfl, hsw, hb.done fun c' hc' hcn => Int.le_trans (c2 hc c' hc' hcn) (by omega)⟩
      · left
        rw [if_neg k1]
        exact ⟨_, rfl, d', .inl rfl, hsw, hb.done fun c' hc' hcn => by omega⟩) (hi - lo) (d, (hi : Int), (f : Int), (lo : Int), ()) ⟨d, lo, rfl, rfl, Nat.le_refl _, hlo, .refl, hh.but⟩
  obtain ⟨d', h3, h4, h5⟩ := h2
  refine ⟨d', ?_, h4, h5⟩
  unfold slices_siftDownOrdered_int64
  rcases h3 with rfl | rfl <;> simp only [h1]
/-- Of no places. -/
theorem sift0 (d : List Int) (f : Nat) : slices_siftDownOrdered_int64 (d, (0 : Int), (0 : Int), (f : Int), ()) = some (d, ()) := by
  have e : b_slices_siftDownOrdered_int64_1 (d, (0 : Int), (f : Int), (0 : Int), ()) = some (.inr (.inl (d, ()))) := by
    unfold b_slices_siftDownOrdered_int64_1
    rw [show IntKind.i64.wrap ((2 : Int) * 0) = 0 from rfl, show IntKind.i64.wrap ((0 : Int) + 1) = 1 from rfl]
    rfl
  unfold slices_siftDownOrdered_int64
  simp only [loopL_eq, e]

theorem heapBuild (d : List Int) (f n : Nat) (hn : 1 ≤ n) (hf : f + n ≤ d.length) (hl : d.length ≤ 1000) : ∀ (k : Nat) (d0 : List Int), k ≤ n → Sw f (f + n) d d0 → Heap f k n d0 →
    ∃ d', loopL b_slices_heapSortOrdered_int64_4 (d0, (f : Int), (0 : Int), (n : Int), ((k : Int) - 1), ()) = some (.inl (d', (f : Int), (0 : Int), (n : Int), ())) ∧ Sw f (f + n) d d' ∧ Heap f 0 n d'
  | 0, d0, _, hs, hh => by
    refine ⟨d0, ?_, hs, hh⟩
    rw [loopL_eq]
    rfl
  | k + 1, d0, hk, hs, hh => by
    have hlen := hs.len
    obtain ⟨d1, e1, e2, e3⟩ := sift d0 k n f (by omega) (by omega) (by omega) hh
    obtain ⟨d', e4, e5, e6⟩ := heapBuild d f n hn hf hl k d1 (by omega) (hs.trans e2) e3
    refine ⟨d', ?_, e5, e6⟩
    have hge : decide (((k + 1 : Nat) : Int) - 1 ≥ 0) = true := by simp <;> omega
    have hk1 : ((k + 1 : Nat) : Int) - 1 = (k : Int) := by omega
    have hw : IntKind.i64.wrap ((k : Int) - 1) = (k : Int) - 1 := by rw [wrap_i64] <;> omega
    rw [loopL_eq]
    simp only [b_slices_heapSortOrdered_int64_4, hge, hk1, e1, hw]
    exact e4
theorem heapPop (d : List Int) (f n : Nat) (hf : f + n ≤ d.length) (hl : d.length ≤ 1000) : ∀ (k : Nat) (d0 : List Int), k ≤ n → Sw f (f + n) d d0 → Heap f 0 k d0 → Srt (f + k) (f + n) d0 → (∀ i j, i < k → k ≤ j → j < n → nth d0 (f + i) ≤ nth d0 (f + j)) →
    ∃ d', loopL b_slices_heapSortOrdered_int64_8 (d0, (f : Int), (0 : Int), ((k : Int) - 1), ()) = some (.inl (d', ())) ∧ Sw f (f + n) d d' ∧ Srt f (f + n) d'
  | 0, d0, _, hs, hh, hsr, _ => by
    refine ⟨d0, ?_, hs, hsr⟩
    rw [loopL_eq]
    rfl
  | k + 1, d0, hk, hs, hh, hsr, hle => by
    have hlen := hs.len
    have hge : decide (((k + 1 : Nat) : Int) - 1 ≥ 0) = true := by simp <;> omega
    have hk1 : ((k + 1 : Nat) : Int) - 1 = (k : Int) := by omega
    have hw : IntKind.i64.wrap ((k : Int) - 1) = (k : Int) - 1 := by rw [wrap_i64] <;> omega
    have hw2 : IntKind.i64.wrap ((f : Int) + (k : Int)) = ((f + k : Nat) : Int) := by rw [wrap_i64] <;> omega
    have l0 : f < d0.length := by omega
    have l1 : f + k < d0.length := by omega
    have e := swp_nth l0 l1
    have hsw : Sw f (f + n) d (swp d0 f (f + k)) := .step hs (by omega) (by omega) (by omega) (by omega) l0 l1
    have htop := hh.top
    have hsift : ∃ d1, slices_siftDownOrdered_int64 (swp d0 f (f + k), (0 : Int), (k : Int), (f : Int), ()) = some (d1, ()) ∧ Sw f (f + k) (swp d0 f (f + k)) d1 ∧ Heap f 0 k d1 := by
      by_cases hk0 : k = 0
      · subst hk0
        exact ⟨_, sift0 _ f, .refl, fun i c _ _ h => by omega⟩
      · obtain ⟨d1, e1, e2, e3⟩ := sift (swp d0 f (f + k)) 0 k f (by omega) (by rw [swp_len]; omega) (by rw [swp_len]; omega) (by
          intro i c h1 h2 h3
          rw [e, e, if_neg (by omega), if_neg (by omega), if_neg (by omega), if_neg (by omega)]
          exact hh i c (by omega) h2 (by omega))
        exact ⟨d1, e1, e2, e3⟩
    obtain ⟨d1, e1, e2, e3⟩ := hsift
    have hout : ∀ j, k ≤ j → j < n → nth d1 (f + j) = nth (swp d0 f (f + k)) (f + j) := fun j h1 h2 => e2.out (.inr (by omega))
    have hin : ∀ i, i < k → nth d1 (f + i) ≤ nth d0 f := by
      intro i hi
      refine e2.all (p := fun v => v ≤ nth d0 f) (fun m h1 h2 => ?_) (f + i) (by omega) (by omega)
      rw [e, if_neg (by omega)]
      by_cases c : m = f
      · rw [if_pos c]
        exact htop k (by omega)
      · rw [if_neg c]
        have := htop (m - f) (by omega)
        rw [show f + (m - f) = m by omega] at this
        exact this
    have hk' : nth d1 (f + k) = nth d0 f := by
      rw [hout k (Nat.le_refl _) (by omega), e, if_pos rfl]
    have hrest : ∀ j, k < j → j < n → nth d1 (f + j) = nth d0 (f + j) := by
      intro j h1 h2
      rw [hout j (by omega) h2, e, if_neg (by omega), if_neg (by omega)]
    obtain ⟨d', e4, e5, e6⟩ := heapPop d f n hf hl k d1 (by omega) (hsw.trans (e2.mono (Nat.le_refl _) (by omega))) e3 (by
      intro i j h1 h2 h3
      obtain ⟨i, rfl⟩ : ∃ i', i = f + i' := ⟨i - f, by omega⟩
      obtain ⟨j, rfl⟩ : ∃ j', j = f + j' := ⟨j - f, by omega⟩
      by_cases c1 : i = k
      · subst c1
        by_cases c2 : j = i
        · subst c2; exact Int.le_refl _
        · rw [hk', hrest j (by omega) (by omega)]
          exact hle 0 j (by omega) (by omega) (by omega)
      · rw [hrest i (by omega) (by omega), hrest j (by omega) (by omega)]
        exact hsr (f + i) (f + j) (by omega) h2 h3) (by
      intro i j h1 h2 h3
      by_cases c2 : j = k
      · subst c2
        rw [hk']
        exact hin i h1
      · rw [hrest j (by omega) h3]
        exact Int.le_trans (hin i h1) (hle 0 j (by omega) (by omega) h3))
    refine ⟨d', ?_, e5, e6⟩
    rw [loopL_eq]
    have e1' : slices_siftDownOrdered_int64 ((d0.set f (nth d0 (f + k))).set (f + k) (nth d0 f), (0 : Int), (k : Int), (f : Int), ()) = some (d1, ()) := e1
    simp only [b_slices_heapSortOrdered_int64_8, hge, hk1, hw2, idx_nth l0, idx_nth l1, onSome, Int.toNat_natCast, nth_get l0, nth_get l1, set_idx l1, set_get l1, both_x, e1', hw]
    exact e4
theorem heapSort (d : List Int) (a b : Nat) (u) (hab : a < b) (hb : b ≤ d.length) (hl : d.length ≤ 1000) : ∃ d', slices_heapSortOrdered_int64 (d, (a : Int), (b : Int), u) = some (d', ()) ∧ Sw a b d d' ∧ Srt a b d' := by
  obtain ⟨n, rfl⟩ : ∃ n, b = a + n := ⟨b - a, by omega⟩
  have hw1 : IntKind.i64.wrap (((a + n : Nat) : Int) - (a : Int)) = (n : Int) := by rw [wrap_i64] <;> omega
  have hw2 : IntKind.i64.wrap ((n : Int) - 1) = (n : Int) - 1 := by rw [wrap_i64] <;> omega
  have hd : Int.tdiv ((n : Int) - 1) 2 = (((n - 1) / 2 : Nat) : Int) := by rw [Int.tdiv_eq_ediv_of_nonneg (by omega)]; omega
  have hw3 : IntKind.i64.wrap (((n - 1) / 2 : Nat) : Int) = (((n - 1) / 2 + 1 : Nat) : Int) - 1 := by rw [wrap_i64] <;> omega
  obtain ⟨d1, e1, e2, e3⟩ := heapBuild d a n (by omega) hb hl ((n - 1) / 2 + 1) d (by omega) .refl (fun i c h1 h2 h3 => by omega)
  have hlen := e2.len
  obtain ⟨d2, e4, e5, e6⟩ := heapPop d a n hb hl n d1 (Nat.le_refl _) e2 e3 (Srt.small (by omega)) (fun i j h1 h2 h3 => by omega)
  refine ⟨d2, ?_, e5, e6⟩
  unfold slices_heapSortOrdered_int64
  simp only [hw1, hw2, hd, hw3, e1, e4]
end Go.Proofs.Ytoppfeehgkpjkaa
