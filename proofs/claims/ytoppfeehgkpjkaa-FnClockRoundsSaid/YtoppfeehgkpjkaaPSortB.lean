/- The library's sort: partitions, pivots. -/
import Derived.Test.YtoppfeehgkpjkaaPSortA
import Derived.Test.YtoppfeehgkpjkaaPBits
namespace Go.Proofs.Ytoppfeehgkpjkaa
open Go.RowKit
set_option linter.unusedVariables false
set_option linter.unusedSimpArgs false

theorem scan_up {X O : Type} {B : X → Option (X ⊕ (X ⊕ O))} (e : Nat → X) (j : Nat) (p : Nat → Prop) [DecidablePred p] (hB : ∀ i, i ≤ j + 1 → B (e i) = if i ≤ j ∧ p i then some (.inl (e (i + 1))) else some (.inr (.inl (e i)))) : ∀ (n i : Nat), i + n = j + 1 → ∃ i', loopL B (e i) = some (.inl (e i')) ∧ i ≤ i' ∧ i' ≤ j + 1 ∧ (∀ k, i ≤ k → k < i' → p k) ∧ (i' ≤ j → ¬ p i')
  | 0, i, h => ⟨i, by rw [loopL_eq, hB i (by omega), if_neg (by omega)], Nat.le_refl _, by omega, fun k h1 h2 => by omega, fun h1 => by omega⟩
  | n + 1, i, h => by
    by_cases hc : i ≤ j ∧ p i
    · obtain ⟨i', h1, h2, h3, h4, h5⟩ := scan_up e j p hB n (i + 1) (by omega)
      refine ⟨i', by rw [loopL_eq, hB i (by omega), if_pos hc]; exact h1, by omega, h3, fun k h6 h7 => ?_, h5⟩
      by_cases e : k = i
      · subst e; exact hc.2
      · exact h4 k (by omega) h7
    · exact ⟨i, by rw [loopL_eq, hB i (by omega), if_neg hc], Nat.le_refl _, by omega, fun k h1 h2 => by omega, fun h1 h2 => hc ⟨h1, h2⟩⟩
theorem scan_down {X O : Type} {B : X → Option (X ⊕ (X ⊕ O))} (e : Nat → X) (i j0 : Nat) (hi : 1 ≤ i) (p : Nat → Prop) [DecidablePred p] (hB : ∀ j, j ≤ j0 → B (e j) = if i ≤ j ∧ p j then some (.inl (e (j - 1))) else some (.inr (.inl (e j)))) : ∀ (n j : Nat), j + 1 = i + n → j ≤ j0 → ∃ j', loopL B (e j) = some (.inl (e j')) ∧ j' ≤ j ∧ i ≤ j' + 1 ∧ (∀ k, j' < k → k ≤ j → p k) ∧ (i ≤ j' → ¬ p j')
  | 0, j, h, h0 => ⟨j, by rw [loopL_eq, hB j h0, if_neg (by omega)], Nat.le_refl _, by omega, fun k h1 h2 => by omega, fun h1 => by omega⟩
  | n + 1, j, h, h0 => by
    by_cases hc : i ≤ j ∧ p j
    · obtain ⟨j', h1, h2, h3, h4, h5⟩ := scan_down e i j0 hi p hB n (j - 1) (by omega) (by omega)
      refine ⟨j', by rw [loopL_eq, hB j h0, if_pos hc]; exact h1, by omega, h3, fun k h6 h7 => ?_, h5⟩
      by_cases e : k = j
      · subst e; exact hc.2
      · exact h4 k h6 (by omega)
    · exact ⟨j, by rw [loopL_eq, hB j h0, if_neg hc], Nat.le_refl _, by omega, fun k h1 h2 => by omega, fun h1 h2 => hc ⟨h1, h2⟩⟩

/-! ### partitionOrdered -/
abbrev St4 := Ty.T (.pair (.own 2 (.int .i64)) (.pair (.int .i64) (.pair (.int .i64) (.pair (.int .i64) .unit))))
def st4 (d : List Int) (a i j : Nat) : St4 := (d, (a : Int), (i : Int), (j : Int), ())
theorem prt3 (d : List Int) (a j i : Nat) (ha : a < d.length) (hj : j < d.length) (hl : d.length ≤ 1000) (hi : i ≤ j + 1) : b_slices_partitionOrdered_int64_3 (st4 d a i j) = if i ≤ j ∧ nth d i < nth d a then some (.inl (st4 d a (i + 1) j)) else some (.inr (.inl (st4 d a i j))) := by
  show b_slices_partitionOrdered_int64_3 (d, (a : Int), (i : Int), (j : Int), ()) = _
  by_cases h : i ≤ j
  · have h1 : decide ((i : Int) ≤ (j : Int)) = true := by simp; omega
    have hil : i < d.length := by omega
    simp only [b_slices_partitionOrdered_int64_3, st4, h1, idx_nth hil, idx_nth ha, onSome, Int.toNat_natCast, nth_get hil, nth_get ha, less_ok, w_succ (j := i) (by omega)]
    by_cases h2 : nth d i < nth d a
    · simp only [lt_t h2, h, h2, and_self, if_true]
    · simp only [lt_f h2, h, h2, and_false, if_false]
  · have h1 : decide ((i : Int) ≤ (j : Int)) = false := by simp; omega
    simp only [b_slices_partitionOrdered_int64_3, st4, h1, h, false_and, if_false]
theorem prt5 (d : List Int) (a i j : Nat) (ha : a < d.length) (hj : j < d.length) (hl : d.length ≤ 1000) (hi : 1 ≤ i) : b_slices_partitionOrdered_int64_5 (st4 d a i j) = if i ≤ j ∧ ¬ nth d j < nth d a then some (.inl (st4 d a i (j - 1))) else some (.inr (.inl (st4 d a i j))) := by
  show b_slices_partitionOrdered_int64_5 (d, (a : Int), (i : Int), (j : Int), ()) = _
  by_cases h : i ≤ j
  · have h1 : decide ((i : Int) ≤ (j : Int)) = true := by simp; omega
    simp only [b_slices_partitionOrdered_int64_5, st4, h1, idx_nth hj, idx_nth ha, onSome, Int.toNat_natCast, nth_get hj, nth_get ha, less_ok, w_pred (j := j) (by omega) (by omega)]
    by_cases h2 : nth d j < nth d a
    · simp only [lt_t h2, h, h2, Bool.not_true, not_true, and_false, if_false]
    · simp only [lt_f h2, h, h2, Bool.not_false, not_false_eq_true, and_self, if_true]
  · have h1 : decide ((i : Int) ≤ (j : Int)) = false := by simp; omega
    simp only [b_slices_partitionOrdered_int64_5, st4, h1, h, false_and, if_false]
theorem prt13 : b_slices_partitionOrdered_int64_13 = b_slices_partitionOrdered_int64_3 := rfl
theorem prt15 : b_slices_partitionOrdered_int64_15 = b_slices_partitionOrdered_int64_5 := rfl
/-- Both scans. -/
theorem prt_scan (d : List Int) (a i j : Nat) (ha : a < d.length) (hj : j < d.length) (hl : d.length ≤ 1000) (hi : 1 ≤ i) (hij : i ≤ j + 1) : ∃ (i' j' : Nat), loopL b_slices_partitionOrdered_int64_3 (st4 d a i j) = some (.inl (st4 d a i' j)) ∧ loopL b_slices_partitionOrdered_int64_5 (st4 d a i' j) = some (.inl (st4 d a i' j')) ∧
    i ≤ i' ∧ j' ≤ j ∧ i' ≤ j' + 1 ∧ (∀ k, i ≤ k → k < i' → nth d k < nth d a) ∧ (∀ k, j' < k → k ≤ j → ¬ nth d k < nth d a) ∧ (i' ≤ j' → ¬ nth d i' < nth d a ∧ nth d j' < nth d a) := by
  obtain ⟨i', h1, h2, h3, h4, h5⟩ := scan_up (B := b_slices_partitionOrdered_int64_3) (fun i => st4 d a i j) j (fun i => nth d i < nth d a) (fun i h => prt3 d a j i ha hj hl h) (j + 1 - i) i (by omega)
  obtain ⟨j', g1, g2, g3, g4, g5⟩ := scan_down (B := b_slices_partitionOrdered_int64_5) (fun j => st4 d a i' j) i' j (by omega) (fun j => ¬ nth d j < nth d a) (fun j h => prt5 d a i' j ha (by omega) hl (by omega)) (j + 1 - i') j (by omega) (Nat.le_refl _)
  refine ⟨i', j', h1, g1, h2, g2, g3, h4, g4, fun h => ⟨?_, ?_⟩⟩
  · exact h5 (by omega)
  · exact Classical.not_not.1 (g5 h)

theorem prt1013 (d : List Int) (a i j : Nat) (ha : a < d.length) (hj : j < d.length) (hl : d.length ≤ 1000) (hi : 1 ≤ i) (hij : i ≤ j + 1) : ∃ (i' j' : Nat), i ≤ i' ∧ j' ≤ j ∧ i' ≤ j' + 1 ∧ (∀ k, i ≤ k → k < i' → nth d k < nth d a) ∧ (∀ k, j' < k → k ≤ j → ¬ nth d k < nth d a) ∧ (i' ≤ j' → ¬ nth d i' < nth d a ∧ nth d j' < nth d a) ∧
    b_slices_partitionOrdered_int64_1013 (st4 d a i j) = if i' ≤ j' then some (.inl (st4 (swp d i' j') a (i' + 1) (j' - 1))) else some (.inr (.inl (d, (a : Int), (j' : Int), ()))) := by
  obtain ⟨i', j', h1, h2, h3, h4, h5, h6, h7, h8⟩ := prt_scan d a i j ha hj hl hi hij
  refine ⟨i', j', h3, h4, h5, h6, h7, h8, ?_⟩
  have h1' : loopL b_slices_partitionOrdered_int64_13 (d, (a : Int), (i : Int), (j : Int), ()) = some (.inl (d, (a : Int), (i' : Int), (j : Int), ())) := h1
  have h2' : loopL b_slices_partitionOrdered_int64_15 (d, (a : Int), (i' : Int), (j : Int), ()) = some (.inl (d, (a : Int), (i' : Int), (j' : Int), ())) := h2
  show b_slices_partitionOrdered_int64_1013 (d, (a : Int), (i : Int), (j : Int), ()) = _
  by_cases c : i' ≤ j'
  · have hd : decide ((i' : Int) > (j' : Int)) = false := by simp; omega
    have l1 : i' < d.length := by omega
    have l2 : j' < d.length := by omega
    simp only [b_slices_partitionOrdered_int64_1013, st4, h1', h2', hd, idx_nth l1, idx_nth l2, onSome, Int.toNat_natCast, nth_get l1, nth_get l2, set_idx l2, set_get l2, both_x, w_succ (j := i') (by omega), w_pred (j := j') (by omega) (by omega), c, if_true]
    rfl
  · have hd : decide ((i' : Int) > (j' : Int)) = true := by simp; omega
    simp only [b_slices_partitionOrdered_int64_1013, st4, h1', h2', hd, c, if_false]

theorem prt_loop (d : List Int) (a b i j : Nat) (hb : b ≤ d.length) (hl : d.length ≤ 1000) (hai : a + 1 ≤ i) (hij : i ≤ j + 1) (hjb : j < b) (hlo : ∀ k, a < k → k < i → nth d k < nth d a) (hhi : ∀ k, j < k → k < b → ¬ nth d k < nth d a) :
    ∃ (d' : List Int) (j' : Nat), loopL b_slices_partitionOrdered_int64_1013 (st4 d a i j) = some (.inl (d', (a : Int), (j' : Int), ())) ∧ Sw (a + 1) b d d' ∧ a ≤ j' ∧ j' < b ∧ (∀ k, a < k → k ≤ j' → nth d' k < nth d' a) ∧ (∀ k, j' < k → k < b → ¬ nth d' k < nth d' a) := by
  obtain ⟨o, h1, h2⟩ := loop_rule (B := b_slices_partitionOrdered_int64_1013) (fun n x => ∃ (d' : List Int) (i j : Nat), x = st4 d' a i j ∧ n = j + 1 - i ∧ a + 1 ≤ i ∧ i ≤ j + 1 ∧ j < b ∧ Sw (a + 1) b d d' ∧ (∀ k, a < k → k < i → nth d' k < nth d' a) ∧ (∀ k, j < k → k < b → ¬ nth d' k < nth d' a))
    (fun o => ∃ (d' : List Int) (j' : Nat), o = .inl (d', (a : Int), (j' : Int), ()) ∧ Sw (a + 1) b d d' ∧ a ≤ j' ∧ j' < b ∧ (∀ k, a < k → k ≤ j' → nth d' k < nth d' a) ∧ (∀ k, j' < k → k < b → ¬ nth d' k < nth d' a)) (by
      rintro n x ⟨d', i, j, rfl, hn, k1, k2, k3, hsw, k4, k5⟩
      have hlen := hsw.len
      obtain ⟨i', j', g1, g2, g3, g4, g5, g6, g7⟩ := prt1013 d' a i j (by omega) (by omega) (by omega) (by omega) k2
      rw [g7]
      by_cases c : i' ≤ j'
      · right
        rw [if_pos c]
        obtain ⟨g8, g9⟩ := g6 c
        have hne : i' ≠ j' := fun e => by subst e; exact g8 g9
        have l1 : i' < d'.length := by omega
        have l2 : j' < d'.length := by omega
        have e := swp_nth l1 l2
        refine ⟨_, j' - 1 + 1 - (i' + 1), rfl, by omega, swp d' i' j', i' + 1, j' - 1, rfl, rfl, by omega, by omega, by omega, .step hsw (by omega) (by omega) (by omega) (by omega) l1 l2, ?_, ?_⟩
        · intro k h1 h2
          rw [e, e, if_neg (show ¬ k = j' by omega), if_neg (show ¬ a = j' by omega), if_neg (show ¬ a = i' by omega)]
          by_cases c1 : k = i'
          · rw [if_pos c1]; exact g9
          · rw [if_neg c1]
            by_cases c2 : k < i
            · exact k4 k h1 c2
            · exact g4 k (by omega) (by omega)
        · intro k h1 h2
          rw [e, e, if_neg (show ¬ a = j' by omega), if_neg (show ¬ a = i' by omega)]
          by_cases c1 : k = j'
          · rw [if_pos c1]; exact g8
          · rw [if_neg c1, if_neg (show ¬ k = i' by omega)]
            by_cases c2 : k ≤ j
            · exact g5 k (by omega) c2
            · exact k5 k (by omega) h2
      · left
        rw [if_neg c]
        refine ⟨_, rfl, d', j', rfl, hsw, by omega, by omega, fun k h1 h2 => ?_, fun k h1 h2 => ?_⟩
        · by_cases c2 : k < i
          · exact k4 k h1 c2
          · exact g4 k (by omega) (by omega)
        · by_cases c2 : k ≤ j
          · exact g5 k h1 c2
          · exact k5 k (by omega) h2) (j + 1 - i) (st4 d a i j) ⟨d, i, j, rfl, rfl, hai, hij, hjb, .refl, hlo, hhi⟩
  obtain ⟨d', j', rfl, h3, h4, h5, h6, h7⟩ := h2
  exact ⟨d', j', h1, h3, h4, h5, h6, h7⟩

/-- Behind the last swap. -/
theorem prt_end (d d' : List Int) (a b j : Nat) (hb : b ≤ d.length) (hsw : Sw (a + 1) b d d') (haj : a ≤ j) (hjb : j < b) (h1 : ∀ k, a < k → k ≤ j → nth d' k < nth d' a) (h2 : ∀ k, j < k → k < b → ¬ nth d' k < nth d' a) :
    Sw a b d (swp d' j a) ∧ (∀ k, a ≤ k → k < j → nth (swp d' j a) k ≤ nth (swp d' j a) j) ∧ (∀ k, j + 1 ≤ k → k < b → nth (swp d' j a) j ≤ nth (swp d' j a) k) := by
  have hlen := hsw.len
  have l1 : j < d'.length := by omega
  have l2 : a < d'.length := by omega
  have e := swp_nth l1 l2
  have ej : nth (swp d' j a) j = nth d' a := by
    rw [e]
    by_cases c : j = a
    · subst c; simp
    · rw [if_neg c, if_pos rfl]
  refine ⟨.step (hsw.mono (by omega) (Nat.le_refl _)) haj hjb (Nat.le_refl _) (by omega) l1 l2, fun k k1 k2 => ?_, fun k k1 k2 => ?_⟩
  · rw [ej, e]
    by_cases c : k = a
    · rw [if_pos c]
      have := h1 j (by omega) (Nat.le_refl _)
      omega
    · rw [if_neg c, if_neg (show ¬ k = j by omega)]
      have := h1 k (by omega) (by omega)
      omega
  · rw [ej, e, if_neg (show ¬ k = a by omega), if_neg (show ¬ k = j by omega)]
    have := h2 k (by omega) k2
    omega

theorem partition_ok (d : List Int) (a b p : Nat) (hap : a ≤ p) (hpb : p < b) (hab : a + 1 < b) (hb : b ≤ d.length) (hl : d.length ≤ 1000) : ∃ (m : Nat) (q : Bool) (d' : List Int), slices_partitionOrdered_int64 (d, (a : Int), (b : Int), (p : Int), ()) = some ((m : Int), q, d', ()) ∧ a ≤ m ∧ m < b ∧ Sw a b d d' ∧ (∀ k, a ≤ k → k < m → nth d' k ≤ nth d' m) ∧ (∀ k, m + 1 ≤ k → k < b → nth d' m ≤ nth d' k) := by
  have lp : p < d.length := by omega
  have la : a < d.length := by omega
  have s0 : Sw a b d (swp d a p) := Sw.one (Nat.le_refl _) (by omega) hap hpb la lp
  have l0 : (swp d a p).length = d.length := swp_len _ _ _
  obtain ⟨i, j, h1, h2, h3, h4, h5, h6, h7, h8⟩ := prt_scan (swp d a p) a (a + 1) (b - 1) (by omega) (by omega) (by omega) (by omega) (by omega)
  have h1' : loopL b_slices_partitionOrdered_int64_3 ((d.set a (nth d p)).set p (nth d a), (a : Int), ((a + 1 : Nat) : Int), ((b - 1 : Nat) : Int), ()) = some (.inl ((d.set a (nth d p)).set p (nth d a), (a : Int), (i : Int), ((b - 1 : Nat) : Int), ())) := h1
  have h2' : loopL b_slices_partitionOrdered_int64_5 ((d.set a (nth d p)).set p (nth d a), (a : Int), (i : Int), ((b - 1 : Nat) : Int), ()) = some (.inl ((d.set a (nth d p)).set p (nth d a), (a : Int), (i : Int), (j : Int), ())) := h2
  have hlo : ∀ k, a < k → k < i → nth (swp d a p) k < nth (swp d a p) a := fun k k1 k2 => h6 k (by omega) k2
  have hhi : ∀ k, j < k → k < b → ¬ nth (swp d a p) k < nth (swp d a p) a := fun k k1 k2 => h7 k k1 (by omega)
  have w1 := w_succ (j := a) (by omega)
  have w2 := w_pred (j := b) (by omega) (by omega)
  by_cases c : i ≤ j
  · obtain ⟨h9, h10⟩ := h8 c
    have hne : i ≠ j := fun e => by subst e; exact h9 h10
    have hd : decide ((i : Int) > (j : Int)) = false := by simp; omega
    have li : i < (swp d a p).length := by omega
    have lj : j < (swp d a p).length := by omega
    have e := swp_nth li lj
    have s1 : Sw (a + 1) b (swp d a p) (swp (swp d a p) i j) := Sw.one (by omega) (by omega) (by omega) (by omega) li lj
    obtain ⟨d', m, g1, g2, g3, g4, g5, g6⟩ := prt_loop (swp (swp d a p) i j) a b (i + 1) (j - 1) (by rw [swp_len]; omega) (by rw [swp_len]; omega) (by omega) (by omega) (by omega) (fun k k1 k2 => by
      rw [e, e, if_neg (show ¬ k = j by omega), if_neg (show ¬ a = j by omega), if_neg (show ¬ a = i by omega)]
      by_cases c1 : k = i
      · rw [if_pos c1]; exact h10
      · rw [if_neg c1]; exact hlo k k1 (by omega)) (fun k k1 k2 => by
      rw [e, e, if_neg (show ¬ a = j by omega), if_neg (show ¬ a = i by omega)]
      by_cases c1 : k = j
      · rw [if_pos c1]; exact h9
      · rw [if_neg c1, if_neg (show ¬ k = i by omega)]; exact hhi k (by omega) k2)
    obtain ⟨f1, f2, f3⟩ := prt_end (swp d a p) d' a b m (by omega) (s1.trans g2) g3 g4 g5 g6
    have hlen := (s1.trans g2).len
    have lm : m < d'.length := by omega
    have la' : a < d'.length := by omega
    refine ⟨m, false, swp d' m a, ?_, g3, g4, s0.trans f1, f2, f3⟩
    have li' : i < ((d.set a (nth d p)).set p (nth d a)).length := li
    have lj' : j < ((d.set a (nth d p)).set p (nth d a)).length := lj
    have g1' : loopL b_slices_partitionOrdered_int64_1013 ((((d.set a (nth d p)).set p (nth d a)).set i (nth ((d.set a (nth d p)).set p (nth d a)) j)).set j (nth ((d.set a (nth d p)).set p (nth d a)) i), (a : Int), ((i + 1 : Nat) : Int), ((j - 1 : Nat) : Int), ()) = some (.inl (d', (a : Int), (m : Int), ())) := g1
    simp only [slices_partitionOrdered_int64, w1, w2, idx_nth la, idx_nth lp, onSome, Int.toNat_natCast, nth_get la, nth_get lp, set_idx lp, set_get lp, both_x, h1', h2', hd, idx_nth li', idx_nth lj', nth_get li', nth_get lj', set_idx lj', set_get lj', w_succ (j := i) (by omega), w_pred (j := j) (by omega) (by omega), g1', idx_nth lm, idx_nth la', nth_get lm, nth_get la', set_idx la', set_get la']
    rfl
  · have hd : decide ((i : Int) > (j : Int)) = true := by simp; omega
    obtain ⟨f1, f2, f3⟩ := prt_end (swp d a p) (swp d a p) a b j (by omega) .refl (by omega) (by omega) (fun k k1 k2 => hlo k k1 (by omega)) hhi
    refine ⟨j, true, swp (swp d a p) j a, ?_, by omega, by omega, s0.trans f1, f2, f3⟩
    have lj' : j < ((d.set a (nth d p)).set p (nth d a)).length := by simp; omega
    have la' : a < ((d.set a (nth d p)).set p (nth d a)).length := by simp; omega
    simp only [slices_partitionOrdered_int64, w1, w2, idx_nth la, idx_nth lp, onSome, Int.toNat_natCast, nth_get la, nth_get lp, set_idx lp, set_get lp, both_x, h1', h2', hd, idx_nth la', idx_nth lj', nth_get la', nth_get lj', set_idx la', set_get la']
    rfl
end Go.Proofs.Ytoppfeehgkpjkaa
