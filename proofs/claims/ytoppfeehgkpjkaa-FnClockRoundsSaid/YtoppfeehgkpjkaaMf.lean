/- The fault-tolerant mean, in plain Lean: shifts and bounds. -/
import Derived.Test.YtoppfeehgkpjkaaMe
namespace Go.Proofs.Ytoppfeehgkpjkaa
set_option linter.unusedVariables false
set_option linter.unusedSimpArgs false

theorem nth_map {l : List Int} (c : Int) {i : Nat} (h : i < l.length) : nth (l.map (· + c)) i = nth l i + c := by
  have h1 := nth_get (d := l.map (· + c)) (i := i) (by simpa using h)
  rw [List.getElem?_map, nth_get h] at h1
  exact (Option.some.inj h1).symm
theorem ins_map (v c : Int) : ∀ s : List Int, ins (v + c) (s.map (· + c)) = (ins v s).map (· + c)
  | [] => rfl
  | x :: r => by
    have e : (v + c < x + c) = (v < x) := by simp
    simp only [List.map_cons, ins, e]
    split
    · simp
    · simp [ins_map v c r]
theorem isort_map (l : List Int) (c : Int) : ∀ n, n ≤ l.length → isort (l.map (· + c)) n = (isort l n).map (· + c)
  | 0, _ => rfl
  | n + 1, h => by
    rw [isort, isort, isort_map l c n (by omega), nth_map c (by omega), ins_map]
theorem isort_len (l : List Int) (n : Nat) (h : n ≤ l.length) : (isort l n).length = n := by
  have := (isort_perm l n h).length_eq
  rw [this]; simp; omega
theorem isort_mem {l : List Int} {v : Int} (h : v ∈ isort l l.length) : v ∈ l := by
  have := (isort_perm l l.length (Nat.le_refl _)).subset h
  rwa [List.take_length] at this
theorem sumL_ge (lo : Int) : ∀ L : List Int, (∀ v ∈ L, lo ≤ v) → lo * (L.length : Int) ≤ sumL L
  | [], _ => by simp [sumL]
  | v :: r, h => by
    have h1 := h v (by simp)
    have h2 := sumL_ge lo r (fun u hu => h u (by simp [hu]))
    simp only [sumL, List.length_cons]
    push_cast
    rw [Int.mul_add, Int.mul_one]
    omega
theorem sumL_le (hi : Int) : ∀ L : List Int, (∀ v ∈ L, v ≤ hi) → sumL L ≤ hi * (L.length : Int)
  | [], _ => by simp [sumL]
  | v :: r, h => by
    have h1 := h v (by simp)
    have h2 := sumL_le hi r (fun u hu => h u (by simp [hu]))
    simp only [sumL, List.length_cons]
    push_cast
    rw [Int.mul_add, Int.mul_one]
    omega
/-- The values that are not left out. -/
def kept (k : Nat) (l : List Int) : List Int := ((isort l l.length).take (l.length - k)).drop k
theorem kept_len {k : Nat} {l : List Int} (h : 2 * k ≤ l.length) : (kept k l).length = l.length - 2 * k := by
  unfold kept
  rw [List.length_drop, List.length_take, isort_len l _ (Nat.le_refl _)]
  omega
theorem kept_sum {k : Nat} {l : List Int} (h : 2 * k ≤ l.length) : esum (win k (l.length - k)) 0 (isort l l.length) = sumL (kept k l) := by
  have := esum_win (isort l l.length) k (l.length - k) 0 (Nat.zero_le _) (by omega)
  rw [Nat.sub_zero, Nat.sub_zero] at this
  exact this
theorem kept_mem {k : Nat} {l : List Int} {v : Int} (h : v ∈ kept k l) : v ∈ l := isort_mem (List.mem_of_mem_take (List.mem_of_mem_drop h))

/-! ### One value that is out of bounds is left out -/
theorem count_two {p : Int → Bool} : ∀ {s : List Int} {i j : Nat}, i < j → j < s.length → p (nth s i) = true → p (nth s j) = true → 2 ≤ s.countP p
  | [], i, j, _, h, _, _ => by simp at h
  | x :: r, 0, j + 1, _, hj, h1, h2 => by
    have e1 : nth (x :: r) 0 = x := rfl
    have e2 : nth (x :: r) (j + 1) = nth r j := rfl
    rw [e1] at h1; rw [e2] at h2
    have hj' : j < r.length := by simpa using hj
    have hm : nth r j ∈ r := List.mem_of_getElem? (nth_get hj')
    have h3 : 0 < r.countP p := List.countP_pos_iff.2 ⟨_, hm, h2⟩
    rw [List.countP_cons_of_pos h1]
    omega
  | x :: r, i + 1, j + 1, hij, hj, h1, h2 => by
    have e1 : nth (x :: r) (i + 1) = nth r i := rfl
    have e2 : nth (x :: r) (j + 1) = nth r j := rfl
    rw [e1] at h1; rw [e2] at h2
    have := count_two (s := r) (i := i) (j := j) (by omega) (by simpa using hj) h1 h2
    rw [List.countP_cons]
    omega
theorem count_one {p : Int → Bool} : ∀ {s : List Int} (f : Nat), (∀ j, j < s.length → j ≠ f → p (nth s j) = false) → s.countP p ≤ 1
  | [], _, _ => by simp
  | x :: r, 0, h => by
    have h1 : r.countP p = 0 := by
      rw [List.countP_eq_zero]
      intro v hv
      obtain ⟨j, hj, rfl⟩ := List.getElem_of_mem hv
      have := h (j + 1) (by simpa using hj) (by omega)
      have e2 : nth (x :: r) (j + 1) = nth r j := rfl
      have e3 := nth_get hj
      rw [List.getElem?_eq_getElem hj] at e3
      rw [e2, ← Option.some.inj e3] at this
      simp [this]
    rw [List.countP_cons, h1]
    split <;> omega
  | x :: r, f + 1, h => by
    have h0 : p x = false := h 0 (by simp) (by omega)
    have h1 := count_one (s := r) f (fun j hj hne => h (j + 1) (by simpa using hj) (by omega))
    rw [List.countP_cons, h0]
    simpa using h1
theorem asc_le : ∀ {s : List Int}, Asc s → ∀ {i j : Nat}, i ≤ j → j < s.length → nth s i ≤ nth s j
  | [], _, _, _, _, h => by simp at h
  | x :: r, h, 0, 0, _, _ => Int.le_refl _
  | x :: r, h, 0, j + 1, _, hj => by
    have hj' : j < r.length := by simpa using hj
    exact h.1 _ (List.mem_of_getElem? (nth_get hj'))
  | x :: r, h, i + 1, j + 1, hij, hj => asc_le (s := r) h.2 (by omega) (by simpa using hj)
theorem kept_nth {k : Nat} {l : List Int} {v : Int} (h : v ∈ kept k l) : ∃ p, k ≤ p ∧ p < l.length - k ∧ p < l.length ∧ v = nth (isort l l.length) p := by
  unfold kept at h
  obtain ⟨i, hi, rfl⟩ := List.getElem_of_mem h
  have hl := isort_len l l.length (Nat.le_refl _)
  rw [List.length_drop, List.length_take, hl] at hi
  refine ⟨k + i, by omega, by omega, by omega, ?_⟩
  rw [List.getElem_drop, List.getElem_take]
  have := nth_get (d := isort l l.length) (i := k + i) (by omega)
  rw [List.getElem?_eq_getElem (by omega)] at this
  exact Option.some.inj this
theorem kept_ge {l : List Int} {k f : Nat} {lo : Int} (hk : 1 ≤ k) (h : ∀ j, j < l.length → j ≠ f → lo ≤ nth l j) : ∀ v ∈ kept k l, lo ≤ v := by
  intro v hv
  obtain ⟨p, p1, p2, p3, rfl⟩ := kept_nth hv
  have hl := isort_len l l.length (Nat.le_refl _)
  by_cases c : lo ≤ nth (isort l l.length) p
  · exact c
  · have h1 := asc_le (isort_asc l l.length) (i := 0) (j := p) (Nat.zero_le _) (by omega)
    have h2 := count_two (p := fun v => decide (v < lo)) (s := isort l l.length) (i := 0) (j := p) (by omega) (by omega) (by simp; omega) (by simp; omega)
    have h3 : (isort l l.length).countP (fun v => decide (v < lo)) = l.countP (fun v => decide (v < lo)) := by
      have := (isort_perm l l.length (Nat.le_refl _)).countP_eq (fun v => decide (v < lo))
      rwa [List.take_length] at this
    have h4 := count_one (p := fun v => decide (v < lo)) (s := l) f (fun j hj hne => by
      have := h j hj hne
      simp; omega)
    omega
theorem kept_le {l : List Int} {k f : Nat} {hi : Int} (hk : 1 ≤ k) (h : ∀ j, j < l.length → j ≠ f → nth l j ≤ hi) : ∀ v ∈ kept k l, v ≤ hi := by
  intro v hv
  obtain ⟨p, p1, p2, p3, rfl⟩ := kept_nth hv
  have hl := isort_len l l.length (Nat.le_refl _)
  by_cases c : nth (isort l l.length) p ≤ hi
  · exact c
  · have h1 := asc_le (isort_asc l l.length) (i := p) (j := l.length - 1) (by omega) (by omega)
    have h2 := count_two (p := fun v => decide (hi < v)) (s := isort l l.length) (i := p) (j := l.length - 1) (by omega) (by omega) (by simp; omega) (by simp; omega)
    have h3 : (isort l l.length).countP (fun v => decide (hi < v)) = l.countP (fun v => decide (hi < v)) := by
      have := (isort_perm l l.length (Nat.le_refl _)).countP_eq (fun v => decide (hi < v))
      rwa [List.take_length] at this
    have h4 := count_one (p := fun v => decide (hi < v)) (s := l) f (fun j hj hne => by
      have := h j hj hne
      simp; omega)
    omega
end Go.Proofs.Ytoppfeehgkpjkaa
