/- Ranks and sorted lists, in plain Lean; no program in sight. -/
import Derived.Test.YtoppfeehgkpjkaaSo
namespace Go.Proofs.Ytoppfeehgkpjkaa
set_option linter.unusedVariables false
set_option linter.unusedSimpArgs false

/-- The sum of f over a list's values and places. -/
def esum (f : Int → Nat → Int) : Nat → List Int → Int
  | _, [] => 0
  | k, x :: r => f x k + esum f (k + 1) r
def ins (v : Int) : List Int → List Int
  | [] => [v]
  | x :: r => if v < x then v :: x :: r else x :: ins v r
/-- How many are not above v. -/
def cle (v : Int) : List Int → Nat
  | [] => 0
  | x :: r => (if v < x then 0 else 1) + cle v r
def Asc : List Int → Prop
  | [] => True
  | x :: r => (∀ y ∈ r, x ≤ y) ∧ Asc r

theorem esum_shift (f : Int → Nat → Int) (v : Int) : ∀ (s : List Int) (k : Nat), (∀ y ∈ s, v < y) → esum (fun x p => f x (p + if v < x then 1 else 0)) k s = esum f (k + 1) s
  | [], k, _ => rfl
  | x :: r, k, h => by
    have hx := h x (by simp)
    simp only [esum, hx, if_true]
    rw [esum_shift f v r (k + 1) (fun y hy => h y (by simp [hy]))]
theorem cle_zero (v : Int) : ∀ (s : List Int), (∀ y ∈ s, v < y) → cle v s = 0
  | [], _ => rfl
  | x :: r, h => by
    have hx := h x (by simp)
    simp only [cle, hx, if_true, cle_zero v r (fun y hy => h y (by simp [hy]))]
theorem ins_esum (f : Int → Nat → Int) (v : Int) : ∀ (s : List Int) (k : Nat), Asc s → esum f k (ins v s) = esum (fun x p => f x (p + if v < x then 1 else 0)) k s + f v (k + cle v s)
  | [], k, _ => by simp [ins, esum, cle]
  | x :: r, k, h => by
    by_cases hx : v < x
    · have hall : ∀ y ∈ x :: r, v < y := by
        intro y hy
        rcases List.mem_cons.1 hy with rfl | hy
        · exact hx
        · have := h.1 y hy; omega
      have hi : ins v (x :: r) = v :: x :: r := by simp [ins, hx]
      rw [hi, esum_shift f v (x :: r) k hall, cle_zero v (x :: r) hall]
      show f v k + esum f (k + 1) (x :: r) = esum f (k + 1) (x :: r) + f v k
      exact Int.add_comm _ _
    · have hi : ins v (x :: r) = x :: ins v r := by simp [ins, hx]
      rw [hi]
      simp only [esum, cle, hx, if_false, Nat.add_zero]
      rw [ins_esum f v r (k + 1) h.2, show k + 1 + cle v r = k + (1 + cle v r) by omega]
      omega
theorem ins_mem (v y : Int) : ∀ (s : List Int), y ∈ ins v s ↔ y = v ∨ y ∈ s
  | [] => by simp [ins]
  | x :: r => by
    unfold ins
    split
    · simp
    · simp only [List.mem_cons, ins_mem v y r]
      constructor
      · rintro (h | h | h) <;> simp [h]
      · rintro (h | h | h) <;> simp [h]
theorem ins_asc (v : Int) : ∀ (s : List Int), Asc s → Asc (ins v s)
  | [], _ => by simp [ins, Asc]
  | x :: r, h => by
    unfold ins
    split
    · rename_i hx
      refine ⟨fun y hy => ?_, h⟩
      rcases List.mem_cons.1 hy with rfl | hy
      · omega
      · have := h.1 y hy; omega
    · rename_i hx
      refine ⟨fun y hy => ?_, ins_asc v r h.2⟩
      rcases (ins_mem v y r).1 hy with rfl | hy
      · omega
      · exact h.1 y hy
theorem ins_perm (v : Int) : ∀ (s : List Int), (ins v s).Perm (v :: s)
  | [] => List.Perm.refl _
  | x :: r => by
    unfold ins
    split
    · exact List.Perm.refl _
    · exact ((ins_perm v r).cons x).trans (List.Perm.swap v x r)
theorem cle_ins (v w : Int) : ∀ (s : List Int), cle v (ins w s) = (if v < w then 0 else 1) + cle v s
  | [] => rfl
  | x :: r => by
    unfold ins
    split
    · rfl
    · simp only [cle, cle_ins v w r]; omega

/-- The first n, sorted. -/
def isort (l : List Int) : Nat → List Int
  | 0 => []
  | n + 1 => ins (nth l n) (isort l n)
theorem isort_asc (l : List Int) : ∀ n, Asc (isort l n)
  | 0 => trivial
  | n + 1 => ins_asc _ _ (isort_asc l n)
theorem isort_perm (l : List Int) : ∀ n, n ≤ l.length → (isort l n).Perm (l.take n)
  | 0, _ => by simp [isort]
  | n + 1, h => by
    have e : l.take (n + 1) = l.take n ++ [nth l n] := by
      rw [List.take_add_one, nth_get (by omega)]
      rfl
    rw [e]
    exact ((ins_perm _ _).trans ((isort_perm l n (by omega)).cons _)).trans (List.perm_append_singleton _ _).symm

/-- Does place j come before place i? -/
def bef (l : List Int) (i j : Nat) : Bool := decide (nth l j < nth l i) || ((nth l j == nth l i) && decide (j < i))
/-- How many of the first n come before place i. -/
def rank (l : List Int) (i : Nat) : Nat → Nat
  | 0 => 0
  | n + 1 => rank l i n + if bef l i n then 1 else 0
def vsum (l : List Int) (f : Int → Nat → Int) (m : Nat) : Nat → Int
  | 0 => 0
  | n + 1 => vsum l f m n + f (nth l n) (rank l n m)
theorem vsum_step (l : List Int) (f : Int → Nat → Int) (m : Nat) : ∀ n, n ≤ m → vsum l f (m + 1) n = vsum l (fun x p => f x (p + if nth l m < x then 1 else 0)) m n
  | 0, _ => rfl
  | n + 1, h => by
    have e : bef l n m = decide (nth l m < nth l n) := by
      have : decide (m < n) = false := by simp; omega
      simp [bef, this]
    simp only [vsum, vsum_step l f m n (by omega), rank, e, decide_eq_true_eq]
theorem rank_cle (l : List Int) (i : Nat) : ∀ n, n ≤ i → rank l i n = cle (nth l i) (isort l n)
  | 0, _ => rfl
  | n + 1, h => by
    have hd : decide (n < i) = true := by simp; omega
    have e : (if bef l i n = true then 1 else 0) = (if nth l i < nth l n then 0 else 1 : Nat) := by
      unfold bef
      rw [hd, Bool.and_true]
      by_cases c : nth l i < nth l n
      · have h1 : decide (nth l n < nth l i) = false := by simp; omega
        have h2 : (nth l n == nth l i) = false := by simp; omega
        simp [h1, h2, c]
      · by_cases c2 : nth l n = nth l i
        · simp [c2]
        · have h1 : decide (nth l n < nth l i) = true := by simp; omega
          simp [h1, c]
    simp only [rank, isort, cle_ins, rank_cle l i n (by omega), e]
    omega
theorem vsum_eq (l : List Int) : ∀ (n : Nat) (f : Int → Nat → Int), vsum l f n n = esum f 0 (isort l n)
  | 0, f => rfl
  | n + 1, f => by
    have e : rank l n (n + 1) = rank l n n := by
      have : bef l n n = false := by simp [bef]
      simp [rank, this]
    rw [vsum, vsum_step l f n n (Nat.le_refl _), vsum_eq l n, isort, ins_esum f (nth l n) (isort l n) 0 (isort_asc l n), e, rank_cle l n n (Nat.le_refl _), Nat.zero_add]

theorem asc_nth : ∀ {D : List Int}, Srt 0 D.length D → Asc D
  | [], _ => trivial
  | x :: r, h => by
    refine ⟨fun y hy => ?_, asc_nth fun i j h1 h2 h3 => ?_⟩
    · obtain ⟨i, hi, rfl⟩ := List.getElem_of_mem hy
      have h1 := h 0 (i + 1) (by omega) (by omega) (by simp; omega)
      have e1 : nth (x :: r) 0 = x := rfl
      have e2 : nth (x :: r) (i + 1) = r[i] := by
        have := nth_get (d := x :: r) (i := i + 1) (by simp; omega)
        rw [List.getElem?_cons_succ, List.getElem?_eq_getElem hi] at this
        exact (Option.some.inj this).symm
      rw [e1, e2] at h1
      exact h1
    · have := h (i + 1) (j + 1) (by omega) (by omega) (by simp; omega)
      exact this
/-- Sorted lists of the same numbers are one. -/
theorem asc_perm : ∀ {s t : List Int}, Asc s → Asc t → s.Perm t → s = t
  | [], t, _, _, h => by
    have := h.length_eq
    exact (List.length_eq_zero_iff.1 this.symm).symm
  | x :: r, [], _, _, h => by
    have := h.length_eq
    simp at this
  | x :: r, y :: u, hs, ht, h => by
    have h1 : x ∈ y :: u := h.subset (by simp)
    have h2 : y ∈ x :: r := h.symm.subset (by simp)
    have h3 : x ≤ y := by
      rcases List.mem_cons.1 h2 with e | e
      · omega
      · exact hs.1 y e
    have h4 : y ≤ x := by
      rcases List.mem_cons.1 h1 with e | e
      · omega
      · exact ht.1 x e
    have e : x = y := by omega
    subst e
    rw [asc_perm hs.2 ht.2 ((List.perm_cons x).1 h)]
theorem sorted_isort {l D : List Int} (hp : D.Perm l) (hs : Srt 0 D.length D) : D = isort l l.length := by
  refine asc_perm (asc_nth hs) (isort_asc l l.length) (hp.trans ?_)
  have := isort_perm l l.length (Nat.le_refl _)
  rw [List.take_length] at this
  exact this.symm

/-- The values at the places from k up to m. -/
def win (k m : Nat) (x : Int) (p : Nat) : Int := if k ≤ p ∧ p < m then x else 0
def sumL : List Int → Int
  | [] => 0
  | x :: r => x + sumL r
theorem esum_win : ∀ (s : List Int) (k m j : Nat), j ≤ k → k ≤ m → esum (win k m) j s = sumL ((s.take (m - j)).drop (k - j))
  | [], k, m, j, _, _ => by simp [esum, sumL]
  | x :: r, k, m, j, h1, h2 => by
    by_cases c : j = k
    · subst c
      have key : ∀ (s : List Int) (i : Nat), j ≤ i → esum (win j m) i s = sumL (s.take (m - i)) := by
        intro s
        induction s with
        | nil => intro i _; simp [esum, sumL]
        | cons y s ih =>
          intro i hi
          by_cases c2 : i < m
          · have e : m - i = (m - (i + 1)) + 1 := by omega
            rw [esum, ih (i + 1) (by omega), e, List.take_succ_cons, sumL, win, if_pos ⟨hi, c2⟩]
          · have e : m - i = 0 := by omega
            have e2 : m - (i + 1) = 0 := by omega
            rw [esum, ih (i + 1) (by omega), e, e2, win, if_neg (by omega)]
            simp [sumL]
      rw [key _ j (Nat.le_refl _), Nat.sub_self, List.drop_zero]
    · have e1 : k - j = (k - (j + 1)) + 1 := by omega
      have e2 : m - j = (m - (j + 1)) + 1 := by omega
      rw [esum, esum_win r k m (j + 1) (by omega) h2, e1, e2, List.take_succ_cons, List.drop_succ_cons, win, if_neg (by omega)]
      omega

theorem esum_shift7 (k m : Nat) (c : Int) : ∀ (s : List Int) (j : Nat), esum (win k m) j (s.map (· + c)) = esum (win k m) j s + c * ((((s.take (m - j)).drop (k - j)).length : Nat) : Int)
  | [], j => by simp [esum]
  | x :: r, j => by
    simp only [List.map_cons, esum, esum_shift7 k m c r (j + 1)]
    by_cases h : k ≤ j ∧ j < m
    · have e1 : m - j = (m - (j + 1)) + 1 := by omega
      have e2 : k - j = 0 := by omega
      have e3 : k - (j + 1) = 0 := by omega
      simp only [win, if_pos h, e1, e2, e3, List.take_succ_cons, List.drop_zero, List.length_cons]
      rw [show ((List.take (m - (j + 1)) r).length + 1 : Nat) = (List.take (m - (j + 1)) r).length + 1 from rfl]
      push_cast
      rw [Int.mul_add, Int.mul_one]
      omega
    · simp only [win, if_neg h]
      by_cases h2 : j < m
      · have e1 : m - j = (m - (j + 1)) + 1 := by omega
        have e2 : k - j = (k - (j + 1)) + 1 := by omega
        rw [e1, e2, List.take_succ_cons, List.drop_succ_cons]
        omega
      · have e1 : m - j = 0 := by omega
        have e2 : m - (j + 1) = 0 := by omega
        rw [e1, e2]
        simp
end Go.Proofs.Ytoppfeehgkpjkaa
