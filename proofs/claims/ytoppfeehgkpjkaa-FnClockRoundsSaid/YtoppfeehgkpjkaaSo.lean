/- Sorting, in plain Lean: what swaps do; no program in sight. -/
import Derived.WalkKit
namespace Go.Proofs.Ytoppfeehgkpjkaa
set_option linter.unusedVariables false
set_option linter.unusedSimpArgs false

/-- The number at a place. -/
def nth (d : List Int) (i : Nat) : Int := d.getD i 0
def swp (d : List Int) (i j : Nat) : List Int := (d.set i (nth d j)).set j (nth d i)
theorem nth_get {d : List Int} {i : Nat} (h : i < d.length) : d[i]? = some (nth d i) := by
  unfold nth
  rw [List.getElem?_eq_getElem h, List.getD_eq_getElem?_getD, List.getElem?_eq_getElem h]
  rfl
theorem swp_len (d : List Int) (i j : Nat) : (swp d i j).length = d.length := by simp [swp]
theorem swp_nth {d : List Int} {i j : Nat} (hi : i < d.length) (hj : j < d.length) (k : Nat) : nth (swp d i j) k = if k = j then nth d i else if k = i then nth d j else nth d k := by
  unfold swp
  show ((d.set i (nth d j)).set j (nth d i)).getD k 0 = _
  rw [List.getD_eq_getElem?_getD, List.getElem?_set, List.getElem?_set]
  by_cases h1 : k = j
  · subst h1
    simp [hj]
  · rw [if_neg (fun h => h1 h.symm), if_neg h1]
    by_cases h2 : k = i
    · subst h2
      simp [hi]
    · rw [if_neg (fun h => h2 h.symm), if_neg h2, ← List.getD_eq_getElem?_getD]
      rfl
theorem swp_perm {d : List Int} {i j : Nat} (hi : i < d.length) (hj : j < d.length) : (swp d i j).Perm d := by
  have e1 : nth d i = d[i] := by
    have := nth_get hi
    rw [List.getElem?_eq_getElem hi] at this
    exact (Option.some.inj this).symm
  have e2 : nth d j = d[j] := by
    have := nth_get hj
    rw [List.getElem?_eq_getElem hj] at this
    exact (Option.some.inj this).symm
  unfold swp
  rw [e1, e2]
  exact List.set_set_perm hi hj
theorem swp_comm {d : List Int} {i j : Nat} (hi : i < d.length) (hj : j < d.length) : swp d i j = swp d j i := by
  apply List.ext_getElem?
  intro k
  by_cases hk : k < d.length
  · rw [nth_get (by rw [swp_len]; exact hk), nth_get (by rw [swp_len]; exact hk), swp_nth hi hj, swp_nth hj hi]
    by_cases h1 : k = i
    · by_cases h2 : k = j
      · subst h1; subst h2; simp
      · rw [if_neg h2, if_pos h1, if_pos h1]
    · by_cases h2 : k = j
      · rw [if_pos h2, if_neg h1, if_pos h2]
      · rw [if_neg h2, if_neg h1, if_neg h1, if_neg h2]
  · rw [List.getElem?_eq_none (by rw [swp_len]; omega), List.getElem?_eq_none (by rw [swp_len]; omega)]

/-- Swaps of places from a up to b. -/
inductive Sw (a b : Nat) (d : List Int) : List Int → Prop
  | refl : Sw a b d d
  | step {d' : List Int} {i j : Nat} : Sw a b d d' → a ≤ i → i < b → a ≤ j → j < b → i < d'.length → j < d'.length → Sw a b d (swp d' i j)
theorem Sw.len {a b : Nat} {d d' : List Int} (h : Sw a b d d') : d'.length = d.length := by
  induction h with
  | refl => rfl
  | step _ _ _ _ _ _ _ ih => rw [swp_len, ih]
theorem Sw.perm {a b : Nat} {d d' : List Int} (h : Sw a b d d') : d'.Perm d := by
  induction h with
  | refl => exact List.Perm.refl _
  | step _ _ _ _ _ hi hj ih => exact (swp_perm hi hj).trans ih
theorem Sw.out {a b : Nat} {d d' : List Int} (h : Sw a b d d') {k : Nat} (hk : k < a ∨ b ≤ k) : nth d' k = nth d k := by
  induction h with
  | refl => rfl
  | step _ h1 h2 h3 h4 hi hj ih =>
    rw [swp_nth hi hj, if_neg (by omega), if_neg (by omega), ih]
theorem Sw.ins {a b : Nat} {d d' : List Int} (h : Sw a b d d') {k : Nat} (h1 : a ≤ k) (h2 : k < b) : ∃ m, a ≤ m ∧ m < b ∧ nth d' k = nth d m := by
  induction h generalizing k with
  | refl => exact ⟨k, h1, h2, rfl⟩
  | step _ i1 i2 j1 j2 hi hj ih =>
    rw [swp_nth hi hj]
    split
    · exact ih i1 i2
    · split
      · exact ih j1 j2
      · exact ih h1 h2
theorem Sw.all {a b : Nat} {d d' : List Int} (h : Sw a b d d') {p : Int → Prop} (hp : ∀ k, a ≤ k → k < b → p (nth d k)) : ∀ k, a ≤ k → k < b → p (nth d' k) := by
  intro k h1 h2
  obtain ⟨m, h3, h4, h5⟩ := h.ins h1 h2
  rw [h5]
  exact hp m h3 h4
theorem Sw.mono {a b a' b' : Nat} {d d' : List Int} (h : Sw a b d d') (ha : a' ≤ a) (hb : b ≤ b') : Sw a' b' d d' := by
  induction h with
  | refl => exact .refl
  | step _ i1 i2 j1 j2 hi hj ih => exact .step ih (by omega) (by omega) (by omega) (by omega) hi hj
theorem Sw.trans {a b : Nat} {d d' d'' : List Int} (h : Sw a b d d') (h' : Sw a b d' d'') : Sw a b d d'' := by
  induction h' with
  | refl => exact h
  | step _ i1 i2 j1 j2 hi hj ih => exact .step ih i1 i2 j1 j2 hi hj
theorem Sw.one {a b i j : Nat} {d : List Int} (h1 : a ≤ i) (h2 : i < b) (h3 : a ≤ j) (h4 : j < b) (hi : i < d.length) (hj : j < d.length) : Sw a b d (swp d i j) := .step .refl h1 h2 h3 h4 hi hj

/-- Ascending from a up to b. -/
def Srt (a b : Nat) (d : List Int) : Prop := ∀ i j, a ≤ i → i ≤ j → j < b → nth d i ≤ nth d j
/-- Nothing from a up to b is less than what stands before it. -/
def Blw (a b : Nat) (d : List Int) : Prop := 0 < a → ∀ k, a ≤ k → k < b → nth d (a - 1) ≤ nth d k
theorem Srt.small {a b : Nat} {d : List Int} (h : b ≤ a + 1) : Srt a b d := by
  intro i j h1 h2 h3
  have : i = j := by omega
  subst this
  exact Int.le_refl _
theorem Srt.step {a b : Nat} {d : List Int} (h : ∀ i, a ≤ i → i + 1 < b → nth d i ≤ nth d (i + 1)) : Srt a b d := by
  intro i j h1 h2 h3
  induction j with
  | zero =>
    have : i = 0 := by omega
    subst this
    exact Int.le_refl _
  | succ j ih =>
    by_cases e : i = j + 1
    · subst e; exact Int.le_refl _
    · exact Int.le_trans (ih (by omega) (by omega)) (h j (by omega) (by omega))
theorem Srt.congr {a b : Nat} {d d' : List Int} (h : Srt a b d) (he : ∀ k, a ≤ k → k < b → nth d' k = nth d k) : Srt a b d' := by
  intro i j h1 h2 h3
  rw [he i h1 (by omega), he j (by omega) h3]
  exact h i j h1 h2 h3
theorem Blw.sw {a b : Nat} {d d' : List Int} (h : Blw a b d) (hs : Sw a b d d') : Blw a b d' := by
  intro h0
  have e : nth d' (a - 1) = nth d (a - 1) := hs.out (.inl (by omega))
  rw [e]
  exact hs.all (h h0)
/-- Two sorted parts about a middle. -/
theorem srt_join {a m b : Nat} {d : List Int} (hm : a ≤ m) (hmb : m < b) (h1 : Srt a m d) (h2 : Srt (m + 1) b d) (h3 : ∀ k, a ≤ k → k < m → nth d k ≤ nth d m) (h4 : ∀ k, m + 1 ≤ k → k < b → nth d m ≤ nth d k) : Srt a b d := by
  intro i j hi hij hj
  by_cases c1 : j < m
  · exact h1 i j hi hij c1
  · by_cases c2 : i < m
    · by_cases c3 : j = m
      · subst c3; exact h3 i hi c2
      · exact Int.le_trans (h3 i hi c2) (h4 j (by omega) hj)
    · by_cases c3 : i = m
      · subst c3
        by_cases c4 : j = i
        · subst c4; exact Int.le_refl _
        · exact h4 j (by omega) hj
      · exact h2 i j (by omega) hij hj
theorem srt_join2 {a m b : Nat} {d : List Int} (h1 : Srt a m d) (h2 : Srt m b d) (h3 : ∀ i j, a ≤ i → i < m → m ≤ j → j < b → nth d i ≤ nth d j) : Srt a b d := by
  intro i j hi hij hj
  by_cases c1 : j < m
  · exact h1 i j hi hij c1
  · by_cases c2 : i < m
    · exact h3 i j hi c2 (by omega) hj
    · exact h2 i j (by omega) hij hj

/-! ### Heaps -/
/-- From lo on, each of the first n places from f is as great as its children. -/
def Heap (f lo n : Nat) (d : List Int) : Prop := ∀ i c, lo ≤ i → (c = 2 * i + 1 ∨ c = 2 * i + 2) → c < n → nth d (f + c) ≤ nth d (f + i)
/-- The same but at r, whose children are not above its parent. -/
structure HeapBut (f lo n r : Nat) (d : List Int) : Prop where
  rest : ∀ i c, lo ≤ i → i ≠ r → (c = 2 * i + 1 ∨ c = 2 * i + 2) → c < n → nth d (f + c) ≤ nth d (f + i)
  par : ∀ p c, lo ≤ p → (r = 2 * p + 1 ∨ r = 2 * p + 2) → (c = 2 * r + 1 ∨ c = 2 * r + 2) → c < n → nth d (f + c) ≤ nth d (f + p)
theorem HeapBut.done {f lo n r : Nat} {d : List Int} (h : HeapBut f lo n r d) (hr : ∀ c, (c = 2 * r + 1 ∨ c = 2 * r + 2) → c < n → nth d (f + c) ≤ nth d (f + r)) : Heap f lo n d := by
  intro i c h1 h2 h3
  by_cases e : i = r
  · subst e; exact hr c h2 h3
  · exact h.rest i c h1 e h2 h3
theorem HeapBut.down {f lo n r c : Nat} {d : List Int} (h : HeapBut f lo n r d) (hlo : lo ≤ r) (hc : c = 2 * r + 1 ∨ c = 2 * r + 2) (hcn : c < n) (hn : f + n ≤ d.length) (hlt : nth d (f + r) < nth d (f + c)) (hmax : ∀ c', (c' = 2 * r + 1 ∨ c' = 2 * r + 2) → c' < n → nth d (f + c') ≤ nth d (f + c)) : HeapBut f lo n c (swp d (f + r) (f + c)) := by
  have hrl : f + r < d.length := by omega
  have hcl : f + c < d.length := by omega
  have key : ∀ k, nth (swp d (f + r) (f + c)) (f + k) = if k = c then nth d (f + r) else if k = r then nth d (f + c) else nth d (f + k) := by
    intro k
    rw [swp_nth hrl hcl]
    by_cases e1 : k = c
    · subst e1; simp
    · by_cases e2 : k = r
      · subst e2; simp [e1]
      · simp [e1, e2]
  constructor
  · intro i c' h1 h2 h3 h4
    rw [key, key]
    by_cases e1 : i = r
    · subst e1
      rw [if_neg h2, if_pos rfl]
      by_cases e2 : c' = c
      · rw [if_pos e2]; omega
      · rw [if_neg e2, if_neg (by omega)]
        exact hmax c' h3 h4
    · rw [if_neg h2, if_neg e1]
      by_cases e2 : c' = c
      · omega
      · rw [if_neg e2]
        by_cases e3 : c' = r
        · rw [if_pos e3]
          exact h.par i c h1 (by omega) hc hcn
        · rw [if_neg e3]
          exact h.rest i c' h1 e1 h3 h4
  · intro p c' h1 h2 h3 h4
    have : p = r := by omega
    subst this
    rw [key, key, if_neg (by omega), if_neg (by omega), if_neg (by omega), if_pos rfl]
    exact h.rest c c' (by omega) (by omega) h3 h4
theorem Heap.but {f lo n : Nat} {d : List Int} (h : Heap f (lo + 1) n d) : HeapBut f lo n lo d := by
  constructor
  · intro i c h1 h2 h3 h4
    exact h i c (by omega) h3 h4
  · intro p c h1 h2 h3 h4
    omega
theorem Heap.top {f n : Nat} {d : List Int} (h : Heap f 0 n d) : ∀ k, k < n → nth d (f + k) ≤ nth d (f + 0) := by
  intro k
  induction k using Nat.strongRecOn with
  | ind k ih =>
    intro hk
    by_cases h0 : k = 0
    · subst h0; exact Int.le_refl _
    · have h1 := h ((k - 1) / 2) k (by omega) (by omega) hk
      exact Int.le_trans h1 (ih ((k - 1) / 2) (by omega) (by omega))
end Go.Proofs.Ytoppfeehgkpjkaa
