/- Plain laws: counts of what a list holds, and their sum. -/
import Derived.Test.YtmdflpfagbcaiaaPIn
namespace Go.Proofs.Ytmdflpfagbcaiaa
open Go.RowKit
set_option linter.unusedVariables false
set_option linter.unusedSimpArgs false

/-- A round: one more at index k. -/
def bumpK (c : List Int) (k : Int) : Option (List Int) := onSome (idx c k) fun _ => match c[k.toNat]? with
  | none => none
  | some v => some (c.set k.toNat (IntKind.i64.wrap (v + 1)))
theorem bumpK_some (c : List Int) (k : Int) (h0 : 0 ≤ k) (h1 : k < c.length) : ∃ c', bumpK c k = some c' ∧ c'.length = c.length := by
  have hi : k.toNat < c.length := by omega
  have : c[k.toNat]? = some c[k.toNat] := List.getElem?_eq_getElem hi
  unfold bumpK idx
  rw [if_pos h0, this]
  exact ⟨_, rfl, by simp⟩
def sumI : List Int → Int
  | [] => 0
  | v :: r => v + sumI r
theorem sumI_set : ∀ (c : List Int) (k : Nat) (v : Int) (h : k < c.length), sumI (c.set k v) = sumI c - c[k] + v
  | [], k, v, h => by simp at h
  | u :: r, 0, v, h => by simp [sumI]; omega
  | u :: r, k + 1, v, h => by
    have := sumI_set r k v (by simpa using h)
    simp [sumI, this]; omega
theorem sumI_nn : ∀ (c : List Int), (∀ v ∈ c, (0 : Int) ≤ v) → 0 ≤ sumI c ∧ ∀ v ∈ c, v ≤ sumI c
  | [], _ => by simp [sumI]
  | v :: r, h => by
    have h1 := sumI_nn r (fun u hu => h u (by simp [hu]))
    have h2 := h v (by simp)
    refine ⟨by simp [sumI]; omega, ?_⟩
    intro u hu
    rcases List.mem_cons.1 hu with rfl | hu
    · simp [sumI]; omega
    · have := h1.2 u hu
      simp [sumI]; omega
theorem bumpK_sum (c c' : List Int) (k : Int) (hc : ∀ v ∈ c, (0 : Int) ≤ v) (hs : sumI c ≤ 1000000) (h : bumpK c k = some c') : sumI c' = sumI c + 1 ∧ ∀ v ∈ c', (0 : Int) ≤ v := by
  unfold bumpK idx at h
  by_cases h0 : 0 ≤ k
  · rw [if_pos h0] at h
    cases hg : c[k.toNat]? with
    | none => rw [hg] at h; cases h
    | some v =>
      rw [hg] at h
      obtain ⟨hk, hv⟩ := List.getElem?_eq_some_iff.1 hg
      have hv0 := hc v (hv ▸ List.getElem_mem hk)
      have hv1 := (sumI_nn c hc).2 v (hv ▸ List.getElem_mem hk)
      have hw : IntKind.i64.wrap (v + 1) = v + 1 := by rw [wrap_i64] <;> omega
      have e : c.set k.toNat (IntKind.i64.wrap (v + 1)) = c' := Option.some.inj h
      rw [hw] at e
      subst e
      refine ⟨by rw [sumI_set c k.toNat (v + 1) hk, hv]; omega, ?_⟩
      intro u hu
      rcases List.mem_or_eq_of_mem_set hu with hu | rfl
      · exact hc u hu
      · omega
  · rw [if_neg h0] at h
    cases h
theorem sum_ok (c : List Int) (hl : c.length ≤ 1000000) (hc : ∀ v ∈ c, (0 : Int) ≤ v) (hs : sumI c ≤ 1000000) : l_sum (c, ()) = some (sumI c, ()) := by
  have e := fold_ok (B := b_l_sum_3) c (fun (s : Int) i => (c, s, (i : Int), ())) (fun s v => IntKind.i64.wrap (s + v)) (fun s => .inl (s, ())) (fun s => by simp only [b_l_sum_3, lt_n]) (fun s i h => by
    simp only [b_l_sum_3, lt_i h, next_i h (show c.length ≤ 1099511627776 by omega), idx_nat h, onSome]) 0
  have key : ∀ (r : List Int) (a : Int), 0 ≤ a → (∀ v ∈ r, (0 : Int) ≤ v) → a + sumI r ≤ 1000000 → r.foldl (fun s v => IntKind.i64.wrap (s + v)) a = a + sumI r := by
    intro r
    induction r with
    | nil => intro a _ _ _; simp [sumI]
    | cons v r ih =>
      intro a h0 h1 h2
      have hv := h1 v (by simp)
      have hr := (sumI_nn r (fun u hu => h1 u (by simp [hu]))).1
      simp only [sumI] at h2
      have hw : IntKind.i64.wrap (a + v) = a + v := by rw [wrap_i64] <;> omega
      rw [List.foldl_cons, hw, ih (a + v) (by omega) (fun u hu => h1 u (by simp [hu])) (by omega)]
      simp [sumI]; omega
  have e' : loopL b_l_sum_3 (c, (0 : Int), (0 : Int), ()) = _ := e
  rw [key c 0 (by omega) hc (by omega)] at e'
  unfold l_sum
  simp only [e', Int.zero_add]

def bumpsF {T : Type} (f : T → Int) : List Int → List T → Option (List Int)
  | c, [] => some c
  | c, v :: r => match bumpK c (f v) with
    | none => none
    | some c' => bumpsF f c' r

/-- A loop that looks at each element, and counts it. -/
theorem checked_loop {T X O : Type} {B : X → Option (X ⊕ O)} (l : List T) (n : Nat) (p : T → Bool) (f : T → Int) (e : List Int → Nat → X) (fin : List Int → O) (o : O) (hend : ∀ s, B (e s l.length) = some (.inr (fin s)))
    (hstep : ∀ s i (h : i < l.length), B (e s i) = if p l[i] then (match bumpK s (f l[i]) with | none => none | some s' => some (.inl (e s' (i + 1)))) else some (.inr o)) (hf : ∀ v ∈ l, p v = true → 0 ≤ f v ∧ f v < (n : Int)) (c : List Int) (hc : c.length = n) (hn : ∀ v ∈ c, (0 : Int) ≤ v) (hs : sumI c + l.length ≤ 1000000) :
    (l.all p = true → ∃ c', bumpsF f c l = some c' ∧ loopL B (e c 0) = some (fin c') ∧ c'.length = n ∧ (∀ v ∈ c', (0 : Int) ≤ v) ∧ sumI c' = sumI c + l.length) ∧ (l.all p = false → loopL B (e c 0) = some o) := by
  have key : ∀ (k i : Nat) (s : List Int), i + k = l.length → s.length = n → (∀ v ∈ s, (0 : Int) ≤ v) → sumI s + k ≤ 1000000 →
      ((l.drop i).all p = true → ∃ c', bumpsF f s (l.drop i) = some c' ∧ loopL B (e s i) = some (fin c') ∧ c'.length = n ∧ (∀ v ∈ c', (0 : Int) ≤ v) ∧ sumI c' = sumI s + k) ∧ ((l.drop i).all p = false → loopL B (e s i) = some o) := by
    intro k
    induction k with
    | zero =>
      intro i s hi hs hv hsum
      have : i = l.length := by omega
      subst this
      rw [loopL_eq, hend]
      exact ⟨fun _ => ⟨s, by simp [bumpsF], rfl, hs, hv, by simp⟩, fun h => by simp at h⟩
    | succ k ih =>
      intro i s hi hs hv hsum
      have h : i < l.length := by omega
      rw [loopL_eq, hstep s i h, List.drop_eq_getElem_cons h, List.all_cons]
      cases hp : p l[i] with
      | false => simp
      | true =>
        obtain ⟨h0, h1⟩ := hf l[i] (List.getElem_mem h) hp
        obtain ⟨s', hb, hlen⟩ := bumpK_some s (f l[i]) h0 (by rw [hs]; exact h1)
        obtain ⟨h2, h3⟩ := bumpK_sum s s' (f l[i]) hv (by omega) hb
        simp only [if_true, hb, Bool.true_and]
        obtain ⟨g1, g2⟩ := ih (i + 1) s' (by omega) (by omega) h3 (by omega)
        refine ⟨fun ha => ?_, g2⟩
        obtain ⟨c', e0, e1, e2, e3, e4⟩ := g1 ha
        exact ⟨c', by simp only [bumpsF, hb]; exact e0, e1, e2, e3, by rw [e4, h2]; omega⟩
  have := key l.length 0 c (by omega) hc hn hs
  simpa using this
end Go.Proofs.Ytmdflpfagbcaiaa
