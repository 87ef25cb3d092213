/- Plain laws: what is so when a leader is found. -/
import Derived.Test.YtmdflpfagbcaiaaPJoin
import Derived.Test.YtmdflpfagbcaiaaPDue
namespace Go.Proofs.Ytmdflpfagbcaiaa
open Go.RowKit
set_option linter.unusedVariables false
set_option linter.unusedSimpArgs false

theorem starters_go : ∀ (l done : List TStarter.T), startersGo done l = true → (∀ v ∈ l, starterB v = true) ∧ (∀ j (h : j < l.length), ∀ u ∈ done ++ l.take j, clashB l[j] u = false)
  | [], done, _ => by simp
  | v :: r, done, h => by
    unfold startersGo at h
    simp only [Bool.and_eq_true, Bool.not_eq_true'] at h
    obtain ⟨⟨h1, h2⟩, h3⟩ := h
    obtain ⟨h4, h5⟩ := starters_go r (done ++ [v]) h3
    refine ⟨fun w hw => by
      rcases List.mem_cons.1 hw with rfl | hw
      · exact h1
      · exact h4 _ hw, fun j hj u hu => ?_⟩
    cases j with
    | zero =>
      have hu : u ∈ done := by simpa using hu
      have := List.any_eq_false.1 h2 u hu
      simpa using this
    | succ j => exact h5 j (by simpa using hj) u (by simpa using hu)
theorem starters_all {l : List TStarter.T} (h : startersB l = true) : ∀ v ∈ l, starterB v = true := by
  unfold startersB at h
  simp only [Bool.and_eq_true] at h
  exact (starters_go l [] h.1).1
theorem starters_apart {l : List TStarter.T} (h : startersB l = true) {i j : Nat} (hi : i < j) (hj : j < l.length) : l[i].1 ≠ l[j].1 ∧ l[i].2.2.2.1 ≠ l[j].2.2.2.1 := by
  unfold startersB at h
  simp only [Bool.and_eq_true] at h
  have := (starters_go l [] h.1).2 j hj l[i] (by
    rw [List.nil_append]
    exact List.mem_take_iff_getElem.2 ⟨i, by omega, rfl⟩)
  unfold clashB at this
  simpa using this
theorem starters_ne {l : List TStarter.T} (h : startersB l = true) {i j : Nat} (hi : i < l.length) (hj : j < l.length) (hne : i ≠ j) : l[i].1 ≠ l[j].1 := by
  rcases Nat.lt_or_gt_of_ne hne with h1 | h1
  · exact (starters_apart h h1 hj).1
  · exact fun e => (starters_apart h h1 hi).1 e.symm
structure InS (w t u : Int) : Prop where
  w0 : 0 ≤ w
  w1 : w ≤ 100000
  t0 : 1 ≤ t
  t1 : t ≤ 100000
  u0 : 1 ≤ u
  u1 : u ≤ 100000
theorem starter_in {v : TStarter.T} (h : starterB v = true) : InS v.2.1 v.2.2.1 v.2.2.2.1 := by
  unfold starterB at h
  simp only [Bool.and_eq_true] at h
  have h1 := in_iff.1 h.1.1.2
  have h2 := in_iff.1 h.1.2
  have h3 := in_iff.1 h.2
  exact ⟨h1.1, h1.2, h2.1, h2.2, h3.1, h3.2⟩

/-- Times that are due, each behind its node's waking. -/
structure InD (l : List TStarter.T) (K : Int) (d : List Int) : Prop where
  len : d.length = l.length
  at' : ∀ (i : Nat) (v : TStarter.T) (t : Int), l[i]? = some v → d[i]? = some t → (v.2.1 : Int) ≤ t ∧ 0 ≤ t ∧ t ≤ K
theorem InD.mem {l K d} (h : InD l K d) {t : Int} (ht : t ∈ d) : 0 ≤ t ∧ t ≤ K := by
  obtain ⟨i, hi, rfl⟩ := List.getElem_of_mem ht
  have hl : i < l.length := by rw [← h.len]; exact hi
  exact (h.at' i l[i] d[i] (List.getElem?_eq_getElem hl) (List.getElem?_eq_getElem hi)).2
theorem due_in {l : List TStarter.T} (h : startersB l = true) : InD l 200000 (dueL l) := by
  refine ⟨by simp [dueL], fun i v t hv ht => ?_⟩
  have h1 := starter_in (starters_all h v (List.mem_of_getElem? hv))
  unfold dueL at ht
  rw [List.getElem?_map, hv] at ht
  obtain ⟨n, (a : Int), (b : Int), (c : Int), u⟩ := v
  have ht : IntKind.i64.wrap (a + b) = t := Option.some.inj ht
  obtain ⟨a1, a2, b1, b2, c1, c2⟩ : InS a b c := h1
  rw [wrap_i64 (by omega) (by omega)] at ht
  show a ≤ t ∧ 0 ≤ t ∧ t ≤ 200000
  omega
theorem least_le {d : List Int} : ∀ u ∈ d, leastI d ≤ u := by
  intro u hu
  cases d with
  | nil => cases hu
  | cons v r =>
    have := (le_min (leastI (v :: r)) r v).1 (Int.le_refl _)
    rcases List.mem_cons.1 hu with rfl | hu
    · exact this.1
    · exact this.2 u hu
theorem collide_in {l : List TStarter.T} (hs : startersB l = true) {K : Int} {d : List Int} (h : InD l K d) (h1 : 1 ≤ l.length) (hK : K ≤ 1000000000) : InD l (K + 100000) (collideL l d) := by
  refine ⟨by rw [collide_len]; exact h.len, fun i v t hv ht => ?_⟩
  have hm := h.mem (least_mem (l := d) (by rw [h.len]; exact h1))
  unfold collideL at ht
  rw [mapI_get] at ht
  have hi : i < d.length := by
    rw [h.len]; exact (List.getElem?_eq_some_iff.1 hv).1
  rw [List.getElem?_eq_getElem hi] at ht
  have ht : turnI l (leastI d) (0 + i) d[i] = t := Option.some.inj ht
  have h2 := h.at' i v d[i] hv (List.getElem?_eq_getElem hi)
  have hin := starter_in (starters_all hs v (List.mem_of_getElem? hv))
  unfold turnI at ht
  rw [Nat.zero_add, hv] at ht
  obtain ⟨n, (a : Int), (b : Int), (c : Int), u⟩ := v
  obtain ⟨a1, a2, b1, b2, c1, c2⟩ : InS a b c := hin
  have h2 : a ≤ d[i] ∧ 0 ≤ d[i] ∧ d[i] ≤ K := h2
  generalize leastI d = m at *
  have ht : (if d[i] == m then IntKind.i64.wrap (m + c) else if decide (a ≤ m) then IntKind.i64.wrap (m + b) else d[i]) = t := ht
  show a ≤ t ∧ 0 ≤ t ∧ t ≤ K + 100000
  rw [wrap_i64 (n := m + c) (by omega) (by omega), wrap_i64 (n := m + b) (by omega) (by omega)] at ht
  split at ht
  · rename_i he
    have he : d[i] = m := by simpa using he
    omega
  · split at ht
    · rename_i he
      have he : a ≤ m := by simpa using he
      omega
    · omega

theorem dueGo_succ (l : List TStarter.T) : ∀ (m : Nat) (d : List Int), dueGo l (m + 1) d = (dueGo l m d).bind (fun d' => if (leastL d').length = 1 then none else some (collideL l d'))
  | 0, d => by
    unfold dueGo
    simp only [dueGo, Option.bind_some]
  | m + 1, d => by
    rw [dueGo]
    by_cases h : (leastL d).length = 1
    · simp [h, dueGo]
    · rw [if_neg h, dueGo_succ l m (collideL l d)]
      conv => rhs; rw [dueGo, if_neg h]
theorem lead_facts {l : List TStarter.T} (hs : startersB l = true) (h1 : 1 ≤ l.length) : ∀ (n : Nat) (d : List Int) (k : Nat) (K : Int) {a t j}, InD l K d → K + 100000 * n ≤ 1000000000 → leadGo l n d k = some (a, t, j) →
    ∃ dj, dueGo l (j - k) d = some dj ∧ InD l (K + 100000 * n) dj ∧ leastL dj = [(a : Int)] ∧ t = leastI dj ∧ k ≤ j ∧ j < k + n
  | 0, d, k, K, a, t, j, _, _, h => by cases h
  | n + 1, d, k, K, a, t, j, hd, hK, h => by
    unfold leadGo at h
    split at h
    · rename_i hone
      obtain ⟨k', r, hk, hv, hkl⟩ := least_some (l := d) (by rw [hd.len]; exact h1)
      have hr : r = [] := by rw [hk] at hone; simpa using hone
      subst hr
      rw [hk] at h
      cases h
      refine ⟨d, by simp [dueGo], ⟨hd.len, fun i v t h1 h2 => ?_⟩, ?_, rfl, by omega, by omega⟩
      · obtain ⟨a1, a2, a3⟩ := hd.at' i v t h1 h2
        exact ⟨a1, a2, by omega⟩
      · rw [hk]; simp
    · rename_i hone
      have hc := collide_in hs hd h1 (by omega)
      obtain ⟨dj, h2, h3, h4, h5, h6, h7⟩ := lead_facts hs h1 n (collideL l d) (k + 1) (K + 100000) hc (by omega) h
      refine ⟨dj, ?_, ⟨h3.len, fun i v t h1 h2 => ?_⟩, h4, h5, by omega, by omega⟩
      · have : j - k = (j - (k + 1)) + 1 := by omega
        rw [this, dueGo, if_neg hone]
        exact h2
      · obtain ⟨a1, a2, a3⟩ := h3.at' i v t h1 h2
        exact ⟨a1, a2, by omega⟩
/-- Who leads, and when. -/
theorem lead_who {d : List Int} {a : Nat} (h : leastL d = [(a : Int)]) : d[a]? = some (leastI d) ∧ ∀ i (hi : i < d.length), i ≠ a → leastI d < d[i] := by
  constructor
  · have : (a : Int) ∈ leastL d := by rw [h]; simp
    obtain ⟨j, h1, h2⟩ := (firsts_in _ _ _).1 this
    have : a = j := by omega
    subst this
    exact h2
  · intro i hi hne
    have h1 := least_le d[i] (List.getElem_mem hi)
    by_cases he : d[i] = leastI d
    · have : (i : Int) ∈ leastL d := (firsts_in _ _ _).2 ⟨i, rfl, by rw [List.getElem?_eq_getElem hi, he]⟩
      rw [h] at this
      have : (i : Int) = a := by simpa using this
      omega
    · omega
end Go.Proofs.Ytmdflpfagbcaiaa
