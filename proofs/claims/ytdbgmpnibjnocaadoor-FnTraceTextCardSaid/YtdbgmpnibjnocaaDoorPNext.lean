/- Plain laws: the source of draws. -/
import Derived.Test.YtdbgmpnibjnocaaDoorPIn
namespace Go.Proofs.YtdbgmpnibjnocaaDoor
open Go.RowKit
set_option linter.unusedVariables false
set_option linter.unusedSimpArgs false

/-- A source that can be drawn from. -/
structure Good (s : Tl01Source.T) : Prop where
  pos : (0 : Int) ≤ s.2.1
  le : (s.2.1 : Int) ≤ (s.1.length : Int)
  len : s.1.length ≤ maxLen
  bytes : ∀ b ∈ s.1, (0 : Int) ≤ b ∧ (b : Int) ≤ 255
  seed0 : (0 : Int) ≤ s.2.2.1
  seed1 : (s.2.2.1 : Int) < 2147483647

/-- A number that is drawn below n. -/
def drawn (n v : Int) : Prop := 0 ≤ v ∧ (v < n ∨ (n ≤ 1 ∧ v = 0))

theorem tmod_nn {m n : Int} (hm : 0 ≤ m) (hn : 0 < n) : 0 ≤ Int.tmod m n ∧ Int.tmod m n < n := ⟨Int.tmod_nonneg n hm, Int.tmod_lt_of_pos m hn⟩

theorem seed_next (s : Int) (h0 : 0 ≤ s) (h1 : s < 2147483647) : IntKind.i64.wrap (IntKind.i64.wrap (s * 48271) + 17) = s * 48271 + 17 := by
  rw [wrap_i64 (n := s * 48271) (by omega) (by omega), wrap_i64 (by omega) (by omega)]
def seedN (s : Int) : Int := Int.tmod (s * 48271 + 17) 2147483647
theorem seedN_in (s : Int) (h0 : 0 ≤ s) (h1 : s < 2147483647) : 0 ≤ seedN s ∧ seedN s < 2147483647 := tmod_nn (by omega) (by omega)

theorem next_ok (s : Tl01Source.T) (n : Int) (hs : Good s) : ∃ (v : Int) (s' : Tl01Source.T), s_l01Next (s, n, ()) = some (v, s', ()) ∧ drawn n v ∧ Good s' := by
  obtain ⟨l, (p : Int), (c : Int), u⟩ := s
  have p0 : 0 ≤ p := hs.pos
  have p1 : p ≤ (l.length : Int) := hs.le
  have pl : l.length ≤ 9223372036854775807 := hs.len
  have c0 : 0 ≤ c := hs.seed0
  have c1 : c < 2147483647 := hs.seed1
  obtain ⟨n0, n1⟩ := seedN_in c c0 c1
  have hw := seed_next c c0 c1
  unfold s_l01Next
  by_cases hn : n ≤ 1
  · exact ⟨0, (l, p, c, u), by simp only [decide_eq_true hn], ⟨by omega, Or.inr ⟨hn, rfl⟩⟩, hs⟩
  · have hn0 : n ≠ 0 := by omega
    have hnp : 0 < n := by omega
    have hdiv : Int.tdiv (seedN c) 23 = seedN c / 23 := Int.tdiv_eq_ediv_of_nonneg n0
    have hw2 : IntKind.i64.wrap (seedN c / 23) = seedN c / 23 := wrap_i64 (by omega) (by omega)
    have hseed : Int.tmod (IntKind.i64.wrap (IntKind.i64.wrap (c * 48271) + 17)) 2147483647 = seedN c := by rw [hw]; rfl
    have hnn : (n = 0) = False := by simp [hn0]
    by_cases hp : p < (l.length : Int)
    · obtain ⟨i, rfl⟩ : ∃ i : Nat, p = i := ⟨p.toNat, by omega⟩
      have hi : i < l.length := by omega
      obtain ⟨b0, b1⟩ := hs.bytes l[i] (List.getElem_mem hi)
      have hpn : IntKind.i64.wrap ((i : Int) + 1) = ((i + 1 : Nat) : Int) := by rw [wrap_i64] <;> omega
      have hpm : IntKind.i64.wrap (((i + 1 : Nat) : Int) - 1) = (i : Int) := by rw [wrap_i64] <;> omega
      have hg : Good (l, ((i + 1 : Nat) : Int), seedN c, ()) := ⟨by show (0 : Int) ≤ ((i + 1 : Nat) : Int); omega, by show ((i + 1 : Nat) : Int) ≤ (l.length : Int); omega, hs.len, hs.bytes, n0, n1⟩
      have hb : IntKind.i64.wrap l[i] = l[i] := wrap_i64 (Int.le_trans (by decide) b0) (Int.le_trans b1 (by decide))
      have hsum0 : (0 : Int) ≤ seedN c / 23 + l[i] := Int.add_nonneg (by omega) b0
      have hsum1 : seedN c / 23 + (l[i] : Int) ≤ 9223372036854775807 := by
        have := Int.add_le_add (show seedN c / 23 ≤ 2147483647 by omega) b1
        exact Int.le_trans this (by decide)
      have hws : IntKind.i64.wrap (seedN c / 23 + l[i]) = seedN c / 23 + l[i] := wrap_i64 (Int.le_trans (by decide) hsum0) hsum1
      have m1 := tmod_nn hsum0 hnp
      have m2 := tmod_nn b0 hnp
      simp only [decide_eq_false hn, decide_eq_true hp, hseed, hdiv, hw2, hpn, hpm, idx_nat hi, onSome, hb, hws, hnn, if_false]
      rcases Bool.eq_false_or_eq_true (decide (n ≤ 256)) with h1 | h1 <;> simp only [h1]
      · rcases Bool.eq_false_or_eq_true (Int.tmod ((i + 1 : Nat) : Int) 2 == 0) with h2 | h2 <;> simp only [h2]
        · exact ⟨_, _, rfl, ⟨m2.1, Or.inl m2.2⟩, hg⟩
        · exact ⟨_, _, rfl, ⟨m1.1, Or.inl m1.2⟩, hg⟩
      · exact ⟨_, _, rfl, ⟨m1.1, Or.inl m1.2⟩, hg⟩
    · have m1 := tmod_nn (m := seedN c / 23) (by omega) hnp
      simp only [decide_eq_false hn, decide_eq_false hp, hseed, hdiv, hw2, hnn, if_false]
      exact ⟨_, _, rfl, ⟨m1.1, Or.inl m1.2⟩, ⟨p0, p1, hs.len, hs.bytes, n0, n1⟩⟩

theorem from_ok (l : List Int) (hl : l.length ≤ 4096) (hb : ∀ b ∈ l, (0 : Int) ≤ b ∧ b ≤ 255) : ∃ s, s_l01From (l, ()) = some (s, ()) ∧ Good s := by
  have key : ∀ (k i : Nat) (c : Int), i + k = l.length → 0 ≤ c → c < 2147483647 → ∃ s, loopL b_s_l01From_3 (l, (l, (0 : Int), c, ()), (i : Int), ()) = some (.inl (s, ())) ∧ Good s := by
    intro k
    induction k with
    | zero =>
      intro i c hi h0 h1
      have : i = l.length := by omega
      subst this
      refine ⟨(l, (0 : Int), c, ()), ?_, ⟨Int.le_refl 0, by show (0 : Int) ≤ (l.length : Int); omega, by show l.length ≤ maxLen; unfold maxLen; omega, hb, h0, h1⟩⟩
      rw [loopL_eq]
      simp only [b_s_l01From_3, lt_n]
    | succ k ih =>
      intro i c hi h0 h1
      have h : i < l.length := by omega
      obtain ⟨b0, b1⟩ := hb l[i] (List.getElem_mem h)
      rw [loopL_eq]
      simp only [b_s_l01From_3, lt_i h]
      rcases Bool.eq_false_or_eq_true (decide ((i : Int) < 64)) with h64 | h64 <;> simp only [h64]
      · have hw1 : IntKind.i64.wrap (c * 53) = c * 53 := wrap_i64 (by omega) (by omega)
        have hw2 : IntKind.i64.wrap l[i] = l[i] := wrap_i64 (by omega) (by omega)
        have hw3 : IntKind.i64.wrap (c * 53 + l[i]) = c * 53 + l[i] := wrap_i64 (by omega) (by omega)
        have m := tmod_nn (m := c * 53 + l[i]) (n := 2147483647) (by omega) (by omega)
        simp only [idx_nat h, onSome, next_i h (show l.length ≤ 1099511627776 by omega), hw1, hw2, hw3]
        exact ih (i + 1) _ (by omega) m.1 m.2
      · exact ⟨(l, (0 : Int), c, ()), rfl, ⟨Int.le_refl 0, by show (0 : Int) ≤ (l.length : Int); omega, by show l.length ≤ maxLen; unfold maxLen; omega, hb, h0, h1⟩⟩
  obtain ⟨s, hs, hg⟩ := key l.length 0 40009 (by omega) (by omega) (by omega)
  have hs' : loopL b_s_l01From_3 (l, (l, (0 : Int), (40009 : Int), ()), (0 : Int), ()) = some (.inl (s, ())) := hs
  refine ⟨s, ?_, hg⟩
  unfold s_l01From
  simp only [hs']

theorem next_ne {s : Tl01Source.T} {n : Int} (hs : Good s) : s_l01Next (s, n, ()) ≠ none := by
  obtain ⟨v, s', h, _⟩ := next_ok s n hs
  rw [h]
  simp
theorem next_some {s : Tl01Source.T} {n : Int} {v} (hs : Good s) (h : s_l01Next (s, n, ()) = some v) : drawn n v.1 ∧ Good (v.2.1.1, v.2.1.2.1, v.2.1.2.2.1, ()) := by
  obtain ⟨v', s', h', hd, hg⟩ := next_ok s n hs
  rw [h'] at h
  cases h
  exact ⟨hd, hg⟩
theorem good_eta {s : Tl01Source.T} (h : Good s) : Good (s.1, s.2.1, s.2.2.1, ()) := h
/-- A number that is drawn chooses one of a list. -/
theorem pick {α : Type} {n v : Int} (l : List α) (hd : drawn n v) (hn : n ≤ l.length) (h1 : 1 ≤ l.length) : ∃ y, idx l v = some y ∧ l[v.toNat]? = some y ∧ y ∈ l := by
  obtain ⟨h0, h⟩ := hd
  have hv : v.toNat < l.length := by omega
  refine ⟨l[v.toNat], ?_, ?_, List.getElem_mem hv⟩
  · unfold idx
    rw [if_pos h0, List.getElem?_eq_getElem hv]
  · rw [List.getElem?_eq_getElem hv]
/-- What a draw leaves: something, and a source that can be drawn from. -/
theorem pick_ok {α β : Type} {n v : Int} (l : List α) (K : α → Option β) (hd : drawn n v) (hn : n ≤ l.length) (h1 : 1 ≤ l.length) : ∃ y ∈ l, (onSome (idx l v) fun _ => match l[v.toNat]? with | none => none | some y => K y) = K y := by
  obtain ⟨y, h2, h3, h4⟩ := pick l hd hn h1
  exact ⟨y, h4, by rw [h2]; simp only [onSome]; rw [h3]⟩
theorem pick_idx {α : Type} {n v : Int} {l : List α} (hd : drawn n v) (hn : n ≤ l.length) (h1 : 1 ≤ l.length) : ∃ y, idx l v = some y := by
  obtain ⟨y, h2, h3, h4⟩ := pick l hd hn h1
  exact ⟨y, h2⟩
theorem pick_get {α : Type} {n v : Int} {l : List α} (hd : drawn n v) (hn : n ≤ l.length) (h1 : 1 ≤ l.length) : l[v.toNat]? ≠ none := by
  obtain ⟨y, h2, h3, h4⟩ := pick l hd hn h1
  rw [h3]; simp
theorem pick_idx_ne {α : Type} {n v : Int} {l : List α} (hd : drawn n v) (hn : n ≤ l.length) (h1 : 1 ≤ l.length) : idx l v ≠ none := by
  obtain ⟨y, h⟩ := pick_idx hd hn h1
  rw [h]; simp
theorem bytes_of {l : List Int} (hx : Wf (.list (.int .u8)) l) : ∀ b ∈ l, (0 : Int) ≤ b ∧ b ≤ 255 := by
  intro b hb
  have h1 : (Lit.int .u8 b).wf = true := hx.2 b hb
  simp [Lit.wf, IntKind.min, IntKind.max, IntKind.signed, IntKind.bits] at h1
  omega
end Go.Proofs.YtdbgmpnibjnocaaDoor
