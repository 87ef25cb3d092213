/- Plain laws: clocks that are drawn. -/
import Derived.Test.YtoppfeehgkpjkaaPDown
import Derived.Test.YtoppfeehgkpjkaaPPush
namespace Go.Proofs.Ytoppfeehgkpjkaa
open Go.RowKit
set_option linter.unusedVariables false
set_option linter.unusedSimpArgs false

theorem tol_loop (n : Nat) (hn : n ≤ 100) (x) (h0 : (x.2.2.1 : Int) = (n : Nat)) (hg : Good x.1) (hl : x.2.1.length = 0) : ∃ o, loopL b_s_DrawToleratedMean_4 x = some (.inl o) ∧ Good o.1 ∧ o.2.1.length = n := by
  obtain ⟨o, h1, h2⟩ := down_ok (B := b_s_DrawToleratedMean_4) (fun k x => (x.2.2.1 : Int) = (k : Nat) ∧ Good x.1 ∧ x.2.1.length + k = n) (fun o => match o with
    | .inl v => Good v.1 ∧ v.2.1.length = n
    | .inr _ => False) (fun x ⟨hk, hg, hl⟩ => by
      unfold b_s_DrawToleratedMean_4
      rw [hk]
      simp only [down_f]
      exact ⟨_, rfl, hg, by omega⟩) (fun k x ⟨hk, hg, hl⟩ => by
      have hg := good_eta hg
      unfold b_s_DrawToleratedMean_4
      rw [hk, down_w (by omega)]
      simp only [down_t]
      split; (rename_i h; exact absurd h (next_ne (by assumption)))
      rename_i v h
      obtain ⟨hd, hg⟩ := next_some (by assumption) h
      rw [room_ok (by simp; omega)]
      exact ⟨_, rfl, rfl, by assumption, by simp; omega⟩) n x ⟨h0, hg, by omega⟩
  cases o with
  | inr v => exact h2.elim
  | inl v => exact ⟨v, h1, h2.1, h2.2⟩
theorem drawTol (l : List Int) (hl : l.length ≤ 4096) (hb : ∀ b ∈ l, (0 : Int) ≤ b ∧ b ≤ 255) : ∃ t : List Int, s_DrawToleratedMean (l, ()) = some (t, ()) ∧ t.length ≤ 100 := by
  obtain ⟨s, hs, hg⟩ := from_ok l hl hb
  have hg := good_eta hg
  unfold s_DrawToleratedMean
  simp only [hs, onSome]
  split; (rename_i h; exact absurd h (next_ne (by assumption)))
  rename_i v h
  obtain ⟨hd, hg⟩ := next_some (by assumption) h
  obtain ⟨k, hk, hk6⟩ := drawn_nat hd (by omega)
  have hw : IntKind.i64.wrap ((1 : Int) + v.1) = ((k + 1 : Nat) : Int) := by rw [hk, wrap_i64] <;> omega
  obtain ⟨o, ho, hgo, hlo⟩ := tol_loop (k + 1) (by omega) ((v.2.1.1, v.2.1.2.1, v.2.1.2.2.1, ()), [], IntKind.i64.wrap ((1 : Int) + v.1), ()) hw hg (by simp)
  have hgo := good_eta hgo
  rw [ho]
  simp only
  split; (rename_i h; exact absurd h (next_ne (by assumption)))
  rename_i v6 h6
  obtain ⟨hd6, hg6⟩ := next_some (by assumption) h6
  have h0 : 0 < o.2.1.length := by omega
  split
  · split; (rename_i h; exact absurd h (next_ne (by assumption)))
    rename_i v7 h7
    obtain ⟨hd7, hg7⟩ := next_some (by assumption) h7
    split; rotate_left; (rename_i h; exact absurd h (pick_idx_ne hd7 (by simp) (by simp)))
    split; (rename_i h; exact absurd h (pick_get hd7 (by simp) (by simp)))
    have hi : idx o.2.1 (0 : Int) = some o.2.1[0] := idx_nat h0
    have hg : o.2.1[(0 : Int).toNat]? = some o.2.1[0] := List.getElem?_eq_getElem h0
    rw [hi, hg]
    exact ⟨_, rfl, by simp; omega⟩
  · split
    · split; (rename_i h; exact absurd h (next_ne (by assumption)))
      rename_i v7 h7
      obtain ⟨hd7, hg7⟩ := next_some (by assumption) h7
      obtain ⟨k7, hk7, hk76⟩ := drawn_nat hd7 (by omega)
      have hw : IntKind.i64.wrap ((33 : Int) * v7.1) = ((33 * k7 : Nat) : Int) := by rw [hk7, wrap_i64] <;> omega
      rw [hw, if_pos ⟨by omega, by omega⟩, room_ok (by omega)]
      exact ⟨_, rfl, by simp; omega⟩
    · exact ⟨_, rfl, by omega⟩
theorem drawLeft (l : List Int) (hl : l.length ≤ 4096) (hb : ∀ b ∈ l, (0 : Int) ≤ b ∧ b ≤ 255) : ∃ n : Int, s_DrawLeftOut (l, ()) = some (n, ()) := by
  obtain ⟨s, hs, hg⟩ := from_ok l hl hb
  have hg := good_eta hg
  unfold s_DrawLeftOut
  simp only [hs]
  split; (rename_i h; exact absurd h (next_ne (by assumption)))
  exact ⟨_, rfl⟩

theorem clocks_loop (n : Nat) (hn : n ≤ 100) (x) (h0 : (x.2.2.2.1 : Int) = (n : Nat)) (hg : Good x.1) (hl : x.2.1.length = 0) : ∃ o, loopL b_s_l30Draw_4 x = some (.inl o) ∧ Good o.1 ∧ o.2.1.length = n := by
  obtain ⟨o, h1, h2⟩ := down_ok (B := b_s_l30Draw_4) (fun k x => (x.2.2.2.1 : Int) = (k : Nat) ∧ Good x.1 ∧ x.2.1.length + k = n) (fun o => match o with
    | .inl v => Good v.1 ∧ v.2.1.length = n
    | .inr _ => False) (fun x ⟨hk, hg, hl⟩ => by
      unfold b_s_l30Draw_4
      rw [hk]
      simp only [down_f]
      exact ⟨_, rfl, hg, by omega⟩) (fun k x ⟨hk, hg, hl⟩ => by
      have hg := good_eta hg
      unfold b_s_l30Draw_4
      rw [hk, down_w (by omega)]
      simp only [down_t]
      split; (rename_i h; exact absurd h (next_ne (by assumption)))
      rename_i v h
      obtain ⟨hd, hg⟩ := next_some (by assumption) h
      rw [room_ok (by simp; omega)]
      exact ⟨_, rfl, rfl, by assumption, by simp; omega⟩) n x ⟨h0, hg, by omega⟩
  cases o with
  | inr v => exact h2.elim
  | inl v => exact ⟨v, h1, h2.1, h2.2⟩
theorem drawClk {s : Tl01Source.T} (hs : Good s) : ∃ (t : List Int) (s' : Tl01Source.T), s_l30Draw (s, ()) = some (t, s', ()) ∧ Good s' ∧ t.length ≤ 100 := by
  have hs := good_eta hs
  unfold s_l30Draw
  simp only [onSome]
  split; (rename_i h; exact absurd h (next_ne (by assumption)))
  rename_i v1 h1
  obtain ⟨hd1, hg1⟩ := next_some (by assumption) h1
  split; (rename_i h; exact absurd h (next_ne (by assumption)))
  rename_i v h
  obtain ⟨hd, hg⟩ := next_some (by assumption) h
  obtain ⟨k, hk, hk6⟩ := drawn_nat hd (by omega)
  have hw : IntKind.i64.wrap ((1 : Int) + v.1) = ((k + 1 : Nat) : Int) := by rw [hk, wrap_i64] <;> omega
  obtain ⟨o, ho, hgo, hlo⟩ := clocks_loop (k + 1) (by omega) ((v.2.1.1, v.2.1.2.1, v.2.1.2.2.1, ()), [], v1.1, IntKind.i64.wrap ((1 : Int) + v.1), ()) hw hg (by simp)
  have hgo := good_eta hgo
  rw [ho]
  simp only
  split; (rename_i h; exact absurd h (next_ne (by assumption)))
  rename_i v6 h6
  obtain ⟨hd6, hg6⟩ := next_some (by assumption) h6
  have h0 : 0 < o.2.1.length := by omega
  split
  · split; (rename_i h; exact absurd h (next_ne (by assumption)))
    rename_i v7 h7
    obtain ⟨hd7, hg7⟩ := next_some (by assumption) h7
    split; rotate_left; (rename_i h; exact absurd h (pick_idx_ne hd7 (by simp) (by simp)))
    split; (rename_i h; exact absurd h (pick_get hd7 (by simp) (by simp)))
    have hi : idx o.2.1 (0 : Int) = some o.2.1[0] := idx_nat h0
    have hg : o.2.1[(0 : Int).toNat]? = some o.2.1[0] := List.getElem?_eq_getElem h0
    rw [hi, hg]
    exact ⟨_, _, rfl, hg7, by simp; omega⟩
  · split
    · split; (rename_i h; exact absurd h (next_ne (by assumption)))
      rename_i v7 h7
      obtain ⟨hd7, hg7⟩ := next_some (by assumption) h7
      obtain ⟨k7, hk7, hk76⟩ := drawn_nat hd7 (by omega)
      have hw : IntKind.i64.wrap ((32 : Int) + v7.1) = ((32 + k7 : Nat) : Int) := by rw [hk7, wrap_i64] <;> omega
      rw [hw, if_pos ⟨by omega, by omega⟩, room_ok (by omega)]
      exact ⟨_, _, rfl, hg7, by simp; omega⟩
    · split
      · exact ⟨_, _, rfl, hg6, by simp⟩
      · exact ⟨_, _, rfl, hg6, by omega⟩
theorem drawCC (l : List Int) (hl : l.length ≤ 4096) (hb : ∀ b ∈ l, (0 : Int) ≤ b ∧ b ≤ 255) : ∃ t : List Int, s_DrawCorrectClocks (l, ()) = some (t, ()) ∧ t.length ≤ 100 := by
  obtain ⟨s, hs, hg⟩ := from_ok l hl hb
  have hg := good_eta hg
  obtain ⟨t, s', h1, h2, h3⟩ := drawClk hg
  unfold s_DrawCorrectClocks
  simp only [hs, h1]
  exact ⟨t, rfl, h3⟩
theorem around_loop (t : List Int) (ht : t.length ≤ 100) : ∀ (k i : Nat) (s : Tl01Source.T) (m : List Int), i + k = t.length → Good s → m.length = i → ∃ (s' : Tl01Source.T) (m' : List Int), loopL b_s_DrawCorrectAround_5 (s, t, m, (i : Int), ()) = some (.inl (s', t, m', ())) ∧ Good s' ∧ m'.length = t.length
  | 0, i, s, m, hi, hs, hm => by
    have : i = t.length := by omega
    subst this
    refine ⟨s, m, ?_, hs, hm⟩
    rw [loopL_eq]
    simp only [b_s_DrawCorrectAround_5, lt_n]
  | k + 1, i, s, m, hi, hs, hm => by
    have hil : i < t.length := by omega
    have hs := good_eta hs
    obtain ⟨v, s1, h1, h2, h3⟩ := next_ok _ 2000 hs
    obtain ⟨s', m', h4, h5, h6⟩ := around_loop t ht k (i + 1) (s1.1, s1.2.1, s1.2.2.1, ()) (m ++ [v]) (by omega) h3 (by simp; omega)
    refine ⟨s', m', ?_, h5, h6⟩
    rw [loopL_eq]
    simp only [b_s_DrawCorrectAround_5, lt_i hil, h1, next_i hil (show t.length ≤ 1099511627776 by omega)]
    rw [room_ok (by simp; omega)]
    exact h4
theorem drawCA (l : List Int) (hl : l.length ≤ 4096) (hb : ∀ b ∈ l, (0 : Int) ≤ b ∧ b ≤ 255) : ∃ (t : List Int) (f : Int) (m : List Int), s_DrawCorrectAround (l, ()) = some (t, f, m, ()) ∧ t.length ≤ 100 ∧ m.length ≤ 200 := by
  obtain ⟨s, hs, hg⟩ := from_ok l hl hb
  have hg := good_eta hg
  obtain ⟨t, s', h1, h2, h3⟩ := drawClk hg
  have h2 := good_eta h2
  obtain ⟨s2, m, h4, h5, h6⟩ := around_loop t h3 t.length 0 (s'.1, s'.2.1, s'.2.2.1, ()) [] (by omega) h2 rfl
  have h4' : loopL b_s_DrawCorrectAround_5 ((s'.1, s'.2.1, s'.2.2.1, ()), t, [], (0 : Int), ()) = _ := h4
  have h5 := good_eta h5
  unfold s_DrawCorrectAround
  simp only [hs, h1, h4', onSome]
  split; (rename_i h; exact absurd h (next_ne (by assumption)))
  rename_i v6 h6'
  obtain ⟨hd6, hg6⟩ := next_some (by assumption) h6'
  split
  · rw [room_ok (by simp; omega)]
    split; (rename_i h; exact absurd h (next_ne (by assumption)))
    rename_i v h
    obtain ⟨hd, hg⟩ := next_some (by assumption) h
    split; (rename_i h; exact absurd h (next_ne (by assumption)))
    exact ⟨_, _, _, rfl, h3, by simp; omega⟩
  · split
    · split
      · rename_i hgt
        have h0 : 0 < m.length := by
          have := of_decide_eq_true hgt
          omega
        split; (rename_i h; exact absurd h (next_ne (by assumption)))
        rename_i v7 h7
        obtain ⟨hd7, hg7⟩ := next_some (by assumption) h7
        split; rotate_left; (rename_i h; exact absurd h (pick_idx_ne hd7 (by simp) (by simp)))
        split; (rename_i h; exact absurd h (pick_get hd7 (by simp) (by simp)))
        have hi : idx m (0 : Int) = some m[0] := idx_nat h0
        have hg : m[(0 : Int).toNat]? = some m[0] := List.getElem?_eq_getElem h0
        rw [hi, hg]
        simp only
        split; (rename_i h; exact absurd h (next_ne (by assumption)))
        rename_i v h
        obtain ⟨hd, hg⟩ := next_some (by assumption) h
        split; (rename_i h; exact absurd h (next_ne (by assumption)))
        exact ⟨_, _, _, rfl, h3, by simp; omega⟩
      · split; (rename_i h; exact absurd h (next_ne (by assumption)))
        rename_i v h
        obtain ⟨hd, hg⟩ := next_some (by assumption) h
        split; (rename_i h; exact absurd h (next_ne (by assumption)))
        exact ⟨_, _, _, rfl, h3, by omega⟩
    · split; (rename_i h; exact absurd h (next_ne (by assumption)))
      rename_i v h
      obtain ⟨hd, hg⟩ := next_some (by assumption) h
      split; (rename_i h; exact absurd h (next_ne (by assumption)))
      exact ⟨_, _, _, rfl, h3, by omega⟩
end Go.Proofs.Ytoppfeehgkpjkaa
