/- Plain laws: starters that are drawn. -/
import Derived.Test.YtmdflpfagbcaiaaPDown
import Derived.Test.YtmdflpfagbcaiaaPDrawState
import Derived.Test.YtmdflpfagbcaiaaPPush
namespace Go.Proofs.Ytmdflpfagbcaiaa
open Go.RowKit
set_option linter.unusedVariables false
set_option linter.unusedSimpArgs false

theorem drawStart_loop {s : Tl01Source.T} (hs : Good s) (n : Nat) (h0 : 1 ≤ n) (hn : n ≤ 10) : ∃ (s' : Tl01Source.T) (l : List TStarter.T), loopL b_s_l31Draw_4 (s, [], (0 : Int), (n : Int), ()) = some (.inl (s', l, ())) ∧ Good s' ∧ 1 ≤ l.length ∧ l.length ≤ 10 := by
  obtain ⟨o, h1, h2⟩ := down_ok (B := b_s_l31Draw_4) (fun k x => (x.2.2.2.1 : Int) = (k : Nat) ∧ Good x.1 ∧ x.2.1.length + k = n) (fun o => match o with
    | .inl v => Good v.1 ∧ v.2.1.length = n
    | .inr _ => False) (fun x ⟨hk, hg, hl⟩ => by
      unfold b_s_l31Draw_4
      rw [hk]
      simp only [down_f]
      exact ⟨_, rfl, hg, by omega⟩) (fun k x ⟨hk, hg, hl⟩ => by
      have hg := good_eta hg
      unfold b_s_l31Draw_4
      rw [hk, down_w (by omega)]
      simp only [down_t]
      repeat' first
        | exact ⟨_, rfl, rfl, by assumption, by simp; omega⟩
        | (split; (rename_i h; exact absurd h (next_ne (by assumption))); rename_i v h; obtain ⟨hd, hg⟩ := next_some (by assumption) h)
        | rw [room_ok (by simp; omega)]
        | split) n (s, [], (0 : Int), (n : Int), ()) ⟨rfl, hs, by simp⟩
  cases o with
  | inr v => exact h2.elim
  | inl v =>
    obtain ⟨s', l, u⟩ := v
    obtain ⟨h3, h4⟩ := h2
    have h4 : l.length = n := h4
    exact ⟨s', l, h1, h3, by omega, by omega⟩
theorem drawStart {s : Tl01Source.T} (hs : Good s) : ∃ (l : List TStarter.T) (s' : Tl01Source.T), s_l31Draw (s, ()) = some (l, s', ()) ∧ Good s' ∧ l.length ≤ 10 := by
  have hs := good_eta hs
  unfold s_l31Draw
  simp only [onSome]
  split; (rename_i h; exact absurd h (next_ne (by assumption)))
  rename_i v h
  obtain ⟨hd, hg⟩ := next_some (by assumption) h
  obtain ⟨k, hk, hk6⟩ := drawn_nat hd (by omega)
  have hw : IntKind.i64.wrap ((1 : Int) + v.1) = ((k + 1 : Nat) : Int) := by rw [hk, wrap_i64] <;> omega
  obtain ⟨s', l, h1, h2, h3, h4⟩ := drawStart_loop hg (k + 1) (by omega) (by omega)
  have h2 := good_eta h2
  rw [hw, h1]
  simp only
  repeat' first
    | exact ⟨_, _, rfl, by assumption, by first | assumption | (simp; omega) | (simp; done)⟩
    | (split; (rename_i h; exact absurd h (next_ne (by assumption))); rename_i v h; obtain ⟨hd, hg⟩ := next_some (by assumption) h)
    | (split; rotate_left; (rename_i h; exact absurd h (pick_idx_ne (by assumption) (by first | simp | omega) (by first | simp | omega))))
    | (split; (rename_i h; exact absurd h (pick_get (by assumption) (by first | simp | omega) (by first | simp | omega))); rename_i v h)
    | split

theorem drawLeader (l : List Int) (hl : l.length ≤ 4096) (hb : ∀ b ∈ l, (0 : Int) ≤ b ∧ b ≤ 255) : ∃ t : List TStarter.T, s_DrawLeaderOf (l, ()) = some (t, ()) ∧ t.length ≤ 10 := by
  obtain ⟨s, hs, hg⟩ := from_ok l hl hb
  have hg := good_eta hg
  obtain ⟨t, s', h1, h2, h3⟩ := drawStart hg
  unfold s_DrawLeaderOf
  simp only [hs, h1]
  exact ⟨t, rfl, h3⟩
theorem drawFirst (l : List Int) (hl : l.length ≤ 4096) (hb : ∀ b ∈ l, (0 : Int) ≤ b ∧ b ≤ 255) : ∃ t : List TStarter.T, s_DrawFirstStart (l, ()) = some (t, ()) ∧ t.length ≤ 10 := by
  obtain ⟨s, hs, hg⟩ := from_ok l hl hb
  have hg := good_eta hg
  obtain ⟨t, s', h1, h2, h3⟩ := drawStart hg
  unfold s_DrawFirstStart
  simp only [hs, h1]
  exact ⟨t, rfl, h3⟩
theorem drawWithout (l : List Int) (hl : l.length ≤ 4096) (hb : ∀ b ∈ l, (0 : Int) ≤ b ∧ b ≤ 255) : ∃ (t : List TStarter.T) (n : Int), s_DrawWithoutStarter (l, ()) = some (t, n, ()) ∧ t.length ≤ 10 := by
  obtain ⟨s, hs, hg⟩ := from_ok l hl hb
  have hg := good_eta hg
  obtain ⟨t, s', h1, h2, h3⟩ := drawStart hg
  have h2 := good_eta h2
  obtain ⟨v, s3, h4, h5, h6⟩ := next_ok _ 6 h2
  unfold s_DrawWithoutStarter
  simp only [hs, h1, h4]
  exact ⟨t, v, rfl, h3⟩
theorem drawJoin (l : List Int) (hl : l.length ≤ 4096) (hb : ∀ b ∈ l, (0 : Int) ≤ b ∧ b ≤ 255) : ∃ (t : List TStarter.T) (n : Int), s_DrawJoinTimes (l, ()) = some (t, n, ()) ∧ t.length ≤ 10 := by
  obtain ⟨s, hs, hg⟩ := from_ok l hl hb
  have hg := good_eta hg
  obtain ⟨t, s', h1, h2, h3⟩ := drawStart hg
  have h2 := good_eta h2
  unfold s_DrawJoinTimes
  simp only [hs, h1, same_eq, onSome]
  repeat' first
    | exact ⟨_, _, rfl, by assumption⟩
    | (split; (rename_i h; exact absurd h (next_ne (by assumption))); rename_i v h; obtain ⟨hd, hg⟩ := next_some (by assumption) h)
    | (split; rotate_left; (rename_i h; exact absurd h (pick_idx_ne (by assumption) (by first | simp | omega) (by first | simp | omega))))
    | (split; (rename_i h; exact absurd h (pick_get (by assumption) (by first | simp | omega) (by first | simp | omega))); rename_i v h)
theorem drawDue (l : List Int) (hl : l.length ≤ 4096) (hb : ∀ b ∈ l, (0 : Int) ≤ b ∧ b ≤ 255) : ∃ (t : List TStarter.T) (n : Int), s_DrawDueTimes (l, ()) = some (t, n, ()) ∧ t.length ≤ 10 := by
  obtain ⟨s, hs, hg⟩ := from_ok l hl hb
  have hg := good_eta hg
  obtain ⟨t, s', h1, h2, h3⟩ := drawStart hg
  have h2 := good_eta h2
  unfold s_DrawDueTimes
  simp only [hs, h1, same_eq, onSome]
  repeat' first
    | exact ⟨_, _, rfl, by assumption⟩
    | (split; (rename_i h; exact absurd h (next_ne (by assumption))); rename_i v h; obtain ⟨hd, hg⟩ := next_some (by assumption) h)
    | (split; rotate_left; (rename_i h; exact absurd h (pick_idx_ne (by assumption) (by first | simp | omega) (by first | simp | omega))))
    | (split; (rename_i h; exact absurd h (pick_get (by assumption) (by first | simp | omega) (by first | simp | omega))); rename_i v h)
end Go.Proofs.Ytmdflpfagbcaiaa
