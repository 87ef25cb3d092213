/- Plain laws: verdicts that are drawn. -/
import Derived.Test.YtmdflpfagbcaiaaPDown
import Derived.Test.YtmdflpfagbcaiaaPDrawState
import Derived.Test.YtmdflpfagbcaiaaPPush
import Derived.Test.YtmdflpfagbcaiaaPVerdicts
namespace Go.Proofs.Ytmdflpfagbcaiaa
open Go.RowKit
set_option linter.unusedVariables false
set_option linter.unusedSimpArgs false

theorem any_ne' {s : Tl01Source.T} (hs : Good s) : s_l04DrawAny (s, ()) ≠ none := by
  obtain ⟨y, h, _⟩ := drawAny hs
  rw [h]
  simp
theorem any_some' {s : Tl01Source.T} {v} (hs : Good s) (h : s_l04DrawAny (s, ()) = some v) : Good (v.2.1.1, v.2.1.2.1, v.2.1.2.2.1, ()) := by
  obtain ⟨y, h', hg⟩ := drawAny hs
  rw [h'] at h
  cases h
  exact hg
abbrev dataF (f : TFrame.T) : List Int := f.2.2.2.1
theorem l06state (x) : ∃ b, s_l06State x = some (b, ()) := by
  unfold s_l06State
  repeat' first
    | exact ⟨_, rfl⟩
    | split
theorem l06data (x) : ∃ b, s_l06Data x = some (b, ()) := by
  unfold s_l06Data
  repeat' first
    | exact ⟨_, rfl⟩
    | split
theorem u64_nn (v : Int) : ¬ IntKind.u64.wrap v < 0 := by
  simp [IntKind.wrap, IntKind.signed, IntKind.bits]
  omega

theorem drawFrame_loop (n : Nat) (hn : n ≤ 100) (x) (h0 : (x.2.2.2.2.1 : Int) = (n : Nat)) (hg : Good x.1) (hl : x.2.2.2.1.length + n ≤ 100) : ∃ o, loopL b_s_l06Draw_7 x = some (.inl o) ∧ Good o.1 ∧ o.2.2.2.1.length ≤ 100 := by
  obtain ⟨o, h1, h2⟩ := down_ok (B := b_s_l06Draw_7) (fun k x => (x.2.2.2.2.1 : Int) = (k : Nat) ∧ Good x.1 ∧ x.2.2.2.1.length + k ≤ 100) (fun o => match o with
    | .inl v => Good v.1 ∧ v.2.2.2.1.length ≤ 100
    | .inr _ => False) (fun x ⟨hk, hg, hl⟩ => by
      unfold b_s_l06Draw_7
      rw [hk]
      simp only [down_f]
      exact ⟨_, rfl, hg, by omega⟩) (fun k x ⟨hk, hg, hl⟩ => by
      have hg := good_eta hg
      unfold b_s_l06Draw_7
      rw [hk, down_w (by omega)]
      simp only [down_t]
      split; (rename_i h; exact absurd h (next_ne (by assumption)))
      rename_i v h
      obtain ⟨hd, hg⟩ := next_some (by assumption) h
      rw [room_ok (by simp; omega)]
      exact ⟨_, rfl, rfl, by assumption, by simp; omega⟩) n x ⟨h0, hg, hl⟩
  cases o with
  | inr v => exact h2.elim
  | inl v => exact ⟨v, h1, h2.1, h2.2⟩

theorem frame_loop {s : Tl01Source.T} {f g : TFrame.T} {v : Int} (hs : Good s) (hd : drawn 6 v) : ∃ o, loopL b_s_l06Draw_7 (s, f, g, [], IntKind.i64.wrap ((1 : Int) + v), ()) = some (.inl o) ∧ Good o.1 ∧ o.2.2.2.1.length ≤ 100 := by
  obtain ⟨k, rfl, hk6⟩ := drawn_nat hd (by omega)
  have hw : IntKind.i64.wrap ((1 : Int) + (k : Int)) = ((k + 1 : Nat) : Int) := by rw [wrap_i64] <;> omega
  exact drawFrame_loop (k + 1) (by omega) _ hw hs (by simp; omega)
theorem frame_ne {s : Tl01Source.T} {f g : TFrame.T} {v : Int} (hs : Good s) (hd : drawn 6 v) : loopL b_s_l06Draw_7 (s, f, g, [], IntKind.i64.wrap ((1 : Int) + v), ()) ≠ none := by
  obtain ⟨o, h, _⟩ := frame_loop (f := f) (g := g) hs hd
  rw [h]; simp
theorem frame_inl {s : Tl01Source.T} {f g : TFrame.T} {v : Int} {y} (hs : Good s) (hd : drawn 6 v) (h : loopL b_s_l06Draw_7 (s, f, g, [], IntKind.i64.wrap ((1 : Int) + v), ()) = some (.inl y)) : Good y.1 ∧ y.2.2.2.1.length ≤ 100 := by
  obtain ⟨o, h1, h2⟩ := frame_loop (f := f) (g := g) hs hd
  rw [h1] at h
  cases h
  exact h2
theorem frame_inr {s : Tl01Source.T} {f g : TFrame.T} {v : Int} {y} (hs : Good s) (hd : drawn 6 v) (h : loopL b_s_l06Draw_7 (s, f, g, [], IntKind.i64.wrap ((1 : Int) + v), ()) = some (.inr y)) : False := by
  obtain ⟨o, h1, h2⟩ := frame_loop (f := f) (g := g) hs hd
  rw [h1] at h
  cases h
theorem drawFrame {s : Tl01Source.T} (hs : Good s) : ∃ y, s_l06Draw (s, ()) = some y ∧ Good (y.2.1.1, y.2.1.2.1, y.2.1.2.2.1, ()) ∧ (dataF y.1).length ≤ 100 := by
  have hs := good_eta hs
  unfold s_l06Draw
  simp only [u64_nn, if_false]
  split; (rename_i h; exact absurd h (next_ne (by assumption)))
  rename_i v1 h1
  obtain ⟨hd1, hg1⟩ := next_some (by assumption) h1
  split; (rename_i h; exact absurd h (next_ne (by assumption)))
  rename_i v2 h2
  obtain ⟨hd2, hg2⟩ := next_some (by assumption) h2
  obtain ⟨b3, h3⟩ := l06state (v1.1, ())
  obtain ⟨b5, h5⟩ := l06data (v1.1, ())
  simp only [h3, h5]
  repeat' first
    | exact ⟨_, rfl, by assumption, by first | assumption | exact Nat.zero_le _⟩
    | (split; (rename_i h; exact absurd h (next_ne (by assumption))); rename_i v h; obtain ⟨hd, hg⟩ := next_some (by assumption) h)
    | (split; (rename_i h; exact absurd h (state_ne (by assumption))); rename_i v h; have hg := state_some (by assumption) h)
    | (split; (rename_i h; exact absurd h (frame_ne (by assumption) (by assumption))); rename_i v h; obtain ⟨hg, hl⟩ := frame_inl (by assumption) (by assumption) h; have hg := good_eta hg)
    | (rename_i h; exact (frame_inr (by assumption) (by assumption) h).elim)
    | split
theorem frame1_ne {s : Tl01Source.T} (hs : Good s) : s_l06Draw (s, ()) ≠ none := by
  obtain ⟨y, h, _⟩ := drawFrame hs
  rw [h]
  simp
theorem frame1_some {s : Tl01Source.T} {v} (hs : Good s) (h : s_l06Draw (s, ()) = some v) : Good (v.2.1.1, v.2.1.2.1, v.2.1.2.2.1, ()) ∧ (dataF v.1).length ≤ 100 := by
  obtain ⟨y, h', hg⟩ := drawFrame hs
  rw [h'] at h
  cases h
  exact hg

theorem bytes_loop (n : Nat) (hn : n ≤ 100) (x) (h0 : (x.2.2.1 : Int) = (n : Nat)) (hg : Good x.1) (hl : x.2.1.length + n ≤ 100) : ∃ o, loopL b_s_l01DrawBytes_3 x = some (.inl o) ∧ Good o.1 ∧ o.2.1.length ≤ 100 := by
  obtain ⟨o, h1, h2⟩ := down_ok (B := b_s_l01DrawBytes_3) (fun k x => (x.2.2.1 : Int) = (k : Nat) ∧ Good x.1 ∧ x.2.1.length + k ≤ 100) (fun o => match o with
    | .inl v => Good v.1 ∧ v.2.1.length ≤ 100
    | .inr _ => False) (fun x ⟨hk, hg, hl⟩ => by
      unfold b_s_l01DrawBytes_3
      rw [hk]
      simp only [down_f]
      exact ⟨_, rfl, hg, by omega⟩) (fun k x ⟨hk, hg, hl⟩ => by
      have hg := good_eta hg
      unfold b_s_l01DrawBytes_3
      rw [hk, down_w (by omega)]
      simp only [down_t]
      split; (rename_i h; exact absurd h (next_ne (by assumption)))
      rename_i v h
      obtain ⟨hd, hg⟩ := next_some (by assumption) h
      rw [room_ok (by simp; omega)]
      exact ⟨_, rfl, rfl, by assumption, by simp; omega⟩) n x ⟨h0, hg, hl⟩
  cases o with
  | inr v => exact h2.elim
  | inl v => exact ⟨v, h1, h2.1, h2.2⟩
theorem wrap_add {a n v : Int} (h0 : 0 ≤ v) (h1 : v < n) (ha : 0 ≤ a) (hn : a + n ≤ 1000000) : IntKind.i64.wrap (a + v) = a + v := by rw [wrap_i64] <;> omega
theorem drawBytes3 {s : Tl01Source.T} (hs : Good s) : ∃ y, s_l01DrawBytes (s, (3 : Int), ()) = some y ∧ Good (y.2.1.1, y.2.1.2.1, y.2.1.2.2.1, ()) ∧ y.1.length ≤ 2000 := by
  have hs := good_eta hs
  unfold s_l01DrawBytes
  simp only [onSome]
  rw [show IntKind.i64.wrap ((3 : Int) + 1) = 4 from rfl]
  split; (rename_i h; exact absurd h (next_ne (by assumption)))
  rename_i v1 h1
  obtain ⟨hd1, hg1⟩ := next_some (by assumption) h1
  obtain ⟨k, hk, hk6⟩ := drawn_nat hd1 (by omega)
  obtain ⟨o, ho, hgo, hlo⟩ := bytes_loop k (by omega) ((v1.2.1.1, v1.2.1.2.1, v1.2.1.2.2.1, ()), [], v1.1, ()) hk hg1 (by simp; omega)
  have hgo := good_eta hgo
  rw [ho]
  simp only
  split; (rename_i h; exact absurd h (next_ne (by assumption)))
  rename_i v5 h5
  obtain ⟨hd5, hg5⟩ := next_some (by assumption) h5
  split
  · split; (rename_i h; exact absurd h (next_ne (by assumption)))
    rename_i v6 h6
    obtain ⟨hd6, hg6⟩ := next_some (by assumption) h6
    split; rotate_left; (rename_i h; exact absurd h (pick_idx_ne hd6 (by simp) (by simp)))
    split; (rename_i h; exact absurd h (pick_get hd6 (by simp) (by simp)))
    rw [room_ok (by simp; omega)]
    exact ⟨_, rfl, hg6, by simp; omega⟩
  · split
    · split; (rename_i h; exact absurd h (next_ne (by assumption)))
      rename_i v9 h9
      obtain ⟨hd9, hg9⟩ := next_some (by assumption) h9
      obtain ⟨k9, hk9, hk96⟩ := drawn_nat hd9 (by omega)
      have hw : IntKind.i64.wrap ((1024 : Int) + v9.1) = ((1024 + k9 : Nat) : Int) := by rw [hk9, wrap_i64] <;> omega
      rw [hw, if_pos ⟨by omega, by omega⟩, room_ok (by omega)]
      exact ⟨_, rfl, hg9, by simp; omega⟩
    · exact ⟨_, rfl, hg5, by show o.2.1.length ≤ 2000; omega⟩
theorem drawFrameAny {s : Tl01Source.T} (hs : Good s) : ∃ y, s_l06DrawAny (s, ()) = some y ∧ Good (y.2.1.1, y.2.1.2.1, y.2.1.2.2.1, ()) ∧ (dataF y.1).length ≤ 2000 := by
  have hs := good_eta hs
  unfold s_l06DrawAny
  simp only [onSome]
  split; (rename_i h; exact absurd h (frame1_ne (by assumption)))
  rename_i v1 h1
  obtain ⟨hg1, hl1⟩ := frame1_some (by assumption) h1
  split; (rename_i h; exact absurd h (next_ne (by assumption)))
  rename_i v2 h2
  obtain ⟨hd2, hg2⟩ := next_some (by assumption) h2
  have hl1 : (dataF v1.1).length ≤ 2000 := by omega
  split
  · split; (rename_i h; exact absurd h (next_ne (by assumption)))
    rename_i v h
    obtain ⟨hd, hg⟩ := next_some (by assumption) h
    exact ⟨_, rfl, hg, hl1⟩
  · split
    · split; (rename_i h; exact absurd h (next_ne (by assumption)))
      rename_i v h
      obtain ⟨hd, hg⟩ := next_some (by assumption) h
      split; rotate_left; (rename_i h; exact absurd h (pick_idx_ne hd (by simp) (by simp)))
      split; (rename_i h; exact absurd h (pick_get hd (by simp) (by simp)))
      exact ⟨_, rfl, hg, hl1⟩
    · split
      · split; (rename_i h; exact absurd h (any_ne' (by assumption)))
        rename_i v h
        have hg := any_some' (by assumption) h
        exact ⟨_, rfl, hg, hl1⟩
      · split
        · obtain ⟨y, h, hg, hl⟩ := drawBytes3 hg2
          rw [h]
          exact ⟨_, rfl, hg, hl⟩
        · split
          · split; (rename_i h; exact absurd h (next_ne (by assumption)))
            rename_i v9 h9
            obtain ⟨hd9, hg9⟩ := next_some (by assumption) h9
            obtain ⟨k9, hk9, hk96⟩ := drawn_nat hd9 (by omega)
            have hw : IntKind.i64.wrap ((32 : Int) + v9.1) = ((32 + k9 : Nat) : Int) := by rw [hk9, wrap_i64] <;> omega
            rw [hw, if_pos ⟨by omega, by omega⟩, room_ok (by omega)]
            exact ⟨_, rfl, hg9, by show (List.replicate _ _).length ≤ 2000; simp; omega⟩
          · exact ⟨_, rfl, hg2, hl1⟩
theorem frameAny_ne {s : Tl01Source.T} (hs : Good s) : s_l06DrawAny (s, ()) ≠ none := by
  obtain ⟨y, h, _⟩ := drawFrameAny hs
  rw [h]
  simp
theorem frameAny_some {s : Tl01Source.T} {v} (hs : Good s) (h : s_l06DrawAny (s, ()) = some v) : Good (v.2.1.1, v.2.1.2.1, v.2.1.2.2.1, ()) ∧ (dataF v.1).length ≤ 2000 := by
  obtain ⟨y, h', hg⟩ := drawFrameAny hs
  rw [h'] at h
  cases h
  exact hg
theorem drawVerdict {s : Tl01Source.T} (hs : Good s) : ∃ y, s_l28DrawVerdict (s, ()) = some y ∧ Good (y.2.1.1, y.2.1.2.1, y.2.1.2.2.1, ()) ∧ (dataV y.1).length ≤ 2000 := by
  have hs := good_eta hs
  unfold s_l28DrawVerdict
  simp only [onSome]
  repeat' first
    | exact ⟨_, rfl, by assumption, by first | assumption | exact Nat.zero_le _ | exact Nat.le_trans (by assumption) (show 100 ≤ 2000 by omega)⟩
    | (split; (rename_i h; exact absurd h (next_ne (by assumption))); rename_i v h; obtain ⟨hd, hg⟩ := next_some (by assumption) h)
    | (split; (rename_i h; exact absurd h (frame1_ne (by assumption))); rename_i v h; obtain ⟨hg, hl⟩ := frame1_some (by assumption) h)
    | (split; (rename_i h; exact absurd h (frameAny_ne (by assumption))); rename_i v h; obtain ⟨hg, hl⟩ := frameAny_some (by assumption) h)
    | (split; rotate_left; (rename_i h; exact absurd h (pick_idx_ne (by assumption) (by simp) (by simp))))
    | (split; (rename_i h; exact absurd h (pick_get (by assumption) (by simp) (by simp))); rename_i v h)
    | split
theorem verdict1_ne {s : Tl01Source.T} (hs : Good s) : s_l28DrawVerdict (s, ()) ≠ none := by
  obtain ⟨y, h, _⟩ := drawVerdict hs
  rw [h]
  simp
theorem verdict1_some {s : Tl01Source.T} {v} (hs : Good s) (h : s_l28DrawVerdict (s, ()) = some v) : Good (v.2.1.1, v.2.1.2.1, v.2.1.2.2.1, ()) ∧ (dataV v.1).length ≤ 2000 := by
  obtain ⟨y, h', hg⟩ := drawVerdict hs
  rw [h'] at h
  cases h
  exact hg
theorem drawTwo (l : List Int) (hl : l.length ≤ 4096) (hb : ∀ b ∈ l, (0 : Int) ≤ b ∧ b ≤ 255) : ∃ a b : TVerdict.T, s_DrawMergeVerdicts (l, ()) = some (a, b, ()) ∧ (dataV a).length ≤ 2000 ∧ (dataV b).length ≤ 2000 := by
  obtain ⟨s, hs, hg⟩ := from_ok l hl hb
  have hg := good_eta hg
  unfold s_DrawMergeVerdicts s_DrawSameVerdict
  simp only [hs]
  split
  · rename_i h
    revert h
    split; (rename_i h; exact absurd h (verdict1_ne (by assumption)))
    rename_i v h
    obtain ⟨hg, hl⟩ := verdict1_some (by assumption) h
    split; (rename_i h; exact absurd h (next_ne (by assumption)))
    rename_i v h
    obtain ⟨hd, hg⟩ := next_some (by assumption) h
    split
    · simp
    · split; (rename_i h; exact absurd h (verdict1_ne (by assumption)))
      simp
  · rename_i y h
    revert h
    split; (intro h; cases h)
    rename_i v h
    obtain ⟨hg, hl⟩ := verdict1_some (by assumption) h
    split; (intro h; cases h)
    rename_i v h
    obtain ⟨hd, hg⟩ := next_some (by assumption) h
    split
    · intro h
      cases h
      exact ⟨_, _, rfl, hl, hl⟩
    · split; (intro h; cases h)
      rename_i w h
      obtain ⟨hg, hl2⟩ := verdict1_some (by assumption) h
      intro h
      cases h
      exact ⟨_, _, rfl, hl, hl2⟩
end Go.Proofs.Ytmdflpfagbcaiaa
