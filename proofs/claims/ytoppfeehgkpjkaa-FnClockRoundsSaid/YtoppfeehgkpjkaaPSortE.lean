/- The library's sort sorts. -/
import Derived.Test.YtoppfeehgkpjkaaPSortD
namespace Go.Proofs.Ytoppfeehgkpjkaa
open Go.RowKit
set_option linter.unusedVariables false
set_option linter.unusedSimpArgs false

/-- From the choice of the pivot on. -/
noncomputable def pdqRest (rec : PA4 → Option PO1) (D : List Int) (a b lim : Int) (wb wp : Bool) : Option (PS6 ⊕ (Unit ⊕ PO1)) :=
  match slices_choosePivotOrdered_int64 (D, a, b, ()) with
  | none => none
  | some v4 =>
  match (v4.2.1 == (2 : Int)) with
  | true =>
   match slices_reverseRangeOrdered_int64 (v4.2.2.1, a, b, ()) with
   | none => none
   | some v5 =>
   match wb with
   | true =>
    match wp with
    | true =>
     match ((1 : Int) == (1 : Int)) with
     | true =>
      match slices_partialInsertionSortOrdered_int64 (v5.1, a, b, ()) with
      | none => none
      | some v6 =>
      match v6.1 with
      | true => some (.inr (.inr (v6.2.1, ())))
      | false => pdqTail rec v6.2.1 a b (IntKind.i64.wrap ((IntKind.i64.wrap (b - (1 : Int))) - (IntKind.i64.wrap (v4.1 - a)))) lim wb wp
     | false => pdqTail rec v5.1 a b (IntKind.i64.wrap ((IntKind.i64.wrap (b - (1 : Int))) - (IntKind.i64.wrap (v4.1 - a)))) lim wb wp
    | false => pdqTail rec v5.1 a b (IntKind.i64.wrap ((IntKind.i64.wrap (b - (1 : Int))) - (IntKind.i64.wrap (v4.1 - a)))) lim wb wp
   | false => pdqTail rec v5.1 a b (IntKind.i64.wrap ((IntKind.i64.wrap (b - (1 : Int))) - (IntKind.i64.wrap (v4.1 - a)))) lim wb wp
  | false =>
   match wb with
   | true =>
    match wp with
    | true =>
     match (v4.2.1 == (1 : Int)) with
     | true =>
      match slices_partialInsertionSortOrdered_int64 (v4.2.2.1, a, b, ()) with
      | none => none
      | some v6 =>
      match v6.1 with
      | true => some (.inr (.inr (v6.2.1, ())))
      | false => pdqTail rec v6.2.1 a b v4.1 lim wb wp
     | false => pdqTail rec v4.2.2.1 a b v4.1 lim wb wp
    | false => pdqTail rec v4.2.2.1 a b v4.1 lim wb wp
   | false => pdqTail rec v4.2.2.1 a b v4.1 lim wb wp

theorem pdq_round (rec : PA4 → Option PO1) (d : List Int) (a b lim : Int) (wb wp : Bool) : b_slices_pdqsortOrdered_int64_2 rec (d, a, b, lim, wb, wp, ()) = match (decide ((IntKind.i64.wrap (b - a)) ≤ (12 : Int))) with
    | true => (match slices_insertionSortOrdered_int64 (d, a, b, ()) with
      | none => none
      | some v1 => some (.inr (.inr (v1.1, ()))))
    | false => match (lim == (0 : Int)) with
      | true => (match slices_heapSortOrdered_int64 (d, a, b, ()) with
        | none => none
        | some v2 => some (.inr (.inr (v2.1, ()))))
      | false => match (!wb) with
        | true => (match slices_breakPatternsOrdered_int64 (d, a, b, ()) with
          | none => none
          | some v3 => pdqRest rec v3.1 a b (IntKind.i64.wrap (lim - (1 : Int))) wb wp)
        | false => pdqRest rec d a b lim wb wp := by kernel_rfl

/-- What a round may give. -/
def RoundOK (d : List Int) (a b a' b' : Nat) (y : Option (PS6 ⊕ (Unit ⊕ PO1))) : Prop :=
  (∃ D, y = some (.inr (.inr (D, ()))) ∧ Sw a b d D ∧ Srt a b D) ∨ (∃ (d2 : List Int) (a2 b2 : Nat) (lim2 : Int) (w2 q2 : Bool), y = some (.inl (d2, (a2 : Int), (b2 : Int), lim2, w2, q2, ())) ∧ b2 - a2 < b' - a' ∧ Inv d a b d2 a2 b2 lim2)

theorem rest_ok {rec : PA4 → Option PO1} {F : Nat} (hrec : RecOK rec F) {d D : List Int} {a b a' b' : Nat} {lim : Int} (wb wp : Bool) (hb : b ≤ d.length) (hl : d.length ≤ 32) (hF : b - a ≤ F) (hi : Inv d a b D a' b' lim) (h12 : a' + 12 < b') :
    RoundOK d a b a' b' (pdqRest rec D (a' : Int) (b' : Int) lim wb wp) := by
  have hlen := hi.sw.len
  have i1 := hi.h1
  have i3 := hi.h3
  have tl : ∀ (D2 : List Int) (p : Nat), Inv d a b D2 a' b' lim → a' ≤ p → p < b' → RoundOK d a b a' b' (pdqTail rec D2 (a' : Int) (b' : Int) (p : Int) lim wb wp) := by
    intro D2 p h2 hp1 hp2
    obtain ⟨d2, a2, b2, w2, q2, e, m, i⟩ := tail_ok hrec wb wp hb hl hF h2 h12 hp1 hp2
    exact .inr ⟨d2, a2, b2, lim, w2, q2, e, m, i⟩
  have pin : ∀ (D2 : List Int) (p : Nat), Inv d a b D2 a' b' lim → a' ≤ p → p < b' → RoundOK d a b a' b' (match slices_partialInsertionSortOrdered_int64 (D2, (a' : Int), (b' : Int), ()) with
      | none => none
      | some v6 => match v6.1 with
        | true => some (.inr (.inr (v6.2.1, ())))
        | false => pdqTail rec v6.2.1 (a' : Int) (b' : Int) (p : Int) lim wb wp) := by
    intro D2 p h2 hp1 hp2
    have hlen2 := h2.sw.len
    obtain ⟨q, e, hq⟩ := partIns_ok D2 a' b' (by omega) (by omega) (by omega)
    rw [e]
    cases q
    · exact tl D2 p h2 hp1 hp2
    · exact .inl ⟨D2, rfl, h2.sw, h2.fin D2 .refl (hq rfl)⟩
  obtain ⟨p, h, e1, p1, p2, hh⟩ := choose_ok D a' b' h12 (by omega) (by omega)
  unfold pdqRest
  rw [e1]
  simp only
  by_cases c2 : h = 2
  · subst c2
    obtain ⟨D2, e2, s2⟩ := rev_ok D a' b' (by omega) (by omega) (by omega)
    have hi2 := hi.turn s2 hi.l0 hi.l1
    have w1 := w_pred (j := b') (by omega) (by omega)
    have w2 : IntKind.i64.wrap ((p : Int) - (a' : Int)) = ((p - a' : Nat) : Int) := by rw [wrap_i64] <;> omega
    have w3 : IntKind.i64.wrap (((b' - 1 : Nat) : Int) - ((p - a' : Nat) : Int)) = ((b' - 1 - (p - a') : Nat) : Int) := by rw [wrap_i64] <;> omega
    rw [e2, w1, w2, w3]
    have t1 := tl D2 (b' - 1 - (p - a')) hi2 (by omega) (by omega)
    have t2 := pin D2 (b' - 1 - (p - a')) hi2 (by omega) (by omega)
    cases wb
    · exact t1
    · cases wp
      · exact t1
      · exact t2
  · have hb2 : (h == (2 : Int)) = false := by simp [c2]
    rw [hb2]
    have t1 := tl D p hi p1 p2
    have t2 := pin D p hi p1 p2
    cases wb
    · exact t1
    · cases wp
      · exact t1
      · rcases Bool.eq_false_or_eq_true (h == (1 : Int)) with h1 | h1
        · simp only [h1]; exact t2
        · simp only [h1]; exact t1

theorem round_ok {rec : PA4 → Option PO1} {F : Nat} (hrec : RecOK rec F) {d D : List Int} {a b a' b' : Nat} {lim : Int} (wb wp : Bool) (hb : b ≤ d.length) (hl : d.length ≤ 32) (hF : b - a ≤ F) (hi : Inv d a b D a' b' lim) :
    RoundOK d a b a' b' (b_slices_pdqsortOrdered_int64_2 rec (D, (a' : Int), (b' : Int), lim, wb, wp, ())) := by
  have hlen := hi.sw.len
  have i1 := hi.h1
  have i2 := hi.h2
  have i3 := hi.h3
  have w3 : IntKind.i64.wrap ((b' : Int) - (a' : Int)) = ((b' - a' : Nat) : Int) := by rw [wrap_i64] <;> omega
  rw [pdq_round, w3]
  by_cases c : b' - a' ≤ 12
  · have hd : decide (((b' - a' : Nat) : Int) ≤ 12) = true := by simp; omega
    obtain ⟨D2, e, s, t⟩ := insSort D a' b' () i2 (by omega) (by omega)
    rw [hd, e]
    exact .inl ⟨D2, rfl, hi.sw.trans (s.mono i1 i3), hi.fin D2 s t⟩
  · have hd : decide (((b' - a' : Nat) : Int) ≤ 12) = false := by simp; omega
    rw [hd]
    by_cases c0 : lim = 0
    · have hz : (lim == (0 : Int)) = true := by simp [c0]
      obtain ⟨D2, e, s, t⟩ := heapSort D a' b' () (by omega) (by omega) (by omega)
      rw [hz, e]
      exact .inl ⟨D2, rfl, hi.sw.trans (s.mono i1 i3), hi.fin D2 s t⟩
    · have hz : (lim == (0 : Int)) = false := by simp [c0]
      rw [hz]
      have l0 := hi.l0
      have l1 := hi.l1
      cases wb
      · obtain ⟨D2, e, s⟩ := brk_ok D a' b' (by omega) (by omega) (by omega)
        have wl : IntKind.i64.wrap (lim - 1) = lim - 1 := by rw [wrap_i64] <;> omega
        simp only [Bool.not_false, e, wl]
        exact rest_ok hrec false wp hb hl hF (hi.turn s (by omega) (by omega)) (by omega)
      · simp only [Bool.not_true]
        exact rest_ok hrec true wp hb hl hF hi (by omega)

theorem pdq_step {rec : PA4 → Option PO1} {F : Nat} (hrec : RecOK rec F) : RecOK (F_slices_pdqsortOrdered_int64 rec) (F + 1) := by
  intro d a b lim hab hb hl l0 l1 hbl hF
  obtain ⟨o, h1, h2⟩ := loop_rule (B := b_slices_pdqsortOrdered_int64_2 rec) (fun n x => ∃ (D : List Int) (a' b' : Nat) (lim' : Int) (wb wp : Bool), x = (D, (a' : Int), (b' : Int), lim', wb, wp, ()) ∧ n = b' - a' ∧ Inv d a b D a' b' lim')
    (fun o => ∃ D, o = .inr (D, ()) ∧ Sw a b d D ∧ Srt a b D) (by
      rintro n x ⟨D, a', b', lim', wb, wp, rfl, hn, hi⟩
      rcases round_ok hrec wb wp hb hl (by omega) hi with ⟨D2, e, s, t⟩ | ⟨d2, a2, b2, lim2, w2, q2, e, m, i⟩
      · exact .inl ⟨_, e, D2, rfl, s, t⟩
      · exact .inr ⟨_, b2 - a2, e, by omega, d2, a2, b2, lim2, w2, q2, rfl, rfl, i⟩) (b - a) (d, (a : Int), (b : Int), lim, true, true, ()) ⟨d, a, b, lim, true, true, rfl, rfl, ⟨Nat.le_refl _, hab, Nat.le_refl _, l0, l1, .refl, hbl, fun d'' _ h => h⟩⟩
  obtain ⟨D, rfl, s, t⟩ := h2
  refine ⟨D, ?_, s, t⟩
  unfold F_slices_pdqsortOrdered_int64
  simp only [h1]
theorem pdq_fuel : ∀ i : Nat, RecOK (slices_pdqsortOrdered_int64 i) i
  | 0 => fun D a b lim _ _ _ _ _ _ h => by omega
  | i + 1 => pdq_step (pdq_fuel i)

/-- slices.Sort, of up to 32 numbers. -/
theorem sort_ok (d : List Int) (hl : d.length ≤ 32) : ∃ D, slices_Sort_int64 (d, ()) = some (D, ()) ∧ D.Perm d ∧ Srt 0 D.length D := by
  obtain ⟨m, hm, hm6⟩ := len_ok d.length hl
  obtain ⟨D, e, s, t⟩ := pdq_fuel 100 d 0 d.length (m : Int) (Nat.zero_le _) (Nat.le_refl _) hl (by omega) (by omega) (fun h => by omega) (by omega)
  have e' : slices_pdqsortOrdered_int64 100 (d, (0 : Int), (d.length : Int), (m : Int), ()) = some (D, ()) := e
  refine ⟨D, ?_, s.perm, by rw [s.len]; exact t⟩
  unfold slices_Sort_int64
  simp only [hm, e']
end Go.Proofs.Ytoppfeehgkpjkaa
