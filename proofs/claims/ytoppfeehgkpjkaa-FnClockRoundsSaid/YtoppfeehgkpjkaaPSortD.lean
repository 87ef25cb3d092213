/- The library's sort, as a whole. -/
import Derived.Test.YtoppfeehgkpjkaaPSortC
namespace Go.Proofs.Ytoppfeehgkpjkaa
open Go.RowKit
set_option linter.unusedVariables false
set_option linter.unusedSimpArgs false

abbrev PA4 := Ty.T (.pair (.own 2 (.int .i64)) (.pair (.int .i64) (.pair (.int .i64) (.pair (.int .i64) .unit))))
abbrev PO1 := Ty.T (.pair (.own 2 (.int .i64)) .unit)
abbrev PS6 := Ty.T (.pair (.own 2 (.int .i64)) (.pair (.int .i64) (.pair (.int .i64) (.pair (.int .i64) (.pair .bool (.pair .bool .unit))))))
/-- The partitioning at the end of a round. -/
noncomputable def pdqPart (rec : PA4 → Option PO1) (D : List Int) (a b p lim : Int) : Option (PS6 ⊕ (Unit ⊕ PO1)) :=
  match slices_partitionOrdered_int64 (D, a, b, p, ()) with
  | none => none
  | some v13 =>
  match (decide ((IntKind.i64.wrap (v13.1 - a)) < (IntKind.i64.wrap (b - v13.1)))) with
  | true =>
   match rec (v13.2.2.1, a, v13.1, lim, ()) with
   | none => none
   | some v14 =>
   some (.inl (v14.1, (IntKind.i64.wrap (v13.1 + (1 : Int))), b, lim, (decide ((IntKind.i64.wrap (v13.1 - a)) ≥ (IntKind.i64.wrap (Int.tdiv (IntKind.i64.wrap (b - a)) (8 : Int))))), v13.2.1, ()))
  | false =>
   match rec (v13.2.2.1, (IntKind.i64.wrap (v13.1 + (1 : Int))), b, lim, ()) with
   | none => none
   | some v15 =>
   some (.inl (v15.1, a, v13.1, lim, (decide ((IntKind.i64.wrap (b - v13.1)) ≥ (IntKind.i64.wrap (Int.tdiv (IntKind.i64.wrap (b - a)) (8 : Int))))), v13.2.1, ()))
noncomputable def pdqTail (rec : PA4 → Option PO1) (D : List Int) (a b p lim : Int) (wb wp : Bool) : Option (PS6 ⊕ (Unit ⊕ PO1)) :=
  match (decide (a > (0 : Int))) with
  | true =>
   onSome (idx D (IntKind.i64.wrap (a - (1 : Int)))) fun _ =>
   match D[(IntKind.i64.wrap (a - (1 : Int))).toNat]? with
   | none => none
   | some v8 =>
   onSome (idx D p) fun _ =>
   match D[p.toNat]? with
   | none => none
   | some v10 =>
   match cmp_Less_int64 (v8, v10, ()) with
   | none => none
   | some v11 =>
   match (!v11.1) with
   | true =>
    match slices_partitionEqualOrdered_int64 (D, a, b, p, ()) with
    | none => none
    | some v12 =>
    some (.inl (v12.2.1, v12.1, b, lim, wb, wp, ()))
   | false => pdqPart rec D a b p lim
  | false => pdqPart rec D a b p lim

/-- What is asked of a call of itself. -/
def RecOK (rec : PA4 → Option PO1) (F : Nat) : Prop := ∀ (D : List Int) (a b : Nat) (lim : Int), a ≤ b → b ≤ D.length → D.length ≤ 32 → 0 ≤ lim → lim ≤ 100 → Blw a b D → b - a < F → ∃ D', rec (D, (a : Int), (b : Int), lim, ()) = some (D', ()) ∧ Sw a b D D' ∧ Srt a b D'
/-- What stands where a round begins: the rest, sorted, makes the whole sorted. -/
structure Inv (d : List Int) (a b : Nat) (d' : List Int) (a' b' : Nat) (lim : Int) : Prop where
  h1 : a ≤ a'
  h2 : a' ≤ b'
  h3 : b' ≤ b
  l0 : 0 ≤ lim
  l1 : lim ≤ 100
  sw : Sw a b d d'
  blw : Blw a' b' d'
  fin : ∀ d'', Sw a' b' d' d'' → Srt a' b' d'' → Srt a b d''
theorem Inv.turn {d : List Int} {a b : Nat} {d' D : List Int} {a' b' : Nat} {lim lim' : Int} (h : Inv d a b d' a' b' lim) (hs : Sw a' b' d' D) (hl0 : 0 ≤ lim') (hl1 : lim' ≤ 100) : Inv d a b D a' b' lim' :=
  ⟨h.h1, h.h2, h.h3, hl0, hl1, h.sw.trans (hs.mono h.h1 h.h3), h.blw.sw hs, fun d'' h1 h2 => h.fin d'' (hs.trans h1) h2⟩

theorem part_ok {rec : PA4 → Option PO1} {F : Nat} (hrec : RecOK rec F) {d D : List Int} {a b a' b' p : Nat} {lim : Int} (hb : b ≤ d.length) (hl : d.length ≤ 32) (hF : b - a ≤ F) (hi : Inv d a b D a' b' lim) (h12 : a' + 12 < b') (hp1 : a' ≤ p) (hp2 : p < b') :
    ∃ (d2 : List Int) (a2 b2 : Nat) (w2 q2 : Bool), pdqPart rec D (a' : Int) (b' : Int) (p : Int) lim = some (.inl (d2, (a2 : Int), (b2 : Int), lim, w2, q2, ())) ∧ b2 - a2 < b' - a' ∧ Inv d a b d2 a2 b2 lim := by
  have hlen := hi.sw.len
  have i1 := hi.h1
  have i3 := hi.h3
  obtain ⟨m, q, D2, e1, m1, m2, s1, g1, g2⟩ := partition_ok D a' b' p hp1 hp2 (by omega) (by omega) (by omega)
  have hlen2 := s1.len
  have hi2 := hi.turn s1 hi.l0 hi.l1
  have w1 : IntKind.i64.wrap ((m : Int) - (a' : Int)) = ((m - a' : Nat) : Int) := by rw [wrap_i64] <;> omega
  have w2 : IntKind.i64.wrap ((b' : Int) - (m : Int)) = ((b' - m : Nat) : Int) := by rw [wrap_i64] <;> omega
  have w3 := w_succ (j := m) (by omega)
  unfold pdqPart
  rw [e1]
  simp only [w1, w2, w3]
  by_cases c : m - a' < b' - m
  · have hd : decide (((m - a' : Nat) : Int) < ((b' - m : Nat) : Int)) = true := by simp; omega
    obtain ⟨D3, e2, s2, t2⟩ := hrec D2 a' m lim m1 (by omega) (by omega) hi.l0 hi.l1 (fun h0 k k1 k2 => hi2.blw h0 k k1 (by omega)) (by omega)
    rw [hd, e2]
    refine ⟨D3, m + 1, b', _, q, rfl, by omega, ⟨by omega, by omega, i3, hi.l0, hi.l1, hi2.sw.trans (s2.mono i1 (by omega)), ?_, ?_⟩⟩
    · intro _ k k1 k2
      rw [Nat.add_sub_cancel, s2.out (.inr (Nat.le_refl _)), s2.out (.inr (by omega))]
      exact g2 k k1 k2
    · intro D4 s4 t4
      have em : nth D4 m = nth D2 m := by rw [s4.out (.inl (by omega)), s2.out (.inr (Nat.le_refl _))]
      refine hi2.fin D4 ((s2.mono (Nat.le_refl _) (by omega)).trans (s4.mono (by omega) (Nat.le_refl _))) (srt_join m1 m2 (t2.congr fun k k1 k2 => s4.out (.inl (by omega))) t4 (fun k k1 k2 => ?_) (fun k k1 k2 => ?_))
      · rw [em, s4.out (.inl (by omega))]
        exact s2.all (p := fun v => v ≤ nth D2 m) (fun k k1 k2 => g1 k k1 k2) k k1 k2
      · rw [em]
        refine s4.all (p := fun v => nth D2 m ≤ v) (fun k k1 k2 => ?_) k k1 k2
        rw [s2.out (.inr (by omega))]
        exact g2 k k1 k2
  · have hd : decide (((m - a' : Nat) : Int) < ((b' - m : Nat) : Int)) = false := by simp; omega
    obtain ⟨D3, e2, s2, t2⟩ := hrec D2 (m + 1) b' lim (by omega) (by omega) (by omega) hi.l0 hi.l1 (fun _ k k1 k2 => by rw [Nat.add_sub_cancel]; exact g2 k k1 k2) (by omega)
    rw [hd, e2]
    refine ⟨D3, a', m, _, q, rfl, by omega, ⟨i1, m1, by omega, hi.l0, hi.l1, hi2.sw.trans (s2.mono (by omega) i3), ?_, ?_⟩⟩
    · intro h0 k k1 k2
      rw [s2.out (.inl (by omega)), s2.out (.inl (by omega))]
      exact hi2.blw h0 k k1 (by omega)
    · intro D4 s4 t4
      have em : nth D4 m = nth D2 m := by rw [s4.out (.inr (Nat.le_refl _)), s2.out (.inl (by omega))]
      refine hi2.fin D4 ((s2.mono (by omega) (Nat.le_refl _)).trans (s4.mono (Nat.le_refl _) (by omega))) (srt_join m1 m2 t4 (t2.congr fun k k1 k2 => s4.out (.inr (by omega))) (fun k k1 k2 => ?_) (fun k k1 k2 => ?_))
      · rw [em]
        refine s4.all (p := fun v => v ≤ nth D2 m) (fun k k1 k2 => ?_) k k1 k2
        rw [s2.out (.inl (by omega))]
        exact g1 k k1 k2
      · rw [em, s4.out (.inr (by omega))]
        exact s2.all (p := fun v => nth D2 m ≤ v) (fun k k1 k2 => g2 k k1 k2) k k1 k2

theorem tail_ok {rec : PA4 → Option PO1} {F : Nat} (hrec : RecOK rec F) {d D : List Int} {a b a' b' p : Nat} {lim : Int} (wb wp : Bool) (hb : b ≤ d.length) (hl : d.length ≤ 32) (hF : b - a ≤ F) (hi : Inv d a b D a' b' lim) (h12 : a' + 12 < b') (hp1 : a' ≤ p) (hp2 : p < b') :
    ∃ (d2 : List Int) (a2 b2 : Nat) (w2 q2 : Bool), pdqTail rec D (a' : Int) (b' : Int) (p : Int) lim wb wp = some (.inl (d2, (a2 : Int), (b2 : Int), lim, w2, q2, ())) ∧ b2 - a2 < b' - a' ∧ Inv d a b d2 a2 b2 lim := by
  have hlen := hi.sw.len
  have i1 := hi.h1
  have i3 := hi.h3
  unfold pdqTail
  by_cases c0 : 0 < a'
  · have hd : decide ((a' : Int) > 0) = true := by simp; omega
    have wa := w_pred (j := a') (by omega) (by omega)
    have l1 : a' - 1 < D.length := by omega
    have l2 : p < D.length := by omega
    simp only [hd, wa, idx_nth l1, idx_nth l2, onSome, Int.toNat_natCast, nth_get l1, nth_get l2, less_ok]
    by_cases c1 : nth D (a' - 1) < nth D p
    · simp only [lt_t c1, Bool.not_true]
      exact part_ok hrec hb hl hF hi h12 hp1 hp2
    · simp only [lt_f c1, Bool.not_false]
      obtain ⟨m, D2, e1, m1, m2, s1, g1, g2⟩ := partEq_ok D a' b' p hp1 hp2 (by omega) (by omega) (by omega)
      have hi2 := hi.turn s1 hi.l0 hi.l1
      have hmin : ∀ k, a' ≤ k → k < b' → nth D p ≤ nth D2 k := s1.all (p := fun v => nth D p ≤ v) (fun k k1 k2 => by
        have := hi.blw c0 k k1 k2
        omega)
      have heq : ∀ k, a' ≤ k → k < m → nth D2 k = nth D p := fun k k1 k2 => by
        have h1 := g1 k k1 k2
        have h2 := hmin k k1 (by omega)
        omega
      rw [e1]
      refine ⟨D2, m, b', wb, wp, rfl, by omega, ⟨by omega, m2, i3, hi.l0, hi.l1, hi2.sw, ?_, ?_⟩⟩
      · intro _ k k1 k2
        rw [heq (m - 1) (by omega) (by omega)]
        exact hmin k (by omega) k2
      · intro D4 s4 t4
        refine hi2.fin D4 (s4.mono (by omega) (Nat.le_refl _)) (srt_join2 (m := m) ?_ t4 (fun i j h1 h2 h3 h4 => ?_))
        · intro i j h1 h2 h3
          rw [s4.out (.inl (by omega)), s4.out (.inl (by omega)), heq i h1 (by omega), heq j (by omega) h3]
          exact Int.le_refl _
        · rw [s4.out (.inl (by omega)), heq i h1 h2]
          exact s4.all (p := fun v => nth D p ≤ v) (fun k k1 k2 => hmin k (by omega) k2) j h3 h4
  · have hd : decide ((a' : Int) > 0) = false := by simp; omega
    simp only [hd]
    exact part_ok hrec hb hl hF hi h12 hp1 hp2
end Go.Proofs.Ytoppfeehgkpjkaa
