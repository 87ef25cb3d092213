/- Plain laws: how many marks of each status. -/
import Derived.Test.YtgjbodfkjfieaaaPMark
namespace Go.Proofs.Ytgjbodfkjfieaaa
open Go.RowKit
set_option linter.unusedVariables false
set_option linter.unusedSimpArgs false

/-- A round: one more of the mark's status. -/
def bumpK (c : List Int) (k : Int) : Option (List Int) := onSome (idx c k) fun _ => match c[k.toNat]? with
  | none => none
  | some v => some (c.set k.toNat (IntKind.i64.wrap (v + 1)))
noncomputable def bump (c : List Int) (m : TMark.T) : Option (List Int) := bumpK c m.2.2.1
theorem bumpK_some (c : List Int) (k : Int) (h0 : 0 ≤ k) (h1 : k < c.length) : ∃ c', bumpK c k = some c' ∧ c'.length = c.length := by
  have hi : k.toNat < c.length := by omega
  have : c[k.toNat]? = some c[k.toNat] := List.getElem?_eq_getElem hi
  unfold bumpK idx
  rw [if_pos h0, this]
  exact ⟨_, rfl, by simp⟩
noncomputable def bumps : List Int → List TMark.T → Option (List Int)
  | c, [] => some c
  | c, m :: r => match bump c m with
    | none => none
    | some c' => bumps c' r
theorem bump_some (c : List Int) (m : TMark.T) (h0 : (0 : Int) ≤ m.2.2.1) (h1 : (m.2.2.1 : Int) < (c.length : Int)) : ∃ c', bump c m = some c' ∧ c'.length = c.length := bumpK_some c m.2.2.1 h0 h1
theorem bumps_some : ∀ (l : List TMark.T) (c : List Int), (∀ m ∈ l, (0 : Int) ≤ m.2.2.1 ∧ (m.2.2.1 : Int) < (c.length : Int)) → ∃ c', bumps c l = some c' ∧ c'.length = c.length
  | [], c, _ => ⟨c, rfl, rfl⟩
  | m :: r, c, h => by
    obtain ⟨c', h1, h2⟩ := bump_some c m (h m (by simp)).1 (h m (by simp)).2
    obtain ⟨c2, h3, h4⟩ := bumps_some r c' (fun u hu => by rw [h2]; exact h u (by simp [hu]))
    exact ⟨c2, by simp only [bumps, h1]; exact h3, by rw [h4, h2]⟩
theorem bumps_loop {X O : Type} {B : X → Option (X ⊕ O)} (l : List TMark.T) (e : List Int → Nat → X) (fin : List Int → O) (hend : ∀ s, B (e s l.length) = some (.inr (fin s)))
    (hstep : ∀ s i (h : i < l.length), B (e s i) = match bump s l[i] with | none => none | some s' => some (.inl (e s' (i + 1)))) (c : List Int) : loopL B (e c 0) = match bumps c l with | none => none | some c' => some (fin c') := by
  have h := loop_list (B := B) l e (fun _ v s => match bump s v with | none => none | some s' => some (.inl s')) fin hend (fun s i h => by rw [hstep s i h]; cases bump s l[i] <;> rfl) l.length 0 c (by omega)
  rw [h, List.drop_zero]
  have key : ∀ (r : List TMark.T) (i : Nat) (s : List Int), runL (fun _ v s => match bump s v with | none => none | some s' => some (.inl s')) fin i r s = match bumps s r with | none => none | some c' => some (fin c') := by
    intro r
    induction r with
    | nil => intro i s; rfl
    | cons v r ih =>
      intro i s
      unfold runL bumps
      cases hb : bump s v with
      | none => rfl
      | some s' => exact ih (i + 1) s'
  exact key l 0 c
theorem status_eq (l : List TMark.T) (hl : l.length ≤ 1099511627776) : ∃ (c : List Int) (e : Int), s_StatusCounts (l, ()) = some (c, e, ()) ∧ i_StatusCounts (l, ()) = some (c, e, ()) ∧ c.length ≤ 5 := by
  have e1 := bumps_loop (B := b_s_StatusCounts_5) l (fun s i => (l, s, (i : Int), ())) (fun s => .inl (s, ())) (fun s => by simp only [b_s_StatusCounts_5, lt_n]) (fun s i h => by
    simp only [b_s_StatusCounts_5, lt_i h, next_i h hl, idx_nat h, onSome, bump, bumpK]
    cases idx s l[i].2.2.1 <;> simp only
    cases s[l[i].2.2.1.toNat]? <;> rfl) (List.replicate 5 0)
  have e2 := bumps_loop (B := b_i_StatusCounts_5) l (fun s i => (s, l, (l.length : Int), (i : Int), ())) (fun s => .inl (s, ())) (fun s => by simp only [b_i_StatusCounts_5, lt_n]) (fun s i h => by
    simp only [b_i_StatusCounts_5, lt_i h, next_i h hl, idx_nat h, onSome, bump, bumpK]
    cases idx s l[i].2.2.1 <;> simp only
    cases s[l[i].2.2.1.toNat]? <;> rfl) (List.replicate 5 0)
  have e1' : loopL b_s_StatusCounts_5 (l, List.replicate (Int.toNat 5) (0 : Int), (0 : Int), ()) = _ := e1
  have e2' : loopL b_i_StatusCounts_5 (List.replicate (Int.toNat 5) (0 : Int), l, (l.length : Int), (0 : Int), ()) = _ := e2
  unfold s_StatusCounts i_StatusCounts
  simp only [s_trace, i_trace, hl, e1', e2']
  cases ht : traceB l
  · exact ⟨_, _, rfl, rfl, by simp⟩
  · have hb : ∀ m ∈ l, (0 : Int) ≤ m.2.2.1 ∧ (m.2.2.1 : Int) < ((List.replicate 5 (0 : Int)).length : Int) := by
      intro m hm
      unfold traceB at ht
      simp only [Bool.and_eq_true, List.all_eq_true] at ht
      have h1 := ht.1 m hm
      have h2 := s_mark (m, ())
      rw [h1] at h2
      unfold s_IsMark at h2
      simp only [s_in, s_state, s_node] at h2
      have : inB m.2.2.1 0 4 = true := by
        repeat' split at h2
        all_goals simp_all
      have h3 := in_iff.1 this
      exact ⟨h3.1, Int.lt_of_le_of_lt h3.2 (by simp)⟩
    obtain ⟨c, hc, hlen⟩ := bumps_some l _ hb
    rw [hc]
    refine ⟨c, 0, ?_, ?_, ?_⟩
    · simp [room]
    · simp [room]
    · rw [hlen]; simp
end Go.Proofs.Ytgjbodfkjfieaaa
