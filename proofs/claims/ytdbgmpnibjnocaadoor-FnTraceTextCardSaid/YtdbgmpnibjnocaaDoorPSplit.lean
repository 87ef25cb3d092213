/- Plain laws: a text's parts between one byte. -/
import Derived.Test.YtdbgmpnibjnocaaDoorPB
import Derived.Test.YtdbgmpnibjnocaaDoorLibS
namespace Go.Proofs.YtdbgmpnibjnocaaDoor
open Go.RowKit
set_option linter.unusedVariables false
set_option linter.unusedSimpArgs false

/-- The parts; cur: what has come of the first one. -/
def sp (c : UInt8) : List UInt8 → List UInt8 → List (List UInt8)
  | cur, [] => [cur]
  | cur, x :: r => if x = c then cur :: sp c [] r else sp c (cur ++ [x]) r

theorem sp_no (c : UInt8) : ∀ (s cur : List UInt8), c ∉ s → sp c cur s = [cur ++ s]
  | [], cur, _ => by simp [sp]
  | x :: s, cur, h => by
    have hx : ¬ x = c := fun e => h (by simp [e])
    simp only [sp, if_neg hx]
    rw [sp_no c s (cur ++ [x]) (fun hm => h (by simp [hm]))]
    simp
theorem sp_hit (c : UInt8) : ∀ (p cur r : List UInt8), c ∉ p → sp c cur (p ++ c :: r) = (cur ++ p) :: sp c [] r
  | [], cur, r, _ => by simp [sp]
  | x :: p, cur, r, h => by
    have hx : ¬ x = c := fun e => h (by simp [e])
    simp only [List.cons_append, sp, if_neg hx]
    rw [sp_hit c p (cur ++ [x]) r (fun hm => h (by simp [hm]))]
    simp
theorem sp_ne (c : UInt8) : ∀ (s cur : List UInt8), sp c cur s ≠ []
  | [], cur => by simp [sp]
  | x :: s, cur => by
    unfold sp
    split
    · simp
    · exact sp_ne c s _
theorem sp_len (c : UInt8) : ∀ (s cur : List UInt8), (sp c cur s).length ≤ s.length + 1
  | [], cur => by simp [sp]
  | x :: s, cur => by
    unfold sp
    split
    · have := sp_len c s []
      simp
      omega
    · have := sp_len c s (cur ++ [x])
      simp
      omega
theorem sp_mem_len (c : UInt8) : ∀ (s cur p : List UInt8), p ∈ sp c cur s → p.length ≤ cur.length + s.length
  | [], cur, p, h => by simp [sp] at h; subst h; simp
  | x :: s, cur, p, h => by
    unfold sp at h
    split at h
    · rcases List.mem_cons.1 h with rfl | h
      · simp
      · have := sp_mem_len c s [] p h
        simp at this ⊢
        omega
    · have := sp_mem_len c s (cur ++ [x]) p h
      simp at this ⊢
      omega

theorem index_cases (c : UInt8) : ∀ s : List UInt8, (Lib.index s [c] = -1 ∧ c ∉ s) ∨ ∃ p r, s = p ++ c :: r ∧ c ∉ p ∧ Lib.index s [c] = (p.length : Int)
  | [] => .inl ⟨rfl, by simp⟩
  | x :: s => by
    by_cases h : x = c
    · subst h
      refine .inr ⟨[], s, rfl, by simp, ?_⟩
      unfold Lib.index
      simp
    · have hp : ([c].isPrefixOf (x :: s)) = false := by
        simp only [List.isPrefixOf, Bool.and_true, beq_eq_false_iff_ne]
        exact fun e => h e.symm
      rcases index_cases c s with ⟨h1, h2⟩ | ⟨p, r, rfl, h2, h3⟩
      · refine .inl ⟨?_, fun hm => ?_⟩
        · unfold Lib.index
          rw [hp, h1]
          rfl
        · rcases List.mem_cons.1 hm with e | hm
          · exact h e.symm
          · exact h2 hm
      · refine .inr ⟨x :: p, r, rfl, fun hm => ?_, ?_⟩
        · rcases List.mem_cons.1 hm with e | hm
          · exact h e.symm
          · exact h2 hm
        · unfold Lib.index
          rw [hp, h3]
          have hn : ((p.length : Int) == -1) = false := by
            rw [beq_eq_false_iff_ne]
            omega
          rw [hn]
          simp
theorem splitK_sp (c : UInt8) : ∀ (k : Nat) (s : List UInt8), s.count c = k → Lib.splitK [c] 0 k s = sp c [] s
  | 0, s, h => by
    have : c ∉ s := List.count_eq_zero.1 h
    rw [sp_no c s [] this]
    rfl
  | k + 1, s, h => by
    rcases index_cases c s with ⟨h1, h2⟩ | ⟨p, r, rfl, h2, h3⟩
    · have := List.count_eq_zero.2 h2
      omega
    · have hn : (((p.length : Nat) : Int) == -1) = false := by
        rw [beq_eq_false_iff_ne]
        omega
      have hp := List.count_eq_zero.2 h2
      have hr : r.count c = k := by
        rw [List.count_append, List.count_cons_self, hp] at h
        omega
      unfold Lib.splitK
      rw [h3, hn, sp_hit c p [] r h2]
      have e1 : (p ++ c :: r).take (((p.length : Nat) : Int).toNat + 0) = p := by simp
      have e2 : (p ++ c :: r).drop (((p.length : Nat) : Int).toNat + [c].length) = r := by
        rw [show p ++ c :: r = (p ++ [c]) ++ r from by simp]
        exact List.drop_left' (by simp)
      rw [e1, e2, splitK_sp c k r hr]
      simp
theorem split_sp (s : List UInt8) (c : UInt8) : Lib.split s [c] = sp c [] s := splitK_sp c _ s (Lib.count_one c s).symm
theorem cut_no {s : List UInt8} {c : UInt8} (h : c ∉ s) : Lib.cut s [c] = (s, [], false) := by
  rcases index_cases c s with ⟨h1, _⟩ | ⟨p, r, rfl, _, _⟩
  · unfold Lib.cut
    rw [h1]
    rfl
  · exact absurd (by simp) h
theorem cut_hit {p r : List UInt8} {c : UInt8} (h : c ∉ p) : Lib.cut (p ++ c :: r) [c] = (p, r, true) := by
  rcases index_cases c (p ++ c :: r) with ⟨_, h2⟩ | ⟨p', r', e, h2, h3⟩
  · exact absurd (by simp) h2
  · have hpp : p = p' ∧ r = r' := by
      clear h3
      induction p generalizing p' with
      | nil =>
        cases p' with
        | nil => simp at e; exact ⟨rfl, e⟩
        | cons x p' => simp at e; exact absurd (by simp [e.1]) h2
      | cons x p ih =>
        cases p' with
        | nil => simp at e; exact absurd (by simp [e.1]) h
        | cons y p' =>
          simp at e
          obtain ⟨rfl, e⟩ := e
          have := ih (fun hm => h (by simp [hm])) p' e (fun hm => h2 (by simp [hm]))
          exact ⟨by rw [this.1], this.2⟩
    obtain ⟨rfl, rfl⟩ := hpp
    unfold Lib.cut
    rw [h3, if_pos (by omega)]
    have e1 : (p ++ c :: r).take ((p.length : Int)).toNat = p := by simp
    have e2 : (p ++ c :: r).drop (((p.length : Nat) : Int).toNat + [c].length) = r := by
      rw [show p ++ c :: r = (p ++ [c]) ++ r from by simp]
      exact List.drop_left' (by simp)
    rw [e1, e2]
theorem cut_cases (s : List UInt8) (c : UInt8) : (c ∉ s ∧ Lib.cut s [c] = (s, [], false)) ∨ ∃ p r, s = p ++ c :: r ∧ c ∉ p ∧ Lib.cut s [c] = (p, r, true) := by
  rcases index_cases c s with ⟨_, h⟩ | ⟨p, r, rfl, h, _⟩
  · exact .inl ⟨h, cut_no h⟩
  · exact .inr ⟨p, r, rfl, h, cut_hit h⟩
theorem splitF_ok {s : List UInt8} {c : UInt8} (h : s.length ≤ 1048576) : splitF s [c] = some (sp c [] s) := by
  unfold splitF
  rw [if_pos ⟨h, rfl⟩, split_sp]
theorem cutF_ok {s : List UInt8} {c : UInt8} (h : s.length ≤ 1048576) : cutF s [c] = some (Lib.cut s [c]) := by
  unfold cutF
  rw [if_pos ⟨h, rfl⟩]
end Go.Proofs.YtdbgmpnibjnocaaDoor
