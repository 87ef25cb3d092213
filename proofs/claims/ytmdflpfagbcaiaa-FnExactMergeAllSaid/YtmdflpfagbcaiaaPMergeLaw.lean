/- Plain law: MergeVerdicts. -/
import Derived.Test.YtmdflpfagbcaiaaPMerge
import Derived.Test.YtmdflpfagbcaiaaPDown
namespace Go.Proofs.Ytmdflpfagbcaiaa
open Go.RowKit
set_option linter.unusedVariables false
set_option linter.unusedSimpArgs false

theorem both_eq {R : Type} (x : Option R) : both x x = x := by
  unfold both
  exact if_pos rfl
/-- A verdict whose data are other numbers. -/
def withData (v : TVerdict.T) (d : List Int) : TVerdict.T := (v.1, (v.2.1.1, v.2.1.2.1, v.2.1.2.2.1, d, ()), ())
theorem mark_Verdict (v : TVerdict.T) (q : Int) (h : (dataV v).length ≤ 1099511627776) : l_markVerdict (v, q, ()) = some ((marks f_Int64 (dataV v) q).2, withData v (marks f_Int64 (dataV v) q).1, ()) := by
  have h1 : l_markInt64S (dataV v, q, ()) = _ := mark_Int64S (dataV v, q, ()) h
  have e0 : l_markVerdict (v, q, ()) = match (match l_markInt64S (dataV v, q, ()) with
      | none => none
      | some v1 => some (v1.1, (v.2.1.1, v.2.1.2.1, v.2.1.2.2.1, v1.2.1, ()), ()) : Option (Int × TFrame.T × Unit)) with
    | none => none
    | some v1 => some (v1.1, (v.1, (v.2.1.1, v.2.1.2.1, v.2.1.2.2.1, v1.2.1.2.2.2.1, ()), ()), ()) := rfl
  rw [e0, h1]
  rfl
theorem held_Verdict (v : TVerdict.T) (l : List Int) (hl : l.length ≤ 1099511627776) : l_heldVerdict (withData v (marks f_Int64 l 1).1, 1, ()) = some ((marks f_Int64 l 1).2, ()) := by
  have h1 : l_heldInt64S ((marks f_Int64 l 1).1, 1, ()) = _ := held_Int64S l hl ((marks f_Int64 l 1).1, 1, ()) rfl
  have m := q_Int64S l hl 1 (by omega) (by omega)
  have n : decide ((marks f_Int64 l 1).2 < 0) = false := by simp; omega
  have e0 : l_heldVerdict (withData v (marks f_Int64 l 1).1, 1, ()) = match (match l_heldInt64S ((marks f_Int64 l 1).1, 1, ()) with
      | none => none
      | some v1 => match (decide (v1.1 < (0 : Int))) with
        | true => some ((-1 : Int), ())
        | false => some (v1.1, ()) : Option (Int × Unit)) with
    | none => none
    | some v1 => match (decide (v1.1 < (0 : Int))) with
      | true => some ((-1 : Int), ())
      | false => some (v1.1, ()) := rfl
  rw [e0, h1]
  simp only [n]
theorem mergeR_data {a b : TVerdict.T} {n : Nat} (ha : (dataV a).length ≤ n) (hb : (dataV b).length ≤ n) : (dataV (mergeR a b).1).length ≤ n := by
  unfold mergeR
  split
  · exact merge_data ha hb
  · exact Nat.zero_le _

theorem law_MergeVerdicts (x) (hx : Wf (.pair TVerdict (.pair TVerdict .unit)) x) : l_FnExactMergeVerdicts x = some (true, ()) := by
  obtain ⟨a, b, u⟩ := x
  have ma : (dataV a).length ≤ maxLen := hx.1.2.1.2.2.2.1.1
  have mb : (dataV b).length ≤ maxLen := hx.2.1.2.1.2.2.2.1.1
  have ma' : (dataV a).length ≤ 9223372036854775807 := ma
  have mb' : (dataV b).length ≤ 9223372036854775807 := mb
  have z1 := sz_Verdict a 1048576 (by omega) (by omega) ma
  by_cases c1 : (1048576 : Int) - (dataV a).length < 0
  · rw [if_pos c1] at z1
    have e : l_FnExactMergeVerdicts (a, b, u) = match l_szVerdict (a, (1048576 : Int), ()) with
      | none => none
      | some v1 => _ := rfl
    rw [e, z1]
    rfl
  · rw [if_neg c1] at z1
    have z2 := sz_Verdict b (1048576 - ((dataV a).length : Int)) (by omega) (by omega) mb
    have la : (dataV a).length ≤ 1099511627776 := by omega
    by_cases c2 : (1048576 : Int) - ((dataV a).length : Int) - (dataV b).length < 0
    · rw [if_pos c2] at z2
      have e : l_FnExactMergeVerdicts (a, b, u) = match l_szVerdict (a, (1048576 : Int), ()) with
        | none => none
        | some v1 => match (decide (v1.1 < (0 : Int))) with
          | true => some (true, ())
          | false => match l_szVerdict (b, v1.1, ()) with
            | none => none
            | some v2 => _ := rfl
      rw [e, z1]
      simp only [decide_eq_false c1, z2]
      rfl
    · rw [if_neg c2] at z2
      have lb : (dataV b).length ≤ 1099511627776 := by omega
      have t1 : l_toVerdict (a, ()) = some (a, ()) := to_Verdict (a, ()) la
      have t2 : l_toVerdict (b, ()) = some (b, ()) := to_Verdict (b, ()) lb
      have m1 : s_MergeVerdicts (a, b, ()) = _ := s_mergeVerdicts a b la lb
      have m2 : i_MergeVerdicts (a, b, ()) = _ := i_mergeVerdicts a b la lb
      have ly := mergeR_data la lb
      have q1 : l_eqVerdict (a, a, ()) = some (true, ()) := eq_Verdict (a, a, ()) rfl la
      have q2 : l_eqVerdict (b, b, ()) = some (true, ()) := eq_Verdict (b, b, ()) rfl lb
      generalize mergeR a b = y at m1 m2 ly
      obtain ⟨y, (e : Int), ⟨⟩⟩ := y
      have q3 : l_eqVerdict (y, y, ()) = some (true, ()) := eq_Verdict (y, y, ()) rfl ly
      have k1 := mark_Verdict a 1 la
      have k2 := mark_Verdict b (marks f_Int64 (dataV a) 1).2 lb
      have k3 := mark_Verdict y 1 ly
      have h3 := held_Verdict y (dataV y) ly
      have n1 := q_Int64S (dataV a) la 1 (by omega) (by omega)
      have n2 := q_Int64S (dataV b) lb (marks f_Int64 (dataV a) 1).2 (by omega) (by omega)
      have n3 := q_Int64S (dataV y) ly 1 (by omega) (by omega)
      have d2 : decide ((marks f_Int64 (dataV b) (marks f_Int64 (dataV a) 1).2).2 < 0) = false := by simp; omega
      have d3 : decide ((marks f_Int64 (dataV y) 1).2 < 0) = false := by simp; omega
      have d0 : decide ((1048576 : Int) - ((dataV a).length : Int) < 0) = false := decide_eq_false c1
      have d1 : decide ((1048576 : Int) - ((dataV a).length : Int) - ((dataV b).length : Int) < 0) = false := decide_eq_false c2
      obtain ⟨(s1 : Int), ⟨(f1 : Int), (r1 : Int), ⟨(t11 : Int), (t12 : Int), (t13 : Int), (t14 : Int), (t15 : Int), ⟨⟩⟩, (da : List Int), ⟨⟩⟩, ⟨⟩⟩ := a
      obtain ⟨(s2 : Int), ⟨(f2 : Int), (r2 : Int), ⟨(t21 : Int), (t22 : Int), (t23 : Int), (t24 : Int), (t25 : Int), ⟨⟩⟩, (db : List Int), ⟨⟩⟩, ⟨⟩⟩ := b
      obtain ⟨(s3 : Int), ⟨(f3 : Int), (r3 : Int), ⟨(t31 : Int), (t32 : Int), (t33 : Int), (t34 : Int), (t35 : Int), ⟨⟩⟩, (dy : List Int), ⟨⟩⟩, ⟨⟩⟩ := y
      simp only [withData] at t1 t2 m1 m2 q1 q2 q3 k1 k2 k3 h3 d0 d1 d2 d3 z1 z2
      unfold l_FnExactMergeVerdicts
      simp only [z1, z2, d0, d1, t1, t2, m1, m2, q1, q2, q3, k1, k2, k3, h3, d2, d3, bne_self_i, Bool.not_true, both_eq, same_eq]
end Go.Proofs.Ytmdflpfagbcaiaa
