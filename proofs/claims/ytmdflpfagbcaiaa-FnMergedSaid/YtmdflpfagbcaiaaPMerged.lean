/- Plain law: FnMerged. -/
import Derived.Test.YtmdflpfagbcaiaaPMerge
import Derived.Test.YtmdflpfagbcaiaaPDrawVerdict
namespace Go.Proofs.Ytmdflpfagbcaiaa
open Go.RowKit
set_option linter.unusedVariables false
set_option linter.unusedSimpArgs false

theorem law_Merged (x) (hx : Wf (.pair (.list (.int .u8)) .unit) x) : l_FnMerged x = some (true, ()) := by
  obtain ⟨(l : List Int), u⟩ := x
  unfold l_FnMerged l_big
  by_cases h : (l.length : Int) > 4096
  · simp only [decide_eq_true h]
  · have hb := bytes_of hx.1
    obtain ⟨a, b, ht, ha, hbb⟩ := drawTwo l (by omega) hb
    have la : (dataV a).length ≤ 1099511627776 := by omega
    have lb : (dataV b).length ≤ 1099511627776 := by omega
    have m1 : i_MergeVerdicts (a, b, ()) = _ := i_mergeVerdicts a b la lb
    have m2 : s_MergeVerdicts (a, b, ()) = _ := s_mergeVerdicts a b la lb
    have m3 : i_MergeVerdicts (b, a, ()) = _ := i_mergeVerdicts b a lb la
    have m4 : i_MergeVerdicts (a, a, ()) = _ := i_mergeVerdicts a a la la
    have m5 : i_MergeVerdicts (a, bareV 0, ()) = _ := i_mergeVerdicts a (bareV 0) la (Nat.zero_le _)
    have k1 : (dataV (mergeL a b)).length ≤ 1099511627776 := merge_data la lb
    have k0 : (dataV (mergeR a b).1).length ≤ 1099511627776 := by
      unfold mergeR
      split
      · exact k1
      · exact Nat.zero_le _
    simp only [decide_eq_false h, ht]
    have e0 : (match i_MergeVerdicts (a, b, ()) with
      | none => none
      | some v3 => match s_MergeVerdicts (a, b, ()) with
        | none => none
        | some v4 => match (v3.2.1 != v4.2.1) with
          | true => some (false, ())
          | false => match l_likeVerdicts (v3.1, v4.1, ()) with
            | none => none
            | some v5 => match (!v5.1) with
              | true => some (false, ())
              | false => match (v3.2.1 != (0 : Int)) with
                | true => some (true, ())
                | false => match i_MergeVerdicts (b, a, ()) with
                  | none => none
                  | some v6 => match i_MergeVerdicts (a, a, ()) with
                    | none => none
                    | some v7 => match i_MergeVerdicts (a, bareV 0, ()) with
                      | none => none
                      | some v8 => match (v6.2.1 == (0 : Int)) with
                        | true => match (v7.2.1 == (0 : Int)) with
                          | true => match (v8.2.1 == (0 : Int)) with
                            | true => match l_likeVerdicts (v6.1, v3.1, ()) with
                              | none => none
                              | some v9 => match v9.1 with
                                | true => match l_likeVerdicts (v7.1, a, ()) with
                                  | none => none
                                  | some v10 => match v10.1 with
                                    | true => match l_likeVerdicts (v8.1, a, ()) with
                                      | none => none
                                      | some v11 => match v11.1 with
                                        | true => match i_IsVerdict (v3.1, ()) with
                                          | none => none
                                          | some v12 => some (v12.1, ())
                                        | false => some (false, ())
                                    | false => some (false, ())
                                | false => some (false, ())
                            | false => some (false, ())
                          | false => some (false, ())
                        | false => some (false, ()) : Option (Bool × Unit)) = some (true, ()) := by
      rw [m1, m2]
      simp only
      rw [bne_self_i, likeVerdicts_ok _ k0]
      simp only [Bool.not_true]
      cases hv : verdictB a with
      | false => unfold mergeR; rw [hv]; rfl
      | true =>
        cases hw : verdictB b with
        | false => unfold mergeR; rw [hv, hw]; rfl
        | true =>
          have r1 : mergeR a b = (mergeL a b, (0 : Int), ()) := by unfold mergeR; rw [hv, hw]; rfl
          have r2 : mergeR b a = (mergeL a b, (0 : Int), ()) := by unfold mergeR; rw [hv, hw, merge_comm hv hw]; rfl
          have r3 : mergeR a a = (a, (0 : Int), ()) := by unfold mergeR; rw [hv, merge_self hv]; rfl
          have r4 : mergeR a (bareV 0) = (a, (0 : Int), ()) := by unfold mergeR; rw [hv, bare_ok (by omega) (by omega) (by omega), merge_null hv]; rfl
          rw [m3, m4, m5, r1, r2, r3, r4]
          simp only
          rw [likeVerdicts_ok _ k1, likeVerdicts_ok _ la]
          have hi : i_IsVerdict (mergeL a b, ()) = some (verdictB (mergeL a b), ()) := i_verdict _ k1
          rw [hi, merge_valid hv hw]
          rfl
    exact e0
end Go.Proofs.Ytmdflpfagbcaiaa
