/- Plain law: FnMergedAll. -/
import Derived.Test.YtmdflpfagbcaiaaPMergeAll
import Derived.Test.YtmdflpfagbcaiaaPDice
import Derived.Test.YtmdflpfagbcaiaaPAgree

namespace Go.Proofs.Ytmdflpfagbcaiaa
open Go.RowKit
set_option linter.unusedVariables false
set_option linter.unusedSimpArgs false

theorem sameVerdict_iff (x y : TVerdict.T) : sameVerdictB x y = true → x = y := by
  obtain ⟨(s : Int), f, ⟨⟩⟩ := x
  obtain ⟨(s' : Int), f', ⟨⟩⟩ := y
  intro h
  unfold sameVerdictB at h
  simp only [Bool.and_eq_true] at h
  have h1 : s = s' := by simpa using h.1
  have h2 := (sameFrame_iff f f').1 h.2
  rw [h1, h2]
theorem fold_same {v : TVerdict.T} (hv : verdictB v = true) : ∀ (r : List TVerdict.T), (∀ u ∈ r, u = v) → r.foldl mergeL v = v
  | [], _ => rfl
  | u :: r, h => by
    have := h u (by simp)
    subst this
    rw [List.foldl_cons, merge_self hv]
    exact fold_same hv r (fun w hw => h w (by simp [hw]))
theorem agree_merge {l : List TVerdict.T} (h : agreeB l = true) : ∃ v r, l = v :: r ∧ mergeAllL l = v := by
  unfold agreeB at h
  simp only [Bool.and_eq_true] at h
  obtain ⟨h1, h2, h3⟩ := h
  cases l with
  | nil => exact absurd h1 (by decide)
  | cons v r =>
    simp only [List.all_eq_true] at h2 h3
    exact ⟨v, r, rfl, fold_same (h2 v (by simp)) r (fun u hu => sameVerdict_iff u v (h3 u (by simp [hu])))⟩

theorem mergeAll_split {l : List TVerdict.T} {n : Nat} (h1 : 1 ≤ n) (h2 : n ≤ l.length) : mergeAllL (mergeAllL (l.take n) :: l.drop n) = mergeAllL l := by
  cases l with
  | nil => simp at h2; omega
  | cons v r =>
    obtain ⟨m, rfl⟩ : ∃ m, n = m + 1 := ⟨n - 1, by omega⟩
    show (r.drop m).foldl mergeL ((r.take m).foldl mergeL v) = r.foldl mergeL v
    rw [← List.foldl_append, List.take_append_drop]

theorem mergeAll_valid {l : List TVerdict.T} (h1 : 1 ≤ l.length) (hv : l.all verdictB = true) : verdictB (mergeAllL l) = true := by
  cases l with
  | nil => simp at h1
  | cons v r =>
    simp only [List.all_cons, Bool.and_eq_true] at hv
    exact (merge_foldV r v hv.1 hv.2).2
theorem mergeAll_data {l : List TVerdict.T} {n : Nat} (hd : ∀ v ∈ l, (dataV v).length ≤ n) : (dataV (mergeAllL l)).length ≤ n := by
  cases l with
  | nil => exact Nat.zero_le _
  | cons v r => exact merge_foldD r v (hd v (by simp)) (fun u hu => hd u (by simp [hu]))

theorem law_MergedAll (x) (hx : Wf (.pair (.list (.int .u8)) .unit) x) : l_FnMergedAll x = some (true, ()) := by
  obtain ⟨(b : List Int), u⟩ := x
  have e0 : l_FnMergedAll (b, u) = (
      match l_big (b, ()) with
      | none => none
      | some v1 =>
      match v1.1 with
      | true =>
       some (true, ())
      | false =>
       match s_DrawMergeAll (b, ()) with
       | none => none
       | some v2 =>
       match i_MergeAll (v2.1, ()) with
       | none => none
       | some v3 =>
       match s_MergeAll (v2.1, ()) with
       | none => none
       | some v4 =>
       match i_CountStatuses (v2.1, ()) with
       | none => none
       | some v5 =>
       match s_CountStatuses (v2.1, ()) with
       | none => none
       | some v6 =>
       match (v3.2.1 != v4.2.1) with
       | true =>
        some (false, ())
       | false =>
        match l_likeVerdicts (v3.1, v4.1, ()) with
        | none => none
        | some v7 =>
        match (!v7.1) with
        | true =>
         some (false, ())
        | false =>
         match (v5.2.1 != v6.2.1) with
         | true =>
          some (false, ())
         | false =>
          match l_likeInts (v5.1, v6.1, ()) with
          | none => none
          | some v8 =>
          match (!v8.1) with
          | true =>
           some (false, ())
          | false =>
           match i_IsAgreement (v2.1, ()) with
           | none => none
           | some v9 =>
           match s_IsAgreement (v2.1, ()) with
           | none => none
           | some v10 =>
           match (v9.1 != v10.1) with
           | true =>
            some (false, ())
           | false =>
            match (v3.2.1 != (0 : Int)) with
            | true =>
             some (true, ())
            | false =>
             match i_IsAgreement (v2.1, ()) with
             | none => none
             | some v11 =>
             match v11.1 with
             | true =>
              onSome (idx v2.1 (0 : Int)) fun v12 =>
              match l_likeVerdicts (v3.1, v12, ()) with
              | none => none
              | some v13 =>
              match (!v13.1) with
              | true =>
               same (
                some (false, ()))
              | false =>
               same (
                match l_sum (v5.1, ()) with
                | none => none
                | some v14 =>
                match (v14.1 != (v2.1.length : Int)) with
                | true =>
                 some (false, ())
                | false =>
                 match l_roll (b, (2901 : Int), ()) with
                 | none => none
                 | some v15 =>
                 match l_dice_below (v15.1, (v2.1.length : Int), ()) with
                 | none => none
                 | some v16 =>
                 match ((IntKind.i64.wrap ((1 : Int) + v16.1)) == (v2.1.length : Int)) with
                 | true =>
                  some (true, ())
                 | false =>
                  onSome (bounds v2.1.length none (some (.dat (.int .i64) (IntKind.i64.wrap ((1 : Int) + v16.1))))) fun v17 =>
                  match i_MergeAll ((List.drop v17.1 (List.take v17.2 v2.1)), ()) with
                  | none => none
                  | some v18 =>
                  onSome (bounds v2.1.length (some (.dat (.int .i64) (IntKind.i64.wrap ((1 : Int) + v16.1)))) none) fun v19 =>
                  both (
                   both (
                    room ([v18.1].length + (List.drop v19.1 (List.take v19.2 v2.1)).length) (
                     same (
                      match i_MergeAll (([v18.1] ++ (List.drop v19.1 (List.take v19.2 v2.1))), ()) with
                      | none => none
                      | some v20 =>
                      match (v18.2.1 == (0 : Int)) with
                      | true =>
                       match (v20.2.1 == (0 : Int)) with
                       | true =>
                        match l_likeVerdicts (v20.1, v3.1, ()) with
                        | none => none
                        | some v21 =>
                        some (v21.1, ())
                       | false =>
                        some (false, ())
                      | false =>
                       some (false, ())))) (
                    room ([v18.1].length + (List.drop v19.1 (List.take v19.2 v2.1)).length) (
                     match i_MergeAll (([v18.1] ++ (List.drop v19.1 (List.take v19.2 v2.1))), ()) with
                     | none => none
                     | some v20 =>
                     match (v18.2.1 == (0 : Int)) with
                     | true =>
                      match (v20.2.1 == (0 : Int)) with
                      | true =>
                       match l_likeVerdicts (v20.1, v3.1, ()) with
                       | none => none
                       | some v21 =>
                       some (v21.1, ())
                      | false =>
                       some (false, ())
                     | false =>
                      some (false, ())))) (
                   room ([v18.1].length + (List.drop v19.1 (List.take v19.2 v2.1)).length) (
                    match i_MergeAll (([v18.1] ++ (List.drop v19.1 (List.take v19.2 v2.1))), ()) with
                    | none => none
                    | some v20 =>
                    match (v18.2.1 == (0 : Int)) with
                    | true =>
                     match (v20.2.1 == (0 : Int)) with
                     | true =>
                      match l_likeVerdicts (v20.1, v3.1, ()) with
                      | none => none
                      | some v21 =>
                      some (v21.1, ())
                     | false =>
                      some (false, ())
                    | false =>
                     some (false, ()))))
             | false =>
              same (
               match l_sum (v5.1, ()) with
               | none => none
               | some v22 =>
               match (v22.1 != (v2.1.length : Int)) with
               | true =>
                some (false, ())
               | false =>
                match l_roll (b, (2901 : Int), ()) with
                | none => none
                | some v23 =>
                match l_dice_below (v23.1, (v2.1.length : Int), ()) with
                | none => none
                | some v24 =>
                match ((IntKind.i64.wrap ((1 : Int) + v24.1)) == (v2.1.length : Int)) with
                | true =>
                 some (true, ())
                | false =>
                 onSome (bounds v2.1.length none (some (.dat (.int .i64) (IntKind.i64.wrap ((1 : Int) + v24.1))))) fun v25 =>
                 match i_MergeAll ((List.drop v25.1 (List.take v25.2 v2.1)), ()) with
                 | none => none
                 | some v26 =>
                 onSome (bounds v2.1.length (some (.dat (.int .i64) (IntKind.i64.wrap ((1 : Int) + v24.1)))) none) fun v27 =>
                 both (
                  both (
                   room ([v26.1].length + (List.drop v27.1 (List.take v27.2 v2.1)).length) (
                    same (
                     match i_MergeAll (([v26.1] ++ (List.drop v27.1 (List.take v27.2 v2.1))), ()) with
                     | none => none
                     | some v28 =>
                     match (v26.2.1 == (0 : Int)) with
                     | true =>
                      match (v28.2.1 == (0 : Int)) with
                      | true =>
                       match l_likeVerdicts (v28.1, v3.1, ()) with
                       | none => none
                       | some v29 =>
                       some (v29.1, ())
                      | false =>
                       some (false, ())
                     | false =>
                      some (false, ())))) (
                   room ([v26.1].length + (List.drop v27.1 (List.take v27.2 v2.1)).length) (
                    match i_MergeAll (([v26.1] ++ (List.drop v27.1 (List.take v27.2 v2.1))), ()) with
                    | none => none
                    | some v28 =>
                    match (v26.2.1 == (0 : Int)) with
                    | true =>
                     match (v28.2.1 == (0 : Int)) with
                     | true =>
                      match l_likeVerdicts (v28.1, v3.1, ()) with
                      | none => none
                      | some v29 =>
                      some (v29.1, ())
                     | false =>
                      some (false, ())
                    | false =>
                     some (false, ())))) (
                  room ([v26.1].length + (List.drop v27.1 (List.take v27.2 v2.1)).length) (
                   match i_MergeAll (([v26.1] ++ (List.drop v27.1 (List.take v27.2 v2.1))), ()) with
                   | none => none
                   | some v28 =>
                   match (v26.2.1 == (0 : Int)) with
                   | true =>
                    match (v28.2.1 == (0 : Int)) with
                    | true =>
                     match l_likeVerdicts (v28.1, v3.1, ()) with
                     | none => none
                     | some v29 =>
                     some (v29.1, ())
                    | false =>
                     some (false, ())
                   | false =>
                    some (false, ()))))) := rfl
  rw [e0]
  unfold l_big
  by_cases h : (b.length : Int) > 4096
  · simp only [decide_eq_true h]
  · have hb := bytes_of hx.1
    obtain ⟨t, ht, hlen, htd⟩ := drawMergeAll b (by omega) hb
    have hl : t.length ≤ 1099511627776 := by omega
    have htd' : ∀ v ∈ t, (dataV v).length ≤ 1099511627776 := fun v hv => Nat.le_trans (htd v hv) (by omega)
    obtain ⟨c, e, hcs, hci, hc5, hsum⟩ := counts_eq t (by omega) htd'
    have b1 : ∀ a : Int, (a != a) = false := bne_self_i
    have b2 : ∀ a : Bool, (a != a) = false := bne_self_b
    have hlike : ∀ v : TVerdict.T, (dataV v).length ≤ 2000 → l_likeVerdicts (v, v, ()) = some (true, ()) := fun v hv => likeVerdicts_ok v (by omega)
    have hmd : (dataV (mergeAllR t).1).length ≤ 2000 := by
      unfold mergeAllR
      split
      · split
        · exact mergeAll_data htd
        · exact Nat.zero_le _
      · exact Nat.zero_le _
    have hlk := hlike _ hmd
    simp only [decide_eq_false h, ht, i_mergeAll t hl htd', s_mergeAll t hl htd', hcs, hci, i_agree t hl htd', s_agree t hl htd', likeInts_ok c (by omega), hlk, b1, b2, Bool.not_true]
    by_cases he : (mergeAllR t).2.1 = (0 : Int)
    · have hin : inB (t.length : Int) 1 32 = true := by
        cases hin : inB (t.length : Int) 1 32 with
        | true => rfl
        | false => unfold mergeAllR at he; rw [hin] at he; simp at he
      have hv : t.all verdictB = true := by
        cases hv : t.all verdictB with
        | true => rfl
        | false => unfold mergeAllR at he; rw [hin, hv] at he; simp at he
      have hR : mergeAllR t = (mergeAllL t, (0 : Int), ()) := by
        unfold mergeAllR
        rw [hin, hv]
        rfl
      obtain ⟨n1, n2⟩ := in_iff.1 hin
      have hsum := hsum hv
      obtain ⟨d, hroll⟩ := roll_ok b 2901 (by omega)
      obtain ⟨k, q, hbel, k0, k1⟩ := below_ok b d (t.length : Int) hb (by omega)
      have hml : (dataV (mergeAllL t)).length ≤ 2000 := mergeAll_data htd
      have hlk2 := hlike _ hml
      obtain ⟨m, rfl⟩ : ∃ m : Nat, k = m := ⟨k.toNat, by omega⟩
      have hw : IntKind.i64.wrap ((1 : Int) + (m : Int)) = ((m + 1 : Nat) : Int) := by rw [wrap_i64] <;> omega
      have z0 : ((0 : Int) == (0 : Int)) = true := by decide
      have z1 : ((0 : Int) != (0 : Int)) = false := by decide
      have hbd0 : bounds t.length none (some (.dat (.int .i64) ((m + 1 : Nat) : Int))) = some (0, m + 1) := by
        have hh : (0 : Int) ≤ 0 ∧ (0 : Int) ≤ ((m + 1 : Nat) : Int) ∧ ((m + 1 : Nat) : Int) ≤ (t.length : Int) := ⟨by omega, by omega, by omega⟩
        simp only [bounds, bndOr]
        exact if_pos hh
      have hbd1 : bounds t.length (some (.dat (.int .i64) ((m + 1 : Nat) : Int))) none = some (m + 1, t.length) := by
        have hh : (0 : Int) ≤ ((m + 1 : Nat) : Int) ∧ ((m + 1 : Nat) : Int) ≤ (t.length : Int) ∧ (t.length : Int) ≤ (t.length : Int) := ⟨by omega, by omega, by omega⟩
        simp only [bounds, bndOr]
        exact if_pos hh
      have ht0 : List.drop 0 (List.take (m + 1) t) = t.take (m + 1) := List.drop_zero
      have ht1 : List.drop (m + 1) (List.take t.length t) = t.drop (m + 1) := by rw [List.take_length]
      have hvt := List.all_eq_true.1 hv
      have hv0 : (t.take (m + 1)).all verdictB = true := List.all_eq_true.2 fun v hv => hvt v (List.mem_of_mem_take hv)
      have hl0 : (t.take (m + 1)).length = m + 1 := by simp; omega
      have hd0 : ∀ v ∈ t.take (m + 1), (dataV v).length ≤ 2000 := fun v hv => htd v (List.mem_of_mem_take hv)
      have hmv := mergeAll_valid (l := t.take (m + 1)) (by omega) hv0
      have hmd0 := mergeAll_data hd0
      have hi1 : i_MergeAll (t.take (m + 1), ()) = some (mergeAllL (t.take (m + 1)), (0 : Int), ()) := by
        rw [i_mergeAll _ (by omega) (fun v hv => Nat.le_trans (hd0 v hv) (by omega))]
        unfold mergeAllR
        rw [hv0, in_iff.2 (show (1 : Int) ≤ ((t.take (m + 1)).length : Int) ∧ ((t.take (m + 1)).length : Int) ≤ 32 from ⟨by omega, by omega⟩)]
        rfl
      have hi2 : i_MergeAll ([mergeAllL (t.take (m + 1))] ++ t.drop (m + 1), ()) = some (mergeAllL t, (0 : Int), ()) := by
        have hle : ([mergeAllL (t.take (m + 1))] ++ t.drop (m + 1)).length = t.length - m := by simp; omega
        have hvv : ([mergeAllL (t.take (m + 1))] ++ t.drop (m + 1)).all verdictB = true := by
          rw [List.all_append, Bool.and_eq_true]
          exact ⟨by simp [hmv], List.all_eq_true.2 fun v hv => hvt v (List.mem_of_mem_drop hv)⟩
        rw [i_mergeAll _ (by omega) (fun v hv => by
          rcases List.mem_append.1 hv with hv | hv
          · simp at hv; subst hv; exact Nat.le_trans hmd0 (by omega)
          · exact htd' v (List.mem_of_mem_drop hv))]
        unfold mergeAllR
        rw [hvv, in_iff.2 (show (1 : Int) ≤ (([mergeAllL (t.take (m + 1))] ++ t.drop (m + 1)).length : Int) ∧ (([mergeAllL (t.take (m + 1))] ++ t.drop (m + 1)).length : Int) ≤ 32 from ⟨by omega, by omega⟩)]
        show some (mergeAllL (mergeAllL (t.take (m + 1)) :: t.drop (m + 1)), (0 : Int), ()) = _
        rw [mergeAll_split (by omega) (by omega)]
      have hroom : ∀ {R : Type} (y : Option R), room ([mergeAllL (t.take (m + 1))].length + (t.drop (m + 1)).length) y = y := fun y => room_ok (by simp; omega)
      simp only [hR, z1, hsum, hroll, hbel, hw, b1]
      by_cases hml : m + 1 = t.length
      · have hq : (((m + 1 : Nat) : Int) == (t.length : Int)) = true := by simp [hml]
        cases hag : agreeB t with
        | true =>
          obtain ⟨v, r, e1, e2⟩ := agree_merge hag
          have hidx : idx t (0 : Int) = some (mergeAllL t) := by rw [e2, e1]; rfl
          simp only [hidx, onSome, hlk2, Bool.not_true, same_eq, hq]
        | false => simp only [same_eq, hq]
      · have hq : (((m + 1 : Nat) : Int) == (t.length : Int)) = false := by rw [beq_eq_false_iff_ne]; omega
        cases hag : agreeB t with
        | true =>
          obtain ⟨v, r, e1, e2⟩ := agree_merge hag
          have hidx : idx t (0 : Int) = some (mergeAllL t) := by rw [e2, e1]; rfl
          simp only [hidx, onSome, hlk2, Bool.not_true, same_eq, hq, hbd0, hbd1, ht0, ht1, hi1, hroom, hi2, z0, both_same]
        | false => simp only [onSome, same_eq, hq, hbd0, hbd1, ht0, ht1, hi1, hroom, hi2, z0, both_same, hlk2]
    · have e0 : ((mergeAllR t).2.1 != (0 : Int)) = true := by simpa using he
      simp only [e0]
end Go.Proofs.Ytmdflpfagbcaiaa
