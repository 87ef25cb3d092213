/- Plain laws: frames and verdicts. -/
import Derived.Test.YtmdflpfagbcaiaaPBits
import Derived.Test.YtmdflpfagbcaiaaPBytes
import Derived.Test.YtmdflpfagbcaiaaPState
import Derived.Test.YtmdflpfagbcaiaaPPush
namespace Go.Proofs.Ytmdflpfagbcaiaa
open Go.RowKit
set_option linter.unusedVariables false
set_option linter.unusedSimpArgs false

theorem s_kind (x) : s_l06Kind x = some (inB x.1 0 3, ()) := by unfold s_l06Kind; simp only [s_in]
theorem i_kind (x) : i_isKind x = some (inB x.1 0 3, ()) := by unfold i_isKind; simp only [i_in]
def dsizeB (k n : Int) : Bool := if k == 0 then inB n 0 32 else if k == 2 then inB n 1 32 else n == 0
theorem s_size (x) : s_l06Size x = some (dsizeB x.1 x.2.1, ()) := by
  unfold s_l06Size dsizeB
  simp only [s_in]
  rcases Bool.eq_false_or_eq_true (x.1 == (0 : Int)) with h | h <;> rcases Bool.eq_false_or_eq_true (x.1 == (2 : Int)) with h2 | h2 <;> simp only [h, h2] <;> rfl
theorem i_size (x) : i_isDataSize x = some (dsizeB x.1 x.2.1, ()) := by
  unfold i_isDataSize dsizeB
  simp only [i_in]
  rcases Bool.eq_false_or_eq_true (x.1 == (0 : Int)) with h | h <;> rcases Bool.eq_false_or_eq_true (x.1 == (2 : Int)) with h2 | h2 <;> simp only [h, h2] <;> rfl

/-- Is one bit set, alone? -/
def aloneB (v : Int) : Bool := (v != 0) && (bits BinOp.and .i64 v (IntKind.i64.wrap (v - 1)) == 0)
theorem alone_ones (v : Int) (h : inB v 0 4294967295 = true) : aloneB v = decide (ones 32 v.toNat = 1) := by
  obtain ⟨h0, h1⟩ := in_iff.1 h
  obtain ⟨n, rfl⟩ : ∃ n : Nat, v = n := ⟨v.toNat, by omega⟩
  have hn : n < 2 ^ 32 := by omega
  rw [Int.toNat_natCast, Bool.eq_iff_iff, decide_eq_true_eq, one_bit 32 n hn]
  unfold aloneB
  by_cases hz : n = 0
  · subst hz; simp
  · have hw : IntKind.i64.wrap ((n : Int) - 1) = ((n - 1 : Nat) : Int) := by rw [wrap_i64] <;> omega
    rw [hw, and_i64 n (n - 1) (by omega) (by omega)]
    simp [hz]
theorem s_has (v : Nat) (k : Nat) (hv : v < 4294967296) (hk : k < 32) : s_l05Has ((v : Int), (k : Int), ()) = some ((v / 2 ^ k) % 2 == 1, ()) := by
  have hw : IntKind.u64.wrap (k : Int) = (k : Int) := by
    simp [IntKind.wrap, IntKind.signed, IntKind.bits]
    omega
  have hb : min (IntKind.u64.wrap (k : Int)).toNat IntKind.i64.bits = k := by
    rw [hw]
    simp [IntKind.bits]
    omega
  have hp : (0 : Int) ≤ 2 ^ k := Int.pow_nonneg (by decide)
  have hd : Int.fdiv (v : Int) (2 ^ k) = ((v / 2 ^ k : Nat) : Int) := by
    rw [Int.fdiv_eq_ediv_of_nonneg _ hp]
    norm_cast
  have hle : v / 2 ^ k ≤ v := Nat.div_le_self _ _
  have ha : bits BinOp.and .i64 ((v / 2 ^ k : Nat) : Int) (1 : Int) = (((v / 2 ^ k) % 2 : Nat) : Int) := by
    have := and_i64 (v / 2 ^ k) 1 (by omega) (by omega)
    rw [Nat.and_one_is_mod] at this
    exact this
  have hneg : ¬ IntKind.u64.wrap (k : Int) < 0 := by rw [hw]; omega
  have e0 : s_l05Has ((v : Int), (k : Int), ()) = if (IntKind.u64.wrap (k : Int)) < 0 then none else some (((bits BinOp.and .i64 (Int.fdiv (v : Int) (2 ^ min (IntKind.u64.wrap (k : Int)).toNat IntKind.i64.bits)) (1 : Int)) == (1 : Int)), ()) := rfl
  have hz : ∀ z : Nat, ((((z % 2 : Nat) : Int)) == 1) = (z % 2 == 1) := by
    intro z
    rw [Bool.eq_iff_iff]
    simp
    omega
  rw [e0, if_neg hneg, hb, hd, ha, hz]
theorem s_vector1 (v : Int) : s_l05Vector ([v], ()) = some (inB v 0 4294967295, ()) := by
  have e := all_ok (B := b_s_l05Vector_2) [v] (fun i => ([v], (i : Int), ())) (fun v => inB v 0 4294967295) (.inl ()) (.inr (false, ())) (by simp only [b_s_l05Vector_2, lt_n]) (fun i h => by
    simp only [b_s_l05Vector_2, lt_i h, next_i h (show [v].length ≤ 1099511627776 by simp), idx_nat h, onSome, s_in]
    cases inB [v][i] 0 4294967295 <;> simp)
  have e' : loopL b_s_l05Vector_2 ([v], (0 : Int), ()) = _ := e
  unfold s_l05Vector
  simp only [e']
  simp
  cases inB v 0 4294967295 <;> simp
def membersL (v : Int) : List Int := pushes (fun _ (k : Nat) => if (v.toNat / 2 ^ k) % 2 == 1 then [(k : Int)] else []) 0 (List.range 32)
theorem members_len (v : Int) : (membersL v).length = ones 32 v.toNat := by
  have key : ∀ (r : List Nat) (i : Nat), (pushes (fun _ (k : Nat) => if (v.toNat / 2 ^ k) % 2 == 1 then [(k : Int)] else []) i r).length = (r.filter (fun k => (v.toNat / 2 ^ k) % 2 == 1)).length := by
    intro r
    induction r with
    | nil => intro i; rfl
    | cons k r ih =>
      intro i
      simp only [pushes, List.length_append, ih (i + 1), List.filter_cons]
      cases ((v.toNat / 2 ^ k) % 2 == 1) <;> simp
      omega
  rw [← ones_range 32 v.toNat]
  exact key _ 0
theorem s_members (v : Int) : s_MembersOf (v, ()) = some (if inB v 0 4294967295 then (membersL v, 0, ()) else ([], 2, ())) := by
  have e0 : s_MembersOf (v, ()) = match s_l05Vector ([v], ()) with
    | none => none
    | some v1 => match (!v1.1) with
      | true => some ([], (2 : Int), ())
      | false => match loopL b_s_MembersOf_5 (v, [], (0 : Int), ()) with
        | none => none
        | some (.inl v3) => some (v3.1, (0 : Int), ())
        | some (.inr v5) => none := rfl
  rw [e0, s_vector1]
  rcases Bool.eq_false_or_eq_true (inB v 0 4294967295) with h | h
  · obtain ⟨h0, h1⟩ := in_iff.1 h
    have e := push_ok (B := b_s_MembersOf_5) (List.range 32) (by simp) (fun s i => (v, s, (i : Int), ())) (fun _ (k : Nat) => if (v.toNat / 2 ^ k) % 2 == 1 then [(k : Int)] else []) (fun i k => by split <;> simp) (fun s => .inl (s, ())) (fun s => by rw [List.length_range]; rfl) (fun s i hi hs => by
      have hi' : i < 32 := by simpa using hi
      have hlt : decide ((i : Int) < 32) = true := by simp; omega
      have hh := s_has v.toNat i (by omega) hi'
      rw [show ((v.toNat : Nat) : Int) = v by omega] at hh
      simp only [b_s_MembersOf_5, hlt, next_i hi' (show 32 ≤ 1099511627776 by omega), hh, List.getElem_range]
      rcases Bool.eq_false_or_eq_true ((v.toNat / 2 ^ i) % 2 == 1) with h2 | h2
      · simp only [h2, if_true]
        rw [room_ok (by simp; omega)]
      · simp only [h2]
        simp)
    have e' : loopL b_s_MembersOf_5 (v, [], (0 : Int), ()) = _ := e
    simp only [h, Bool.not_true, e', if_true]
    rfl
  · simp [h]

/-- Are two states the same? -/
def sameState (a b : TState.T) : Bool := eqT TState a b
def sameFrameB (a b : TFrame.T) : Bool := (a.1 == b.1) && ((a.2.1 == b.2.1) && (eqT TState a.2.2.1 b.2.2.1 && decide ((a.2.2.2.1 : List Int) = b.2.2.2.1)))
theorem s_sameFrame (x) (h : x.1.2.2.2.1.length ≤ 1099511627776) : s_l28Same x = some (sameFrameB x.1 x.2.1, ()) := by
  have hs : s_l01Same (x.1.2.2.2.1, x.2.1.2.2.2.1, ()) = _ := s_same x.1.2.2.2.1 x.2.1.2.2.2.1 h
  have e0 : s_l28Same x = match (x.1.1 == x.2.1.1) with
    | true => match (x.1.2.1 == x.2.1.2.1) with
      | true => match eqT TState x.1.2.2.1 x.2.1.2.2.1 with
        | true => match s_l01Same (x.1.2.2.2.1, x.2.1.2.2.2.1, ()) with
          | none => none
          | some v1 => some (v1.1, ())
        | false => some (false, ())
      | false => some (false, ())
    | false => some (false, ()) := rfl
  rw [e0, hs]
  unfold sameFrameB
  rcases Bool.eq_false_or_eq_true (x.1.1 == x.2.1.1) with h1 | h1 <;> rcases Bool.eq_false_or_eq_true (x.1.2.1 == x.2.1.2.1) with h2 | h2 <;> rcases Bool.eq_false_or_eq_true (eqT TState x.1.2.2.1 x.2.1.2.2.1) with h3 | h3 <;> simp only [h1, h2, h3] <;> rfl
theorem i_sameFrame1 (x) (h : x.1.2.2.2.1.length ≤ 1099511627776) : i_sameFrame x = some (sameFrameB x.1 x.2.1, ()) := by
  have hs : slices_Equal_int64 (x.1.2.2.2.1, x.2.1.2.2.2.1, ()) = _ := i_same x.1.2.2.2.1 x.2.1.2.2.2.1 h
  have e0 : i_sameFrame x = match (x.1.1 == x.2.1.1) with
    | true => match (x.1.2.1 == x.2.1.2.1) with
      | true => match eqT TState x.1.2.2.1 x.2.1.2.2.1 with
        | true => match slices_Equal_int64 (x.1.2.2.2.1, x.2.1.2.2.2.1, ()) with
          | none => none
          | some v1 => some (v1.1, ())
        | false => some (false, ())
      | false => some (false, ())
    | false => some (false, ()) := rfl
  rw [e0, hs]
  unfold sameFrameB
  rcases Bool.eq_false_or_eq_true (x.1.1 == x.2.1.1) with h1 | h1 <;> rcases Bool.eq_false_or_eq_true (x.1.2.1 == x.2.1.2.1) with h2 | h2 <;> rcases Bool.eq_false_or_eq_true (eqT TState x.1.2.2.1 x.2.1.2.2.1) with h3 | h3 <;> simp only [h1, h2, h3] <;> rfl
def sameVerdictB (a b : TVerdict.T) : Bool := (a.1 == b.1) && sameFrameB a.2.1 b.2.1
theorem i_sameVerdict (x) (h : x.1.2.1.2.2.2.1.length ≤ 1099511627776) : i_SameVerdict x = some (sameVerdictB x.1 x.2.1, ()) := by
  have e0 : i_SameVerdict x = match (x.1.1 == x.2.1.1) with
    | true => match i_sameFrame (x.1.2.1, x.2.1.2.1, ()) with
      | none => none
      | some v1 => some (v1.1, ())
    | false => some (false, ()) := rfl
  rw [e0, i_sameFrame1 (x.1.2.1, x.2.1.2.1, ()) h]
  unfold sameVerdictB
  rcases Bool.eq_false_or_eq_true (x.1.1 == x.2.1.1) with h1 | h1 <;> simp only [h1] <;> rfl

noncomputable def frameB (f : TFrame.T) : Bool := inB f.1 0 3 && (inB f.2.1 0 7 && (dsizeB f.1 f.2.2.2.1.length && (bytesB f.2.2.2.1 && (if f.1 == (0 : Int) then eqT TState f.2.2.1 ((0 : Int), (0 : Int), (0 : Int), (0 : Int), (0 : Int), ()) else if f.1 == (3 : Int) then stateB f.2.2.1 && ((f.2.2.1.2.1 == (0 : Int)) && (aloneB f.2.2.1.2.2.2.2.1 && (f.2.1 == (0 : Int)))) else stateB f.2.2.1))))
theorem state_vec {x : TState.T} (h : stateB x = true) : inB x.2.2.2.2.1 0 4294967295 = true := by
  unfold stateB at h
  simp only [Bool.and_eq_true] at h
  exact h.2
theorem s_frame (x) (h : x.1.2.2.2.1.length ≤ 1099511627776) : s_IsFrame x = some (frameB x.1, ()) := by
  obtain ⟨⟨(k : Int), (m : Int), st, d, u⟩, u'⟩ := x
  have hb : s_IsBytes (d, ()) = some (bytesB d, ()) := s_bytes (d, ()) h
  have hst : s_IsState ((st.1, st.2.1, st.2.2.1, st.2.2.2.1, st.2.2.2.2.1, ()), ()) = some (stateB st, ()) := s_state (st, ())
  have hm := s_members st.2.2.2.2.1
  have hz : eqT TState (st.1, st.2.1, st.2.2.1, st.2.2.2.1, st.2.2.2.2.1, ()) ((0 : Int), (0 : Int), (0 : Int), (0 : Int), (0 : Int), ()) = eqT TState st ((0 : Int), (0 : Int), (0 : Int), (0 : Int), (0 : Int), ()) := rfl
  unfold s_IsFrame frameB
  simp only [s_kind, s_in, s_size, hb, hst, hm, hz]
  rcases Bool.eq_false_or_eq_true (inB k 0 3) with h1 | h1 <;> simp only [h1, Bool.not_true, Bool.not_false, Bool.true_and, Bool.false_and]
  rcases Bool.eq_false_or_eq_true (inB m 0 7) with h2 | h2 <;> simp only [h2, Bool.not_true, Bool.not_false, Bool.true_and, Bool.false_and]
  rcases Bool.eq_false_or_eq_true (dsizeB k (d.length : Int)) with h3 | h3 <;> simp only [h3, Bool.not_true, Bool.not_false, Bool.true_and, Bool.false_and]
  rcases Bool.eq_false_or_eq_true (bytesB d) with h4 | h4 <;> simp only [h4, Bool.not_true, Bool.not_false, Bool.true_and, Bool.false_and]
  rcases Bool.eq_false_or_eq_true (k == 0) with h5 | h5 <;> simp only [h5, if_true]
  rcases Bool.eq_false_or_eq_true (k == 3) with h6 | h6 <;> simp only [h6, if_true]
  · rcases Bool.eq_false_or_eq_true (stateB st) with h7 | h7
    · have hv := state_vec h7
      have ha := alone_ones _ hv
      rw [← members_len] at ha
      rcases Bool.eq_false_or_eq_true (st.2.1 == (0 : Int)) with h8 | h8
      · simp only [h7, hv, h8, ha, if_true, Bool.true_and]
        by_cases h9 : (membersL st.2.2.2.2.1).length = 1
        · have : (((membersL st.2.2.2.2.1).length : Int) == 1) = true := by rw [h9]; rfl
          simp [this, h9]
        · have : (((membersL st.2.2.2.2.1).length : Int) == 1) = false := by simp; omega
          simp [this, h9]
      · simp only [h7, h8]
        rcases Bool.eq_false_or_eq_true (inB st.2.2.2.2.1 0 4294967295) with hv | hv <;> simp [hv]
    · simp only [h7]
      rcases Bool.eq_false_or_eq_true (inB st.2.2.2.2.1 0 4294967295) with hv | hv <;> simp [hv]
  · simp
theorem i_frame (x) (h : x.1.2.2.2.1.length ≤ 1099511627776) : i_IsFrame x = some (frameB x.1, ()) := by
  obtain ⟨⟨(k : Int), (m : Int), st, d, u⟩, u'⟩ := x
  have hb : i_IsBytes (d, ()) = some (bytesB d, ()) := i_bytes (d, ()) h
  have hst : i_IsState ((st.1, st.2.1, st.2.2.1, st.2.2.2.1, st.2.2.2.2.1, ()), ()) = some (stateB st, ()) := i_state (st, ())
  have hz : eqT TState (st.1, st.2.1, st.2.2.1, st.2.2.2.1, st.2.2.2.2.1, ()) ((0 : Int), (0 : Int), (0 : Int), (0 : Int), (0 : Int), ()) = eqT TState st ((0 : Int), (0 : Int), (0 : Int), (0 : Int), (0 : Int), ()) := rfl
  unfold i_IsFrame frameB aloneB
  simp only [i_kind, i_in, i_size, hb, hst, hz]
  rcases Bool.eq_false_or_eq_true (inB k 0 3) with h1 | h1 <;> simp only [h1, Bool.not_true, Bool.not_false, Bool.true_and, Bool.false_and]
  rcases Bool.eq_false_or_eq_true (inB m 0 7) with h2 | h2 <;> simp only [h2, Bool.not_true, Bool.not_false, Bool.true_and, Bool.false_and]
  rcases Bool.eq_false_or_eq_true (dsizeB k (d.length : Int)) with h3 | h3 <;> simp only [h3, Bool.not_true, Bool.not_false, Bool.true_and, Bool.false_and]
  rcases Bool.eq_false_or_eq_true (bytesB d) with h4 | h4 <;> simp only [h4, Bool.not_true, Bool.not_false, Bool.true_and, Bool.false_and]
  rcases Bool.eq_false_or_eq_true (k == 0) with h5 | h5 <;> simp only [h5, if_true]
  rcases Bool.eq_false_or_eq_true (k == 3) with h6 | h6 <;> simp only [h6, if_true]
  · rcases Bool.eq_false_or_eq_true (stateB st) with h7 | h7 <;> simp only [h7]
    · rcases Bool.eq_false_or_eq_true (st.2.1 == (0 : Int)) with h8 | h8 <;> simp only [h8]
      · rcases Bool.eq_false_or_eq_true (st.2.2.2.2.1 != (0 : Int)) with h9 | h9 <;> simp only [h9]
        · rcases Bool.eq_false_or_eq_true (bits BinOp.and .i64 st.2.2.2.2.1 (IntKind.i64.wrap (st.2.2.2.2.1 - (1 : Int))) == (0 : Int)) with h10 | h10 <;> simp only [h10] <;> rfl
        · rfl
      · rfl
    · rfl
  · simp
noncomputable def verdictB (v : TVerdict.T) : Bool := if v.1 == (3 : Int) then frameB v.2.1 else inB v.1 0 4 && sameFrameB v.2.1 ((0 : Int), (0 : Int), ((0 : Int), (0 : Int), (0 : Int), (0 : Int), (0 : Int), ()), ([] : List Int), ())
theorem s_verdict (x) (h : x.1.2.1.2.2.2.1.length ≤ 1099511627776) : s_IsVerdict x = some (verdictB x.1, ()) := by
  have hf : s_IsFrame (x.1.2.1, ()) = some (frameB x.1.2.1, ()) := s_frame (x.1.2.1, ()) h
  have hs : s_l28Same (x.1.2.1, ((0 : Int), (0 : Int), ((0 : Int), (0 : Int), (0 : Int), (0 : Int), (0 : Int), ()), ([] : List Int), ()), ()) = _ := s_sameFrame _ h
  have e0 : s_IsVerdict x = match (x.1.1 == (3 : Int)) with
    | true => match s_IsFrame (x.1.2.1, ()) with
      | none => none
      | some v1 => some (v1.1, ())
    | false => match s_l01In (x.1.1, (0 : Int), (4 : Int), ()) with
      | none => none
      | some v2 => match v2.1 with
        | true => match s_l28Same (x.1.2.1, ((0 : Int), (0 : Int), ((0 : Int), (0 : Int), (0 : Int), (0 : Int), (0 : Int), ()), ([] : List Int), ()), ()) with
          | none => none
          | some v3 => some (v3.1, ())
        | false => some (false, ()) := rfl
  rw [e0, hf, hs]
  unfold verdictB
  simp only [s_in]
  rcases Bool.eq_false_or_eq_true (x.1.1 == (3 : Int)) with h1 | h1 <;> rcases Bool.eq_false_or_eq_true (inB x.1.1 0 4) with h2 | h2 <;> simp only [h1, h2] <;> simp
theorem i_verdict (x) (h : x.1.2.1.2.2.2.1.length ≤ 1099511627776) : i_IsVerdict x = some (verdictB x.1, ()) := by
  have hf : i_IsFrame (x.1.2.1, ()) = some (frameB x.1.2.1, ()) := i_frame (x.1.2.1, ()) h
  have hs : i_sameFrame (x.1.2.1, ((0 : Int), (0 : Int), ((0 : Int), (0 : Int), (0 : Int), (0 : Int), (0 : Int), ()), ([] : List Int), ()), ()) = _ := i_sameFrame1 _ h
  have e0 : i_IsVerdict x = match (x.1.1 == (3 : Int)) with
    | true => match i_IsFrame (x.1.2.1, ()) with
      | none => none
      | some v1 => some (v1.1, ())
    | false => match i_within (x.1.1, (0 : Int), (4 : Int), ()) with
      | none => none
      | some v2 => match v2.1 with
        | true => match i_sameFrame (x.1.2.1, ((0 : Int), (0 : Int), ((0 : Int), (0 : Int), (0 : Int), (0 : Int), (0 : Int), ()), ([] : List Int), ()), ()) with
          | none => none
          | some v3 => some (v3.1, ())
        | false => some (false, ()) := rfl
  rw [e0, hf, hs]
  unfold verdictB
  simp only [i_in]
  rcases Bool.eq_false_or_eq_true (x.1.1 == (3 : Int)) with h1 | h1 <;> rcases Bool.eq_false_or_eq_true (inB x.1.1 0 4) with h2 | h2 <;> simp only [h1, h2] <;> simp
end Go.Proofs.Ytmdflpfagbcaiaa
