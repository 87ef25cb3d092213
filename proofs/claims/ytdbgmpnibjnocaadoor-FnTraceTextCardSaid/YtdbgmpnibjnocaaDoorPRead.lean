/- Plain laws: numbers, states and statuses read from texts. -/
import Derived.Test.YtdbgmpnibjnocaaDoorPSplit
import Derived.Test.YtdbgmpnibjnocaaDoorPNum
import Derived.Test.YtdbgmpnibjnocaaDoorPState
namespace Go.Proofs.YtdbgmpnibjnocaaDoor
open Go.RowKit
set_option linter.unusedVariables false
set_option linter.unusedSimpArgs false

theorem bounds_ij {n a b : Nat} (h1 : a ≤ b) (h2 : b ≤ n) : bounds n (some (.dat (.int .i64) (a : Int))) (some (.dat (.int .i64) (b : Int))) = some (a, b) := by
  have h : (0 : Int) ≤ (a : Int) ∧ (a : Int) ≤ (b : Int) ∧ (b : Int) ≤ (n : Int) := by omega
  simp only [bounds, bndOr, optInt]
  rw [if_pos h]
  simp

theorem s_split (s : List UInt8) (c : UInt8) (hs : s.length ≤ 1048576) : s_l01Split (s, (c.toNat : Int), ()) = some (sp c [] s, ()) := by
  have key : ∀ (k i from_ : Nat) (out : List (List UInt8)), i + k = s.length → from_ ≤ i → out.length ≤ i → loopL b_s_l01Split_4 (s, (c.toNat : Int), out, (from_ : Int), (i : Int), ()) = some (.inl (out ++ sp c ((s.drop from_).take (i - from_)) (s.drop i), ())) := by
    intro k
    induction k with
    | zero =>
      intro i f out hi hf ho
      have hi : i = s.length := by omega
      subst hi
      have d1 : decide ((s.length : Int) ≤ (s.length : Int)) = true := by simp
      have d2 : ((s.length : Int) == (s.length : Int)) = true := by simp
      have d3 : IntKind.i64.wrap ((s.length : Int) + 1) = ((s.length + 1 : Nat) : Int) := by rw [wrap_i64] <;> omega
      have d4 : decide (((s.length + 1 : Nat) : Int) ≤ (s.length : Int)) = false := by simp; omega
      rw [loopL_eq]
      simp only [b_s_l01Split_4, d1, d2, d3, bounds_ij hf (Nat.le_refl s.length), onSome]
      rw [room_ok (by simp; omega)]
      simp only
      rw [loopL_eq]
      simp only [b_s_l01Split_4, d4, List.drop_length, sp, List.drop_take]
    | succ k ih =>
      intro i f out hi hf ho
      have hi' : i < s.length := by omega
      have d1 : decide ((i : Int) ≤ (s.length : Int)) = true := by simp; omega
      have d2 : ((i : Int) == (s.length : Int)) = false := by rw [beq_eq_false_iff_ne]; omega
      have d3 : IntKind.i64.wrap ((i : Int) + 1) = ((i + 1 : Nat) : Int) := by rw [wrap_i64] <;> omega
      rw [loopL_eq]
      simp only [b_s_l01Split_4, d1, d2, d3, idx_nat hi', onSome]
      by_cases hc : s[i] = c
      · have e : ((s[i].toNat : Int) == (c.toNat : Int)) = true := by rw [hc]; simp
        simp only [e, bounds_ij hf (Nat.le_of_lt hi')]
        rw [room_ok (by simp; omega)]
        simp only
        rw [ih (i + 1) (i + 1) _ (by omega) (Nat.le_refl _) (by simp; omega), List.drop_eq_getElem_cons hi']
        simp only [sp, if_pos hc, Nat.sub_self, List.take_zero, List.append_assoc, List.singleton_append, List.drop_take]
      · have e : ((s[i].toNat : Int) == (c.toNat : Int)) = false := by
          rw [beq_eq_false_iff_ne]
          intro h
          apply hc
          apply UInt8.toNat_inj.1
          omega
        simp only [e]
        rw [ih (i + 1) f _ (by omega) (by omega) (by omega), List.drop_eq_getElem_cons hi']
        simp only [sp, if_neg hc]
        have e2 : (s.drop f).take (i + 1 - f) = (s.drop f).take (i - f) ++ [s[i]] := by
          have : i + 1 - f = (i - f) + 1 := by omega
          rw [this, List.take_add_one]
          congr 1
          rw [List.getElem?_drop, show f + (i - f) = i by omega, List.getElem?_eq_getElem hi']
          rfl
        rw [e2]
  have h := key s.length 0 0 [] (by omega) (Nat.le_refl _) (by simp)
  unfold s_l01Split
  have h' : loopL b_s_l01Split_4 (s, (c.toNat : Int), [], (0 : Int), (0 : Int), ()) = _ := h
  simp only [h', List.nil_append, List.drop_zero, Nat.sub_self, List.take_zero]

theorem mapM_loop {T U X O : Type} {B : X → Option (X ⊕ O)} (l : List T) (e : List U → Nat → X) (f : T → Option U) (fin : List U → O) (bad : O) (hend : ∀ s, B (e s l.length) = some (.inr (fin s)))
    (hstep : ∀ s i (h : i < l.length), s.length ≤ i → B (e s i) = some (match f l[i] with | some v => .inl (e (s ++ [v]) (i + 1)) | none => .inr bad)) : loopL B (e [] 0) = some (match l.mapM f with | some r => fin r | none => bad) := by
  have key : ∀ (k i : Nat) (s : List U), i + k = l.length → s.length ≤ i → loopL B (e s i) = some (match (l.drop i).mapM f with | some r => fin (s ++ r) | none => bad) := by
    intro k
    induction k with
    | zero =>
      intro i s hi hs
      have : i = l.length := by omega
      subst this
      rw [loopL_eq, hend]
      simp
    | succ k ih =>
      intro i s hi hs
      have hi' : i < l.length := by omega
      rw [loopL_eq, hstep s i hi' hs, List.drop_eq_getElem_cons hi', List.mapM_cons]
      cases hf : f l[i] with
      | none => rfl
      | some v =>
        simp only
        rw [ih (i + 1) (s ++ [v]) (by omega) (by simp; omega)]
        cases hr : (l.drop (i + 1)).mapM f with
        | none => rfl
        | some r => simp
  have := key l.length 0 [] (by omega) (by simp)
  simpa using this

theorem s_value (s : List UInt8) : ∃ v : Int, s_l01Value (s, ()) = some (v, (numS s).isSome, ()) ∧ ∀ n, numS s = some n → v = n := by
  unfold s_l01Value
  simp only
  by_cases h1 : s.length < 1
  · have d : decide ((s.length : Int) < 1) = true := by simp; omega
    have e : numS s = none := by unfold numS; rw [if_neg (by omega)]
    exact ⟨0, by simp only [d, e]; rfl, fun n h => by rw [e] at h; cases h⟩
  by_cases h2 : 12 < s.length
  · have d1 : decide ((s.length : Int) < 1) = false := by simp; omega
    have d2 : decide ((s.length : Int) > 12) = true := by simp; omega
    have e : numS s = none := by unfold numS; rw [if_neg (by omega)]
    exact ⟨0, by simp only [d1, d2, e]; rfl, fun n h => by rw [e] at h; cases h⟩
  have d1 : decide ((s.length : Int) < 1) = false := by simp; omega
  have d2 : decide ((s.length : Int) > 12) = false := by simp; omega
  have key : ∀ (k i : Nat) (n : Nat), i + k = s.length → n < 10 ^ i → digS (s.take i) = true → valS (s.take i) = n →
      loopL b_s_l01Value_5 (s, (n : Int), (i : Int), ()) = some (if digS s = true then .inl (s, (valS s : Int), ()) else .inr (0, false, ())) := by
    intro k
    induction k with
    | zero =>
      intro i n hi hn hd hv
      have : i = s.length := by omega
      subst this
      rw [List.take_length] at hd hv
      rw [loopL_eq, if_pos hd, hv]
      simp only [b_s_l01Value_5, lt_n]
    | succ k ih =>
      intro i n hi hn hd hv
      have hi' : i < s.length := by omega
      have ht : s.take (i + 1) = s.take i ++ [s[i]] := by
        rw [List.take_add_one, List.getElem?_eq_getElem hi']
        rfl
      have hp : (10 : Nat) ^ i ≤ 10 ^ 11 := Nat.pow_le_pow_right (by decide) (by omega)
      have h11 : (10 : Nat) ^ 11 = 100000000000 := by decide
      have bad : ¬ (48 ≤ s[i].toNat ∧ s[i].toNat ≤ 57) → digS s = false := by
        intro hb
        unfold digS
        rw [List.all_eq_false]
        exact ⟨s[i], List.getElem_mem hi', by simpa using hb⟩
      rw [loopL_eq]
      simp only [b_s_l01Value_5, lt_i hi', idx_nat hi', onSome]
      by_cases c1 : s[i].toNat < 48
      · have e : decide ((s[i].toNat : Int) < 48) = true := by simp; omega
        simp only [e]
        rw [bad (by omega)]
        rfl
      by_cases c2 : 57 < s[i].toNat
      · have e1 : decide ((s[i].toNat : Int) < 48) = false := by simp; omega
        have e2 : decide ((s[i].toNat : Int) > 57) = true := by simp; omega
        simp only [e1, e2]
        rw [bad (by omega)]
        rfl
      have e1 : decide ((s[i].toNat : Int) < 48) = false := by simp; omega
      have e2 : decide ((s[i].toNat : Int) > 57) = false := by simp; omega
      have e3 : IntKind.i64.wrap (IntKind.u8.wrap ((s[i].toNat : Int) - 48)) = ((s[i].toNat - 48 : Nat) : Int) := by
        rw [wrap_u8 (by omega) (by omega), wrap_i64] <;> omega
      have e4 : IntKind.i64.wrap (IntKind.i64.wrap ((10 : Int) * (n : Int)) + ((s[i].toNat - 48 : Nat) : Int)) = ((10 * n + (s[i].toNat - 48) : Nat) : Int) := by
        rw [wrap_i64 (n := (10 : Int) * (n : Int)) (by omega) (by omega), wrap_i64] <;> omega
      have e5 : IntKind.i64.wrap ((i : Int) + 1) = ((i + 1 : Nat) : Int) := by rw [wrap_i64] <;> omega
      simp only [e1, e2, e3, e4, e5]
      refine ih (i + 1) _ (by omega) (by rw [Nat.pow_succ]; omega) ?_ ?_
      · rw [ht]
        unfold digS at hd ⊢
        rw [List.all_append, hd]
        simp only [List.all_cons, List.all_nil, Bool.and_true, Bool.true_and, Bool.and_eq_true, decide_eq_true_eq]
        omega
      · rw [ht]
        unfold valS at hv ⊢
        rw [List.foldl_append, hv]
        rfl
  have h := key s.length 0 0 (by omega) (by simp) (by simp [digS]) (by simp [valS])
  have h' : loopL b_s_l01Value_5 (s, (0 : Int), (0 : Int), ()) = _ := h
  simp only [d1, d2, h']
  by_cases hd : digS s = true
  · have hlt := valS_lt s hd
    have hp : (10 : Nat) ^ s.length ≤ 10 ^ 12 := Nat.pow_le_pow_right (by decide) (by omega)
    have h12 : (10 : Nat) ^ 12 = 1000000000000 := by decide
    have e : s_l01Dec 100 ((valS s : Int), ()) = some (decL (valS s), ()) := dec_ok 99 _ (by decide) (Nat.lt_of_lt_of_le (show valS s < 10 ^ 12 by omega) (Nat.pow_le_pow_right (by decide) (by decide))) (by omega)
    simp only [if_pos hd, e]
    by_cases hs : decL (valS s) = s
    · have en : numS s = some (valS s) := by unfold numS; rw [if_pos ⟨by omega, by omega, hd, hs⟩]
      exact ⟨(valS s : Int), by rw [en]; simp [hs], fun n h => by rw [en] at h; obtain rfl := Option.some.inj h; rfl⟩
    · have en : numS s = none := by unfold numS; rw [if_neg (fun h => hs h.2.2.2)]
      exact ⟨(valS s : Int), by rw [en]; simp [hs], fun n h => by rw [en] at h; cases h⟩
  · have en : numS s = none := by unfold numS; rw [if_neg (fun h => hd h.2.2.1)]
    simp only [if_neg hd]
    exact ⟨_, by rw [en]; rfl, fun n h => by rw [en] at h; cases h⟩
theorem i_num (s : List UInt8) (hs : s.length ≤ 1048576) : ∃ v : Int, i_number (s, ()) = some (v, (numI s).isSome, ()) ∧ ∀ n, numI s = some n → v = n := by
  unfold i_number numF numI
  simp only [if_pos hs, onSome]
  rcases hp : Lib.parseIntB 64 s with v | _ | _
  · simp only
    by_cases h : Lib.itoa v = s
    · exact ⟨v, by simp [h], fun n hn => by rw [if_pos h] at hn; exact Option.some.inj hn⟩
    · exact ⟨v, by simp [h], fun n hn => by rw [if_neg h] at hn; cases hn⟩
  · exact ⟨_, rfl, fun n hn => by cases hn⟩
  · exact ⟨_, rfl, fun n hn => by cases hn⟩

/-- The same as an Int. -/
def numSI (s : List UInt8) : Option Int := match numS s with
  | some n => some (n : Int)
  | none => none
theorem s_numbers (ws : List (List UInt8)) (hw : ws.length ≤ 1099511627776) : s_l04Numbers (ws, ()) = some (match ws.mapM numSI with | some r => (r, true, ()) | none => ([], false, ())) := by
  have h := mapM_loop (B := b_s_l04Numbers_3) ws (fun out i => (ws, out, (i : Int), ())) numSI (fun r => .inl (r, ())) (.inr ([], false, ())) (fun s => by simp only [b_s_l04Numbers_3, lt_n]) (fun s i hi hs => by
    obtain ⟨v, h1, h2⟩ := s_value ws[i]
    simp only [b_s_l04Numbers_3, lt_i hi, next_i hi hw, idx_nat hi, onSome, h1]
    unfold numSI
    cases hn : numS ws[i] with
    | none => rfl
    | some n =>
      obtain rfl := h2 n hn
      simp only [Option.isSome_some, Bool.not_true]
      rw [room_ok (by simp; omega)])
  have h' : loopL b_s_l04Numbers_3 (ws, [], (0 : Int), ()) = _ := h
  unfold s_l04Numbers
  rw [h']
  cases ws.mapM numSI <;> rfl
theorem i_numbers (t : List UInt8) (c : UInt8) (ht : t.length ≤ 1048576) : i_numbersIn (t, [c], ()) = some (match (sp c [] t).mapM numI with | some r => (r, true, ()) | none => ([], false, ())) := by
  have hsp : strings_Split (t, [c], ()) = some (sp c [] t, ()) := by
    unfold strings_Split
    simp only [splitF_ok ht, onSome]
  have hw : (sp c [] t).length ≤ 1099511627776 := by have := sp_len c t []; omega
  have h := mapM_loop (B := b_i_numbersIn_3) (sp c [] t) (fun out i => (out, sp c [] t, ((sp c [] t).length : Int), (i : Int), ())) numI (fun r => .inl (r, ())) (.inr ([], false, ())) (fun s => by simp only [b_i_numbersIn_3, lt_n]) (fun s i hi hs => by
    have hlen : (sp c [] t)[i].length ≤ 1048576 := by have := sp_mem_len c t [] _ (List.getElem_mem hi); simp at this; omega
    obtain ⟨v, h1, h2⟩ := i_num (sp c [] t)[i] hlen
    simp only [b_i_numbersIn_3, lt_i hi, next_i hi hw, idx_nat hi, onSome, Int.toNat_natCast, List.getElem?_eq_getElem hi, h1]
    cases hn : numI (sp c [] t)[i] with
    | none => rfl
    | some n =>
      obtain rfl := h2 n hn
      simp only [Option.isSome_some, Bool.not_true]
      rw [room_ok (by simp; omega)])
  have h' : loopL b_i_numbersIn_3 ([], sp c [] t, ((sp c [] t).length : Int), (0 : Int), ()) = _ := h
  unfold i_numbersIn
  simp only [hsp]
  rw [h']
  cases (sp c [] t).mapM numI <;> rfl

/-- The state with a text. -/
def rdState (t : List UInt8) : Option TState.T := match (sp 47 [] t).mapM numSI with
  | some [a, b, c, d, e] => if stateB (a, b, c, d, e, ()) then some (a, b, c, d, e, ()) else none
  | _ => none
def outO {T : Type} (z : T) (o : Option T) : T × Bool × Unit := match o with
  | some s => (s, true, ())
  | none => (z, false, ())
abbrev zeroS : TState.T := (0, 0, 0, 0, 0, ())

theorem stateB_small {a b c d e : Int} (h : stateB (a, b, c, d, e, ()) = true) : ∀ v ∈ [a, b, c, d, e], 0 ≤ v ∧ v < 1000000000000 := by
  unfold stateB at h
  simp only [Bool.and_eq_true] at h
  obtain ⟨⟨⟨⟨h1, h2⟩, h3⟩, h4⟩, h5⟩ := h
  have k1 := in_iff.1 h1
  have k2 := in_iff.1 h2
  have k3 := in_iff.1 h3
  have k4 := in_iff.1 h4
  have k5 := in_iff.1 h5
  intro v hv
  simp only [List.mem_cons, List.mem_nil_iff, or_false] at hv
  rcases hv with rfl | rfl | rfl | rfl | rfl <;> omega
theorem five {l : List Int} (h : l.length = 5) : ∃ a b c d e, l = [a, b, c, d, e] := by
  match l, h with
  | [a, b, c, d, e], _ => exact ⟨a, b, c, d, e, rfl⟩
theorem s_readState (t : List UInt8) (ht : t.length ≤ 1048576) : s_ReadState (t, ()) = some (outO zeroS (rdState t)) := by
  have hsp : s_l01Split (t, (47 : Int), ()) = some (sp 47 [] t, ()) := s_split t 47 ht
  have hw : (sp 47 [] t).length ≤ 1099511627776 := by have := sp_len 47 t []; omega
  unfold s_ReadState rdState
  simp only [hsp, s_numbers _ hw]
  cases hm : (sp 47 [] t).mapM numSI with
  | none => rfl
  | some l =>
    simp only [Bool.not_true]
    by_cases h5 : l.length = 5
    · obtain ⟨a, b, c, d, e, rfl⟩ := five h5
      simp only [same_eq, idx, onSome, s_state]
      cases hs : stateB (a, b, c, d, e, ()) <;> simp [hs, onSome, outO, same_eq, s_state]
    · have hne : ((l.length : Int) != 5) = true := by simp; omega
      simp only [hne]
      match l, h5 with
      | [], _ => rfl
      | [_], _ => rfl
      | [_, _], _ => rfl
      | [_, _, _], _ => rfl
      | [_, _, _, _], _ => rfl
      | [_, _, _, _, _], h => exact absurd rfl h
      | _ :: _ :: _ :: _ :: _ :: _ :: _, _ => rfl
theorem mapM_numI {ws : List (List UInt8)} {l : List Int} : ws.mapM numSI = some l → ws.mapM numI = some l := by
  induction ws generalizing l with
  | nil => intro h; simpa using h
  | cons w ws ih =>
    intro h
    rw [List.mapM_cons] at h ⊢
    have hi : numSI w = match numS w with | some n => some (n : Int) | none => none := rfl
    cases hw : numS w with
    | none => rw [hi, hw] at h; cases h
    | some n =>
      cases hr : ws.mapM numSI with
      | none => rw [hi, hw, hr] at h; cases h
      | some r =>
        rw [hi, hw, hr] at h
        rw [numI_numS hw, ih hr]
        exact h
theorem mapM_numS {ws : List (List UInt8)} {l : List Int} (hb : ∀ v ∈ l, 0 ≤ v ∧ v < 1000000000000) : ws.mapM numI = some l → ws.mapM numSI = some l := by
  induction ws generalizing l with
  | nil => intro h; simpa using h
  | cons w ws ih =>
    intro h
    rw [List.mapM_cons] at h ⊢
    cases hw : numI w with
    | none => rw [hw] at h; cases h
    | some n =>
      cases hr : ws.mapM numI with
      | none => rw [hw, hr] at h; cases h
      | some r =>
        rw [hw, hr] at h
        obtain rfl : n :: r = l := Option.some.inj h
        have h0 := hb n (by simp)
        have hi : numSI w = some n := by
          unfold numSI
          rw [numS_numI hw h0.1 h0.2]
          have : ((n.toNat : Nat) : Int) = n := by omega
          simp [this]
        rw [hi, ih (fun v hv => hb v (by simp [hv])) hr]
        rfl
theorem i_readState (t : List UInt8) (ht : t.length ≤ 1048576) : i_ReadState (t, ()) = some (outO zeroS (rdState t)) := by
  unfold i_ReadState
  simp only [i_numbers t 47 ht]
  cases hm : (sp 47 [] t).mapM numI with
  | none =>
    have hn : (sp 47 [] t).mapM numSI = none := by
      cases hs : (sp 47 [] t).mapM numSI with
      | none => rfl
      | some l => rw [mapM_numI hs] at hm; cases hm
    unfold rdState
    rw [hn]
    rfl
  | some l =>
    simp only [Bool.not_true]
    by_cases h5 : l.length = 5
    · obtain ⟨a, b, c, d, e, rfl⟩ := five h5
      cases hs : stateB (a, b, c, d, e, ()) with
      | true =>
        have hn := mapM_numS (stateB_small hs) hm
        unfold rdState
        rw [hn]
        simp [idx, onSome, i_state, hs, outO, same_eq]
      | false =>
        have hr : rdState t = none := by
          unfold rdState
          cases hn : (sp 47 [] t).mapM numSI with
          | none => rfl
          | some l =>
            have := mapM_numI hn
            rw [hm] at this
            obtain rfl := Option.some.inj this
            simp [hs]
        rw [hr]
        simp [idx, onSome, i_state, hs, outO, same_eq]
    · have hne : ((l.length : Int) != 5) = true := by simp; omega
      have hr : rdState t = none := by
        unfold rdState
        cases hn : (sp 47 [] t).mapM numSI with
        | none => rfl
        | some l2 =>
          have := mapM_numI hn
          rw [hm] at this
          obtain rfl := Option.some.inj this
          match l, h5 with
          | [], _ => rfl
          | [_], _ => rfl
          | [_, _], _ => rfl
          | [_, _, _], _ => rfl
          | [_, _, _, _], _ => rfl
          | [_, _, _, _, _], h => exact absurd rfl h
          | _ :: _ :: _ :: _ :: _ :: _ :: _, _ => rfl
      simp only [hne, hr]
      rfl

/-- The status with a name. -/
def named (c : List UInt8) : Option Int := if statusN 0 = c then some 0 else if statusN 1 = c then some 1 else if statusN 2 = c then some 2 else if statusN 3 = c then some 3 else if statusN 4 = c then some 4 else none
def outN (o : Option Int) : Int × Int × Unit := match o with
  | some q => (q, 0, ())
  | none => (0, 4, ())
theorem i_named (c : List UInt8) : i_StatusNamed (c, ()) = some (outN (named c)) := by
  have st : ∀ i : Nat, i ≤ 4 → loopL b_i_StatusNamed_2 (c, (i : Int), ()) = if statusN (i : Int) = c then some (.inr ((i : Int), 0, ())) else loopL b_i_StatusNamed_2 (c, ((i + 1 : Nat) : Int), ()) := by
    intro i hi
    have d : decide ((i : Int) ≤ 4) = true := by simp; omega
    have w : IntKind.i64.wrap ((i : Int) + 1) = ((i + 1 : Nat) : Int) := by rw [wrap_i64] <;> omega
    have e : i_StatusName ((i : Int), ()) = some (statusN (i : Int), ()) := rfl
    rw [loopL_eq]
    simp only [b_i_StatusNamed_2, d, e, w]
    by_cases h : statusN (i : Int) = c
    · simp [h]
    · have hb : (statusN (i : Int) == c) = false := by simpa using h
      simp only [hb, if_neg h]
  have en : loopL b_i_StatusNamed_2 (c, ((5 : Nat) : Int), ()) = some (.inl ()) := by
    rw [loopL_eq]
    rfl
  have h0 := st 0 (by omega)
  have h1 := st 1 (by omega)
  have h2 := st 2 (by omega)
  have h3 := st 3 (by omega)
  have h4 := st 4 (by omega)
  rw [show 4 + 1 = 5 from rfl, en] at h4
  rw [show 3 + 1 = 4 from rfl, h4] at h3
  rw [show 2 + 1 = 3 from rfl, h3] at h2
  rw [show 1 + 1 = 2 from rfl, h2] at h1
  rw [show 0 + 1 = 1 from rfl, h1] at h0
  have h0' : loopL b_i_StatusNamed_2 (c, (0 : Int), ()) = _ := h0
  unfold i_StatusNamed named
  simp only [h0']
  by_cases c0 : statusN 0 = c
  · simp [c0, outN]
  by_cases c1 : statusN 1 = c
  · simp [c0, c1, outN]
  by_cases c2 : statusN 2 = c
  · simp [c0, c1, c2, outN]
  by_cases c3 : statusN 3 = c
  · simp [c0, c1, c2, c3, outN]
  by_cases c4 : statusN 4 = c
  · simp [c0, c1, c2, c3, c4, outN]
  · simp [c0, c1, c2, c3, c4, outN]
theorem s_named (c : List UInt8) : s_StatusNamed (c, ()) = some (outN (named c)) := by
  have st : ∀ i : Nat, i ≤ 4 → loopL b_s_StatusNamed_2 (c, (i : Int), ()) = if statusN (i : Int) = c then some (.inr ((i : Int), 0, ())) else loopL b_s_StatusNamed_2 (c, ((i + 1 : Nat) : Int), ()) := by
    intro i hi
    have d : decide ((i : Int) < 5) = true := by simp; omega
    have w : IntKind.i64.wrap ((i : Int) + 1) = ((i + 1 : Nat) : Int) := by rw [wrap_i64] <;> omega
    have e : s_l28Names (()) = some ([statusN 0, statusN 1, statusN 2, statusN 3, statusN 4], ()) := rfl
    have hi' : i < [statusN 0, statusN 1, statusN 2, statusN 3, statusN 4].length := by simp; omega
    have e2 : [statusN 0, statusN 1, statusN 2, statusN 3, statusN 4][i] = statusN (i : Int) := by
      have : i = 0 ∨ i = 1 ∨ i = 2 ∨ i = 3 ∨ i = 4 := by omega
      rcases this with rfl | rfl | rfl | rfl | rfl <;> rfl
    rw [loopL_eq]
    simp only [b_s_StatusNamed_2, d, e, w, idx_nat hi', onSome, Int.toNat_natCast, List.getElem?_eq_getElem hi', e2]
    by_cases h : statusN (i : Int) = c
    · simp [h]
    · have hb : (statusN (i : Int) == c) = false := by simpa using h
      simp only [hb, if_neg h]
  have en : loopL b_s_StatusNamed_2 (c, ((5 : Nat) : Int), ()) = some (.inl ()) := by
    rw [loopL_eq]
    rfl
  have h0 := st 0 (by omega)
  have h1 := st 1 (by omega)
  have h2 := st 2 (by omega)
  have h3 := st 3 (by omega)
  have h4 := st 4 (by omega)
  rw [show 4 + 1 = 5 from rfl, en] at h4
  rw [show 3 + 1 = 4 from rfl, h4] at h3
  rw [show 2 + 1 = 3 from rfl, h3] at h2
  rw [show 1 + 1 = 2 from rfl, h2] at h1
  rw [show 0 + 1 = 1 from rfl, h1] at h0
  have h0' : loopL b_s_StatusNamed_2 (c, (0 : Int), ()) = _ := h0
  unfold s_StatusNamed named
  simp only [h0']
  by_cases c0 : statusN 0 = c
  · simp [c0, outN]
  by_cases c1 : statusN 1 = c
  · simp [c0, c1, outN]
  by_cases c2 : statusN 2 = c
  · simp [c0, c1, c2, outN]
  by_cases c3 : statusN 3 = c
  · simp [c0, c1, c2, c3, outN]
  by_cases c4 : statusN 4 = c
  · simp [c0, c1, c2, c3, c4, outN]
  · simp [c0, c1, c2, c3, c4, outN]
end Go.Proofs.YtdbgmpnibjnocaaDoor
