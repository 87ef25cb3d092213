/- Plain law: ReadTrace. -/
import Derived.Test.YtdbgmpnibjnocaaDoorPRead
import Derived.Test.YtdbgmpnibjnocaaDoorPMark
namespace Go.Proofs.YtdbgmpnibjnocaaDoor
open Go.RowKit
set_option linter.unusedVariables false
set_option linter.unusedSimpArgs false

/-- The mark with a line: as the program reads it, and as the reference does. -/
def rdI (l : List UInt8) : Option TMark.T := match sp 32 [] l with
  | [a, b, c] => match rdState a, numI b, named c with
    | some s, some n, some q => some (s, n, q, ())
    | _, _, _ => none
  | _ => none
noncomputable def rdS (l : List UInt8) : Option TMark.T := match rdI l with
  | some x => if markB x then some x else none
  | none => none
abbrev zeroM : TMark.T := (zeroS, 0, 0, ())

theorem three {T : Type} {l : List T} (h : l.length = 3) : ∃ a b c, l = [a, b, c] := by
  match l, h with
  | [a, b, c], _ => exact ⟨a, b, c, rfl⟩
theorem mark_node {x : TMark.T} (h : markB x = true) : stateB x.1 = true ∧ inB x.2.1 0 31 = true ∧ inB x.2.2.1 0 4 = true := by
  have e : s_IsMark (x, ()) = some (markB x, ()) := s_mark (x, ())
  rw [h] at e
  unfold s_IsMark at e
  simp only [s_in, s_state, s_node] at e
  have hst : stateB (x.1.1, x.1.2.1, x.1.2.2.1, x.1.2.2.2.1, x.1.2.2.2.2.1, ()) = stateB x.1 := rfl
  cases h1 : stateB x.1 <;> cases h2 : inB x.2.1 0 31 <;> cases h3 : inB x.2.2.1 0 4 <;> simp_all
theorem s_read (l : List UInt8) (hl : l.length ≤ 1048576) : s_l33Read (l, ()) = some (outO zeroM (rdS l)) := by
  have hsp : s_l01Split (l, (32 : Int), ()) = some (sp 32 [] l, ()) := s_split l 32 hl
  unfold s_l33Read
  simp only [hsp]
  by_cases h3 : (sp 32 [] l).length = 3
  · obtain ⟨a, b, c, e⟩ := three h3
    have hlen : ∀ p ∈ sp 32 [] l, p.length ≤ 1048576 := fun p hp => by have := sp_mem_len 32 l [] p hp; simp at this; omega
    rw [e] at hlen
    have ha := s_readState a (hlen a (by simp))
    obtain ⟨v, hv1, hv2⟩ := s_value b
    have hc := s_named c
    have i0 : idx [a, b, c] (0 : Int) = some a := rfl
    have i1 : idx [a, b, c] (1 : Int) = some b := rfl
    have i2 : idx [a, b, c] (2 : Int) = some c := rfl
    have g0 : [a, b, c][(0 : Int).toNat]? = some a := rfl
    have g1 : [a, b, c][(1 : Int).toNat]? = some b := rfl
    have g2 : [a, b, c][(2 : Int).toNat]? = some c := rfl
    have hne : (([a, b, c].length : Int) != 3) = false := rfl
    simp only [e, hne, i0, i1, i2, g0, g1, g2, onSome, ha, hv1, hc]
    unfold rdS rdI
    simp only [e]
    cases h1 : rdState a with
    | none => rfl
    | some s =>
      cases h2 : numS b with
      | none =>
        cases h4 : numI b with
        | none => simp [outO]
        | some n =>
          cases h5 : named c with
          | none => simp [outO]
          | some q =>
            have : markB (s, n, q, ()) = false := by
              cases hm : markB (s, n, q, ()) with
              | false => rfl
              | true =>
                obtain ⟨_, k, _⟩ := mark_node hm
                have k : 0 ≤ n ∧ n ≤ 31 := in_iff.1 k
                have := numS_numI h4 (by omega) (by omega)
                rw [h2] at this
                cases this
            simp [outO, this]
      | some n =>
        obtain rfl := hv2 n h2
        rw [numI_numS h2]
        cases h5 : named c with
        | none => simp [outO, outN]
        | some q =>
          have hs : s_IsMark ((s, (n : Int), q, ()), ()) = some (markB (s, (n : Int), q, ()), ()) := s_mark _
          have hs' : s_IsMark (((s.1, s.2.1, s.2.2.1, s.2.2.2.1, s.2.2.2.2.1, ()), (n : Int), q, ()), ()) = some (markB (s, (n : Int), q, ()), ()) := hs
          cases hm : markB (s, (n : Int), q, ()) <;> simp [outO, outN, hs', hm]
  · have hne : (((sp 32 [] l).length : Int) != 3) = true := by simp; omega
    have hr : rdS l = none := by
      unfold rdS rdI
      match hh : sp 32 [] l, h3 with
      | [], _ => rfl
      | [_], _ => rfl
      | [_, _], _ => rfl
      | [_, _, _], h => exact absurd rfl h
      | _ :: _ :: _ :: _ :: _, _ => rfl
    simp only [hne, hr]
    rfl

/-- The trace with a text. -/
noncomputable def rdT (s : List UInt8) : Option (List TMark.T) := match (sp 10 [] s).dropLast.mapM rdS with
  | some r => if (sp 10 [] s).getLast? = some [] ∧ traceB r = true then some r else none
  | none => none
noncomputable def outT (o : Option (List TMark.T)) : List TMark.T × Bool × Unit := match o with
  | some r => (r, true, ())
  | none => ([], false, ())

theorem mapM_len {T U : Type} {f : T → Option U} : ∀ {l : List T} {r : List U}, l.mapM f = some r → r.length = l.length
  | [], r, h => by simp at h; subst h; rfl
  | x :: l, r, h => by
    rw [List.mapM_cons] at h
    cases hx : f x with
    | none => rw [hx] at h; cases h
    | some y =>
      cases hr : l.mapM f with
      | none => rw [hx, hr] at h; cases h
      | some r' =>
        rw [hx, hr] at h
        obtain rfl : y :: r' = r := Option.some.inj h
        simp [mapM_len hr]
theorem s_readTrace (s : List UInt8) (hs : s.length ≤ 1048576) : s_ReadTrace (s, ()) = some (outT (rdT s)) := by
  have hsp : s_l01Split (s, (10 : Int), ()) = some (sp 10 [] s, ()) := s_split s 10 hs
  have hne := sp_ne 10 s []
  have hw : (sp 10 [] s).length ≤ 1099511627776 := by have := sp_len 10 s []; omega
  have hlen : ∀ p ∈ sp 10 [] s, p.length ≤ 1048576 := fun p hp => by have := sp_mem_len 10 s [] p hp; simp at this; omega
  unfold s_ReadTrace rdT
  simp only [hsp]
  revert hne hw hlen
  generalize sp 10 [] s = L
  intro hne hw hlen
  have hpos : 0 < L.length := List.length_pos_iff.2 hne
  have h := mapM_loop (B := b_s_ReadTrace_4) L.dropLast (fun out i => (L, out, (i : Int), ())) rdS (fun r => .inl (L, r, ())) (.inr ([], false, ())) (fun r => by
    have e : IntKind.i64.wrap (((L.dropLast.length : Nat) : Int) + 1) = ((L.length : Nat) : Int) := by rw [List.length_dropLast, wrap_i64] <;> omega
    simp only [b_s_ReadTrace_4, e, lt_n]) (fun r i hi hr => by
    rw [List.length_dropLast] at hi
    have hi' : i < L.length := by omega
    have e : IntKind.i64.wrap ((i : Int) + 1) = ((i + 1 : Nat) : Int) := by rw [wrap_i64] <;> omega
    have d : decide (((i + 1 : Nat) : Int) < (L.length : Int)) = true := by simp; omega
    have hv := s_read L[i] (hlen _ (List.getElem_mem hi'))
    have hg : L.dropLast[i] = L[i] := List.getElem_dropLast _
    simp only [b_s_ReadTrace_4, e, d, idx_nat hi', onSome, Int.toNat_natCast, List.getElem?_eq_getElem hi', hv, hg]
    cases hx : rdS L[i] with
    | none => rfl
    | some x =>
      simp only [outO, Bool.not_true]
      rw [room_ok (by simp; omega)])
  have h' : loopL b_s_ReadTrace_4 (L, [], (0 : Int), ()) = _ := h
  simp only [h']
  cases hm : L.dropLast.mapM rdS with
  | none => rfl
  | some r =>
    have e : IntKind.i64.wrap ((L.length : Int) - 1) = ((L.length - 1 : Nat) : Int) := by rw [wrap_i64] <;> omega
    have hl : L.length - 1 < L.length := by omega
    have hg : L.getLast? = some L[L.length - 1] := by rw [List.getLast?_eq_getElem?, List.getElem?_eq_getElem hl]
    have hrl : r.length ≤ 1099511627776 := by have := mapM_len hm; rw [List.length_dropLast] at this; omega
    have ht : s_l33List (r, ()) = some (traceB r, ()) := s_trace (r, ()) hrl
    simp only [e, idx_nat hl, onSome, Int.toNat_natCast, List.getElem?_eq_getElem hl, hg, ht]
    by_cases h1 : L[L.length - 1] = []
    · cases h2 : traceB r <;> simp [h1, outT]
    · have hb : (L[L.length - 1] == []) = false := by simpa using h1
      have h2 : ¬ (some L[L.length - 1] = some [] ∧ traceB r = true) := fun h => h1 (Option.some.inj h.1)
      simp only [hb, Bool.not_false, if_neg h2]
      rfl

theorem i_loop : ∀ (k : Nat) (s : List UInt8) (tr : List TMark.T), s.length ≤ k → s.length ≤ 1048576 → tr.length + s.length ≤ 1048576 → loopL b_i_ReadTrace_2 (s, tr, ()) = some (match (sp 10 [] s).dropLast.mapM rdI with
    | some r => if (sp 10 [] s).getLast? = some [] then .inl (tr ++ r, ()) else .inr ([], false, ())
    | none => .inr ([], false, ())) := by
  intro k
  induction k with
  | zero =>
    intro s tr hk hs ht
    obtain rfl : s = [] := List.length_eq_zero_iff.1 (by omega)
    rw [loopL_eq]
    simp [b_i_ReadTrace_2, sp]
  | succ k ih =>
    intro s tr hk hs ht
    cases s with
    | nil =>
      rw [loopL_eq]
      simp [b_i_ReadTrace_2, sp]
    | cons x0 s0 =>
      have d : decide ((((x0 :: s0).length : Nat) : Int) > 0) = true := by simp
      revert hk hs ht d
      generalize x0 :: s0 = s
      intro hk hs ht d
      have hcut : strings_Cut (s, [10], ()) = some ((Lib.cut s [10]).1, (Lib.cut s [10]).2.1, (Lib.cut s [10]).2.2, ()) := by
        unfold strings_Cut
        simp only [cutF_ok hs, onSome]
      rcases cut_cases s 10 with ⟨h1, h2⟩ | ⟨p, r, rfl, h1, h2⟩
      · have hsplit : strings_Split (s, [32], ()) = some (sp 32 [] s, ()) := by
          unfold strings_Split
          simp only [splitF_ok hs, onSome]
        rw [loopL_eq]
        simp only [b_i_ReadTrace_2, d, hcut, h2, hsplit, Bool.not_false]
        have hne : s ≠ [] := by
          rintro rfl
          simp at d
        have hsp : sp 10 [] s = [s] := by rw [sp_no 10 s [] h1]; rfl
        simp [hsp, hne]
      · have hp : p.length ≤ 1048576 := by simp at hs; omega
        have hr : r.length ≤ k := by simp at hk; omega
        have hsplit : strings_Split (p, [32], ()) = some (sp 32 [] p, ()) := by
          unfold strings_Split
          simp only [splitF_ok hp, onSome]
        have hsp : sp 10 [] (p ++ 10 :: r) = p :: sp 10 [] r := by rw [sp_hit 10 p [] r h1]; rfl
        have hdl : (p :: sp 10 [] r).dropLast = p :: (sp 10 [] r).dropLast := by
          cases hh : sp 10 [] r with
          | nil => exact absurd hh (sp_ne 10 r [])
          | cons a t => rfl
        have hgl : (sp 10 [] (p ++ 10 :: r)).getLast? = (sp 10 [] r).getLast? := by
          rw [hsp]
          cases hh : sp 10 [] r with
          | nil => exact absurd hh (sp_ne 10 r [])
          | cons a t => exact List.getLast?_cons_cons
        rw [loopL_eq]
        simp only [b_i_ReadTrace_2, d, hcut, h2, hsplit, Bool.not_true]
        rw [hgl, hsp, hdl, List.mapM_cons]
        by_cases h3 : (sp 32 [] p).length = 3
        · obtain ⟨a, b, c, e⟩ := three h3
          have hlen : ∀ q ∈ sp 32 [] p, q.length ≤ 1048576 := fun q hq => by have := sp_mem_len 32 p [] q hq; simp at this; omega
          rw [e] at hlen
          have ha := i_readState a (hlen a (by simp))
          obtain ⟨v, hv1, hv2⟩ := i_num b (hlen b (by simp))
          have hc := i_named c
          have i0 : idx [a, b, c] (0 : Int) = some a := rfl
          have i1 : idx [a, b, c] (1 : Int) = some b := rfl
          have i2 : idx [a, b, c] (2 : Int) = some c := rfl
          have g0 : [a, b, c][(0 : Int).toNat]? = some a := rfl
          have g1 : [a, b, c][(1 : Int).toNat]? = some b := rfl
          have g2 : [a, b, c][(2 : Int).toNat]? = some c := rfl
          have hne : (([a, b, c].length : Int) != 3) = false := rfl
          simp only [e, hne, i0, i1, i2, g0, g1, g2, onSome, ha, hv1, hc]
          have hrd : rdI p = match rdState a, numI b, named c with
            | some s, some n, some q => some (s, n, q, ())
            | _, _, _ => none := by
            unfold rdI
            rw [e]
          rw [hrd]
          cases h4 : rdState a with
          | none => simp [outO]
          | some st =>
            cases h5 : numI b with
            | none => simp [outO]
            | some n =>
              obtain rfl := hv2 n h5
              cases h6 : named c with
              | none => simp [outO, outN]
              | some q =>
                have hst : (st.1, st.2.1, st.2.2.1, st.2.2.2.1, st.2.2.2.2.1, ()) = st := rfl
                simp only [outO, outN, Option.isSome_some, Bool.not_true, bne_self_i]
                rw [room_ok (by simp at ht ⊢; omega)]
                simp only
                rw [hst, ih r (tr ++ [(st, v, q, ())]) hr (by simp at hs; omega) (by simp at ht ⊢; omega)]
                cases hm : (sp 10 [] r).dropLast.mapM rdI with
                | none => simp
                | some t => simp
        · have hne : (((sp 32 [] p).length : Int) != 3) = true := by simp; omega
          have hrd : rdI p = none := by
            unfold rdI
            match hh : sp 32 [] p, h3 with
            | [], _ => rfl
            | [_], _ => rfl
            | [_, _], _ => rfl
            | [_, _, _], h => exact absurd rfl h
            | _ :: _ :: _ :: _ :: _, _ => rfl
          simp only [hne, hrd]
          rfl
theorem mapM_rdI {L : List (List UInt8)} {r : List TMark.T} : L.mapM rdS = some r → L.mapM rdI = some r ∧ r.all markB = true := by
  induction L generalizing r with
  | nil => intro h; simp at h; subst h; simp
  | cons l L ih =>
    intro h
    rw [List.mapM_cons] at h ⊢
    have hd : rdS l = match rdI l with | some x => if markB x then some x else none | none => none := rfl
    cases hl : rdI l with
    | none => rw [hd, hl] at h; cases h
    | some x =>
      cases hm : markB x with
      | false => rw [hd, hl] at h; simp [hm] at h
      | true =>
        rw [hd, hl] at h
        simp only [hm, if_true] at h
        cases hr : L.mapM rdS with
        | none => rw [hr] at h; cases h
        | some r' =>
          rw [hr] at h
          obtain rfl : x :: r' = r := Option.some.inj h
          obtain ⟨h1, h2⟩ := ih hr
          rw [h1]
          exact ⟨rfl, by simp [hm, h2]⟩
theorem mapM_rdS {L : List (List UInt8)} {r : List TMark.T} (hb : r.all markB = true) : L.mapM rdI = some r → L.mapM rdS = some r := by
  induction L generalizing r with
  | nil => intro h; simpa using h
  | cons l L ih =>
    intro h
    rw [List.mapM_cons] at h ⊢
    have hd : rdS l = match rdI l with | some x => if markB x then some x else none | none => none := rfl
    cases hl : rdI l with
    | none => rw [hl] at h; cases h
    | some x =>
      cases hr : L.mapM rdI with
      | none => rw [hl, hr] at h; cases h
      | some r' =>
        rw [hl, hr] at h
        obtain rfl : x :: r' = r := Option.some.inj h
        simp only [List.all_cons, Bool.and_eq_true] at hb
        rw [hd, hl, ih hb.2 hr]
        simp [hb.1]
theorem i_readTrace (s : List UInt8) (hs : s.length ≤ 1048576) : i_ReadTrace (s, ()) = some (outT (rdT s)) := by
  have h := i_loop s.length s [] (Nat.le_refl _) hs (by simp; omega)
  unfold i_ReadTrace rdT
  simp only [h]
  cases hm : (sp 10 [] s).dropLast.mapM rdI with
  | none =>
    have hn : (sp 10 [] s).dropLast.mapM rdS = none := by
      cases hS : (sp 10 [] s).dropLast.mapM rdS with
      | none => rfl
      | some r => rw [(mapM_rdI hS).1] at hm; cases hm
    rw [hn]
    rfl
  | some r =>
    have hrl : r.length ≤ 1099511627776 := by
      have := mapM_len hm
      have h2 := sp_len 10 s []
      rw [List.length_dropLast] at this
      omega
    have ht : i_isTrace (r, ()) = some (traceB r, ()) := i_trace (r, ()) hrl
    by_cases hl : (sp 10 [] s).getLast? = some []
    · simp only [if_pos hl, List.nil_append, ht]
      cases htr : traceB r with
      | true =>
        have hb : r.all markB = true := by
          unfold traceB at htr
          simp only [Bool.and_eq_true] at htr
          exact htr.1
        rw [mapM_rdS hb hm]
        simp [hl, htr, outT]
      | false =>
        cases hS : (sp 10 [] s).dropLast.mapM rdS with
        | none => rfl
        | some r2 =>
          have := (mapM_rdI hS).1
          rw [hm] at this
          obtain rfl := Option.some.inj this
          simp [htr, outT]
    · simp only [if_neg hl]
      cases hS : (sp 10 [] s).dropLast.mapM rdS with
      | none => rfl
      | some r2 => simp [hl, outT]

theorem law_ReadTrace (x) (hx : Wf (.pair .str .unit) x) : l_FnExactReadTrace x = some (true, ()) := by
  obtain ⟨s, u⟩ := x
  unfold l_FnExactReadTrace
  simp only
  by_cases hs : s.length ≤ 1048576
  · have d : decide ((s.length : Int) > 1048576) = false := by simp; omega
    have hr : (outT (rdT s)).1.length ≤ 1000 := by
      unfold rdT
      cases (sp 10 [] s).dropLast.mapM rdS with
      | none => simp [outT]
      | some r =>
        by_cases h : (sp 10 [] s).getLast? = some [] ∧ traceB r = true
        · have h2 := h.2
          unfold traceB at h2
          simp only [Bool.and_eq_true, decide_eq_true_eq] at h2
          simp only [if_pos h, outT]
          omega
        · simp only [if_neg h, outT]
          simp
    simp only [d, s_readTrace s hs, i_readTrace s hs]
    revert hr
    generalize outT (rdT s) = o
    intro hr
    obtain ⟨r, b, v⟩ := o
    have hr' : r.length ≤ 1099511627776 := by simp at hr; omega
    have hq := q_MarkS r hr' 1 (by omega) (by omega)
    have e1 : l_eqMarkS (r, r, ()) = some (true, ()) := eq_MarkS (r, r, ()) rfl hr'
    have e2 : l_markMarkS (r, (1 : Int), ()) = _ := mark_MarkS (r, 1, ()) hr'
    have e3 := held_MarkS r hr' ((marks f_Mark r 1).1, 1, ()) rfl
    have n3 : decide ((marks f_Mark r 1).2 < 0) = false := by
      rw [hq]
      simp
      omega
    simp only [e1, e2, e3, n3, bne_self_i, bne_self_b, Bool.not_true]
  · have d : decide ((s.length : Int) > 1048576) = true := by simp; omega
    simp only [d]
end Go.Proofs.YtdbgmpnibjnocaaDoor
