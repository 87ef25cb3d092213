/- Plain laws: a trace's text, and the trace with that text. -/
import Derived.Test.YtdbgmpnibjnocaaDoorPReadTrace
import Derived.Test.YtdbgmpnibjnocaaDoorPTrace
namespace Go.Proofs.YtdbgmpnibjnocaaDoor
open Go.RowKit
set_option linter.unusedVariables false
set_option linter.unusedSimpArgs false

theorem dec_digits (n : Nat) : ∀ c ∈ decL n, 48 ≤ c.toNat ∧ c.toNat ≤ 57 := by
  have h := (valS_dec n).2
  unfold digS at h
  rw [List.all_eq_true] at h
  intro c hc
  have := h c hc
  simp only [Bool.and_eq_true, decide_eq_true_eq] at this
  exact this
theorem dec_not {n : Nat} {c : UInt8} (h : c.toNat < 48) : c ∉ decL n := fun hc => by
  have := (dec_digits n c hc).1
  omega
theorem stateT_not {s : TState.T} {c : UInt8} (h : c.toNat < 47) : c ∉ stateT s := by
  have hc : ∀ n, c ∉ decL n := fun n => dec_not (by omega)
  have h47 : c ≠ 47 := fun e => by
    rw [e] at h
    exact absurd h (by decide)
  unfold stateT
  simp [hc, h47]
theorem statusN_not (n : Int) : (32 : UInt8) ∉ statusN n ∧ (10 : UInt8) ∉ statusN n := by
  unfold statusN
  repeat' split
  all_goals exact ⟨by decide, by decide⟩
def lineT (x : TMark.T) : List UInt8 := stateT x.1 ++ [32] ++ decL (x.2.1 : Int).toNat ++ [32] ++ statusN x.2.2.1
theorem markT_line (x : TMark.T) : markT x = lineT x ++ [10] := rfl
theorem lineT_not (x : TMark.T) : (10 : UInt8) ∉ lineT x := by
  have h1 : (10 : UInt8) ∉ stateT x.1 := stateT_not (by decide)
  have h2 : ∀ n, (10 : UInt8) ∉ decL n := fun n => dec_not (by decide)
  have h3 := (statusN_not x.2.2.1).2
  unfold lineT
  simp [h1, h2, h3]
theorem sp_state (a b c d e : Nat) : sp 47 [] (decL a ++ [47] ++ decL b ++ [47] ++ decL c ++ [47] ++ decL d ++ [47] ++ decL e) = [decL a, decL b, decL c, decL d, decL e] := by
  have hn : ∀ n, (47 : UInt8) ∉ decL n := fun n => dec_not (by decide)
  have e : decL a ++ [47] ++ decL b ++ [47] ++ decL c ++ [47] ++ decL d ++ [47] ++ decL e = decL a ++ 47 :: (decL b ++ 47 :: (decL c ++ 47 :: (decL d ++ 47 :: decL e))) := by simp
  rw [e, sp_hit _ _ _ _ (hn a), sp_hit _ _ _ _ (hn b), sp_hit _ _ _ _ (hn c), sp_hit _ _ _ _ (hn d), sp_no _ _ _ (hn _)]
  simp
theorem numSI_dec {n : Nat} (h : n < 1000000000000) : numSI (decL n) = some (n : Int) := by
  unfold numSI
  rw [numS_dec h]
theorem rd_state {s : TState.T} (h : stateB s = true) : rdState (stateT s) = some s := by
  obtain ⟨t, m, r, l, v, rfl, a1, a2, a3, a4, a5⟩ := state_nat h
  unfold rdState stateT
  simp only [Int.toNat_natCast]
  rw [sp_state]
  simp only [List.mapM_cons, List.mapM_nil, numSI_dec (show t < 1000000000000 by omega), numSI_dec (show m < 1000000000000 by omega), numSI_dec (show r < 1000000000000 by omega), numSI_dec (show l < 1000000000000 by omega), numSI_dec (show v < 1000000000000 by omega)]
  show (if stateB ((t : Int), (m : Int), (r : Int), (l : Int), (v : Int), ()) then some ((t : Int), (m : Int), (r : Int), (l : Int), (v : Int), ()) else none) = _
  rw [if_pos h]
theorem named_status {q : Int} (h : inB q 0 4 = true) : named (statusN q) = some q := by
  obtain ⟨a, b⟩ := in_iff.1 h
  have : q = 0 ∨ q = 1 ∨ q = 2 ∨ q = 3 ∨ q = 4 := by omega
  rcases this with rfl | rfl | rfl | rfl | rfl <;> simp [named, statusN]
theorem rdI_line {x : TMark.T} (h : markB x = true) : rdI (lineT x) = some x := by
  obtain ⟨h1, h2, h3⟩ := mark_node h
  obtain ⟨s, n, q, u⟩ := x
  obtain ⟨k, hk, hk2⟩ := in_nat h2 (by omega) (by omega)
  have hk' : n = (k : Int) := hk
  subst hk'
  have e : lineT (s, (k : Int), q, u) = stateT s ++ 32 :: (decL k ++ 32 :: statusN q) := by simp [lineT]
  have g1 : (32 : UInt8) ∉ stateT s := stateT_not (by decide)
  have g2 : (32 : UInt8) ∉ decL k := dec_not (by decide)
  unfold rdI
  rw [e, sp_hit _ _ _ _ g1, sp_hit _ _ _ _ g2, sp_no _ _ _ (statusN_not q).1]
  have n1 := numI_dec (show k ≤ 9223372036854775807 by omega)
  have n2 : named (statusN q) = some q := named_status h3
  have n3 : rdState (stateT s) = some s := rd_state h1
  simp only [List.nil_append, n1, n2, n3]
theorem rdS_line {x : TMark.T} (h : markB x = true) : rdS (lineT x) = some x := by
  unfold rdS
  rw [rdI_line h]
  simp only [h, if_true]
/-- A trace's text. -/
def textR : List TMark.T → List UInt8
  | [] => []
  | x :: l => markT x ++ textR l
theorem foldl_text : ∀ (l : List TMark.T) (acc : List UInt8), l.foldl (fun s v => s ++ markT v) acc = acc ++ textR l
  | [], acc => by simp [textR]
  | x :: l, acc => by
    rw [List.foldl_cons, foldl_text l]
    simp [textR]
theorem sp_lines : ∀ l : List TMark.T, sp 10 [] (textR l) = l.map lineT ++ [[]]
  | [] => by simp [textR, sp]
  | x :: l => by
    have e : textR (x :: l) = lineT x ++ 10 :: textR l := by simp [textR, markT_line]
    rw [e, sp_hit _ _ _ _ (lineT_not x), sp_lines l]
    simp
theorem mapM_lines : ∀ l : List TMark.T, l.all markB = true → (l.map lineT).mapM rdS = some l
  | [], _ => rfl
  | x :: l, h => by
    simp only [List.all_cons, Bool.and_eq_true] at h
    rw [List.map_cons, List.mapM_cons, rdS_line h.1, mapM_lines l h.2]
    rfl
theorem rdT_text {l : List TMark.T} (h : traceB l = true) : rdT (textR l) = some l := by
  have ha : l.all markB = true := by
    unfold traceB at h
    simp only [Bool.and_eq_true] at h
    exact h.1
  unfold rdT
  rw [sp_lines, List.dropLast_concat, mapM_lines l ha]
  simp only [List.getLast?_concat, h, and_self, if_true]
theorem rdT_nil : rdT [] = some [] := rdT_text (l := []) (by simp [traceB])
theorem textR_len : ∀ l : List TMark.T, l.all markB = true → (textR l).length ≤ 200 * l.length
  | [], _ => by simp [textR]
  | x :: l, h => by
    simp only [List.all_cons, Bool.and_eq_true] at h
    have := markT_len h.1
    have := textR_len l h.2
    simp only [textR, List.length_append, List.length_cons]
    omega
-- the way back
def jn (c : UInt8) : List (List UInt8) → List UInt8
  | [] => []
  | [a] => a
  | a :: b :: r => a ++ c :: jn c (b :: r)
theorem jn_cons (c : UInt8) (a : List UInt8) {L : List (List UInt8)} (h : L ≠ []) : jn c (a :: L) = a ++ c :: jn c L := by
  cases L with
  | nil => exact absurd rfl h
  | cons b r => rfl
theorem sp_jn (c : UInt8) : ∀ (s cur : List UInt8), jn c (sp c cur s) = cur ++ s
  | [], cur => by simp [sp, jn]
  | x :: s, cur => by
    by_cases hx : x = c
    · subst hx
      simp only [sp, if_true]
      rw [jn_cons _ _ (sp_ne _ _ _), sp_jn x s []]
      simp
    · simp only [sp, if_neg hx]
      rw [sp_jn c s _]
      simp
theorem mapM_numSI_of : ∀ (ws : List (List UInt8)) (r : List Int), ws.mapM numSI = some r → ws = r.map fun v => decL v.toNat
  | [], r, h => by simp at h; subst h; rfl
  | w :: ws, r, h => by
    rw [List.mapM_cons] at h
    cases hw : numSI w with
    | none => rw [hw] at h; cases h
    | some v =>
      cases hr : ws.mapM numSI with
      | none => rw [hw, hr] at h; cases h
      | some r' =>
        rw [hw, hr] at h
        obtain rfl : v :: r' = r := Option.some.inj h
        rw [mapM_numSI_of ws r' hr]
        unfold numSI at hw
        cases hn : numS w with
        | none => rw [hn] at hw; cases hw
        | some n =>
          rw [hn] at hw
          obtain rfl : (n : Int) = v := Option.some.inj hw
          simp [(numS_some hn).1]
theorem state_of_rd {p : List UInt8} {s : TState.T} (h : rdState p = some s) : p = stateT s := by
  unfold rdState at h
  split at h
  · rename_i a b c d e hm
    split at h
    · obtain rfl := Option.some.inj h
      have h1 := mapM_numSI_of _ _ hm
      have h2 := sp_jn 47 p []
      rw [h1] at h2
      rw [List.nil_append] at h2
      rw [← h2]
      simp [jn, stateT]
    · cases h
  · cases h
theorem name_of {w : List UInt8} {q : Int} (h : named w = some q) : w = statusN q := by
  unfold named at h
  repeat' split at h
  all_goals first
    | (rename_i e; obtain rfl := Option.some.inj h; exact e.symm)
    | cases h
theorem line_of {a : List UInt8} {x : TMark.T} (h : rdS a = some x) : a = lineT x ∧ markB x = true := by
  unfold rdS at h
  split at h
  · rename_i y hy
    split at h
    · rename_i hb
      obtain rfl := Option.some.inj h
      refine ⟨?_, hb⟩
      unfold rdI at hy
      split at hy
      · rename_i p q w hsp
        split at hy
        · rename_i s n st e1 e2 e3
          obtain rfl := Option.some.inj hy
          have h2 := sp_jn 32 a []
          rw [hsp, List.nil_append] at h2
          have f1 := state_of_rd e1
          have f2 := numI_eq e2
          have f3 := name_of e3
          obtain ⟨_, g2, _⟩ := mark_node hb
          obtain ⟨k, hk, _⟩ := in_nat g2 (by omega) (by omega)
          have hk' : n = (k : Int) := hk
          subst hk'
          rw [Lib.itoa_nonneg] at f2
          rw [← h2, f1, f2, f3]
          simp [jn, lineT]
        · cases hy
      · cases hy
    · cases h
  · cases h
theorem jn_lines : ∀ (L : List (List UInt8)) (r : List TMark.T), L.mapM rdS = some r → jn 10 (L ++ [[]]) = textR r
  | [], r, h => by simp at h; subst h; rfl
  | a :: L, r, h => by
    rw [List.mapM_cons] at h
    cases ha : rdS a with
    | none => rw [ha] at h; cases h
    | some x =>
      cases hr : L.mapM rdS with
      | none => rw [ha, hr] at h; cases h
      | some r' =>
        rw [ha, hr] at h
        obtain rfl : x :: r' = r := Option.some.inj h
        rw [List.cons_append, jn_cons _ _ (by simp), jn_lines L r' hr, (line_of ha).1]
        simp [textR, markT_line]
theorem text_of {s : List UInt8} {l : List TMark.T} (h : rdT s = some l) : traceB l = true ∧ textR l = s := by
  unfold rdT at h
  split at h
  · rename_i r hr
    split at h
    · rename_i hg
      obtain rfl := Option.some.inj h
      refine ⟨hg.2, ?_⟩
      have hne := sp_ne 10 s []
      have e : (sp 10 [] s).dropLast ++ [[]] = sp 10 [] s := by
        have h2 := List.dropLast_concat_getLast hne
        have h3 : (sp 10 [] s).getLast? = some ((sp 10 [] s).getLast hne) := by first | exact List.getLast?_eq_some_getLast hne | exact List.getLast?_eq_getLast hne | exact List.getLast?_eq_getLast_of_ne_nil hne
        rw [hg.1] at h3
        have h4 := Option.some.inj h3
        rw [← h4] at h2
        exact h2
      have h1 := jn_lines _ _ hr
      rw [e, sp_jn] at h1
      simpa using h1.symm
    · cases h
  · cases h
end Go.Proofs.YtdbgmpnibjnocaaDoor
