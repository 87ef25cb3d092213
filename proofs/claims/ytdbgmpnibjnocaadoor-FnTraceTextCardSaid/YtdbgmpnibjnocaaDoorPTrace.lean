/- Plain law: TraceText. -/
import Derived.Test.YtdbgmpnibjnocaaDoorPText
import Derived.Test.YtdbgmpnibjnocaaDoorPMark
namespace Go.Proofs.YtdbgmpnibjnocaaDoor
open Go.RowKit
set_option linter.unusedVariables false
set_option linter.unusedSimpArgs false

theorem text_loop {T X O : Type} {B : X → Option (X ⊕ O)} (l : List T) (e : List UInt8 → Nat → X) (g : T → List UInt8) (fin : List UInt8 → O) (hg : ∀ v ∈ l, (g v).length ≤ 200) (hl : l.length ≤ 100) (hend : ∀ s, B (e s l.length) = some (.inr (fin s)))
    (hstep : ∀ s i (h : i < l.length), s.length ≤ 20000 → B (e s i) = some (.inl (e (s ++ g l[i]) (i + 1)))) : loopL B (e [] 0) = some (fin (l.foldl (fun s v => s ++ g v) [])) := by
  have key : ∀ (k i : Nat) (s : List UInt8), i + k = l.length → s.length ≤ i * 200 → loopL B (e s i) = some (fin ((l.drop i).foldl (fun s v => s ++ g v) s)) := by
    intro k
    induction k with
    | zero =>
      intro i s hi hs
      have : i = l.length := by omega
      subst this
      rw [loopL_eq, hend]
      simp
    | succ k ih =>
      intro i s hi hs
      have h : i < l.length := by omega
      rw [loopL_eq, hstep s i h (by omega), List.drop_eq_getElem_cons h]
      simp only
      rw [ih (i + 1) _ (by omega) (by have := hg _ (List.getElem_mem h); simp; omega)]
      rfl
  have := key l.length 0 [] (by omega) (by simp)
  simpa using this

theorem mark_facts {x : TMark.T} (h : markB x = true) : stateB x.1 = true ∧ inB x.2.1 0 31 = true ∧ inB x.2.2.1 0 4 = true := by
  have e : s_IsMark (x, ()) = some (markB x, ()) := s_mark (x, ())
  rw [h] at e
  unfold s_IsMark at e
  simp only [s_in, s_state, s_node] at e
  have hst : stateB (x.1.1, x.1.2.1, x.1.2.2.1, x.1.2.2.2.1, x.1.2.2.2.2.1, ()) = stateB x.1 := rfl
  cases h1 : stateB x.1 <;> cases h2 : inB x.2.1 0 31 <;> cases h3 : inB x.2.2.1 0 4 <;> simp_all
def nameT (n : Int) : List UInt8 := statusN n
theorem s_name {n : Int} (h : inB n 0 4 = true) : s_StatusName (n, ()) = some (statusN n, ()) := by
  have hh := in_iff.1 h
  have : n = 0 ∨ n = 1 ∨ n = 2 ∨ n = 3 ∨ n = 4 := by omega
  unfold s_StatusName s_l28Names
  simp only [s_in, h, Bool.not_true]
  rcases this with rfl | rfl | rfl | rfl | rfl <;> rfl
theorem name_len (n : Int) : (statusN n).length ≤ 10 := by
  unfold statusN
  repeat' split
  all_goals simp
def markT (x : TMark.T) : List UInt8 := stateT x.1 ++ [32] ++ decL (x.2.1 : Int).toNat ++ [32] ++ statusN x.2.2.1 ++ [10]
theorem markT_len {x : TMark.T} (h : markB x = true) : (markT x).length ≤ 200 := by
  obtain ⟨h1, h2, h3⟩ := mark_facts h
  have a := stateT_len h1
  obtain ⟨k, hk, hk2⟩ := in_nat h2 (by omega) (by omega)
  have b := dec_len10 k hk2
  have c := name_len x.2.2.1
  unfold markT
  rw [hk]
  simp only [Int.toNat_natCast, List.length_append, List.length_cons, List.length_nil]
  omega
theorem s_l33 {x : TMark.T} (h : markB x = true) : s_l33Text (x, ()) = some (stateT x.1 ++ [32] ++ decL (x.2.1 : Int).toNat ++ [32] ++ statusN x.2.2.1, ()) := by
  obtain ⟨h1, h2, h3⟩ := mark_facts h
  have a := stateT_len h1
  obtain ⟨k, hk, hk2⟩ := in_nat h2 (by omega) (by omega)
  have b := dec_len10 k hk2
  have c := name_len x.2.2.1
  have e1 : s_StateText (x.1, ()) = some (stateT x.1, ()) := by rw [s_stateText, if_pos h1]
  have e1' : s_StateText ((x.1.1, x.1.2.1, x.1.2.2.1, x.1.2.2.2.1, x.1.2.2.2.2.1, ()), ()) = some (stateT x.1, ()) := e1
  have e2 : s_l01Dec 100 (x.2.1, ()) = some (decL k, ()) := by rw [hk]; exact s_dec k hk2
  have e3 := s_name h3
  have e4 : decL (x.2.1 : Int).toNat = decL k := by rw [hk]; simp
  unfold s_l33Text
  simp only [e1, e1', e2, e3]
  repeat rw [room_ok (by simp only [List.length_append, List.length_cons, List.length_nil]; omega)]
  rw [e4]

theorem s_traceText (l : List TMark.T) (hl : l.length ≤ 1099511627776) : s_TraceText (l, ()) = some ((if traceB l then l.foldl (fun s v => s ++ markT v) [] else []), ()) := by
  unfold s_TraceText
  have ht : s_l33List (l, ()) = some (traceB l, ()) := s_trace (l, ()) hl
  cases h : traceB l with
  | false =>
    have e : loopL b_s_TraceText_3 (l, [], (0 : Int), ()) = some (.inl ([], ())) := by
      rw [loopL_eq]
      cases l with
      | nil => rfl
      | cons v r =>
        have hd : decide ((0 : Int) < ((v :: r).length : Int)) = true := by simp
        simp only [b_s_TraceText_3, hd, ht, h]
    rw [e]
    rfl
  | true =>
    have ht2 := h
    unfold traceB at ht2
    simp only [Bool.and_eq_true, List.all_eq_true, decide_eq_true_eq] at ht2
    obtain ⟨hm, hn⟩ := ht2
    have e := text_loop (B := b_s_TraceText_3) l (fun s i => (l, s, (i : Int), ())) markT (fun s => .inl (s, ())) (fun v hv => markT_len (hm v hv)) (by omega) (fun s => by simp only [b_s_TraceText_3, lt_n]) (fun s i hi hs => by
      have hv := hm _ (List.getElem_mem hi)
      have hlen := markT_len hv
      have e1 := s_l33 hv
      have hle : (stateT l[i].1 ++ [32] ++ decL (l[i].2.1 : Int).toNat ++ [32] ++ statusN l[i].2.2.1).length ≤ 200 := by
        unfold markT at hlen
        rw [List.length_append] at hlen
        omega
      simp only [b_s_TraceText_3, lt_i hi, next_i hi hl, idx_nat hi, onSome, ht, h, e1]
      rw [room_ok (by omega), room_ok (by rw [List.length_append, show ([10] : List UInt8).length = 1 from rfl]; omega)]
      unfold markT
      simp only [List.append_assoc])
    have e' : loopL b_s_TraceText_3 (l, [], (0 : Int), ()) = _ := e
    rw [e']
    rfl
theorem i_traceText (l : List TMark.T) (hl : l.length ≤ 1099511627776) : i_TraceText (l, ()) = some ((if traceB l then l.foldl (fun s v => s ++ markT v) [] else []), ()) := by
  unfold i_TraceText
  have ht : i_isTrace (l, ()) = some (traceB l, ()) := i_trace (l, ()) hl
  simp only [ht]
  cases h : traceB l with
  | false => rfl
  | true =>
    have ht2 := h
    unfold traceB at ht2
    simp only [Bool.and_eq_true, List.all_eq_true, decide_eq_true_eq] at ht2
    obtain ⟨hm, hn⟩ := ht2
    have e := text_loop (B := b_i_TraceText_5) l (fun s i => (s, l, (l.length : Int), (i : Int), ())) markT (fun s => .inl (s, ())) (fun v hv => markT_len (hm v hv)) (by omega) (fun s => by simp only [b_i_TraceText_5, lt_n]) (fun s i hi hs => by
      have hv := hm _ (List.getElem_mem hi)
      obtain ⟨h1, h2, h3⟩ := mark_facts hv
      have a := stateT_len h1
      obtain ⟨k, hk, hk2⟩ := in_nat h2 (by omega) (by omega)
      have b := dec_len10 k hk2
      have c := name_len l[i].2.2.1
      have e1 : i_StateText (l[i].1, ()) = some (stateT l[i].1, ()) := by rw [i_stateText, if_pos h1]
      have e2 : i_text (l[i].2.1, ()) = some (decL k, ()) := by rw [hk]; exact i_dec k (by omega)
      have e3 : i_StatusName (l[i].2.2.1, ()) = some (statusN l[i].2.2.1, ()) := rfl
      have e4 : decL (l[i].2.1 : Int).toNat = decL k := by rw [hk]; simp
      simp only [b_i_TraceText_5, lt_i hi, next_i hi hl, idx_nat hi, onSome, e1, e2, e3]
      repeat rw [room_ok (by simp only [List.length_append, List.length_cons, List.length_nil]; omega)]
      unfold markT
      rw [e4])
    have e' : loopL b_i_TraceText_5 ([], l, (l.length : Int), (0 : Int), ()) = _ := e
    simp only [Bool.not_true, e']
    rfl

end Go.Proofs.YtdbgmpnibjnocaaDoor
