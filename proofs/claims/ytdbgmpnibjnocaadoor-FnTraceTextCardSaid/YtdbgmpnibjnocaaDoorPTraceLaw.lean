/- Plain law: a trace is recovered from its text. -/
import Derived.Test.YtdbgmpnibjnocaaDoorPRound
import Derived.Test.YtdbgmpnibjnocaaDoorPDrawMark
namespace Go.Proofs.YtdbgmpnibjnocaaDoor
open Go.RowKit
set_option linter.unusedVariables false
set_option linter.unusedSimpArgs false

theorem eqT_Mark (v : TMark.T) : eqT TMark v v = true := by simp [eqT]
theorem like_marks (c : List TMark.T) (hl : c.length ≤ 1000000) : l_likeMarks (c, c, ()) = some (true, ()) := by
  exact eqS_ok (g := l_likeMarks) (B := b_l_likeMarks_4) (fun _ => by kernel_rfl) c (by simp only [b_l_likeMarks_4, lt_n]) (fun i h => by
    simp only [b_l_likeMarks_4, lt_i h, next_i h (show c.length ≤ 1099511627776 by omega), idx_nat h, onSome, eqT_Mark]
    simp)
theorem bounds_to {n : Nat} {a : Int} (h0 : 0 ≤ a) (h1 : a ≤ n) : bounds n none (some (.dat (.int .i64) a)) = some (0, a.toNat) := by
  have h : (0 : Int) ≤ 0 ∧ (0 : Int) ≤ a ∧ a ≤ (n : Int) := by omega
  simp only [bounds, bndOr, optInt]
  rw [if_pos h]
  rfl
theorem bounds_from {n : Nat} {a : Int} (h0 : 0 ≤ a) (h1 : a ≤ n) : bounds n (some (.dat (.int .i64) a)) none = some (a.toNat, n) := by
  have h : (0 : Int) ≤ a ∧ a ≤ (n : Int) ∧ (n : Int) ≤ (n : Int) := by omega
  simp only [bounds, bndOr, optInt]
  rw [if_pos h]
  simp
theorem damage_ok {s : Tl01Source.T} (hs : Good s) (t : List UInt8) (ht : t.length ≤ 100000) : ∃ (u : List UInt8) (s' : Tl01Source.T), s_l01Damage (s, t, ()) = some (u, s', ()) ∧ u.length ≤ 100001 := by
  have hs := good_eta hs
  have hw : IntKind.i64.wrap ((t.length : Int) + 1) = (t.length : Int) + 1 := by rw [wrap_i64] <;> omega
  obtain ⟨k, s1, e1, d1, g1⟩ := next_ok _ ((t.length : Int) + 1) hs
  have g1 := good_eta g1
  obtain ⟨c, s2, e2, d2, g2⟩ := next_ok _ 8 g1
  have g2 := good_eta g2
  obtain ⟨q, s3, e3, d3, g3⟩ := next_ok _ 8 g2
  have k0 : 0 ≤ k := d1.1
  have k1 : k ≤ t.length := by
    rcases d1.2 with h | h <;> omega
  have b1 := bounds_to k0 k1
  have b2 := bounds_from k0 k1
  have l1 : (List.take k.toNat t).length ≤ k.toNat := by simp; omega
  have l2 : (List.drop k.toNat t).length + k.toNat = t.length := by simp; omega
  unfold s_l01Damage
  simp only [hw, e1, e2, e3, b1, b2, onSome, same_eq, List.drop_zero, List.take_length]
  rcases Bool.eq_false_or_eq_true (c == (0 : Int)) with h | h <;> simp only [h]
  · exact ⟨_, _, rfl, by omega⟩
  rcases Bool.eq_false_or_eq_true (c == (1 : Int)) with h | h <;> simp only [h]
  · obtain ⟨y, h2, h3, h4⟩ := pick [([48] : List UInt8), ([49] : List UInt8), ([32] : List UInt8), ([58] : List UInt8), ([45] : List UInt8), ([97] : List UInt8), ([47] : List UInt8), ([10] : List UInt8)] d3 (by simp) (by simp)
    have hy : y.length = 1 := by
      have hz : ∀ z ∈ [([48] : List UInt8), ([49] : List UInt8), ([32] : List UInt8), ([58] : List UInt8), ([45] : List UInt8), ([97] : List UInt8), ([47] : List UInt8), ([10] : List UInt8)], z.length = 1 := by decide
      exact hz y h4
    simp only [h2, h3]
    rw [room_ok (by omega), room_ok (by simp only [List.length_append]; omega)]
    exact ⟨_, _, rfl, by simp only [List.length_append]; omega⟩
  rcases Bool.eq_false_or_eq_true (c == (2 : Int)) with h | h <;> simp only [h]
  · by_cases h5 : k < t.length
    · have hw2 : IntKind.i64.wrap (k + 1) = k + 1 := by rw [wrap_i64] <;> omega
      have b3 := bounds_from (n := t.length) (a := k + 1) (by omega) (by omega)
      have l3 : (List.drop (k + 1).toNat t).length + (k + 1).toNat = t.length := by rw [List.length_drop]; omega
      simp only [decide_eq_true h5, hw2, b3, onSome, List.take_length]
      rw [room_ok (by omega)]
      exact ⟨_, _, rfl, by simp only [List.length_append]; omega⟩
    · simp only [decide_eq_false h5]
      exact ⟨_, _, rfl, by omega⟩
  · exact ⟨_, _, rfl, by omega⟩
theorem text_len {l : List TMark.T} : ((if traceB l then l.foldl (fun s v => s ++ markT v) [] else []) : List UInt8).length ≤ 12000 := by
  by_cases h : traceB l = true
  · rw [if_pos h, foldl_text]
    have h2 := h
    unfold traceB at h2
    simp only [Bool.and_eq_true, decide_eq_true_eq] at h2
    have := textR_len l h2.1
    simp only [List.nil_append]
    omega
  · rw [if_neg h]
    simp
theorem drawText (l : List Int) (hl : l.length ≤ 4096) (hb : ∀ b ∈ l, (0 : Int) ≤ b ∧ b ≤ 255) : ∃ (t : List TMark.T) (u : List UInt8) (m : TMark.T), s_DrawTraceText (l, ()) = some (t, ()) ∧ s_DrawReadTrace (l, ()) = some (u, ()) ∧ s_DrawIsMark (l, ()) = some (m, ()) ∧ t.length ≤ 100 ∧ u.length ≤ 100001 := by
  obtain ⟨s, hs, hg⟩ := from_ok l hl hb
  have hg := good_eta hg
  obtain ⟨t, s', h1, h2, h3⟩ := drawMarks hg
  have h2 := good_eta h2
  obtain ⟨y, hy, _⟩ := drawOneMark hg
  obtain ⟨k, s2, e2, d2, g2⟩ := next_ok _ 3 h2
  have ht : t.length ≤ 1099511627776 := by omega
  have hx := s_traceText t ht
  have hlen := text_len (l := t)
  have a1 : s_DrawTraceText (l, ()) = some (t, ()) := by
    unfold s_DrawTraceText
    simp only [hs, h1]
  have a3 : s_DrawIsMark (l, ()) = some (y.1, ()) := by
    unfold s_DrawIsMark
    simp only [hs, hy]
  revert hx hlen
  generalize ((if traceB t then t.foldl (fun s v => s ++ markT v) [] else []) : List UInt8) = w
  intro hx hlen
  obtain ⟨u, s3, e3, l3⟩ := damage_ok (good_eta g2) w (by omega)
  have a2 : ∃ u, s_DrawReadTrace (l, ()) = some (u, ()) ∧ u.length ≤ 100001 := by
    unfold s_DrawReadTrace
    simp only [hs, h1, hx, e2]
    rcases Bool.eq_false_or_eq_true (k == (0 : Int)) with h | h <;> simp only [h]
    · simp only [e3]
      exact ⟨u, rfl, l3⟩
    · exact ⟨w, rfl, by omega⟩
  obtain ⟨u2, b1, b2⟩ := a2
  exact ⟨t, u2, y.1, a1, b1, a3, h3, b2⟩

theorem law_TraceText2 (x) (hx : Wf (.pair (.list (.int .u8)) .unit) x) : l_FnTraceText x = some (true, ()) := by
  obtain ⟨(l : List Int), u⟩ := x
  unfold l_FnTraceText l_big
  by_cases h : (l.length : Int) > 4096
  · simp only [decide_eq_true h]
  · have hb := bytes_of hx.1
    obtain ⟨t, w, m, h1, h2, h3, h4, h5⟩ := drawText l (by omega) hb
    have ht : t.length ≤ 1099511627776 := by omega
    have hT := s_traceText t ht
    have hI := i_traceText t ht
    have hlen := text_len (l := t)
    -- what comes back
    have back : rdT (if traceB t then t.foldl (fun s v => s ++ markT v) [] else []) = some (if traceB t then t else []) := by
      by_cases hb : traceB t = true
      · rw [if_pos hb, if_pos hb, foldl_text, List.nil_append, rdT_text hb]
      · rw [if_neg hb, if_neg hb, rdT_nil]
    have zero : ((if traceB t then t.foldl (fun s v => s ++ markT v) [] else []) == ([] : List UInt8)) = false → (if traceB t then t else []) = t := by
      intro hz
      by_cases hb : traceB t = true
      · rw [if_pos hb]
      · rw [if_neg hb] at hz
        exact absurd hz (by simp)
    revert hT hI hlen back zero
    generalize ((if traceB t then t.foldl (fun s v => s ++ markT v) [] else []) : List UInt8) = c
    generalize (if traceB t then t else []) = b
    intro hT hI hlen back zero
    have r1 := i_readTrace c (by omega)
    rw [back] at r1
    have r1 : i_ReadTrace (c, ()) = some (b, true, ()) := r1
    have r2 := i_readTrace w (by omega)
    have r3 := s_readTrace w (by omega)
    have b1 : ∀ a : List UInt8, (a == a) = true := fun a => by simp
    have b2 : ∀ a : Bool, (a == a) = true := fun a => by simp
    have k1 : i_IsMark (m, ()) = some (markB m, ()) := i_mark (m, ())
    have k2 : s_IsMark (m, ()) = some (markB m, ()) := s_mark (m, ())
    -- the text that is drawn
    have two : ∃ (y : List TMark.T) (o : Bool), outT (rdT w) = (y, o, ()) ∧ y.length ≤ 60 ∧ (o = true → i_TraceText (y, ()) = some (w, ())) := by
      cases hr : rdT w with
      | none => exact ⟨[], false, rfl, by simp, fun h => by cases h⟩
      | some y =>
        obtain ⟨q1, q2⟩ := text_of hr
        have q3 := q1
        unfold traceB at q3
        simp only [Bool.and_eq_true, decide_eq_true_eq] at q3
        refine ⟨y, true, rfl, by omega, fun _ => ?_⟩
        have := i_traceText y (by omega)
        rw [if_pos q1, foldl_text, List.nil_append, q2] at this
        exact this
    obtain ⟨y, o, p1, p2, p3⟩ := two
    rw [p1] at r2 r3
    have l2 := like_marks y (by omega)
    simp only [decide_eq_false h, h1, h2, h3, hT, hI, r1, r2, r3, b1, b2, k1, k2, l2]
    have last : (match (!o) with
        | true => some (true, ())
        | false => match i_TraceText (y, ()) with
          | none => none
          | some v => match (v.1 == w) with
            | true => some (true, ())
            | false => some (false, ())) = some (true, ()) := by
      cases o with
      | false => rfl
      | true =>
        rw [p3 rfl]
        simp only [Bool.not_true, b1]
    rcases Bool.eq_false_or_eq_true (c == ([] : List UInt8)) with hc | hc <;> simp only [hc]
    · exact last
    · have e := zero hc
      subst e
      have l1 := like_marks b (by omega)
      simp only [l1]
      exact last
end Go.Proofs.YtdbgmpnibjnocaaDoor
