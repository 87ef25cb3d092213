/- Plain laws: rounds of clocks. -/
import Derived.Test.YtoppfeehgkpjkaaPAdvEq
import Derived.Test.YtoppfeehgkpjkaaPEnds
import Derived.Test.YtoppfeehgkpjkaaPCorrectLaw
namespace Go.Proofs.Ytoppfeehgkpjkaa
open Go.RowKit
set_option linter.unusedVariables false
set_option linter.unusedSimpArgs false

theorem over_max {a : List Int} (h1 : 1 ≤ a.length) (hp : ∀ y ∈ a, 0 ≤ y) : decide (highL a > 1000000000) = !(a.all (fun v => inB v 0 1000000000)) := by
  cases ha : a.all (fun v => inB v 0 1000000000) with
  | true =>
    have := in_iff.1 (List.all_eq_true.1 ha _ (high_mem h1))
    simp; omega
  | false =>
    by_cases c : highL a > 1000000000
    · simp [c]
    · exfalso
      have : a.all (fun v => inB v 0 1000000000) = true := List.all_eq_true.2 fun v hv => in_iff.2 ⟨hp v hv, by have := high_ge v hv; omega⟩
      rw [this] at ha
      cases ha
/-- The rest of the rounds. -/
noncomputable def runGo (d : List Int) (p : Int) : Nat → List Int → List Int → List Int × Int × Unit
  | 0, _, out => (out, (0 : Int), ())
  | n + 1, c, out => if (advL p c d).all (fun v => inB v 0 1000000000) then runGo d p n (corrL (advL p c d)) (out ++ [0]) else ([], (3 : Int), ())
def runOut (y : List Int × Int × Unit) : (List Int × Unit) ⊕ (List Int × Int × Unit) := if y.2.1 = 0 then .inl (y.1, ()) else .inr y

theorem max_ok (a : List Int) (h1 : 1 ≤ a.length) (h32 : a.length ≤ 32) : slices_Max_int64 (a, ()) = some (highL a, ()) := by
  cases a with
  | nil => simp at h1
  | cons v r => exact i_max v r (by omega)
theorem i_run {d : List Int} {p : Int} (hd : ∀ v ∈ d, inB v (-1000) 1000 = true) (hp : inB p 0 65535 = true) : ∀ (n : Nat) (r : Nat) (c out : List Int) (k : Int), (r : Int) + n = k → k ≤ 100 → Clk c → c.length = d.length → 1 ≤ c.length → c.length ≤ 32 → out.length ≤ r → loopL b_i_RunClocks_6 (c, d, p, out, k, (r : Int), ()) = some (runOut (runGo d p n c out))
  | 0, r, c, out, k, hk, hk1, hc, hcd, h1, h32, ho => by
    have hlt : decide ((r : Int) < k) = false := by simp; omega
    rw [loopL_eq]
    simp only [b_i_RunClocks_6, hlt]
    rfl
  | n + 1, r, c, out, k, hk, hk1, hc, hcd, h1, h32, ho => by
    have hlt : decide ((r : Int) < k) = true := by simp; omega
    have hw : IntKind.i64.wrap ((r : Int) + 1) = ((r + 1 : Nat) : Int) := by rw [wrap_i64] <;> omega
    have hlen := advL_length p c d hcd
    have hpos := advL_pos hp c d (fun v hv => in_iff.2 (hc v hv)) hd
    have ha := i_adv1 c d p hcd (by omega)
    have hm := max_ok (advL p c d) (by omega) (by omega)
    have hov := over_max (a := advL p c d) (by omega) hpos
    rw [loopL_eq]
    unfold runGo
    simp only [b_i_RunClocks_6, hlt, ha, hm, hov]
    cases hall : (advL p c d).all (fun v => inB v 0 1000000000) with
    | false => rfl
    | true =>
      have hclk := clk_of hall
      have hco := i_corr_all (advL p c d) hclk (by omega) (by omega)
      have hcl := corr_clk hclk (by omega)
      have hsp := i_spr (corrL (advL p c d)) hcl (by rw [corr_len]; omega) (by rw [corr_len]; omega)
      rw [corr_spread (by omega)] at hsp
      simp only [Bool.not_true, hco, hsp, hw, if_true]
      rw [room_ok (by simp; omega)]
      exact i_run hd hp n (r + 1) (corrL (advL p c d)) (out ++ [0]) k (by omega) hk1 hcl (by rw [corr_len]; omega) (by rw [corr_len]; omega) (by rw [corr_len]; omega) (by simp; omega)
theorem s_run {d : List Int} {p : Int} : ∀ (n : Nat) (c out : List Int), n ≤ 100 → Clk c → c.length = d.length → 1 ≤ c.length → c.length ≤ 32 → out.length + n ≤ 100 → loopL b_s_RunClocks_6 (d, p, (n : Int), out, c, ()) = some (runOut (runGo d p n c out))
  | 0, c, out, hk1, hc, hcd, h1, h32, ho => by
    rw [loopL_eq]
    rfl
  | n + 1, c, out, hk1, hc, hcd, h1, h32, ho => by
    have hgt : decide (((n + 1 : Nat) : Int) > 0) = true := by simp
    have hw : IntKind.i64.wrap (((n + 1 : Nat) : Int) - 1) = (n : Int) := by rw [wrap_i64] <;> omega
    have hlen := advL_length p c d hcd
    have ha := s_adv1 c d p hcd (by omega)
    have hal : s_l30All (advL p c d, ()) = some ((advL p c d).all (fun v => inB v 0 1000000000), ()) := s_all _ (by show (advL p c d).length ≤ _; omega)
    rw [loopL_eq]
    unfold runGo
    simp only [b_s_RunClocks_6, hgt, ha, hal]
    cases hall : (advL p c d).all (fun v => inB v 0 1000000000) with
    | false => rfl
    | true =>
      have hclk := clk_of hall
      have hco := s_corr (advL p c d) (-1) [] hclk (by omega) (by omega) (.inl rfl)
      rw [around_none] at hco
      have hcl := corr_clk hclk (by omega)
      have hen := ends_all (corrL (advL p c d)) (by rw [corr_len]; omega) (by rw [corr_len]; omega)
      have hsp := corr_spread (l := advL p c d) (by omega)
      have hw0 : IntKind.i64.wrap (highL (corrL (advL p c d)) - lowL (corrL (advL p c d))) = 0 := by rw [hsp]; rfl
      simp only [Bool.not_true, hco, hen, hw0, hw, if_true]
      rw [room_ok (by simp; omega)]
      exact s_run n (corrL (advL p c d)) (out ++ [0]) (by omega) hcl (by rw [corr_len]; omega) (by rw [corr_len]; omega) (by rw [corr_len]; omega) (by simp; omega)
theorem code_zero2 {c d : List Int} {p k : Int} (h : codeB c d p k = 0) : inB k 0 100 = true := by
  unfold codeB at h
  split at h
  · split at h
    · rename_i h2
      simp only [Bool.and_eq_true] at h2
      exact h2.2
    · cases h
  · cases h
/-- What RunClocks answers. -/
noncomputable def runR (c d : List Int) (p k : Int) : List Int × Int × Unit := if codeB c d p k = 0 then runGo d p k.toNat c [] else ([], codeB c d p k, ())
theorem runGo_err (d : List Int) (p : Int) : ∀ (n : Nat) (c out : List Int), (runGo d p n c out).2.1 = 0 ∨ runGo d p n c out = ([], (3 : Int), ())
  | 0, _, _ => .inl rfl
  | n + 1, c, out => by
    unfold runGo
    split
    · exact runGo_err d p n _ _
    · exact .inr rfl
theorem i_runClocks (c d : List Int) (p k : Int) (hc : c.length ≤ 1099511627776) (hd : d.length ≤ 1099511627776) : i_RunClocks (c, d, p, k, ()) = some (runR c d p k) := by
  unfold i_RunClocks runR
  simp only [i_code1 c d p k hc hd]
  by_cases h : codeB c d p k = 0
  · obtain ⟨h1, h2, h3, h4⟩ := code_zero h
    have h5 := in_iff.1 (code_zero2 h)
    obtain ⟨g1, g2, g3⟩ := clocks_of h1
    have hz : (codeB c d p k != 0) = false := by simp [h]
    have e := i_run h3 h4 k.toNat 0 c [] k (by omega) h5.2 g1 h2.symm g2 g3 (by simp)
    have e' : loopL b_i_RunClocks_6 (c, d, p, [], k, (0 : Int), ()) = _ := e
    rw [hz, if_pos h]
    simp only [e']
    rcases runGo_err d p k.toNat c [] with q | q
    · generalize runGo d p k.toNat c [] = y at q ⊢
      obtain ⟨a, b, ⟨⟩⟩ := y
      have q : b = 0 := q
      subst q
      rfl
    · rw [q]; rfl
  · have hz : (codeB c d p k != 0) = true := by simp [h]
    rw [hz, if_neg h]
theorem own_ok (l : List Int) (hl : l.length ≤ 1099511627776) : s_l01Own (l, ()) = some (l, ()) := by
  unfold s_l01Own room
  rw [if_pos (by simp; omega)]
  rfl
theorem s_runClocks (c d : List Int) (p k : Int) (hc : c.length ≤ 1099511627776) (hd : d.length ≤ 1099511627776) : s_RunClocks (c, d, p, k, ()) = some (runR c d p k) := by
  unfold s_RunClocks runR
  simp only [s_code1 c d p k hc hd, own_ok c hc]
  by_cases h : codeB c d p k = 0
  · obtain ⟨h1, h2, h3, h4⟩ := code_zero h
    have h5 := in_iff.1 (code_zero2 h)
    obtain ⟨g1, g2, g3⟩ := clocks_of h1
    have hz : (codeB c d p k != 0) = false := by simp [h]
    have e := s_run (d := d) (p := p) k.toNat c [] (by omega) g1 h2.symm g2 g3 (by simp; omega)
    rw [show ((k.toNat : Nat) : Int) = k by omega] at e
    rw [hz, if_pos h]
    simp only [e]
    rcases runGo_err d p k.toNat c [] with q | q
    · generalize runGo d p k.toNat c [] = y at q ⊢
      obtain ⟨a, b, ⟨⟩⟩ := y
      have q : b = 0 := q
      subst q
      rfl
    · rw [q]; rfl
  · have hz : (codeB c d p k != 0) = true := by simp [h]
    rw [hz, if_neg h]
theorem runGo_out (d : List Int) (p : Int) : ∀ (n : Nat) (c out : List Int), (∀ v ∈ out, v = 0) → (∀ v ∈ (runGo d p n c out).1, v = 0) ∧ ((runGo d p n c out).2.1 = 0 → (runGo d p n c out).1.length = out.length + n) ∧ (runGo d p n c out).1.length ≤ out.length + n
  | 0, _, out, h => ⟨h, fun _ => rfl, Nat.le_refl _⟩
  | n + 1, c, out, h => by
    unfold runGo
    split
    · have := runGo_out d p n (corrL (advL p c d)) (out ++ [0]) (by
        intro v hv
        rcases List.mem_append.1 hv with hv | hv
        · exact h v hv
        · simpa using hv)
      simp only [List.length_append, List.length_singleton] at this
      exact ⟨this.1, fun hz => by have := this.2.1 hz; omega, by omega⟩
    · exact ⟨fun v hv => (by cases hv), fun hz => absurd (show (3 : Int) = 0 from hz) (by omega), Nat.zero_le _⟩
theorem runR_facts (c d : List Int) (p k : Int) : (∀ v ∈ (runR c d p k).1, v = 0) ∧ ((runR c d p k).2.1 = 0 → ((runR c d p k).1.length : Int) = k) ∧ (runR c d p k).1.length ≤ 100 := by
  unfold runR
  split
  · rename_i h
    have h5 := in_iff.1 (code_zero2 h)
    have := runGo_out d p k.toNat c [] (by simp)
    simp only [List.length_nil] at this
    exact ⟨this.1, fun hz => by have := this.2.1 hz; omega, by omega⟩
  · rename_i h
    exact ⟨fun v hv => (by cases hv), fun hz => absurd hz h, Nat.zero_le _⟩

theorem law_RunClocks (x) (hx : Wf (.pair (.list (.int .i64)) (.pair (.list (.int .i64)) (.pair (.int .i64) (.pair (.int .i64) .unit)))) x) : l_FnExactRunClocks x = some (true, ()) := by
  obtain ⟨(l : List Int), (m : List Int), (p : Int), (k : Int), u⟩ := x
  unfold l_FnExactRunClocks
  by_cases h : (l.length : Int) > 1048576
  · simp only [decide_eq_true h]
  · by_cases h2 : (m.length : Int) > 1048576
    · simp only [decide_eq_false h, decide_eq_true h2]
    · have hl : l.length ≤ 1099511627776 := by omega
      have hm : m.length ≤ 1099511627776 := by omega
      have hs := s_runClocks l m p k hl hm
      have hi := i_runClocks l m p k hl hm
      have hr := (runR_facts l m p k).2.2
      generalize runR l m p k = y at *
      obtain ⟨(r : List Int), (e : Int), u⟩ := y
      have hr : r.length ≤ 100 := hr
      have hr' : r.length ≤ 1099511627776 := by omega
      have t1 : l_toInt64S (l, ()) = some (l, ()) := to_Int64S (l, ()) hl
      have t2 : l_toInt64S (m, ()) = some (m, ()) := to_Int64S (m, ()) hm
      have q1 : l_eqInt64S (l, l, ()) = some (true, ()) := eq_Int64S (l, l, ()) rfl hl
      have q2 : l_eqInt64S (r, r, ()) = some (true, ()) := eq_Int64S (r, r, ()) rfl hr'
      have q3 : l_eqInt64S (m, m, ()) = some (true, ()) := eq_Int64S (m, m, ()) rfl hm
      have k1 : l_markInt64S (l, 1, ()) = _ := mark_Int64S (l, 1, ()) hl
      have m1 := q_Int64S l hl 1 (by omega) (by omega)
      have k4 : l_markInt64S (m, (marks f_Int64 l 1).2, ()) = _ := mark_Int64S (m, (marks f_Int64 l 1).2, ()) hm
      have m4 := q_Int64S m hm (marks f_Int64 l 1).2 (by omega) (by omega)
      have k2 : l_markInt64S (r, 1, ()) = _ := mark_Int64S (r, 1, ()) hr'
      have m3 := q_Int64S r hr' 1 (by omega) (by omega)
      have n1 : decide ((marks f_Int64 m (marks f_Int64 l 1).2).2 < 0) = false := by simp; omega
      have n3 : decide ((marks f_Int64 r 1).2 < 0) = false := by simp; omega
      have hh := held_Int64S r hr' ((marks f_Int64 r 1).1, 1, ()) rfl
      simp only [decide_eq_false h, decide_eq_false h2, t1, t2, hs, hi, q1, q2, q3, k1, k4, k2, bne_self_i, Bool.not_true, n1, hh, n3]
end Go.Proofs.Ytoppfeehgkpjkaa
