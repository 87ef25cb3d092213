/- Plain laws: rounds of clocks; FnClockRounds. -/
import Derived.Test.YtoppfeehgkpjkaaPAdvance
import Derived.Test.YtoppfeehgkpjkaaPMinMax
import Derived.Test.YtoppfeehgkpjkaaPEnds
import Derived.Test.YtoppfeehgkpjkaaPCorrectLaw
import Derived.Test.YtoppfeehgkpjkaaPMeans
import Derived.Test.YtoppfeehgkpjkaaPLike
namespace Go.Proofs.Ytoppfeehgkpjkaa
open Go.RowKit
set_option linter.unusedVariables false
set_option linter.unusedSimpArgs false

theorem code_zero {c d : List Int} {p k : Int} (h : codeB c d p k = 0) : clocksB c = true ∧ d.length = c.length ∧ (∀ v ∈ d, inB v (-1000) 1000 = true) ∧ inB p 0 65535 = true := by
  unfold codeB at h
  split at h
  · rename_i h1
    split at h
    · rename_i h2
      simp only [Bool.and_eq_true, decide_eq_true_eq, List.all_eq_true] at h2
      exact ⟨h1, h2.1.1.1, h2.1.1.2, h2.1.2⟩
    · cases h
  · cases h
theorem clocks_in {c : List Int} (h : clocksB c = true) : (∀ v ∈ c, inB v 0 1000000000 = true) ∧ 1 ≤ c.length ∧ c.length ≤ 32 := by
  unfold clocksB at h
  simp only [Bool.and_eq_true, List.all_eq_true] at h
  have := in_iff.1 h.1
  exact ⟨h.2, by omega, by omega⟩

theorem advance_eq (c d : List Int) (p : Int) (hc : c.length ≤ 1099511627776) (hd : d.length ≤ 1099511627776) : ∃ (r : List Int) (e : Int), s_AdvanceClocks (c, d, p, ()) = some (r, e, ()) ∧ i_AdvanceClocks (c, d, p, ()) = some (r, e, ()) ∧ r.length ≤ 32 := by
  unfold s_AdvanceClocks i_AdvanceClocks
  simp only [s_code1 c d p 0 hc hd, i_code1 c d p 0 hc hd]
  by_cases h : codeB c d p 0 = 0
  · obtain ⟨h1, h2, h3, h4⟩ := code_zero h
    obtain ⟨h5, h6, h7⟩ := clocks_in h1
    have hz : (codeB c d p 0 != 0) = false := by simp [h]
    rw [hz]
    simp only [s_adv1 c d p h2.symm (by omega), i_adv1 c d p h2.symm (by omega)]
    have hlen := advL_length p c d h2.symm
    have hpos := advL_pos h4 c d h5 h3
    have hall : s_l30All (advL p c d, ()) = some ((advL p c d).all (fun v => inB v 0 1000000000), ()) := s_all _ (by show (advL p c d).length ≤ _; omega)
    generalize advL p c d = r at *
    cases r with
    | nil => exact absurd hlen (by simp; omega)
    | cons v r =>
      rw [hall, i_max v r (by omega)]
      simp only
      by_cases hm : List.foldl maxL v r ≤ 1000000000
      · have h8 := (max_le 1000000000 r v).1 hm
        have h9 : (v :: r).all (fun v => inB v 0 1000000000) = true := by
          rw [List.all_eq_true]
          intro u hu
          refine in_iff.2 ⟨hpos u hu, ?_⟩
          rcases List.mem_cons.1 hu with rfl | hu
          · exact h8.1
          · exact h8.2 u hu
        have h10 : decide (List.foldl maxL v r > 1000000000) = false := by simp; omega
        rw [h9, h10]
        exact ⟨_, _, rfl, rfl, by omega⟩
      · have h9 : (v :: r).all (fun v => inB v 0 1000000000) = false := by
          rw [← Bool.not_eq_true, List.all_eq_true]
          intro hh
          exact hm ((max_le 1000000000 r v).2 ⟨(in_iff.1 (hh v (by simp))).2, fun u hu => (in_iff.1 (hh u (by simp [hu]))).2⟩)
        have h10 : decide (List.foldl maxL v r > 1000000000) = true := by simp; omega
        rw [h9, h10]
        exact ⟨_, _, rfl, rfl, by simp⟩
  · have hz : (codeB c d p 0 != 0) = true := by simp [h]
    rw [hz]
    exact ⟨_, _, rfl, rfl, by simp⟩

theorem over_max {a : List Int} (h1 : 1 ≤ a.length) (hp : ∀ y ∈ a, 0 ≤ y) : decide (highL a > 1000000000) = !(a.all (fun v => inB v 0 1000000000)) := by
  cases ha : a.all (fun v => inB v 0 1000000000) with
  | true =>
    have := in_iff.1 (List.all_eq_true.1 ha _ (high_mem h1))
    simp; omega
  | false =>
    by_cases c : highL a > 1000000000
    · simp [c]
    · exfalso
      have : a.all (fun v => inB v 0 1000000000) = true := List.all_eq_true.2 fun v hv => in_iff.2 ⟨hp v hv, by have := high_ge v hv; omega⟩
      rw [this] at ha
      cases ha
/-- The rest of the rounds. -/
noncomputable def runGo (d : List Int) (p : Int) : Nat → List Int → List Int → List Int × Int × Unit
  | 0, _, out => (out, (0 : Int), ())
  | n + 1, c, out => if (advL p c d).all (fun v => inB v 0 1000000000) then runGo d p n (corrL (advL p c d)) (out ++ [0]) else ([], (3 : Int), ())
def runOut (y : List Int × Int × Unit) : (List Int × Unit) ⊕ (List Int × Int × Unit) := if y.2.1 = 0 then .inl (y.1, ()) else .inr y

theorem max_ok (a : List Int) (h1 : 1 ≤ a.length) (h32 : a.length ≤ 32) : slices_Max_int64 (a, ()) = some (highL a, ()) := by
  cases a with
  | nil => simp at h1
  | cons v r => exact i_max v r (by omega)
theorem i_run {d : List Int} {p : Int} (hd : ∀ v ∈ d, inB v (-1000) 1000 = true) (hp : inB p 0 65535 = true) : ∀ (n : Nat) (r : Nat) (c out : List Int) (k : Int), (r : Int) + n = k → k ≤ 100 → Clk c → c.length = d.length → 1 ≤ c.length → c.length ≤ 32 → out.length ≤ r → loopL b_i_RunClocks_6 (c, d, p, out, k, (r : Int), ()) = some (runOut (runGo d p n c out))
  | 0, r, c, out, k, hk, hk1, hc, hcd, h1, h32, ho => by
    have hlt : decide ((r : Int) < k) = false := by simp; omega
    rw [loopL_eq]
    simp only [b_i_RunClocks_6, hlt]
    rfl
  | n + 1, r, c, out, k, hk, hk1, hc, hcd, h1, h32, ho => by
    have hlt : decide ((r : Int) < k) = true := by simp; omega
    have hw : IntKind.i64.wrap ((r : Int) + 1) = ((r + 1 : Nat) : Int) := by rw [wrap_i64] <;> omega
    have hlen := advL_length p c d hcd
    have hpos := advL_pos hp c d (fun v hv => in_iff.2 (hc v hv)) hd
    have ha := i_adv1 c d p hcd (by omega)
    have hm := max_ok (advL p c d) (by omega) (by omega)
    have hov := over_max (a := advL p c d) (by omega) hpos
    rw [loopL_eq]
    unfold runGo
    simp only [b_i_RunClocks_6, hlt, ha, hm, hov]
    cases hall : (advL p c d).all (fun v => inB v 0 1000000000) with
    | false => rfl
    | true =>
      have hclk := clk_of hall
      have hco := i_corr_all (advL p c d) hclk (by omega) (by omega)
      have hcl := corr_clk hclk (by omega)
      have hsp := i_spr (corrL (advL p c d)) hcl (by rw [corr_len]; omega) (by rw [corr_len]; omega)
      rw [corr_spread (by omega)] at hsp
      simp only [Bool.not_true, hco, hsp, hw, if_true]
      rw [room_ok (by simp; omega)]
      exact i_run hd hp n (r + 1) (corrL (advL p c d)) (out ++ [0]) k (by omega) hk1 hcl (by rw [corr_len]; omega) (by rw [corr_len]; omega) (by rw [corr_len]; omega) (by simp; omega)
theorem s_run {d : List Int} {p : Int} : ∀ (n : Nat) (c out : List Int), n ≤ 100 → Clk c → c.length = d.length → 1 ≤ c.length → c.length ≤ 32 → out.length + n ≤ 100 → loopL b_s_RunClocks_6 (d, p, (n : Int), out, c, ()) = some (runOut (runGo d p n c out))
  | 0, c, out, hk1, hc, hcd, h1, h32, ho => by
    rw [loopL_eq]
    rfl
  | n + 1, c, out, hk1, hc, hcd, h1, h32, ho => by
    have hgt : decide (((n + 1 : Nat) : Int) > 0) = true := by simp
    have hw : IntKind.i64.wrap (((n + 1 : Nat) : Int) - 1) = (n : Int) := by rw [wrap_i64] <;> omega
    have hlen := advL_length p c d hcd
    have ha := s_adv1 c d p hcd (by omega)
    have hal : s_l30All (advL p c d, ()) = some ((advL p c d).all (fun v => inB v 0 1000000000), ()) := s_all _ (by show (advL p c d).length ≤ _; omega)
    rw [loopL_eq]
    unfold runGo
    simp only [b_s_RunClocks_6, hgt, ha, hal]
    cases hall : (advL p c d).all (fun v => inB v 0 1000000000) with
    | false => rfl
    | true =>
      have hclk := clk_of hall
      have hco := s_corr (advL p c d) (-1) [] hclk (by omega) (by omega) (.inl rfl)
      rw [around_none] at hco
      have hcl := corr_clk hclk (by omega)
      have hen := ends_all (corrL (advL p c d)) (by rw [corr_len]; omega) (by rw [corr_len]; omega)
      have hsp := corr_spread (l := advL p c d) (by omega)
      have hw0 : IntKind.i64.wrap (highL (corrL (advL p c d)) - lowL (corrL (advL p c d))) = 0 := by rw [hsp]; rfl
      simp only [Bool.not_true, hco, hen, hw0, hw, if_true]
      rw [room_ok (by simp; omega)]
      exact s_run n (corrL (advL p c d)) (out ++ [0]) (by omega) hcl (by rw [corr_len]; omega) (by rw [corr_len]; omega) (by rw [corr_len]; omega) (by simp; omega)
theorem code_zero2 {c d : List Int} {p k : Int} (h : codeB c d p k = 0) : inB k 0 100 = true := by
  unfold codeB at h
  split at h
  · split at h
    · rename_i h2
      simp only [Bool.and_eq_true] at h2
      exact h2.2
    · cases h
  · cases h
/-- What RunClocks answers. -/
noncomputable def runR (c d : List Int) (p k : Int) : List Int × Int × Unit := if codeB c d p k = 0 then runGo d p k.toNat c [] else ([], codeB c d p k, ())
theorem runGo_err (d : List Int) (p : Int) : ∀ (n : Nat) (c out : List Int), (runGo d p n c out).2.1 = 0 ∨ runGo d p n c out = ([], (3 : Int), ())
  | 0, _, _ => .inl rfl
  | n + 1, c, out => by
    unfold runGo
    split
    · exact runGo_err d p n _ _
    · exact .inr rfl
theorem i_runClocks (c d : List Int) (p k : Int) (hc : c.length ≤ 1099511627776) (hd : d.length ≤ 1099511627776) : i_RunClocks (c, d, p, k, ()) = some (runR c d p k) := by
  unfold i_RunClocks runR
  simp only [i_code1 c d p k hc hd]
  by_cases h : codeB c d p k = 0
  · obtain ⟨h1, h2, h3, h4⟩ := code_zero h
    have h5 := in_iff.1 (code_zero2 h)
    obtain ⟨g1, g2, g3⟩ := clocks_of h1
    have hz : (codeB c d p k != 0) = false := by simp [h]
    have e := i_run h3 h4 k.toNat 0 c [] k (by omega) h5.2 g1 h2.symm g2 g3 (by simp)
    have e' : loopL b_i_RunClocks_6 (c, d, p, [], k, (0 : Int), ()) = _ := e
    rw [hz, if_pos h]
    simp only [e']
    rcases runGo_err d p k.toNat c [] with q | q
    · generalize runGo d p k.toNat c [] = y at q ⊢
      obtain ⟨a, b, ⟨⟩⟩ := y
      have q : b = 0 := q
      subst q
      rfl
    · rw [q]; rfl
  · have hz : (codeB c d p k != 0) = true := by simp [h]
    rw [hz, if_neg h]
theorem own_ok (l : List Int) (hl : l.length ≤ 1099511627776) : s_l01Own (l, ()) = some (l, ()) := by
  unfold s_l01Own room
  rw [if_pos (by simp; omega)]
  rfl
theorem s_runClocks (c d : List Int) (p k : Int) (hc : c.length ≤ 1099511627776) (hd : d.length ≤ 1099511627776) : s_RunClocks (c, d, p, k, ()) = some (runR c d p k) := by
  unfold s_RunClocks runR
  simp only [s_code1 c d p k hc hd, own_ok c hc]
  by_cases h : codeB c d p k = 0
  · obtain ⟨h1, h2, h3, h4⟩ := code_zero h
    have h5 := in_iff.1 (code_zero2 h)
    obtain ⟨g1, g2, g3⟩ := clocks_of h1
    have hz : (codeB c d p k != 0) = false := by simp [h]
    have e := s_run (d := d) (p := p) k.toNat c [] (by omega) g1 h2.symm g2 g3 (by simp; omega)
    rw [show ((k.toNat : Nat) : Int) = k by omega] at e
    rw [hz, if_pos h]
    simp only [e]
    rcases runGo_err d p k.toNat c [] with q | q
    · generalize runGo d p k.toNat c [] = y at q ⊢
      obtain ⟨a, b, ⟨⟩⟩ := y
      have q : b = 0 := q
      subst q
      rfl
    · rw [q]; rfl
  · have hz : (codeB c d p k != 0) = true := by simp [h]
    rw [hz, if_neg h]
theorem runGo_out (d : List Int) (p : Int) : ∀ (n : Nat) (c out : List Int), (∀ v ∈ out, v = 0) → (∀ v ∈ (runGo d p n c out).1, v = 0) ∧ ((runGo d p n c out).2.1 = 0 → (runGo d p n c out).1.length = out.length + n) ∧ (runGo d p n c out).1.length ≤ out.length + n
  | 0, _, out, h => ⟨h, fun _ => rfl, Nat.le_refl _⟩
  | n + 1, c, out, h => by
    unfold runGo
    split
    · have := runGo_out d p n (corrL (advL p c d)) (out ++ [0]) (by
        intro v hv
        rcases List.mem_append.1 hv with hv | hv
        · exact h v hv
        · simpa using hv)
      simp only [List.length_append, List.length_singleton] at this
      exact ⟨this.1, fun hz => by have := this.2.1 hz; omega, by omega⟩
    · exact ⟨fun v hv => (by cases hv), fun hz => absurd (show (3 : Int) = 0 from hz) (by omega), Nat.zero_le _⟩
theorem runR_facts (c d : List Int) (p k : Int) : (∀ v ∈ (runR c d p k).1, v = 0) ∧ ((runR c d p k).2.1 = 0 → ((runR c d p k).1.length : Int) = k) ∧ (runR c d p k).1.length ≤ 100 := by
  unfold runR
  split
  · rename_i h
    have h5 := in_iff.1 (code_zero2 h)
    have := runGo_out d p k.toNat c [] (by simp)
    simp only [List.length_nil] at this
    exact ⟨this.1, fun hz => by have := this.2.1 hz; omega, by omega⟩
  · rename_i h
    exact ⟨fun v hv => (by cases hv), fun hz => absurd hz h, Nat.zero_le _⟩

theorem law_RunClocks (x) (hx : Wf (.pair (.list (.int .i64)) (.pair (.list (.int .i64)) (.pair (.int .i64) (.pair (.int .i64) .unit)))) x) : l_FnExactRunClocks x = some (true, ()) := by
  obtain ⟨(l : List Int), (m : List Int), (p : Int), (k : Int), u⟩ := x
  unfold l_FnExactRunClocks
  by_cases h : (l.length : Int) > 1048576
  · simp only [decide_eq_true h]
  · by_cases h2 : (m.length : Int) > 1048576
    · simp only [decide_eq_false h, decide_eq_true h2]
    · have hl : l.length ≤ 1099511627776 := by omega
      have hm : m.length ≤ 1099511627776 := by omega
      have hs := s_runClocks l m p k hl hm
      have hi := i_runClocks l m p k hl hm
      have hr := (runR_facts l m p k).2.2
      generalize runR l m p k = y at *
      obtain ⟨(r : List Int), (e : Int), u⟩ := y
      have hr : r.length ≤ 100 := hr
      have hr' : r.length ≤ 1099511627776 := by omega
      have t1 : l_toInt64S (l, ()) = some (l, ()) := to_Int64S (l, ()) hl
      have t2 : l_toInt64S (m, ()) = some (m, ()) := to_Int64S (m, ()) hm
      have q1 : l_eqInt64S (l, l, ()) = some (true, ()) := eq_Int64S (l, l, ()) rfl hl
      have q2 : l_eqInt64S (r, r, ()) = some (true, ()) := eq_Int64S (r, r, ()) rfl hr'
      have q3 : l_eqInt64S (m, m, ()) = some (true, ()) := eq_Int64S (m, m, ()) rfl hm
      have k1 : l_markInt64S (l, 1, ()) = _ := mark_Int64S (l, 1, ()) hl
      have m1 := q_Int64S l hl 1 (by omega) (by omega)
      have k4 : l_markInt64S (m, (marks f_Int64 l 1).2, ()) = _ := mark_Int64S (m, (marks f_Int64 l 1).2, ()) hm
      have m4 := q_Int64S m hm (marks f_Int64 l 1).2 (by omega) (by omega)
      have k2 : l_markInt64S (r, 1, ()) = _ := mark_Int64S (r, 1, ()) hr'
      have m3 := q_Int64S r hr' 1 (by omega) (by omega)
      have n1 : decide ((marks f_Int64 m (marks f_Int64 l 1).2).2 < 0) = false := by simp; omega
      have n3 : decide ((marks f_Int64 r 1).2 < 0) = false := by simp; omega
      have hh := held_Int64S r hr' ((marks f_Int64 r 1).1, 1, ()) rfl
      simp only [decide_eq_false h, decide_eq_false h2, t1, t2, hs, hi, q1, q2, q3, k1, k4, k2, bne_self_i, Bool.not_true, n1, hh, n3]

/-- What AdvanceClocks answers. -/
noncomputable def advR (c d : List Int) (p : Int) : List Int × Int × Unit := if codeB c d p 0 = 0 then (if (advL p c d).all (fun v => inB v 0 1000000000) then (advL p c d, (0 : Int), ()) else ([], (3 : Int), ())) else ([], codeB c d p 0, ())
theorem s_advC (c d : List Int) (p : Int) (hc : c.length ≤ 1099511627776) (hd : d.length ≤ 1099511627776) : s_AdvanceClocks (c, d, p, ()) = some (advR c d p) := by
  unfold s_AdvanceClocks advR
  simp only [s_code1 c d p 0 hc hd]
  by_cases h : codeB c d p 0 = 0
  · obtain ⟨h1, h2, h3, h4⟩ := code_zero h
    obtain ⟨g1, g2, g3⟩ := clocks_of h1
    have hz : (codeB c d p 0 != 0) = false := by simp [h]
    have hlen := advL_length p c d h2.symm
    have hal : s_l30All (advL p c d, ()) = some ((advL p c d).all (fun v => inB v 0 1000000000), ()) := s_all _ (by show (advL p c d).length ≤ _; omega)
    rw [hz, if_pos h]
    simp only [s_adv1 c d p h2.symm (by omega), hal]
    cases (advL p c d).all (fun v => inB v 0 1000000000) <;> rfl
  · have hz : (codeB c d p 0 != 0) = true := by simp [h]
    rw [hz, if_neg h]
theorem i_advC (c d : List Int) (p : Int) (hc : c.length ≤ 1099511627776) (hd : d.length ≤ 1099511627776) : i_AdvanceClocks (c, d, p, ()) = some (advR c d p) := by
  unfold i_AdvanceClocks advR
  simp only [i_code1 c d p 0 hc hd]
  by_cases h : codeB c d p 0 = 0
  · obtain ⟨h1, h2, h3, h4⟩ := code_zero h
    obtain ⟨g1, g2, g3⟩ := clocks_of h1
    have hz : (codeB c d p 0 != 0) = false := by simp [h]
    have hlen := advL_length p c d h2.symm
    have hpos := advL_pos h4 c d (fun v hv => in_iff.2 (g1 v hv)) h3
    have hov := over_max (a := advL p c d) (by omega) hpos
    rw [hz, if_pos h]
    simp only [i_adv1 c d p h2.symm (by omega), max_ok (advL p c d) (by omega) (by omega), hov]
    cases (advL p c d).all (fun v => inB v 0 1000000000) <;> rfl
  · have hz : (codeB c d p 0 != 0) = true := by simp [h]
    rw [hz, if_neg h]
theorem advL_mem {p : Int} : ∀ {c d : List Int} {y : Int}, y ∈ advL p c d → ∃ v ∈ c, ∃ e ∈ d, y = advB p v e
  | [], _, y, h => by cases h
  | _ :: _, [], y, h => by cases h
  | v :: c, e :: d, y, h => by
    rcases List.mem_cons.1 h with rfl | h
    · exact ⟨v, by simp, e, by simp, rfl⟩
    · obtain ⟨v', h1, e', h2, h3⟩ := advL_mem h
      exact ⟨v', by simp [h1], e', by simp [h2], h3⟩
theorem adv_in {p v e lo hi : Int} (hv : inB v 0 1000000000 = true) (he : inB e (-1000) 1000 = true) (hp : inB p 0 65535 = true) (h0 : lo ≤ v) (h1 : v ≤ hi) : lo + p - p / 1000 - 1 ≤ advB p v e ∧ advB p v e ≤ hi + p + p / 1000 := by
  rw [adv_val hv he hp]
  obtain ⟨d0, d1⟩ := in_iff.1 he
  obtain ⟨p0, p1⟩ := in_iff.1 hp
  have m0 : p * (-1000) ≤ p * e := Int.mul_le_mul_of_nonneg_left d0 p0
  have m1 : p * e ≤ p * 1000 := Int.mul_le_mul_of_nonneg_left d1 p0
  omega
theorem adv_spread {c d : List Int} {p : Int} (h : codeB c d p 0 = 0) : highL (advL p c d) - lowL (advL p c d) ≤ highL c - lowL c + p / 400 + 2 := by
  obtain ⟨h1, h2, h3, h4⟩ := code_zero h
  obtain ⟨g1, g2, g3⟩ := clocks_of h1
  have hlen := advL_length p c d h2.symm
  obtain ⟨v, hv, e, he, q1⟩ := advL_mem (high_mem (l := advL p c d) (by omega))
  obtain ⟨v', hv', e', he', q2⟩ := advL_mem (low_mem (l := advL p c d) (by omega))
  have a := adv_in (in_iff.2 (g1 v hv)) (h3 e he) h4 (low_le v hv) (high_ge v hv)
  have b := adv_in (in_iff.2 (g1 v' hv')) (h3 e' he') h4 (low_le v' hv') (high_ge v' hv')
  have hp := in_iff.1 h4
  rw [q1, q2]
  omega

/-! ### The draws -/
theorem drifts_loop (n : Nat) (hn : n ≤ 100) (x) (h0 : (x.2.1 : Int) = (n : Nat)) (hg : Good x.1) (hl : x.2.2.1.length = 0) : ∃ o, loopL b_s_l30DrawDrifts_2 x = some (.inl o) ∧ Good o.1 ∧ o.2.1.length = n := by
  obtain ⟨o, h1, h2⟩ := down_ok (B := b_s_l30DrawDrifts_2) (fun k x => (x.2.1 : Int) = (k : Nat) ∧ Good x.1 ∧ x.2.2.1.length + k = n) (fun o => match o with
    | .inl v => Good v.1 ∧ v.2.1.length = n
    | .inr _ => False) (fun x ⟨hk, hg, hl⟩ => by
      unfold b_s_l30DrawDrifts_2
      rw [hk]
      simp only [down_f]
      exact ⟨_, rfl, hg, by omega⟩) (fun k x ⟨hk, hg, hl⟩ => by
      have hg := good_eta hg
      unfold b_s_l30DrawDrifts_2
      rw [hk, down_w (by omega)]
      simp only [down_t]
      split; (rename_i h; exact absurd h (next_ne (by assumption)))
      rename_i v h
      obtain ⟨hd, hg⟩ := next_some (by assumption) h
      rw [room_ok (by simp; omega)]
      exact ⟨_, rfl, rfl, by assumption, by simp; omega⟩) n x ⟨h0, hg, by omega⟩
  cases o with
  | inr v => exact h2.elim
  | inl v => exact ⟨v, h1, h2.1, h2.2⟩
theorem drawDrifts {s : Tl01Source.T} (hs : Good s) (n : Nat) (hn : n ≤ 100) : ∃ (t : List Int) (s' : Tl01Source.T), s_l30DrawDrifts (s, (n : Int), ()) = some (t, s', ()) ∧ Good s' ∧ t.length ≤ 200 := by
  have hs := good_eta hs
  obtain ⟨o, ho, hgo, hlo⟩ := drifts_loop n hn ((s.1, s.2.1, s.2.2.1, ()), (n : Int), [], ()) rfl hs rfl
  have hgo := good_eta hgo
  unfold s_l30DrawDrifts
  simp only [onSome, ho]
  split; (rename_i h; exact absurd h (next_ne (by assumption)))
  rename_i v h
  obtain ⟨hd, hg⟩ := next_some (by assumption) h
  split
  · rw [room_ok (by simp; omega)]
    exact ⟨_, _, rfl, hg, by simp; omega⟩
  · split
    · split
      · rename_i hgt
        have h0 : 0 < o.2.1.length := by
          have := of_decide_eq_true hgt
          omega
        split; (rename_i h; exact absurd h (next_ne (by assumption)))
        rename_i v7 h7
        obtain ⟨hd7, hg7⟩ := next_some (by assumption) h7
        split; rotate_left; (rename_i h; exact absurd h (pick_idx_ne hd7 (by simp) (by simp)))
        split; (rename_i h; exact absurd h (pick_get hd7 (by simp) (by simp)))
        have hi : idx o.2.1 (0 : Int) = some o.2.1[0] := idx_nat h0
        have hg : o.2.1[(0 : Int).toNat]? = some o.2.1[0] := List.getElem?_eq_getElem h0
        rw [hi, hg]
        exact ⟨_, _, rfl, hg7, by simp; omega⟩
      · exact ⟨_, _, rfl, hg, by omega⟩
    · exact ⟨_, _, rfl, hg, by omega⟩
theorem drawPeriod {s : Tl01Source.T} (hs : Good s) : ∃ (p : Int) (s' : Tl01Source.T), s_l30DrawPeriod (s, ()) = some (p, s', ()) ∧ Good s' := by
  have hs := good_eta hs
  unfold s_l30DrawPeriod
  simp only [onSome]
  repeat' first
    | exact ⟨_, _, rfl, by assumption⟩
    | (split; (rename_i h; exact absurd h (next_ne (by assumption))); rename_i v h; obtain ⟨hd, hg⟩ := next_some (by assumption) h)
    | (split; rotate_left; (rename_i h; exact absurd h (pick_idx_ne (by assumption) (by simp) (by simp))))
    | (split; (rename_i h; exact absurd h (pick_get (by assumption) (by simp) (by simp))); rename_i v h)
theorem drawAdv (l : List Int) (hl : l.length ≤ 4096) (hb : ∀ b ∈ l, (0 : Int) ≤ b ∧ b ≤ 255) : ∃ (c d : List Int) (p : Int), s_DrawAdvanceClocks (l, ()) = some (c, d, p, ()) ∧ c.length ≤ 100 ∧ d.length ≤ 200 := by
  obtain ⟨s, hs, hg⟩ := from_ok l hl hb
  have hg := good_eta hg
  obtain ⟨t, s', h1, h2, h3⟩ := drawClk hg
  have h2 := good_eta h2
  obtain ⟨d, s2, h4, h5, h6⟩ := drawDrifts h2 t.length h3
  have h5 := good_eta h5
  obtain ⟨p, s3, h7, h8⟩ := drawPeriod h5
  unfold s_DrawAdvanceClocks
  simp only [hs, h1, h4, h7]
  exact ⟨t, d, p, rfl, h3, h6⟩
theorem drawRun (l : List Int) (hl : l.length ≤ 4096) (hb : ∀ b ∈ l, (0 : Int) ≤ b ∧ b ≤ 255) : ∃ (c d : List Int) (p k : Int), s_DrawRunClocks (l, ()) = some (c, d, p, k, ()) ∧ c.length ≤ 100 ∧ d.length ≤ 200 := by
  obtain ⟨s, hs, hg⟩ := from_ok l hl hb
  have hg := good_eta hg
  obtain ⟨c, d, p, h1, h2, h3⟩ := drawAdv l hl hb
  unfold s_DrawRunClocks
  simp only [hs, h1, same_eq, onSome]
  repeat' first
    | exact ⟨_, _, _, _, rfl, h2, h3⟩
    | (split; (rename_i h; exact absurd h (next_ne (by assumption))); rename_i v h; obtain ⟨hd, hg⟩ := next_some (by assumption) h)
    | (split; rotate_left; (rename_i h; exact absurd h (pick_idx_ne (by assumption) (by simp) (by simp))))
    | (split; (rename_i h; exact absurd h (pick_get (by assumption) (by simp) (by simp))); rename_i v h)

theorem law_ClockRounds (x) (hx : Wf (.pair (.list (.int .u8)) .unit) x) : l_FnClockRounds x = some (true, ()) := by
  obtain ⟨(l : List Int), u⟩ := x
  unfold l_FnClockRounds l_big
  by_cases h : (l.length : Int) > 4096
  · simp only [decide_eq_true h]
  · have hb := bytes_of hx.1
    obtain ⟨c, d, p, k, ht, hlc, hld⟩ := drawRun l (by omega) hb
    obtain ⟨c2, d2, p2, ht2, hlc2, hld2⟩ := drawAdv l (by omega) hb
    have b1 : ∀ a : Int, (a != a) = false := bne_self_i
    obtain ⟨f1, f2, f3⟩ := runR_facts c d p k
    have hal : (advR c2 d2 p2).1.length ≤ 1000 := by
      unfold advR
      split
      · rename_i hz
        obtain ⟨g1, g2, g3, g4⟩ := code_zero hz
        split
        · simp only [advL_length p2 c2 d2 g2.symm]; omega
        · exact Nat.zero_le _
      · exact Nat.zero_le _
    have k1 := likeInts_ok (runR c d p k).1 (by omega)
    have k2 := likeInts_ok (advR c2 d2 p2).1 (by omega)
    simp only [decide_eq_false h, ht, ht2, i_runClocks c d p k (by omega) (by omega), s_runClocks c d p k (by omega) (by omega), i_advC c2 d2 p2 (by omega) (by omega), s_advC c2 d2 p2 (by omega) (by omega), k1, k2, Bool.not_true]
    rw [b1, b1]
    simp only
    generalize runR c d p k = y at f1 f2 f3 ⊢
    obtain ⟨(r : List Int), (e : Int), ⟨⟩⟩ := y
    have f1 : ∀ v ∈ r, v = 0 := f1
    have f2 : e = 0 → (r.length : Int) = k := f2
    have f3 : r.length ≤ 100 := f3
    have hloop := seq_ok (B := b_l_FnClockRounds_12) (fun i => (k, r, e, c2, p2, (advR c2 d2 p2).1, (advR c2 d2 p2).2.1, (i : Int), ())) r.length (.inl (k, r, e, c2, p2, (advR c2 d2 p2).1, (advR c2 d2 p2).2.1, ())) (by simp only [b_l_FnClockRounds_12, lt_n]) (fun i hi => by
      have hz : nth r i = 0 := f1 _ (List.mem_of_getElem? (nth_get hi))
      simp only [b_l_FnClockRounds_12, lt_i hi, next_i hi (show r.length ≤ 1099511627776 by omega), idx_nth hi, onSome, Int.toNat_natCast, nth_get hi, hz]
      rfl)
    have hloop' : loopL b_l_FnClockRounds_12 (k, r, e, c2, p2, (advR c2 d2 p2).1, (advR c2 d2 p2).2.1, (0 : Int), ()) = _ := hloop
    simp only [hloop']
    rcases Bool.eq_false_or_eq_true ((advR c2 d2 p2).2.1 != (0 : Int)) with q | q
    · simp only [q]
    · simp only [q]
      have hz : codeB c2 d2 p2 0 = 0 ∧ (advL p2 c2 d2).all (fun v => inB v 0 1000000000) = true ∧ advR c2 d2 p2 = (advL p2 c2 d2, (0 : Int), ()) := by
        have hq : (advR c2 d2 p2).2.1 = 0 := by simpa using q
        unfold advR at hq ⊢
        split at hq
        · rename_i g1
          split at hq
          · rename_i g2
            refine ⟨g1, g2, ?_⟩
            rw [if_pos g1, if_pos g2]
          · exact absurd (show (3 : Int) = 0 from hq) (by omega)
        · rename_i g1
          exact absurd hq g1
      obtain ⟨z1, z2, z3⟩ := hz
      obtain ⟨g1, g2, g3, g4⟩ := code_zero z1
      obtain ⟨w1, w2, w3⟩ := clocks_of g1
      have hlen := advL_length p2 c2 d2 g2.symm
      have hcl := clk_of z2
      have hsp1 : spreadR c2 = (highL c2 - lowL c2, (0 : Int), ()) := by unfold spreadR; rw [g1]; rfl
      have hsp2 : spreadR (advL p2 c2 d2) = (highL (advL p2 c2 d2) - lowL (advL p2 c2 d2), (0 : Int), ()) := by
        unfold spreadR
        rw [clocksB_of hcl (by omega) (by omega)]; rfl
      have hs1 := i_spread c2 (by omega)
      have hs2 := i_spread (advL p2 c2 d2) (by omega)
      rw [hsp1] at hs1
      rw [hsp2] at hs2
      have hpp := in_iff.1 g4
      have a := w1 _ (low_mem w2)
      have b := w1 _ (high_mem w2)
      have ht4 : Int.tdiv p2 400 = p2 / 400 := Int.tdiv_eq_ediv_of_nonneg hpp.1
      have x1 : IntKind.i64.wrap (p2 / 400) = p2 / 400 := by rw [wrap_i64] <;> omega
      have x2 : IntKind.i64.wrap (highL c2 - lowL c2 + p2 / 400) = highL c2 - lowL c2 + p2 / 400 := by rw [wrap_i64] <;> omega
      have x3 : IntKind.i64.wrap (highL c2 - lowL c2 + p2 / 400 + 2) = highL c2 - lowL c2 + p2 / 400 + 2 := by rw [wrap_i64] <;> omega
      have hd := decide_eq_true (adv_spread z1)
      rw [z3]
      simp only [hs1, hs2, show ((0 : Int) == 0) = true from rfl, ht4, x1, x2, x3, hd]
      by_cases he : e = 0
      · have := f2 he
        simp [he, this]
      · have hb : (e != (0 : Int)) = true := by simp [he]
        simp only [hb]
end Go.Proofs.Ytoppfeehgkpjkaa
