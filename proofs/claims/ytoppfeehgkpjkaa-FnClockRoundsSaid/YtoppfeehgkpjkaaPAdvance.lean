/- Plain laws: clocks that go on. -/
import Derived.Test.YtoppfeehgkpjkaaPClock
namespace Go.Proofs.Ytoppfeehgkpjkaa
open Go.RowKit
set_option linter.unusedVariables false
set_option linter.unusedSimpArgs false

def codeB (c d : List Int) (p k : Int) : Int := if clocksB c then (if decide (d.length = c.length) && d.all (fun v => inB v (-1000) 1000) && inB p 0 65535 && inB k 0 100 then 0 else 2) else 1
theorem s_code1 (c d : List Int) (p k : Int) (hc : c.length ≤ 1099511627776) (hd : d.length ≤ 1099511627776) : s_l30Code (c, d, p, k, ()) = some (codeB c d p k, ()) := by
  have e := all_ok (B := b_s_l30Code_4) d (fun i => (c, d, p, k, (i : Int), ())) (fun v => inB v (-1000) 1000) (.inl (c, d, p, k, ())) (.inr (2, ())) (by simp only [b_s_l30Code_4, lt_n]) (fun i h => by
    simp only [b_s_l30Code_4, lt_i h, next_i h hd, idx_nat h, onSome, s_in]
    cases inB d[i] (-1000) 1000 <;> simp)
  have e' : loopL b_s_l30Code_4 (c, d, p, k, (0 : Int), ()) = _ := e
  unfold s_l30Code codeB
  simp only [s_clocks (c, ()) hc, e', s_in]
  cases clocksB c
  · simp
  · cases d.all (fun v => inB v (-1000) 1000)
    · simp
    · by_cases h : d.length = c.length
      · cases hp : inB p 0 65535 <;> cases hk : inB k 0 100 <;> simp [h, hp, hk]
      · have h' : ((d.length : Int) != (c.length : Int)) = true := by simp; omega
        simp only [if_true, Bool.not_true, h'] <;> simp [h]
theorem i_code1 (c d : List Int) (p k : Int) (hc : c.length ≤ 1099511627776) (hd : d.length ≤ 1099511627776) : i_clocksCode (c, d, p, k, ()) = some (codeB c d p k, ()) := by
  unfold i_clocksCode codeB
  simp only [i_clocks (c, ()) hc, i_all (d, -1000, 1000, ()) hd, i_in]
  cases clocksB c
  · simp
  · by_cases h : d.length = c.length
    · cases d.all (fun v => inB v (-1000) 1000) <;> cases hp : inB p 0 65535 <;> cases hk : inB k 0 100 <;> simp [h, hp, hk]
    · have h' : ((d.length : Int) != (c.length : Int)) = true := by simp; omega
      simp only [Bool.not_true, h'] <;> simp [h]

theorem floor_same : i_floorDivide = s_l30Floor := rfl
/-- One clock, later. -/
noncomputable def advB (p v d : Int) : Int := match s_l30Floor ((IntKind.i64.wrap (p * d)), (1000000 : Int), ()) with
  | some y => IntKind.i64.wrap ((IntKind.i64.wrap (v + p)) + y.1)
  | none => 0
theorem floor_some (n : Int) : ∃ y, s_l30Floor (n, (1000000 : Int), ()) = some y := by
  unfold s_l30Floor
  simp only [show ((1000000 : Int) = 0) = False by simp, if_false]
  split <;> exact ⟨_, rfl⟩
noncomputable def advL (p : Int) : List Int → List Int → List Int
  | v :: c, d :: e => advB p v d :: advL p c e
  | _, _ => []
theorem advL_length (p : Int) : ∀ c d : List Int, c.length = d.length → (advL p c d).length = c.length
  | [], [], _ => rfl
  | [], _ :: _, h => by simp at h
  | _ :: _, [], h => by simp at h
  | v :: c, d :: e, h => by simp [advL, advL_length p c e (by simpa using h)]

theorem adv_loop {X O : Type} {B : X → Option (X ⊕ O)} (c d : List Int) (p : Int) (e : List Int → Nat → X) (fin : List Int → O) (hcd : c.length = d.length) (hc : c.length ≤ 1000000) (hend : ∀ s, B (e s c.length) = some (.inr (fin s)))
    (hstep : ∀ s i (h : i < c.length) (h' : i < d.length), s.length ≤ 1000000 → B (e s i) = some (.inl (e (s ++ [advB p c[i] d[i]]) (i + 1)))) : loopL B (e [] 0) = some (fin (advL p c d)) := by
  have key : ∀ (k i : Nat) (s : List Int), i + k = c.length → s.length = i → loopL B (e s i) = some (fin (s ++ advL p (c.drop i) (d.drop i))) := by
    intro k
    induction k with
    | zero =>
      intro i s hi hs
      have : i = c.length := by omega
      subst this
      rw [loopL_eq, hend]
      simp [advL]
    | succ k ih =>
      intro i s hi hs
      have h1 : i < c.length := by omega
      have h2 : i < d.length := by omega
      rw [loopL_eq, hstep s i h1 h2 (by omega)]
      simp only
      rw [ih (i + 1) _ (by omega) (by simp [hs]), List.drop_eq_getElem_cons h1, List.drop_eq_getElem_cons h2]
      simp [advL]
  have := key c.length 0 [] (by omega) rfl
  simpa using this

theorem s_adv1 (c d : List Int) (p : Int) (hcd : c.length = d.length) (hc : c.length ≤ 1000000) : s_l30Advance (c, d, p, ()) = some (advL p c d, ()) := by
  have e := adv_loop (B := b_s_l30Advance_3) c d p (fun s i => (c, d, p, s, (i : Int), ())) (fun s => .inl (s, ())) hcd hc (fun s => by simp only [b_s_l30Advance_3, lt_n]) (fun s i h h' hs => by
    obtain ⟨y, hy⟩ := floor_some (IntKind.i64.wrap (p * d[i]))
    have hy' : advB p c[i] d[i] = IntKind.i64.wrap ((IntKind.i64.wrap (c[i] + p)) + y.1) := by unfold advB; rw [hy]
    simp only [b_s_l30Advance_3, lt_i h, next_i h (show c.length ≤ 1099511627776 by omega), idx_nat h, idx_nat h', onSome, hy]
    rw [hy']
    unfold room
    rw [if_pos (by simp; omega)])
  have e' : loopL b_s_l30Advance_3 (c, d, p, [], (0 : Int), ()) = _ := e
  unfold s_l30Advance
  simp only [e']
theorem i_adv1 (c d : List Int) (p : Int) (hcd : c.length = d.length) (hc : c.length ≤ 1000000) : i_advance (c, d, p, ()) = some (advL p c d, ()) := by
  have e := adv_loop (B := b_i_advance_3) c d p (fun s i => (d, p, s, c, (c.length : Int), (i : Int), ())) (fun s => .inl (s, ())) hcd hc (fun s => by simp only [b_i_advance_3, lt_n]) (fun s i h h' hs => by
    obtain ⟨y, hy⟩ := floor_some (IntKind.i64.wrap (p * d[i]))
    have hy' : advB p c[i] d[i] = IntKind.i64.wrap ((IntKind.i64.wrap (c[i] + p)) + y.1) := by unfold advB; rw [hy]
    simp only [b_i_advance_3, lt_i h, next_i h (show c.length ≤ 1099511627776 by omega), idx_nat h, idx_nat h', onSome, floor_same, hy]
    rw [hy']
    unfold room
    rw [if_pos (by simp; omega)])
  have e' : loopL b_i_advance_3 (d, p, [], c, (c.length : Int), (0 : Int), ()) = _ := e
  unfold i_advance
  simp only [e']

theorem tdiv_nn {m : Int} (h : 0 ≤ m) : Int.tdiv m 1000000 = m / 1000000 := Int.tdiv_eq_ediv_of_nonneg h
theorem tdiv_ng {m : Int} (h : m < 0) : Int.tdiv m 1000000 = -((-m) / 1000000) := by
  have h1 : Int.tdiv (-(-m)) 1000000 = -(Int.tdiv (-m) 1000000) := Int.neg_tdiv _ _
  rw [Int.neg_neg] at h1
  rw [h1, Int.tdiv_eq_ediv_of_nonneg (by omega)]
theorem floor_val {m : Int} (h0 : -1000000000000 ≤ m) (h1 : m ≤ 1000000000000) : ∃ y : Int, s_l30Floor (m, (1000000 : Int), ()) = some (y, ()) ∧ y = m / 1000000 := by
  have hm : Int.tmod m 1000000 = m - 1000000 * Int.tdiv m 1000000 := by
    have := Int.mul_tdiv_add_tmod m 1000000
    omega
  have hq : -1000001 ≤ Int.tdiv m 1000000 ∧ Int.tdiv m 1000000 ≤ 1000001 := by
    by_cases h : 0 ≤ m
    · rw [tdiv_nn h]; omega
    · rw [tdiv_ng (by omega)]; omega
  unfold s_l30Floor
  simp only [show ((1000000 : Int) = 0) = False by simp, if_false]
  have hw : IntKind.i64.wrap (Int.tdiv m 1000000) = Int.tdiv m 1000000 := wrap_i64 (by omega) (by omega)
  have hw2 : IntKind.i64.wrap (Int.tdiv m 1000000 - 1) = Int.tdiv m 1000000 - 1 := wrap_i64 (by omega) (by omega)
  have hd : Int.tdiv m 1000000 = if 0 ≤ m then m / 1000000 else -((-m) / 1000000) := by
    split
    · exact tdiv_nn (by omega)
    · exact tdiv_ng (by omega)
  rw [hw, hw2]
  by_cases h : Int.tmod m 1000000 < 0
  · refine ⟨_, by rw [decide_eq_true h], ?_⟩
    split at hd <;> omega
  · refine ⟨_, by rw [decide_eq_false h], ?_⟩
    split at hd <;> omega
theorem adv_val {p v d : Int} (hv : inB v 0 1000000000 = true) (hd : inB d (-1000) 1000 = true) (hp : inB p 0 65535 = true) : advB p v d = v + p + p * d / 1000000 := by
  obtain ⟨v0, v1⟩ := in_iff.1 hv
  obtain ⟨d0, d1⟩ := in_iff.1 hd
  obtain ⟨p0, p1⟩ := in_iff.1 hp
  have m0 : p * (-1000) ≤ p * d := Int.mul_le_mul_of_nonneg_left d0 p0
  have m1 : p * d ≤ p * 1000 := Int.mul_le_mul_of_nonneg_left d1 p0
  have hw : IntKind.i64.wrap (p * d) = p * d := wrap_i64 (by omega) (by omega)
  obtain ⟨y, hy, hy2⟩ := floor_val (m := p * d) (by omega) (by omega)
  unfold advB
  rw [hw, hy]
  simp only
  rw [hy2, wrap_i64 (n := v + p) (by omega) (by omega), wrap_i64 (by omega) (by omega)]
theorem adv_pos {p v d : Int} (hv : inB v 0 1000000000 = true) (hd : inB d (-1000) 1000 = true) (hp : inB p 0 65535 = true) : 0 ≤ advB p v d := by
  rw [adv_val hv hd hp]
  obtain ⟨v0, v1⟩ := in_iff.1 hv
  obtain ⟨d0, d1⟩ := in_iff.1 hd
  obtain ⟨p0, p1⟩ := in_iff.1 hp
  have m0 : p * (-1000) ≤ p * d := Int.mul_le_mul_of_nonneg_left d0 p0
  omega
theorem advL_pos {p : Int} (hp : inB p 0 65535 = true) : ∀ c d : List Int, (∀ v ∈ c, inB v 0 1000000000 = true) → (∀ v ∈ d, inB v (-1000) 1000 = true) → ∀ y ∈ advL p c d, 0 ≤ y
  | [], _, _, _, y, hy => by cases hy
  | _ :: _, [], _, _, y, hy => by cases hy
  | v :: c, d :: e, h1, h2, y, hy => by
    rcases List.mem_cons.1 hy with rfl | hy
    · exact adv_pos (h1 v (by simp)) (h2 d (by simp)) hp
    · exact advL_pos hp c e (fun u hu => h1 u (by simp [hu])) (fun u hu => h2 u (by simp [hu])) y hy
end Go.Proofs.Ytoppfeehgkpjkaa
