/- Plain law: FnTwoStarters. -/
import Derived.Test.YtmdflpfagbcaiaaPWithout
import Derived.Test.YtmdflpfagbcaiaaPFirstE
import Derived.Test.YtmdflpfagbcaiaaPDrawStart
import Derived.Test.YtmdflpfagbcaiaaPLike
namespace Go.Proofs.Ytmdflpfagbcaiaa
open Go.RowKit
set_option linter.unusedVariables false
set_option linter.unusedSimpArgs false

theorem two_starters {v u : TStarter.T} {r : List TStarter.T} (h : startersB (v :: u :: r) = true) : startersB [v, u] = true := by
  have hv := starters_all h v (by simp)
  have hu := starters_all h u (by simp)
  have ha := starters_apart h (i := 0) (j := 1) (by omega) (by simp)
  have h1 : ¬ v.1 = u.1 := ha.1
  have h2 : ¬ v.2.2.2.1 = u.2.2.2.1 := ha.2
  have h3 : clashB u v = false := by
    unfold clashB
    simp [h1, h2]
  have h4 : inB (([v, u] : List TStarter.T).length : Int) 1 32 = true := in_iff.2 ⟨by simp, by simp⟩
  unfold startersB
  rw [h4]
  simp [startersGo, hv, hu, h3]

theorem least_two {p q : Int} (h : p ≠ q) : (leastL [p, q]).length = 1 := by
  have h2 : q ≠ p := fun e => h e.symm
  by_cases h1 : q < p
  · have : ¬ p = q := h
    simp [leastL, firstsL, leastI, pushes, minL, h1, h]
  · simp [leastL, firstsL, leastI, pushes, minL, h1, h2]
theorem least_same (p : Int) : (leastL [p, p]).length = 2 ∧ leastI [p, p] = p := by
  simp [leastL, firstsL, leastI, pushes, minL]

theorem two_lead {v u : TStarter.T} (h : startersB [v, u] = true) : ∃ (a : Nat) (t : Int) (j : Nat), leadGo [v, u] 51 (dueL [v, u]) 0 = some (a, t, j) ∧ j ≤ 1 := by
  have hv := starter_in (starters_all h v (by simp))
  have hu := starter_in (starters_all h u (by simp))
  have ha := (starters_apart h (i := 0) (j := 1) (by omega) (by simp)).2
  have h2 : ¬ v.2.2.2.1 = u.2.2.2.1 := ha
  have hd : dueL [v, u] = [IntKind.i64.wrap (v.2.1 + v.2.2.1), IntKind.i64.wrap (u.2.1 + u.2.2.1)] := rfl
  obtain ⟨n, (a : Int), (b : Int), (c : Int), u0⟩ := v
  obtain ⟨n', (a' : Int), (b' : Int), (c' : Int), u0'⟩ := u
  obtain ⟨a1, a2, b1, b2, c1, c2⟩ : InS a b c := hv
  obtain ⟨a1', a2', b1', b2', c1', c2'⟩ : InS a' b' c' := hu
  have h2 : ¬ c = c' := h2
  have hd : dueL [(n, a, b, c, u0), (n', a', b', c', u0')] = [IntKind.i64.wrap (a + b), IntKind.i64.wrap (a' + b')] := rfl
  rw [wrap_i64 (n := a + b) (by omega) (by omega), wrap_i64 (n := a' + b') (by omega) (by omega)] at hd
  rw [hd]
  by_cases he : a + b = a' + b'
  · rw [← he]
    obtain ⟨e1, e2⟩ := least_same (a + b)
    have hc : collideL [(n, a, b, c, u0), (n', a', b', c', u0')] [a + b, a + b] = [a + b + c, a + b + c'] := by
      have hb : (a + b == a + b) = true := by simp
      unfold collideL
      rw [e2]
      show [turnL (a + b) (n, a, b, c, u0) (a + b), turnL (a + b) (n', a', b', c', u0') (a + b)] = _
      simp only [turnL, hb, if_true]
      rw [wrap_i64 (n := a + b + c) (by omega) (by omega), wrap_i64 (n := a + b + c') (by omega) (by omega)]
    have e3 := least_two (p := a + b + c) (q := a + b + c') (by omega)
    refine ⟨((leastL [a + b + c, a + b + c']).headD 0).toNat, leastI [a + b + c, a + b + c'], 1, ?_, by omega⟩
    rw [leadGo, if_neg (by omega), hc, leadGo, if_pos e3]
  · refine ⟨((leastL [a + b, a' + b']).headD 0).toNat, leastI [a + b, a' + b'], 0, ?_, by omega⟩
    rw [leadGo, if_pos (least_two he)]

theorem lead_zero {l : List TStarter.T} {a : Nat} {t : Int} {j : Nat} (h1 : 1 ≤ l.length) (h : leadGo l 51 (dueL l) 0 = some (a, t, j)) : ((leastL (dueL l)).length = 1 ↔ j = 0) := by
  rw [leadGo] at h
  split at h
  · rename_i e
    simp at h
    obtain ⟨_, _, rfl⟩ := h
    exact ⟨fun _ => rfl, fun _ => e⟩
  · rename_i e
    have := (lead_lt (by rw [collide_len]; simp [dueL]) h1 h).2.1
    exact ⟨fun h => absurd h e, fun h => by omega⟩

theorem eqT_Starter (v : TStarter.T) : eqT TStarter v v = true := by simp [eqT]

theorem two_loop (l : List TStarter.T) (r : List Int) (e : Int) (q : List TStarter.T) (hl : q.length ≤ 1099511627776) : loopL b_l_FnTwoStarters_12 (l, r, e, q, q, (0 : Int), ()) = some (.inl (l, r, e, ())) := by
  have h := all_ok (B := b_l_FnTwoStarters_12) q (fun i => (l, r, e, q, q, (i : Int), ())) (fun _ => true) (.inl (l, r, e, ())) (.inr (false, ())) (by simp only [b_l_FnTwoStarters_12, lt_n]) (fun i h => by
    simp only [b_l_FnTwoStarters_12, lt_i h, next_i h hl, idx_nat h, onSome, Int.toNat_natCast, List.getElem?_eq_getElem h, eqT_Starter, Bool.not_true]
    simp)
  have h' : loopL b_l_FnTwoStarters_12 (l, r, e, q, q, (0 : Int), ()) = _ := h
  rw [h']
  simp

theorem law_TwoStarters (x) (hx : Wf (.pair (.list (.int .u8)) .unit) x) : l_FnTwoStarters x = some (true, ()) := by
  obtain ⟨(b : List Int), u⟩ := x
  unfold l_FnTwoStarters l_big
  by_cases h : (b.length : Int) > 4096
  · simp only [decide_eq_true h]
  · have hb := bytes_of hx.1
    obtain ⟨l, ht, hlen⟩ := drawFirst b (by omega) hb
    obtain ⟨m, n, ht2, hlen2⟩ := drawWithout b (by omega) hb
    have hl : l.length ≤ 1099511627776 := by omega
    have hm : m.length ≤ 1099511627776 := by omega
    obtain ⟨r, e, hs, hi, hr, f1, f2⟩ := first_eq l hl
    have hw := without_len m n
    have hws := s_without m n hm
    have hwi := i_without m n hm
    generalize withoutL m n = q at hw hws hwi
    obtain ⟨q, e2, u2⟩ := q
    have hq : q.length ≤ 1099511627776 := by simp only at hw; omega
    have b1 : ∀ a : Int, (a != a) = false := bne_self_i
    simp only [decide_eq_false h, ht, hs, hi, ht2, hws, hwi, b1, likeInts_ok r (by omega), Bool.not_true, two_loop l r e q hq]
    cases hst : startersB l with
    | false =>
      have he := f2 hst
      subst he
      rfl
    | true =>
      obtain ⟨he, hrl⟩ := f1 hst
      subst he
      have e0 : ((0 : Int) != (0 : Int)) = false := by decide
      simp only [e0]
      by_cases h2 : (l.length : Int) < 2
      · simp only [decide_eq_true h2]
      · have hbd : bounds l.length none (some (.dat (.int .i64) (2 : Int))) = some (0, 2) := by
          have hh : (0 : Int) ≤ 0 ∧ (0 : Int) ≤ 2 ∧ (2 : Int) ≤ (l.length : Int) := ⟨by omega, by omega, by omega⟩
          simp only [bounds, bndOr, optInt]
          exact if_pos hh
        simp only [decide_eq_false h2, hbd, onSome, List.drop_zero]
        cases l with
        | nil => simp at h2
        | cons v l' =>
          cases l' with
          | nil => simp at h2
          | cons u l' =>
            have h22 := two_starters hst
            obtain ⟨a, t, j, hg, hj⟩ := two_lead h22
            have hlt : (List.take 2 (v :: u :: l')) = [v, u] := rfl
            have hL : ∃ z : Int, leaderL [v, u] = (z, t, (j : Int), (0 : Int), ()) := by
              unfold leaderL
              rw [h22, hg]
              exact ⟨_, rfl⟩
            obtain ⟨z, hL⟩ := hL
            have ez : ((0 : Int) == (0 : Int)) = true := by decide
            have ej : decide ((j : Int) ≤ 1) = true := by simp; omega
            simp only [hlt, i_leaderOf [v, u] (by simp), i_leaderOf (v :: u :: l') hl, hL, ez, ej]
            cases hg2 : leadGo (v :: u :: l') 51 (dueL (v :: u :: l')) 0 with
            | none =>
              have : leaderL (v :: u :: l') = ((0 : Int), (0 : Int), (0 : Int), (3 : Int), ()) := by
                unfold leaderL
                rw [hst, hg2]
                rfl
              rw [this]
              rfl
            | some y =>
              obtain ⟨a2, t2, j2⟩ := y
              have hz := lead_zero (by simp) hg2
              have hL2 : ∃ z : Int, leaderL (v :: u :: l') = (z, t2, (j2 : Int), (0 : Int), ()) := by
                unfold leaderL
                rw [hst, hg2]
                exact ⟨_, rfl⟩
              obtain ⟨z2, hL2⟩ := hL2
              rw [hL2]
              simp only [e0]
              rw [← hrl] at hz
              by_cases hj0 : j2 = 0
              · have hr1 := hz.2 hj0
                simp [hr1, hj0]
              · have hr1 : ¬ r.length = 1 := fun h => hj0 (hz.1 h)
                have k1 : ((r.length : Int) == 1) = false := by simp; omega
                have k2 : ((j2 : Int) == 0) = false := by simp; omega
                simp only [k1, k2]
                rfl
end Go.Proofs.Ytmdflpfagbcaiaa
