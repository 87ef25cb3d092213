/- Plain law: FnJoined. -/
import Derived.Test.YtmdflpfagbcaiaaPLeaders
import Derived.Test.YtmdflpfagbcaiaaPLike
namespace Go.Proofs.Ytmdflpfagbcaiaa
open Go.RowKit
set_option linter.unusedVariables false
set_option linter.unusedSimpArgs false

/-- When a node joins is so many slots behind the leader, and not before it wakes. -/
theorem join_slots {l : List TStarter.T} (hs : startersB l = true) {d : List Int} {K t : Int} {a : Nat} (hd : InD l K d) (hK : K ≤ 1000000000) (ha : leastL d = [(a : Int)]) (ht : t = leastI d) (p : Int) (hp0 : 1 ≤ p) (hp1 : p ≤ 100000) (i : Nat) (hi : i < l.length) :
    Int.tmod (IntKind.i64.wrap (joinL a t p i l[i] - t)) p = 0 ∧ decide (joinL a t p i l[i] < (l[i].2.1 : Int)) = false := by
  have hil : i < d.length := by rw [hd.len]; exact hi
  have h2 := hd.at' i l[i] d[i] (List.getElem?_eq_getElem hi) (List.getElem?_eq_getElem hil)
  have h3 := starter_in (starters_all hs l[i] (List.getElem_mem hi))
  have ht1 : t ∈ d := by
    rw [ht]
    exact List.mem_of_getElem? (lead_who ha).1
  have h4 := hd.mem ht1
  have h5 : i = a → d[i] = t := by
    intro e
    subst e
    have := (lead_who ha).1
    rw [List.getElem?_eq_getElem hil] at this
    rw [ht]
    exact Option.some.inj this
  obtain ⟨w0, w1, _, _, _, _⟩ := h3
  generalize l[i] = v at h2 w0 w1 ⊢
  obtain ⟨n, (w : Int), (b : Int), (c : Int), u⟩ := v
  have w0 : 0 ≤ w := w0
  have w1 : w ≤ 100000 := w1
  have h2 : w ≤ d[i] := h2.1
  generalize hj : joinL a t p i (n, w, b, c, u) = j
  have hj : (if (i : Int) == (a : Int) then t else if decide (w ≤ t) then IntKind.i64.wrap (t + p) else IntKind.i64.wrap (t + IntKind.i64.wrap (IntKind.i64.wrap (IntKind.i64.wrap (Int.tdiv (IntKind.i64.wrap (IntKind.i64.wrap (IntKind.i64.wrap (w - t) + p) - 1)) p) + 1) * p))) = j := hj
  show Int.tmod (IntKind.i64.wrap (j - t)) p = 0 ∧ decide (j < w) = false
  by_cases hia : i = a
  · have hb : ((i : Int) == (a : Int)) = true := by simp [hia]
    rw [hb] at hj
    simp only [if_true] at hj
    have := h5 hia
    subst hj
    rw [show t - t = 0 by omega, wrap_i64 (by omega) (by omega)]
    exact ⟨Int.zero_tmod p, by simp; omega⟩
  · have hb : ((i : Int) == (a : Int)) = false := by simp; omega
    rw [hb] at hj
    simp only [Bool.false_eq_true, if_false] at hj
    by_cases hw : w ≤ t
    · simp only [decide_eq_true hw, if_true] at hj
      rw [wrap_i64 (by omega) (by omega)] at hj
      subst hj
      rw [show t + p - t = p by omega, wrap_i64 (by omega) (by omega)]
      exact ⟨Int.tmod_self, by simp; omega⟩
    · simp only [decide_eq_false hw] at hj
      simp only [Bool.false_eq_true, if_false] at hj
      rw [wrap_i64 (n := w - t) (by omega) (by omega), wrap_i64 (n := w - t + p) (by omega) (by omega), wrap_i64 (n := w - t + p - 1) (by omega) (by omega)] at hj
      have hq0 : 1 ≤ Int.tdiv (w - t + p - 1) p := by
        rw [Int.tdiv_eq_ediv_of_nonneg (by omega)]
        exact (Int.le_ediv_iff_mul_le (by omega)).2 (by omega)
      have hq1 : Int.tdiv (w - t + p - 1) p * p ≤ w - t + p - 1 := by
        rw [Int.tdiv_eq_ediv_of_nonneg (by omega)]
        exact Int.ediv_mul_le _ (by omega)
      have hq2 : Int.tdiv (w - t + p - 1) p ≤ w - t + p - 1 := by
        rw [Int.tdiv_eq_ediv_of_nonneg (by omega)]
        exact Int.ediv_le_self _ (by omega)
      have hq3 : w - t + p - 1 < (Int.tdiv (w - t + p - 1) p + 1) * p := by
        rw [Int.tdiv_eq_ediv_of_nonneg (by omega)]
        exact Int.lt_ediv_add_one_mul_self _ (by omega)
      generalize Int.tdiv (w - t + p - 1) p = q at *
      have he : (q + 1) * p = q * p + p := by rw [Int.add_mul, Int.one_mul]
      have hpos : p ≤ q * p := by
        have := Int.mul_le_mul_of_nonneg_right hq0 (show 0 ≤ p by omega)
        omega
      rw [wrap_i64 (n := q) (by omega) (by omega), wrap_i64 (n := q + 1) (by omega) (by omega), wrap_i64 (n := (q + 1) * p) (by omega) (by omega), wrap_i64 (by omega) (by omega)] at hj
      subst hj
      rw [show t + (q + 1) * p - t = (q + 1) * p by omega, wrap_i64 (by omega) (by omega)]
      exact ⟨Int.mul_tmod_left _ _, by simp; omega⟩

theorem law_Joined (x) (hx : Wf (.pair (.list (.int .u8)) .unit) x) : l_FnJoined x = some (true, ()) := by
  obtain ⟨(l : List Int), u⟩ := x
  unfold l_FnJoined l_big
  by_cases h : (l.length : Int) > 4096
  · simp only [decide_eq_true h]
  · have hb := bytes_of hx.1
    obtain ⟨t, p, ht, hlen⟩ := drawJoin l (by omega) hb
    obtain ⟨t2, p2, ht2, hlen2⟩ := drawDue l (by omega) hb
    have hl : t.length ≤ 1099511627776 := by omega
    have hl2 : t2.length ≤ 1099511627776 := by omega
    have b1 : ∀ a : Int, (a != a) = false := bne_self_i
    have k1 := likeInts_ok (joinR t p).1 (by have := joinR_len t p; omega)
    have k2 := likeInts_ok (dueR t2 p2).1 (by have := dueR_len t2 p2; omega)
    simp only [decide_eq_false h, ht, ht2, i_joinTimes t p hl, s_joinTimes t p hl, i_dueTimes t2 p2 hl2, s_dueTimes t2 p2 hl2, k1, k2, i_leaderOf t hl, Bool.not_true]
    rw [b1, b1]
    simp only
    by_cases he : (joinR t p).2.1 = (0 : Int)
    · have e0 : ((joinR t p).2.1 != (0 : Int)) = false := by simpa using he
      rw [e0]
      simp only
      have hs : startersB t = true := by
        cases hs : startersB t with
        | true => rfl
        | false => unfold joinR at he; rw [hs] at he; simp at he
      have hp : inB p 1 100000 = true := by
        cases hp : inB p 1 100000 with
        | true => rfl
        | false => unfold joinR at he; rw [hs, hp] at he; simp at he
      obtain ⟨p0, p1⟩ := in_iff.1 hp
      have hn := starters_len hs
      cases hg : leadGo t 51 (dueL t) 0 with
      | none => unfold joinR at he; rw [hs, hp, hg] at he; simp at he
      | some y =>
        obtain ⟨a, tm, j⟩ := y
        obtain ⟨dj, f1, f2, f3, f4, f5, f6⟩ := lead_facts hs hn.1 51 (dueL t) 0 200000 (due_in hs) (by omega) hg
        have ha := (lead_lt (by simp [dueL]) hn.1 hg).1
        have hL : leaderL t = ((t[a].1 : Int), tm, (j : Int), (0 : Int), ()) := by
          unfold leaderL
          rw [hs, hg]
          simp only [if_true, List.getElem?_eq_getElem ha]
        have hjn : joinR t p = (pushes (fun i v => [joinL a tm p i v]) 0 t, 0, ()) := by
          unfold joinR
          rw [hs, hg, hp]
          rfl
        have hm : (pushes (fun i v => [joinL a tm p i v]) 0 t).length = t.length := pushes_len1 _ _ _
        rw [hL, hjn]
        simp only
        generalize hM : pushes (fun i v => [joinL a tm p i v]) 0 t = m at *
        have hp0 : p ≠ 0 := by omega
        have e := all_ok (B := b_l_FnJoined_15) m (fun i => (t, p, m, tm, (0 : Int), (i : Int), ())) (fun _ => true) (.inl ((0 : Int), ())) (.inr (false, ())) (by simp only [b_l_FnJoined_15, lt_n]) (fun i h => by
          have hit : i < t.length := by omega
          have hmi : m[i] = joinL a tm p i t[i] := by
            have := pushes_get (joinL a tm p) t 0 i hit
            rw [hM, List.getElem?_eq_getElem h, Nat.zero_add] at this
            exact Option.some.inj this
          obtain ⟨g1, g2⟩ := join_slots hs f2 (by omega) f3 f4 p p0 p1 i hit
          rw [← hmi] at g1 g2
          simp only [b_l_FnJoined_15, lt_i h, next_i h (show m.length ≤ 1099511627776 by omega), idx_nat h, idx_nat hit, onSome, Int.toNat_natCast, List.getElem?_eq_getElem h, List.getElem?_eq_getElem hit, if_neg hp0, g1, g2]
          simp)
        have e' : loopL b_l_FnJoined_15 (t, p, m, tm, (0 : Int), (0 : Int), ()) = _ := e
        rw [e']
        simp
    · have e0 : ((joinR t p).2.1 != (0 : Int)) = true := by simpa using he
      rw [e0]
end Go.Proofs.Ytmdflpfagbcaiaa
