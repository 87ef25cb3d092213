/- Plain law: FnLeaders. -/
import Derived.Test.YtmdflpfagbcaiaaPLeadF
import Derived.Test.YtmdflpfagbcaiaaPDrawStart
namespace Go.Proofs.Ytmdflpfagbcaiaa
open Go.RowKit
set_option linter.unusedVariables false
set_option linter.unusedSimpArgs false

/-- The leader's own time is its joining; all others are due later and join later. -/
theorem join_later {l : List TStarter.T} (hs : startersB l = true) {d : List Int} {K t : Int} {a : Nat} (hd : InD l K d) (hK : K ≤ 1000000000) (ha : leastL d = [(a : Int)]) (ht : t = leastI d) (p : Int) (hp0 : 1 ≤ p) (hp1 : p ≤ 100000) (i : Nat) (hi : i < l.length) (hne : i ≠ a) : t < joinL a t p i l[i] := by
  have hil : i < d.length := by rw [hd.len]; exact hi
  have h1 := (lead_who ha).2 i hil hne
  have h2 := hd.at' i l[i] d[i] (List.getElem?_eq_getElem hi) (List.getElem?_eq_getElem hil)
  have h3 := starter_in (starters_all hs l[i] (List.getElem_mem hi))
  have ht1 : t ∈ d := by
    rw [ht]
    exact List.mem_of_getElem? (lead_who ha).1
  have h4 := hd.mem ht1
  have hne' : ((i : Int) == (a : Int)) = false := by
    simp; omega
  unfold joinL slotsL
  rw [hne']
  simp only [Bool.false_eq_true, if_false]
  obtain ⟨w0, w1, _, _, _, _⟩ := h3
  generalize l[i] = v at h2 w0 w1 ⊢
  obtain ⟨n, (w : Int), (b : Int), (c : Int), u⟩ := v
  have w0 : 0 ≤ w := w0
  have w1 : w ≤ 100000 := w1
  show t < (if decide (w ≤ t) then IntKind.i64.wrap (t + p) else IntKind.i64.wrap (t + IntKind.i64.wrap (IntKind.i64.wrap (IntKind.i64.wrap (Int.tdiv (IntKind.i64.wrap (IntKind.i64.wrap (IntKind.i64.wrap (w - t) + p) - 1)) p) + 1) * p)))
  by_cases hw : w ≤ t
  · simp only [decide_eq_true hw, if_true]
    rw [wrap_i64 (by omega) (by omega)]
    omega
  · simp only [decide_eq_false hw]
    simp only [Bool.false_eq_true, if_false]
    rw [wrap_i64 (n := w - t) (by omega) (by omega), wrap_i64 (n := w - t + p) (by omega) (by omega), wrap_i64 (n := w - t + p - 1) (by omega) (by omega)]
    have hq0 : 1 ≤ Int.tdiv (w - t + p - 1) p := by
      rw [Int.tdiv_eq_ediv_of_nonneg (by omega)]
      exact (Int.le_ediv_iff_mul_le (by omega)).2 (by omega)
    have hq1 : Int.tdiv (w - t + p - 1) p * p ≤ w - t + p - 1 := by
      rw [Int.tdiv_eq_ediv_of_nonneg (by omega)]
      exact Int.ediv_mul_le _ (by omega)
    have hq2 : Int.tdiv (w - t + p - 1) p ≤ w - t + p - 1 := by
      rw [Int.tdiv_eq_ediv_of_nonneg (by omega)]
      exact Int.ediv_le_self _ (by omega)
    generalize Int.tdiv (w - t + p - 1) p = q at *
    rw [wrap_i64 (n := q) (by omega) (by omega), wrap_i64 (n := q + 1) (by omega) (by omega)]
    have he : (q + 1) * p = q * p + p := by rw [Int.add_mul, Int.one_mul]
    have hpos : p ≤ q * p := by
      have := Int.mul_le_mul_of_nonneg_right hq0 (show 0 ≤ p by omega)
      omega
    rw [he, wrap_i64 (n := q * p + p) (by omega) (by omega), wrap_i64 (by omega) (by omega)]
    omega

theorem pushes_get {T R : Type} (g : Nat → T → R) : ∀ (l : List T) (k i : Nat) (h : i < l.length), (pushes (fun i v => [g i v]) k l)[i]? = some (g (k + i) l[i])
  | [], k, i, h => by simp at h
  | v :: r, k, 0, h => by simp [pushes]
  | v :: r, k, i + 1, h => by
    have := pushes_get g r (k + 1) i (by simpa using h)
    simp only [pushes, List.singleton_append, List.getElem?_cons_succ, this, List.getElem_cons_succ]
    congr 2
    omega
theorem pushes_len1 {T R : Type} (g : Nat → T → R) : ∀ (l : List T) (k : Nat), (pushes (fun i v => [g i v]) k l).length = l.length
  | [], k => rfl
  | v :: r, k => by simp [pushes, pushes_len1 g r (k + 1)]

theorem leaders_loop (l : List TStarter.T) (hl : l.length ≤ 1099511627776) (a : Nat) (ha : a < l.length) (t j : Int) (d m : List Int) (hd : d.length = l.length) (hm : m.length = l.length) (hn : ∀ i (h : i < l.length), i ≠ a → l[i].1 ≠ l[a].1)
    (h1 : d[a]? = some t) (h2 : m[a]? = some t) (h3 : ∀ i (h : i < l.length), i ≠ a → t < d[i] ∧ t < m[i]) :
    loopL b_l_FnLeaders_15 (l, l[a].1, t, j, d, m, (0 : Int), ()) = some (.inl (l, j, ())) := by
  have e := all_ok (B := b_l_FnLeaders_15) l (fun i => (l, l[a].1, t, j, d, m, (i : Int), ())) (fun _ => true) (.inl (l, j, ())) (.inr (false, ())) (by simp only [b_l_FnLeaders_15, lt_n]) (fun i h => by
    have hid : i < d.length := by omega
    have him : i < m.length := by omega
    simp only [b_l_FnLeaders_15, lt_i h, next_i h hl, idx_nat h, idx_nat hid, idx_nat him, onSome, Int.toNat_natCast, List.getElem?_eq_getElem h, List.getElem?_eq_getElem hid, List.getElem?_eq_getElem him]
    by_cases hia : i = a
    · subst hia
      have e1 : d[i] = t := by rw [List.getElem?_eq_getElem hid] at h1; exact Option.some.inj h1
      have e2 : m[i] = t := by rw [List.getElem?_eq_getElem him] at h2; exact Option.some.inj h2
      have b1 : ((l[i].1 : Int) == l[i].1) = true := by simp
      rw [e1, e2, b1]
      simp
    · obtain ⟨g1, g2⟩ := h3 i h hia
      have b1 : ((l[i].1 : Int) == l[a].1) = false := by
        have := hn i h hia
        simpa using this
      have b2 : decide (d[i] ≤ t) = false := by simp; omega
      have b3 : decide (m[i] ≤ t) = false := by simp; omega
      rw [b1]
      simp [b2, b3])
  have e' : loopL b_l_FnLeaders_15 (l, l[a].1, t, j, d, m, (0 : Int), ()) = _ := e
  rw [e']
  simp

theorem law_Leaders (x) (hx : Wf (.pair (.list (.int .u8)) .unit) x) : l_FnLeaders x = some (true, ()) := by
  obtain ⟨(l : List Int), u⟩ := x
  unfold l_FnLeaders l_big
  by_cases h : (l.length : Int) > 4096
  · simp only [decide_eq_true h]
  · have hb := bytes_of hx.1
    obtain ⟨t, ht, hlen⟩ := drawLeader l (by omega) hb
    have hl : t.length ≤ 1099511627776 := by omega
    have b1 : ∀ a : Int, (a != a) = false := bne_self_i
    have b2 : ∀ a : Bool, (a != a) = false := bne_self_b
    simp only [decide_eq_false h, ht, s_leaderOf t hl, i_leaderOf t hl, s_starters, i_starters, hl, i_dueTimes t _ hl, i_joinTimes t _ hl]
    rw [b1, b1, b1, b1, b2]
    simp only
    by_cases he : (leaderL t).2.2.2.1 = (0 : Int)
    · have hs : startersB t = true := by
        cases hs : startersB t with
        | true => rfl
        | false => unfold leaderL at he; rw [hs] at he; simp at he
      have hn := starters_len hs
      cases hg : leadGo t 51 (dueL t) 0 with
      | none => unfold leaderL at he; rw [hs, hg] at he; simp at he
      | some y =>
        obtain ⟨a, tm, j⟩ := y
        obtain ⟨dj, f1, f2, f3, f4, f5, f6⟩ := lead_facts hs hn.1 51 (dueL t) 0 200000 (due_in hs) (by omega) hg
        have ha := (lead_lt (by simp [dueL]) hn.1 hg).1
        have hL : leaderL t = ((t[a].1 : Int), tm, (j : Int), (0 : Int), ()) := by
          unfold leaderL
          rw [hs, hg]
          simp only [if_true, List.getElem?_eq_getElem ha]
        have hj : inB (j : Int) 0 50 = true := in_iff.2 (by omega)
        have hd : dueR t (j : Int) = (dj, 0, ()) := by
          unfold dueR
          rw [hs, hj]
          simp only [if_true, Int.toNat_natCast]
          rw [show dueGo t j (dueL t) = some dj by simpa using f1]
        have hjn : joinR t 5 = (pushes (fun i v => [joinL a tm 5 i v]) 0 t, 0, ()) := by
          unfold joinR
          rw [hs, hg]
          rfl
        have who := lead_who f3
        have hm : (pushes (fun i v => [joinL a tm 5 i v]) 0 t).length = t.length := pushes_len1 _ _ _
        have hloop := leaders_loop t hl a ha tm (j : Int) dj (pushes (fun i v => [joinL a tm 5 i v]) 0 t) f2.len hm (fun i hi hne => starters_ne hs hi ha hne)
          (by rw [f4]; exact who.1) (by rw [pushes_get _ _ _ _ ha]; simp [joinL]) (fun i hi hne => by
            have hid : i < dj.length := by rw [f2.len]; exact hi
            refine ⟨Int.lt_of_le_of_lt (Int.le_of_eq f4) (who.2 i hid hne), ?_⟩
            have hg := pushes_get (joinL a tm 5) t 0 i hi
            rw [List.getElem?_eq_getElem (by rw [hm]; exact hi), Nat.zero_add] at hg
            have hg := Option.some.inj hg
            rw [hg]
            exact join_later hs f2 (by omega) f3 f4 5 (by omega) (by omega) i hi hne)
        have e0 : ((leaderL t).2.2.2.1 != (0 : Int)) = false := by rw [hL]; rfl
        rw [e0]
        rw [hL]
        simp only [hd, hjn, hm, f2.len, b1, hloop]
        have hw : IntKind.i64.wrap ((j : Int) + 1) = ((j + 1 : Nat) : Int) := by rw [wrap_i64] <;> omega
        rw [hw, i_dueTimes t _ hl]
        simp only
        by_cases h50 : j = 50
        · subst h50
          rcases Bool.eq_false_or_eq_true ((dueR t ((50 + 1 : Nat) : Int)).2.1 == (4 : Int)) with h4 | h4 <;> simp only [h4] <;> rfl
        · have hj1 : inB ((j + 1 : Nat) : Int) 0 50 = true := in_iff.2 (by omega)
          have hd1 : dueR t ((j + 1 : Nat) : Int) = ([], 4, ()) := by
            unfold dueR
            rw [hs, hj1]
            simp only [if_true, Int.toNat_natCast]
            have f1' : dueGo t j (dueL t) = some dj := by simpa using f1
            have hone : (leastL dj).length = 1 := by rw [f3]; rfl
            rw [dueGo_succ, f1']
            simp [hone]
          rw [hd1]
          rfl
    · have e0 : ((leaderL t).2.2.2.1 != (0 : Int)) = true := by simpa using he
      rw [e0]
end Go.Proofs.Ytmdflpfagbcaiaa
