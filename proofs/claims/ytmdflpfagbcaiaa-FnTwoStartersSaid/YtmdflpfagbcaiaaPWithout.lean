/- Plain laws: WithoutStarter. -/
import Derived.Test.YtmdflpfagbcaiaaPLeadF
import Derived.Test.YtmdflpfagbcaiaaPPush
namespace Go.Proofs.Ytmdflpfagbcaiaa
open Go.RowKit
set_option linter.unusedVariables false
set_option linter.unusedSimpArgs false

theorem firstI_no {α : Type} (q : α → Bool) : ∀ (l : List α) (i : Nat), firstI q i l = none → l.filter (fun v => !q v) = l
  | [], _, _ => rfl
  | v :: r, i, h => by
    simp only [firstI] at h
    cases hq : q v with
    | true => simp [hq] at h
    | false =>
      simp only [hq, Bool.false_eq_true, if_false] at h
      simp [hq, firstI_no q r (i + 1) h]
theorem firstI_cut {α : Type} (q : α → Bool) : ∀ (l : List α) (i j : Nat), firstI q i l = some j → ∃ (n : Nat) (h : n < l.length), j = i + n ∧ q l[n] = true ∧ (l.take n).filter (fun v => !q v) = l.take n
  | [], _, _, h => by cases h
  | v :: r, i, j, h => by
    simp only [firstI] at h
    cases hq : q v with
    | true =>
      simp [hq] at h
      exact ⟨0, by simp, by omega, by simpa using hq, rfl⟩
    | false =>
      simp only [hq, Bool.false_eq_true, if_false] at h
      obtain ⟨n, hn, e1, e2, e3⟩ := firstI_cut q r (i + 1) j h
      exact ⟨n + 1, by simpa using hn, by omega, by simpa using e2, by simp [hq, e3]⟩

theorem wrap_nat {n : Nat} (h : n ≤ 4611686018427387904) : IntKind.i64.wrap ((n : Int)) = (n : Int) := wrap_i64 (by omega) (by omega)

theorem grow_Starter (n : Nat) (hn : n ≤ 1099511627776) : slices_Grow_Starter ((), (n : Int), ()) = some ([], ()) := by
  unfold slices_Grow_Starter
  have w0 : IntKind.i64.wrap ((0 : Int) - 0) = 0 := by decide
  have w1 : IntKind.i64.wrap ((n : Int) - 0) = n := by rw [Int.sub_zero]; exact wrap_nat (by omega)
  have n0 : decide ((n : Int) < 0) = false := by simp
  simp only [w0, w1, n0]
  by_cases h : (n : Int) > 0
  · have b1 : bounds 0 none (some (.dat (.int .i64) (0 : Int))) = some (0, 0) := rfl
    have b2 : bounds (List.replicate ((n : Int).toNat) (((0 : Int), (0 : Int), (0 : Int), (0 : Int), ()) : Ty.T TStarter)).length none (some (.dat (.int .i64) (0 : Int))) = some (0, 0) := by
      have hh : (0 : Int) ≤ 0 ∧ (0 : Int) ≤ 0 ∧ (0 : Int) ≤ ((List.replicate ((n : Int).toNat) (((0 : Int), (0 : Int), (0 : Int), (0 : Int), ()) : Ty.T TStarter)).length : Int) := ⟨by omega, by omega, by omega⟩
      simp only [bounds, bndOr, optInt]
      exact if_pos hh
    have hp : (0 : Int) ≤ (n : Int) := by omega
    simp only [decide_eq_true h, b1, onSome, hp, if_true]
    rw [room_ok (by rw [Int.toNat_natCast]; exact hn), b2]
    rfl
  · simp only [decide_eq_false h]

theorem concat_Starter (a b : List TStarter.T) (h : a.length + b.length ≤ 1099511627776) : slices_Concat_Starter ([a, b], ()) = some (a ++ b, ()) := by
  unfold slices_Concat_Starter
  have w1 : IntKind.i64.wrap ((0 : Int) + (a.length : Int)) = (a.length : Int) := by rw [Int.zero_add]; exact wrap_nat (by omega)
  have w2 : IntKind.i64.wrap ((a.length : Int) + (b.length : Int)) = ((a.length + b.length : Nat) : Int) := by rw [← Int.natCast_add]; exact wrap_nat (by omega)
  have n1 : decide ((a.length : Int) < 0) = false := by simp
  have n2 : decide (((a.length + b.length : Nat) : Int) < 0) = false := by simp; omega
  have i0 : idx [a, b] (0 : Int) = some a := rfl
  have i1 : idx [a, b] (1 : Int) = some b := rfl
  have k1 : IntKind.i64.wrap ((0 : Int) + 1) = 1 := by decide
  have k2 : IntKind.i64.wrap ((1 : Int) + 1) = 2 := by decide
  have c0 : decide ((0 : Int) < 2) = true := by decide
  have c1 : decide ((1 : Int) < 2) = true := by decide
  have c2 : decide ((2 : Int) < 2) = false := by decide
  have e1 : loopL b_slices_Concat_Starter_3 ([a, b], (0 : Int), [a, b], ((2 : Nat) : Int), (0 : Int), ()) = some (.inl ([a, b], ((a.length + b.length : Nat) : Int), ())) := by
    rw [loopL_eq]
    simp only [b_slices_Concat_Starter_3, i0, onSome, w1, n1, k1, c0, show (((2 : Nat) : Int)) = 2 from rfl]
    rw [loopL_eq]
    simp only [b_slices_Concat_Starter_3, i1, onSome, w2, n2, k2, c1]
    rw [loopL_eq]
    simp only [b_slices_Concat_Starter_3, c2]
  have e2 : loopL b_slices_Concat_Starter_11 ([], [a, b], ((2 : Nat) : Int), (0 : Int), ()) = some (.inl (a ++ b, ())) := by
    rw [loopL_eq]
    simp only [b_slices_Concat_Starter_11, i0, onSome, k1, c0, show (((2 : Nat) : Int)) = 2 from rfl]
    rw [room_ok (by simp; omega)]
    simp only
    rw [loopL_eq]
    simp only [b_slices_Concat_Starter_11, i1, onSome, k2, c1]
    rw [room_ok (by simp; omega)]
    simp only
    rw [loopL_eq]
    simp only [b_slices_Concat_Starter_11, c2]
    simp
  have hl : ([a, b].length : Int) = ((2 : Nat) : Int) := rfl
  simp only [hl, e1, grow_Starter _ h, e2]

/-- The others. -/
def othersL (l : List TStarter.T) (n : Int) : List TStarter.T := l.filter (fun v => !(v.1 == n))
theorem others_cut {l : List TStarter.T} (hs : startersB l = true) {n : Int} {j : Nat} (h : firstI (fun v : TStarter.T => v.1 == n) 0 l = some j) : j < l.length ∧ othersL l n = l.take j ++ l.drop (j + 1) := by
  obtain ⟨k, hk, e1, e2, e3⟩ := firstI_cut _ l 0 j h
  rw [Nat.zero_add] at e1
  subst e1
  refine ⟨hk, ?_⟩
  have e4 : l.drop j = l[j] :: l.drop (j + 1) := List.drop_eq_getElem_cons hk
  have e5 : (l.drop (j + 1)).filter (fun v => !(v.1 == n)) = l.drop (j + 1) := by
    rw [List.filter_eq_self]
    intro v hv
    obtain ⟨i, hi, rfl⟩ := List.mem_iff_getElem.1 hv
    rw [List.getElem_drop]
    have hi' : j + 1 + i < l.length := by simp at hi; omega
    have h1 := (starters_apart hs (i := j) (j := j + 1 + i) (by omega) hi').1
    have h2 : l[j].1 = n := by simpa using e2
    have h3 : ¬ l[j + 1 + i].1 = n := fun e => h1 (h2.trans e.symm)
    simp [h3]
  have e6 : l = l.take j ++ l[j] :: l.drop (j + 1) := by rw [← e4, List.take_append_drop]
  have e7 : othersL l n = (l.take j ++ l[j] :: l.drop (j + 1)).filter (fun v => !(v.1 == n)) := by rw [← e6]; rfl
  rw [e7, List.filter_append, e3, List.filter_cons, e5]
  have e2' : (l[j].1 == n) = true := e2
  simp [e2']

noncomputable def withoutL (l : List TStarter.T) (n : Int) : List TStarter.T × Int × Unit := if startersB l then (if (othersL l n).length = l.length then ([], (4 : Int), ()) else if (othersL l n).length = 0 then ([], (5 : Int), ()) else (othersL l n, (0 : Int), ())) else ([], (1 : Int), ())

theorem s_without (l : List TStarter.T) (n : Int) (hl : l.length ≤ 1099511627776) : s_WithoutStarter (l, n, ()) = some (withoutL l n) := by
  unfold s_WithoutStarter withoutL
  simp only [s_starters1 l hl]
  cases hs : startersB l with
  | false => rfl
  | true =>
    have hn := starters_len hs
    have e := push_ok (B := b_s_WithoutStarter_5) l (by omega) (fun s i => (l, n, s, (i : Int), ())) (fun _ v => if !(v.1 == n) then [v] else []) (fun i v => by split <;> simp) (fun s => .inl (l, s, ())) (fun s => by simp only [b_s_WithoutStarter_5, lt_n]) (fun s i h hs => by
      simp only [b_s_WithoutStarter_5, lt_i h, next_i h hl, idx_nat h, onSome, bne]
      cases l[i].1 == n with
      | true => simp
      | false =>
        simp only [Bool.not_false, if_true]
        rw [room_ok (by simp; omega)])
    have e' : loopL b_s_WithoutStarter_5 (l, n, [], (0 : Int), ()) = some (.inl (l, othersL l n, ())) := by
      rw [pushes_filter] at e; exact e
    simp only [e', Bool.not_true, if_true]
    by_cases h1 : (othersL l n).length = l.length
    · have : ((othersL l n).length : Int) == (l.length : Int) := by simp [h1]
      simp only [this, if_pos h1]
    · have : (((othersL l n).length : Int) == (l.length : Int)) = false := by simp; omega
      simp only [this, if_neg h1]
      by_cases h2 : (othersL l n).length = 0
      · have : ((othersL l n).length : Int) == (0 : Int) := by simp [h2]
        simp only [this, if_pos h2]
      · have : (((othersL l n).length : Int) == (0 : Int)) = false := by rw [beq_eq_false_iff_ne]; omega
        simp only [this, if_neg h2]

theorem i_without (l : List TStarter.T) (n : Int) (hl : l.length ≤ 1099511627776) : i_WithoutStarter (l, n, ()) = some (withoutL l n) := by
  unfold i_WithoutStarter withoutL
  simp only [i_starters1 l hl]
  cases hs : startersB l with
  | false => rfl
  | true =>
    have hn := starters_len hs
    have e := index_Starter l hl (fun z => i_WithoutStarter_1 (z.1, n, ())) (fun v => v.1 == n) (fun i h => rfl)
    simp only [e, Bool.not_true, if_true]
    cases hf : firstI (fun v : TStarter.T => v.1 == n) 0 l with
    | none =>
      have : othersL l n = l := firstI_no _ l 0 hf
      have hd : decide ((-1 : Int) < 0) = true := by decide
      simp only [this, hd, if_true]
    | some j =>
      obtain ⟨hj, ho⟩ := others_cut hs hf
      have hlen : (othersL l n).length = l.length - 1 := by rw [ho]; simp; omega
      have hd : decide ((j : Int) < 0) = false := by simp
      have hne : ¬ (othersL l n).length = l.length := by omega
      simp only [hd, if_neg hne]
      by_cases h1 : l.length = 1
      · have h0 : (othersL l n).length = 0 := by omega
        have : ((l.length : Int) == (1 : Int)) = true := by simp [h1]
        simp only [this, if_pos h0]
      · have h0 : ¬ (othersL l n).length = 0 := by omega
        have : ((l.length : Int) == (1 : Int)) = false := by simp; omega
        simp only [this, if_neg h0]
        have b1 : bounds l.length none (some (.dat (.int .i64) (j : Int))) = some (0, j) := by
          have hh : (0 : Int) ≤ 0 ∧ (0 : Int) ≤ (j : Int) ∧ (j : Int) ≤ (l.length : Int) := ⟨by omega, by omega, by omega⟩
          simp only [bounds, bndOr]
          exact if_pos hh
        have b2 : bounds l.length (some (.dat (.int .i64) ((j + 1 : Nat) : Int))) none = some (j + 1, l.length) := by
          have hh : (0 : Int) ≤ ((j + 1 : Nat) : Int) ∧ ((j + 1 : Nat) : Int) ≤ (l.length : Int) ∧ (l.length : Int) ≤ (l.length : Int) := ⟨by omega, by omega, by omega⟩
          simp only [bounds, bndOr]
          exact if_pos hh
        have ht : l.take l.length = l := List.take_length
        have hc := concat_Starter (l.take j) (l.drop (j + 1)) (by simp; omega)
        simp only [next_i hj hl, b1, b2, onSome, List.drop_zero, ht, hc, both, if_true, ← ho]

theorem without_len (l : List TStarter.T) (n : Int) : (withoutL l n).1.length ≤ l.length := by
  unfold withoutL
  split
  · split
    · simp
    · split
      · simp
      · exact List.length_filter_le _ _
  · simp
end Go.Proofs.Ytmdflpfagbcaiaa
