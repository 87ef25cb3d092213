/- Plain laws: lists of verdicts are marked through their data. -/
import Derived.Test.YtmdflpfagbcaiaaPMergeLaw
import Derived.Test.YtmdflpfagbcaiaaPMergeAll
namespace Go.Proofs.Ytmdflpfagbcaiaa
open Go.RowKit
set_option linter.unusedVariables false
set_option linter.unusedSimpArgs false

theorem marks_ge {T : Type} {f : T → Int → T × Int} {K : Nat} : ∀ (l : List T) (q : Int), (∀ v ∈ l, ∀ q : Int, 0 ≤ q → q ≤ 1152921504606846976 → q ≤ (f v q).2 ∧ (f v q).2 ≤ q + K) → 0 ≤ q → q + (l.length : Int) * K ≤ 1152921504606846976 → q ≤ (marks f l q).2 ∧ (marks f l q).2 ≤ q + (l.length : Int) * K
  | [], q, _, _, _ => by simp [marks]
  | v :: r, q, h, h0, h1 => by
    have hr : ((v :: r).length : Int) * K = (r.length : Int) * K + K := by simp [Int.add_mul]
    have hp : (0 : Int) ≤ (r.length : Int) * K := Int.mul_nonneg (by omega) (by omega)
    rw [hr] at h1 ⊢
    simp only [marks]
    obtain ⟨a, b⟩ := h v (by simp) q h0 (by omega)
    obtain ⟨c, d⟩ := marks_ge r (f v q).2 (fun u hu => h u (by simp [hu])) (by omega) (by omega)
    omega

def up (q : Int) : Int := IntKind.i64.wrap (q + (1 : Int))
theorem up_eq {q : Int} (h0 : 0 ≤ q) (h1 : q ≤ 4611686018427387904) : up q = q + 1 := next_w h0 h1
def f_Verdict (v : TVerdict.T) (q : Int) : TVerdict.T × Int :=
  ((q, (up q, up (up q), (up (up (up q)), up (up (up (up q))), up (up (up (up (up q)))), up (up (up (up (up (up q))))), up (up (up (up (up (up (up q)))))), ()), (marks f_Int64 (dataV v) (up (up (up (up (up (up (up (up q))))))))).1, ()), ()), (marks f_Int64 (dataV v) (up (up (up (up (up (up (up (up q))))))))).2)
theorem n_Verdict (v : TVerdict.T) (hv : (dataV v).length ≤ 1048576) (q : Int) (h0 : 0 ≤ q) (h1 : q ≤ 1152921504606846000) : q ≤ (f_Verdict v q).2 ∧ (f_Verdict v q).2 ≤ q + (1048584 : Nat) := by
  have e : up (up (up (up (up (up (up (up q))))))) = q + 8 := by
    rw [up_eq (q := q) (by omega) (by omega), up_eq (q := q + 1) (by omega) (by omega), up_eq (q := q + 1 + 1) (by omega) (by omega), up_eq (q := q + 1 + 1 + 1) (by omega) (by omega), up_eq (q := q + 1 + 1 + 1 + 1) (by omega) (by omega), up_eq (q := q + 1 + 1 + 1 + 1 + 1) (by omega) (by omega), up_eq (q := q + 1 + 1 + 1 + 1 + 1 + 1) (by omega) (by omega), up_eq (q := q + 1 + 1 + 1 + 1 + 1 + 1 + 1) (by omega) (by omega)]
    omega
  have h2 := q_Int64S (dataV v) (by omega) (q + 8) (by omega) (by omega)
  unfold f_Verdict
  rw [e]
  simp only
  rw [h2]
  omega

theorem mark_VerdictS (l : List TVerdict.T) (q : Int) (hl : l.length ≤ 1099511627776) (hd : ∀ v ∈ l, (dataV v).length ≤ 1099511627776) : l_markVerdictS (l, q, ()) = some ((marks f_Verdict l q).2, (marks f_Verdict l q).1, ()) :=
  mark_ok (f := f_Verdict) (g := l_markVerdictS) (B := b_l_markVerdictS_2) (fun _ _ => by kernel_rfl) l q (fun s q hs => by simp only [b_l_markVerdictS_2, ← hs, lt_n]) (fun s q i h h' hs hi => by
    have hs' : (s.length : Int) = l.length := by rw [hs]
    have hA : ∀ e : TVerdict.T, idx (s.set i e) (i : Int) = some e := fun e => by rw [idx_nat (by simpa using h')]; simp
    have hB : ∀ e : TVerdict.T, (s.set i e)[i]? = some e := fun e => by simp [h']
    have h1 : ∀ q, l_markInt64S (l[i].2.1.2.2.2.1, q, ()) = some ((marks f_Int64 (dataV l[i]) q).2, (marks f_Int64 (dataV l[i]) q).1, ()) := fun q => mark_Int64S (dataV l[i], q, ()) (hd _ (List.getElem_mem h))
    simp only [b_l_markVerdictS_2, hs', lt_i h, next_i h hl, idx_nat h', onSome, Int.toNat_natCast, List.getElem?_eq_getElem h', hA, hB, List.set_set, hi, h1]
    rfl)
theorem marked_ge (l : List TVerdict.T) (hl : l.length ≤ 1048576) (hd : ∀ v ∈ l, (dataV v).length ≤ 1048576) : (0 : Int) ≤ (marks f_Verdict l 1).2 := by
  have key : ∀ (l : List TVerdict.T) (q : Int), (∀ v ∈ l, (dataV v).length ≤ 1048576) → 0 ≤ q → q + (l.length : Int) * 1048584 ≤ 1152921504606000000 → q ≤ (marks f_Verdict l q).2 ∧ (marks f_Verdict l q).2 ≤ q + (l.length : Int) * 1048584 := by
    intro l
    induction l with
    | nil => intro q _ _ _; simp [marks]
    | cons v r ih =>
      intro q hd h0 h1
      have hr : ((v :: r).length : Int) * 1048584 = (r.length : Int) * 1048584 + 1048584 := by simp [Int.add_mul]
      rw [hr] at h1 ⊢
      simp only [marks]
      obtain ⟨a, b⟩ := n_Verdict v (hd v (by simp)) q h0 (by omega)
      obtain ⟨c, d⟩ := ih (f_Verdict v q).2 (fun u hu => hd u (by simp [hu])) (by omega) (by omega)
      omega
  obtain ⟨a, _⟩ := key l 1 hd (by omega) (by omega)
  omega

theorem counts_any (l : List TVerdict.T) (hl : l.length ≤ 1099511627776) (hd : ∀ v ∈ l, (dataV v).length ≤ 1099511627776) : ∃ (c : List Int) (e : Int), s_CountStatuses (l, ()) = some (c, e, ()) ∧ i_CountStatuses (l, ()) = some (c, e, ()) ∧ c.length ≤ 5 := by
  by_cases h8 : (l.length : Int) > 8192
  · refine ⟨[], 3, ?_, ?_, by simp⟩
    · unfold s_CountStatuses
      simp only [decide_eq_true h8]
    · unfold i_CountStatuses
      simp only [decide_eq_true h8]
  · obtain ⟨c, e, h1, h2, h3, _⟩ := counts_eq l (by omega) hd
    exact ⟨c, e, h1, h2, h3⟩

theorem law_CountStatuses (x) (hx : Wf (.pair (.list TVerdict) .unit) x) : l_FnExactCountStatuses x = some (true, ()) := by
  obtain ⟨l, u⟩ := x
  obtain ⟨y, hy, hp⟩ := sz_Verdicts l hx.1.1 (fun v hv => (hx.1.2 v hv).2.1.2.2.2.1.1)
  unfold l_FnExactCountStatuses
  simp only [hy]
  by_cases h : y < 0
  · simp only [decide_eq_true h]
  · obtain ⟨h1, h2⟩ := hp (by omega)
    have hl : l.length ≤ 1099511627776 := by omega
    have hd : ∀ v ∈ l, (dataV v).length ≤ 1099511627776 := fun v hv => by have := h2 v hv; omega
    obtain ⟨c, e, c1, c2, c3⟩ := counts_any l hl hd
    have c4 : c.length ≤ 1099511627776 := by omega
    have k1 : decide ((marks f_Verdict l 1).2 < 0) = false := by have := marked_ge l h1 h2; simp; omega
    have m3 := q_Int64S c c4 1 (by omega) (by omega)
    have n3 : decide ((marks f_Int64 c 1).2 < 0) = false := by simp; omega
    have hm : l_markInt64S (c, 1, ()) = _ := mark_Int64S (c, 1, ()) c4
    have hh := held_Int64S c c4 ((marks f_Int64 c 1).1, 1, ()) rfl
    have ht : l_toVerdictS (l, ()) = some (l, ()) := to_VerdictS (l, ()) hl hd
    have q1 : l_eqInt64S (c, c, ()) = some (true, ()) := eq_Int64S (c, c, ()) rfl c4
    have q2 : l_eqVerdictS (l, l, ()) = some (true, ()) := eq_VerdictS (l, l, ()) rfl hl hd
    simp only [decide_eq_false h, ht, c1, c2, q1, q2, bne_self_i, Bool.not_true, mark_VerdictS l 1 hl hd, k1, hm, hh, n3]
end Go.Proofs.Ytmdflpfagbcaiaa
