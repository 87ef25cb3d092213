/- Plain law: QuietSteps. -/
import Derived.Test.YtmdflpfagbcaiaaPB
import Derived.Test.YtmdflpfagbcaiaaPA
import Derived.Test.YtmdflpfagbcaiaaPIn
namespace Go.Proofs.Ytmdflpfagbcaiaa
open Go.RowKit
set_option linter.unusedVariables false
set_option linter.unusedSimpArgs false

/-- held_ok, where the numbers stay small. -/
theorem held_okB {T : Type} {K : Nat} {f : T → Int → T × Int} {g : List T × Int × Unit → Option (Int × Unit)} {B : List T × Int × Int × Unit → Option ((List T × Int × Int × Unit) ⊕ ((Int × Unit) ⊕ (Int × Unit)))}
    (hg : ∀ l q, g (l, q, ()) = match loopL B (l, q, (0 : Int), ()) with
      | none => none
      | some (.inl v) => some (v.1, ())
      | some (.inr v) => some (v.1, ()))
    (l m : List T) (q : Int) (hm : m = (marks f l q).1) (hf : ∀ v ∈ l, ∀ q : Int, 0 ≤ q → q ≤ 1152921504606000000 → 0 ≤ (f v q).2 ∧ (f v q).2 ≤ q + K) (h0 : 0 ≤ q) (h1 : q + (l.length : Int) * K ≤ 1152921504606000000) (hend : ∀ q, B (m, q, (m.length : Int), ()) = some (.inr (.inl (q, ()))))
    (hstep : ∀ q v i (h : i < m.length), 0 ≤ q → q ≤ 1152921504606000000 → m[i] = (f v q).1 → v ∈ l → B (m, q, (i : Int), ()) = some (.inl (m, (f v q).2, ((i + 1 : Nat) : Int), ()))) :
    g (m, q, ()) = some ((marks f l q).2, ()) := by
  have key : ∀ (r : List T) (done' : List T) q, (∀ v ∈ r, v ∈ l) → 0 ≤ q → q + (r.length : Int) * K ≤ 1152921504606000000 → done' ++ (marks f r q).1 = m → loopL B (m, q, (done'.length : Int), ()) = some (.inl ((marks f r q).2, ())) := by
    intro r
    induction r with
    | nil =>
      intro done' q h1 _ _ h2
      simp only [marks, List.append_nil] at h2
      subst h2
      rw [loopL_eq, hend]
      rfl
    | cons v r ih =>
      intro done' q h1 q0 q1 h2
      simp only [marks] at h2
      have hi : done'.length < m.length := by rw [← h2]; simp
      have hr : ((v :: r).length : Int) * K = (r.length : Int) * K + K := by simp [Int.add_mul]
      have hp : (0 : Int) ≤ (r.length : Int) * K := Int.mul_nonneg (by omega) (by omega)
      rw [hr] at q1
      obtain ⟨a, b⟩ := hf v (h1 v (by simp)) q q0 (by omega)
      rw [loopL_eq, hstep q v done'.length hi q0 (by omega) (by simp [← h2]) (h1 v (by simp))]
      simp only
      have := ih (done' ++ [(f v q).1]) (f v q).2 (fun u hu => h1 u (by simp [hu])) a (by omega) (by simpa using h2)
      simp only [marks]
      simpa using this
  have := key l [] q (fun v h => h) h0 h1 (by simpa using hm.symm)
  rw [hg]
  simp at this
  rw [this]

def up1 (q : Int) : Int := IntKind.i64.wrap (q + (1 : Int))
theorem up1_eq {q : Int} (h0 : 0 ≤ q) (h1 : q ≤ 4611686018427387904) : up1 q = q + 1 := next_w h0 h1
/-- A quiet step's scripts are empty. -/
def quietS (v : TStep.T) : Prop := v.2.2.1 = [] ∧ v.2.2.2.1 = []
def f_Step (v : TStep.T) (q : Int) : TStep.T × Int := ((q, up1 q, [], [], ()), up1 (up1 q))
theorem n_Step (v : TStep.T) (q : Int) (h0 : 0 ≤ q) (h1 : q ≤ 1152921504606000000) : 0 ≤ (f_Step v q).2 ∧ (f_Step v q).2 ≤ q + (2 : Nat) := by
  show 0 ≤ up1 (up1 q) ∧ up1 (up1 q) ≤ q + (2 : Nat)
  rw [up1_eq (q := q) (by omega) (by omega), up1_eq (by omega) (by omega)]
  omega
theorem markF0 (q : Int) : l_markFaultS (([] : List (Ty.T TStarter)), q, ()) = some (q, [], ()) := mark_FaultS ([], q, ()) (by simp)
theorem heldF0 (q : Int) : l_heldFaultS (([] : List (Ty.T TStarter)), q, ()) = some (q, ()) := held_FaultS [] (by simp) ([], q, ()) rfl
theorem eqF0 : l_eqFaultS (([] : List (Ty.T TStarter)), ([] : List (Ty.T TStarter)), ()) = some (true, ()) := eq_FaultS ([], [], ()) rfl (by simp)

theorem mark_StepS (l : List TStep.T) (q : Int) (hl : l.length ≤ 1099511627776) (hd : ∀ v ∈ l, quietS v) : l_markStepS (l, q, ()) = some ((marks f_Step l q).2, (marks f_Step l q).1, ()) :=
  mark_ok (f := f_Step) (g := l_markStepS) (B := b_l_markStepS_2) (fun _ _ => by kernel_rfl) l q (fun s q hs => by simp only [b_l_markStepS_2, ← hs, lt_n]) (fun s q i h h' hs hi => by
    have hs' : (s.length : Int) = l.length := by rw [hs]
    have hA : ∀ e : TStep.T, idx (s.set i e) (i : Int) = some e := fun e => by rw [idx_nat (by simpa using h')]; simp
    have hB : ∀ e : TStep.T, (s.set i e)[i]? = some e := fun e => by simp [h']
    have hq := hd _ (List.getElem_mem h)
    have e1 : l[i].2.2.1 = [] := hq.1
    have e2 : l[i].2.2.2.1 = [] := hq.2
    have m1 : ∀ q, l_markFaultS (l[i].2.2.1, q, ()) = some (q, [], ()) := fun q => by rw [e1]; exact markF0 q
    have m2 : ∀ q, l_markFaultS (l[i].2.2.2.1, q, ()) = some (q, [], ()) := fun q => by rw [e2]; exact markF0 q
    simp only [b_l_markStepS_2, hs', lt_i h, next_i h hl, idx_nat h', onSome, Int.toNat_natCast, List.getElem?_eq_getElem h', hA, hB, List.set_set, hi, m1, m2]
    rfl)
theorem held_StepS (l : List TStep.T) (hl : l.length ≤ 1000) : l_heldStepS ((marks f_Step l 1).1, 1, ()) = some ((marks f_Step l 1).2, ()) :=
  held_okB (K := 2) (f := f_Step) (g := l_heldStepS) (B := b_l_heldStepS_2) (fun _ _ => by kernel_rfl) l _ 1 rfl (fun v _ q h0 h1 => n_Step v q h0 h1) (by omega) (by omega) (fun q => by simp only [b_l_heldStepS_2, lt_n]) (fun q v i h h0 h1 hi _ => by
    have hl' : (marks f_Step l 1).1.length ≤ 1099511627776 := by rw [marks_length]; omega
    have n1 : decide (up1 (up1 q) < 0) = false := by rw [up1_eq (q := q) (by omega) (by omega), up1_eq (by omega) (by omega)]; simp; omega
    have n2 : IntKind.i64.wrap (IntKind.i64.wrap (q + 1) + 1) = up1 (up1 q) := rfl
    have n3 : IntKind.i64.wrap (q + 1) = up1 q := rfl
    have a1 : ((f_Step v q).1.1 != q) = false := bne_self_i q
    have a2 : ((f_Step v q).1.2.1 != IntKind.i64.wrap (q + 1)) = false := bne_self_i _
    have a3 : ∀ k, l_heldFaultS ((f_Step v q).1.2.2.1, k, ()) = some (k, ()) := heldF0
    have a4 : ∀ k, l_heldFaultS ((f_Step v q).1.2.2.2.1, k, ()) = some (k, ()) := heldF0
    have n4 : decide (IntKind.i64.wrap (IntKind.i64.wrap (q + 1) + 1) < 0) = false := n1
    simp only [b_l_heldStepS_2, lt_i h, next_i h hl', idx_nat h, onSome, hi, a1, a2, a3, a4, n4]
    rfl)
theorem eq_StepS (l : List TStep.T) (hl : l.length ≤ 1099511627776) (hd : ∀ v ∈ l, quietS v) : l_eqStepS (l, l, ()) = some (true, ()) :=
  eqS_ok (g := l_eqStepS) (B := b_l_eqStepS_4) (fun _ => by kernel_rfl) l (by simp only [b_l_eqStepS_4, lt_n]) (fun i h => by
    have hq := hd _ (List.getElem_mem h)
    have e1 : l[i].2.2.1 = [] := hq.1
    have e2 : l[i].2.2.2.1 = [] := hq.2
    have e0 : l_eqStep (l[i], l[i], ()) = some (true, ()) := by
      have m1 : l_eqFaultS (l[i].2.2.1, l[i].2.2.1, ()) = some (true, ()) := by rw [e1]; exact eqF0
      have m2 : l_eqFaultS (l[i].2.2.2.1, l[i].2.2.2.1, ()) = some (true, ()) := by rw [e2]; exact eqF0
      unfold l_eqStep
      simp only [bne_self_i, m1, m2, Bool.not_true]
    simp only [b_l_eqStepS_4, lt_i h, next_i h hl, idx_nat h, onSome, e0, Bool.not_true])

theorem law_QuietSteps (x) (hx : Wf (.pair (.int .i64) .unit) x) : l_FnExactQuietSteps x = some (true, ()) := by
  obtain ⟨(n : Int), u⟩ := x
  have key : ∃ (l : List TStep.T) (e : Int), s_QuietSteps (n, ()) = some (l, e, ()) ∧ i_QuietSteps (n, ()) = some (l, e, ()) ∧ l.length ≤ 40 ∧ ∀ v ∈ l, quietS v := by
    unfold s_QuietSteps i_QuietSteps
    simp only [s_in, i_in]
    cases h : inB n 0 40 with
    | false => exact ⟨[], 3, rfl, rfl, by simp, fun v hv => by cases hv⟩
    | true =>
      obtain ⟨h0, h1⟩ := in_iff.1 h
      have hc : 0 ≤ n ∧ n ≤ n := ⟨h0, Int.le_refl n⟩
      simp only [Bool.not_true, if_pos hc]
      have hr : n.toNat ≤ 1099511627776 := by omega
      unfold room
      rw [if_pos hr]
      refine ⟨_, _, rfl, rfl, by simp; omega, fun v hv => ?_⟩
      have := List.eq_of_mem_replicate hv
      subst this
      exact ⟨rfl, rfl⟩
  obtain ⟨l, e, c1, c2, hl, hd⟩ := key
  have hl' : l.length ≤ 1099511627776 := by omega
  have n1 : decide ((marks f_Step l 1).2 < 0) = false := by
    have hb : ∀ (l : List TStep.T) (q : Int), 0 ≤ q → q + (l.length : Int) * 2 ≤ 1000000 → 0 ≤ (marks f_Step l q).2 := by
      intro l
      induction l with
      | nil => intro q h _; exact h
      | cons v r ih =>
        intro q h0 h1
        have hr : ((v :: r).length : Int) * 2 = (r.length : Int) * 2 + 2 := by simp [Int.add_mul]
        rw [hr] at h1
        obtain ⟨a, b⟩ := n_Step v q h0 (by omega)
        exact ih _ a (by omega)
    have := hb l 1 (by omega) (by omega)
    simp; omega
  unfold l_FnExactQuietSteps
  simp only [c1, c2, eq_StepS l hl' hd, bne_self_i, Bool.not_true, mark_StepS l 1 hl' hd, held_StepS l (by omega), n1]
end Go.Proofs.Ytmdflpfagbcaiaa
