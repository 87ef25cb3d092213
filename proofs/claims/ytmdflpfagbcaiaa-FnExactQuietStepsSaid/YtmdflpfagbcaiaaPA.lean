/- Copies, comparisons, marks and searches; written by the program mkplain.py. -/
import Derived.Test.YtmdflpfagbcaiaaPB
import Derived.Test.YtmdflpfagbcaiaaGA
import Derived.Test.YtmdflpfagbcaiaaGB
import Derived.Test.YtmdflpfagbcaiaaGC
namespace Go.Proofs.Ytmdflpfagbcaiaa
open Go.RowKit
set_option linter.unusedVariables false
set_option linter.unusedSimpArgs false

theorem eq_Fault (x) (h : x.2.1 = x.1) : l_eqFault x = some (true, ()) := by
  unfold l_eqFault
  rw [h]
  simp

theorem eq_FaultS (x) (h : x.2.1 = x.1) (hl : x.1.length ≤ 1099511627776) : l_eqFaultS x = some (true, ()) := by
  obtain ⟨l, m, u⟩ := x
  obtain rfl : m = l := h
  have hl : m.length ≤ 1099511627776 := hl
  exact eqS_ok (g := l_eqFaultS) (B := b_l_eqFaultS_4) (fun _ => by kernel_rfl) m (by simp only [b_l_eqFaultS_4, lt_n]) (fun i h => by
    simp only [b_l_eqFaultS_4, lt_i h, lt_n, next_i h hl, idx_nat h, onSome]
    rw [eq_Fault _ rfl]
    simp)

def f_Fault (_ : Ty.T TStarter) (q : Int) : Ty.T TStarter × Int := ((q, ((IntKind.i64.wrap (q + (1 : Int))), ((IntKind.i64.wrap ((IntKind.i64.wrap (q + (1 : Int))) + (1 : Int))), ((IntKind.i64.wrap ((IntKind.i64.wrap ((IntKind.i64.wrap (q + (1 : Int))) + (1 : Int))) + (1 : Int))), ())))), (IntKind.i64.wrap ((IntKind.i64.wrap ((IntKind.i64.wrap ((IntKind.i64.wrap (q + (1 : Int))) + (1 : Int))) + (1 : Int))) + (1 : Int))))
theorem n_Fault (v : Ty.T TStarter) (q : Int) (h0 : 0 ≤ q) (h1 : q ≤ 2305843009213693952) : (f_Fault v q).2 = q + (4 : Nat) := by
  simp only [f_Fault]
  repeat' first | omega | rw [next_w]
theorem mark_FaultS (x) (hl : x.1.length ≤ 1099511627776) : l_markFaultS x = some ((marks f_Fault x.1 x.2.1).2, (marks f_Fault x.1 x.2.1).1, ()) :=
  mark_ok (g := l_markFaultS) (B := b_l_markFaultS_2) (fun _ _ => by kernel_rfl) x.1 x.2.1 (fun s q hs => by simp only [b_l_markFaultS_2, ← hs, lt_n]) (fun s q i h h' hs _ => by
    have hl' : s.length ≤ 1099511627776 := hs ▸ hl
    have hs' : (s.length : Int) = x.1.length := by rw [hs]
    simp only [b_l_markFaultS_2, hs', lt_i h, next_i h hl, idx_nat h', onSome, Int.toNat_natCast, List.getElem?_eq_getElem h', List.length_set, idx, List.getElem?_set, List.set_set, List.getElem?_set_self, Int.natCast_nonneg, if_true, h', f_Fault])
theorem q_FaultS (l : List (Ty.T TStarter)) (hl : l.length ≤ 1099511627776) (q : Int) (h0 : 0 ≤ q) (h1 : q ≤ 1152921504606846976) : (marks f_Fault l q).2 = q + (l.length : Int) * (4 : Nat) :=
  marks_flat (by decide) (fun v q h0 h1 => n_Fault v q h0 h1) l q h0 (by omega)

theorem held_FaultS (l : List (Ty.T TStarter)) (hl : l.length ≤ 1099511627776) (x) (h0 : x.1 = (marks f_Fault l x.2.1).1) : l_heldFaultS x = some ((marks f_Fault l x.2.1).2, ()) :=
  held_ok (g := l_heldFaultS) (B := b_l_heldFaultS_2) (fun _ _ => by kernel_rfl) l x.1 x.2.1 h0 (fun q => by simp only [b_l_heldFaultS_2, lt_n]) (fun q v i h hi _ => by
    have hl' : x.1.length ≤ 1099511627776 := by rw [h0, marks_length]; exact hl
    simp only [b_l_heldFaultS_2, lt_i h, next_i h hl', idx_nat h, onSome]
    rw [hi]
    simp [f_Fault])

theorem sz_StarterS (x) (h0 : 0 ≤ x.2.1) (h1 : x.2.1 ≤ 1048576) (h : x.1.length ≤ maxLen) : l_szStarterS x = some ((if x.2.1 - (x.1.length : Int) < 0 then (-1 : Int) else x.2.1 - (x.1.length : Int)), ()) :=
  sz_ok (g := l_szStarterS) (fun _ _ => by kernel_rfl) x.1 x.2.1 h0 h1 h

theorem to_Starter (x) : l_toStarter x = some (x.1, ()) := rfl

theorem to_StarterS (x) (hl : x.1.length ≤ 1099511627776) : l_toStarterS x = some (x.1, ()) :=
  toS_ok (g := l_toStarterS) (B := b_l_toStarterS_3) (z := (((0 : Int), ((0 : Int), ((0 : Int), ((0 : Int), ())))) : Ty.T TStarter)) (fun _ => by kernel_rfl) x.1 hl (fun s => by simp only [b_l_toStarterS_3, lt_n]) (fun s i h h' => by
    simp only [b_l_toStarterS_3, lt_i h, lt_n, next_i h hl, idx_nat h, onSome, idx_nat h', to_Starter, Int.toNat_natCast, List.getElem?_eq_getElem h'])

theorem index_Starter (l : List (Ty.T TStarter)) (hl : l.length ≤ 1099511627776) (p : (Ty.pair TStarter .unit).T → Option (Ty.pair .bool .unit).T) (q : Ty.T TStarter → Bool) (hq : ∀ i (h : i < l.length), p (l[i], ()) = some (q l[i], ())) :
    slices_IndexFunc_Starter (l, p, ()) = some ((match firstI q 0 l with | none => (-1 : Int) | some i => (i : Int)), ()) := by
  have e := first_ok (B := b_slices_IndexFunc_Starter_2) l (fun i => (l, p, (l.length : Int), (i : Int), ())) q (.inl ()) (fun i => .inr ((i : Int), ())) (by simp only [b_slices_IndexFunc_Starter_2, lt_n]) (fun i h => by
    simp only [b_slices_IndexFunc_Starter_2, lt_i h, next_i h hl, idx_nat h, onSome, hq i h]
    cases q l[i] <;> simp)
  have e0 : slices_IndexFunc_Starter (l, p, ()) = match loopL b_slices_IndexFunc_Starter_2 (l, p, (l.length : Int), ((0 : Nat) : Int), ()) with
    | none => none
    | some (.inl _) => some ((-1 : Int), ())
    | some (.inr v4) => some (v4.1, ()) := rfl
  rw [e0, e]
  cases firstI q 0 l <;> rfl

theorem contains_Starter (l : List (Ty.T TStarter)) (hl : l.length ≤ 1099511627776) (p : (Ty.pair TStarter .unit).T → Option (Ty.pair .bool .unit).T) (q : Ty.T TStarter → Bool) (hq : ∀ i (h : i < l.length), p (l[i], ()) = some (q l[i], ())) :
    slices_ContainsFunc_Starter (l, p, ()) = some (l.any q, ()) := by
  have e0 : slices_ContainsFunc_Starter (l, p, ()) = match slices_IndexFunc_Starter (l, p, ()) with
    | none => none
    | some v1 => some ((decide (v1.1 ≥ (0 : Int))), ()) := rfl
  rw [e0, index_Starter l hl p q hq, ← firstI_any q 0 l]
  cases firstI q 0 l <;> simp

theorem eq_Starter (x) (h : x.2.1 = x.1) : l_eqStarter x = some (true, ()) := by
  unfold l_eqStarter
  rw [h]
  simp

theorem eq_StarterS (x) (h : x.2.1 = x.1) (hl : x.1.length ≤ 1099511627776) : l_eqStarterS x = some (true, ()) := by
  obtain ⟨l, m, u⟩ := x
  obtain rfl : m = l := h
  have hl : m.length ≤ 1099511627776 := hl
  exact eqS_ok (g := l_eqStarterS) (B := b_l_eqStarterS_4) (fun _ => by kernel_rfl) m (by simp only [b_l_eqStarterS_4, lt_n]) (fun i h => by
    simp only [b_l_eqStarterS_4, lt_i h, lt_n, next_i h hl, idx_nat h, onSome]
    rw [eq_Starter _ rfl]
    simp)

def f_Starter (_ : Ty.T TStarter) (q : Int) : Ty.T TStarter × Int := ((q, ((IntKind.i64.wrap (q + (1 : Int))), ((IntKind.i64.wrap ((IntKind.i64.wrap (q + (1 : Int))) + (1 : Int))), ((IntKind.i64.wrap ((IntKind.i64.wrap ((IntKind.i64.wrap (q + (1 : Int))) + (1 : Int))) + (1 : Int))), ())))), (IntKind.i64.wrap ((IntKind.i64.wrap ((IntKind.i64.wrap ((IntKind.i64.wrap (q + (1 : Int))) + (1 : Int))) + (1 : Int))) + (1 : Int))))
theorem n_Starter (v : Ty.T TStarter) (q : Int) (h0 : 0 ≤ q) (h1 : q ≤ 2305843009213693952) : (f_Starter v q).2 = q + (4 : Nat) := by
  simp only [f_Starter]
  repeat' first | omega | rw [next_w]
theorem mark_StarterS (x) (hl : x.1.length ≤ 1099511627776) : l_markStarterS x = some ((marks f_Starter x.1 x.2.1).2, (marks f_Starter x.1 x.2.1).1, ()) :=
  mark_ok (g := l_markStarterS) (B := b_l_markStarterS_2) (fun _ _ => by kernel_rfl) x.1 x.2.1 (fun s q hs => by simp only [b_l_markStarterS_2, ← hs, lt_n]) (fun s q i h h' hs _ => by
    have hl' : s.length ≤ 1099511627776 := hs ▸ hl
    have hs' : (s.length : Int) = x.1.length := by rw [hs]
    simp only [b_l_markStarterS_2, hs', lt_i h, next_i h hl, idx_nat h', onSome, Int.toNat_natCast, List.getElem?_eq_getElem h', List.length_set, idx, List.getElem?_set, List.set_set, List.getElem?_set_self, Int.natCast_nonneg, if_true, h', f_Starter])
theorem q_StarterS (l : List (Ty.T TStarter)) (hl : l.length ≤ 1099511627776) (q : Int) (h0 : 0 ≤ q) (h1 : q ≤ 1152921504606846976) : (marks f_Starter l q).2 = q + (l.length : Int) * (4 : Nat) :=
  marks_flat (by decide) (fun v q h0 h1 => n_Starter v q h0 h1) l q h0 (by omega)

theorem held_StarterS (l : List (Ty.T TStarter)) (hl : l.length ≤ 1099511627776) (x) (h0 : x.1 = (marks f_Starter l x.2.1).1) : l_heldStarterS x = some ((marks f_Starter l x.2.1).2, ()) :=
  held_ok (g := l_heldStarterS) (B := b_l_heldStarterS_2) (fun _ _ => by kernel_rfl) l x.1 x.2.1 h0 (fun q => by simp only [b_l_heldStarterS_2, lt_n]) (fun q v i h hi _ => by
    have hl' : x.1.length ≤ 1099511627776 := by rw [h0, marks_length]; exact hl
    simp only [b_l_heldStarterS_2, lt_i h, next_i h hl', idx_nat h, onSome]
    rw [hi]
    simp [f_Starter])

theorem sz_Int64S (x) (h0 : 0 ≤ x.2.1) (h1 : x.2.1 ≤ 1048576) (h : x.1.length ≤ maxLen) : l_szInt64S x = some ((if x.2.1 - (x.1.length : Int) < 0 then (-1 : Int) else x.2.1 - (x.1.length : Int)), ()) :=
  sz_ok (g := l_szInt64S) (fun _ _ => by kernel_rfl) x.1 x.2.1 h0 h1 h

theorem to_Int64S (x) (hl : x.1.length ≤ 1099511627776) : l_toInt64S x = some (x.1, ()) :=
  toS_ok (g := l_toInt64S) (B := b_l_toInt64S_3) (z := ((0 : Int) : Ty.T (.int .i64))) (fun _ => by kernel_rfl) x.1 hl (fun s => by simp only [b_l_toInt64S_3, lt_n]) (fun s i h h' => by
    simp only [b_l_toInt64S_3, lt_i h, lt_n, next_i h hl, idx_nat h, onSome, idx_nat h', Int.toNat_natCast, List.getElem?_eq_getElem h'])

theorem to_State (x) : l_toState x = some (x.1, ()) := rfl

theorem eq_Int64S (x) (h : x.2.1 = x.1) (hl : x.1.length ≤ 1099511627776) : l_eqInt64S x = some (true, ()) := by
  obtain ⟨l, m, u⟩ := x
  obtain rfl : m = l := h
  have hl : m.length ≤ 1099511627776 := hl
  exact eqS_ok (g := l_eqInt64S) (B := b_l_eqInt64S_4) (fun _ => by kernel_rfl) m (by simp only [b_l_eqInt64S_4, lt_n]) (fun i h => by
    simp only [b_l_eqInt64S_4, lt_i h, lt_n, next_i h hl, idx_nat h, onSome]
    simp)

theorem eq_State (x) (h : x.2.1 = x.1) : l_eqState x = some (true, ()) := by
  unfold l_eqState
  rw [h]
  simp

def f_Int64 (_ : Ty.T (.int .i64)) (q : Int) : Ty.T (.int .i64) × Int := (q, (IntKind.i64.wrap (q + (1 : Int))))
theorem n_Int64 (v : Ty.T (.int .i64)) (q : Int) (h0 : 0 ≤ q) (h1 : q ≤ 2305843009213693952) : (f_Int64 v q).2 = q + (1 : Nat) := by
  simp only [f_Int64]
  repeat' first | omega | rw [next_w]
theorem mark_Int64S (x) (hl : x.1.length ≤ 1099511627776) : l_markInt64S x = some ((marks f_Int64 x.1 x.2.1).2, (marks f_Int64 x.1 x.2.1).1, ()) :=
  mark_ok (g := l_markInt64S) (B := b_l_markInt64S_2) (fun _ _ => by kernel_rfl) x.1 x.2.1 (fun s q hs => by simp only [b_l_markInt64S_2, ← hs, lt_n]) (fun s q i h h' hs _ => by
    have hl' : s.length ≤ 1099511627776 := hs ▸ hl
    have hs' : (s.length : Int) = x.1.length := by rw [hs]
    simp only [b_l_markInt64S_2, hs', lt_i h, next_i h hl, idx_nat h', onSome, Int.toNat_natCast, List.getElem?_eq_getElem h', List.length_set, idx, List.getElem?_set, List.set_set, List.getElem?_set_self, Int.natCast_nonneg, if_true, h', f_Int64])
theorem q_Int64S (l : List (Ty.T (.int .i64))) (hl : l.length ≤ 1099511627776) (q : Int) (h0 : 0 ≤ q) (h1 : q ≤ 1152921504606846976) : (marks f_Int64 l q).2 = q + (l.length : Int) * (1 : Nat) :=
  marks_flat (by decide) (fun v q h0 h1 => n_Int64 v q h0 h1) l q h0 (by omega)

theorem held_Int64S (l : List (Ty.T (.int .i64))) (hl : l.length ≤ 1099511627776) (x) (h0 : x.1 = (marks f_Int64 l x.2.1).1) : l_heldInt64S x = some ((marks f_Int64 l x.2.1).2, ()) :=
  held_ok (g := l_heldInt64S) (B := b_l_heldInt64S_2) (fun _ _ => by kernel_rfl) l x.1 x.2.1 h0 (fun q => by simp only [b_l_heldInt64S_2, lt_n]) (fun q v i h hi _ => by
    have hl' : x.1.length ≤ 1099511627776 := by rw [h0, marks_length]; exact hl
    simp only [b_l_heldInt64S_2, lt_i h, next_i h hl', idx_nat h, onSome]
    rw [hi]
    simp [f_Int64])

theorem index_Verdict (l : List (Ty.T TVerdict)) (hl : l.length ≤ 1099511627776) (p : (Ty.pair TVerdict .unit).T → Option (Ty.pair .bool .unit).T) (q : Ty.T TVerdict → Bool) (hq : ∀ i (h : i < l.length), p (l[i], ()) = some (q l[i], ())) :
    slices_IndexFunc_Verdict (l, p, ()) = some ((match firstI q 0 l with | none => (-1 : Int) | some i => (i : Int)), ()) := by
  have e := first_ok (B := b_slices_IndexFunc_Verdict_2) l (fun i => (l, p, (l.length : Int), (i : Int), ())) q (.inl ()) (fun i => .inr ((i : Int), ())) (by simp only [b_slices_IndexFunc_Verdict_2, lt_n]) (fun i h => by
    simp only [b_slices_IndexFunc_Verdict_2, lt_i h, next_i h hl, idx_nat h, onSome, hq i h]
    cases q l[i] <;> simp)
  have e0 : slices_IndexFunc_Verdict (l, p, ()) = match loopL b_slices_IndexFunc_Verdict_2 (l, p, (l.length : Int), ((0 : Nat) : Int), ()) with
    | none => none
    | some (.inl _) => some ((-1 : Int), ())
    | some (.inr v4) => some (v4.1, ()) := rfl
  rw [e0, e]
  cases firstI q 0 l <;> rfl

theorem contains_Verdict (l : List (Ty.T TVerdict)) (hl : l.length ≤ 1099511627776) (p : (Ty.pair TVerdict .unit).T → Option (Ty.pair .bool .unit).T) (q : Ty.T TVerdict → Bool) (hq : ∀ i (h : i < l.length), p (l[i], ()) = some (q l[i], ())) :
    slices_ContainsFunc_Verdict (l, p, ()) = some (l.any q, ()) := by
  have e0 : slices_ContainsFunc_Verdict (l, p, ()) = match slices_IndexFunc_Verdict (l, p, ()) with
    | none => none
    | some v1 => some ((decide (v1.1 ≥ (0 : Int))), ()) := rfl
  rw [e0, index_Verdict l hl p q hq, ← firstI_any q 0 l]
  cases firstI q 0 l <;> simp

end Go.Proofs.Ytmdflpfagbcaiaa
