/- Copies, comparisons, marks and searches; written by the program mkplain.py. -/
import Derived.Test.YtdbgmpnibjnocaaDoorPB
import Derived.Test.YtdbgmpnibjnocaaDoorGA
namespace Go.Proofs.YtdbgmpnibjnocaaDoor
open Go.RowKit
set_option linter.unusedVariables false
set_option linter.unusedSimpArgs false

theorem index_Mark (l : List (Ty.T TMark)) (hl : l.length ≤ 1099511627776) (p : (Ty.pair TMark .unit).T → Option (Ty.pair .bool .unit).T) (q : Ty.T TMark → Bool) (hq : ∀ i (h : i < l.length), p (l[i], ()) = some (q l[i], ())) :
    slices_IndexFunc_Mark (l, p, ()) = some ((match firstI q 0 l with | none => (-1 : Int) | some i => (i : Int)), ()) := by
  have e := first_ok (B := b_slices_IndexFunc_Mark_2) l (fun i => (l, p, (l.length : Int), (i : Int), ())) q (.inl ()) (fun i => .inr ((i : Int), ())) (by simp only [b_slices_IndexFunc_Mark_2, lt_n]) (fun i h => by
    simp only [b_slices_IndexFunc_Mark_2, lt_i h, next_i h hl, idx_nat h, onSome, hq i h]
    cases q l[i] <;> simp)
  have e0 : slices_IndexFunc_Mark (l, p, ()) = match loopL b_slices_IndexFunc_Mark_2 (l, p, (l.length : Int), ((0 : Nat) : Int), ()) with
    | none => none
    | some (.inl _) => some ((-1 : Int), ())
    | some (.inr v4) => some (v4.1, ()) := rfl
  rw [e0, e]
  cases firstI q 0 l <;> rfl

theorem contains_Mark (l : List (Ty.T TMark)) (hl : l.length ≤ 1099511627776) (p : (Ty.pair TMark .unit).T → Option (Ty.pair .bool .unit).T) (q : Ty.T TMark → Bool) (hq : ∀ i (h : i < l.length), p (l[i], ()) = some (q l[i], ())) :
    slices_ContainsFunc_Mark (l, p, ()) = some (l.any q, ()) := by
  have e0 : slices_ContainsFunc_Mark (l, p, ()) = match slices_IndexFunc_Mark (l, p, ()) with
    | none => none
    | some v1 => some ((decide (v1.1 ≥ (0 : Int))), ()) := rfl
  rw [e0, index_Mark l hl p q hq, ← firstI_any q 0 l]
  cases firstI q 0 l <;> simp

theorem eq_State (x) (h : x.2.1 = x.1) : l_eqState x = some (true, ()) := by
  unfold l_eqState
  rw [h]
  simp

theorem eq_Mark (x) (h : x.2.1 = x.1) : l_eqMark x = some (true, ()) := by
  unfold l_eqMark
  rw [h]
  simp [eq_State]

theorem eq_MarkS (x) (h : x.2.1 = x.1) (hl : x.1.length ≤ 1099511627776) : l_eqMarkS x = some (true, ()) := by
  obtain ⟨l, m, u⟩ := x
  obtain rfl : m = l := h
  have hl : m.length ≤ 1099511627776 := hl
  exact eqS_ok (g := l_eqMarkS) (B := b_l_eqMarkS_4) (fun _ => by kernel_rfl) m (by simp only [b_l_eqMarkS_4, lt_n]) (fun i h => by
    simp only [b_l_eqMarkS_4, lt_i h, lt_n, next_i h hl, idx_nat h, onSome]
    rw [eq_Mark _ rfl]
    simp)

def f_Mark (_ : Ty.T TMark) (q : Int) : Ty.T TMark × Int := (((q, ((IntKind.i64.wrap (q + (1 : Int))), ((IntKind.i64.wrap ((IntKind.i64.wrap (q + (1 : Int))) + (1 : Int))), ((IntKind.i64.wrap ((IntKind.i64.wrap ((IntKind.i64.wrap (q + (1 : Int))) + (1 : Int))) + (1 : Int))), ((IntKind.i64.wrap ((IntKind.i64.wrap ((IntKind.i64.wrap ((IntKind.i64.wrap (q + (1 : Int))) + (1 : Int))) + (1 : Int))) + (1 : Int))), ()))))), ((IntKind.i64.wrap ((IntKind.i64.wrap ((IntKind.i64.wrap ((IntKind.i64.wrap ((IntKind.i64.wrap (q + (1 : Int))) + (1 : Int))) + (1 : Int))) + (1 : Int))) + (1 : Int))), ((IntKind.i64.wrap ((IntKind.i64.wrap ((IntKind.i64.wrap ((IntKind.i64.wrap ((IntKind.i64.wrap ((IntKind.i64.wrap (q + (1 : Int))) + (1 : Int))) + (1 : Int))) + (1 : Int))) + (1 : Int))) + (1 : Int))), ()))), (IntKind.i64.wrap ((IntKind.i64.wrap ((IntKind.i64.wrap ((IntKind.i64.wrap ((IntKind.i64.wrap ((IntKind.i64.wrap ((IntKind.i64.wrap (q + (1 : Int))) + (1 : Int))) + (1 : Int))) + (1 : Int))) + (1 : Int))) + (1 : Int))) + (1 : Int))))
theorem n_Mark (v : Ty.T TMark) (q : Int) (h0 : 0 ≤ q) (h1 : q ≤ 2305843009213693952) : (f_Mark v q).2 = q + (7 : Nat) := by
  simp only [f_Mark]
  repeat' first | omega | rw [next_w]
theorem mark_MarkS (x) (hl : x.1.length ≤ 1099511627776) : l_markMarkS x = some ((marks f_Mark x.1 x.2.1).2, (marks f_Mark x.1 x.2.1).1, ()) :=
  mark_ok (g := l_markMarkS) (B := b_l_markMarkS_2) (fun _ _ => by kernel_rfl) x.1 x.2.1 (fun s q hs => by simp only [b_l_markMarkS_2, ← hs, lt_n]) (fun s q i h h' hs _ => by
    have hl' : s.length ≤ 1099511627776 := hs ▸ hl
    have hs' : (s.length : Int) = x.1.length := by rw [hs]
    simp only [b_l_markMarkS_2, hs', lt_i h, next_i h hl, idx_nat h', onSome, Int.toNat_natCast, List.getElem?_eq_getElem h', List.length_set, idx, List.getElem?_set, List.set_set, List.getElem?_set_self, Int.natCast_nonneg, if_true, h', f_Mark])
theorem q_MarkS (l : List (Ty.T TMark)) (hl : l.length ≤ 1099511627776) (q : Int) (h0 : 0 ≤ q) (h1 : q ≤ 1152921504606846976) : (marks f_Mark l q).2 = q + (l.length : Int) * (7 : Nat) :=
  marks_flat (by decide) (fun v q h0 h1 => n_Mark v q h0 h1) l q h0 (by omega)

theorem held_MarkS (l : List (Ty.T TMark)) (hl : l.length ≤ 1099511627776) (x) (h0 : x.1 = (marks f_Mark l x.2.1).1) : l_heldMarkS x = some ((marks f_Mark l x.2.1).2, ()) :=
  held_ok (g := l_heldMarkS) (B := b_l_heldMarkS_2) (fun _ _ => by kernel_rfl) l x.1 x.2.1 h0 (fun q => by simp only [b_l_heldMarkS_2, lt_n]) (fun q v i h hi _ => by
    have hl' : x.1.length ≤ 1099511627776 := by rw [h0, marks_length]; exact hl
    simp only [b_l_heldMarkS_2, lt_i h, next_i h hl', idx_nat h, onSome]
    rw [hi]
    simp [f_Mark])

end Go.Proofs.YtdbgmpnibjnocaaDoor
