/- Copies, comparisons, marks and searches; written by the program mkplain.py. -/
import Derived.Test.YtmdflpfagbcaiaaDoorPB
import Derived.Test.YtmdflpfagbcaiaaDoorGA
namespace Go.Proofs.YtmdflpfagbcaiaaDoor
open Go.RowKit
set_option linter.unusedVariables false
set_option linter.unusedSimpArgs false

theorem sz_MarkS (x) (h0 : 0 ≤ x.2.1) (h1 : x.2.1 ≤ 1048576) (h : x.1.length ≤ maxLen) : l_szMarkS x = some ((if x.2.1 - (x.1.length : Int) < 0 then (-1 : Int) else x.2.1 - (x.1.length : Int)), ()) :=
  sz_ok (g := l_szMarkS) (fun _ _ => by kernel_rfl) x.1 x.2.1 h0 h1 h

theorem to_State (x) : l_toState x = some (x.1, ()) := rfl

theorem to_Mark (x) : l_toMark x = some (x.1, ()) := rfl

theorem to_MarkS (x) (hl : x.1.length ≤ 1099511627776) : l_toMarkS x = some (x.1, ()) :=
  toS_ok (g := l_toMarkS) (B := b_l_toMarkS_3) (z := ((((0 : Int), ((0 : Int), ((0 : Int), ((0 : Int), ((0 : Int), ()))))), ((0 : Int), ((0 : Int), ()))) : Ty.T TMark)) (fun _ => by kernel_rfl) x.1 hl (fun s => by simp only [b_l_toMarkS_3, lt_n]) (fun s i h h' => by
    simp only [b_l_toMarkS_3, lt_i h, lt_n, next_i h hl, idx_nat h, onSome, idx_nat h', to_Mark, Int.toNat_natCast, List.getElem?_eq_getElem h'])

theorem index_Mark (l : List (Ty.T TMark)) (hl : l.length ≤ 1099511627776) (p : (Ty.pair TMark .unit).T → Option (Ty.pair .bool .unit).T) (q : Ty.T TMark → Bool) (hq : ∀ i (h : i < l.length), p (l[i], ()) = some (q l[i], ())) :
    slices_IndexFunc_Mark (l, p, ()) = some ((match firstI q 0 l with | none => (-1 : Int) | some i => (i : Int)), ()) := by
  have e := first_ok (B := b_slices_IndexFunc_Mark_2) l (fun i => (l, p, (l.length : Int), (i : Int), ())) q (.inl ()) (fun i => .inr ((i : Int), ())) (by simp only [b_slices_IndexFunc_Mark_2, lt_n]) (fun i h => by
    simp only [b_slices_IndexFunc_Mark_2, lt_i h, next_i h hl, idx_nat h, onSome, hq i h]
    cases q l[i] <;> simp)
  have e0 : slices_IndexFunc_Mark (l, p, ()) = match loopL b_slices_IndexFunc_Mark_2 (l, p, (l.length : Int), ((0 : Nat) : Int), ()) with
    | none => none
    | some (.inl _) => some ((-1 : Int), ())
    | some (.inr v4) => some (v4.1, ()) := rfl
  rw [e0, e]
  cases firstI q 0 l <;> rfl

theorem contains_Mark (l : List (Ty.T TMark)) (hl : l.length ≤ 1099511627776) (p : (Ty.pair TMark .unit).T → Option (Ty.pair .bool .unit).T) (q : Ty.T TMark → Bool) (hq : ∀ i (h : i < l.length), p (l[i], ()) = some (q l[i], ())) :
    slices_ContainsFunc_Mark (l, p, ()) = some (l.any q, ()) := by
  have e0 : slices_ContainsFunc_Mark (l, p, ()) = match slices_IndexFunc_Mark (l, p, ()) with
    | none => none
    | some v1 => some ((decide (v1.1 ≥ (0 : Int))), ()) := rfl
  rw [e0, index_Mark l hl p q hq, ← firstI_any q 0 l]
  cases firstI q 0 l <;> simp

theorem eq_State (x) (h : x.2.1 = x.1) : l_eqState x = some (true, ()) := by
  unfold l_eqState
  rw [h]
  simp

theorem eq_Mark (x) (h : x.2.1 = x.1) : l_eqMark x = some (true, ()) := by
  unfold l_eqMark
  rw [h]
  simp [eq_State]

theorem eq_MarkS (x) (h : x.2.1 = x.1) (hl : x.1.length ≤ 1099511627776) : l_eqMarkS x = some (true, ()) := by
  obtain ⟨l, m, u⟩ := x
  obtain rfl : m = l := h
  have hl : m.length ≤ 1099511627776 := hl
  exact eqS_ok (g := l_eqMarkS) (B := b_l_eqMarkS_4) (fun _ => by kernel_rfl) m (by simp only [b_l_eqMarkS_4, lt_n]) (fun i h => by
    simp only [b_l_eqMarkS_4, lt_i h, lt_n, next_i h hl, idx_nat h, onSome]
    rw [eq_Mark _ rfl]
    simp)

end Go.Proofs.YtmdflpfagbcaiaaDoor
