/- Copies, comparisons, marks and searches; written by the program mkplain.py. -/
import Derived.Test.YtoppfeehgkpjkaaPB
import Derived.Test.YtoppfeehgkpjkaaGA
import Derived.Test.YtoppfeehgkpjkaaGB
namespace Go.Proofs.Ytoppfeehgkpjkaa
open Go.RowKit
set_option linter.unusedVariables false
set_option linter.unusedSimpArgs false

theorem to_Int64S (x) (hl : x.1.length ≤ 1099511627776) : l_toInt64S x = some (x.1, ()) :=
  toS_ok (g := l_toInt64S) (B := b_l_toInt64S_3) (z := ((0 : Int) : Ty.T (.int .i64))) (fun _ => by kernel_rfl) x.1 hl (fun s => by simp only [b_l_toInt64S_3, lt_n]) (fun s i h h' => by
    simp only [b_l_toInt64S_3, lt_i h, lt_n, next_i h hl, idx_nat h, onSome, idx_nat h', Int.toNat_natCast, List.getElem?_eq_getElem h'])

theorem eq_Int64S (x) (h : x.2.1 = x.1) (hl : x.1.length ≤ 1099511627776) : l_eqInt64S x = some (true, ()) := by
  obtain ⟨l, m, u⟩ := x
  obtain rfl : m = l := h
  have hl : m.length ≤ 1099511627776 := hl
  exact eqS_ok (g := l_eqInt64S) (B := b_l_eqInt64S_4) (fun _ => by kernel_rfl) m (by simp only [b_l_eqInt64S_4, lt_n]) (fun i h => by
    simp only [b_l_eqInt64S_4, lt_i h, lt_n, next_i h hl, idx_nat h, onSome]
    simp)

def f_Int64 (_ : Ty.T (.int .i64)) (q : Int) : Ty.T (.int .i64) × Int := (q, (IntKind.i64.wrap (q + (1 : Int))))
theorem n_Int64 (v : Ty.T (.int .i64)) (q : Int) (h0 : 0 ≤ q) (h1 : q ≤ 2305843009213693952) : (f_Int64 v q).2 = q + (1 : Nat) := by
  simp only [f_Int64]
  repeat' first | omega | rw [next_w]
theorem mark_Int64S (x) (hl : x.1.length ≤ 1099511627776) : l_markInt64S x = some ((marks f_Int64 x.1 x.2.1).2, (marks f_Int64 x.1 x.2.1).1, ()) :=
  mark_ok (g := l_markInt64S) (B := b_l_markInt64S_2) (fun _ _ => by kernel_rfl) x.1 x.2.1 (fun s q hs => by simp only [b_l_markInt64S_2, ← hs, lt_n]) (fun s q i h h' hs _ => by
    have hl' : s.length ≤ 1099511627776 := hs ▸ hl
    have hs' : (s.length : Int) = x.1.length := by rw [hs]
    simp only [b_l_markInt64S_2, hs', lt_i h, next_i h hl, idx_nat h', onSome, Int.toNat_natCast, List.getElem?_eq_getElem h', List.length_set, idx, List.getElem?_set, List.set_set, List.getElem?_set_self, Int.natCast_nonneg, if_true, h', f_Int64])
theorem q_Int64S (l : List (Ty.T (.int .i64))) (hl : l.length ≤ 1099511627776) (q : Int) (h0 : 0 ≤ q) (h1 : q ≤ 1152921504606846976) : (marks f_Int64 l q).2 = q + (l.length : Int) * (1 : Nat) :=
  marks_flat (by decide) (fun v q h0 h1 => n_Int64 v q h0 h1) l q h0 (by omega)

theorem held_Int64S (l : List (Ty.T (.int .i64))) (hl : l.length ≤ 1099511627776) (x) (h0 : x.1 = (marks f_Int64 l x.2.1).1) : l_heldInt64S x = some ((marks f_Int64 l x.2.1).2, ()) :=
  held_ok (g := l_heldInt64S) (B := b_l_heldInt64S_2) (fun _ _ => by kernel_rfl) l x.1 x.2.1 h0 (fun q => by simp only [b_l_heldInt64S_2, lt_n]) (fun q v i h hi _ => by
    have hl' : x.1.length ≤ 1099511627776 := by rw [h0, marks_length]; exact hl
    simp only [b_l_heldInt64S_2, lt_i h, next_i h hl', idx_nat h, onSome]
    rw [hi]
    simp [f_Int64])

end Go.Proofs.Ytoppfeehgkpjkaa
