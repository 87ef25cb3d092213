/- The functions of the claim, carried out. -/
import Derived.Test.YteldmddnmhmecaaTab
import Derived.Test.YteldmddnmhmecaaProg
import Derived.KernelRfl
namespace Go.Proofs.Yteldmddnmhmecaa
open Go.RowKit

abbrev I : Ty := .int .i64
def Gm : Tab := [(2, I), (3, I), (4, .bool)]
theorem tabG : tabB Try.prog Gm [] = true := by kernel_rfl

abbrev A3 : Ty := .pair I (.pair I (.pair I .unit))
abbrev A1 : Ty := .pair I .unit
abbrev RB : Ty := .pair .bool .unit
abbrev R2 : Ty := .pair I (.pair I .unit)
def g60 (x : A3.T) : Option RB.T := match decide (x.1 ≥ x.2.1) with | true => some (decide (x.1 ≤ x.2.2.1), ()) | false => some (false, ())
def s60 : Spec := ⟨A3, RB, g60, false, none⟩
theorem ok60 : FnOK Try.prog 60 s60 := fn_ok (Λ := lkp [] []) tabG (sig_ok (l := []) trivial) Try.func60 (by kernel_rfl) rfl [] rfl (by kernel_rfl) trivial
  fun x y h => (show execFn Gm [] (sig []) (lkp [] []) Try.f60 s60 x = g60 x by kernel_rfl).trans h
def s62 : Spec := ⟨A3, RB, g60, false, none⟩
theorem ok62 : FnOK Try.prog 62 s62 := fn_ok (Λ := lkp [] []) tabG (sig_ok (l := []) trivial) Try.func62 (by kernel_rfl) rfl [] rfl (by kernel_rfl) trivial
  fun x y h => (show execFn Gm [] (sig []) (lkp [] []) Try.f62 s62 x = g60 x by kernel_rfl).trans h
def g61 (x : A1.T) : Option A1.T := match decide (x.1 < 3) with | true => some (0, ()) | false => match decide (x.1 < 8) with | true => some (1, ()) | false => some (2, ())
def s61 : Spec := ⟨A1, A1, g61, false, none⟩
theorem ok61 : FnOK Try.prog 61 s61 := fn_ok (Λ := lkp [] []) tabG (sig_ok (l := []) trivial) Try.func61 (by kernel_rfl) rfl [] rfl (by kernel_rfl) trivial
  fun x y h => (show execFn Gm [] (sig []) (lkp [] []) Try.f61 s61 x = g61 x by kernel_rfl).trans h
def s63 : Spec := ⟨A1, A1, g61, false, none⟩
theorem ok63 : FnOK Try.prog 63 s63 := fn_ok (Λ := lkp [] []) tabG (sig_ok (l := []) trivial) Try.func63 (by kernel_rfl) rfl [] rfl (by kernel_rfl) trivial
  fun x y h => (show execFn Gm [] (sig []) (lkp [] []) Try.f63 s63 x = g61 x by kernel_rfl).trans h
def g18 (x : A1.T) : Option R2.T := match g60 (x.1, 1, 32, ()) with
  | none => none
  | some y => match !y.1 with
    | true => some (0, 3, ())
    | false => match g61 (x.1, ()) with
      | none => none
      | some z => some (z.1, 0, ())
def s18 : Spec := ⟨A1, R2, g18, false, none⟩
theorem ok18 : FnOK Try.prog 18 s18 := fn_ok (Λ := lkp [] []) tabG (sig_ok (l := [(60, s60), (61, s61)]) ⟨ok60, ok61, trivial⟩) Try.func18 (by kernel_rfl) rfl [] rfl (by kernel_rfl) trivial
  fun x y h => (show execFn Gm [] (sig [(60, s60), (61, s61)]) (lkp [] []) Try.f18 s18 x = g18 x by kernel_rfl).trans h
def s19 : Spec := ⟨A1, R2, g18, false, none⟩
theorem ok19 : FnOK Try.prog 19 s19 := fn_ok (Λ := lkp [] []) tabG (sig_ok (l := [(62, s62), (63, s63)]) ⟨ok62, ok63, trivial⟩) Try.func19 (by kernel_rfl) rfl [] rfl (by kernel_rfl) trivial
  fun x y h => (show execFn Gm [] (sig [(62, s62), (63, s63)]) (lkp [] []) Try.f19 s19 x = g18 x by kernel_rfl).trans h
def g4 (x : A1.T) : Option RB.T := match g18 (x.1, ()) with
  | none => none
  | some y => match g18 (x.1, ()) with
    | none => none
    | some z => match z.1 != y.1 with
      | true => some (false, ())
      | false => match z.2.1 != y.2.1 with
        | true => some (false, ())
        | false => some (true, ())
def s4 : Spec := ⟨A1, RB, g4, false, none⟩
theorem ok4 : FnOK Try.prog 4 s4 := fn_ok (Λ := lkp [] []) tabG (sig_ok (l := [(18, s18), (19, s19)]) ⟨ok18, ok19, trivial⟩) Try.func4 (by kernel_rfl) rfl [] rfl (by kernel_rfl) trivial
  fun x y h => (show execFn Gm [] (sig [(18, s18), (19, s19)]) (lkp [] []) Try.f4 s4 x = g4 x by kernel_rfl).trans h
theorem g18_some (x : A1.T) : ∃ y, g18 x = some y := by
  unfold g18
  cases h : g60 (x.1, 1, 32, ()) with
  | none => unfold g60 at h; split at h <;> cases h
  | some y =>
    simp only
    cases !y.1
    · cases h : g61 (x.1, ()) with
      | none => unfold g61 at h; split at h <;> try (cases h)
                split at h <;> cases h
      | some z => exact ⟨_, rfl⟩
    · exact ⟨_, rfl⟩
theorem g4_true (n : Int) : g4 (n, ()) = some (true, ()) := by
  unfold g4
  obtain ⟨y, hy⟩ := g18_some (n, ())
  simp only [hy]
  have h1 : (y.1 != y.1) = false := by simp
  have h2 : (y.2.1 != y.2.1) = false := by simp
  rw [h1]; simp only; rw [h2]
theorem says4 (a0 : Int) (w : World) : Calls Try.prog 4 #[.int .i64 a0] w fun e w' => e = .returned (.bool true) ∧ Below w.heap.size w w' :=
  FnOK.says (args := [.int .i64 a0]) (x := (a0, ())) (ok := noB) ok4 ⟨_, [], rfl, VA_int (μ := fun _ => undef).2 rfl, rfl⟩ (g4_true a0)
end Go.Proofs.Yteldmddnmhmecaa
