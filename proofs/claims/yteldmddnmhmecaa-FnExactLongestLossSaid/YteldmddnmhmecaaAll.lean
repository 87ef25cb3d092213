/- What the functions of the claim do, on data; written by the program gen.py. -/
import Derived.Test.YteldmddnmhmecaaLoop
import Derived.Test.YteldmddnmhmecaaProg
import Derived.KernelRfl
namespace Go.Proofs.Yteldmddnmhmecaa
open Go.RowKit
set_option linter.unusedVariables false

def bodyOf (f : Func) : Code := match f.body with | some c => c | none => .skip
def nthLoop (f : Func) (i : Nat) : Code := (loopList (bodyOf f)).getD i .skip
def Γ0 : Tab := [(2, (.int .i64)), (4, .bool), (23, (.pair (.int .i64) (.pair (.int .i64) (.pair (.int .i64) (.pair (.int .i64) (.pair (.int .i64) .unit)))))), (26, (.pair (.int .i64) (.pair (.int .i64) (.pair (.int .i64) (.pair (.int .i64) (.pair (.int .i64) .unit)))))), (32, (.pair (.pair (.int .i64) (.pair (.int .i64) (.pair (.int .i64) (.pair (.int .i64) (.pair (.int .i64) .unit))))) (.pair (.int .i64) (.pair (.int .i64) .unit)))), (35, (.pair (.pair (.int .i64) (.pair (.int .i64) (.pair (.int .i64) (.pair (.int .i64) (.pair (.int .i64) .unit))))) (.pair (.int .i64) (.pair (.int .i64) .unit)))), (38, (.list (.int .i64))), (43, (.list (.pair (.int .i64) (.pair (.int .i64) (.pair (.int .i64) (.pair (.int .i64) .unit)))))), (46, (.list (.pair (.int .i64) (.pair (.int .i64) (.pair (.int .i64) (.pair (.int .i64) .unit)))))), (50, (.list (.pair (.pair (.int .i64) (.pair (.int .i64) (.pair (.int .i64) (.pair (.int .i64) (.pair (.int .i64) .unit))))) (.pair (.int .i64) (.pair (.int .i64) .unit))))), (53, (.list (.pair (.pair (.int .i64) (.pair (.int .i64) (.pair (.int .i64) (.pair (.int .i64) (.pair (.int .i64) .unit))))) (.pair (.int .i64) (.pair (.int .i64) .unit))))), (57, (.list (.pair (.int .i64) (.pair (.int .i64) (.pair (.list (.pair (.int .i64) (.pair (.int .i64) (.pair (.int .i64) (.pair (.int .i64) .unit))))) (.pair (.list (.pair (.int .i64) (.pair (.int .i64) (.pair (.int .i64) (.pair (.int .i64) .unit))))) .unit)))))), (68, (.list (.pair (.int .i64) (.pair (.int .i64) (.pair (.int .i64) (.pair (.int .i64) .unit)))))), (70, (.pair (.int .i64) (.pair (.int .i64) (.pair (.list (.pair (.int .i64) (.pair (.int .i64) (.pair (.int .i64) (.pair (.int .i64) .unit))))) (.pair (.list (.pair (.int .i64) (.pair (.int .i64) (.pair (.int .i64) (.pair (.int .i64) .unit))))) .unit))))), (73, (.list (.pair (.int .i64) (.pair (.int .i64) (.pair (.int .i64) (.pair (.int .i64) .unit)))))), (75, (.pair (.int .i64) (.pair (.int .i64) (.pair (.list (.pair (.int .i64) (.pair (.int .i64) (.pair (.int .i64) (.pair (.int .i64) .unit))))) (.pair (.list (.pair (.int .i64) (.pair (.int .i64) (.pair (.int .i64) (.pair (.int .i64) .unit))))) .unit))))), (87, (.pair (.int .i64) (.pair (.int .i64) (.pair (.int .i64) (.pair (.int .i64) .unit))))), (89, (.pair (.int .i64) (.pair (.int .i64) (.pair (.int .i64) (.pair (.int .i64) .unit))))), (109, (.pair (.int .i64) (.pair (.int .i64) (.pair (.int .i64) (.pair (.int .i64) .unit))))), (113, (.pair (.int .i64) (.pair (.int .i64) (.pair (.int .i64) (.pair (.int .i64) .unit)))))]
def E0 : Elems := [(38, 2), (43, 89), (46, 87), (50, 32), (53, 35), (57, 75), (68, 113), (73, 109)]
theorem tab0 : tabB Try.prog Γ0 E0 = true := by kernel_rfl

noncomputable def g60 (x : Ty.T (.pair (.int .i64) (.pair (.int .i64) (.pair (.int .i64) .unit)))) : Option (Ty.T (.pair .bool .unit)) :=
match (decide (x.1 ≥ x.2.1)) with
| true =>
  some ((decide (x.1 ≤ x.2.2.1)), ())
| false =>
  some (false, ())
noncomputable def s60 : Spec := ⟨(.pair (.int .i64) (.pair (.int .i64) (.pair (.int .i64) .unit))), (.pair .bool .unit), g60, false, none⟩
noncomputable def σ60 : FuncId → Option Spec := sig []
theorem σok60 : ∀ f s, σ60 f = some s → FnOK Try.prog f s := sig_ok (l := []) trivial
noncomputable def Λ60 : Nat → Option LSpec := lkp (loopList (bodyOf Try.f60)) []
theorem ok60 : FnOK Try.prog 60 s60 := fn_ok (Λ := Λ60) tab0 σok60 Try.func60 (by kernel_rfl) (show Try.f60.body = some (bodyOf Try.f60) by kernel_rfl) [] rfl (by kernel_rfl) (by exact trivial)
  fun x y h => (show execFn Γ0 E0 σ60 Λ60 Try.f60 s60 x = g60 x by kernel_rfl).trans h

noncomputable def g58 (x : Ty.T (.pair (.pair (.int .i64) (.pair (.int .i64) (.pair (.int .i64) (.pair (.int .i64) (.pair (.int .i64) .unit))))) .unit)) : Option (Ty.T (.pair .bool .unit)) :=
match g60 (x.1.1, (0 : Int), (65535 : Int), ()) with
| none => none
| some v1 =>
match v1.1 with
| true =>
  match g60 (x.1.2.1, (0 : Int), (15 : Int), ()) with
  | none => none
  | some v2 =>
  match v2.1 with
  | true =>
    match g60 (x.1.2.2.1, (0 : Int), (15 : Int), ()) with
    | none => none
    | some v3 =>
    match v3.1 with
    | true =>
      match g60 (x.1.2.2.2.1, (0 : Int), (255 : Int), ()) with
      | none => none
      | some v4 =>
      match v4.1 with
      | true =>
        match g60 (x.1.2.2.2.2.1, (0 : Int), (4294967295 : Int), ()) with
        | none => none
        | some v5 =>
        some (v5.1, ())
      | false =>
        some (false, ())
    | false =>
      some (false, ())
  | false =>
    some (false, ())
| false =>
  some (false, ())
noncomputable def s58 : Spec := ⟨(.pair (.pair (.int .i64) (.pair (.int .i64) (.pair (.int .i64) (.pair (.int .i64) (.pair (.int .i64) .unit))))) .unit), (.pair .bool .unit), g58, false, none⟩
noncomputable def σ58 : FuncId → Option Spec := sig [(60, s60)]
theorem σok58 : ∀ f s, σ58 f = some s → FnOK Try.prog f s := sig_ok (l := [(60, s60)]) ⟨ok60, trivial⟩
noncomputable def Λ58 : Nat → Option LSpec := lkp (loopList (bodyOf Try.f58)) []
theorem ok58 : FnOK Try.prog 58 s58 := fn_ok (Λ := Λ58) tab0 σok58 Try.func58 (by kernel_rfl) (show Try.f58.body = some (bodyOf Try.f58) by kernel_rfl) [] rfl (by kernel_rfl) (by exact trivial)
  fun x y h => (show execFn Γ0 E0 σ58 Λ58 Try.f58 s58 x = g58 x by kernel_rfl).trans h

noncomputable def g15 (x : Ty.T (.pair (.pair (.int .i64) (.pair (.int .i64) (.pair (.int .i64) (.pair (.int .i64) (.pair (.int .i64) .unit))))) (.pair (.pair (.int .i64) (.pair (.int .i64) (.pair (.int .i64) (.pair (.int .i64) (.pair (.int .i64) .unit))))) .unit))) : Option (Ty.T (.pair (.int .i64) (.pair (.int .i64) .unit))) :=
match g58 ((x.1.1, x.1.2.1, x.1.2.2.1, x.1.2.2.2.1, x.1.2.2.2.2.1, ()), ()) with
| none => none
| some v1 =>
match (!v1.1) with
| true =>
  some ((0 : Int), (1 : Int), ())
| false =>
  match g58 ((x.2.1.1, x.2.1.2.1, x.2.1.2.2.1, x.2.1.2.2.2.1, x.2.1.2.2.2.2.1, ()), ()) with
  | none => none
  | some v2 =>
  match (!v2.1) with
  | true =>
    some ((0 : Int), (1 : Int), ())
  | false =>
    some ((bits BinOp.andNot .i64 x.1.2.2.2.2.1 x.2.1.2.2.2.2.1), (0 : Int), ())
noncomputable def s15 : Spec := ⟨(.pair (.pair (.int .i64) (.pair (.int .i64) (.pair (.int .i64) (.pair (.int .i64) (.pair (.int .i64) .unit))))) (.pair (.pair (.int .i64) (.pair (.int .i64) (.pair (.int .i64) (.pair (.int .i64) (.pair (.int .i64) .unit))))) .unit)), (.pair (.int .i64) (.pair (.int .i64) .unit)), g15, false, none⟩
noncomputable def σ15 : FuncId → Option Spec := sig [(58, s58)]
theorem σok15 : ∀ f s, σ15 f = some s → FnOK Try.prog f s := sig_ok (l := [(58, s58)]) ⟨ok58, trivial⟩
noncomputable def Λ15 : Nat → Option LSpec := lkp (loopList (bodyOf Try.f15)) []
theorem ok15 : FnOK Try.prog 15 s15 := fn_ok (Λ := Λ15) tab0 σok15 Try.func15 (by kernel_rfl) (show Try.f15.body = some (bodyOf Try.f15) by kernel_rfl) [] rfl (by kernel_rfl) (by exact trivial)
  fun x y h => (show execFn Γ0 E0 σ15 Λ15 Try.f15 s15 x = g15 x by kernel_rfl).trans h

noncomputable def g16 (x : Ty.T (.pair (.pair (.int .i64) (.pair (.int .i64) (.pair (.int .i64) (.pair (.int .i64) (.pair (.int .i64) .unit))))) .unit)) : Option (Ty.T (.pair (.pair (.int .i64) (.pair (.int .i64) (.pair (.int .i64) (.pair (.int .i64) (.pair (.int .i64) .unit))))) .unit)) :=
some ((x.1.1, x.1.2.1, x.1.2.2.1, x.1.2.2.2.1, x.1.2.2.2.2.1, ()), ())
noncomputable def s16 : Spec := ⟨(.pair (.pair (.int .i64) (.pair (.int .i64) (.pair (.int .i64) (.pair (.int .i64) (.pair (.int .i64) .unit))))) .unit), (.pair (.pair (.int .i64) (.pair (.int .i64) (.pair (.int .i64) (.pair (.int .i64) (.pair (.int .i64) .unit))))) .unit), g16, false, none⟩
noncomputable def σ16 : FuncId → Option Spec := sig []
theorem σok16 : ∀ f s, σ16 f = some s → FnOK Try.prog f s := sig_ok (l := []) trivial
noncomputable def Λ16 : Nat → Option LSpec := lkp (loopList (bodyOf Try.f16)) []
theorem ok16 : FnOK Try.prog 16 s16 := fn_ok (Λ := Λ16) tab0 σok16 Try.func16 (by kernel_rfl) (show Try.f16.body = some (bodyOf Try.f16) by kernel_rfl) [] rfl (by kernel_rfl) (by exact trivial)
  fun x y h => (show execFn Γ0 E0 σ16 Λ16 Try.f16 s16 x = g16 x by kernel_rfl).trans h

noncomputable def g62 (x : Ty.T (.pair (.int .i64) (.pair (.int .i64) (.pair (.int .i64) .unit)))) : Option (Ty.T (.pair .bool .unit)) :=
match (decide (x.1 ≥ x.2.1)) with
| true =>
  some ((decide (x.1 ≤ x.2.2.1)), ())
| false =>
  some (false, ())
noncomputable def s62 : Spec := ⟨(.pair (.int .i64) (.pair (.int .i64) (.pair (.int .i64) .unit))), (.pair .bool .unit), g62, false, none⟩
noncomputable def σ62 : FuncId → Option Spec := sig []
theorem σok62 : ∀ f s, σ62 f = some s → FnOK Try.prog f s := sig_ok (l := []) trivial
noncomputable def Λ62 : Nat → Option LSpec := lkp (loopList (bodyOf Try.f62)) []
theorem ok62 : FnOK Try.prog 62 s62 := fn_ok (Λ := Λ62) tab0 σok62 Try.func62 (by kernel_rfl) (show Try.f62.body = some (bodyOf Try.f62) by kernel_rfl) [] rfl (by kernel_rfl) (by exact trivial)
  fun x y h => (show execFn Γ0 E0 σ62 Λ62 Try.f62 s62 x = g62 x by kernel_rfl).trans h

noncomputable def g93 (x : Ty.T (.pair (.int .i64) .unit)) : Option (Ty.T (.pair .bool .unit)) :=
match g62 (x.1, (0 : Int), (4294967295 : Int), ()) with
| none => none
| some v1 =>
some (v1.1, ())
noncomputable def s93 : Spec := ⟨(.pair (.int .i64) .unit), (.pair .bool .unit), g93, false, none⟩
noncomputable def σ93 : FuncId → Option Spec := sig [(62, s62)]
theorem σok93 : ∀ f s, σ93 f = some s → FnOK Try.prog f s := sig_ok (l := [(62, s62)]) ⟨ok62, trivial⟩
noncomputable def Λ93 : Nat → Option LSpec := lkp (loopList (bodyOf Try.f93)) []
theorem ok93 : FnOK Try.prog 93 s93 := fn_ok (Λ := Λ93) tab0 σok93 Try.func93 (by kernel_rfl) (show Try.f93.body = some (bodyOf Try.f93) by kernel_rfl) [] rfl (by kernel_rfl) (by exact trivial)
  fun x y h => (show execFn Γ0 E0 σ93 Λ93 Try.f93 s93 x = g93 x by kernel_rfl).trans h

noncomputable def g59 (x : Ty.T (.pair (.pair (.int .i64) (.pair (.int .i64) (.pair (.int .i64) (.pair (.int .i64) (.pair (.int .i64) .unit))))) .unit)) : Option (Ty.T (.pair .bool .unit)) :=
match g62 (x.1.1, (0 : Int), (65535 : Int), ()) with
| none => none
| some v1 =>
match v1.1 with
| true =>
  match g62 (x.1.2.1, (0 : Int), (15 : Int), ()) with
  | none => none
  | some v2 =>
  match v2.1 with
  | true =>
    match g62 (x.1.2.2.1, (0 : Int), (15 : Int), ()) with
    | none => none
    | some v3 =>
    match v3.1 with
    | true =>
      match g62 (x.1.2.2.2.1, (0 : Int), (255 : Int), ()) with
      | none => none
      | some v4 =>
      match v4.1 with
      | true =>
        match g93 (x.1.2.2.2.2.1, ()) with
        | none => none
        | some v5 =>
        some (v5.1, ())
      | false =>
        some (false, ())
    | false =>
      some (false, ())
  | false =>
    some (false, ())
| false =>
  some (false, ())
noncomputable def s59 : Spec := ⟨(.pair (.pair (.int .i64) (.pair (.int .i64) (.pair (.int .i64) (.pair (.int .i64) (.pair (.int .i64) .unit))))) .unit), (.pair .bool .unit), g59, false, none⟩
noncomputable def σ59 : FuncId → Option Spec := sig [(62, s62), (93, s93)]
theorem σok59 : ∀ f s, σ59 f = some s → FnOK Try.prog f s := sig_ok (l := [(62, s62), (93, s93)]) ⟨ok62, ok93, trivial⟩
noncomputable def Λ59 : Nat → Option LSpec := lkp (loopList (bodyOf Try.f59)) []
theorem ok59 : FnOK Try.prog 59 s59 := fn_ok (Λ := Λ59) tab0 σok59 Try.func59 (by kernel_rfl) (show Try.f59.body = some (bodyOf Try.f59) by kernel_rfl) [] rfl (by kernel_rfl) (by exact trivial)
  fun x y h => (show execFn Γ0 E0 σ59 Λ59 Try.f59 s59 x = g59 x by kernel_rfl).trans h

noncomputable def g17 (x : Ty.T (.pair (.pair (.int .i64) (.pair (.int .i64) (.pair (.int .i64) (.pair (.int .i64) (.pair (.int .i64) .unit))))) (.pair (.pair (.int .i64) (.pair (.int .i64) (.pair (.int .i64) (.pair (.int .i64) (.pair (.int .i64) .unit))))) .unit))) : Option (Ty.T (.pair (.int .i64) (.pair (.int .i64) .unit))) :=
match g59 ((x.1.1, x.1.2.1, x.1.2.2.1, x.1.2.2.2.1, x.1.2.2.2.2.1, ()), ()) with
| none => none
| some v1 =>
match (!v1.1) with
| true =>
  some ((0 : Int), (1 : Int), ())
| false =>
  match g59 ((x.2.1.1, x.2.1.2.1, x.2.1.2.2.1, x.2.1.2.2.2.1, x.2.1.2.2.2.2.1, ()), ()) with
  | none => none
  | some v2 =>
  match (!v2.1) with
  | true =>
    some ((0 : Int), (1 : Int), ())
  | false =>
    some ((bits BinOp.andNot .i64 x.1.2.2.2.2.1 x.2.1.2.2.2.2.1), (0 : Int), ())
noncomputable def s17 : Spec := ⟨(.pair (.pair (.int .i64) (.pair (.int .i64) (.pair (.int .i64) (.pair (.int .i64) (.pair (.int .i64) .unit))))) (.pair (.pair (.int .i64) (.pair (.int .i64) (.pair (.int .i64) (.pair (.int .i64) (.pair (.int .i64) .unit))))) .unit)), (.pair (.int .i64) (.pair (.int .i64) .unit)), g17, false, none⟩
noncomputable def σ17 : FuncId → Option Spec := sig [(59, s59)]
theorem σok17 : ∀ f s, σ17 f = some s → FnOK Try.prog f s := sig_ok (l := [(59, s59)]) ⟨ok59, trivial⟩
noncomputable def Λ17 : Nat → Option LSpec := lkp (loopList (bodyOf Try.f17)) []
theorem ok17 : FnOK Try.prog 17 s17 := fn_ok (Λ := Λ17) tab0 σok17 Try.func17 (by kernel_rfl) (show Try.f17.body = some (bodyOf Try.f17) by kernel_rfl) [] rfl (by kernel_rfl) (by exact trivial)
  fun x y h => (show execFn Γ0 E0 σ17 Λ17 Try.f17 s17 x = g17 x by kernel_rfl).trans h

noncomputable def g3 (x : Ty.T (.pair (.pair (.int .i64) (.pair (.int .i64) (.pair (.int .i64) (.pair (.int .i64) (.pair (.int .i64) .unit))))) (.pair (.pair (.int .i64) (.pair (.int .i64) (.pair (.int .i64) (.pair (.int .i64) (.pair (.int .i64) .unit))))) .unit))) : Option (Ty.T (.pair .bool .unit)) :=
match g16 ((x.1.1, x.1.2.1, x.1.2.2.1, x.1.2.2.2.1, x.1.2.2.2.2.1, ()), ()) with
| none => none
| some v1 =>
match g16 ((x.2.1.1, x.2.1.2.1, x.2.1.2.2.1, x.2.1.2.2.2.1, x.2.1.2.2.2.2.1, ()), ()) with
| none => none
| some v2 =>
match g15 (v1.1, v2.1, ()) with
| none => none
| some v3 =>
match g16 ((x.1.1, x.1.2.1, x.1.2.2.1, x.1.2.2.2.1, x.1.2.2.2.2.1, ()), ()) with
| none => none
| some v4 =>
match g16 ((x.2.1.1, x.2.1.2.1, x.2.1.2.2.1, x.2.1.2.2.2.1, x.2.1.2.2.2.2.1, ()), ()) with
| none => none
| some v5 =>
match g17 (v4.1, v5.1, ()) with
| none => none
| some v6 =>
match (v6.1 != v3.1) with
| true =>
  some (false, ())
| false =>
  match (v6.2.1 != v3.2.1) with
  | true =>
    some (false, ())
  | false =>
    some (true, ())
noncomputable def s3 : Spec := ⟨(.pair (.pair (.int .i64) (.pair (.int .i64) (.pair (.int .i64) (.pair (.int .i64) (.pair (.int .i64) .unit))))) (.pair (.pair (.int .i64) (.pair (.int .i64) (.pair (.int .i64) (.pair (.int .i64) (.pair (.int .i64) .unit))))) .unit)), (.pair .bool .unit), g3, false, none⟩
noncomputable def σ3 : FuncId → Option Spec := sig [(15, s15), (16, s16), (17, s17)]
theorem σok3 : ∀ f s, σ3 f = some s → FnOK Try.prog f s := sig_ok (l := [(15, s15), (16, s16), (17, s17)]) ⟨ok15, ok16, ok17, trivial⟩
noncomputable def Λ3 : Nat → Option LSpec := lkp (loopList (bodyOf Try.f3)) []
theorem ok3 : FnOK Try.prog 3 s3 := fn_ok (Λ := Λ3) tab0 σok3 Try.func3 (by kernel_rfl) (show Try.f3.body = some (bodyOf Try.f3) by kernel_rfl) [] rfl (by kernel_rfl) (by exact trivial)
  fun x y h => (show execFn Γ0 E0 σ3 Λ3 Try.f3 s3 x = g3 x by kernel_rfl).trans h

noncomputable def g61 (x : Ty.T (.pair (.int .i64) .unit)) : Option (Ty.T (.pair (.int .i64) .unit)) :=
match (decide (x.1 < (3 : Int))) with
| true =>
  some ((0 : Int), ())
| false =>
  match (decide (x.1 < (8 : Int))) with
  | true =>
    some ((1 : Int), ())
  | false =>
    some ((2 : Int), ())
noncomputable def s61 : Spec := ⟨(.pair (.int .i64) .unit), (.pair (.int .i64) .unit), g61, false, none⟩
noncomputable def σ61 : FuncId → Option Spec := sig []
theorem σok61 : ∀ f s, σ61 f = some s → FnOK Try.prog f s := sig_ok (l := []) trivial
noncomputable def Λ61 : Nat → Option LSpec := lkp (loopList (bodyOf Try.f61)) []
theorem ok61 : FnOK Try.prog 61 s61 := fn_ok (Λ := Λ61) tab0 σok61 Try.func61 (by kernel_rfl) (show Try.f61.body = some (bodyOf Try.f61) by kernel_rfl) [] rfl (by kernel_rfl) (by exact trivial)
  fun x y h => (show execFn Γ0 E0 σ61 Λ61 Try.f61 s61 x = g61 x by kernel_rfl).trans h

noncomputable def g18 (x : Ty.T (.pair (.int .i64) .unit)) : Option (Ty.T (.pair (.int .i64) (.pair (.int .i64) .unit))) :=
match g60 (x.1, (1 : Int), (32 : Int), ()) with
| none => none
| some v1 =>
match (!v1.1) with
| true =>
  some ((0 : Int), (3 : Int), ())
| false =>
  match g61 (x.1, ()) with
  | none => none
  | some v2 =>
  some (v2.1, (0 : Int), ())
noncomputable def s18 : Spec := ⟨(.pair (.int .i64) .unit), (.pair (.int .i64) (.pair (.int .i64) .unit)), g18, false, none⟩
noncomputable def σ18 : FuncId → Option Spec := sig [(60, s60), (61, s61)]
theorem σok18 : ∀ f s, σ18 f = some s → FnOK Try.prog f s := sig_ok (l := [(60, s60), (61, s61)]) ⟨ok60, ok61, trivial⟩
noncomputable def Λ18 : Nat → Option LSpec := lkp (loopList (bodyOf Try.f18)) []
theorem ok18 : FnOK Try.prog 18 s18 := fn_ok (Λ := Λ18) tab0 σok18 Try.func18 (by kernel_rfl) (show Try.f18.body = some (bodyOf Try.f18) by kernel_rfl) [] rfl (by kernel_rfl) (by exact trivial)
  fun x y h => (show execFn Γ0 E0 σ18 Λ18 Try.f18 s18 x = g18 x by kernel_rfl).trans h

noncomputable def g63 (x : Ty.T (.pair (.int .i64) .unit)) : Option (Ty.T (.pair (.int .i64) .unit)) :=
match (decide (x.1 < (3 : Int))) with
| true =>
  some ((0 : Int), ())
| false =>
  match (decide (x.1 < (8 : Int))) with
  | true =>
    some ((1 : Int), ())
  | false =>
    some ((2 : Int), ())
noncomputable def s63 : Spec := ⟨(.pair (.int .i64) .unit), (.pair (.int .i64) .unit), g63, false, none⟩
noncomputable def σ63 : FuncId → Option Spec := sig []
theorem σok63 : ∀ f s, σ63 f = some s → FnOK Try.prog f s := sig_ok (l := []) trivial
noncomputable def Λ63 : Nat → Option LSpec := lkp (loopList (bodyOf Try.f63)) []
theorem ok63 : FnOK Try.prog 63 s63 := fn_ok (Λ := Λ63) tab0 σok63 Try.func63 (by kernel_rfl) (show Try.f63.body = some (bodyOf Try.f63) by kernel_rfl) [] rfl (by kernel_rfl) (by exact trivial)
  fun x y h => (show execFn Γ0 E0 σ63 Λ63 Try.f63 s63 x = g63 x by kernel_rfl).trans h

noncomputable def g19 (x : Ty.T (.pair (.int .i64) .unit)) : Option (Ty.T (.pair (.int .i64) (.pair (.int .i64) .unit))) :=
match g62 (x.1, (1 : Int), (32 : Int), ()) with
| none => none
| some v1 =>
match (!v1.1) with
| true =>
  some ((0 : Int), (3 : Int), ())
| false =>
  match g63 (x.1, ()) with
  | none => none
  | some v2 =>
  some (v2.1, (0 : Int), ())
noncomputable def s19 : Spec := ⟨(.pair (.int .i64) .unit), (.pair (.int .i64) (.pair (.int .i64) .unit)), g19, false, none⟩
noncomputable def σ19 : FuncId → Option Spec := sig [(62, s62), (63, s63)]
theorem σok19 : ∀ f s, σ19 f = some s → FnOK Try.prog f s := sig_ok (l := [(62, s62), (63, s63)]) ⟨ok62, ok63, trivial⟩
noncomputable def Λ19 : Nat → Option LSpec := lkp (loopList (bodyOf Try.f19)) []
theorem ok19 : FnOK Try.prog 19 s19 := fn_ok (Λ := Λ19) tab0 σok19 Try.func19 (by kernel_rfl) (show Try.f19.body = some (bodyOf Try.f19) by kernel_rfl) [] rfl (by kernel_rfl) (by exact trivial)
  fun x y h => (show execFn Γ0 E0 σ19 Λ19 Try.f19 s19 x = g19 x by kernel_rfl).trans h

noncomputable def g4 (x : Ty.T (.pair (.int .i64) .unit)) : Option (Ty.T (.pair .bool .unit)) :=
match g18 (x.1, ()) with
| none => none
| some v1 =>
match g19 (x.1, ()) with
| none => none
| some v2 =>
match (v2.1 != v1.1) with
| true =>
  some (false, ())
| false =>
  match (v2.2.1 != v1.2.1) with
  | true =>
    some (false, ())
  | false =>
    some (true, ())
noncomputable def s4 : Spec := ⟨(.pair (.int .i64) .unit), (.pair .bool .unit), g4, false, none⟩
noncomputable def σ4 : FuncId → Option Spec := sig [(18, s18), (19, s19)]
theorem σok4 : ∀ f s, σ4 f = some s → FnOK Try.prog f s := sig_ok (l := [(18, s18), (19, s19)]) ⟨ok18, ok19, trivial⟩
noncomputable def Λ4 : Nat → Option LSpec := lkp (loopList (bodyOf Try.f4)) []
theorem ok4 : FnOK Try.prog 4 s4 := fn_ok (Λ := Λ4) tab0 σok4 Try.func4 (by kernel_rfl) (show Try.f4.body = some (bodyOf Try.f4) by kernel_rfl) [] rfl (by kernel_rfl) (by exact trivial)
  fun x y h => (show execFn Γ0 E0 σ4 Λ4 Try.f4 s4 x = g4 x by kernel_rfl).trans h

noncomputable def g64 (x : Ty.T (.pair (.int .i64) .unit)) : Option (Ty.T (.pair .bool .unit)) :=
match g60 (x.1, (0 : Int), (31 : Int), ()) with
| none => none
| some v1 =>
some (v1.1, ())
noncomputable def s64 : Spec := ⟨(.pair (.int .i64) .unit), (.pair .bool .unit), g64, false, none⟩
noncomputable def σ64 : FuncId → Option Spec := sig [(60, s60)]
theorem σok64 : ∀ f s, σ64 f = some s → FnOK Try.prog f s := sig_ok (l := [(60, s60)]) ⟨ok60, trivial⟩
noncomputable def Λ64 : Nat → Option LSpec := lkp (loopList (bodyOf Try.f64)) []
theorem ok64 : FnOK Try.prog 64 s64 := fn_ok (Λ := Λ64) tab0 σok64 Try.func64 (by kernel_rfl) (show Try.f64.body = some (bodyOf Try.f64) by kernel_rfl) [] rfl (by kernel_rfl) (by exact trivial)
  fun x y h => (show execFn Γ0 E0 σ64 Λ64 Try.f64 s64 x = g64 x by kernel_rfl).trans h

noncomputable def g20 (x : Ty.T (.pair (.pair (.pair (.int .i64) (.pair (.int .i64) (.pair (.int .i64) (.pair (.int .i64) (.pair (.int .i64) .unit))))) (.pair (.int .i64) (.pair (.int .i64) .unit))) .unit)) : Option (Ty.T (.pair .bool .unit)) :=
match g58 ((x.1.1.1, x.1.1.2.1, x.1.1.2.2.1, x.1.1.2.2.2.1, x.1.1.2.2.2.2.1, ()), ()) with
| none => none
| some v1 =>
match v1.1 with
| true =>
  match g64 (x.1.2.1, ()) with
  | none => none
  | some v2 =>
  match v2.1 with
  | true =>
    match g60 (x.1.2.2.1, (0 : Int), (4 : Int), ()) with
    | none => none
    | some v3 =>
    some (v3.1, ())
  | false =>
    some (false, ())
| false =>
  some (false, ())
noncomputable def s20 : Spec := ⟨(.pair (.pair (.pair (.int .i64) (.pair (.int .i64) (.pair (.int .i64) (.pair (.int .i64) (.pair (.int .i64) .unit))))) (.pair (.int .i64) (.pair (.int .i64) .unit))) .unit), (.pair .bool .unit), g20, false, none⟩
noncomputable def σ20 : FuncId → Option Spec := sig [(58, s58), (60, s60), (64, s64)]
theorem σok20 : ∀ f s, σ20 f = some s → FnOK Try.prog f s := sig_ok (l := [(58, s58), (60, s60), (64, s64)]) ⟨ok58, ok60, ok64, trivial⟩
noncomputable def Λ20 : Nat → Option LSpec := lkp (loopList (bodyOf Try.f20)) []
theorem ok20 : FnOK Try.prog 20 s20 := fn_ok (Λ := Λ20) tab0 σok20 Try.func20 (by kernel_rfl) (show Try.f20.body = some (bodyOf Try.f20) by kernel_rfl) [] rfl (by kernel_rfl) (by exact trivial)
  fun x y h => (show execFn Γ0 E0 σ20 Λ20 Try.f20 s20 x = g20 x by kernel_rfl).trans h

noncomputable def g21 (x : Ty.T (.pair (.pair (.pair (.int .i64) (.pair (.int .i64) (.pair (.int .i64) (.pair (.int .i64) (.pair (.int .i64) .unit))))) (.pair (.int .i64) (.pair (.int .i64) .unit))) .unit)) : Option (Ty.T (.pair (.pair (.pair (.int .i64) (.pair (.int .i64) (.pair (.int .i64) (.pair (.int .i64) (.pair (.int .i64) .unit))))) (.pair (.int .i64) (.pair (.int .i64) .unit))) .unit)) :=
match g16 ((x.1.1.1, x.1.1.2.1, x.1.1.2.2.1, x.1.1.2.2.2.1, x.1.1.2.2.2.2.1, ()), ()) with
| none => none
| some v1 =>
some (((v1.1.1, v1.1.2.1, v1.1.2.2.1, v1.1.2.2.2.1, v1.1.2.2.2.2.1, ()), x.1.2.1, x.1.2.2.1, ()), ())
noncomputable def s21 : Spec := ⟨(.pair (.pair (.pair (.int .i64) (.pair (.int .i64) (.pair (.int .i64) (.pair (.int .i64) (.pair (.int .i64) .unit))))) (.pair (.int .i64) (.pair (.int .i64) .unit))) .unit), (.pair (.pair (.pair (.int .i64) (.pair (.int .i64) (.pair (.int .i64) (.pair (.int .i64) (.pair (.int .i64) .unit))))) (.pair (.int .i64) (.pair (.int .i64) .unit))) .unit), g21, false, none⟩
noncomputable def σ21 : FuncId → Option Spec := sig [(16, s16)]
theorem σok21 : ∀ f s, σ21 f = some s → FnOK Try.prog f s := sig_ok (l := [(16, s16)]) ⟨ok16, trivial⟩
noncomputable def Λ21 : Nat → Option LSpec := lkp (loopList (bodyOf Try.f21)) []
theorem ok21 : FnOK Try.prog 21 s21 := fn_ok (Λ := Λ21) tab0 σok21 Try.func21 (by kernel_rfl) (show Try.f21.body = some (bodyOf Try.f21) by kernel_rfl) [] rfl (by kernel_rfl) (by exact trivial)
  fun x y h => (show execFn Γ0 E0 σ21 Λ21 Try.f21 s21 x = g21 x by kernel_rfl).trans h

noncomputable def g65 (x : Ty.T (.pair (.int .i64) .unit)) : Option (Ty.T (.pair .bool .unit)) :=
match g62 (x.1, (0 : Int), (31 : Int), ()) with
| none => none
| some v1 =>
some (v1.1, ())
noncomputable def s65 : Spec := ⟨(.pair (.int .i64) .unit), (.pair .bool .unit), g65, false, none⟩
noncomputable def σ65 : FuncId → Option Spec := sig [(62, s62)]
theorem σok65 : ∀ f s, σ65 f = some s → FnOK Try.prog f s := sig_ok (l := [(62, s62)]) ⟨ok62, trivial⟩
noncomputable def Λ65 : Nat → Option LSpec := lkp (loopList (bodyOf Try.f65)) []
theorem ok65 : FnOK Try.prog 65 s65 := fn_ok (Λ := Λ65) tab0 σok65 Try.func65 (by kernel_rfl) (show Try.f65.body = some (bodyOf Try.f65) by kernel_rfl) [] rfl (by kernel_rfl) (by exact trivial)
  fun x y h => (show execFn Γ0 E0 σ65 Λ65 Try.f65 s65 x = g65 x by kernel_rfl).trans h

noncomputable def g22 (x : Ty.T (.pair (.pair (.pair (.int .i64) (.pair (.int .i64) (.pair (.int .i64) (.pair (.int .i64) (.pair (.int .i64) .unit))))) (.pair (.int .i64) (.pair (.int .i64) .unit))) .unit)) : Option (Ty.T (.pair .bool .unit)) :=
match g59 ((x.1.1.1, x.1.1.2.1, x.1.1.2.2.1, x.1.1.2.2.2.1, x.1.1.2.2.2.2.1, ()), ()) with
| none => none
| some v1 =>
match v1.1 with
| true =>
  match g65 (x.1.2.1, ()) with
  | none => none
  | some v2 =>
  match v2.1 with
  | true =>
    match g62 (x.1.2.2.1, (0 : Int), (4 : Int), ()) with
    | none => none
    | some v3 =>
    some (v3.1, ())
  | false =>
    some (false, ())
| false =>
  some (false, ())
noncomputable def s22 : Spec := ⟨(.pair (.pair (.pair (.int .i64) (.pair (.int .i64) (.pair (.int .i64) (.pair (.int .i64) (.pair (.int .i64) .unit))))) (.pair (.int .i64) (.pair (.int .i64) .unit))) .unit), (.pair .bool .unit), g22, false, none⟩
noncomputable def σ22 : FuncId → Option Spec := sig [(59, s59), (62, s62), (65, s65)]
theorem σok22 : ∀ f s, σ22 f = some s → FnOK Try.prog f s := sig_ok (l := [(59, s59), (62, s62), (65, s65)]) ⟨ok59, ok62, ok65, trivial⟩
noncomputable def Λ22 : Nat → Option LSpec := lkp (loopList (bodyOf Try.f22)) []
theorem ok22 : FnOK Try.prog 22 s22 := fn_ok (Λ := Λ22) tab0 σok22 Try.func22 (by kernel_rfl) (show Try.f22.body = some (bodyOf Try.f22) by kernel_rfl) [] rfl (by kernel_rfl) (by exact trivial)
  fun x y h => (show execFn Γ0 E0 σ22 Λ22 Try.f22 s22 x = g22 x by kernel_rfl).trans h

noncomputable def g5 (x : Ty.T (.pair (.pair (.pair (.int .i64) (.pair (.int .i64) (.pair (.int .i64) (.pair (.int .i64) (.pair (.int .i64) .unit))))) (.pair (.int .i64) (.pair (.int .i64) .unit))) .unit)) : Option (Ty.T (.pair .bool .unit)) :=
match g21 (((x.1.1.1, x.1.1.2.1, x.1.1.2.2.1, x.1.1.2.2.2.1, x.1.1.2.2.2.2.1, ()), x.1.2.1, x.1.2.2.1, ()), ()) with
| none => none
| some v1 =>
match g20 (v1.1, ()) with
| none => none
| some v2 =>
match g21 (((x.1.1.1, x.1.1.2.1, x.1.1.2.2.1, x.1.1.2.2.2.1, x.1.1.2.2.2.2.1, ()), x.1.2.1, x.1.2.2.1, ()), ()) with
| none => none
| some v3 =>
match g22 (v3.1, ()) with
| none => none
| some v4 =>
match (v4.1 != v2.1) with
| true =>
  some (false, ())
| false =>
  some (true, ())
noncomputable def s5 : Spec := ⟨(.pair (.pair (.pair (.int .i64) (.pair (.int .i64) (.pair (.int .i64) (.pair (.int .i64) (.pair (.int .i64) .unit))))) (.pair (.int .i64) (.pair (.int .i64) .unit))) .unit), (.pair .bool .unit), g5, false, none⟩
noncomputable def σ5 : FuncId → Option Spec := sig [(20, s20), (21, s21), (22, s22)]
theorem σok5 : ∀ f s, σ5 f = some s → FnOK Try.prog f s := sig_ok (l := [(20, s20), (21, s21), (22, s22)]) ⟨ok20, ok21, ok22, trivial⟩
noncomputable def Λ5 : Nat → Option LSpec := lkp (loopList (bodyOf Try.f5)) []
theorem ok5 : FnOK Try.prog 5 s5 := fn_ok (Λ := Λ5) tab0 σok5 Try.func5 (by kernel_rfl) (show Try.f5.body = some (bodyOf Try.f5) by kernel_rfl) [] rfl (by kernel_rfl) (by exact trivial)
  fun x y h => (show execFn Γ0 E0 σ5 Λ5 Try.f5 s5 x = g5 x by kernel_rfl).trans h

def lv83_2 : List (Nat × Live) := [(0, .val (.list (.int .i64))), (3, .val (.int .i64))]
noncomputable def bl83_2 : List (Nat × Live) := []
noncomputable def rl83_2 : List (Nat × Live) := [(2, .val .bool)]
noncomputable def b83_2 (x : (Ty.T (.pair (.list (.int .i64)) (.pair (.int .i64) .unit)))) : Option ((Ty.T (.pair (.list (.int .i64)) (.pair (.int .i64) .unit))) ⊕ ((Ty.T .unit) ⊕ (Ty.T (.pair .bool .unit)))) :=
match (decide (x.2.1 < (x.1.length : Int))) with
| true =>
  onSome (idx x.1 x.2.1) fun v1 =>
  match g60 (v1, (0 : Int), (1000000000 : Int), ()) with
  | none => none
  | some v2 =>
  match (!v2.1) with
  | true =>
    some (.inr (.inr (false, ())))
  | false =>
    some (.inl (x.1, (IntKind.i64.wrap (x.2.1 + (1 : Int))), ()))
| false =>
  some (.inr (.inl (())))
noncomputable def g83 (x : Ty.T (.pair (.list (.int .i64)) .unit)) : Option (Ty.T (.pair .bool .unit)) :=
match loopL b83_2 (x.1, (0 : Int), ()) with
| none => none
| some (.inl v3) =>
  some (true, ())
| some (.inr v4) =>
  some (v4.1, ())
noncomputable def s83 : Spec := ⟨(.pair (.list (.int .i64)) .unit), (.pair .bool .unit), g83, false, none⟩
noncomputable def σ83 : FuncId → Option Spec := sig [(60, s60)]
theorem σok83 : ∀ f s, σ83 f = some s → FnOK Try.prog f s := sig_ok (l := [(60, s60)]) ⟨ok60, trivial⟩
noncomputable def Λ83 : Nat → Option LSpec := lkp (loopList (bodyOf Try.f83)) [⟨lv83_2, 0, bl83_2, rl83_2, loopL b83_2⟩]
theorem lok83_2 (x) : codeK Γ0 E0 σ83 Λ83 Try.f83.ntmps (nthLoop Try.f83 0) (mkF Try.f83.ntmps lv83_2 x) (readK Try.f83.ntmps lv83_2 0 bl83_2 rl83_2) = b83_2 x := by kernel_rfl
theorem ok83 : FnOK Try.prog 83 s83 := fn_ok (Λ := Λ83) tab0 σok83 Try.func83 (by kernel_rfl) (show Try.f83.body = some (bodyOf Try.f83) by kernel_rfl) [⟨lv83_2, 0, bl83_2, rl83_2, loopL b83_2⟩] rfl (by kernel_rfl) (by exact ⟨loop_LOK lok83_2, trivial⟩)
  fun x y h => (show execFn Γ0 E0 σ83 Λ83 Try.f83 s83 x = g83 x by kernel_rfl).trans h

noncomputable def g66 (x : Ty.T (.pair (.list (.int .i64)) .unit)) : Option (Ty.T (.pair .bool .unit)) :=
match g60 ((x.1.length : Int), (1 : Int), (32 : Int), ()) with
| none => none
| some v1 =>
match v1.1 with
| true =>
  match g83 (x.1, ()) with
  | none => none
  | some v2 =>
  some (v2.1, ())
| false =>
  some (false, ())
noncomputable def s66 : Spec := ⟨(.pair (.list (.int .i64)) .unit), (.pair .bool .unit), g66, false, none⟩
noncomputable def σ66 : FuncId → Option Spec := sig [(60, s60), (83, s83)]
theorem σok66 : ∀ f s, σ66 f = some s → FnOK Try.prog f s := sig_ok (l := [(60, s60), (83, s83)]) ⟨ok60, ok83, trivial⟩
noncomputable def Λ66 : Nat → Option LSpec := lkp (loopList (bodyOf Try.f66)) []
theorem ok66 : FnOK Try.prog 66 s66 := fn_ok (Λ := Λ66) tab0 σok66 Try.func66 (by kernel_rfl) (show Try.f66.body = some (bodyOf Try.f66) by kernel_rfl) [] rfl (by kernel_rfl) (by exact trivial)
  fun x y h => (show execFn Γ0 E0 σ66 Λ66 Try.f66 s66 x = g66 x by kernel_rfl).trans h

def lv67_3 : List (Nat × Live) := [(0, .val (.list (.int .i64))), (4, .val (.int .i64)), (5, .val (.int .i64)), (6, .val (.int .i64))]
noncomputable def bl67_3 : List (Nat × Live) := [(4, .val (.int .i64)), (5, .val (.int .i64))]
noncomputable def rl67_3 : List (Nat × Live) := []
noncomputable def b67_3 (x : (Ty.T (.pair (.list (.int .i64)) (.pair (.int .i64) (.pair (.int .i64) (.pair (.int .i64) .unit)))))) : Option ((Ty.T (.pair (.list (.int .i64)) (.pair (.int .i64) (.pair (.int .i64) (.pair (.int .i64) .unit))))) ⊕ ((Ty.T (.pair (.int .i64) (.pair (.int .i64) .unit))) ⊕ (Ty.T .unit))) :=
match (decide (x.2.2.2.1 < (x.1.length : Int))) with
| true =>
  onSome (idx x.1 x.2.2.2.1) fun v3 =>
  onSome (idx x.1 x.2.2.2.1) fun v4 =>
  some (.inl (x.1, (if v3 < x.2.1 then v3 else x.2.1), (if v4 > x.2.2.1 then v4 else x.2.2.1), (IntKind.i64.wrap (x.2.2.2.1 + (1 : Int))), ()))
| false =>
  some (.inr (.inl (x.2.1, x.2.2.1, ())))
noncomputable def g67 (x : Ty.T (.pair (.list (.int .i64)) .unit)) : Option (Ty.T (.pair (.int .i64) (.pair (.int .i64) .unit))) :=
onSome (idx x.1 (0 : Int)) fun v1 =>
onSome (idx x.1 (0 : Int)) fun v2 =>
match loopL b67_3 (x.1, v1, v2, (1 : Int), ()) with
| none => none
| some (.inl v5) =>
  some (v5.1, v5.2.1, ())
| some (.inr v7) =>
  none
noncomputable def s67 : Spec := ⟨(.pair (.list (.int .i64)) .unit), (.pair (.int .i64) (.pair (.int .i64) .unit)), g67, false, none⟩
noncomputable def σ67 : FuncId → Option Spec := sig []
theorem σok67 : ∀ f s, σ67 f = some s → FnOK Try.prog f s := sig_ok (l := []) trivial
noncomputable def Λ67 : Nat → Option LSpec := lkp (loopList (bodyOf Try.f67)) [⟨lv67_3, 0, bl67_3, rl67_3, loopL b67_3⟩]
theorem lok67_3 (x) : codeK Γ0 E0 σ67 Λ67 Try.f67.ntmps (nthLoop Try.f67 0) (mkF Try.f67.ntmps lv67_3 x) (readK Try.f67.ntmps lv67_3 0 bl67_3 rl67_3) = b67_3 x := by kernel_rfl
theorem ok67 : FnOK Try.prog 67 s67 := fn_ok (Λ := Λ67) tab0 σok67 Try.func67 (by kernel_rfl) (show Try.f67.body = some (bodyOf Try.f67) by kernel_rfl) [⟨lv67_3, 0, bl67_3, rl67_3, loopL b67_3⟩] rfl (by kernel_rfl) (by exact ⟨loop_LOK lok67_3, trivial⟩)
  fun x y h => (show execFn Γ0 E0 σ67 Λ67 Try.f67 s67 x = g67 x by kernel_rfl).trans h

noncomputable def g23 (x : Ty.T (.pair (.list (.int .i64)) .unit)) : Option (Ty.T (.pair (.int .i64) (.pair (.int .i64) .unit))) :=
match g66 (x.1, ()) with
| none => none
| some v1 =>
match (!v1.1) with
| true =>
  some ((0 : Int), (1 : Int), ())
| false =>
  match g67 (x.1, ()) with
  | none => none
  | some v2 =>
  some ((IntKind.i64.wrap (v2.2.1 - v2.1)), (0 : Int), ())
noncomputable def s23 : Spec := ⟨(.pair (.list (.int .i64)) .unit), (.pair (.int .i64) (.pair (.int .i64) .unit)), g23, false, none⟩
noncomputable def σ23 : FuncId → Option Spec := sig [(66, s66), (67, s67)]
theorem σok23 : ∀ f s, σ23 f = some s → FnOK Try.prog f s := sig_ok (l := [(66, s66), (67, s67)]) ⟨ok66, ok67, trivial⟩
noncomputable def Λ23 : Nat → Option LSpec := lkp (loopList (bodyOf Try.f23)) []
theorem ok23 : FnOK Try.prog 23 s23 := fn_ok (Λ := Λ23) tab0 σok23 Try.func23 (by kernel_rfl) (show Try.f23.body = some (bodyOf Try.f23) by kernel_rfl) [] rfl (by kernel_rfl) (by exact trivial)
  fun x y h => (show execFn Γ0 E0 σ23 Λ23 Try.f23 s23 x = g23 x by kernel_rfl).trans h

def lv24_3 : List (Nat × Live) := [(0, .val (.list (.int .i64))), (3, .arr 2 (.int .i64)), (4, .val (.int .i64))]
noncomputable def bl24_3 : List (Nat × Live) := [(3, .arr 2 (.int .i64))]
noncomputable def rl24_3 : List (Nat × Live) := []
noncomputable def b24_3 (x : (Ty.T (.pair (.list (.int .i64)) (.pair (.list (.int .i64)) (.pair (.int .i64) .unit))))) : Option ((Ty.T (.pair (.list (.int .i64)) (.pair (.list (.int .i64)) (.pair (.int .i64) .unit)))) ⊕ ((Ty.T (.pair (.list (.int .i64)) .unit)) ⊕ (Ty.T .unit))) :=
match (decide (x.2.2.1 < (x.1.length : Int))) with
| true =>
  onSome (idx x.1 x.2.2.1) fun v1 =>
  onSome (idx x.2.1 x.2.2.1) fun _ =>
  match x.2.1[x.2.2.1.toNat]? with
  | none => none
  | some v3 =>
  some (.inl (x.1, (x.2.1.set x.2.2.1.toNat v1), (IntKind.i64.wrap (x.2.2.1 + (1 : Int))), ()))
| false =>
  some (.inr (.inl (x.2.1, ())))
noncomputable def g24 (x : Ty.T (.pair (.list (.int .i64)) .unit)) : Option (Ty.T (.pair (.list (.int .i64)) .unit)) :=
if 0 ≤ (x.1.length : Int) ∧ (x.1.length : Int) ≤ (x.1.length : Int) then
  room ((x.1.length : Int).toNat) (
    match loopL b24_3 (x.1, (List.replicate (x.1.length : Int).toNat (0 : Int)), (0 : Int), ()) with
    | none => none
    | some (.inl v4) =>
      some (v4.1, ())
    | some (.inr v6) =>
      none)
else none
noncomputable def s24 : Spec := ⟨(.pair (.list (.int .i64)) .unit), (.pair (.list (.int .i64)) .unit), g24, false, none⟩
noncomputable def σ24 : FuncId → Option Spec := sig []
theorem σok24 : ∀ f s, σ24 f = some s → FnOK Try.prog f s := sig_ok (l := []) trivial
noncomputable def Λ24 : Nat → Option LSpec := lkp (loopList (bodyOf Try.f24)) [⟨lv24_3, 0, bl24_3, rl24_3, loopL b24_3⟩]
theorem lok24_3 (x) : codeK Γ0 E0 σ24 Λ24 Try.f24.ntmps (nthLoop Try.f24 0) (mkF Try.f24.ntmps lv24_3 x) (readK Try.f24.ntmps lv24_3 0 bl24_3 rl24_3) = b24_3 x := by kernel_rfl
theorem ok24 : FnOK Try.prog 24 s24 := fn_ok (Λ := Λ24) tab0 σok24 Try.func24 (by kernel_rfl) (show Try.f24.body = some (bodyOf Try.f24) by kernel_rfl) [⟨lv24_3, 0, bl24_3, rl24_3, loopL b24_3⟩] rfl (by kernel_rfl) (by exact ⟨loop_LOK lok24_3, trivial⟩)
  fun x y h => (show execFn Γ0 E0 σ24 Λ24 Try.f24 s24 x = g24 x by kernel_rfl).trans h

def lv94_2 : List (Nat × Live) := [(1, .val (.int .i64)), (2, .val (.int .i64)), (9, .val (.list (.int .i64))), (10, .val (.int .i64)), (11, .val (.int .i64))]
noncomputable def bl94_2 : List (Nat × Live) := []
noncomputable def rl94_2 : List (Nat × Live) := [(6, .val .bool)]
noncomputable def b94_2 (x : (Ty.T (.pair (.int .i64) (.pair (.int .i64) (.pair (.list (.int .i64)) (.pair (.int .i64) (.pair (.int .i64) .unit))))))) : Option ((Ty.T (.pair (.int .i64) (.pair (.int .i64) (.pair (.list (.int .i64)) (.pair (.int .i64) (.pair (.int .i64) .unit)))))) ⊕ ((Ty.T .unit) ⊕ (Ty.T (.pair .bool .unit)))) :=
match (decide (x.2.2.2.2.1 < x.2.2.2.1)) with
| true =>
  onSome (idx x.2.2.1 x.2.2.2.2.1) fun v1 =>
  match (decide (v1 < x.1)) with
  | true =>
    some (.inr (.inr (false, ())))
  | false =>
    match (decide (v1 > x.2.1)) with
    | true =>
      some (.inr (.inr (false, ())))
    | false =>
      some (.inl (x.1, x.2.1, x.2.2.1, x.2.2.2.1, (IntKind.i64.wrap (x.2.2.2.2.1 + (1 : Int))), ()))
| false =>
  some (.inr (.inl (())))
noncomputable def g94 (x : Ty.T (.pair (.list (.int .i64)) (.pair (.int .i64) (.pair (.int .i64) .unit)))) : Option (Ty.T (.pair .bool .unit)) :=
match loopL b94_2 (x.2.1, x.2.2.1, x.1, (x.1.length : Int), (0 : Int), ()) with
| none => none
| some (.inl v2) =>
  some (true, ())
| some (.inr v3) =>
  some (v3.1, ())
noncomputable def s94 : Spec := ⟨(.pair (.list (.int .i64)) (.pair (.int .i64) (.pair (.int .i64) .unit))), (.pair .bool .unit), g94, false, none⟩
noncomputable def σ94 : FuncId → Option Spec := sig []
theorem σok94 : ∀ f s, σ94 f = some s → FnOK Try.prog f s := sig_ok (l := []) trivial
noncomputable def Λ94 : Nat → Option LSpec := lkp (loopList (bodyOf Try.f94)) [⟨lv94_2, 0, bl94_2, rl94_2, loopL b94_2⟩]
theorem lok94_2 (x) : codeK Γ0 E0 σ94 Λ94 Try.f94.ntmps (nthLoop Try.f94 0) (mkF Try.f94.ntmps lv94_2 x) (readK Try.f94.ntmps lv94_2 0 bl94_2 rl94_2) = b94_2 x := by kernel_rfl
theorem ok94 : FnOK Try.prog 94 s94 := fn_ok (Λ := Λ94) tab0 σok94 Try.func94 (by kernel_rfl) (show Try.f94.body = some (bodyOf Try.f94) by kernel_rfl) [⟨lv94_2, 0, bl94_2, rl94_2, loopL b94_2⟩] rfl (by kernel_rfl) (by exact ⟨loop_LOK lok94_2, trivial⟩)
  fun x y h => (show execFn Γ0 E0 σ94 Λ94 Try.f94 s94 x = g94 x by kernel_rfl).trans h

noncomputable def g68 (x : Ty.T (.pair (.list (.int .i64)) .unit)) : Option (Ty.T (.pair .bool .unit)) :=
match (decide ((x.1.length : Int) ≥ (1 : Int))) with
| true =>
  match (decide ((x.1.length : Int) ≤ (32 : Int))) with
  | true =>
    match g94 (x.1, (0 : Int), (1000000000 : Int), ()) with
    | none => none
    | some v1 =>
    some (v1.1, ())
  | false =>
    some (false, ())
| false =>
  some (false, ())
noncomputable def s68 : Spec := ⟨(.pair (.list (.int .i64)) .unit), (.pair .bool .unit), g68, false, none⟩
noncomputable def σ68 : FuncId → Option Spec := sig [(94, s94)]
theorem σok68 : ∀ f s, σ68 f = some s → FnOK Try.prog f s := sig_ok (l := [(94, s94)]) ⟨ok94, trivial⟩
noncomputable def Λ68 : Nat → Option LSpec := lkp (loopList (bodyOf Try.f68)) []
theorem ok68 : FnOK Try.prog 68 s68 := fn_ok (Λ := Λ68) tab0 σok68 Try.func68 (by kernel_rfl) (show Try.f68.body = some (bodyOf Try.f68) by kernel_rfl) [] rfl (by kernel_rfl) (by exact trivial)
  fun x y h => (show execFn Γ0 E0 σ68 Λ68 Try.f68 s68 x = g68 x by kernel_rfl).trans h

def lv86_5 : List (Nat × Live) := [(0, .val (.list (.int .i64))), (3, .val (.int .i64)), (4, .val (.int .i64))]
noncomputable def bl86_5 : List (Nat × Live) := [(3, .val (.int .i64))]
noncomputable def rl86_5 : List (Nat × Live) := []
noncomputable def b86_5 (x : (Ty.T (.pair (.list (.int .i64)) (.pair (.int .i64) (.pair (.int .i64) .unit))))) : Option ((Ty.T (.pair (.list (.int .i64)) (.pair (.int .i64) (.pair (.int .i64) .unit)))) ⊕ ((Ty.T (.pair (.int .i64) .unit)) ⊕ (Ty.T .unit))) :=
match (decide (x.2.2.1 < (x.1.length : Int))) with
| true =>
  onSome (idx x.1 x.2.2.1) fun v2 =>
  some (.inl (x.1, (if v2 > x.2.1 then v2 else x.2.1), (IntKind.i64.wrap (x.2.2.1 + (1 : Int))), ()))
| false =>
  some (.inr (.inl (x.2.1, ())))
noncomputable def g86 (x : Ty.T (.pair (.list (.int .i64)) .unit)) : Option (Ty.T (.pair (.int .i64) .unit)) :=
match (decide ((x.1.length : Int) < (1 : Int))) with
| true =>
  none
| false =>
  onSome (idx x.1 (0 : Int)) fun v1 =>
  match loopL b86_5 (x.1, v1, (1 : Int), ()) with
  | none => none
  | some (.inl v3) =>
    some (v3.1, ())
  | some (.inr v5) =>
    none
noncomputable def s86 : Spec := ⟨(.pair (.list (.int .i64)) .unit), (.pair (.int .i64) .unit), g86, false, none⟩
noncomputable def σ86 : FuncId → Option Spec := sig []
theorem σok86 : ∀ f s, σ86 f = some s → FnOK Try.prog f s := sig_ok (l := []) trivial
noncomputable def Λ86 : Nat → Option LSpec := lkp (loopList (bodyOf Try.f86)) [⟨lv86_5, 0, bl86_5, rl86_5, loopL b86_5⟩]
theorem lok86_5 (x) : codeK Γ0 E0 σ86 Λ86 Try.f86.ntmps (nthLoop Try.f86 0) (mkF Try.f86.ntmps lv86_5 x) (readK Try.f86.ntmps lv86_5 0 bl86_5 rl86_5) = b86_5 x := by kernel_rfl
theorem ok86 : FnOK Try.prog 86 s86 := fn_ok (Λ := Λ86) tab0 σok86 Try.func86 (by kernel_rfl) (show Try.f86.body = some (bodyOf Try.f86) by kernel_rfl) [⟨lv86_5, 0, bl86_5, rl86_5, loopL b86_5⟩] rfl (by kernel_rfl) (by exact ⟨loop_LOK lok86_5, trivial⟩)
  fun x y h => (show execFn Γ0 E0 σ86 Λ86 Try.f86 s86 x = g86 x by kernel_rfl).trans h

def lv95_5 : List (Nat × Live) := [(0, .val (.list (.int .i64))), (3, .val (.int .i64)), (4, .val (.int .i64))]
noncomputable def bl95_5 : List (Nat × Live) := [(3, .val (.int .i64))]
noncomputable def rl95_5 : List (Nat × Live) := []
noncomputable def b95_5 (x : (Ty.T (.pair (.list (.int .i64)) (.pair (.int .i64) (.pair (.int .i64) .unit))))) : Option ((Ty.T (.pair (.list (.int .i64)) (.pair (.int .i64) (.pair (.int .i64) .unit)))) ⊕ ((Ty.T (.pair (.int .i64) .unit)) ⊕ (Ty.T .unit))) :=
match (decide (x.2.2.1 < (x.1.length : Int))) with
| true =>
  onSome (idx x.1 x.2.2.1) fun v2 =>
  some (.inl (x.1, (if v2 < x.2.1 then v2 else x.2.1), (IntKind.i64.wrap (x.2.2.1 + (1 : Int))), ()))
| false =>
  some (.inr (.inl (x.2.1, ())))
noncomputable def g95 (x : Ty.T (.pair (.list (.int .i64)) .unit)) : Option (Ty.T (.pair (.int .i64) .unit)) :=
match (decide ((x.1.length : Int) < (1 : Int))) with
| true =>
  none
| false =>
  onSome (idx x.1 (0 : Int)) fun v1 =>
  match loopL b95_5 (x.1, v1, (1 : Int), ()) with
  | none => none
  | some (.inl v3) =>
    some (v3.1, ())
  | some (.inr v5) =>
    none
noncomputable def s95 : Spec := ⟨(.pair (.list (.int .i64)) .unit), (.pair (.int .i64) .unit), g95, false, none⟩
noncomputable def σ95 : FuncId → Option Spec := sig []
theorem σok95 : ∀ f s, σ95 f = some s → FnOK Try.prog f s := sig_ok (l := []) trivial
noncomputable def Λ95 : Nat → Option LSpec := lkp (loopList (bodyOf Try.f95)) [⟨lv95_5, 0, bl95_5, rl95_5, loopL b95_5⟩]
theorem lok95_5 (x) : codeK Γ0 E0 σ95 Λ95 Try.f95.ntmps (nthLoop Try.f95 0) (mkF Try.f95.ntmps lv95_5 x) (readK Try.f95.ntmps lv95_5 0 bl95_5 rl95_5) = b95_5 x := by kernel_rfl
theorem ok95 : FnOK Try.prog 95 s95 := fn_ok (Λ := Λ95) tab0 σok95 Try.func95 (by kernel_rfl) (show Try.f95.body = some (bodyOf Try.f95) by kernel_rfl) [⟨lv95_5, 0, bl95_5, rl95_5, loopL b95_5⟩] rfl (by kernel_rfl) (by exact ⟨loop_LOK lok95_5, trivial⟩)
  fun x y h => (show execFn Γ0 E0 σ95 Λ95 Try.f95 s95 x = g95 x by kernel_rfl).trans h

noncomputable def g69 (x : Ty.T (.pair (.list (.int .i64)) .unit)) : Option (Ty.T (.pair (.int .i64) .unit)) :=
match g86 (x.1, ()) with
| none => none
| some v1 =>
match g95 (x.1, ()) with
| none => none
| some v2 =>
some ((IntKind.i64.wrap (v1.1 - v2.1)), ())
noncomputable def s69 : Spec := ⟨(.pair (.list (.int .i64)) .unit), (.pair (.int .i64) .unit), g69, false, none⟩
noncomputable def σ69 : FuncId → Option Spec := sig [(86, s86), (95, s95)]
theorem σok69 : ∀ f s, σ69 f = some s → FnOK Try.prog f s := sig_ok (l := [(86, s86), (95, s95)]) ⟨ok86, ok95, trivial⟩
noncomputable def Λ69 : Nat → Option LSpec := lkp (loopList (bodyOf Try.f69)) []
theorem ok69 : FnOK Try.prog 69 s69 := fn_ok (Λ := Λ69) tab0 σok69 Try.func69 (by kernel_rfl) (show Try.f69.body = some (bodyOf Try.f69) by kernel_rfl) [] rfl (by kernel_rfl) (by exact trivial)
  fun x y h => (show execFn Γ0 E0 σ69 Λ69 Try.f69 s69 x = g69 x by kernel_rfl).trans h

noncomputable def g25 (x : Ty.T (.pair (.list (.int .i64)) .unit)) : Option (Ty.T (.pair (.int .i64) (.pair (.int .i64) .unit))) :=
match g68 (x.1, ()) with
| none => none
| some v1 =>
match (!v1.1) with
| true =>
  some ((0 : Int), (1 : Int), ())
| false =>
  match g69 (x.1, ()) with
  | none => none
  | some v2 =>
  some (v2.1, (0 : Int), ())
noncomputable def s25 : Spec := ⟨(.pair (.list (.int .i64)) .unit), (.pair (.int .i64) (.pair (.int .i64) .unit)), g25, false, none⟩
noncomputable def σ25 : FuncId → Option Spec := sig [(68, s68), (69, s69)]
theorem σok25 : ∀ f s, σ25 f = some s → FnOK Try.prog f s := sig_ok (l := [(68, s68), (69, s69)]) ⟨ok68, ok69, trivial⟩
noncomputable def Λ25 : Nat → Option LSpec := lkp (loopList (bodyOf Try.f25)) []
theorem ok25 : FnOK Try.prog 25 s25 := fn_ok (Λ := Λ25) tab0 σok25 Try.func25 (by kernel_rfl) (show Try.f25.body = some (bodyOf Try.f25) by kernel_rfl) [] rfl (by kernel_rfl) (by exact trivial)
  fun x y h => (show execFn Γ0 E0 σ25 Λ25 Try.f25 s25 x = g25 x by kernel_rfl).trans h

def lv26_4 : List (Nat × Live) := [(0, .val (.list (.int .i64))), (1, .val (.list (.int .i64))), (5, .val (.int .i64))]
noncomputable def bl26_4 : List (Nat × Live) := []
noncomputable def rl26_4 : List (Nat × Live) := [(4, .val .bool)]
noncomputable def b26_4 (x : (Ty.T (.pair (.list (.int .i64)) (.pair (.list (.int .i64)) (.pair (.int .i64) .unit))))) : Option ((Ty.T (.pair (.list (.int .i64)) (.pair (.list (.int .i64)) (.pair (.int .i64) .unit)))) ⊕ ((Ty.T .unit) ⊕ (Ty.T (.pair .bool .unit)))) :=
match (decide (x.2.2.1 < (x.1.length : Int))) with
| true =>
  onSome (idx x.1 x.2.2.1) fun v1 =>
  onSome (idx x.2.1 x.2.2.1) fun v2 =>
  match (v1 != v2) with
  | true =>
    some (.inr (.inr (false, ())))
  | false =>
    some (.inl (x.1, x.2.1, (IntKind.i64.wrap (x.2.2.1 + (1 : Int))), ()))
| false =>
  some (.inr (.inl (())))
noncomputable def g26 (x : Ty.T (.pair (.list (.int .i64)) (.pair (.list (.int .i64)) .unit))) : Option (Ty.T (.pair .bool .unit)) :=
match ((x.1.length : Int) != (x.2.1.length : Int)) with
| true =>
  some (false, ())
| false =>
  match loopL b26_4 (x.1, x.2.1, (0 : Int), ()) with
  | none => none
  | some (.inl v3) =>
    some (true, ())
  | some (.inr v4) =>
    some (v4.1, ())
noncomputable def s26 : Spec := ⟨(.pair (.list (.int .i64)) (.pair (.list (.int .i64)) .unit)), (.pair .bool .unit), g26, false, none⟩
noncomputable def σ26 : FuncId → Option Spec := sig []
theorem σok26 : ∀ f s, σ26 f = some s → FnOK Try.prog f s := sig_ok (l := []) trivial
noncomputable def Λ26 : Nat → Option LSpec := lkp (loopList (bodyOf Try.f26)) [⟨lv26_4, 0, bl26_4, rl26_4, loopL b26_4⟩]
theorem lok26_4 (x) : codeK Γ0 E0 σ26 Λ26 Try.f26.ntmps (nthLoop Try.f26 0) (mkF Try.f26.ntmps lv26_4 x) (readK Try.f26.ntmps lv26_4 0 bl26_4 rl26_4) = b26_4 x := by kernel_rfl
theorem ok26 : FnOK Try.prog 26 s26 := fn_ok (Λ := Λ26) tab0 σok26 Try.func26 (by kernel_rfl) (show Try.f26.body = some (bodyOf Try.f26) by kernel_rfl) [⟨lv26_4, 0, bl26_4, rl26_4, loopL b26_4⟩] rfl (by kernel_rfl) (by exact ⟨loop_LOK lok26_4, trivial⟩)
  fun x y h => (show execFn Γ0 E0 σ26 Λ26 Try.f26 s26 x = g26 x by kernel_rfl).trans h

noncomputable def g6 (x : Ty.T (.pair (.list (.int .i64)) .unit)) : Option (Ty.T (.pair .bool .unit)) :=
match (decide ((x.1.length : Int) > (1048576 : Int))) with
| true =>
  some (true, ())
| false =>
  match g24 (x.1, ()) with
  | none => none
  | some v1 =>
  match g23 (v1.1, ()) with
  | none => none
  | some v2 =>
  match g24 (x.1, ()) with
  | none => none
  | some v3 =>
  match g25 (v3.1, ()) with
  | none => none
  | some v4 =>
  match (v4.1 != v2.1) with
  | true =>
    some (false, ())
  | false =>
    match (v4.2.1 != v2.2.1) with
    | true =>
      some (false, ())
    | false =>
      match g24 (x.1, ()) with
      | none => none
      | some v5 =>
      match g26 (v3.1, v5.1, ()) with
      | none => none
      | some v6 =>
      match (!v6.1) with
      | true =>
        some (false, ())
      | false =>
        some (true, ())
noncomputable def s6 : Spec := ⟨(.pair (.list (.int .i64)) .unit), (.pair .bool .unit), g6, false, none⟩
noncomputable def σ6 : FuncId → Option Spec := sig [(23, s23), (24, s24), (25, s25), (26, s26)]
theorem σok6 : ∀ f s, σ6 f = some s → FnOK Try.prog f s := sig_ok (l := [(23, s23), (24, s24), (25, s25), (26, s26)]) ⟨ok23, ok24, ok25, ok26, trivial⟩
noncomputable def Λ6 : Nat → Option LSpec := lkp (loopList (bodyOf Try.f6)) []
theorem ok6 : FnOK Try.prog 6 s6 := fn_ok (Λ := Λ6) tab0 σok6 Try.func6 (by kernel_rfl) (show Try.f6.body = some (bodyOf Try.f6) by kernel_rfl) [] rfl (by kernel_rfl) (by exact trivial)
  fun x y h => (show execFn Γ0 E0 σ6 Λ6 Try.f6 s6 x = g6 x by kernel_rfl).trans h

noncomputable def g27 (x : Ty.T (.pair (.list (.pair (.int .i64) (.pair (.int .i64) (.pair (.int .i64) (.pair (.int .i64) .unit))))) (.pair (.int .i64) .unit))) : Option (Ty.T (.pair (.int .i64) .unit)) :=
match (decide ((IntKind.i64.wrap (x.2.1 - (x.1.length : Int))) < (0 : Int))) with
| true =>
  some ((-1 : Int), ())
| false =>
  some ((IntKind.i64.wrap (x.2.1 - (x.1.length : Int))), ())
noncomputable def s27 : Spec := ⟨(.pair (.list (.pair (.int .i64) (.pair (.int .i64) (.pair (.int .i64) (.pair (.int .i64) .unit))))) (.pair (.int .i64) .unit)), (.pair (.int .i64) .unit), g27, false, none⟩
noncomputable def σ27 : FuncId → Option Spec := sig []
theorem σok27 : ∀ f s, σ27 f = some s → FnOK Try.prog f s := sig_ok (l := []) trivial
noncomputable def Λ27 : Nat → Option LSpec := lkp (loopList (bodyOf Try.f27)) []
theorem ok27 : FnOK Try.prog 27 s27 := fn_ok (Λ := Λ27) tab0 σok27 Try.func27 (by kernel_rfl) (show Try.f27.body = some (bodyOf Try.f27) by kernel_rfl) [] rfl (by kernel_rfl) (by exact trivial)
  fun x y h => (show execFn Γ0 E0 σ27 Λ27 Try.f27 s27 x = g27 x by kernel_rfl).trans h

noncomputable def g70 (x : Ty.T (.pair (.pair (.int .i64) (.pair (.int .i64) (.pair (.int .i64) (.pair (.int .i64) .unit)))) .unit)) : Option (Ty.T (.pair (.pair (.int .i64) (.pair (.int .i64) (.pair (.int .i64) (.pair (.int .i64) .unit)))) .unit)) :=
some ((x.1.1, x.1.2.1, x.1.2.2.1, x.1.2.2.2.1, ()), ())
noncomputable def s70 : Spec := ⟨(.pair (.pair (.int .i64) (.pair (.int .i64) (.pair (.int .i64) (.pair (.int .i64) .unit)))) .unit), (.pair (.pair (.int .i64) (.pair (.int .i64) (.pair (.int .i64) (.pair (.int .i64) .unit)))) .unit), g70, false, none⟩
noncomputable def σ70 : FuncId → Option Spec := sig []
theorem σok70 : ∀ f s, σ70 f = some s → FnOK Try.prog f s := sig_ok (l := []) trivial
noncomputable def Λ70 : Nat → Option LSpec := lkp (loopList (bodyOf Try.f70)) []
theorem ok70 : FnOK Try.prog 70 s70 := fn_ok (Λ := Λ70) tab0 σok70 Try.func70 (by kernel_rfl) (show Try.f70.body = some (bodyOf Try.f70) by kernel_rfl) [] rfl (by kernel_rfl) (by exact trivial)
  fun x y h => (show execFn Γ0 E0 σ70 Λ70 Try.f70 s70 x = g70 x by kernel_rfl).trans h

def lv29_3 : List (Nat × Live) := [(0, .val (.list (.pair (.int .i64) (.pair (.int .i64) (.pair (.int .i64) (.pair (.int .i64) .unit)))))), (3, .arr 87 (.pair (.int .i64) (.pair (.int .i64) (.pair (.int .i64) (.pair (.int .i64) .unit))))), (4, .val (.int .i64))]
noncomputable def bl29_3 : List (Nat × Live) := [(3, .arr 87 (.pair (.int .i64) (.pair (.int .i64) (.pair (.int .i64) (.pair (.int .i64) .unit)))))]
noncomputable def rl29_3 : List (Nat × Live) := []
noncomputable def b29_3 (x : (Ty.T (.pair (.list (.pair (.int .i64) (.pair (.int .i64) (.pair (.int .i64) (.pair (.int .i64) .unit))))) (.pair (.list (.pair (.int .i64) (.pair (.int .i64) (.pair (.int .i64) (.pair (.int .i64) .unit))))) (.pair (.int .i64) .unit))))) : Option ((Ty.T (.pair (.list (.pair (.int .i64) (.pair (.int .i64) (.pair (.int .i64) (.pair (.int .i64) .unit))))) (.pair (.list (.pair (.int .i64) (.pair (.int .i64) (.pair (.int .i64) (.pair (.int .i64) .unit))))) (.pair (.int .i64) .unit)))) ⊕ ((Ty.T (.pair (.list (.pair (.int .i64) (.pair (.int .i64) (.pair (.int .i64) (.pair (.int .i64) .unit))))) .unit)) ⊕ (Ty.T .unit))) :=
match (decide (x.2.2.1 < (x.1.length : Int))) with
| true =>
  onSome (idx x.1 x.2.2.1) fun v1 =>
  match g70 (v1, ()) with
  | none => none
  | some v2 =>
  onSome (idx x.2.1 x.2.2.1) fun _ =>
  match x.2.1[x.2.2.1.toNat]? with
  | none => none
  | some v4 =>
  some (.inl (x.1, (x.2.1.set x.2.2.1.toNat (v2.1.1, v2.1.2.1, v2.1.2.2.1, v2.1.2.2.2.1, ())), (IntKind.i64.wrap (x.2.2.1 + (1 : Int))), ()))
| false =>
  some (.inr (.inl (x.2.1, ())))
noncomputable def g29 (x : Ty.T (.pair (.list (.pair (.int .i64) (.pair (.int .i64) (.pair (.int .i64) (.pair (.int .i64) .unit))))) .unit)) : Option (Ty.T (.pair (.list (.pair (.int .i64) (.pair (.int .i64) (.pair (.int .i64) (.pair (.int .i64) .unit))))) .unit)) :=
if 0 ≤ (x.1.length : Int) ∧ (x.1.length : Int) ≤ (x.1.length : Int) then
  room ((x.1.length : Int).toNat) (
    match loopL b29_3 (x.1, (List.replicate (x.1.length : Int).toNat ((0 : Int), (0 : Int), (0 : Int), (0 : Int), ())), (0 : Int), ()) with
    | none => none
    | some (.inl v5) =>
      some (v5.1, ())
    | some (.inr v7) =>
      none)
else none
noncomputable def s29 : Spec := ⟨(.pair (.list (.pair (.int .i64) (.pair (.int .i64) (.pair (.int .i64) (.pair (.int .i64) .unit))))) .unit), (.pair (.list (.pair (.int .i64) (.pair (.int .i64) (.pair (.int .i64) (.pair (.int .i64) .unit))))) .unit), g29, false, none⟩
noncomputable def σ29 : FuncId → Option Spec := sig [(70, s70)]
theorem σok29 : ∀ f s, σ29 f = some s → FnOK Try.prog f s := sig_ok (l := [(70, s70)]) ⟨ok70, trivial⟩
noncomputable def Λ29 : Nat → Option LSpec := lkp (loopList (bodyOf Try.f29)) [⟨lv29_3, 0, bl29_3, rl29_3, loopL b29_3⟩]
theorem lok29_3 (x) : codeK Γ0 E0 σ29 Λ29 Try.f29.ntmps (nthLoop Try.f29 0) (mkF Try.f29.ntmps lv29_3 x) (readK Try.f29.ntmps lv29_3 0 bl29_3 rl29_3) = b29_3 x := by kernel_rfl
theorem ok29 : FnOK Try.prog 29 s29 := fn_ok (Λ := Λ29) tab0 σok29 Try.func29 (by kernel_rfl) (show Try.f29.body = some (bodyOf Try.f29) by kernel_rfl) [⟨lv29_3, 0, bl29_3, rl29_3, loopL b29_3⟩] rfl (by kernel_rfl) (by exact ⟨loop_LOK lok29_3, trivial⟩)
  fun x y h => (show execFn Γ0 E0 σ29 Λ29 Try.f29 s29 x = g29 x by kernel_rfl).trans h

def lv96_2 : List (Nat × Live) := [(0, .val (.list (.pair (.int .i64) (.pair (.int .i64) (.pair (.int .i64) (.pair (.int .i64) .unit)))))), (1, .val (.fn (.pair (.pair (.int .i64) (.pair (.int .i64) (.pair (.int .i64) (.pair (.int .i64) .unit)))) .unit) (.pair .bool .unit))), (7, .val (.int .i64)), (8, .val (.int .i64))]
noncomputable def bl96_2 : List (Nat × Live) := []
noncomputable def rl96_2 : List (Nat × Live) := [(4, .val (.int .i64))]
noncomputable def b96_2 (x : (Ty.T (.pair (.list (.pair (.int .i64) (.pair (.int .i64) (.pair (.int .i64) (.pair (.int .i64) .unit))))) (.pair (.fn (.pair (.pair (.int .i64) (.pair (.int .i64) (.pair (.int .i64) (.pair (.int .i64) .unit)))) .unit) (.pair .bool .unit)) (.pair (.int .i64) (.pair (.int .i64) .unit)))))) : Option ((Ty.T (.pair (.list (.pair (.int .i64) (.pair (.int .i64) (.pair (.int .i64) (.pair (.int .i64) .unit))))) (.pair (.fn (.pair (.pair (.int .i64) (.pair (.int .i64) (.pair (.int .i64) (.pair (.int .i64) .unit)))) .unit) (.pair .bool .unit)) (.pair (.int .i64) (.pair (.int .i64) .unit))))) ⊕ ((Ty.T .unit) ⊕ (Ty.T (.pair (.int .i64) .unit)))) :=
match (decide (x.2.2.2.1 < x.2.2.1)) with
| true =>
  onSome (idx x.1 x.2.2.2.1) fun v1 =>
  match x.2.1 (v1, ()) with
  | none => none
  | some v2 =>
  match v2.1 with
  | true =>
    some (.inr (.inr (x.2.2.2.1, ())))
  | false =>
    some (.inl (x.1, x.2.1, x.2.2.1, (IntKind.i64.wrap (x.2.2.2.1 + (1 : Int))), ()))
| false =>
  some (.inr (.inl (())))
noncomputable def g96 (x : Ty.T (.pair (.list (.pair (.int .i64) (.pair (.int .i64) (.pair (.int .i64) (.pair (.int .i64) .unit))))) (.pair (.fn (.pair (.pair (.int .i64) (.pair (.int .i64) (.pair (.int .i64) (.pair (.int .i64) .unit)))) .unit) (.pair .bool .unit)) .unit))) : Option (Ty.T (.pair (.int .i64) .unit)) :=
match loopL b96_2 (x.1, x.2.1, (x.1.length : Int), (0 : Int), ()) with
| none => none
| some (.inl v3) =>
  some ((-1 : Int), ())
| some (.inr v4) =>
  some (v4.1, ())
noncomputable def s96 : Spec := ⟨(.pair (.list (.pair (.int .i64) (.pair (.int .i64) (.pair (.int .i64) (.pair (.int .i64) .unit))))) (.pair (.fn (.pair (.pair (.int .i64) (.pair (.int .i64) (.pair (.int .i64) (.pair (.int .i64) .unit)))) .unit) (.pair .bool .unit)) .unit)), (.pair (.int .i64) .unit), g96, false, none⟩
noncomputable def σ96 : FuncId → Option Spec := sig []
theorem σok96 : ∀ f s, σ96 f = some s → FnOK Try.prog f s := sig_ok (l := []) trivial
noncomputable def Λ96 : Nat → Option LSpec := lkp (loopList (bodyOf Try.f96)) [⟨lv96_2, 0, bl96_2, rl96_2, loopL b96_2⟩]
theorem lok96_2 (x) : codeK Γ0 E0 σ96 Λ96 Try.f96.ntmps (nthLoop Try.f96 0) (mkF Try.f96.ntmps lv96_2 x) (readK Try.f96.ntmps lv96_2 0 bl96_2 rl96_2) = b96_2 x := by kernel_rfl
theorem ok96 : FnOK Try.prog 96 s96 := fn_ok (Λ := Λ96) tab0 σok96 Try.func96 (by kernel_rfl) (show Try.f96.body = some (bodyOf Try.f96) by kernel_rfl) [⟨lv96_2, 0, bl96_2, rl96_2, loopL b96_2⟩] rfl (by kernel_rfl) (by exact ⟨loop_LOK lok96_2, trivial⟩)
  fun x y h => (show execFn Γ0 E0 σ96 Λ96 Try.f96 s96 x = g96 x by kernel_rfl).trans h

noncomputable def g71 (x : Ty.T (.pair (.list (.pair (.int .i64) (.pair (.int .i64) (.pair (.int .i64) (.pair (.int .i64) .unit))))) (.pair (.fn (.pair (.pair (.int .i64) (.pair (.int .i64) (.pair (.int .i64) (.pair (.int .i64) .unit)))) .unit) (.pair .bool .unit)) .unit))) : Option (Ty.T (.pair .bool .unit)) :=
match g96 (x.1, x.2.1, ()) with
| none => none
| some v1 =>
some ((decide (v1.1 ≥ (0 : Int))), ())
noncomputable def s71 : Spec := ⟨(.pair (.list (.pair (.int .i64) (.pair (.int .i64) (.pair (.int .i64) (.pair (.int .i64) .unit))))) (.pair (.fn (.pair (.pair (.int .i64) (.pair (.int .i64) (.pair (.int .i64) (.pair (.int .i64) .unit)))) .unit) (.pair .bool .unit)) .unit)), (.pair .bool .unit), g71, false, none⟩
noncomputable def σ71 : FuncId → Option Spec := sig [(96, s96)]
theorem σok71 : ∀ f s, σ71 f = some s → FnOK Try.prog f s := sig_ok (l := [(96, s96)]) ⟨ok96, trivial⟩
noncomputable def Λ71 : Nat → Option LSpec := lkp (loopList (bodyOf Try.f71)) []
theorem ok71 : FnOK Try.prog 71 s71 := fn_ok (Λ := Λ71) tab0 σok71 Try.func71 (by kernel_rfl) (show Try.f71.body = some (bodyOf Try.f71) by kernel_rfl) [] rfl (by kernel_rfl) (by exact trivial)
  fun x y h => (show execFn Γ0 E0 σ71 Λ71 Try.f71 s71 x = g71 x by kernel_rfl).trans h

noncomputable def g73 (x : Ty.T (.pair (.pair (.int .i64) (.pair (.int .i64) (.pair (.int .i64) (.pair (.int .i64) .unit)))) (.pair (.pair (.int .i64) (.pair (.int .i64) (.pair (.int .i64) (.pair (.int .i64) .unit)))) .unit))) : Option (Ty.T (.pair .bool .unit)) :=
match (x.1.1 != x.2.1.1) with
| true =>
  some (false, ())
| false =>
  match (x.1.2.1 != x.2.1.2.1) with
  | true =>
    some (false, ())
  | false =>
    match (x.1.2.2.1 != x.2.1.2.2.1) with
    | true =>
      some (false, ())
    | false =>
      match (x.1.2.2.2.1 != x.2.1.2.2.2.1) with
      | true =>
        some (false, ())
      | false =>
        some (true, ())
noncomputable def s73 : Spec := ⟨(.pair (.pair (.int .i64) (.pair (.int .i64) (.pair (.int .i64) (.pair (.int .i64) .unit)))) (.pair (.pair (.int .i64) (.pair (.int .i64) (.pair (.int .i64) (.pair (.int .i64) .unit)))) .unit)), (.pair .bool .unit), g73, false, none⟩
noncomputable def σ73 : FuncId → Option Spec := sig []
theorem σok73 : ∀ f s, σ73 f = some s → FnOK Try.prog f s := sig_ok (l := []) trivial
noncomputable def Λ73 : Nat → Option LSpec := lkp (loopList (bodyOf Try.f73)) []
theorem ok73 : FnOK Try.prog 73 s73 := fn_ok (Λ := Λ73) tab0 σok73 Try.func73 (by kernel_rfl) (show Try.f73.body = some (bodyOf Try.f73) by kernel_rfl) [] rfl (by kernel_rfl) (by exact trivial)
  fun x y h => (show execFn Γ0 E0 σ73 Λ73 Try.f73 s73 x = g73 x by kernel_rfl).trans h

def lv31_4 : List (Nat × Live) := [(0, .val (.list (.pair (.int .i64) (.pair (.int .i64) (.pair (.int .i64) (.pair (.int .i64) .unit)))))), (1, .val (.list (.pair (.int .i64) (.pair (.int .i64) (.pair (.int .i64) (.pair (.int .i64) .unit)))))), (5, .val (.int .i64))]
noncomputable def bl31_4 : List (Nat × Live) := []
noncomputable def rl31_4 : List (Nat × Live) := [(4, .val .bool)]
noncomputable def b31_4 (x : (Ty.T (.pair (.list (.pair (.int .i64) (.pair (.int .i64) (.pair (.int .i64) (.pair (.int .i64) .unit))))) (.pair (.list (.pair (.int .i64) (.pair (.int .i64) (.pair (.int .i64) (.pair (.int .i64) .unit))))) (.pair (.int .i64) .unit))))) : Option ((Ty.T (.pair (.list (.pair (.int .i64) (.pair (.int .i64) (.pair (.int .i64) (.pair (.int .i64) .unit))))) (.pair (.list (.pair (.int .i64) (.pair (.int .i64) (.pair (.int .i64) (.pair (.int .i64) .unit))))) (.pair (.int .i64) .unit)))) ⊕ ((Ty.T .unit) ⊕ (Ty.T (.pair .bool .unit)))) :=
match (decide (x.2.2.1 < (x.1.length : Int))) with
| true =>
  onSome (idx x.1 x.2.2.1) fun v1 =>
  onSome (idx x.2.1 x.2.2.1) fun v2 =>
  match g73 (v1, v2, ()) with
  | none => none
  | some v3 =>
  match (!v3.1) with
  | true =>
    some (.inr (.inr (false, ())))
  | false =>
    some (.inl (x.1, x.2.1, (IntKind.i64.wrap (x.2.2.1 + (1 : Int))), ()))
| false =>
  some (.inr (.inl (())))
noncomputable def g31 (x : Ty.T (.pair (.list (.pair (.int .i64) (.pair (.int .i64) (.pair (.int .i64) (.pair (.int .i64) .unit))))) (.pair (.list (.pair (.int .i64) (.pair (.int .i64) (.pair (.int .i64) (.pair (.int .i64) .unit))))) .unit))) : Option (Ty.T (.pair .bool .unit)) :=
match ((x.1.length : Int) != (x.2.1.length : Int)) with
| true =>
  some (false, ())
| false =>
  match loopL b31_4 (x.1, x.2.1, (0 : Int), ()) with
  | none => none
  | some (.inl v4) =>
    some (true, ())
  | some (.inr v5) =>
    some (v5.1, ())
noncomputable def s31 : Spec := ⟨(.pair (.list (.pair (.int .i64) (.pair (.int .i64) (.pair (.int .i64) (.pair (.int .i64) .unit))))) (.pair (.list (.pair (.int .i64) (.pair (.int .i64) (.pair (.int .i64) (.pair (.int .i64) .unit))))) .unit)), (.pair .bool .unit), g31, false, none⟩
noncomputable def σ31 : FuncId → Option Spec := sig [(73, s73)]
theorem σok31 : ∀ f s, σ31 f = some s → FnOK Try.prog f s := sig_ok (l := [(73, s73)]) ⟨ok73, trivial⟩
noncomputable def Λ31 : Nat → Option LSpec := lkp (loopList (bodyOf Try.f31)) [⟨lv31_4, 0, bl31_4, rl31_4, loopL b31_4⟩]
theorem lok31_4 (x) : codeK Γ0 E0 σ31 Λ31 Try.f31.ntmps (nthLoop Try.f31 0) (mkF Try.f31.ntmps lv31_4 x) (readK Try.f31.ntmps lv31_4 0 bl31_4 rl31_4) = b31_4 x := by kernel_rfl
theorem ok31 : FnOK Try.prog 31 s31 := fn_ok (Λ := Λ31) tab0 σok31 Try.func31 (by kernel_rfl) (show Try.f31.body = some (bodyOf Try.f31) by kernel_rfl) [⟨lv31_4, 0, bl31_4, rl31_4, loopL b31_4⟩] rfl (by kernel_rfl) (by exact ⟨loop_LOK lok31_4, trivial⟩)
  fun x y h => (show execFn Γ0 E0 σ31 Λ31 Try.f31 s31 x = g31 x by kernel_rfl).trans h

noncomputable def g32 (x : Ty.T (.pair (.list (.pair (.pair (.int .i64) (.pair (.int .i64) (.pair (.int .i64) (.pair (.int .i64) (.pair (.int .i64) .unit))))) (.pair (.int .i64) (.pair (.int .i64) .unit)))) (.pair (.int .i64) .unit))) : Option (Ty.T (.pair (.int .i64) .unit)) :=
match (decide ((IntKind.i64.wrap (x.2.1 - (x.1.length : Int))) < (0 : Int))) with
| true =>
  some ((-1 : Int), ())
| false =>
  some ((IntKind.i64.wrap (x.2.1 - (x.1.length : Int))), ())
noncomputable def s32 : Spec := ⟨(.pair (.list (.pair (.pair (.int .i64) (.pair (.int .i64) (.pair (.int .i64) (.pair (.int .i64) (.pair (.int .i64) .unit))))) (.pair (.int .i64) (.pair (.int .i64) .unit)))) (.pair (.int .i64) .unit)), (.pair (.int .i64) .unit), g32, false, none⟩
noncomputable def σ32 : FuncId → Option Spec := sig []
theorem σok32 : ∀ f s, σ32 f = some s → FnOK Try.prog f s := sig_ok (l := []) trivial
noncomputable def Λ32 : Nat → Option LSpec := lkp (loopList (bodyOf Try.f32)) []
theorem ok32 : FnOK Try.prog 32 s32 := fn_ok (Λ := Λ32) tab0 σok32 Try.func32 (by kernel_rfl) (show Try.f32.body = some (bodyOf Try.f32) by kernel_rfl) [] rfl (by kernel_rfl) (by exact trivial)
  fun x y h => (show execFn Γ0 E0 σ32 Λ32 Try.f32 s32 x = g32 x by kernel_rfl).trans h

def lv74_2 : List (Nat × Live) := [(0, .val (.list (.pair (.pair (.int .i64) (.pair (.int .i64) (.pair (.int .i64) (.pair (.int .i64) (.pair (.int .i64) .unit))))) (.pair (.int .i64) (.pair (.int .i64) .unit))))), (3, .val (.int .i64))]
noncomputable def bl74_2 : List (Nat × Live) := [(0, .val (.list (.pair (.pair (.int .i64) (.pair (.int .i64) (.pair (.int .i64) (.pair (.int .i64) (.pair (.int .i64) .unit))))) (.pair (.int .i64) (.pair (.int .i64) .unit)))))]
noncomputable def rl74_2 : List (Nat × Live) := [(2, .val .bool)]
noncomputable def b74_2 (x : (Ty.T (.pair (.list (.pair (.pair (.int .i64) (.pair (.int .i64) (.pair (.int .i64) (.pair (.int .i64) (.pair (.int .i64) .unit))))) (.pair (.int .i64) (.pair (.int .i64) .unit)))) (.pair (.int .i64) .unit)))) : Option ((Ty.T (.pair (.list (.pair (.pair (.int .i64) (.pair (.int .i64) (.pair (.int .i64) (.pair (.int .i64) (.pair (.int .i64) .unit))))) (.pair (.int .i64) (.pair (.int .i64) .unit)))) (.pair (.int .i64) .unit))) ⊕ ((Ty.T (.pair (.list (.pair (.pair (.int .i64) (.pair (.int .i64) (.pair (.int .i64) (.pair (.int .i64) (.pair (.int .i64) .unit))))) (.pair (.int .i64) (.pair (.int .i64) .unit)))) .unit)) ⊕ (Ty.T (.pair .bool .unit)))) :=
match (decide (x.2.1 < (x.1.length : Int))) with
| true =>
  onSome (idx x.1 x.2.1) fun v1 =>
  match g20 (v1, ()) with
  | none => none
  | some v2 =>
  match (!v2.1) with
  | true =>
    some (.inr (.inr (false, ())))
  | false =>
    some (.inl (x.1, (IntKind.i64.wrap (x.2.1 + (1 : Int))), ()))
| false =>
  some (.inr (.inl (x.1, ())))
noncomputable def g74 (x : Ty.T (.pair (.list (.pair (.pair (.int .i64) (.pair (.int .i64) (.pair (.int .i64) (.pair (.int .i64) (.pair (.int .i64) .unit))))) (.pair (.int .i64) (.pair (.int .i64) .unit)))) .unit)) : Option (Ty.T (.pair .bool .unit)) :=
match loopL b74_2 (x.1, (0 : Int), ()) with
| none => none
| some (.inl v3) =>
  some ((decide ((v3.1.length : Int) ≤ (60 : Int))), ())
| some (.inr v4) =>
  some (v4.1, ())
noncomputable def s74 : Spec := ⟨(.pair (.list (.pair (.pair (.int .i64) (.pair (.int .i64) (.pair (.int .i64) (.pair (.int .i64) (.pair (.int .i64) .unit))))) (.pair (.int .i64) (.pair (.int .i64) .unit)))) .unit), (.pair .bool .unit), g74, false, none⟩
noncomputable def σ74 : FuncId → Option Spec := sig [(20, s20)]
theorem σok74 : ∀ f s, σ74 f = some s → FnOK Try.prog f s := sig_ok (l := [(20, s20)]) ⟨ok20, trivial⟩
noncomputable def Λ74 : Nat → Option LSpec := lkp (loopList (bodyOf Try.f74)) [⟨lv74_2, 0, bl74_2, rl74_2, loopL b74_2⟩]
theorem lok74_2 (x) : codeK Γ0 E0 σ74 Λ74 Try.f74.ntmps (nthLoop Try.f74 0) (mkF Try.f74.ntmps lv74_2 x) (readK Try.f74.ntmps lv74_2 0 bl74_2 rl74_2) = b74_2 x := by kernel_rfl
theorem ok74 : FnOK Try.prog 74 s74 := fn_ok (Λ := Λ74) tab0 σok74 Try.func74 (by kernel_rfl) (show Try.f74.body = some (bodyOf Try.f74) by kernel_rfl) [⟨lv74_2, 0, bl74_2, rl74_2, loopL b74_2⟩] rfl (by kernel_rfl) (by exact ⟨loop_LOK lok74_2, trivial⟩)
  fun x y h => (show execFn Γ0 E0 σ74 Λ74 Try.f74 s74 x = g74 x by kernel_rfl).trans h

def lv33_4 : List (Nat × Live) := [(0, .val (.list (.pair (.pair (.int .i64) (.pair (.int .i64) (.pair (.int .i64) (.pair (.int .i64) (.pair (.int .i64) .unit))))) (.pair (.int .i64) (.pair (.int .i64) .unit))))), (4, .val (.int .i64))]
noncomputable def bl33_4 : List (Nat × Live) := []
noncomputable def rl33_4 : List (Nat × Live) := [(2, .val (.int .i64)), (3, .val (.int .i64))]
noncomputable def b33_4 (x : (Ty.T (.pair (.list (.pair (.pair (.int .i64) (.pair (.int .i64) (.pair (.int .i64) (.pair (.int .i64) (.pair (.int .i64) .unit))))) (.pair (.int .i64) (.pair (.int .i64) .unit)))) (.pair (.int .i64) .unit)))) : Option ((Ty.T (.pair (.list (.pair (.pair (.int .i64) (.pair (.int .i64) (.pair (.int .i64) (.pair (.int .i64) (.pair (.int .i64) .unit))))) (.pair (.int .i64) (.pair (.int .i64) .unit)))) (.pair (.int .i64) .unit))) ⊕ ((Ty.T .unit) ⊕ (Ty.T (.pair (.int .i64) (.pair (.int .i64) .unit))))) :=
match (decide (x.2.1 < (x.1.length : Int))) with
| true =>
  onSome (idx x.1 x.2.1) fun v2 =>
  match (v2.2.2.1 != (3 : Int)) with
  | true =>
    some (.inr (.inr (x.2.1, (0 : Int), ())))
  | false =>
    some (.inl (x.1, (IntKind.i64.wrap (x.2.1 + (1 : Int))), ()))
| false =>
  some (.inr (.inl (())))
noncomputable def g33 (x : Ty.T (.pair (.list (.pair (.pair (.int .i64) (.pair (.int .i64) (.pair (.int .i64) (.pair (.int .i64) (.pair (.int .i64) .unit))))) (.pair (.int .i64) (.pair (.int .i64) .unit)))) .unit)) : Option (Ty.T (.pair (.int .i64) (.pair (.int .i64) .unit))) :=
match g74 (x.1, ()) with
| none => none
| some v1 =>
match (!v1.1) with
| true =>
  some ((0 : Int), (1 : Int), ())
| false =>
  match loopL b33_4 (x.1, (0 : Int), ()) with
  | none => none
  | some (.inl v3) =>
    some ((0 : Int), (4 : Int), ())
  | some (.inr v4) =>
    some (v4.1, v4.2.1, ())
noncomputable def s33 : Spec := ⟨(.pair (.list (.pair (.pair (.int .i64) (.pair (.int .i64) (.pair (.int .i64) (.pair (.int .i64) (.pair (.int .i64) .unit))))) (.pair (.int .i64) (.pair (.int .i64) .unit)))) .unit), (.pair (.int .i64) (.pair (.int .i64) .unit)), g33, false, none⟩
noncomputable def σ33 : FuncId → Option Spec := sig [(74, s74)]
theorem σok33 : ∀ f s, σ33 f = some s → FnOK Try.prog f s := sig_ok (l := [(74, s74)]) ⟨ok74, trivial⟩
noncomputable def Λ33 : Nat → Option LSpec := lkp (loopList (bodyOf Try.f33)) [⟨lv33_4, 0, bl33_4, rl33_4, loopL b33_4⟩]
theorem lok33_4 (x) : codeK Γ0 E0 σ33 Λ33 Try.f33.ntmps (nthLoop Try.f33 0) (mkF Try.f33.ntmps lv33_4 x) (readK Try.f33.ntmps lv33_4 0 bl33_4 rl33_4) = b33_4 x := by kernel_rfl
theorem ok33 : FnOK Try.prog 33 s33 := fn_ok (Λ := Λ33) tab0 σok33 Try.func33 (by kernel_rfl) (show Try.f33.body = some (bodyOf Try.f33) by kernel_rfl) [⟨lv33_4, 0, bl33_4, rl33_4, loopL b33_4⟩] rfl (by kernel_rfl) (by exact ⟨loop_LOK lok33_4, trivial⟩)
  fun x y h => (show execFn Γ0 E0 σ33 Λ33 Try.f33 s33 x = g33 x by kernel_rfl).trans h

def lv34_3 : List (Nat × Live) := [(0, .val (.list (.pair (.pair (.int .i64) (.pair (.int .i64) (.pair (.int .i64) (.pair (.int .i64) (.pair (.int .i64) .unit))))) (.pair (.int .i64) (.pair (.int .i64) .unit))))), (3, .arr 35 (.pair (.pair (.int .i64) (.pair (.int .i64) (.pair (.int .i64) (.pair (.int .i64) (.pair (.int .i64) .unit))))) (.pair (.int .i64) (.pair (.int .i64) .unit)))), (4, .val (.int .i64))]
noncomputable def bl34_3 : List (Nat × Live) := [(3, .arr 35 (.pair (.pair (.int .i64) (.pair (.int .i64) (.pair (.int .i64) (.pair (.int .i64) (.pair (.int .i64) .unit))))) (.pair (.int .i64) (.pair (.int .i64) .unit))))]
noncomputable def rl34_3 : List (Nat × Live) := []
noncomputable def b34_3 (x : (Ty.T (.pair (.list (.pair (.pair (.int .i64) (.pair (.int .i64) (.pair (.int .i64) (.pair (.int .i64) (.pair (.int .i64) .unit))))) (.pair (.int .i64) (.pair (.int .i64) .unit)))) (.pair (.list (.pair (.pair (.int .i64) (.pair (.int .i64) (.pair (.int .i64) (.pair (.int .i64) (.pair (.int .i64) .unit))))) (.pair (.int .i64) (.pair (.int .i64) .unit)))) (.pair (.int .i64) .unit))))) : Option ((Ty.T (.pair (.list (.pair (.pair (.int .i64) (.pair (.int .i64) (.pair (.int .i64) (.pair (.int .i64) (.pair (.int .i64) .unit))))) (.pair (.int .i64) (.pair (.int .i64) .unit)))) (.pair (.list (.pair (.pair (.int .i64) (.pair (.int .i64) (.pair (.int .i64) (.pair (.int .i64) (.pair (.int .i64) .unit))))) (.pair (.int .i64) (.pair (.int .i64) .unit)))) (.pair (.int .i64) .unit)))) ⊕ ((Ty.T (.pair (.list (.pair (.pair (.int .i64) (.pair (.int .i64) (.pair (.int .i64) (.pair (.int .i64) (.pair (.int .i64) .unit))))) (.pair (.int .i64) (.pair (.int .i64) .unit)))) .unit)) ⊕ (Ty.T .unit))) :=
match (decide (x.2.2.1 < (x.1.length : Int))) with
| true =>
  onSome (idx x.1 x.2.2.1) fun v1 =>
  match g21 (v1, ()) with
  | none => none
  | some v2 =>
  onSome (idx x.2.1 x.2.2.1) fun _ =>
  match x.2.1[x.2.2.1.toNat]? with
  | none => none
  | some v4 =>
  some (.inl (x.1, (x.2.1.set x.2.2.1.toNat ((v2.1.1.1, v2.1.1.2.1, v2.1.1.2.2.1, v2.1.1.2.2.2.1, v2.1.1.2.2.2.2.1, ()), v2.1.2.1, v2.1.2.2.1, ())), (IntKind.i64.wrap (x.2.2.1 + (1 : Int))), ()))
| false =>
  some (.inr (.inl (x.2.1, ())))
noncomputable def g34 (x : Ty.T (.pair (.list (.pair (.pair (.int .i64) (.pair (.int .i64) (.pair (.int .i64) (.pair (.int .i64) (.pair (.int .i64) .unit))))) (.pair (.int .i64) (.pair (.int .i64) .unit)))) .unit)) : Option (Ty.T (.pair (.list (.pair (.pair (.int .i64) (.pair (.int .i64) (.pair (.int .i64) (.pair (.int .i64) (.pair (.int .i64) .unit))))) (.pair (.int .i64) (.pair (.int .i64) .unit)))) .unit)) :=
if 0 ≤ (x.1.length : Int) ∧ (x.1.length : Int) ≤ (x.1.length : Int) then
  room ((x.1.length : Int).toNat) (
    match loopL b34_3 (x.1, (List.replicate (x.1.length : Int).toNat (((0 : Int), (0 : Int), (0 : Int), (0 : Int), (0 : Int), ()), (0 : Int), (0 : Int), ())), (0 : Int), ()) with
    | none => none
    | some (.inl v5) =>
      some (v5.1, ())
    | some (.inr v7) =>
      none)
else none
noncomputable def s34 : Spec := ⟨(.pair (.list (.pair (.pair (.int .i64) (.pair (.int .i64) (.pair (.int .i64) (.pair (.int .i64) (.pair (.int .i64) .unit))))) (.pair (.int .i64) (.pair (.int .i64) .unit)))) .unit), (.pair (.list (.pair (.pair (.int .i64) (.pair (.int .i64) (.pair (.int .i64) (.pair (.int .i64) (.pair (.int .i64) .unit))))) (.pair (.int .i64) (.pair (.int .i64) .unit)))) .unit), g34, false, none⟩
noncomputable def σ34 : FuncId → Option Spec := sig [(21, s21)]
theorem σok34 : ∀ f s, σ34 f = some s → FnOK Try.prog f s := sig_ok (l := [(21, s21)]) ⟨ok21, trivial⟩
noncomputable def Λ34 : Nat → Option LSpec := lkp (loopList (bodyOf Try.f34)) [⟨lv34_3, 0, bl34_3, rl34_3, loopL b34_3⟩]
theorem lok34_3 (x) : codeK Γ0 E0 σ34 Λ34 Try.f34.ntmps (nthLoop Try.f34 0) (mkF Try.f34.ntmps lv34_3 x) (readK Try.f34.ntmps lv34_3 0 bl34_3 rl34_3) = b34_3 x := by kernel_rfl
theorem ok34 : FnOK Try.prog 34 s34 := fn_ok (Λ := Λ34) tab0 σok34 Try.func34 (by kernel_rfl) (show Try.f34.body = some (bodyOf Try.f34) by kernel_rfl) [⟨lv34_3, 0, bl34_3, rl34_3, loopL b34_3⟩] rfl (by kernel_rfl) (by exact ⟨loop_LOK lok34_3, trivial⟩)
  fun x y h => (show execFn Γ0 E0 σ34 Λ34 Try.f34 s34 x = g34 x by kernel_rfl).trans h

def lv76_2 : List (Nat × Live) := [(0, .val (.list (.pair (.pair (.int .i64) (.pair (.int .i64) (.pair (.int .i64) (.pair (.int .i64) (.pair (.int .i64) .unit))))) (.pair (.int .i64) (.pair (.int .i64) .unit))))), (1, .val (.fn (.pair (.pair (.pair (.int .i64) (.pair (.int .i64) (.pair (.int .i64) (.pair (.int .i64) (.pair (.int .i64) .unit))))) (.pair (.int .i64) (.pair (.int .i64) .unit))) .unit) (.pair .bool .unit))), (7, .val (.int .i64)), (8, .val (.int .i64))]
noncomputable def bl76_2 : List (Nat × Live) := []
noncomputable def rl76_2 : List (Nat × Live) := [(4, .val (.int .i64))]
noncomputable def b76_2 (x : (Ty.T (.pair (.list (.pair (.pair (.int .i64) (.pair (.int .i64) (.pair (.int .i64) (.pair (.int .i64) (.pair (.int .i64) .unit))))) (.pair (.int .i64) (.pair (.int .i64) .unit)))) (.pair (.fn (.pair (.pair (.pair (.int .i64) (.pair (.int .i64) (.pair (.int .i64) (.pair (.int .i64) (.pair (.int .i64) .unit))))) (.pair (.int .i64) (.pair (.int .i64) .unit))) .unit) (.pair .bool .unit)) (.pair (.int .i64) (.pair (.int .i64) .unit)))))) : Option ((Ty.T (.pair (.list (.pair (.pair (.int .i64) (.pair (.int .i64) (.pair (.int .i64) (.pair (.int .i64) (.pair (.int .i64) .unit))))) (.pair (.int .i64) (.pair (.int .i64) .unit)))) (.pair (.fn (.pair (.pair (.pair (.int .i64) (.pair (.int .i64) (.pair (.int .i64) (.pair (.int .i64) (.pair (.int .i64) .unit))))) (.pair (.int .i64) (.pair (.int .i64) .unit))) .unit) (.pair .bool .unit)) (.pair (.int .i64) (.pair (.int .i64) .unit))))) ⊕ ((Ty.T .unit) ⊕ (Ty.T (.pair (.int .i64) .unit)))) :=
match (decide (x.2.2.2.1 < x.2.2.1)) with
| true =>
  onSome (idx x.1 x.2.2.2.1) fun v1 =>
  match x.2.1 (v1, ()) with
  | none => none
  | some v2 =>
  match v2.1 with
  | true =>
    some (.inr (.inr (x.2.2.2.1, ())))
  | false =>
    some (.inl (x.1, x.2.1, x.2.2.1, (IntKind.i64.wrap (x.2.2.2.1 + (1 : Int))), ()))
| false =>
  some (.inr (.inl (())))
noncomputable def g76 (x : Ty.T (.pair (.list (.pair (.pair (.int .i64) (.pair (.int .i64) (.pair (.int .i64) (.pair (.int .i64) (.pair (.int .i64) .unit))))) (.pair (.int .i64) (.pair (.int .i64) .unit)))) (.pair (.fn (.pair (.pair (.pair (.int .i64) (.pair (.int .i64) (.pair (.int .i64) (.pair (.int .i64) (.pair (.int .i64) .unit))))) (.pair (.int .i64) (.pair (.int .i64) .unit))) .unit) (.pair .bool .unit)) .unit))) : Option (Ty.T (.pair (.int .i64) .unit)) :=
match loopL b76_2 (x.1, x.2.1, (x.1.length : Int), (0 : Int), ()) with
| none => none
| some (.inl v3) =>
  some ((-1 : Int), ())
| some (.inr v4) =>
  some (v4.1, ())
noncomputable def s76 : Spec := ⟨(.pair (.list (.pair (.pair (.int .i64) (.pair (.int .i64) (.pair (.int .i64) (.pair (.int .i64) (.pair (.int .i64) .unit))))) (.pair (.int .i64) (.pair (.int .i64) .unit)))) (.pair (.fn (.pair (.pair (.pair (.int .i64) (.pair (.int .i64) (.pair (.int .i64) (.pair (.int .i64) (.pair (.int .i64) .unit))))) (.pair (.int .i64) (.pair (.int .i64) .unit))) .unit) (.pair .bool .unit)) .unit)), (.pair (.int .i64) .unit), g76, false, none⟩
noncomputable def σ76 : FuncId → Option Spec := sig []
theorem σok76 : ∀ f s, σ76 f = some s → FnOK Try.prog f s := sig_ok (l := []) trivial
noncomputable def Λ76 : Nat → Option LSpec := lkp (loopList (bodyOf Try.f76)) [⟨lv76_2, 0, bl76_2, rl76_2, loopL b76_2⟩]
theorem lok76_2 (x) : codeK Γ0 E0 σ76 Λ76 Try.f76.ntmps (nthLoop Try.f76 0) (mkF Try.f76.ntmps lv76_2 x) (readK Try.f76.ntmps lv76_2 0 bl76_2 rl76_2) = b76_2 x := by kernel_rfl
theorem ok76 : FnOK Try.prog 76 s76 := fn_ok (Λ := Λ76) tab0 σok76 Try.func76 (by kernel_rfl) (show Try.f76.body = some (bodyOf Try.f76) by kernel_rfl) [⟨lv76_2, 0, bl76_2, rl76_2, loopL b76_2⟩] rfl (by kernel_rfl) (by exact ⟨loop_LOK lok76_2, trivial⟩)
  fun x y h => (show execFn Γ0 E0 σ76 Λ76 Try.f76 s76 x = g76 x by kernel_rfl).trans h

noncomputable def g97 (x : Ty.T (.pair (.list (.pair (.pair (.int .i64) (.pair (.int .i64) (.pair (.int .i64) (.pair (.int .i64) (.pair (.int .i64) .unit))))) (.pair (.int .i64) (.pair (.int .i64) .unit)))) (.pair (.fn (.pair (.pair (.pair (.int .i64) (.pair (.int .i64) (.pair (.int .i64) (.pair (.int .i64) (.pair (.int .i64) .unit))))) (.pair (.int .i64) (.pair (.int .i64) .unit))) .unit) (.pair .bool .unit)) .unit))) : Option (Ty.T (.pair .bool .unit)) :=
match g76 (x.1, x.2.1, ()) with
| none => none
| some v1 =>
some ((decide (v1.1 ≥ (0 : Int))), ())
noncomputable def s97 : Spec := ⟨(.pair (.list (.pair (.pair (.int .i64) (.pair (.int .i64) (.pair (.int .i64) (.pair (.int .i64) (.pair (.int .i64) .unit))))) (.pair (.int .i64) (.pair (.int .i64) .unit)))) (.pair (.fn (.pair (.pair (.pair (.int .i64) (.pair (.int .i64) (.pair (.int .i64) (.pair (.int .i64) (.pair (.int .i64) .unit))))) (.pair (.int .i64) (.pair (.int .i64) .unit))) .unit) (.pair .bool .unit)) .unit)), (.pair .bool .unit), g97, false, none⟩
noncomputable def σ97 : FuncId → Option Spec := sig [(76, s76)]
theorem σok97 : ∀ f s, σ97 f = some s → FnOK Try.prog f s := sig_ok (l := [(76, s76)]) ⟨ok76, trivial⟩
noncomputable def Λ97 : Nat → Option LSpec := lkp (loopList (bodyOf Try.f97)) []
theorem ok97 : FnOK Try.prog 97 s97 := fn_ok (Λ := Λ97) tab0 σok97 Try.func97 (by kernel_rfl) (show Try.f97.body = some (bodyOf Try.f97) by kernel_rfl) [] rfl (by kernel_rfl) (by exact trivial)
  fun x y h => (show execFn Γ0 E0 σ97 Λ97 Try.f97 s97 x = g97 x by kernel_rfl).trans h

noncomputable def g98 (x : Ty.T (.pair (.pair (.pair (.int .i64) (.pair (.int .i64) (.pair (.int .i64) (.pair (.int .i64) (.pair (.int .i64) .unit))))) (.pair (.int .i64) (.pair (.int .i64) .unit))) .unit)) : Option (Ty.T (.pair .bool .unit)) :=
match g22 (((x.1.1.1, x.1.1.2.1, x.1.1.2.2.1, x.1.1.2.2.2.1, x.1.1.2.2.2.2.1, ()), x.1.2.1, x.1.2.2.1, ()), ()) with
| none => none
| some v1 =>
some ((!v1.1), ())
noncomputable def s98 : Spec := ⟨(.pair (.pair (.pair (.int .i64) (.pair (.int .i64) (.pair (.int .i64) (.pair (.int .i64) (.pair (.int .i64) .unit))))) (.pair (.int .i64) (.pair (.int .i64) .unit))) .unit), (.pair .bool .unit), g98, false, none⟩
noncomputable def σ98 : FuncId → Option Spec := sig [(22, s22)]
theorem σok98 : ∀ f s, σ98 f = some s → FnOK Try.prog f s := sig_ok (l := [(22, s22)]) ⟨ok22, trivial⟩
noncomputable def Λ98 : Nat → Option LSpec := lkp (loopList (bodyOf Try.f98)) []
theorem ok98 : FnOK Try.prog 98 s98 := fn_ok (Λ := Λ98) tab0 σok98 Try.func98 (by kernel_rfl) (show Try.f98.body = some (bodyOf Try.f98) by kernel_rfl) [] rfl (by kernel_rfl) (by exact trivial)
  fun x y h => (show execFn Γ0 E0 σ98 Λ98 Try.f98 s98 x = g98 x by kernel_rfl).trans h

noncomputable def g75 (x : Ty.T (.pair (.list (.pair (.pair (.int .i64) (.pair (.int .i64) (.pair (.int .i64) (.pair (.int .i64) (.pair (.int .i64) .unit))))) (.pair (.int .i64) (.pair (.int .i64) .unit)))) .unit)) : Option (Ty.T (.pair .bool .unit)) :=
match (decide ((x.1.length : Int) ≤ (60 : Int))) with
| true =>
  match g97 (x.1, g98, ()) with
  | none => none
  | some v1 =>
  some ((!v1.1), ())
| false =>
  some (false, ())
noncomputable def s75 : Spec := ⟨(.pair (.list (.pair (.pair (.int .i64) (.pair (.int .i64) (.pair (.int .i64) (.pair (.int .i64) (.pair (.int .i64) .unit))))) (.pair (.int .i64) (.pair (.int .i64) .unit)))) .unit), (.pair .bool .unit), g75, false, none⟩
noncomputable def σ75 : FuncId → Option Spec := sig [(97, s97), (98, s98)]
theorem σok75 : ∀ f s, σ75 f = some s → FnOK Try.prog f s := sig_ok (l := [(97, s97), (98, s98)]) ⟨ok97, ok98, trivial⟩
noncomputable def Λ75 : Nat → Option LSpec := lkp (loopList (bodyOf Try.f75)) []
theorem ok75 : FnOK Try.prog 75 s75 := fn_ok (Λ := Λ75) tab0 σok75 Try.func75 (by kernel_rfl) (show Try.f75.body = some (bodyOf Try.f75) by kernel_rfl) [] rfl (by kernel_rfl) (by exact trivial)
  fun x y h => (show execFn Γ0 E0 σ75 Λ75 Try.f75 s75 x = g75 x by kernel_rfl).trans h

noncomputable def g77 (x : Ty.T (.pair (.pair (.pair (.int .i64) (.pair (.int .i64) (.pair (.int .i64) (.pair (.int .i64) (.pair (.int .i64) .unit))))) (.pair (.int .i64) (.pair (.int .i64) .unit))) .unit)) : Option (Ty.T (.pair .bool .unit)) :=
some ((x.1.2.2.1 != (3 : Int)), ())
noncomputable def s77 : Spec := ⟨(.pair (.pair (.pair (.int .i64) (.pair (.int .i64) (.pair (.int .i64) (.pair (.int .i64) (.pair (.int .i64) .unit))))) (.pair (.int .i64) (.pair (.int .i64) .unit))) .unit), (.pair .bool .unit), g77, false, none⟩
noncomputable def σ77 : FuncId → Option Spec := sig []
theorem σok77 : ∀ f s, σ77 f = some s → FnOK Try.prog f s := sig_ok (l := []) trivial
noncomputable def Λ77 : Nat → Option LSpec := lkp (loopList (bodyOf Try.f77)) []
theorem ok77 : FnOK Try.prog 77 s77 := fn_ok (Λ := Λ77) tab0 σok77 Try.func77 (by kernel_rfl) (show Try.f77.body = some (bodyOf Try.f77) by kernel_rfl) [] rfl (by kernel_rfl) (by exact trivial)
  fun x y h => (show execFn Γ0 E0 σ77 Λ77 Try.f77 s77 x = g77 x by kernel_rfl).trans h

noncomputable def g35 (x : Ty.T (.pair (.list (.pair (.pair (.int .i64) (.pair (.int .i64) (.pair (.int .i64) (.pair (.int .i64) (.pair (.int .i64) .unit))))) (.pair (.int .i64) (.pair (.int .i64) .unit)))) .unit)) : Option (Ty.T (.pair (.int .i64) (.pair (.int .i64) .unit))) :=
match g75 (x.1, ()) with
| none => none
| some v1 =>
match (!v1.1) with
| true =>
  some ((0 : Int), (1 : Int), ())
| false =>
  match g76 (x.1, g77, ()) with
  | none => none
  | some v2 =>
  match (decide (v2.1 < (0 : Int))) with
  | true =>
    some ((0 : Int), (4 : Int), ())
  | false =>
    some (v2.1, (0 : Int), ())
noncomputable def s35 : Spec := ⟨(.pair (.list (.pair (.pair (.int .i64) (.pair (.int .i64) (.pair (.int .i64) (.pair (.int .i64) (.pair (.int .i64) .unit))))) (.pair (.int .i64) (.pair (.int .i64) .unit)))) .unit), (.pair (.int .i64) (.pair (.int .i64) .unit)), g35, false, none⟩
noncomputable def σ35 : FuncId → Option Spec := sig [(75, s75), (76, s76), (77, s77)]
theorem σok35 : ∀ f s, σ35 f = some s → FnOK Try.prog f s := sig_ok (l := [(75, s75), (76, s76), (77, s77)]) ⟨ok75, ok76, ok77, trivial⟩
noncomputable def Λ35 : Nat → Option LSpec := lkp (loopList (bodyOf Try.f35)) []
theorem ok35 : FnOK Try.prog 35 s35 := fn_ok (Λ := Λ35) tab0 σok35 Try.func35 (by kernel_rfl) (show Try.f35.body = some (bodyOf Try.f35) by kernel_rfl) [] rfl (by kernel_rfl) (by exact trivial)
  fun x y h => (show execFn Γ0 E0 σ35 Λ35 Try.f35 s35 x = g35 x by kernel_rfl).trans h

noncomputable def g99 (x : Ty.T (.pair (.pair (.int .i64) (.pair (.int .i64) (.pair (.int .i64) (.pair (.int .i64) (.pair (.int .i64) .unit))))) (.pair (.pair (.int .i64) (.pair (.int .i64) (.pair (.int .i64) (.pair (.int .i64) (.pair (.int .i64) .unit))))) .unit))) : Option (Ty.T (.pair .bool .unit)) :=
match (x.1.1 != x.2.1.1) with
| true =>
  some (false, ())
| false =>
  match (x.1.2.1 != x.2.1.2.1) with
  | true =>
    some (false, ())
  | false =>
    match (x.1.2.2.1 != x.2.1.2.2.1) with
    | true =>
      some (false, ())
    | false =>
      match (x.1.2.2.2.1 != x.2.1.2.2.2.1) with
      | true =>
        some (false, ())
      | false =>
        match (x.1.2.2.2.2.1 != x.2.1.2.2.2.2.1) with
        | true =>
          some (false, ())
        | false =>
          some (true, ())
noncomputable def s99 : Spec := ⟨(.pair (.pair (.int .i64) (.pair (.int .i64) (.pair (.int .i64) (.pair (.int .i64) (.pair (.int .i64) .unit))))) (.pair (.pair (.int .i64) (.pair (.int .i64) (.pair (.int .i64) (.pair (.int .i64) (.pair (.int .i64) .unit))))) .unit)), (.pair .bool .unit), g99, false, none⟩
noncomputable def σ99 : FuncId → Option Spec := sig []
theorem σok99 : ∀ f s, σ99 f = some s → FnOK Try.prog f s := sig_ok (l := []) trivial
noncomputable def Λ99 : Nat → Option LSpec := lkp (loopList (bodyOf Try.f99)) []
theorem ok99 : FnOK Try.prog 99 s99 := fn_ok (Λ := Λ99) tab0 σok99 Try.func99 (by kernel_rfl) (show Try.f99.body = some (bodyOf Try.f99) by kernel_rfl) [] rfl (by kernel_rfl) (by exact trivial)
  fun x y h => (show execFn Γ0 E0 σ99 Λ99 Try.f99 s99 x = g99 x by kernel_rfl).trans h

noncomputable def g78 (x : Ty.T (.pair (.pair (.pair (.int .i64) (.pair (.int .i64) (.pair (.int .i64) (.pair (.int .i64) (.pair (.int .i64) .unit))))) (.pair (.int .i64) (.pair (.int .i64) .unit))) (.pair (.pair (.pair (.int .i64) (.pair (.int .i64) (.pair (.int .i64) (.pair (.int .i64) (.pair (.int .i64) .unit))))) (.pair (.int .i64) (.pair (.int .i64) .unit))) .unit))) : Option (Ty.T (.pair .bool .unit)) :=
match g99 ((x.1.1.1, x.1.1.2.1, x.1.1.2.2.1, x.1.1.2.2.2.1, x.1.1.2.2.2.2.1, ()), (x.2.1.1.1, x.2.1.1.2.1, x.2.1.1.2.2.1, x.2.1.1.2.2.2.1, x.2.1.1.2.2.2.2.1, ()), ()) with
| none => none
| some v1 =>
match (!v1.1) with
| true =>
  some (false, ())
| false =>
  match (x.1.2.1 != x.2.1.2.1) with
  | true =>
    some (false, ())
  | false =>
    match (x.1.2.2.1 != x.2.1.2.2.1) with
    | true =>
      some (false, ())
    | false =>
      some (true, ())
noncomputable def s78 : Spec := ⟨(.pair (.pair (.pair (.int .i64) (.pair (.int .i64) (.pair (.int .i64) (.pair (.int .i64) (.pair (.int .i64) .unit))))) (.pair (.int .i64) (.pair (.int .i64) .unit))) (.pair (.pair (.pair (.int .i64) (.pair (.int .i64) (.pair (.int .i64) (.pair (.int .i64) (.pair (.int .i64) .unit))))) (.pair (.int .i64) (.pair (.int .i64) .unit))) .unit)), (.pair .bool .unit), g78, false, none⟩
noncomputable def σ78 : FuncId → Option Spec := sig [(99, s99)]
theorem σok78 : ∀ f s, σ78 f = some s → FnOK Try.prog f s := sig_ok (l := [(99, s99)]) ⟨ok99, trivial⟩
noncomputable def Λ78 : Nat → Option LSpec := lkp (loopList (bodyOf Try.f78)) []
theorem ok78 : FnOK Try.prog 78 s78 := fn_ok (Λ := Λ78) tab0 σok78 Try.func78 (by kernel_rfl) (show Try.f78.body = some (bodyOf Try.f78) by kernel_rfl) [] rfl (by kernel_rfl) (by exact trivial)
  fun x y h => (show execFn Γ0 E0 σ78 Λ78 Try.f78 s78 x = g78 x by kernel_rfl).trans h

def lv36_4 : List (Nat × Live) := [(0, .val (.list (.pair (.pair (.int .i64) (.pair (.int .i64) (.pair (.int .i64) (.pair (.int .i64) (.pair (.int .i64) .unit))))) (.pair (.int .i64) (.pair (.int .i64) .unit))))), (1, .val (.list (.pair (.pair (.int .i64) (.pair (.int .i64) (.pair (.int .i64) (.pair (.int .i64) (.pair (.int .i64) .unit))))) (.pair (.int .i64) (.pair (.int .i64) .unit))))), (5, .val (.int .i64))]
noncomputable def bl36_4 : List (Nat × Live) := []
noncomputable def rl36_4 : List (Nat × Live) := [(4, .val .bool)]
noncomputable def b36_4 (x : (Ty.T (.pair (.list (.pair (.pair (.int .i64) (.pair (.int .i64) (.pair (.int .i64) (.pair (.int .i64) (.pair (.int .i64) .unit))))) (.pair (.int .i64) (.pair (.int .i64) .unit)))) (.pair (.list (.pair (.pair (.int .i64) (.pair (.int .i64) (.pair (.int .i64) (.pair (.int .i64) (.pair (.int .i64) .unit))))) (.pair (.int .i64) (.pair (.int .i64) .unit)))) (.pair (.int .i64) .unit))))) : Option ((Ty.T (.pair (.list (.pair (.pair (.int .i64) (.pair (.int .i64) (.pair (.int .i64) (.pair (.int .i64) (.pair (.int .i64) .unit))))) (.pair (.int .i64) (.pair (.int .i64) .unit)))) (.pair (.list (.pair (.pair (.int .i64) (.pair (.int .i64) (.pair (.int .i64) (.pair (.int .i64) (.pair (.int .i64) .unit))))) (.pair (.int .i64) (.pair (.int .i64) .unit)))) (.pair (.int .i64) .unit)))) ⊕ ((Ty.T .unit) ⊕ (Ty.T (.pair .bool .unit)))) :=
match (decide (x.2.2.1 < (x.1.length : Int))) with
| true =>
  onSome (idx x.1 x.2.2.1) fun v1 =>
  onSome (idx x.2.1 x.2.2.1) fun v2 =>
  match g78 (v1, v2, ()) with
  | none => none
  | some v3 =>
  match (!v3.1) with
  | true =>
    some (.inr (.inr (false, ())))
  | false =>
    some (.inl (x.1, x.2.1, (IntKind.i64.wrap (x.2.2.1 + (1 : Int))), ()))
| false =>
  some (.inr (.inl (())))
noncomputable def g36 (x : Ty.T (.pair (.list (.pair (.pair (.int .i64) (.pair (.int .i64) (.pair (.int .i64) (.pair (.int .i64) (.pair (.int .i64) .unit))))) (.pair (.int .i64) (.pair (.int .i64) .unit)))) (.pair (.list (.pair (.pair (.int .i64) (.pair (.int .i64) (.pair (.int .i64) (.pair (.int .i64) (.pair (.int .i64) .unit))))) (.pair (.int .i64) (.pair (.int .i64) .unit)))) .unit))) : Option (Ty.T (.pair .bool .unit)) :=
match ((x.1.length : Int) != (x.2.1.length : Int)) with
| true =>
  some (false, ())
| false =>
  match loopL b36_4 (x.1, x.2.1, (0 : Int), ()) with
  | none => none
  | some (.inl v4) =>
    some (true, ())
  | some (.inr v5) =>
    some (v5.1, ())
noncomputable def s36 : Spec := ⟨(.pair (.list (.pair (.pair (.int .i64) (.pair (.int .i64) (.pair (.int .i64) (.pair (.int .i64) (.pair (.int .i64) .unit))))) (.pair (.int .i64) (.pair (.int .i64) .unit)))) (.pair (.list (.pair (.pair (.int .i64) (.pair (.int .i64) (.pair (.int .i64) (.pair (.int .i64) (.pair (.int .i64) .unit))))) (.pair (.int .i64) (.pair (.int .i64) .unit)))) .unit)), (.pair .bool .unit), g36, false, none⟩
noncomputable def σ36 : FuncId → Option Spec := sig [(78, s78)]
theorem σok36 : ∀ f s, σ36 f = some s → FnOK Try.prog f s := sig_ok (l := [(78, s78)]) ⟨ok78, trivial⟩
noncomputable def Λ36 : Nat → Option LSpec := lkp (loopList (bodyOf Try.f36)) [⟨lv36_4, 0, bl36_4, rl36_4, loopL b36_4⟩]
theorem lok36_4 (x) : codeK Γ0 E0 σ36 Λ36 Try.f36.ntmps (nthLoop Try.f36 0) (mkF Try.f36.ntmps lv36_4 x) (readK Try.f36.ntmps lv36_4 0 bl36_4 rl36_4) = b36_4 x := by kernel_rfl
theorem ok36 : FnOK Try.prog 36 s36 := fn_ok (Λ := Λ36) tab0 σok36 Try.func36 (by kernel_rfl) (show Try.f36.body = some (bodyOf Try.f36) by kernel_rfl) [⟨lv36_4, 0, bl36_4, rl36_4, loopL b36_4⟩] rfl (by kernel_rfl) (by exact ⟨loop_LOK lok36_4, trivial⟩)
  fun x y h => (show execFn Γ0 E0 σ36 Λ36 Try.f36 s36 x = g36 x by kernel_rfl).trans h

noncomputable def g8 (x : Ty.T (.pair (.list (.pair (.pair (.int .i64) (.pair (.int .i64) (.pair (.int .i64) (.pair (.int .i64) (.pair (.int .i64) .unit))))) (.pair (.int .i64) (.pair (.int .i64) .unit)))) .unit)) : Option (Ty.T (.pair .bool .unit)) :=
match g32 (x.1, (1048576 : Int), ()) with
| none => none
| some v1 =>
match (decide (v1.1 < (0 : Int))) with
| true =>
  some (true, ())
| false =>
  match g34 (x.1, ()) with
  | none => none
  | some v2 =>
  match g33 (v2.1, ()) with
  | none => none
  | some v3 =>
  match g34 (x.1, ()) with
  | none => none
  | some v4 =>
  match g35 (v4.1, ()) with
  | none => none
  | some v5 =>
  match (v5.1 != v3.1) with
  | true =>
    some (false, ())
  | false =>
    match (v5.2.1 != v3.2.1) with
    | true =>
      some (false, ())
    | false =>
      match g34 (x.1, ()) with
      | none => none
      | some v6 =>
      match g36 (v4.1, v6.1, ()) with
      | none => none
      | some v7 =>
      match (!v7.1) with
      | true =>
        some (false, ())
      | false =>
        some (true, ())
noncomputable def s8 : Spec := ⟨(.pair (.list (.pair (.pair (.int .i64) (.pair (.int .i64) (.pair (.int .i64) (.pair (.int .i64) (.pair (.int .i64) .unit))))) (.pair (.int .i64) (.pair (.int .i64) .unit)))) .unit), (.pair .bool .unit), g8, false, none⟩
noncomputable def σ8 : FuncId → Option Spec := sig [(32, s32), (33, s33), (34, s34), (35, s35), (36, s36)]
theorem σok8 : ∀ f s, σ8 f = some s → FnOK Try.prog f s := sig_ok (l := [(32, s32), (33, s33), (34, s34), (35, s35), (36, s36)]) ⟨ok32, ok33, ok34, ok35, ok36, trivial⟩
noncomputable def Λ8 : Nat → Option LSpec := lkp (loopList (bodyOf Try.f8)) []
theorem ok8 : FnOK Try.prog 8 s8 := fn_ok (Λ := Λ8) tab0 σok8 Try.func8 (by kernel_rfl) (show Try.f8.body = some (bodyOf Try.f8) by kernel_rfl) [] rfl (by kernel_rfl) (by exact trivial)
  fun x y h => (show execFn Γ0 E0 σ8 Λ8 Try.f8 s8 x = g8 x by kernel_rfl).trans h

noncomputable def g37 (x : Ty.T (.pair (.int .i64) .unit)) : Option (Ty.T (.pair (.list (.pair (.int .i64) (.pair (.int .i64) (.pair (.list (.pair (.int .i64) (.pair (.int .i64) (.pair (.int .i64) (.pair (.int .i64) .unit))))) (.pair (.list (.pair (.int .i64) (.pair (.int .i64) (.pair (.int .i64) (.pair (.int .i64) .unit))))) .unit))))) (.pair (.int .i64) .unit))) :=
match g60 (x.1, (0 : Int), (40 : Int), ()) with
| none => none
| some v1 =>
match (!v1.1) with
| true =>
  some ([], (3 : Int), ())
| false =>
  if 0 ≤ x.1 ∧ x.1 ≤ x.1 then
    room (x.1.toNat) (
      some ((List.replicate x.1.toNat ((0 : Int), (0 : Int), [], [], ())), (0 : Int), ()))
  else none
noncomputable def s37 : Spec := ⟨(.pair (.int .i64) .unit), (.pair (.list (.pair (.int .i64) (.pair (.int .i64) (.pair (.list (.pair (.int .i64) (.pair (.int .i64) (.pair (.int .i64) (.pair (.int .i64) .unit))))) (.pair (.list (.pair (.int .i64) (.pair (.int .i64) (.pair (.int .i64) (.pair (.int .i64) .unit))))) .unit))))) (.pair (.int .i64) .unit)), g37, false, none⟩
noncomputable def σ37 : FuncId → Option Spec := sig [(60, s60)]
theorem σok37 : ∀ f s, σ37 f = some s → FnOK Try.prog f s := sig_ok (l := [(60, s60)]) ⟨ok60, trivial⟩
noncomputable def Λ37 : Nat → Option LSpec := lkp (loopList (bodyOf Try.f37)) []
theorem ok37 : FnOK Try.prog 37 s37 := fn_ok (Λ := Λ37) tab0 σok37 Try.func37 (by kernel_rfl) (show Try.f37.body = some (bodyOf Try.f37) by kernel_rfl) [] rfl (by kernel_rfl) (by exact trivial)
  fun x y h => (show execFn Γ0 E0 σ37 Λ37 Try.f37 s37 x = g37 x by kernel_rfl).trans h

noncomputable def g38 (x : Ty.T (.pair (.int .i64) .unit)) : Option (Ty.T (.pair (.list (.pair (.int .i64) (.pair (.int .i64) (.pair (.list (.pair (.int .i64) (.pair (.int .i64) (.pair (.int .i64) (.pair (.int .i64) .unit))))) (.pair (.list (.pair (.int .i64) (.pair (.int .i64) (.pair (.int .i64) (.pair (.int .i64) .unit))))) .unit))))) (.pair (.int .i64) .unit))) :=
match g62 (x.1, (0 : Int), (40 : Int), ()) with
| none => none
| some v1 =>
match (!v1.1) with
| true =>
  some ([], (3 : Int), ())
| false =>
  if 0 ≤ x.1 ∧ x.1 ≤ x.1 then
    room (x.1.toNat) (
      some ((List.replicate x.1.toNat ((0 : Int), (0 : Int), [], [], ())), (0 : Int), ()))
  else none
noncomputable def s38 : Spec := ⟨(.pair (.int .i64) .unit), (.pair (.list (.pair (.int .i64) (.pair (.int .i64) (.pair (.list (.pair (.int .i64) (.pair (.int .i64) (.pair (.int .i64) (.pair (.int .i64) .unit))))) (.pair (.list (.pair (.int .i64) (.pair (.int .i64) (.pair (.int .i64) (.pair (.int .i64) .unit))))) .unit))))) (.pair (.int .i64) .unit)), g38, false, none⟩
noncomputable def σ38 : FuncId → Option Spec := sig [(62, s62)]
theorem σok38 : ∀ f s, σ38 f = some s → FnOK Try.prog f s := sig_ok (l := [(62, s62)]) ⟨ok62, trivial⟩
noncomputable def Λ38 : Nat → Option LSpec := lkp (loopList (bodyOf Try.f38)) []
theorem ok38 : FnOK Try.prog 38 s38 := fn_ok (Λ := Λ38) tab0 σok38 Try.func38 (by kernel_rfl) (show Try.f38.body = some (bodyOf Try.f38) by kernel_rfl) [] rfl (by kernel_rfl) (by exact trivial)
  fun x y h => (show execFn Γ0 E0 σ38 Λ38 Try.f38 s38 x = g38 x by kernel_rfl).trans h

noncomputable def g107 (x : Ty.T (.pair (.pair (.int .i64) (.pair (.int .i64) (.pair (.int .i64) (.pair (.int .i64) .unit)))) (.pair (.pair (.int .i64) (.pair (.int .i64) (.pair (.int .i64) (.pair (.int .i64) .unit)))) .unit))) : Option (Ty.T (.pair .bool .unit)) :=
match (x.1.1 != x.2.1.1) with
| true =>
  some (false, ())
| false =>
  match (x.1.2.1 != x.2.1.2.1) with
  | true =>
    some (false, ())
  | false =>
    match (x.1.2.2.1 != x.2.1.2.2.1) with
    | true =>
      some (false, ())
    | false =>
      match (x.1.2.2.2.1 != x.2.1.2.2.2.1) with
      | true =>
        some (false, ())
      | false =>
        some (true, ())
noncomputable def s107 : Spec := ⟨(.pair (.pair (.int .i64) (.pair (.int .i64) (.pair (.int .i64) (.pair (.int .i64) .unit)))) (.pair (.pair (.int .i64) (.pair (.int .i64) (.pair (.int .i64) (.pair (.int .i64) .unit)))) .unit)), (.pair .bool .unit), g107, false, none⟩
noncomputable def σ107 : FuncId → Option Spec := sig []
theorem σok107 : ∀ f s, σ107 f = some s → FnOK Try.prog f s := sig_ok (l := []) trivial
noncomputable def Λ107 : Nat → Option LSpec := lkp (loopList (bodyOf Try.f107)) []
theorem ok107 : FnOK Try.prog 107 s107 := fn_ok (Λ := Λ107) tab0 σok107 Try.func107 (by kernel_rfl) (show Try.f107.body = some (bodyOf Try.f107) by kernel_rfl) [] rfl (by kernel_rfl) (by exact trivial)
  fun x y h => (show execFn Γ0 E0 σ107 Λ107 Try.f107 s107 x = g107 x by kernel_rfl).trans h

def lv91_4 : List (Nat × Live) := [(0, .val (.list (.pair (.int .i64) (.pair (.int .i64) (.pair (.int .i64) (.pair (.int .i64) .unit)))))), (1, .val (.list (.pair (.int .i64) (.pair (.int .i64) (.pair (.int .i64) (.pair (.int .i64) .unit)))))), (5, .val (.int .i64))]
noncomputable def bl91_4 : List (Nat × Live) := []
noncomputable def rl91_4 : List (Nat × Live) := [(4, .val .bool)]
noncomputable def b91_4 (x : (Ty.T (.pair (.list (.pair (.int .i64) (.pair (.int .i64) (.pair (.int .i64) (.pair (.int .i64) .unit))))) (.pair (.list (.pair (.int .i64) (.pair (.int .i64) (.pair (.int .i64) (.pair (.int .i64) .unit))))) (.pair (.int .i64) .unit))))) : Option ((Ty.T (.pair (.list (.pair (.int .i64) (.pair (.int .i64) (.pair (.int .i64) (.pair (.int .i64) .unit))))) (.pair (.list (.pair (.int .i64) (.pair (.int .i64) (.pair (.int .i64) (.pair (.int .i64) .unit))))) (.pair (.int .i64) .unit)))) ⊕ ((Ty.T .unit) ⊕ (Ty.T (.pair .bool .unit)))) :=
match (decide (x.2.2.1 < (x.1.length : Int))) with
| true =>
  onSome (idx x.1 x.2.2.1) fun v1 =>
  onSome (idx x.2.1 x.2.2.1) fun v2 =>
  match g107 (v1, v2, ()) with
  | none => none
  | some v3 =>
  match (!v3.1) with
  | true =>
    some (.inr (.inr (false, ())))
  | false =>
    some (.inl (x.1, x.2.1, (IntKind.i64.wrap (x.2.2.1 + (1 : Int))), ()))
| false =>
  some (.inr (.inl (())))
noncomputable def g91 (x : Ty.T (.pair (.list (.pair (.int .i64) (.pair (.int .i64) (.pair (.int .i64) (.pair (.int .i64) .unit))))) (.pair (.list (.pair (.int .i64) (.pair (.int .i64) (.pair (.int .i64) (.pair (.int .i64) .unit))))) .unit))) : Option (Ty.T (.pair .bool .unit)) :=
match ((x.1.length : Int) != (x.2.1.length : Int)) with
| true =>
  some (false, ())
| false =>
  match loopL b91_4 (x.1, x.2.1, (0 : Int), ()) with
  | none => none
  | some (.inl v4) =>
    some (true, ())
  | some (.inr v5) =>
    some (v5.1, ())
noncomputable def s91 : Spec := ⟨(.pair (.list (.pair (.int .i64) (.pair (.int .i64) (.pair (.int .i64) (.pair (.int .i64) .unit))))) (.pair (.list (.pair (.int .i64) (.pair (.int .i64) (.pair (.int .i64) (.pair (.int .i64) .unit))))) .unit)), (.pair .bool .unit), g91, false, none⟩
noncomputable def σ91 : FuncId → Option Spec := sig [(107, s107)]
theorem σok91 : ∀ f s, σ91 f = some s → FnOK Try.prog f s := sig_ok (l := [(107, s107)]) ⟨ok107, trivial⟩
noncomputable def Λ91 : Nat → Option LSpec := lkp (loopList (bodyOf Try.f91)) [⟨lv91_4, 0, bl91_4, rl91_4, loopL b91_4⟩]
theorem lok91_4 (x) : codeK Γ0 E0 σ91 Λ91 Try.f91.ntmps (nthLoop Try.f91 0) (mkF Try.f91.ntmps lv91_4 x) (readK Try.f91.ntmps lv91_4 0 bl91_4 rl91_4) = b91_4 x := by kernel_rfl
theorem ok91 : FnOK Try.prog 91 s91 := fn_ok (Λ := Λ91) tab0 σok91 Try.func91 (by kernel_rfl) (show Try.f91.body = some (bodyOf Try.f91) by kernel_rfl) [⟨lv91_4, 0, bl91_4, rl91_4, loopL b91_4⟩] rfl (by kernel_rfl) (by exact ⟨loop_LOK lok91_4, trivial⟩)
  fun x y h => (show execFn Γ0 E0 σ91 Λ91 Try.f91 s91 x = g91 x by kernel_rfl).trans h

noncomputable def g52 (x : Ty.T (.pair (.pair (.int .i64) (.pair (.int .i64) (.pair (.list (.pair (.int .i64) (.pair (.int .i64) (.pair (.int .i64) (.pair (.int .i64) .unit))))) (.pair (.list (.pair (.int .i64) (.pair (.int .i64) (.pair (.int .i64) (.pair (.int .i64) .unit))))) .unit)))) (.pair (.pair (.int .i64) (.pair (.int .i64) (.pair (.list (.pair (.int .i64) (.pair (.int .i64) (.pair (.int .i64) (.pair (.int .i64) .unit))))) (.pair (.list (.pair (.int .i64) (.pair (.int .i64) (.pair (.int .i64) (.pair (.int .i64) .unit))))) .unit)))) .unit))) : Option (Ty.T (.pair .bool .unit)) :=
match (x.1.1 != x.2.1.1) with
| true =>
  some (false, ())
| false =>
  match (x.1.2.1 != x.2.1.2.1) with
  | true =>
    some (false, ())
  | false =>
    match g91 (x.1.2.2.1, x.2.1.2.2.1, ()) with
    | none => none
    | some v1 =>
    match (!v1.1) with
    | true =>
      some (false, ())
    | false =>
      match g91 (x.1.2.2.2.1, x.2.1.2.2.2.1, ()) with
      | none => none
      | some v2 =>
      match (!v2.1) with
      | true =>
        some (false, ())
      | false =>
        some (true, ())
noncomputable def s52 : Spec := ⟨(.pair (.pair (.int .i64) (.pair (.int .i64) (.pair (.list (.pair (.int .i64) (.pair (.int .i64) (.pair (.int .i64) (.pair (.int .i64) .unit))))) (.pair (.list (.pair (.int .i64) (.pair (.int .i64) (.pair (.int .i64) (.pair (.int .i64) .unit))))) .unit)))) (.pair (.pair (.int .i64) (.pair (.int .i64) (.pair (.list (.pair (.int .i64) (.pair (.int .i64) (.pair (.int .i64) (.pair (.int .i64) .unit))))) (.pair (.list (.pair (.int .i64) (.pair (.int .i64) (.pair (.int .i64) (.pair (.int .i64) .unit))))) .unit)))) .unit)), (.pair .bool .unit), g52, false, none⟩
noncomputable def σ52 : FuncId → Option Spec := sig [(91, s91)]
theorem σok52 : ∀ f s, σ52 f = some s → FnOK Try.prog f s := sig_ok (l := [(91, s91)]) ⟨ok91, trivial⟩
noncomputable def Λ52 : Nat → Option LSpec := lkp (loopList (bodyOf Try.f52)) []
theorem ok52 : FnOK Try.prog 52 s52 := fn_ok (Λ := Λ52) tab0 σok52 Try.func52 (by kernel_rfl) (show Try.f52.body = some (bodyOf Try.f52) by kernel_rfl) [] rfl (by kernel_rfl) (by exact trivial)
  fun x y h => (show execFn Γ0 E0 σ52 Λ52 Try.f52 s52 x = g52 x by kernel_rfl).trans h

def lv39_4 : List (Nat × Live) := [(0, .val (.list (.pair (.int .i64) (.pair (.int .i64) (.pair (.list (.pair (.int .i64) (.pair (.int .i64) (.pair (.int .i64) (.pair (.int .i64) .unit))))) (.pair (.list (.pair (.int .i64) (.pair (.int .i64) (.pair (.int .i64) (.pair (.int .i64) .unit))))) .unit)))))), (1, .val (.list (.pair (.int .i64) (.pair (.int .i64) (.pair (.list (.pair (.int .i64) (.pair (.int .i64) (.pair (.int .i64) (.pair (.int .i64) .unit))))) (.pair (.list (.pair (.int .i64) (.pair (.int .i64) (.pair (.int .i64) (.pair (.int .i64) .unit))))) .unit)))))), (5, .val (.int .i64))]
noncomputable def bl39_4 : List (Nat × Live) := []
noncomputable def rl39_4 : List (Nat × Live) := [(4, .val .bool)]
noncomputable def b39_4 (x : (Ty.T (.pair (.list (.pair (.int .i64) (.pair (.int .i64) (.pair (.list (.pair (.int .i64) (.pair (.int .i64) (.pair (.int .i64) (.pair (.int .i64) .unit))))) (.pair (.list (.pair (.int .i64) (.pair (.int .i64) (.pair (.int .i64) (.pair (.int .i64) .unit))))) .unit))))) (.pair (.list (.pair (.int .i64) (.pair (.int .i64) (.pair (.list (.pair (.int .i64) (.pair (.int .i64) (.pair (.int .i64) (.pair (.int .i64) .unit))))) (.pair (.list (.pair (.int .i64) (.pair (.int .i64) (.pair (.int .i64) (.pair (.int .i64) .unit))))) .unit))))) (.pair (.int .i64) .unit))))) : Option ((Ty.T (.pair (.list (.pair (.int .i64) (.pair (.int .i64) (.pair (.list (.pair (.int .i64) (.pair (.int .i64) (.pair (.int .i64) (.pair (.int .i64) .unit))))) (.pair (.list (.pair (.int .i64) (.pair (.int .i64) (.pair (.int .i64) (.pair (.int .i64) .unit))))) .unit))))) (.pair (.list (.pair (.int .i64) (.pair (.int .i64) (.pair (.list (.pair (.int .i64) (.pair (.int .i64) (.pair (.int .i64) (.pair (.int .i64) .unit))))) (.pair (.list (.pair (.int .i64) (.pair (.int .i64) (.pair (.int .i64) (.pair (.int .i64) .unit))))) .unit))))) (.pair (.int .i64) .unit)))) ⊕ ((Ty.T .unit) ⊕ (Ty.T (.pair .bool .unit)))) :=
match (decide (x.2.2.1 < (x.1.length : Int))) with
| true =>
  onSome (idx x.1 x.2.2.1) fun v1 =>
  onSome (idx x.2.1 x.2.2.1) fun v2 =>
  match g52 (v1, v2, ()) with
  | none => none
  | some v3 =>
  match (!v3.1) with
  | true =>
    some (.inr (.inr (false, ())))
  | false =>
    some (.inl (x.1, x.2.1, (IntKind.i64.wrap (x.2.2.1 + (1 : Int))), ()))
| false =>
  some (.inr (.inl (())))
noncomputable def g39 (x : Ty.T (.pair (.list (.pair (.int .i64) (.pair (.int .i64) (.pair (.list (.pair (.int .i64) (.pair (.int .i64) (.pair (.int .i64) (.pair (.int .i64) .unit))))) (.pair (.list (.pair (.int .i64) (.pair (.int .i64) (.pair (.int .i64) (.pair (.int .i64) .unit))))) .unit))))) (.pair (.list (.pair (.int .i64) (.pair (.int .i64) (.pair (.list (.pair (.int .i64) (.pair (.int .i64) (.pair (.int .i64) (.pair (.int .i64) .unit))))) (.pair (.list (.pair (.int .i64) (.pair (.int .i64) (.pair (.int .i64) (.pair (.int .i64) .unit))))) .unit))))) .unit))) : Option (Ty.T (.pair .bool .unit)) :=
match ((x.1.length : Int) != (x.2.1.length : Int)) with
| true =>
  some (false, ())
| false =>
  match loopL b39_4 (x.1, x.2.1, (0 : Int), ()) with
  | none => none
  | some (.inl v4) =>
    some (true, ())
  | some (.inr v5) =>
    some (v5.1, ())
noncomputable def s39 : Spec := ⟨(.pair (.list (.pair (.int .i64) (.pair (.int .i64) (.pair (.list (.pair (.int .i64) (.pair (.int .i64) (.pair (.int .i64) (.pair (.int .i64) .unit))))) (.pair (.list (.pair (.int .i64) (.pair (.int .i64) (.pair (.int .i64) (.pair (.int .i64) .unit))))) .unit))))) (.pair (.list (.pair (.int .i64) (.pair (.int .i64) (.pair (.list (.pair (.int .i64) (.pair (.int .i64) (.pair (.int .i64) (.pair (.int .i64) .unit))))) (.pair (.list (.pair (.int .i64) (.pair (.int .i64) (.pair (.int .i64) (.pair (.int .i64) .unit))))) .unit))))) .unit)), (.pair .bool .unit), g39, false, none⟩
noncomputable def σ39 : FuncId → Option Spec := sig [(52, s52)]
theorem σok39 : ∀ f s, σ39 f = some s → FnOK Try.prog f s := sig_ok (l := [(52, s52)]) ⟨ok52, trivial⟩
noncomputable def Λ39 : Nat → Option LSpec := lkp (loopList (bodyOf Try.f39)) [⟨lv39_4, 0, bl39_4, rl39_4, loopL b39_4⟩]
theorem lok39_4 (x) : codeK Γ0 E0 σ39 Λ39 Try.f39.ntmps (nthLoop Try.f39 0) (mkF Try.f39.ntmps lv39_4 x) (readK Try.f39.ntmps lv39_4 0 bl39_4 rl39_4) = b39_4 x := by kernel_rfl
theorem ok39 : FnOK Try.prog 39 s39 := fn_ok (Λ := Λ39) tab0 σok39 Try.func39 (by kernel_rfl) (show Try.f39.body = some (bodyOf Try.f39) by kernel_rfl) [⟨lv39_4, 0, bl39_4, rl39_4, loopL b39_4⟩] rfl (by kernel_rfl) (by exact ⟨loop_LOK lok39_4, trivial⟩)
  fun x y h => (show execFn Γ0 E0 σ39 Λ39 Try.f39 s39 x = g39 x by kernel_rfl).trans h

def lv80_2 : List (Nat × Live) := [(0, .val (.list (.pair (.int .i64) (.pair (.int .i64) (.pair (.int .i64) (.pair (.int .i64) .unit)))))), (1, .val (.int .i64)), (5, .val (.int .i64))]
noncomputable def bl80_2 : List (Nat × Live) := [(1, .val (.int .i64))]
noncomputable def rl80_2 : List (Nat × Live) := [(4, .val (.int .i64))]
noncomputable def b80_2 (x : (Ty.T (.pair (.list (.pair (.int .i64) (.pair (.int .i64) (.pair (.int .i64) (.pair (.int .i64) .unit))))) (.pair (.int .i64) (.pair (.int .i64) .unit))))) : Option ((Ty.T (.pair (.list (.pair (.int .i64) (.pair (.int .i64) (.pair (.int .i64) (.pair (.int .i64) .unit))))) (.pair (.int .i64) (.pair (.int .i64) .unit)))) ⊕ ((Ty.T (.pair (.int .i64) .unit)) ⊕ (Ty.T (.pair (.int .i64) .unit)))) :=
match (decide (x.2.2.1 < (x.1.length : Int))) with
| true =>
  onSome (idx x.1 x.2.2.1) fun v1 =>
  match (v1.1 != x.2.1) with
  | true =>
    some (.inr (.inr ((-1 : Int), ())))
  | false =>
    onSome (idx x.1 x.2.2.1) fun v2 =>
    match (v2.2.1 != (IntKind.i64.wrap (x.2.1 + (1 : Int)))) with
    | true =>
      some (.inr (.inr ((-1 : Int), ())))
    | false =>
      onSome (idx x.1 x.2.2.1) fun v3 =>
      match (v3.2.2.1 != (IntKind.i64.wrap ((IntKind.i64.wrap (x.2.1 + (1 : Int))) + (1 : Int)))) with
      | true =>
        some (.inr (.inr ((-1 : Int), ())))
      | false =>
        onSome (idx x.1 x.2.2.1) fun v4 =>
        match (v4.2.2.2.1 != (IntKind.i64.wrap ((IntKind.i64.wrap ((IntKind.i64.wrap (x.2.1 + (1 : Int))) + (1 : Int))) + (1 : Int)))) with
        | true =>
          some (.inr (.inr ((-1 : Int), ())))
        | false =>
          some (.inl (x.1, (IntKind.i64.wrap ((IntKind.i64.wrap ((IntKind.i64.wrap ((IntKind.i64.wrap (x.2.1 + (1 : Int))) + (1 : Int))) + (1 : Int))) + (1 : Int))), (IntKind.i64.wrap (x.2.2.1 + (1 : Int))), ()))
| false =>
  some (.inr (.inl (x.2.1, ())))
noncomputable def g80 (x : Ty.T (.pair (.list (.pair (.int .i64) (.pair (.int .i64) (.pair (.int .i64) (.pair (.int .i64) .unit))))) (.pair (.int .i64) .unit))) : Option (Ty.T (.pair (.int .i64) .unit)) :=
match loopL b80_2 (x.1, x.2.1, (0 : Int), ()) with
| none => none
| some (.inl v5) =>
  some (v5.1, ())
| some (.inr v6) =>
  some (v6.1, ())
noncomputable def s80 : Spec := ⟨(.pair (.list (.pair (.int .i64) (.pair (.int .i64) (.pair (.int .i64) (.pair (.int .i64) .unit))))) (.pair (.int .i64) .unit)), (.pair (.int .i64) .unit), g80, false, none⟩
noncomputable def σ80 : FuncId → Option Spec := sig []
theorem σok80 : ∀ f s, σ80 f = some s → FnOK Try.prog f s := sig_ok (l := []) trivial
noncomputable def Λ80 : Nat → Option LSpec := lkp (loopList (bodyOf Try.f80)) [⟨lv80_2, 0, bl80_2, rl80_2, loopL b80_2⟩]
theorem lok80_2 (x) : codeK Γ0 E0 σ80 Λ80 Try.f80.ntmps (nthLoop Try.f80 0) (mkF Try.f80.ntmps lv80_2 x) (readK Try.f80.ntmps lv80_2 0 bl80_2 rl80_2) = b80_2 x := by kernel_rfl
theorem ok80 : FnOK Try.prog 80 s80 := fn_ok (Λ := Λ80) tab0 σok80 Try.func80 (by kernel_rfl) (show Try.f80.body = some (bodyOf Try.f80) by kernel_rfl) [⟨lv80_2, 0, bl80_2, rl80_2, loopL b80_2⟩] rfl (by kernel_rfl) (by exact ⟨loop_LOK lok80_2, trivial⟩)
  fun x y h => (show execFn Γ0 E0 σ80 Λ80 Try.f80 s80 x = g80 x by kernel_rfl).trans h

def lv41_2 : List (Nat × Live) := [(0, .val (.list (.pair (.int .i64) (.pair (.int .i64) (.pair (.list (.pair (.int .i64) (.pair (.int .i64) (.pair (.int .i64) (.pair (.int .i64) .unit))))) (.pair (.list (.pair (.int .i64) (.pair (.int .i64) (.pair (.int .i64) (.pair (.int .i64) .unit))))) .unit)))))), (1, .val (.int .i64)), (5, .val (.int .i64))]
noncomputable def bl41_2 : List (Nat × Live) := [(1, .val (.int .i64))]
noncomputable def rl41_2 : List (Nat × Live) := [(4, .val (.int .i64))]
noncomputable def b41_2 (x : (Ty.T (.pair (.list (.pair (.int .i64) (.pair (.int .i64) (.pair (.list (.pair (.int .i64) (.pair (.int .i64) (.pair (.int .i64) (.pair (.int .i64) .unit))))) (.pair (.list (.pair (.int .i64) (.pair (.int .i64) (.pair (.int .i64) (.pair (.int .i64) .unit))))) .unit))))) (.pair (.int .i64) (.pair (.int .i64) .unit))))) : Option ((Ty.T (.pair (.list (.pair (.int .i64) (.pair (.int .i64) (.pair (.list (.pair (.int .i64) (.pair (.int .i64) (.pair (.int .i64) (.pair (.int .i64) .unit))))) (.pair (.list (.pair (.int .i64) (.pair (.int .i64) (.pair (.int .i64) (.pair (.int .i64) .unit))))) .unit))))) (.pair (.int .i64) (.pair (.int .i64) .unit)))) ⊕ ((Ty.T (.pair (.int .i64) .unit)) ⊕ (Ty.T (.pair (.int .i64) .unit)))) :=
match (decide (x.2.2.1 < (x.1.length : Int))) with
| true =>
  onSome (idx x.1 x.2.2.1) fun v1 =>
  match (v1.1 != x.2.1) with
  | true =>
    some (.inr (.inr ((-1 : Int), ())))
  | false =>
    onSome (idx x.1 x.2.2.1) fun v2 =>
    match (v2.2.1 != (IntKind.i64.wrap (x.2.1 + (1 : Int)))) with
    | true =>
      some (.inr (.inr ((-1 : Int), ())))
    | false =>
      onSome (idx x.1 x.2.2.1) fun v3 =>
      match g80 (v3.2.2.1, (IntKind.i64.wrap ((IntKind.i64.wrap (x.2.1 + (1 : Int))) + (1 : Int))), ()) with
      | none => none
      | some v4 =>
      match (decide (v4.1 < (0 : Int))) with
      | true =>
        some (.inr (.inr ((-1 : Int), ())))
      | false =>
        onSome (idx x.1 x.2.2.1) fun v5 =>
        match g80 (v5.2.2.2.1, v4.1, ()) with
        | none => none
        | some v6 =>
        match (decide (v6.1 < (0 : Int))) with
        | true =>
          some (.inr (.inr ((-1 : Int), ())))
        | false =>
          some (.inl (x.1, v6.1, (IntKind.i64.wrap (x.2.2.1 + (1 : Int))), ()))
| false =>
  some (.inr (.inl (x.2.1, ())))
noncomputable def g41 (x : Ty.T (.pair (.list (.pair (.int .i64) (.pair (.int .i64) (.pair (.list (.pair (.int .i64) (.pair (.int .i64) (.pair (.int .i64) (.pair (.int .i64) .unit))))) (.pair (.list (.pair (.int .i64) (.pair (.int .i64) (.pair (.int .i64) (.pair (.int .i64) .unit))))) .unit))))) (.pair (.int .i64) .unit))) : Option (Ty.T (.pair (.int .i64) .unit)) :=
match loopL b41_2 (x.1, x.2.1, (0 : Int), ()) with
| none => none
| some (.inl v7) =>
  some (v7.1, ())
| some (.inr v8) =>
  some (v8.1, ())
noncomputable def s41 : Spec := ⟨(.pair (.list (.pair (.int .i64) (.pair (.int .i64) (.pair (.list (.pair (.int .i64) (.pair (.int .i64) (.pair (.int .i64) (.pair (.int .i64) .unit))))) (.pair (.list (.pair (.int .i64) (.pair (.int .i64) (.pair (.int .i64) (.pair (.int .i64) .unit))))) .unit))))) (.pair (.int .i64) .unit)), (.pair (.int .i64) .unit), g41, false, none⟩
noncomputable def σ41 : FuncId → Option Spec := sig [(80, s80)]
theorem σok41 : ∀ f s, σ41 f = some s → FnOK Try.prog f s := sig_ok (l := [(80, s80)]) ⟨ok80, trivial⟩
noncomputable def Λ41 : Nat → Option LSpec := lkp (loopList (bodyOf Try.f41)) [⟨lv41_2, 0, bl41_2, rl41_2, loopL b41_2⟩]
theorem lok41_2 (x) : codeK Γ0 E0 σ41 Λ41 Try.f41.ntmps (nthLoop Try.f41 0) (mkF Try.f41.ntmps lv41_2 x) (readK Try.f41.ntmps lv41_2 0 bl41_2 rl41_2) = b41_2 x := by kernel_rfl
theorem ok41 : FnOK Try.prog 41 s41 := fn_ok (Λ := Λ41) tab0 σok41 Try.func41 (by kernel_rfl) (show Try.f41.body = some (bodyOf Try.f41) by kernel_rfl) [⟨lv41_2, 0, bl41_2, rl41_2, loopL b41_2⟩] rfl (by kernel_rfl) (by exact ⟨loop_LOK lok41_2, trivial⟩)
  fun x y h => (show execFn Γ0 E0 σ41 Λ41 Try.f41 s41 x = g41 x by kernel_rfl).trans h

def lv81_4 : List (Nat × Live) := [(0, .val (.list (.int .i64))), (1, .val (.list (.int .i64))), (2, .val (.int .i64)), (3, .val (.int .i64)), (9, .val (.int .i64))]
noncomputable def bl81_4 : List (Nat × Live) := [(0, .val (.list (.int .i64))), (1, .val (.list (.int .i64))), (2, .val (.int .i64)), (3, .val (.int .i64))]
noncomputable def rl81_4 : List (Nat × Live) := [(8, .val (.int .i64))]
noncomputable def b81_4 (x : (Ty.T (.pair (.list (.int .i64)) (.pair (.list (.int .i64)) (.pair (.int .i64) (.pair (.int .i64) (.pair (.int .i64) .unit))))))) : Option ((Ty.T (.pair (.list (.int .i64)) (.pair (.list (.int .i64)) (.pair (.int .i64) (.pair (.int .i64) (.pair (.int .i64) .unit)))))) ⊕ ((Ty.T (.pair (.list (.int .i64)) (.pair (.list (.int .i64)) (.pair (.int .i64) (.pair (.int .i64) .unit))))) ⊕ (Ty.T (.pair (.int .i64) .unit)))) :=
match (decide (x.2.2.2.2.1 < (x.2.1.length : Int))) with
| true =>
  onSome (idx x.2.1 x.2.2.2.2.1) fun v2 =>
  match g60 (v2, (-1000 : Int), (1000 : Int), ()) with
  | none => none
  | some v3 =>
  match (!v3.1) with
  | true =>
    some (.inr (.inr ((2 : Int), ())))
  | false =>
    some (.inl (x.1, x.2.1, x.2.2.1, x.2.2.2.1, (IntKind.i64.wrap (x.2.2.2.2.1 + (1 : Int))), ()))
| false =>
  some (.inr (.inl (x.1, x.2.1, x.2.2.1, x.2.2.2.1, ())))
noncomputable def g81 (x : Ty.T (.pair (.list (.int .i64)) (.pair (.list (.int .i64)) (.pair (.int .i64) (.pair (.int .i64) .unit))))) : Option (Ty.T (.pair (.int .i64) .unit)) :=
match g66 (x.1, ()) with
| none => none
| some v1 =>
match (!v1.1) with
| true =>
  some ((1 : Int), ())
| false =>
  match loopL b81_4 (x.1, x.2.1, x.2.2.1, x.2.2.2.1, (0 : Int), ()) with
  | none => none
  | some (.inl v4) =>
    match ((v4.2.1.length : Int) != (v4.1.length : Int)) with
    | true =>
      some ((2 : Int), ())
    | false =>
      match g60 (v4.2.2.1, (0 : Int), (65535 : Int), ()) with
      | none => none
      | some v6 =>
      match (!v6.1) with
      | true =>
        some ((2 : Int), ())
      | false =>
        match g60 (v4.2.2.2.1, (0 : Int), (100 : Int), ()) with
        | none => none
        | some v7 =>
        match (!v7.1) with
        | true =>
          some ((2 : Int), ())
        | false =>
          some ((0 : Int), ())
  | some (.inr v5) =>
    some (v5.1, ())
noncomputable def s81 : Spec := ⟨(.pair (.list (.int .i64)) (.pair (.list (.int .i64)) (.pair (.int .i64) (.pair (.int .i64) .unit)))), (.pair (.int .i64) .unit), g81, false, none⟩
noncomputable def σ81 : FuncId → Option Spec := sig [(60, s60), (66, s66)]
theorem σok81 : ∀ f s, σ81 f = some s → FnOK Try.prog f s := sig_ok (l := [(60, s60), (66, s66)]) ⟨ok60, ok66, trivial⟩
noncomputable def Λ81 : Nat → Option LSpec := lkp (loopList (bodyOf Try.f81)) [⟨lv81_4, 0, bl81_4, rl81_4, loopL b81_4⟩]
theorem lok81_4 (x) : codeK Γ0 E0 σ81 Λ81 Try.f81.ntmps (nthLoop Try.f81 0) (mkF Try.f81.ntmps lv81_4 x) (readK Try.f81.ntmps lv81_4 0 bl81_4 rl81_4) = b81_4 x := by kernel_rfl
theorem ok81 : FnOK Try.prog 81 s81 := fn_ok (Λ := Λ81) tab0 σok81 Try.func81 (by kernel_rfl) (show Try.f81.body = some (bodyOf Try.f81) by kernel_rfl) [⟨lv81_4, 0, bl81_4, rl81_4, loopL b81_4⟩] rfl (by kernel_rfl) (by exact ⟨loop_LOK lok81_4, trivial⟩)
  fun x y h => (show execFn Γ0 E0 σ81 Λ81 Try.f81 s81 x = g81 x by kernel_rfl).trans h

noncomputable def g100 (x : Ty.T (.pair (.int .i64) (.pair (.int .i64) .unit))) : Option (Ty.T (.pair (.int .i64) .unit)) :=
if x.2.1 = 0 then none else
if x.2.1 = 0 then none else
match (decide ((Int.tmod x.1 x.2.1) < (0 : Int))) with
| true =>
  some ((IntKind.i64.wrap ((IntKind.i64.wrap (Int.tdiv x.1 x.2.1)) - (1 : Int))), ())
| false =>
  some ((IntKind.i64.wrap (Int.tdiv x.1 x.2.1)), ())
noncomputable def s100 : Spec := ⟨(.pair (.int .i64) (.pair (.int .i64) .unit)), (.pair (.int .i64) .unit), g100, false, none⟩
noncomputable def σ100 : FuncId → Option Spec := sig []
theorem σok100 : ∀ f s, σ100 f = some s → FnOK Try.prog f s := sig_ok (l := []) trivial
noncomputable def Λ100 : Nat → Option LSpec := lkp (loopList (bodyOf Try.f100)) []
theorem ok100 : FnOK Try.prog 100 s100 := fn_ok (Λ := Λ100) tab0 σok100 Try.func100 (by kernel_rfl) (show Try.f100.body = some (bodyOf Try.f100) by kernel_rfl) [] rfl (by kernel_rfl) (by exact trivial)
  fun x y h => (show execFn Γ0 E0 σ100 Λ100 Try.f100 s100 x = g100 x by kernel_rfl).trans h

def lv82_3 : List (Nat × Live) := [(0, .val (.list (.int .i64))), (1, .val (.list (.int .i64))), (2, .val (.int .i64)), (7, .arr 2 (.int .i64)), (8, .val (.int .i64))]
noncomputable def bl82_3 : List (Nat × Live) := [(7, .arr 2 (.int .i64))]
noncomputable def rl82_3 : List (Nat × Live) := []
noncomputable def b82_3 (x : (Ty.T (.pair (.list (.int .i64)) (.pair (.list (.int .i64)) (.pair (.int .i64) (.pair (.list (.int .i64)) (.pair (.int .i64) .unit))))))) : Option ((Ty.T (.pair (.list (.int .i64)) (.pair (.list (.int .i64)) (.pair (.int .i64) (.pair (.list (.int .i64)) (.pair (.int .i64) .unit)))))) ⊕ ((Ty.T (.pair (.list (.int .i64)) .unit)) ⊕ (Ty.T .unit))) :=
match (decide (x.2.2.2.2.1 < (x.1.length : Int))) with
| true =>
  onSome (idx x.1 x.2.2.2.2.1) fun v1 =>
  onSome (idx x.2.1 x.2.2.2.2.1) fun v2 =>
  match g100 ((IntKind.i64.wrap (x.2.2.1 * v2)), (1000000 : Int), ()) with
  | none => none
  | some v3 =>
  room (x.2.2.2.1.length + [(IntKind.i64.wrap ((IntKind.i64.wrap (v1 + x.2.2.1)) + v3.1))].length) (
    some (.inl (x.1, x.2.1, x.2.2.1, (x.2.2.2.1 ++ [(IntKind.i64.wrap ((IntKind.i64.wrap (v1 + x.2.2.1)) + v3.1))]), (IntKind.i64.wrap (x.2.2.2.2.1 + (1 : Int))), ())))
| false =>
  some (.inr (.inl (x.2.2.2.1, ())))
noncomputable def g82 (x : Ty.T (.pair (.list (.int .i64)) (.pair (.list (.int .i64)) (.pair (.int .i64) .unit)))) : Option (Ty.T (.pair (.list (.int .i64)) .unit)) :=
match loopL b82_3 (x.1, x.2.1, x.2.2.1, [], (0 : Int), ()) with
| none => none
| some (.inl v4) =>
  some (v4.1, ())
| some (.inr v6) =>
  none
noncomputable def s82 : Spec := ⟨(.pair (.list (.int .i64)) (.pair (.list (.int .i64)) (.pair (.int .i64) .unit))), (.pair (.list (.int .i64)) .unit), g82, false, none⟩
noncomputable def σ82 : FuncId → Option Spec := sig [(100, s100)]
theorem σok82 : ∀ f s, σ82 f = some s → FnOK Try.prog f s := sig_ok (l := [(100, s100)]) ⟨ok100, trivial⟩
noncomputable def Λ82 : Nat → Option LSpec := lkp (loopList (bodyOf Try.f82)) [⟨lv82_3, 0, bl82_3, rl82_3, loopL b82_3⟩]
theorem lok82_3 (x) : codeK Γ0 E0 σ82 Λ82 Try.f82.ntmps (nthLoop Try.f82 0) (mkF Try.f82.ntmps lv82_3 x) (readK Try.f82.ntmps lv82_3 0 bl82_3 rl82_3) = b82_3 x := by kernel_rfl
theorem ok82 : FnOK Try.prog 82 s82 := fn_ok (Λ := Λ82) tab0 σok82 Try.func82 (by kernel_rfl) (show Try.f82.body = some (bodyOf Try.f82) by kernel_rfl) [⟨lv82_3, 0, bl82_3, rl82_3, loopL b82_3⟩] rfl (by kernel_rfl) (by exact ⟨loop_LOK lok82_3, trivial⟩)
  fun x y h => (show execFn Γ0 E0 σ82 Λ82 Try.f82 s82 x = g82 x by kernel_rfl).trans h

noncomputable def g42 (x : Ty.T (.pair (.list (.int .i64)) (.pair (.list (.int .i64)) (.pair (.int .i64) .unit)))) : Option (Ty.T (.pair (.list (.int .i64)) (.pair (.int .i64) .unit))) :=
match g81 (x.1, x.2.1, x.2.2.1, (0 : Int), ()) with
| none => none
| some v1 =>
match (v1.1 != (0 : Int)) with
| true =>
  some ([], v1.1, ())
| false =>
  match g82 (x.1, x.2.1, x.2.2.1, ()) with
  | none => none
  | some v2 =>
  match g83 (v2.1, ()) with
  | none => none
  | some v3 =>
  match (!v3.1) with
  | true =>
    some ([], (3 : Int), ())
  | false =>
    some (v2.1, (0 : Int), ())
noncomputable def s42 : Spec := ⟨(.pair (.list (.int .i64)) (.pair (.list (.int .i64)) (.pair (.int .i64) .unit))), (.pair (.list (.int .i64)) (.pair (.int .i64) .unit)), g42, false, none⟩
noncomputable def σ42 : FuncId → Option Spec := sig [(81, s81), (82, s82), (83, s83)]
theorem σok42 : ∀ f s, σ42 f = some s → FnOK Try.prog f s := sig_ok (l := [(81, s81), (82, s82), (83, s83)]) ⟨ok81, ok82, ok83, trivial⟩
noncomputable def Λ42 : Nat → Option LSpec := lkp (loopList (bodyOf Try.f42)) []
theorem ok42 : FnOK Try.prog 42 s42 := fn_ok (Λ := Λ42) tab0 σok42 Try.func42 (by kernel_rfl) (show Try.f42.body = some (bodyOf Try.f42) by kernel_rfl) [] rfl (by kernel_rfl) (by exact trivial)
  fun x y h => (show execFn Γ0 E0 σ42 Λ42 Try.f42 s42 x = g42 x by kernel_rfl).trans h

noncomputable def g84 (x : Ty.T (.pair (.list (.int .i64)) (.pair (.list (.int .i64)) (.pair (.int .i64) (.pair (.int .i64) .unit))))) : Option (Ty.T (.pair (.int .i64) .unit)) :=
match g68 (x.1, ()) with
| none => none
| some v1 =>
match (!v1.1) with
| true =>
  some ((1 : Int), ())
| false =>
  match ((x.2.1.length : Int) != (x.1.length : Int)) with
  | true =>
    some ((2 : Int), ())
  | false =>
    match g94 (x.2.1, (-1000 : Int), (1000 : Int), ()) with
    | none => none
    | some v2 =>
    match (!v2.1) with
    | true =>
      some ((2 : Int), ())
    | false =>
      match g62 (x.2.2.1, (0 : Int), (65535 : Int), ()) with
      | none => none
      | some v3 =>
      match (!v3.1) with
      | true =>
        some ((2 : Int), ())
      | false =>
        match g62 (x.2.2.2.1, (0 : Int), (100 : Int), ()) with
        | none => none
        | some v4 =>
        match (!v4.1) with
        | true =>
          some ((2 : Int), ())
        | false =>
          some ((0 : Int), ())
noncomputable def s84 : Spec := ⟨(.pair (.list (.int .i64)) (.pair (.list (.int .i64)) (.pair (.int .i64) (.pair (.int .i64) .unit)))), (.pair (.int .i64) .unit), g84, false, none⟩
noncomputable def σ84 : FuncId → Option Spec := sig [(62, s62), (68, s68), (94, s94)]
theorem σok84 : ∀ f s, σ84 f = some s → FnOK Try.prog f s := sig_ok (l := [(62, s62), (68, s68), (94, s94)]) ⟨ok62, ok68, ok94, trivial⟩
noncomputable def Λ84 : Nat → Option LSpec := lkp (loopList (bodyOf Try.f84)) []
theorem ok84 : FnOK Try.prog 84 s84 := fn_ok (Λ := Λ84) tab0 σok84 Try.func84 (by kernel_rfl) (show Try.f84.body = some (bodyOf Try.f84) by kernel_rfl) [] rfl (by kernel_rfl) (by exact trivial)
  fun x y h => (show execFn Γ0 E0 σ84 Λ84 Try.f84 s84 x = g84 x by kernel_rfl).trans h

noncomputable def g101 (x : Ty.T (.pair (.int .i64) (.pair (.int .i64) .unit))) : Option (Ty.T (.pair (.int .i64) .unit)) :=
if x.2.1 = 0 then none else
if x.2.1 = 0 then none else
match (decide ((Int.tmod x.1 x.2.1) < (0 : Int))) with
| true =>
  some ((IntKind.i64.wrap ((IntKind.i64.wrap (Int.tdiv x.1 x.2.1)) - (1 : Int))), ())
| false =>
  some ((IntKind.i64.wrap (Int.tdiv x.1 x.2.1)), ())
noncomputable def s101 : Spec := ⟨(.pair (.int .i64) (.pair (.int .i64) .unit)), (.pair (.int .i64) .unit), g101, false, none⟩
noncomputable def σ101 : FuncId → Option Spec := sig []
theorem σok101 : ∀ f s, σ101 f = some s → FnOK Try.prog f s := sig_ok (l := []) trivial
noncomputable def Λ101 : Nat → Option LSpec := lkp (loopList (bodyOf Try.f101)) []
theorem ok101 : FnOK Try.prog 101 s101 := fn_ok (Λ := Λ101) tab0 σok101 Try.func101 (by kernel_rfl) (show Try.f101.body = some (bodyOf Try.f101) by kernel_rfl) [] rfl (by kernel_rfl) (by exact trivial)
  fun x y h => (show execFn Γ0 E0 σ101 Λ101 Try.f101 s101 x = g101 x by kernel_rfl).trans h

def lv85_3 : List (Nat × Live) := [(1, .val (.list (.int .i64))), (2, .val (.int .i64)), (7, .arr 2 (.int .i64)), (11, .val (.list (.int .i64))), (12, .val (.int .i64)), (13, .val (.int .i64))]
noncomputable def bl85_3 : List (Nat × Live) := [(7, .arr 2 (.int .i64))]
noncomputable def rl85_3 : List (Nat × Live) := []
noncomputable def b85_3 (x : (Ty.T (.pair (.list (.int .i64)) (.pair (.int .i64) (.pair (.list (.int .i64)) (.pair (.list (.int .i64)) (.pair (.int .i64) (.pair (.int .i64) .unit)))))))) : Option ((Ty.T (.pair (.list (.int .i64)) (.pair (.int .i64) (.pair (.list (.int .i64)) (.pair (.list (.int .i64)) (.pair (.int .i64) (.pair (.int .i64) .unit))))))) ⊕ ((Ty.T (.pair (.list (.int .i64)) .unit)) ⊕ (Ty.T .unit))) :=
match (decide (x.2.2.2.2.2.1 < x.2.2.2.2.1)) with
| true =>
  onSome (idx x.2.2.2.1 x.2.2.2.2.2.1) fun v1 =>
  onSome (idx x.1 x.2.2.2.2.2.1) fun v2 =>
  match g101 ((IntKind.i64.wrap (x.2.1 * v2)), (1000000 : Int), ()) with
  | none => none
  | some v3 =>
  room (x.2.2.1.length + [(IntKind.i64.wrap ((IntKind.i64.wrap (v1 + x.2.1)) + v3.1))].length) (
    some (.inl (x.1, x.2.1, (x.2.2.1 ++ [(IntKind.i64.wrap ((IntKind.i64.wrap (v1 + x.2.1)) + v3.1))]), x.2.2.2.1, x.2.2.2.2.1, (IntKind.i64.wrap (x.2.2.2.2.2.1 + (1 : Int))), ())))
| false =>
  some (.inr (.inl (x.2.2.1, ())))
noncomputable def g85 (x : Ty.T (.pair (.list (.int .i64)) (.pair (.list (.int .i64)) (.pair (.int .i64) .unit)))) : Option (Ty.T (.pair (.list (.int .i64)) .unit)) :=
match loopL b85_3 (x.2.1, x.2.2.1, [], x.1, (x.1.length : Int), (0 : Int), ()) with
| none => none
| some (.inl v4) =>
  some (v4.1, ())
| some (.inr v6) =>
  none
noncomputable def s85 : Spec := ⟨(.pair (.list (.int .i64)) (.pair (.list (.int .i64)) (.pair (.int .i64) .unit))), (.pair (.list (.int .i64)) .unit), g85, false, none⟩
noncomputable def σ85 : FuncId → Option Spec := sig [(101, s101)]
theorem σok85 : ∀ f s, σ85 f = some s → FnOK Try.prog f s := sig_ok (l := [(101, s101)]) ⟨ok101, trivial⟩
noncomputable def Λ85 : Nat → Option LSpec := lkp (loopList (bodyOf Try.f85)) [⟨lv85_3, 0, bl85_3, rl85_3, loopL b85_3⟩]
theorem lok85_3 (x) : codeK Γ0 E0 σ85 Λ85 Try.f85.ntmps (nthLoop Try.f85 0) (mkF Try.f85.ntmps lv85_3 x) (readK Try.f85.ntmps lv85_3 0 bl85_3 rl85_3) = b85_3 x := by kernel_rfl
theorem ok85 : FnOK Try.prog 85 s85 := fn_ok (Λ := Λ85) tab0 σok85 Try.func85 (by kernel_rfl) (show Try.f85.body = some (bodyOf Try.f85) by kernel_rfl) [⟨lv85_3, 0, bl85_3, rl85_3, loopL b85_3⟩] rfl (by kernel_rfl) (by exact ⟨loop_LOK lok85_3, trivial⟩)
  fun x y h => (show execFn Γ0 E0 σ85 Λ85 Try.f85 s85 x = g85 x by kernel_rfl).trans h

noncomputable def g43 (x : Ty.T (.pair (.list (.int .i64)) (.pair (.list (.int .i64)) (.pair (.int .i64) .unit)))) : Option (Ty.T (.pair (.list (.int .i64)) (.pair (.int .i64) .unit))) :=
match g84 (x.1, x.2.1, x.2.2.1, (0 : Int), ()) with
| none => none
| some v1 =>
match (v1.1 != (0 : Int)) with
| true =>
  some ([], v1.1, ())
| false =>
  match g85 (x.1, x.2.1, x.2.2.1, ()) with
  | none => none
  | some v2 =>
  match g86 (v2.1, ()) with
  | none => none
  | some v3 =>
  match (decide (v3.1 > (1000000000 : Int))) with
  | true =>
    some ([], (3 : Int), ())
  | false =>
    some (v2.1, (0 : Int), ())
noncomputable def s43 : Spec := ⟨(.pair (.list (.int .i64)) (.pair (.list (.int .i64)) (.pair (.int .i64) .unit))), (.pair (.list (.int .i64)) (.pair (.int .i64) .unit)), g43, false, none⟩
noncomputable def σ43 : FuncId → Option Spec := sig [(84, s84), (85, s85), (86, s86)]
theorem σok43 : ∀ f s, σ43 f = some s → FnOK Try.prog f s := sig_ok (l := [(84, s84), (85, s85), (86, s86)]) ⟨ok84, ok85, ok86, trivial⟩
noncomputable def Λ43 : Nat → Option LSpec := lkp (loopList (bodyOf Try.f43)) []
theorem ok43 : FnOK Try.prog 43 s43 := fn_ok (Λ := Λ43) tab0 σok43 Try.func43 (by kernel_rfl) (show Try.f43.body = some (bodyOf Try.f43) by kernel_rfl) [] rfl (by kernel_rfl) (by exact trivial)
  fun x y h => (show execFn Γ0 E0 σ43 Λ43 Try.f43 s43 x = g43 x by kernel_rfl).trans h

def lv45_2 : List (Nat × Live) := [(0, .val (.list (.int .i64))), (1, .val (.int .i64)), (5, .val (.int .i64))]
noncomputable def bl45_2 : List (Nat × Live) := [(1, .val (.int .i64))]
noncomputable def rl45_2 : List (Nat × Live) := [(4, .val (.int .i64))]
noncomputable def b45_2 (x : (Ty.T (.pair (.list (.int .i64)) (.pair (.int .i64) (.pair (.int .i64) .unit))))) : Option ((Ty.T (.pair (.list (.int .i64)) (.pair (.int .i64) (.pair (.int .i64) .unit)))) ⊕ ((Ty.T (.pair (.int .i64) .unit)) ⊕ (Ty.T (.pair (.int .i64) .unit)))) :=
match (decide (x.2.2.1 < (x.1.length : Int))) with
| true =>
  onSome (idx x.1 x.2.2.1) fun v1 =>
  match (v1 != x.2.1) with
  | true =>
    some (.inr (.inr ((-1 : Int), ())))
  | false =>
    some (.inl (x.1, (IntKind.i64.wrap (x.2.1 + (1 : Int))), (IntKind.i64.wrap (x.2.2.1 + (1 : Int))), ()))
| false =>
  some (.inr (.inl (x.2.1, ())))
noncomputable def g45 (x : Ty.T (.pair (.list (.int .i64)) (.pair (.int .i64) .unit))) : Option (Ty.T (.pair (.int .i64) .unit)) :=
match loopL b45_2 (x.1, x.2.1, (0 : Int), ()) with
| none => none
| some (.inl v2) =>
  some (v2.1, ())
| some (.inr v3) =>
  some (v3.1, ())
noncomputable def s45 : Spec := ⟨(.pair (.list (.int .i64)) (.pair (.int .i64) .unit)), (.pair (.int .i64) .unit), g45, false, none⟩
noncomputable def σ45 : FuncId → Option Spec := sig []
theorem σok45 : ∀ f s, σ45 f = some s → FnOK Try.prog f s := sig_ok (l := []) trivial
noncomputable def Λ45 : Nat → Option LSpec := lkp (loopList (bodyOf Try.f45)) [⟨lv45_2, 0, bl45_2, rl45_2, loopL b45_2⟩]
theorem lok45_2 (x) : codeK Γ0 E0 σ45 Λ45 Try.f45.ntmps (nthLoop Try.f45 0) (mkF Try.f45.ntmps lv45_2 x) (readK Try.f45.ntmps lv45_2 0 bl45_2 rl45_2) = b45_2 x := by kernel_rfl
theorem ok45 : FnOK Try.prog 45 s45 := fn_ok (Λ := Λ45) tab0 σok45 Try.func45 (by kernel_rfl) (show Try.f45.body = some (bodyOf Try.f45) by kernel_rfl) [⟨lv45_2, 0, bl45_2, rl45_2, loopL b45_2⟩] rfl (by kernel_rfl) (by exact ⟨loop_LOK lok45_2, trivial⟩)
  fun x y h => (show execFn Γ0 E0 σ45 Λ45 Try.f45 s45 x = g45 x by kernel_rfl).trans h

def lv46_5 : List (Nat × Live) := [(0, .val (.list (.pair (.pair (.int .i64) (.pair (.int .i64) (.pair (.int .i64) (.pair (.int .i64) (.pair (.int .i64) .unit))))) (.pair (.int .i64) (.pair (.int .i64) .unit))))), (1, .val (.int .i64)), (6, .val (.int .i64)), (7, .val (.int .i64)), (8, .val (.int .i64))]
noncomputable def bl46_5 : List (Nat × Live) := [(6, .val (.int .i64))]
noncomputable def rl46_5 : List (Nat × Live) := []
noncomputable def b46_5 (x : (Ty.T (.pair (.list (.pair (.pair (.int .i64) (.pair (.int .i64) (.pair (.int .i64) (.pair (.int .i64) (.pair (.int .i64) .unit))))) (.pair (.int .i64) (.pair (.int .i64) .unit)))) (.pair (.int .i64) (.pair (.int .i64) (.pair (.int .i64) (.pair (.int .i64) .unit))))))) : Option ((Ty.T (.pair (.list (.pair (.pair (.int .i64) (.pair (.int .i64) (.pair (.int .i64) (.pair (.int .i64) (.pair (.int .i64) .unit))))) (.pair (.int .i64) (.pair (.int .i64) .unit)))) (.pair (.int .i64) (.pair (.int .i64) (.pair (.int .i64) (.pair (.int .i64) .unit)))))) ⊕ ((Ty.T (.pair (.int .i64) .unit)) ⊕ (Ty.T .unit))) :=
match (decide (x.2.2.2.2.1 < (x.1.length : Int))) with
| true =>
  onSome (idx x.1 x.2.2.2.2.1) fun v2 =>
  match (v2.2.1 != x.2.1) with
  | true =>
    some (.inl (x.1, x.2.1, x.2.2.1, x.2.2.2.1, (IntKind.i64.wrap (x.2.2.2.2.1 + (1 : Int))), ()))
  | false =>
    onSome (idx x.1 x.2.2.2.2.1) fun v3 =>
    match (v3.2.2.1 == (3 : Int)) with
    | true =>
      some (.inl (x.1, x.2.1, (if (0 : Int) > x.2.2.1 then (0 : Int) else x.2.2.1), (0 : Int), (IntKind.i64.wrap (x.2.2.2.2.1 + (1 : Int))), ()))
    | false =>
      some (.inl (x.1, x.2.1, (if (IntKind.i64.wrap (x.2.2.2.1 + (1 : Int))) > x.2.2.1 then (IntKind.i64.wrap (x.2.2.2.1 + (1 : Int))) else x.2.2.1), (IntKind.i64.wrap (x.2.2.2.1 + (1 : Int))), (IntKind.i64.wrap (x.2.2.2.2.1 + (1 : Int))), ()))
| false =>
  some (.inr (.inl (x.2.2.1, ())))
noncomputable def g46 (x : Ty.T (.pair (.list (.pair (.pair (.int .i64) (.pair (.int .i64) (.pair (.int .i64) (.pair (.int .i64) (.pair (.int .i64) .unit))))) (.pair (.int .i64) (.pair (.int .i64) .unit)))) (.pair (.int .i64) .unit))) : Option (Ty.T (.pair (.int .i64) (.pair (.int .i64) .unit))) :=
match g74 (x.1, ()) with
| none => none
| some v1 =>
match (!v1.1) with
| true =>
  some ((0 : Int), (1 : Int), ())
| false =>
  match loopL b46_5 (x.1, x.2.1, (0 : Int), (0 : Int), (0 : Int), ()) with
  | none => none
  | some (.inl v4) =>
    some (v4.1, (0 : Int), ())
  | some (.inr v6) =>
    none
noncomputable def s46 : Spec := ⟨(.pair (.list (.pair (.pair (.int .i64) (.pair (.int .i64) (.pair (.int .i64) (.pair (.int .i64) (.pair (.int .i64) .unit))))) (.pair (.int .i64) (.pair (.int .i64) .unit)))) (.pair (.int .i64) .unit)), (.pair (.int .i64) (.pair (.int .i64) .unit)), g46, false, none⟩
noncomputable def σ46 : FuncId → Option Spec := sig [(74, s74)]
theorem σok46 : ∀ f s, σ46 f = some s → FnOK Try.prog f s := sig_ok (l := [(74, s74)]) ⟨ok74, trivial⟩
noncomputable def Λ46 : Nat → Option LSpec := lkp (loopList (bodyOf Try.f46)) [⟨lv46_5, 0, bl46_5, rl46_5, loopL b46_5⟩]
theorem lok46_5 (x) : codeK Γ0 E0 σ46 Λ46 Try.f46.ntmps (nthLoop Try.f46 0) (mkF Try.f46.ntmps lv46_5 x) (readK Try.f46.ntmps lv46_5 0 bl46_5 rl46_5) = b46_5 x := by kernel_rfl
theorem ok46 : FnOK Try.prog 46 s46 := fn_ok (Λ := Λ46) tab0 σok46 Try.func46 (by kernel_rfl) (show Try.f46.body = some (bodyOf Try.f46) by kernel_rfl) [⟨lv46_5, 0, bl46_5, rl46_5, loopL b46_5⟩] rfl (by kernel_rfl) (by exact ⟨loop_LOK lok46_5, trivial⟩)
  fun x y h => (show execFn Γ0 E0 σ46 Λ46 Try.f46 s46 x = g46 x by kernel_rfl).trans h

def lv47_5 : List (Nat × Live) := [(1, .val (.int .i64)), (6, .val (.int .i64)), (7, .val (.int .i64)), (13, .val (.list (.pair (.pair (.int .i64) (.pair (.int .i64) (.pair (.int .i64) (.pair (.int .i64) (.pair (.int .i64) .unit))))) (.pair (.int .i64) (.pair (.int .i64) .unit))))), (14, .val (.int .i64)), (15, .val (.int .i64))]
noncomputable def bl47_5 : List (Nat × Live) := [(6, .val (.int .i64))]
noncomputable def rl47_5 : List (Nat × Live) := []
noncomputable def b47_5 (x : (Ty.T (.pair (.int .i64) (.pair (.int .i64) (.pair (.int .i64) (.pair (.list (.pair (.pair (.int .i64) (.pair (.int .i64) (.pair (.int .i64) (.pair (.int .i64) (.pair (.int .i64) .unit))))) (.pair (.int .i64) (.pair (.int .i64) .unit)))) (.pair (.int .i64) (.pair (.int .i64) .unit)))))))) : Option ((Ty.T (.pair (.int .i64) (.pair (.int .i64) (.pair (.int .i64) (.pair (.list (.pair (.pair (.int .i64) (.pair (.int .i64) (.pair (.int .i64) (.pair (.int .i64) (.pair (.int .i64) .unit))))) (.pair (.int .i64) (.pair (.int .i64) .unit)))) (.pair (.int .i64) (.pair (.int .i64) .unit))))))) ⊕ ((Ty.T (.pair (.int .i64) .unit)) ⊕ (Ty.T .unit))) :=
match (decide (x.2.2.2.2.2.1 < x.2.2.2.2.1)) with
| true =>
  onSome (idx x.2.2.2.1 x.2.2.2.2.2.1) fun v2 =>
  match (v2.2.1 != x.1) with
  | true =>
    some (.inl (x.1, x.2.1, x.2.2.1, x.2.2.2.1, x.2.2.2.2.1, (IntKind.i64.wrap (x.2.2.2.2.2.1 + (1 : Int))), ()))
  | false =>
    match (v2.2.2.1 == (3 : Int)) with
    | true =>
      some (.inl (x.1, (if (0 : Int) > x.2.1 then (0 : Int) else x.2.1), (0 : Int), x.2.2.2.1, x.2.2.2.2.1, (IntKind.i64.wrap (x.2.2.2.2.2.1 + (1 : Int))), ()))
    | false =>
      some (.inl (x.1, (if (IntKind.i64.wrap (x.2.2.1 + (1 : Int))) > x.2.1 then (IntKind.i64.wrap (x.2.2.1 + (1 : Int))) else x.2.1), (IntKind.i64.wrap (x.2.2.1 + (1 : Int))), x.2.2.2.1, x.2.2.2.2.1, (IntKind.i64.wrap (x.2.2.2.2.2.1 + (1 : Int))), ()))
| false =>
  some (.inr (.inl (x.2.1, ())))
noncomputable def g47 (x : Ty.T (.pair (.list (.pair (.pair (.int .i64) (.pair (.int .i64) (.pair (.int .i64) (.pair (.int .i64) (.pair (.int .i64) .unit))))) (.pair (.int .i64) (.pair (.int .i64) .unit)))) (.pair (.int .i64) .unit))) : Option (Ty.T (.pair (.int .i64) (.pair (.int .i64) .unit))) :=
match g75 (x.1, ()) with
| none => none
| some v1 =>
match (!v1.1) with
| true =>
  some ((0 : Int), (1 : Int), ())
| false =>
  match loopL b47_5 (x.2.1, (0 : Int), (0 : Int), x.1, (x.1.length : Int), (0 : Int), ()) with
  | none => none
  | some (.inl v3) =>
    some (v3.1, (0 : Int), ())
  | some (.inr v5) =>
    none
noncomputable def s47 : Spec := ⟨(.pair (.list (.pair (.pair (.int .i64) (.pair (.int .i64) (.pair (.int .i64) (.pair (.int .i64) (.pair (.int .i64) .unit))))) (.pair (.int .i64) (.pair (.int .i64) .unit)))) (.pair (.int .i64) .unit)), (.pair (.int .i64) (.pair (.int .i64) .unit)), g47, false, none⟩
noncomputable def σ47 : FuncId → Option Spec := sig [(75, s75)]
theorem σok47 : ∀ f s, σ47 f = some s → FnOK Try.prog f s := sig_ok (l := [(75, s75)]) ⟨ok75, trivial⟩
noncomputable def Λ47 : Nat → Option LSpec := lkp (loopList (bodyOf Try.f47)) [⟨lv47_5, 0, bl47_5, rl47_5, loopL b47_5⟩]
theorem lok47_5 (x) : codeK Γ0 E0 σ47 Λ47 Try.f47.ntmps (nthLoop Try.f47 0) (mkF Try.f47.ntmps lv47_5 x) (readK Try.f47.ntmps lv47_5 0 bl47_5 rl47_5) = b47_5 x := by kernel_rfl
theorem ok47 : FnOK Try.prog 47 s47 := fn_ok (Λ := Λ47) tab0 σok47 Try.func47 (by kernel_rfl) (show Try.f47.body = some (bodyOf Try.f47) by kernel_rfl) [⟨lv47_5, 0, bl47_5, rl47_5, loopL b47_5⟩] rfl (by kernel_rfl) (by exact ⟨loop_LOK lok47_5, trivial⟩)
  fun x y h => (show execFn Γ0 E0 σ47 Λ47 Try.f47 s47 x = g47 x by kernel_rfl).trans h

noncomputable def g11 (x : Ty.T (.pair (.list (.pair (.pair (.int .i64) (.pair (.int .i64) (.pair (.int .i64) (.pair (.int .i64) (.pair (.int .i64) .unit))))) (.pair (.int .i64) (.pair (.int .i64) .unit)))) (.pair (.int .i64) .unit))) : Option (Ty.T (.pair .bool .unit)) :=
match g32 (x.1, (1048576 : Int), ()) with
| none => none
| some v1 =>
match (decide (v1.1 < (0 : Int))) with
| true =>
  some (true, ())
| false =>
  match g34 (x.1, ()) with
  | none => none
  | some v2 =>
  match g46 (v2.1, x.2.1, ()) with
  | none => none
  | some v3 =>
  match g34 (x.1, ()) with
  | none => none
  | some v4 =>
  match g47 (v4.1, x.2.1, ()) with
  | none => none
  | some v5 =>
  match (v5.1 != v3.1) with
  | true =>
    some (false, ())
  | false =>
    match (v5.2.1 != v3.2.1) with
    | true =>
      some (false, ())
    | false =>
      match g34 (x.1, ()) with
      | none => none
      | some v6 =>
      match g36 (v4.1, v6.1, ()) with
      | none => none
      | some v7 =>
      match (!v7.1) with
      | true =>
        some (false, ())
      | false =>
        some (true, ())
noncomputable def s11 : Spec := ⟨(.pair (.list (.pair (.pair (.int .i64) (.pair (.int .i64) (.pair (.int .i64) (.pair (.int .i64) (.pair (.int .i64) .unit))))) (.pair (.int .i64) (.pair (.int .i64) .unit)))) (.pair (.int .i64) .unit)), (.pair .bool .unit), g11, false, none⟩
noncomputable def σ11 : FuncId → Option Spec := sig [(32, s32), (34, s34), (36, s36), (46, s46), (47, s47)]
theorem σok11 : ∀ f s, σ11 f = some s → FnOK Try.prog f s := sig_ok (l := [(32, s32), (34, s34), (36, s36), (46, s46), (47, s47)]) ⟨ok32, ok34, ok36, ok46, ok47, trivial⟩
noncomputable def Λ11 : Nat → Option LSpec := lkp (loopList (bodyOf Try.f11)) []
theorem ok11 : FnOK Try.prog 11 s11 := fn_ok (Λ := Λ11) tab0 σok11 Try.func11 (by kernel_rfl) (show Try.f11.body = some (bodyOf Try.f11) by kernel_rfl) [] rfl (by kernel_rfl) (by exact trivial)
  fun x y h => (show execFn Γ0 E0 σ11 Λ11 Try.f11 s11 x = g11 x by kernel_rfl).trans h

noncomputable def g87 (x : Ty.T (.pair (.list (.pair (.int .i64) (.pair (.int .i64) (.pair (.int .i64) (.pair (.int .i64) .unit))))) (.pair (.int .i64) .unit))) : Option (Ty.T (.pair (.int .i64) .unit)) :=
match (decide ((IntKind.i64.wrap (x.2.1 - (x.1.length : Int))) < (0 : Int))) with
| true =>
  some ((-1 : Int), ())
| false =>
  some ((IntKind.i64.wrap (x.2.1 - (x.1.length : Int))), ())
noncomputable def s87 : Spec := ⟨(.pair (.list (.pair (.int .i64) (.pair (.int .i64) (.pair (.int .i64) (.pair (.int .i64) .unit))))) (.pair (.int .i64) .unit)), (.pair (.int .i64) .unit), g87, false, none⟩
noncomputable def σ87 : FuncId → Option Spec := sig []
theorem σok87 : ∀ f s, σ87 f = some s → FnOK Try.prog f s := sig_ok (l := []) trivial
noncomputable def Λ87 : Nat → Option LSpec := lkp (loopList (bodyOf Try.f87)) []
theorem ok87 : FnOK Try.prog 87 s87 := fn_ok (Λ := Λ87) tab0 σok87 Try.func87 (by kernel_rfl) (show Try.f87.body = some (bodyOf Try.f87) by kernel_rfl) [] rfl (by kernel_rfl) (by exact trivial)
  fun x y h => (show execFn Γ0 E0 σ87 Λ87 Try.f87 s87 x = g87 x by kernel_rfl).trans h

noncomputable def g48 (x : Ty.T (.pair (.pair (.int .i64) (.pair (.int .i64) (.pair (.list (.pair (.int .i64) (.pair (.int .i64) (.pair (.int .i64) (.pair (.int .i64) .unit))))) (.pair (.list (.pair (.int .i64) (.pair (.int .i64) (.pair (.int .i64) (.pair (.int .i64) .unit))))) .unit)))) (.pair (.int .i64) .unit))) : Option (Ty.T (.pair (.int .i64) .unit)) :=
match g87 (x.1.2.2.1, x.2.1, ()) with
| none => none
| some v1 =>
match (decide (v1.1 < (0 : Int))) with
| true =>
  some ((-1 : Int), ())
| false =>
  match g87 (x.1.2.2.2.1, v1.1, ()) with
  | none => none
  | some v2 =>
  match (decide (v2.1 < (0 : Int))) with
  | true =>
    some ((-1 : Int), ())
  | false =>
    some (v2.1, ())
noncomputable def s48 : Spec := ⟨(.pair (.pair (.int .i64) (.pair (.int .i64) (.pair (.list (.pair (.int .i64) (.pair (.int .i64) (.pair (.int .i64) (.pair (.int .i64) .unit))))) (.pair (.list (.pair (.int .i64) (.pair (.int .i64) (.pair (.int .i64) (.pair (.int .i64) .unit))))) .unit)))) (.pair (.int .i64) .unit)), (.pair (.int .i64) .unit), g48, false, none⟩
noncomputable def σ48 : FuncId → Option Spec := sig [(87, s87)]
theorem σok48 : ∀ f s, σ48 f = some s → FnOK Try.prog f s := sig_ok (l := [(87, s87)]) ⟨ok87, trivial⟩
noncomputable def Λ48 : Nat → Option LSpec := lkp (loopList (bodyOf Try.f48)) []
theorem ok48 : FnOK Try.prog 48 s48 := fn_ok (Λ := Λ48) tab0 σok48 Try.func48 (by kernel_rfl) (show Try.f48.body = some (bodyOf Try.f48) by kernel_rfl) [] rfl (by kernel_rfl) (by exact trivial)
  fun x y h => (show execFn Γ0 E0 σ48 Λ48 Try.f48 s48 x = g48 x by kernel_rfl).trans h

noncomputable def g108 (x : Ty.T (.pair (.int .i64) .unit)) : Option (Ty.T (.pair .bool (.pair .bool .unit))) :=
match (x.1 == (2 : Int)) with
| true =>
  some (true, false, ())
| false =>
  match (x.1 == (3 : Int)) with
  | true =>
    some (true, false, ())
  | false =>
    match (x.1 == (4 : Int)) with
    | true =>
      some (true, true, ())
    | false =>
      match (x.1 == (6 : Int)) with
      | true =>
        some (true, true, ())
      | false =>
        some (false, false, ())
noncomputable def s108 : Spec := ⟨(.pair (.int .i64) .unit), (.pair .bool (.pair .bool .unit)), g108, false, none⟩
noncomputable def σ108 : FuncId → Option Spec := sig []
theorem σok108 : ∀ f s, σ108 f = some s → FnOK Try.prog f s := sig_ok (l := []) trivial
noncomputable def Λ108 : Nat → Option LSpec := lkp (loopList (bodyOf Try.f108)) []
theorem ok108 : FnOK Try.prog 108 s108 := fn_ok (Λ := Λ108) tab0 σok108 Try.func108 (by kernel_rfl) (show Try.f108.body = some (bodyOf Try.f108) by kernel_rfl) [] rfl (by kernel_rfl) (by exact trivial)
  fun x y h => (show execFn Γ0 E0 σ108 Λ108 Try.f108 s108 x = g108 x by kernel_rfl).trans h

noncomputable def g102 (x : Ty.T (.pair (.pair (.int .i64) (.pair (.int .i64) (.pair (.int .i64) (.pair (.int .i64) .unit)))) .unit)) : Option (Ty.T (.pair .bool .unit)) :=
match g60 (x.1.1, (1 : Int), (6 : Int), ()) with
| none => none
| some v1 =>
match (!v1.1) with
| true =>
  some (false, ())
| false =>
  match g60 (x.1.2.1, (0 : Int), (8192 : Int), ()) with
  | none => none
  | some v2 =>
  match (!v2.1) with
  | true =>
    some (false, ())
  | false =>
    match g108 (x.1.1, ()) with
    | none => none
    | some v3 =>
    match v3.1 with
    | true =>
      match g60 (x.1.2.2.1, (1 : Int), (8192 : Int), ()) with
      | none => none
      | some v4 =>
      match (!v4.1) with
      | true =>
        some (false, ())
      | false =>
        match (!v3.1) with
        | true =>
          match (x.1.2.2.1 != (0 : Int)) with
          | true =>
            some (false, ())
          | false =>
            match g60 (x.1.2.2.2.1, (0 : Int), (1 : Int), ()) with
            | none => none
            | some v5 =>
            match v5.1 with
            | true =>
              match v3.2.1 with
              | true =>
                some (true, ())
              | false =>
                some ((x.1.2.2.2.1 == (0 : Int)), ())
            | false =>
              some (false, ())
        | false =>
          match g60 (x.1.2.2.2.1, (0 : Int), (1 : Int), ()) with
          | none => none
          | some v6 =>
          match v6.1 with
          | true =>
            match v3.2.1 with
            | true =>
              some (true, ())
            | false =>
              some ((x.1.2.2.2.1 == (0 : Int)), ())
          | false =>
            some (false, ())
    | false =>
      match (!v3.1) with
      | true =>
        match (x.1.2.2.1 != (0 : Int)) with
        | true =>
          some (false, ())
        | false =>
          match g60 (x.1.2.2.2.1, (0 : Int), (1 : Int), ()) with
          | none => none
          | some v7 =>
          match v7.1 with
          | true =>
            match v3.2.1 with
            | true =>
              some (true, ())
            | false =>
              some ((x.1.2.2.2.1 == (0 : Int)), ())
          | false =>
            some (false, ())
      | false =>
        match g60 (x.1.2.2.2.1, (0 : Int), (1 : Int), ()) with
        | none => none
        | some v8 =>
        match v8.1 with
        | true =>
          match v3.2.1 with
          | true =>
            some (true, ())
          | false =>
            some ((x.1.2.2.2.1 == (0 : Int)), ())
        | false =>
          some (false, ())
noncomputable def s102 : Spec := ⟨(.pair (.pair (.int .i64) (.pair (.int .i64) (.pair (.int .i64) (.pair (.int .i64) .unit)))) .unit), (.pair .bool .unit), g102, false, none⟩
noncomputable def σ102 : FuncId → Option Spec := sig [(60, s60), (108, s108)]
theorem σok102 : ∀ f s, σ102 f = some s → FnOK Try.prog f s := sig_ok (l := [(60, s60), (108, s108)]) ⟨ok60, ok108, trivial⟩
noncomputable def Λ102 : Nat → Option LSpec := lkp (loopList (bodyOf Try.f102)) []
theorem ok102 : FnOK Try.prog 102 s102 := fn_ok (Λ := Λ102) tab0 σok102 Try.func102 (by kernel_rfl) (show Try.f102.body = some (bodyOf Try.f102) by kernel_rfl) [] rfl (by kernel_rfl) (by exact trivial)
  fun x y h => (show execFn Γ0 E0 σ102 Λ102 Try.f102 s102 x = g102 x by kernel_rfl).trans h

def lv88_2 : List (Nat × Live) := [(0, .val (.list (.pair (.int .i64) (.pair (.int .i64) (.pair (.int .i64) (.pair (.int .i64) .unit)))))), (3, .val (.int .i64))]
noncomputable def bl88_2 : List (Nat × Live) := [(0, .val (.list (.pair (.int .i64) (.pair (.int .i64) (.pair (.int .i64) (.pair (.int .i64) .unit))))))]
noncomputable def rl88_2 : List (Nat × Live) := [(2, .val .bool)]
noncomputable def b88_2 (x : (Ty.T (.pair (.list (.pair (.int .i64) (.pair (.int .i64) (.pair (.int .i64) (.pair (.int .i64) .unit))))) (.pair (.int .i64) .unit)))) : Option ((Ty.T (.pair (.list (.pair (.int .i64) (.pair (.int .i64) (.pair (.int .i64) (.pair (.int .i64) .unit))))) (.pair (.int .i64) .unit))) ⊕ ((Ty.T (.pair (.list (.pair (.int .i64) (.pair (.int .i64) (.pair (.int .i64) (.pair (.int .i64) .unit))))) .unit)) ⊕ (Ty.T (.pair .bool .unit)))) :=
match (decide (x.2.1 < (x.1.length : Int))) with
| true =>
  onSome (idx x.1 x.2.1) fun v1 =>
  match g102 (v1, ()) with
  | none => none
  | some v2 =>
  match (!v2.1) with
  | true =>
    some (.inr (.inr (false, ())))
  | false =>
    some (.inl (x.1, (IntKind.i64.wrap (x.2.1 + (1 : Int))), ()))
| false =>
  some (.inr (.inl (x.1, ())))
noncomputable def g88 (x : Ty.T (.pair (.list (.pair (.int .i64) (.pair (.int .i64) (.pair (.int .i64) (.pair (.int .i64) .unit))))) .unit)) : Option (Ty.T (.pair .bool .unit)) :=
match loopL b88_2 (x.1, (0 : Int), ()) with
| none => none
| some (.inl v3) =>
  some ((decide ((v3.1.length : Int) ≤ (30 : Int))), ())
| some (.inr v4) =>
  some (v4.1, ())
noncomputable def s88 : Spec := ⟨(.pair (.list (.pair (.int .i64) (.pair (.int .i64) (.pair (.int .i64) (.pair (.int .i64) .unit))))) .unit), (.pair .bool .unit), g88, false, none⟩
noncomputable def σ88 : FuncId → Option Spec := sig [(102, s102)]
theorem σok88 : ∀ f s, σ88 f = some s → FnOK Try.prog f s := sig_ok (l := [(102, s102)]) ⟨ok102, trivial⟩
noncomputable def Λ88 : Nat → Option LSpec := lkp (loopList (bodyOf Try.f88)) [⟨lv88_2, 0, bl88_2, rl88_2, loopL b88_2⟩]
theorem lok88_2 (x) : codeK Γ0 E0 σ88 Λ88 Try.f88.ntmps (nthLoop Try.f88 0) (mkF Try.f88.ntmps lv88_2 x) (readK Try.f88.ntmps lv88_2 0 bl88_2 rl88_2) = b88_2 x := by kernel_rfl
theorem ok88 : FnOK Try.prog 88 s88 := fn_ok (Λ := Λ88) tab0 σok88 Try.func88 (by kernel_rfl) (show Try.f88.body = some (bodyOf Try.f88) by kernel_rfl) [⟨lv88_2, 0, bl88_2, rl88_2, loopL b88_2⟩] rfl (by kernel_rfl) (by exact ⟨loop_LOK lok88_2, trivial⟩)
  fun x y h => (show execFn Γ0 E0 σ88 Λ88 Try.f88 s88 x = g88 x by kernel_rfl).trans h

noncomputable def g49 (x : Ty.T (.pair (.pair (.int .i64) (.pair (.int .i64) (.pair (.list (.pair (.int .i64) (.pair (.int .i64) (.pair (.int .i64) (.pair (.int .i64) .unit))))) (.pair (.list (.pair (.int .i64) (.pair (.int .i64) (.pair (.int .i64) (.pair (.int .i64) .unit))))) .unit)))) .unit)) : Option (Ty.T (.pair .bool .unit)) :=
match g60 (x.1.1, (0 : Int), (255 : Int), ()) with
| none => none
| some v1 =>
match v1.1 with
| true =>
  match g60 (x.1.2.1, (0 : Int), (7 : Int), ()) with
  | none => none
  | some v2 =>
  match v2.1 with
  | true =>
    match g88 (x.1.2.2.1, ()) with
    | none => none
    | some v3 =>
    match v3.1 with
    | true =>
      match g88 (x.1.2.2.2.1, ()) with
      | none => none
      | some v4 =>
      some (v4.1, ())
    | false =>
      some (false, ())
  | false =>
    some (false, ())
| false =>
  some (false, ())
noncomputable def s49 : Spec := ⟨(.pair (.pair (.int .i64) (.pair (.int .i64) (.pair (.list (.pair (.int .i64) (.pair (.int .i64) (.pair (.int .i64) (.pair (.int .i64) .unit))))) (.pair (.list (.pair (.int .i64) (.pair (.int .i64) (.pair (.int .i64) (.pair (.int .i64) .unit))))) .unit)))) .unit), (.pair .bool .unit), g49, false, none⟩
noncomputable def σ49 : FuncId → Option Spec := sig [(60, s60), (88, s88)]
theorem σok49 : ∀ f s, σ49 f = some s → FnOK Try.prog f s := sig_ok (l := [(60, s60), (88, s88)]) ⟨ok60, ok88, trivial⟩
noncomputable def Λ49 : Nat → Option LSpec := lkp (loopList (bodyOf Try.f49)) []
theorem ok49 : FnOK Try.prog 49 s49 := fn_ok (Λ := Λ49) tab0 σok49 Try.func49 (by kernel_rfl) (show Try.f49.body = some (bodyOf Try.f49) by kernel_rfl) [] rfl (by kernel_rfl) (by exact trivial)
  fun x y h => (show execFn Γ0 E0 σ49 Λ49 Try.f49 s49 x = g49 x by kernel_rfl).trans h

noncomputable def g103 (x : Ty.T (.pair (.pair (.int .i64) (.pair (.int .i64) (.pair (.int .i64) (.pair (.int .i64) .unit)))) .unit)) : Option (Ty.T (.pair (.pair (.int .i64) (.pair (.int .i64) (.pair (.int .i64) (.pair (.int .i64) .unit)))) .unit)) :=
some ((x.1.1, x.1.2.1, x.1.2.2.1, x.1.2.2.2.1, ()), ())
noncomputable def s103 : Spec := ⟨(.pair (.pair (.int .i64) (.pair (.int .i64) (.pair (.int .i64) (.pair (.int .i64) .unit)))) .unit), (.pair (.pair (.int .i64) (.pair (.int .i64) (.pair (.int .i64) (.pair (.int .i64) .unit)))) .unit), g103, false, none⟩
noncomputable def σ103 : FuncId → Option Spec := sig []
theorem σok103 : ∀ f s, σ103 f = some s → FnOK Try.prog f s := sig_ok (l := []) trivial
noncomputable def Λ103 : Nat → Option LSpec := lkp (loopList (bodyOf Try.f103)) []
theorem ok103 : FnOK Try.prog 103 s103 := fn_ok (Λ := Λ103) tab0 σok103 Try.func103 (by kernel_rfl) (show Try.f103.body = some (bodyOf Try.f103) by kernel_rfl) [] rfl (by kernel_rfl) (by exact trivial)
  fun x y h => (show execFn Γ0 E0 σ103 Λ103 Try.f103 s103 x = g103 x by kernel_rfl).trans h

def lv89_3 : List (Nat × Live) := [(0, .val (.list (.pair (.int .i64) (.pair (.int .i64) (.pair (.int .i64) (.pair (.int .i64) .unit)))))), (3, .arr 109 (.pair (.int .i64) (.pair (.int .i64) (.pair (.int .i64) (.pair (.int .i64) .unit))))), (4, .val (.int .i64))]
noncomputable def bl89_3 : List (Nat × Live) := [(3, .arr 109 (.pair (.int .i64) (.pair (.int .i64) (.pair (.int .i64) (.pair (.int .i64) .unit)))))]
noncomputable def rl89_3 : List (Nat × Live) := []
noncomputable def b89_3 (x : (Ty.T (.pair (.list (.pair (.int .i64) (.pair (.int .i64) (.pair (.int .i64) (.pair (.int .i64) .unit))))) (.pair (.list (.pair (.int .i64) (.pair (.int .i64) (.pair (.int .i64) (.pair (.int .i64) .unit))))) (.pair (.int .i64) .unit))))) : Option ((Ty.T (.pair (.list (.pair (.int .i64) (.pair (.int .i64) (.pair (.int .i64) (.pair (.int .i64) .unit))))) (.pair (.list (.pair (.int .i64) (.pair (.int .i64) (.pair (.int .i64) (.pair (.int .i64) .unit))))) (.pair (.int .i64) .unit)))) ⊕ ((Ty.T (.pair (.list (.pair (.int .i64) (.pair (.int .i64) (.pair (.int .i64) (.pair (.int .i64) .unit))))) .unit)) ⊕ (Ty.T .unit))) :=
match (decide (x.2.2.1 < (x.1.length : Int))) with
| true =>
  onSome (idx x.1 x.2.2.1) fun v1 =>
  match g103 (v1, ()) with
  | none => none
  | some v2 =>
  onSome (idx x.2.1 x.2.2.1) fun _ =>
  match x.2.1[x.2.2.1.toNat]? with
  | none => none
  | some v4 =>
  some (.inl (x.1, (x.2.1.set x.2.2.1.toNat (v2.1.1, v2.1.2.1, v2.1.2.2.1, v2.1.2.2.2.1, ())), (IntKind.i64.wrap (x.2.2.1 + (1 : Int))), ()))
| false =>
  some (.inr (.inl (x.2.1, ())))
noncomputable def g89 (x : Ty.T (.pair (.list (.pair (.int .i64) (.pair (.int .i64) (.pair (.int .i64) (.pair (.int .i64) .unit))))) .unit)) : Option (Ty.T (.pair (.list (.pair (.int .i64) (.pair (.int .i64) (.pair (.int .i64) (.pair (.int .i64) .unit))))) .unit)) :=
if 0 ≤ (x.1.length : Int) ∧ (x.1.length : Int) ≤ (x.1.length : Int) then
  room ((x.1.length : Int).toNat) (
    match loopL b89_3 (x.1, (List.replicate (x.1.length : Int).toNat ((0 : Int), (0 : Int), (0 : Int), (0 : Int), ())), (0 : Int), ()) with
    | none => none
    | some (.inl v5) =>
      some (v5.1, ())
    | some (.inr v7) =>
      none)
else none
noncomputable def s89 : Spec := ⟨(.pair (.list (.pair (.int .i64) (.pair (.int .i64) (.pair (.int .i64) (.pair (.int .i64) .unit))))) .unit), (.pair (.list (.pair (.int .i64) (.pair (.int .i64) (.pair (.int .i64) (.pair (.int .i64) .unit))))) .unit), g89, false, none⟩
noncomputable def σ89 : FuncId → Option Spec := sig [(103, s103)]
theorem σok89 : ∀ f s, σ89 f = some s → FnOK Try.prog f s := sig_ok (l := [(103, s103)]) ⟨ok103, trivial⟩
noncomputable def Λ89 : Nat → Option LSpec := lkp (loopList (bodyOf Try.f89)) [⟨lv89_3, 0, bl89_3, rl89_3, loopL b89_3⟩]
theorem lok89_3 (x) : codeK Γ0 E0 σ89 Λ89 Try.f89.ntmps (nthLoop Try.f89 0) (mkF Try.f89.ntmps lv89_3 x) (readK Try.f89.ntmps lv89_3 0 bl89_3 rl89_3) = b89_3 x := by kernel_rfl
theorem ok89 : FnOK Try.prog 89 s89 := fn_ok (Λ := Λ89) tab0 σok89 Try.func89 (by kernel_rfl) (show Try.f89.body = some (bodyOf Try.f89) by kernel_rfl) [⟨lv89_3, 0, bl89_3, rl89_3, loopL b89_3⟩] rfl (by kernel_rfl) (by exact ⟨loop_LOK lok89_3, trivial⟩)
  fun x y h => (show execFn Γ0 E0 σ89 Λ89 Try.f89 s89 x = g89 x by kernel_rfl).trans h

noncomputable def g50 (x : Ty.T (.pair (.pair (.int .i64) (.pair (.int .i64) (.pair (.list (.pair (.int .i64) (.pair (.int .i64) (.pair (.int .i64) (.pair (.int .i64) .unit))))) (.pair (.list (.pair (.int .i64) (.pair (.int .i64) (.pair (.int .i64) (.pair (.int .i64) .unit))))) .unit)))) .unit)) : Option (Ty.T (.pair (.pair (.int .i64) (.pair (.int .i64) (.pair (.list (.pair (.int .i64) (.pair (.int .i64) (.pair (.int .i64) (.pair (.int .i64) .unit))))) (.pair (.list (.pair (.int .i64) (.pair (.int .i64) (.pair (.int .i64) (.pair (.int .i64) .unit))))) .unit)))) .unit)) :=
match g89 (x.1.2.2.1, ()) with
| none => none
| some v1 =>
match g89 (x.1.2.2.2.1, ()) with
| none => none
| some v2 =>
some ((x.1.1, x.1.2.1, v1.1, v2.1, ()), ())
noncomputable def s50 : Spec := ⟨(.pair (.pair (.int .i64) (.pair (.int .i64) (.pair (.list (.pair (.int .i64) (.pair (.int .i64) (.pair (.int .i64) (.pair (.int .i64) .unit))))) (.pair (.list (.pair (.int .i64) (.pair (.int .i64) (.pair (.int .i64) (.pair (.int .i64) .unit))))) .unit)))) .unit), (.pair (.pair (.int .i64) (.pair (.int .i64) (.pair (.list (.pair (.int .i64) (.pair (.int .i64) (.pair (.int .i64) (.pair (.int .i64) .unit))))) (.pair (.list (.pair (.int .i64) (.pair (.int .i64) (.pair (.int .i64) (.pair (.int .i64) .unit))))) .unit)))) .unit), g50, false, none⟩
noncomputable def σ50 : FuncId → Option Spec := sig [(89, s89)]
theorem σok50 : ∀ f s, σ50 f = some s → FnOK Try.prog f s := sig_ok (l := [(89, s89)]) ⟨ok89, trivial⟩
noncomputable def Λ50 : Nat → Option LSpec := lkp (loopList (bodyOf Try.f50)) []
theorem ok50 : FnOK Try.prog 50 s50 := fn_ok (Λ := Λ50) tab0 σok50 Try.func50 (by kernel_rfl) (show Try.f50.body = some (bodyOf Try.f50) by kernel_rfl) [] rfl (by kernel_rfl) (by exact trivial)
  fun x y h => (show execFn Γ0 E0 σ50 Λ50 Try.f50 s50 x = g50 x by kernel_rfl).trans h

def lv109_2 : List (Nat × Live) := [(0, .val (.list (.pair (.int .i64) (.pair (.int .i64) (.pair (.int .i64) (.pair (.int .i64) .unit)))))), (1, .val (.fn (.pair (.pair (.int .i64) (.pair (.int .i64) (.pair (.int .i64) (.pair (.int .i64) .unit)))) .unit) (.pair .bool .unit))), (7, .val (.int .i64)), (8, .val (.int .i64))]
noncomputable def bl109_2 : List (Nat × Live) := []
noncomputable def rl109_2 : List (Nat × Live) := [(4, .val (.int .i64))]
noncomputable def b109_2 (x : (Ty.T (.pair (.list (.pair (.int .i64) (.pair (.int .i64) (.pair (.int .i64) (.pair (.int .i64) .unit))))) (.pair (.fn (.pair (.pair (.int .i64) (.pair (.int .i64) (.pair (.int .i64) (.pair (.int .i64) .unit)))) .unit) (.pair .bool .unit)) (.pair (.int .i64) (.pair (.int .i64) .unit)))))) : Option ((Ty.T (.pair (.list (.pair (.int .i64) (.pair (.int .i64) (.pair (.int .i64) (.pair (.int .i64) .unit))))) (.pair (.fn (.pair (.pair (.int .i64) (.pair (.int .i64) (.pair (.int .i64) (.pair (.int .i64) .unit)))) .unit) (.pair .bool .unit)) (.pair (.int .i64) (.pair (.int .i64) .unit))))) ⊕ ((Ty.T .unit) ⊕ (Ty.T (.pair (.int .i64) .unit)))) :=
match (decide (x.2.2.2.1 < x.2.2.1)) with
| true =>
  onSome (idx x.1 x.2.2.2.1) fun v1 =>
  match x.2.1 (v1, ()) with
  | none => none
  | some v2 =>
  match v2.1 with
  | true =>
    some (.inr (.inr (x.2.2.2.1, ())))
  | false =>
    some (.inl (x.1, x.2.1, x.2.2.1, (IntKind.i64.wrap (x.2.2.2.1 + (1 : Int))), ()))
| false =>
  some (.inr (.inl (())))
noncomputable def g109 (x : Ty.T (.pair (.list (.pair (.int .i64) (.pair (.int .i64) (.pair (.int .i64) (.pair (.int .i64) .unit))))) (.pair (.fn (.pair (.pair (.int .i64) (.pair (.int .i64) (.pair (.int .i64) (.pair (.int .i64) .unit)))) .unit) (.pair .bool .unit)) .unit))) : Option (Ty.T (.pair (.int .i64) .unit)) :=
match loopL b109_2 (x.1, x.2.1, (x.1.length : Int), (0 : Int), ()) with
| none => none
| some (.inl v3) =>
  some ((-1 : Int), ())
| some (.inr v4) =>
  some (v4.1, ())
noncomputable def s109 : Spec := ⟨(.pair (.list (.pair (.int .i64) (.pair (.int .i64) (.pair (.int .i64) (.pair (.int .i64) .unit))))) (.pair (.fn (.pair (.pair (.int .i64) (.pair (.int .i64) (.pair (.int .i64) (.pair (.int .i64) .unit)))) .unit) (.pair .bool .unit)) .unit)), (.pair (.int .i64) .unit), g109, false, none⟩
noncomputable def σ109 : FuncId → Option Spec := sig []
theorem σok109 : ∀ f s, σ109 f = some s → FnOK Try.prog f s := sig_ok (l := []) trivial
noncomputable def Λ109 : Nat → Option LSpec := lkp (loopList (bodyOf Try.f109)) [⟨lv109_2, 0, bl109_2, rl109_2, loopL b109_2⟩]
theorem lok109_2 (x) : codeK Γ0 E0 σ109 Λ109 Try.f109.ntmps (nthLoop Try.f109 0) (mkF Try.f109.ntmps lv109_2 x) (readK Try.f109.ntmps lv109_2 0 bl109_2 rl109_2) = b109_2 x := by kernel_rfl
theorem ok109 : FnOK Try.prog 109 s109 := fn_ok (Λ := Λ109) tab0 σok109 Try.func109 (by kernel_rfl) (show Try.f109.body = some (bodyOf Try.f109) by kernel_rfl) [⟨lv109_2, 0, bl109_2, rl109_2, loopL b109_2⟩] rfl (by kernel_rfl) (by exact ⟨loop_LOK lok109_2, trivial⟩)
  fun x y h => (show execFn Γ0 E0 σ109 Λ109 Try.f109 s109 x = g109 x by kernel_rfl).trans h

noncomputable def g104 (x : Ty.T (.pair (.list (.pair (.int .i64) (.pair (.int .i64) (.pair (.int .i64) (.pair (.int .i64) .unit))))) (.pair (.fn (.pair (.pair (.int .i64) (.pair (.int .i64) (.pair (.int .i64) (.pair (.int .i64) .unit)))) .unit) (.pair .bool .unit)) .unit))) : Option (Ty.T (.pair .bool .unit)) :=
match g109 (x.1, x.2.1, ()) with
| none => none
| some v1 =>
some ((decide (v1.1 ≥ (0 : Int))), ())
noncomputable def s104 : Spec := ⟨(.pair (.list (.pair (.int .i64) (.pair (.int .i64) (.pair (.int .i64) (.pair (.int .i64) .unit))))) (.pair (.fn (.pair (.pair (.int .i64) (.pair (.int .i64) (.pair (.int .i64) (.pair (.int .i64) .unit)))) .unit) (.pair .bool .unit)) .unit)), (.pair .bool .unit), g104, false, none⟩
noncomputable def σ104 : FuncId → Option Spec := sig [(109, s109)]
theorem σok104 : ∀ f s, σ104 f = some s → FnOK Try.prog f s := sig_ok (l := [(109, s109)]) ⟨ok109, trivial⟩
noncomputable def Λ104 : Nat → Option LSpec := lkp (loopList (bodyOf Try.f104)) []
theorem ok104 : FnOK Try.prog 104 s104 := fn_ok (Λ := Λ104) tab0 σok104 Try.func104 (by kernel_rfl) (show Try.f104.body = some (bodyOf Try.f104) by kernel_rfl) [] rfl (by kernel_rfl) (by exact trivial)
  fun x y h => (show execFn Γ0 E0 σ104 Λ104 Try.f104 s104 x = g104 x by kernel_rfl).trans h

noncomputable def g110 (x : Ty.T (.pair (.int .i64) .unit)) : Option (Ty.T (.pair .bool .unit)) :=
match (x.1 != (1 : Int)) with
| true =>
  some ((x.1 != (5 : Int)), ())
| false =>
  some (false, ())
noncomputable def s110 : Spec := ⟨(.pair (.int .i64) .unit), (.pair .bool .unit), g110, false, none⟩
noncomputable def σ110 : FuncId → Option Spec := sig []
theorem σok110 : ∀ f s, σ110 f = some s → FnOK Try.prog f s := sig_ok (l := []) trivial
noncomputable def Λ110 : Nat → Option LSpec := lkp (loopList (bodyOf Try.f110)) []
theorem ok110 : FnOK Try.prog 110 s110 := fn_ok (Λ := Λ110) tab0 σok110 Try.func110 (by kernel_rfl) (show Try.f110.body = some (bodyOf Try.f110) by kernel_rfl) [] rfl (by kernel_rfl) (by exact trivial)
  fun x y h => (show execFn Γ0 E0 σ110 Λ110 Try.f110 s110 x = g110 x by kernel_rfl).trans h

noncomputable def g111 (x : Ty.T (.pair (.int .i64) .unit)) : Option (Ty.T (.pair .bool .unit)) :=
match (x.1 == (4 : Int)) with
| true =>
  some (true, ())
| false =>
  some ((x.1 == (6 : Int)), ())
noncomputable def s111 : Spec := ⟨(.pair (.int .i64) .unit), (.pair .bool .unit), g111, false, none⟩
noncomputable def σ111 : FuncId → Option Spec := sig []
theorem σok111 : ∀ f s, σ111 f = some s → FnOK Try.prog f s := sig_ok (l := []) trivial
noncomputable def Λ111 : Nat → Option LSpec := lkp (loopList (bodyOf Try.f111)) []
theorem ok111 : FnOK Try.prog 111 s111 := fn_ok (Λ := Λ111) tab0 σok111 Try.func111 (by kernel_rfl) (show Try.f111.body = some (bodyOf Try.f111) by kernel_rfl) [] rfl (by kernel_rfl) (by exact trivial)
  fun x y h => (show execFn Γ0 E0 σ111 Λ111 Try.f111 s111 x = g111 x by kernel_rfl).trans h

noncomputable def g106 (x : Ty.T (.pair (.pair (.int .i64) (.pair (.int .i64) (.pair (.int .i64) (.pair (.int .i64) .unit)))) .unit)) : Option (Ty.T (.pair .bool .unit)) :=
match g62 (x.1.1, (1 : Int), (6 : Int), ()) with
| none => none
| some v1 =>
match (!v1.1) with
| true =>
  some (false, ())
| false =>
  match g62 (x.1.2.1, (0 : Int), (8192 : Int), ()) with
  | none => none
  | some v2 =>
  match (!v2.1) with
  | true =>
    some (false, ())
  | false =>
    match g110 (x.1.1, ()) with
    | none => none
    | some v3 =>
    match v3.1 with
    | true =>
      match g62 (x.1.2.2.1, (1 : Int), (8192 : Int), ()) with
      | none => none
      | some v4 =>
      match g111 (x.1.1, ()) with
      | none => none
      | some v5 =>
      match v5.1 with
      | true =>
        match g62 (x.1.2.2.2.1, (0 : Int), (1 : Int), ()) with
        | none => none
        | some v6 =>
        match v4.1 with
        | true =>
          some (v6.1, ())
        | false =>
          some (false, ())
      | false =>
        match v4.1 with
        | true =>
          some ((x.1.2.2.2.1 == (0 : Int)), ())
        | false =>
          some (false, ())
    | false =>
      match g111 (x.1.1, ()) with
      | none => none
      | some v7 =>
      match v7.1 with
      | true =>
        match g62 (x.1.2.2.2.1, (0 : Int), (1 : Int), ()) with
        | none => none
        | some v8 =>
        match (x.1.2.2.1 == (0 : Int)) with
        | true =>
          some (v8.1, ())
        | false =>
          some (false, ())
      | false =>
        match (x.1.2.2.1 == (0 : Int)) with
        | true =>
          some ((x.1.2.2.2.1 == (0 : Int)), ())
        | false =>
          some (false, ())
noncomputable def s106 : Spec := ⟨(.pair (.pair (.int .i64) (.pair (.int .i64) (.pair (.int .i64) (.pair (.int .i64) .unit)))) .unit), (.pair .bool .unit), g106, false, none⟩
noncomputable def σ106 : FuncId → Option Spec := sig [(62, s62), (110, s110), (111, s111)]
theorem σok106 : ∀ f s, σ106 f = some s → FnOK Try.prog f s := sig_ok (l := [(62, s62), (110, s110), (111, s111)]) ⟨ok62, ok110, ok111, trivial⟩
noncomputable def Λ106 : Nat → Option LSpec := lkp (loopList (bodyOf Try.f106)) []
theorem ok106 : FnOK Try.prog 106 s106 := fn_ok (Λ := Λ106) tab0 σok106 Try.func106 (by kernel_rfl) (show Try.f106.body = some (bodyOf Try.f106) by kernel_rfl) [] rfl (by kernel_rfl) (by exact trivial)
  fun x y h => (show execFn Γ0 E0 σ106 Λ106 Try.f106 s106 x = g106 x by kernel_rfl).trans h

noncomputable def g105 (x : Ty.T (.pair (.pair (.int .i64) (.pair (.int .i64) (.pair (.int .i64) (.pair (.int .i64) .unit)))) .unit)) : Option (Ty.T (.pair .bool .unit)) :=
match g106 ((x.1.1, x.1.2.1, x.1.2.2.1, x.1.2.2.2.1, ()), ()) with
| none => none
| some v1 =>
some ((!v1.1), ())
noncomputable def s105 : Spec := ⟨(.pair (.pair (.int .i64) (.pair (.int .i64) (.pair (.int .i64) (.pair (.int .i64) .unit)))) .unit), (.pair .bool .unit), g105, false, none⟩
noncomputable def σ105 : FuncId → Option Spec := sig [(106, s106)]
theorem σok105 : ∀ f s, σ105 f = some s → FnOK Try.prog f s := sig_ok (l := [(106, s106)]) ⟨ok106, trivial⟩
noncomputable def Λ105 : Nat → Option LSpec := lkp (loopList (bodyOf Try.f105)) []
theorem ok105 : FnOK Try.prog 105 s105 := fn_ok (Λ := Λ105) tab0 σok105 Try.func105 (by kernel_rfl) (show Try.f105.body = some (bodyOf Try.f105) by kernel_rfl) [] rfl (by kernel_rfl) (by exact trivial)
  fun x y h => (show execFn Γ0 E0 σ105 Λ105 Try.f105 s105 x = g105 x by kernel_rfl).trans h

noncomputable def g90 (x : Ty.T (.pair (.list (.pair (.int .i64) (.pair (.int .i64) (.pair (.int .i64) (.pair (.int .i64) .unit))))) .unit)) : Option (Ty.T (.pair .bool .unit)) :=
match (decide ((x.1.length : Int) ≤ (30 : Int))) with
| true =>
  match g104 (x.1, g105, ()) with
  | none => none
  | some v1 =>
  some ((!v1.1), ())
| false =>
  some (false, ())
noncomputable def s90 : Spec := ⟨(.pair (.list (.pair (.int .i64) (.pair (.int .i64) (.pair (.int .i64) (.pair (.int .i64) .unit))))) .unit), (.pair .bool .unit), g90, false, none⟩
noncomputable def σ90 : FuncId → Option Spec := sig [(104, s104), (105, s105)]
theorem σok90 : ∀ f s, σ90 f = some s → FnOK Try.prog f s := sig_ok (l := [(104, s104), (105, s105)]) ⟨ok104, ok105, trivial⟩
noncomputable def Λ90 : Nat → Option LSpec := lkp (loopList (bodyOf Try.f90)) []
theorem ok90 : FnOK Try.prog 90 s90 := fn_ok (Λ := Λ90) tab0 σok90 Try.func90 (by kernel_rfl) (show Try.f90.body = some (bodyOf Try.f90) by kernel_rfl) [] rfl (by kernel_rfl) (by exact trivial)
  fun x y h => (show execFn Γ0 E0 σ90 Λ90 Try.f90 s90 x = g90 x by kernel_rfl).trans h

noncomputable def g51 (x : Ty.T (.pair (.pair (.int .i64) (.pair (.int .i64) (.pair (.list (.pair (.int .i64) (.pair (.int .i64) (.pair (.int .i64) (.pair (.int .i64) .unit))))) (.pair (.list (.pair (.int .i64) (.pair (.int .i64) (.pair (.int .i64) (.pair (.int .i64) .unit))))) .unit)))) .unit)) : Option (Ty.T (.pair .bool .unit)) :=
match g62 (x.1.1, (0 : Int), (255 : Int), ()) with
| none => none
| some v1 =>
match v1.1 with
| true =>
  match g62 (x.1.2.1, (0 : Int), (7 : Int), ()) with
  | none => none
  | some v2 =>
  match v2.1 with
  | true =>
    match g90 (x.1.2.2.1, ()) with
    | none => none
    | some v3 =>
    match v3.1 with
    | true =>
      match g90 (x.1.2.2.2.1, ()) with
      | none => none
      | some v4 =>
      some (v4.1, ())
    | false =>
      some (false, ())
  | false =>
    some (false, ())
| false =>
  some (false, ())
noncomputable def s51 : Spec := ⟨(.pair (.pair (.int .i64) (.pair (.int .i64) (.pair (.list (.pair (.int .i64) (.pair (.int .i64) (.pair (.int .i64) (.pair (.int .i64) .unit))))) (.pair (.list (.pair (.int .i64) (.pair (.int .i64) (.pair (.int .i64) (.pair (.int .i64) .unit))))) .unit)))) .unit), (.pair .bool .unit), g51, false, none⟩
noncomputable def σ51 : FuncId → Option Spec := sig [(62, s62), (90, s90)]
theorem σok51 : ∀ f s, σ51 f = some s → FnOK Try.prog f s := sig_ok (l := [(62, s62), (90, s90)]) ⟨ok62, ok90, trivial⟩
noncomputable def Λ51 : Nat → Option LSpec := lkp (loopList (bodyOf Try.f51)) []
theorem ok51 : FnOK Try.prog 51 s51 := fn_ok (Λ := Λ51) tab0 σok51 Try.func51 (by kernel_rfl) (show Try.f51.body = some (bodyOf Try.f51) by kernel_rfl) [] rfl (by kernel_rfl) (by exact trivial)
  fun x y h => (show execFn Γ0 E0 σ51 Λ51 Try.f51 s51 x = g51 x by kernel_rfl).trans h

noncomputable def g12 (x : Ty.T (.pair (.pair (.int .i64) (.pair (.int .i64) (.pair (.list (.pair (.int .i64) (.pair (.int .i64) (.pair (.int .i64) (.pair (.int .i64) .unit))))) (.pair (.list (.pair (.int .i64) (.pair (.int .i64) (.pair (.int .i64) (.pair (.int .i64) .unit))))) .unit)))) .unit)) : Option (Ty.T (.pair .bool .unit)) :=
match g48 ((x.1.1, x.1.2.1, x.1.2.2.1, x.1.2.2.2.1, ()), (1048576 : Int), ()) with
| none => none
| some v1 =>
match (decide (v1.1 < (0 : Int))) with
| true =>
  some (true, ())
| false =>
  match g50 ((x.1.1, x.1.2.1, x.1.2.2.1, x.1.2.2.2.1, ()), ()) with
  | none => none
  | some v2 =>
  match g49 (v2.1, ()) with
  | none => none
  | some v3 =>
  match g50 ((x.1.1, x.1.2.1, x.1.2.2.1, x.1.2.2.2.1, ()), ()) with
  | none => none
  | some v4 =>
  match g51 ((v4.1.1, v4.1.2.1, v4.1.2.2.1, v4.1.2.2.2.1, ()), ()) with
  | none => none
  | some v5 =>
  match (v5.1 != v3.1) with
  | true =>
    some (false, ())
  | false =>
    match g50 ((x.1.1, x.1.2.1, x.1.2.2.1, x.1.2.2.2.1, ()), ()) with
    | none => none
    | some v6 =>
    match g52 ((v4.1.1, v4.1.2.1, v4.1.2.2.1, v4.1.2.2.2.1, ()), v6.1, ()) with
    | none => none
    | some v7 =>
    match (!v7.1) with
    | true =>
      some (false, ())
    | false =>
      some (true, ())
noncomputable def s12 : Spec := ⟨(.pair (.pair (.int .i64) (.pair (.int .i64) (.pair (.list (.pair (.int .i64) (.pair (.int .i64) (.pair (.int .i64) (.pair (.int .i64) .unit))))) (.pair (.list (.pair (.int .i64) (.pair (.int .i64) (.pair (.int .i64) (.pair (.int .i64) .unit))))) .unit)))) .unit), (.pair .bool .unit), g12, false, none⟩
noncomputable def σ12 : FuncId → Option Spec := sig [(48, s48), (49, s49), (50, s50), (51, s51), (52, s52)]
theorem σok12 : ∀ f s, σ12 f = some s → FnOK Try.prog f s := sig_ok (l := [(48, s48), (49, s49), (50, s50), (51, s51), (52, s52)]) ⟨ok48, ok49, ok50, ok51, ok52, trivial⟩
noncomputable def Λ12 : Nat → Option LSpec := lkp (loopList (bodyOf Try.f12)) []
theorem ok12 : FnOK Try.prog 12 s12 := fn_ok (Λ := Λ12) tab0 σok12 Try.func12 (by kernel_rfl) (show Try.f12.body = some (bodyOf Try.f12) by kernel_rfl) [] rfl (by kernel_rfl) (by exact trivial)
  fun x y h => (show execFn Γ0 E0 σ12 Λ12 Try.f12 s12 x = g12 x by kernel_rfl).trans h

def lv53_5 : List (Nat × Live) := [(0, .val (.list (.pair (.pair (.int .i64) (.pair (.int .i64) (.pair (.int .i64) (.pair (.int .i64) (.pair (.int .i64) .unit))))) (.pair (.int .i64) (.pair (.int .i64) .unit))))), (1, .val (.int .i64)), (6, .val (.int .i64)), (7, .val (.int .i64)), (8, .val (.int .i64))]
noncomputable def bl53_5 : List (Nat × Live) := [(6, .val (.int .i64)), (7, .val (.int .i64))]
noncomputable def rl53_5 : List (Nat × Live) := []
noncomputable def b53_5 (x : (Ty.T (.pair (.list (.pair (.pair (.int .i64) (.pair (.int .i64) (.pair (.int .i64) (.pair (.int .i64) (.pair (.int .i64) .unit))))) (.pair (.int .i64) (.pair (.int .i64) .unit)))) (.pair (.int .i64) (.pair (.int .i64) (.pair (.int .i64) (.pair (.int .i64) .unit))))))) : Option ((Ty.T (.pair (.list (.pair (.pair (.int .i64) (.pair (.int .i64) (.pair (.int .i64) (.pair (.int .i64) (.pair (.int .i64) .unit))))) (.pair (.int .i64) (.pair (.int .i64) .unit)))) (.pair (.int .i64) (.pair (.int .i64) (.pair (.int .i64) (.pair (.int .i64) .unit)))))) ⊕ ((Ty.T (.pair (.int .i64) (.pair (.int .i64) .unit))) ⊕ (Ty.T .unit))) :=
match (decide (x.2.2.2.2.1 < (x.1.length : Int))) with
| true =>
  onSome (idx x.1 x.2.2.2.2.1) fun v2 =>
  match (v2.2.1 == x.2.1) with
  | true =>
    onSome (idx x.1 x.2.2.2.2.1) fun v3 =>
    match (v3.2.2.1 == (3 : Int)) with
    | true =>
      some (.inl (x.1, x.2.1, (IntKind.i64.wrap (x.2.2.1 + (1 : Int))), (IntKind.i64.wrap (x.2.2.2.1 + (1 : Int))), (IntKind.i64.wrap (x.2.2.2.2.1 + (1 : Int))), ()))
    | false =>
      some (.inl (x.1, x.2.1, (IntKind.i64.wrap (x.2.2.1 + (1 : Int))), x.2.2.2.1, (IntKind.i64.wrap (x.2.2.2.2.1 + (1 : Int))), ()))
  | false =>
    some (.inl (x.1, x.2.1, x.2.2.1, x.2.2.2.1, (IntKind.i64.wrap (x.2.2.2.2.1 + (1 : Int))), ()))
| false =>
  some (.inr (.inl (x.2.2.1, x.2.2.2.1, ())))
noncomputable def g53 (x : Ty.T (.pair (.list (.pair (.pair (.int .i64) (.pair (.int .i64) (.pair (.int .i64) (.pair (.int .i64) (.pair (.int .i64) .unit))))) (.pair (.int .i64) (.pair (.int .i64) .unit)))) (.pair (.int .i64) .unit))) : Option (Ty.T (.pair (.int .i64) (.pair (.int .i64) .unit))) :=
match g74 (x.1, ()) with
| none => none
| some v1 =>
match (!v1.1) with
| true =>
  some ((0 : Int), (1 : Int), ())
| false =>
  match loopL b53_5 (x.1, x.2.1, (0 : Int), (0 : Int), (0 : Int), ()) with
  | none => none
  | some (.inl v4) =>
    match (v4.1 == (0 : Int)) with
    | true =>
      some ((0 : Int), (4 : Int), ())
    | false =>
      if v4.1 = 0 then none else
      some ((IntKind.i64.wrap (Int.tdiv (IntKind.i64.wrap ((1000 : Int) * v4.2.1)) v4.1)), (0 : Int), ())
  | some (.inr v6) =>
    none
noncomputable def s53 : Spec := ⟨(.pair (.list (.pair (.pair (.int .i64) (.pair (.int .i64) (.pair (.int .i64) (.pair (.int .i64) (.pair (.int .i64) .unit))))) (.pair (.int .i64) (.pair (.int .i64) .unit)))) (.pair (.int .i64) .unit)), (.pair (.int .i64) (.pair (.int .i64) .unit)), g53, false, none⟩
noncomputable def σ53 : FuncId → Option Spec := sig [(74, s74)]
theorem σok53 : ∀ f s, σ53 f = some s → FnOK Try.prog f s := sig_ok (l := [(74, s74)]) ⟨ok74, trivial⟩
noncomputable def Λ53 : Nat → Option LSpec := lkp (loopList (bodyOf Try.f53)) [⟨lv53_5, 0, bl53_5, rl53_5, loopL b53_5⟩]
theorem lok53_5 (x) : codeK Γ0 E0 σ53 Λ53 Try.f53.ntmps (nthLoop Try.f53 0) (mkF Try.f53.ntmps lv53_5 x) (readK Try.f53.ntmps lv53_5 0 bl53_5 rl53_5) = b53_5 x := by kernel_rfl
theorem ok53 : FnOK Try.prog 53 s53 := fn_ok (Λ := Λ53) tab0 σok53 Try.func53 (by kernel_rfl) (show Try.f53.body = some (bodyOf Try.f53) by kernel_rfl) [⟨lv53_5, 0, bl53_5, rl53_5, loopL b53_5⟩] rfl (by kernel_rfl) (by exact ⟨loop_LOK lok53_5, trivial⟩)
  fun x y h => (show execFn Γ0 E0 σ53 Λ53 Try.f53 s53 x = g53 x by kernel_rfl).trans h

noncomputable def g92 (x : Ty.T (.pair .bool .unit)) : Option (Ty.T (.pair (.int .i64) .unit)) :=
match x.1 with
| true =>
  some ((1 : Int), ())
| false =>
  some ((0 : Int), ())
noncomputable def s92 : Spec := ⟨(.pair .bool .unit), (.pair (.int .i64) .unit), g92, false, none⟩
noncomputable def σ92 : FuncId → Option Spec := sig []
theorem σok92 : ∀ f s, σ92 f = some s → FnOK Try.prog f s := sig_ok (l := []) trivial
noncomputable def Λ92 : Nat → Option LSpec := lkp (loopList (bodyOf Try.f92)) []
theorem ok92 : FnOK Try.prog 92 s92 := fn_ok (Λ := Λ92) tab0 σok92 Try.func92 (by kernel_rfl) (show Try.f92.body = some (bodyOf Try.f92) by kernel_rfl) [] rfl (by kernel_rfl) (by exact trivial)
  fun x y h => (show execFn Γ0 E0 σ92 Λ92 Try.f92 s92 x = g92 x by kernel_rfl).trans h

def lv54_5 : List (Nat × Live) := [(1, .val (.int .i64)), (6, .val (.int .i64)), (7, .val (.int .i64)), (13, .val (.list (.pair (.pair (.int .i64) (.pair (.int .i64) (.pair (.int .i64) (.pair (.int .i64) (.pair (.int .i64) .unit))))) (.pair (.int .i64) (.pair (.int .i64) .unit))))), (14, .val (.int .i64)), (15, .val (.int .i64))]
noncomputable def bl54_5 : List (Nat × Live) := [(6, .val (.int .i64)), (7, .val (.int .i64))]
noncomputable def rl54_5 : List (Nat × Live) := []
noncomputable def b54_5 (x : (Ty.T (.pair (.int .i64) (.pair (.int .i64) (.pair (.int .i64) (.pair (.list (.pair (.pair (.int .i64) (.pair (.int .i64) (.pair (.int .i64) (.pair (.int .i64) (.pair (.int .i64) .unit))))) (.pair (.int .i64) (.pair (.int .i64) .unit)))) (.pair (.int .i64) (.pair (.int .i64) .unit)))))))) : Option ((Ty.T (.pair (.int .i64) (.pair (.int .i64) (.pair (.int .i64) (.pair (.list (.pair (.pair (.int .i64) (.pair (.int .i64) (.pair (.int .i64) (.pair (.int .i64) (.pair (.int .i64) .unit))))) (.pair (.int .i64) (.pair (.int .i64) .unit)))) (.pair (.int .i64) (.pair (.int .i64) .unit))))))) ⊕ ((Ty.T (.pair (.int .i64) (.pair (.int .i64) .unit))) ⊕ (Ty.T .unit))) :=
match (decide (x.2.2.2.2.2.1 < x.2.2.2.2.1)) with
| true =>
  onSome (idx x.2.2.2.1 x.2.2.2.2.2.1) fun v2 =>
  match (v2.2.1 == x.1) with
  | true =>
    match g92 ((v2.2.2.1 == (3 : Int)), ()) with
    | none => none
    | some v3 =>
    some (.inl (x.1, (IntKind.i64.wrap (x.2.1 + v3.1)), (IntKind.i64.wrap (x.2.2.1 + (1 : Int))), x.2.2.2.1, x.2.2.2.2.1, (IntKind.i64.wrap (x.2.2.2.2.2.1 + (1 : Int))), ()))
  | false =>
    some (.inl (x.1, x.2.1, x.2.2.1, x.2.2.2.1, x.2.2.2.2.1, (IntKind.i64.wrap (x.2.2.2.2.2.1 + (1 : Int))), ()))
| false =>
  some (.inr (.inl (x.2.1, x.2.2.1, ())))
noncomputable def g54 (x : Ty.T (.pair (.list (.pair (.pair (.int .i64) (.pair (.int .i64) (.pair (.int .i64) (.pair (.int .i64) (.pair (.int .i64) .unit))))) (.pair (.int .i64) (.pair (.int .i64) .unit)))) (.pair (.int .i64) .unit))) : Option (Ty.T (.pair (.int .i64) (.pair (.int .i64) .unit))) :=
match g75 (x.1, ()) with
| none => none
| some v1 =>
match (!v1.1) with
| true =>
  some ((0 : Int), (1 : Int), ())
| false =>
  match loopL b54_5 (x.2.1, (0 : Int), (0 : Int), x.1, (x.1.length : Int), (0 : Int), ()) with
  | none => none
  | some (.inl v4) =>
    match (v4.2.1 == (0 : Int)) with
    | true =>
      some ((0 : Int), (4 : Int), ())
    | false =>
      if v4.2.1 = 0 then none else
      some ((IntKind.i64.wrap (Int.tdiv (IntKind.i64.wrap ((1000 : Int) * v4.1)) v4.2.1)), (0 : Int), ())
  | some (.inr v6) =>
    none
noncomputable def s54 : Spec := ⟨(.pair (.list (.pair (.pair (.int .i64) (.pair (.int .i64) (.pair (.int .i64) (.pair (.int .i64) (.pair (.int .i64) .unit))))) (.pair (.int .i64) (.pair (.int .i64) .unit)))) (.pair (.int .i64) .unit)), (.pair (.int .i64) (.pair (.int .i64) .unit)), g54, false, none⟩
noncomputable def σ54 : FuncId → Option Spec := sig [(75, s75), (92, s92)]
theorem σok54 : ∀ f s, σ54 f = some s → FnOK Try.prog f s := sig_ok (l := [(75, s75), (92, s92)]) ⟨ok75, ok92, trivial⟩
noncomputable def Λ54 : Nat → Option LSpec := lkp (loopList (bodyOf Try.f54)) [⟨lv54_5, 0, bl54_5, rl54_5, loopL b54_5⟩]
theorem lok54_5 (x) : codeK Γ0 E0 σ54 Λ54 Try.f54.ntmps (nthLoop Try.f54 0) (mkF Try.f54.ntmps lv54_5 x) (readK Try.f54.ntmps lv54_5 0 bl54_5 rl54_5) = b54_5 x := by kernel_rfl
theorem ok54 : FnOK Try.prog 54 s54 := fn_ok (Λ := Λ54) tab0 σok54 Try.func54 (by kernel_rfl) (show Try.f54.body = some (bodyOf Try.f54) by kernel_rfl) [⟨lv54_5, 0, bl54_5, rl54_5, loopL b54_5⟩] rfl (by kernel_rfl) (by exact ⟨loop_LOK lok54_5, trivial⟩)
  fun x y h => (show execFn Γ0 E0 σ54 Λ54 Try.f54 s54 x = g54 x by kernel_rfl).trans h

noncomputable def g13 (x : Ty.T (.pair (.list (.pair (.pair (.int .i64) (.pair (.int .i64) (.pair (.int .i64) (.pair (.int .i64) (.pair (.int .i64) .unit))))) (.pair (.int .i64) (.pair (.int .i64) .unit)))) (.pair (.int .i64) .unit))) : Option (Ty.T (.pair .bool .unit)) :=
match g32 (x.1, (1048576 : Int), ()) with
| none => none
| some v1 =>
match (decide (v1.1 < (0 : Int))) with
| true =>
  some (true, ())
| false =>
  match g34 (x.1, ()) with
  | none => none
  | some v2 =>
  match g53 (v2.1, x.2.1, ()) with
  | none => none
  | some v3 =>
  match g34 (x.1, ()) with
  | none => none
  | some v4 =>
  match g54 (v4.1, x.2.1, ()) with
  | none => none
  | some v5 =>
  match (v5.1 != v3.1) with
  | true =>
    some (false, ())
  | false =>
    match (v5.2.1 != v3.2.1) with
    | true =>
      some (false, ())
    | false =>
      match g34 (x.1, ()) with
      | none => none
      | some v6 =>
      match g36 (v4.1, v6.1, ()) with
      | none => none
      | some v7 =>
      match (!v7.1) with
      | true =>
        some (false, ())
      | false =>
        some (true, ())
noncomputable def s13 : Spec := ⟨(.pair (.list (.pair (.pair (.int .i64) (.pair (.int .i64) (.pair (.int .i64) (.pair (.int .i64) (.pair (.int .i64) .unit))))) (.pair (.int .i64) (.pair (.int .i64) .unit)))) (.pair (.int .i64) .unit)), (.pair .bool .unit), g13, false, none⟩
noncomputable def σ13 : FuncId → Option Spec := sig [(32, s32), (34, s34), (36, s36), (53, s53), (54, s54)]
theorem σok13 : ∀ f s, σ13 f = some s → FnOK Try.prog f s := sig_ok (l := [(32, s32), (34, s34), (36, s36), (53, s53), (54, s54)]) ⟨ok32, ok34, ok36, ok53, ok54, trivial⟩
noncomputable def Λ13 : Nat → Option LSpec := lkp (loopList (bodyOf Try.f13)) []
theorem ok13 : FnOK Try.prog 13 s13 := fn_ok (Λ := Λ13) tab0 σok13 Try.func13 (by kernel_rfl) (show Try.f13.body = some (bodyOf Try.f13) by kernel_rfl) [] rfl (by kernel_rfl) (by exact trivial)
  fun x y h => (show execFn Γ0 E0 σ13 Λ13 Try.f13 s13 x = g13 x by kernel_rfl).trans h

def lv55_5 : List (Nat × Live) := [(0, .val (.list (.pair (.pair (.int .i64) (.pair (.int .i64) (.pair (.int .i64) (.pair (.int .i64) (.pair (.int .i64) .unit))))) (.pair (.int .i64) (.pair (.int .i64) .unit))))), (4, .arr 2 (.int .i64)), (5, .val (.int .i64))]
noncomputable def bl55_5 : List (Nat × Live) := [(4, .arr 2 (.int .i64))]
noncomputable def rl55_5 : List (Nat × Live) := []
noncomputable def b55_5 (x : (Ty.T (.pair (.list (.pair (.pair (.int .i64) (.pair (.int .i64) (.pair (.int .i64) (.pair (.int .i64) (.pair (.int .i64) .unit))))) (.pair (.int .i64) (.pair (.int .i64) .unit)))) (.pair (.list (.int .i64)) (.pair (.int .i64) .unit))))) : Option ((Ty.T (.pair (.list (.pair (.pair (.int .i64) (.pair (.int .i64) (.pair (.int .i64) (.pair (.int .i64) (.pair (.int .i64) .unit))))) (.pair (.int .i64) (.pair (.int .i64) .unit)))) (.pair (.list (.int .i64)) (.pair (.int .i64) .unit)))) ⊕ ((Ty.T (.pair (.list (.int .i64)) .unit)) ⊕ (Ty.T .unit))) :=
match (decide (x.2.2.1 < (x.1.length : Int))) with
| true =>
  onSome (idx x.1 x.2.2.1) fun v2 =>
  onSome (idx x.2.1 v2.2.2.1) fun _ =>
  match x.2.1[v2.2.2.1.toNat]? with
  | none => none
  | some v4 =>
  onSome (idx x.2.1 v2.2.2.1) fun _ =>
  match x.2.1[v2.2.2.1.toNat]? with
  | none => none
  | some v6 =>
  some (.inl (x.1, (x.2.1.set v2.2.2.1.toNat (IntKind.i64.wrap (v4 + (1 : Int)))), (IntKind.i64.wrap (x.2.2.1 + (1 : Int))), ()))
| false =>
  some (.inr (.inl (x.2.1, ())))
noncomputable def g55 (x : Ty.T (.pair (.list (.pair (.pair (.int .i64) (.pair (.int .i64) (.pair (.int .i64) (.pair (.int .i64) (.pair (.int .i64) .unit))))) (.pair (.int .i64) (.pair (.int .i64) .unit)))) .unit)) : Option (Ty.T (.pair (.list (.int .i64)) (.pair (.int .i64) .unit))) :=
match g74 (x.1, ()) with
| none => none
| some v1 =>
match (!v1.1) with
| true =>
  some ([], (1 : Int), ())
| false =>
  if 0 ≤ (5 : Int) ∧ (5 : Int) ≤ (5 : Int) then
    room ((5 : Int).toNat) (
      match loopL b55_5 (x.1, (List.replicate (5 : Int).toNat (0 : Int)), (0 : Int), ()) with
      | none => none
      | some (.inl v7) =>
        some (v7.1, (0 : Int), ())
      | some (.inr v9) =>
        none)
  else none
noncomputable def s55 : Spec := ⟨(.pair (.list (.pair (.pair (.int .i64) (.pair (.int .i64) (.pair (.int .i64) (.pair (.int .i64) (.pair (.int .i64) .unit))))) (.pair (.int .i64) (.pair (.int .i64) .unit)))) .unit), (.pair (.list (.int .i64)) (.pair (.int .i64) .unit)), g55, false, none⟩
noncomputable def σ55 : FuncId → Option Spec := sig [(74, s74)]
theorem σok55 : ∀ f s, σ55 f = some s → FnOK Try.prog f s := sig_ok (l := [(74, s74)]) ⟨ok74, trivial⟩
noncomputable def Λ55 : Nat → Option LSpec := lkp (loopList (bodyOf Try.f55)) [⟨lv55_5, 0, bl55_5, rl55_5, loopL b55_5⟩]
theorem lok55_5 (x) : codeK Γ0 E0 σ55 Λ55 Try.f55.ntmps (nthLoop Try.f55 0) (mkF Try.f55.ntmps lv55_5 x) (readK Try.f55.ntmps lv55_5 0 bl55_5 rl55_5) = b55_5 x := by kernel_rfl
theorem ok55 : FnOK Try.prog 55 s55 := fn_ok (Λ := Λ55) tab0 σok55 Try.func55 (by kernel_rfl) (show Try.f55.body = some (bodyOf Try.f55) by kernel_rfl) [⟨lv55_5, 0, bl55_5, rl55_5, loopL b55_5⟩] rfl (by kernel_rfl) (by exact ⟨loop_LOK lok55_5, trivial⟩)
  fun x y h => (show execFn Γ0 E0 σ55 Λ55 Try.f55 s55 x = g55 x by kernel_rfl).trans h

def lv56_5 : List (Nat × Live) := [(4, .arr 2 (.int .i64)), (11, .val (.list (.pair (.pair (.int .i64) (.pair (.int .i64) (.pair (.int .i64) (.pair (.int .i64) (.pair (.int .i64) .unit))))) (.pair (.int .i64) (.pair (.int .i64) .unit))))), (12, .val (.int .i64)), (13, .val (.int .i64))]
noncomputable def bl56_5 : List (Nat × Live) := [(4, .arr 2 (.int .i64))]
noncomputable def rl56_5 : List (Nat × Live) := []
noncomputable def b56_5 (x : (Ty.T (.pair (.list (.int .i64)) (.pair (.list (.pair (.pair (.int .i64) (.pair (.int .i64) (.pair (.int .i64) (.pair (.int .i64) (.pair (.int .i64) .unit))))) (.pair (.int .i64) (.pair (.int .i64) .unit)))) (.pair (.int .i64) (.pair (.int .i64) .unit)))))) : Option ((Ty.T (.pair (.list (.int .i64)) (.pair (.list (.pair (.pair (.int .i64) (.pair (.int .i64) (.pair (.int .i64) (.pair (.int .i64) (.pair (.int .i64) .unit))))) (.pair (.int .i64) (.pair (.int .i64) .unit)))) (.pair (.int .i64) (.pair (.int .i64) .unit))))) ⊕ ((Ty.T (.pair (.list (.int .i64)) .unit)) ⊕ (Ty.T .unit))) :=
match (decide (x.2.2.2.1 < x.2.2.1)) with
| true =>
  onSome (idx x.2.1 x.2.2.2.1) fun v2 =>
  onSome (idx x.1 v2.2.2.1) fun _ =>
  match x.1[v2.2.2.1.toNat]? with
  | none => none
  | some v4 =>
  onSome (idx x.1 v2.2.2.1) fun _ =>
  match x.1[v2.2.2.1.toNat]? with
  | none => none
  | some v6 =>
  some (.inl ((x.1.set v2.2.2.1.toNat (IntKind.i64.wrap (v4 + (1 : Int)))), x.2.1, x.2.2.1, (IntKind.i64.wrap (x.2.2.2.1 + (1 : Int))), ()))
| false =>
  some (.inr (.inl (x.1, ())))
noncomputable def g56 (x : Ty.T (.pair (.list (.pair (.pair (.int .i64) (.pair (.int .i64) (.pair (.int .i64) (.pair (.int .i64) (.pair (.int .i64) .unit))))) (.pair (.int .i64) (.pair (.int .i64) .unit)))) .unit)) : Option (Ty.T (.pair (.list (.int .i64)) (.pair (.int .i64) .unit))) :=
match g75 (x.1, ()) with
| none => none
| some v1 =>
match (!v1.1) with
| true =>
  some ([], (1 : Int), ())
| false =>
  if 0 ≤ (5 : Int) ∧ (5 : Int) ≤ (5 : Int) then
    room ((5 : Int).toNat) (
      match loopL b56_5 ((List.replicate (5 : Int).toNat (0 : Int)), x.1, (x.1.length : Int), (0 : Int), ()) with
      | none => none
      | some (.inl v7) =>
        some (v7.1, (0 : Int), ())
      | some (.inr v9) =>
        none)
  else none
noncomputable def s56 : Spec := ⟨(.pair (.list (.pair (.pair (.int .i64) (.pair (.int .i64) (.pair (.int .i64) (.pair (.int .i64) (.pair (.int .i64) .unit))))) (.pair (.int .i64) (.pair (.int .i64) .unit)))) .unit), (.pair (.list (.int .i64)) (.pair (.int .i64) .unit)), g56, false, none⟩
noncomputable def σ56 : FuncId → Option Spec := sig [(75, s75)]
theorem σok56 : ∀ f s, σ56 f = some s → FnOK Try.prog f s := sig_ok (l := [(75, s75)]) ⟨ok75, trivial⟩
noncomputable def Λ56 : Nat → Option LSpec := lkp (loopList (bodyOf Try.f56)) [⟨lv56_5, 0, bl56_5, rl56_5, loopL b56_5⟩]
theorem lok56_5 (x) : codeK Γ0 E0 σ56 Λ56 Try.f56.ntmps (nthLoop Try.f56 0) (mkF Try.f56.ntmps lv56_5 x) (readK Try.f56.ntmps lv56_5 0 bl56_5 rl56_5) = b56_5 x := by kernel_rfl
theorem ok56 : FnOK Try.prog 56 s56 := fn_ok (Λ := Λ56) tab0 σok56 Try.func56 (by kernel_rfl) (show Try.f56.body = some (bodyOf Try.f56) by kernel_rfl) [⟨lv56_5, 0, bl56_5, rl56_5, loopL b56_5⟩] rfl (by kernel_rfl) (by exact ⟨loop_LOK lok56_5, trivial⟩)
  fun x y h => (show execFn Γ0 E0 σ56 Λ56 Try.f56 s56 x = g56 x by kernel_rfl).trans h
end Go.Proofs.Yteldmddnmhmecaa
