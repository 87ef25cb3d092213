/- What the functions of the claim do, on data; written by the program gen.py. -/
import Derived.Test.YtmdflpfagbcaiaaGA
namespace Go.Proofs.Ytmdflpfagbcaiaa
open Go.RowKit
set_option linter.unusedVariables false

noncomputable def i_IsVerdict (x : Ty.T (.pair TVerdict .unit)) : Option (Ty.T (.pair .bool .unit)) :=
match (x.1.1 == (3 : Int)) with
| true =>
 match i_IsFrame ((x.1.2.1.1, x.1.2.1.2.1, (x.1.2.1.2.2.1.1, x.1.2.1.2.2.1.2.1, x.1.2.1.2.2.1.2.2.1, x.1.2.1.2.2.1.2.2.2.1, x.1.2.1.2.2.1.2.2.2.2.1, ()), x.1.2.1.2.2.2.1, ()), ()) with
 | none => none
 | some v1 =>
 some (v1.1, ())
| false =>
 match i_within (x.1.1, (0 : Int), (4 : Int), ()) with
 | none => none
 | some v2 =>
 match v2.1 with
 | true =>
  match i_sameFrame ((x.1.2.1.1, x.1.2.1.2.1, (x.1.2.1.2.2.1.1, x.1.2.1.2.2.1.2.1, x.1.2.1.2.2.1.2.2.1, x.1.2.1.2.2.1.2.2.2.1, x.1.2.1.2.2.1.2.2.2.2.1, ()), x.1.2.1.2.2.2.1, ()), ((0 : Int), (0 : Int), ((0 : Int), (0 : Int), (0 : Int), (0 : Int), (0 : Int), ()), [], ()), ()) with
  | none => none
  | some v3 =>
  some (v3.1, ())
 | false =>
  some (false, ())
noncomputable def S_i_IsVerdict : Spec := ⟨(.pair TVerdict .unit), (.pair .bool .unit), .unit, rfl, i_IsVerdict⟩
noncomputable def σ_i_IsVerdict : FuncId → Option Spec := sig [(74, S_i_within), (105, S_i_IsFrame), (106, S_i_sameFrame)]
theorem σok_i_IsVerdict : ∀ f s, σ_i_IsVerdict f = some s → FnOK Try.prog f s := sig_ok (l := [(74, S_i_within), (105, S_i_IsFrame), (106, S_i_sameFrame)]) ⟨ok_i_within, ok_i_IsFrame, ok_i_sameFrame, trivial⟩
noncomputable def Λ_i_IsVerdict : Nat → Option LSpec := lkp (loopList (bodyOf Try.f47)) []
theorem ok_i_IsVerdict : FnOK Try.prog 47 S_i_IsVerdict := fn_ok (Λ := Λ_i_IsVerdict) tab0 σok_i_IsVerdict Try.func47 (by kernel_rfl) (show Try.f47.body = some (bodyOf Try.f47) by kernel_rfl) [] rfl (by kernel_rfl) (by exact trivial) (by kernel_rfl)
  fun x y h => (show execFn Γ0 E0 σ_i_IsVerdict Λ_i_IsVerdict Try.f47 S_i_IsVerdict x = i_IsVerdict x by kernel_rfl).trans h

noncomputable def i_ownVerdict (x : Ty.T (.pair TVerdict .unit)) : Option (Ty.T (.pair (.pair (.int .i64) (.pair (.pair (.int .i64) (.pair (.int .i64) (.pair TState (.pair (.own 2 (.int .i64)) .unit)))) .unit)) .unit)) :=
match slices_Clone_int64 (x.1.2.1.2.2.2.1, ()) with
| none => none
| some v1 =>
some ((x.1.1, (x.1.2.1.1, x.1.2.1.2.1, (x.1.2.1.2.2.1.1, x.1.2.1.2.2.1.2.1, x.1.2.1.2.2.1.2.2.1, x.1.2.1.2.2.1.2.2.2.1, x.1.2.1.2.2.1.2.2.2.2.1, ()), v1.1, ()), ()), ())
noncomputable def S_i_ownVerdict : Spec := ⟨(.pair TVerdict .unit), (.pair (.pair (.int .i64) (.pair (.pair (.int .i64) (.pair (.int .i64) (.pair TState (.pair (.own 2 (.int .i64)) .unit)))) .unit)) .unit), .unit, rfl, i_ownVerdict⟩
noncomputable def σ_i_ownVerdict : FuncId → Option Spec := sig [(124, S_slices_Clone_int64)]
theorem σok_i_ownVerdict : ∀ f s, σ_i_ownVerdict f = some s → FnOK Try.prog f s := sig_ok (l := [(124, S_slices_Clone_int64)]) ⟨ok_slices_Clone_int64, trivial⟩
noncomputable def Λ_i_ownVerdict : Nat → Option LSpec := lkp (loopList (bodyOf Try.f99)) []
theorem ok_i_ownVerdict : FnOK Try.prog 99 S_i_ownVerdict := fn_ok (Λ := Λ_i_ownVerdict) tab0 σok_i_ownVerdict Try.func99 (by kernel_rfl) (show Try.f99.body = some (bodyOf Try.f99) by kernel_rfl) [] rfl (by kernel_rfl) (by exact trivial) (by kernel_rfl)
  fun x y h => (show execFn Γ0 E0 σ_i_ownVerdict Λ_i_ownVerdict Try.f99 S_i_ownVerdict x = i_ownVerdict x by kernel_rfl).trans h

noncomputable def i_SameVerdict (x : Ty.T (.pair TVerdict (.pair TVerdict .unit))) : Option (Ty.T (.pair .bool .unit)) :=
match (x.1.1 == x.2.1.1) with
| true =>
 match i_sameFrame ((x.1.2.1.1, x.1.2.1.2.1, (x.1.2.1.2.2.1.1, x.1.2.1.2.2.1.2.1, x.1.2.1.2.2.1.2.2.1, x.1.2.1.2.2.1.2.2.2.1, x.1.2.1.2.2.1.2.2.2.2.1, ()), x.1.2.1.2.2.2.1, ()), (x.2.1.2.1.1, x.2.1.2.1.2.1, (x.2.1.2.1.2.2.1.1, x.2.1.2.1.2.2.1.2.1, x.2.1.2.1.2.2.1.2.2.1, x.2.1.2.1.2.2.1.2.2.2.1, x.2.1.2.1.2.2.1.2.2.2.2.1, ()), x.2.1.2.1.2.2.2.1, ()), ()) with
 | none => none
 | some v1 =>
 some (v1.1, ())
| false =>
 some (false, ())
noncomputable def S_i_SameVerdict : Spec := ⟨(.pair TVerdict (.pair TVerdict .unit)), (.pair .bool .unit), .unit, rfl, i_SameVerdict⟩
noncomputable def σ_i_SameVerdict : FuncId → Option Spec := sig [(106, S_i_sameFrame)]
theorem σok_i_SameVerdict : ∀ f s, σ_i_SameVerdict f = some s → FnOK Try.prog f s := sig_ok (l := [(106, S_i_sameFrame)]) ⟨ok_i_sameFrame, trivial⟩
noncomputable def Λ_i_SameVerdict : Nat → Option LSpec := lkp (loopList (bodyOf Try.f116)) []
theorem ok_i_SameVerdict : FnOK Try.prog 116 S_i_SameVerdict := fn_ok (Λ := Λ_i_SameVerdict) tab0 σok_i_SameVerdict Try.func116 (by kernel_rfl) (show Try.f116.body = some (bodyOf Try.f116) by kernel_rfl) [] rfl (by kernel_rfl) (by exact trivial) (by kernel_rfl)
  fun x y h => (show execFn Γ0 E0 σ_i_SameVerdict Λ_i_SameVerdict Try.f116 S_i_SameVerdict x = i_SameVerdict x by kernel_rfl).trans h

noncomputable def i_merge (x : Ty.T (.pair TVerdict (.pair TVerdict .unit))) : Option (Ty.T (.pair TVerdict .unit)) :=
match (x.1.1 == (3 : Int)) with
| true =>
 match i_SameVerdict ((x.1.1, (x.1.2.1.1, x.1.2.1.2.1, (x.1.2.1.2.2.1.1, x.1.2.1.2.2.1.2.1, x.1.2.1.2.2.1.2.2.1, x.1.2.1.2.2.1.2.2.2.1, x.1.2.1.2.2.1.2.2.2.2.1, ()), x.1.2.1.2.2.2.1, ()), ()), (x.2.1.1, (x.2.1.2.1.1, x.2.1.2.1.2.1, (x.2.1.2.1.2.2.1.1, x.2.1.2.1.2.2.1.2.1, x.2.1.2.1.2.2.1.2.2.1, x.2.1.2.1.2.2.1.2.2.2.1, x.2.1.2.1.2.2.1.2.2.2.2.1, ()), x.2.1.2.1.2.2.2.1, ()), ()), ()) with
 | none => none
 | some v1 =>
 match v1.1 with
 | true =>
  some ((x.1.1, (x.1.2.1.1, x.1.2.1.2.1, (x.1.2.1.2.2.1.1, x.1.2.1.2.2.1.2.1, x.1.2.1.2.2.1.2.2.1, x.1.2.1.2.2.1.2.2.2.1, x.1.2.1.2.2.1.2.2.2.2.1, ()), x.1.2.1.2.2.2.1, ()), ()), ())
 | false =>
  match (x.1.1 == (3 : Int)) with
  | true =>
   match (x.2.1.1 == (3 : Int)) with
   | true =>
    some (((4 : Int), ((0 : Int), (0 : Int), ((0 : Int), (0 : Int), (0 : Int), (0 : Int), (0 : Int), ()), [], ()), ()), ())
   | false =>
    match (x.1.1 == (4 : Int)) with
    | true =>
     some (((4 : Int), ((0 : Int), (0 : Int), ((0 : Int), (0 : Int), (0 : Int), (0 : Int), (0 : Int), ()), [], ()), ()), ())
    | false =>
     match (x.2.1.1 == (4 : Int)) with
     | true =>
      some (((4 : Int), ((0 : Int), (0 : Int), ((0 : Int), (0 : Int), (0 : Int), (0 : Int), (0 : Int), ()), [], ()), ()), ())
     | false =>
      match (decide (x.1.1 ≥ x.2.1.1)) with
      | true =>
       some ((x.1.1, (x.1.2.1.1, x.1.2.1.2.1, (x.1.2.1.2.2.1.1, x.1.2.1.2.2.1.2.1, x.1.2.1.2.2.1.2.2.1, x.1.2.1.2.2.1.2.2.2.1, x.1.2.1.2.2.1.2.2.2.2.1, ()), x.1.2.1.2.2.2.1, ()), ()), ())
      | false =>
       some ((x.2.1.1, (x.2.1.2.1.1, x.2.1.2.1.2.1, (x.2.1.2.1.2.2.1.1, x.2.1.2.1.2.2.1.2.1, x.2.1.2.1.2.2.1.2.2.1, x.2.1.2.1.2.2.1.2.2.2.1, x.2.1.2.1.2.2.1.2.2.2.2.1, ()), x.2.1.2.1.2.2.2.1, ()), ()), ())
  | false =>
   match (x.1.1 == (4 : Int)) with
   | true =>
    some (((4 : Int), ((0 : Int), (0 : Int), ((0 : Int), (0 : Int), (0 : Int), (0 : Int), (0 : Int), ()), [], ()), ()), ())
   | false =>
    match (x.2.1.1 == (4 : Int)) with
    | true =>
     some (((4 : Int), ((0 : Int), (0 : Int), ((0 : Int), (0 : Int), (0 : Int), (0 : Int), (0 : Int), ()), [], ()), ()), ())
    | false =>
     match (decide (x.1.1 ≥ x.2.1.1)) with
     | true =>
      some ((x.1.1, (x.1.2.1.1, x.1.2.1.2.1, (x.1.2.1.2.2.1.1, x.1.2.1.2.2.1.2.1, x.1.2.1.2.2.1.2.2.1, x.1.2.1.2.2.1.2.2.2.1, x.1.2.1.2.2.1.2.2.2.2.1, ()), x.1.2.1.2.2.2.1, ()), ()), ())
     | false =>
      some ((x.2.1.1, (x.2.1.2.1.1, x.2.1.2.1.2.1, (x.2.1.2.1.2.2.1.1, x.2.1.2.1.2.2.1.2.1, x.2.1.2.1.2.2.1.2.2.1, x.2.1.2.1.2.2.1.2.2.2.1, x.2.1.2.1.2.2.1.2.2.2.2.1, ()), x.2.1.2.1.2.2.2.1, ()), ()), ())
| false =>
 match (x.1.1 == (3 : Int)) with
 | true =>
  match (x.2.1.1 == (3 : Int)) with
  | true =>
   some (((4 : Int), ((0 : Int), (0 : Int), ((0 : Int), (0 : Int), (0 : Int), (0 : Int), (0 : Int), ()), [], ()), ()), ())
  | false =>
   match (x.1.1 == (4 : Int)) with
   | true =>
    some (((4 : Int), ((0 : Int), (0 : Int), ((0 : Int), (0 : Int), (0 : Int), (0 : Int), (0 : Int), ()), [], ()), ()), ())
   | false =>
    match (x.2.1.1 == (4 : Int)) with
    | true =>
     some (((4 : Int), ((0 : Int), (0 : Int), ((0 : Int), (0 : Int), (0 : Int), (0 : Int), (0 : Int), ()), [], ()), ()), ())
    | false =>
     match (decide (x.1.1 ≥ x.2.1.1)) with
     | true =>
      some ((x.1.1, (x.1.2.1.1, x.1.2.1.2.1, (x.1.2.1.2.2.1.1, x.1.2.1.2.2.1.2.1, x.1.2.1.2.2.1.2.2.1, x.1.2.1.2.2.1.2.2.2.1, x.1.2.1.2.2.1.2.2.2.2.1, ()), x.1.2.1.2.2.2.1, ()), ()), ())
     | false =>
      some ((x.2.1.1, (x.2.1.2.1.1, x.2.1.2.1.2.1, (x.2.1.2.1.2.2.1.1, x.2.1.2.1.2.2.1.2.1, x.2.1.2.1.2.2.1.2.2.1, x.2.1.2.1.2.2.1.2.2.2.1, x.2.1.2.1.2.2.1.2.2.2.2.1, ()), x.2.1.2.1.2.2.2.1, ()), ()), ())
 | false =>
  match (x.1.1 == (4 : Int)) with
  | true =>
   some (((4 : Int), ((0 : Int), (0 : Int), ((0 : Int), (0 : Int), (0 : Int), (0 : Int), (0 : Int), ()), [], ()), ()), ())
  | false =>
   match (x.2.1.1 == (4 : Int)) with
   | true =>
    some (((4 : Int), ((0 : Int), (0 : Int), ((0 : Int), (0 : Int), (0 : Int), (0 : Int), (0 : Int), ()), [], ()), ()), ())
   | false =>
    match (decide (x.1.1 ≥ x.2.1.1)) with
    | true =>
     some ((x.1.1, (x.1.2.1.1, x.1.2.1.2.1, (x.1.2.1.2.2.1.1, x.1.2.1.2.2.1.2.1, x.1.2.1.2.2.1.2.2.1, x.1.2.1.2.2.1.2.2.2.1, x.1.2.1.2.2.1.2.2.2.2.1, ()), x.1.2.1.2.2.2.1, ()), ()), ())
    | false =>
     some ((x.2.1.1, (x.2.1.2.1.1, x.2.1.2.1.2.1, (x.2.1.2.1.2.2.1.1, x.2.1.2.1.2.2.1.2.1, x.2.1.2.1.2.2.1.2.2.1, x.2.1.2.1.2.2.1.2.2.2.1, x.2.1.2.1.2.2.1.2.2.2.2.1, ()), x.2.1.2.1.2.2.2.1, ()), ()), ())
noncomputable def S_i_merge : Spec := ⟨(.pair TVerdict (.pair TVerdict .unit)), (.pair TVerdict .unit), .unit, rfl, i_merge⟩
noncomputable def σ_i_merge : FuncId → Option Spec := sig [(116, S_i_SameVerdict)]
theorem σok_i_merge : ∀ f s, σ_i_merge f = some s → FnOK Try.prog f s := sig_ok (l := [(116, S_i_SameVerdict)]) ⟨ok_i_SameVerdict, trivial⟩
noncomputable def Λ_i_merge : Nat → Option LSpec := lkp (loopList (bodyOf Try.f100)) []
theorem ok_i_merge : FnOK Try.prog 100 S_i_merge := fn_ok (Λ := Λ_i_merge) tab0 σok_i_merge Try.func100 (by kernel_rfl) (show Try.f100.body = some (bodyOf Try.f100) by kernel_rfl) [] rfl (by kernel_rfl) (by exact trivial) (by kernel_rfl)
  fun x y h => (show execFn Γ0 E0 σ_i_merge Λ_i_merge Try.f100 S_i_merge x = i_merge x by kernel_rfl).trans h

noncomputable def i_MergeVerdicts (x : Ty.T (.pair TVerdict (.pair TVerdict .unit))) : Option (Ty.T (.pair (.pair (.int .i64) (.pair (.pair (.int .i64) (.pair (.int .i64) (.pair TState (.pair (.own 2 (.int .i64)) .unit)))) .unit)) (.pair (.int .i64) .unit))) :=
match i_IsVerdict ((x.1.1, (x.1.2.1.1, x.1.2.1.2.1, (x.1.2.1.2.2.1.1, x.1.2.1.2.2.1.2.1, x.1.2.1.2.2.1.2.2.1, x.1.2.1.2.2.1.2.2.2.1, x.1.2.1.2.2.1.2.2.2.2.1, ()), x.1.2.1.2.2.2.1, ()), ()), ()) with
| none => none
| some v1 =>
match (!v1.1) with
| true =>
 some (((0 : Int), ((0 : Int), (0 : Int), ((0 : Int), (0 : Int), (0 : Int), (0 : Int), (0 : Int), ()), [], ()), ()), (1 : Int), ())
| false =>
 match i_IsVerdict ((x.2.1.1, (x.2.1.2.1.1, x.2.1.2.1.2.1, (x.2.1.2.1.2.2.1.1, x.2.1.2.1.2.2.1.2.1, x.2.1.2.1.2.2.1.2.2.1, x.2.1.2.1.2.2.1.2.2.2.1, x.2.1.2.1.2.2.1.2.2.2.2.1, ()), x.2.1.2.1.2.2.2.1, ()), ()), ()) with
 | none => none
 | some v2 =>
 match (!v2.1) with
 | true =>
  some (((0 : Int), ((0 : Int), (0 : Int), ((0 : Int), (0 : Int), (0 : Int), (0 : Int), (0 : Int), ()), [], ()), ()), (1 : Int), ())
 | false =>
  match i_merge ((x.1.1, (x.1.2.1.1, x.1.2.1.2.1, (x.1.2.1.2.2.1.1, x.1.2.1.2.2.1.2.1, x.1.2.1.2.2.1.2.2.1, x.1.2.1.2.2.1.2.2.2.1, x.1.2.1.2.2.1.2.2.2.2.1, ()), x.1.2.1.2.2.2.1, ()), ()), (x.2.1.1, (x.2.1.2.1.1, x.2.1.2.1.2.1, (x.2.1.2.1.2.2.1.1, x.2.1.2.1.2.2.1.2.1, x.2.1.2.1.2.2.1.2.2.1, x.2.1.2.1.2.2.1.2.2.2.1, x.2.1.2.1.2.2.1.2.2.2.2.1, ()), x.2.1.2.1.2.2.2.1, ()), ()), ()) with
  | none => none
  | some v3 =>
  match i_ownVerdict (v3.1, ()) with
  | none => none
  | some v4 =>
  some ((v4.1.1, (v4.1.2.1.1, v4.1.2.1.2.1, (v4.1.2.1.2.2.1.1, v4.1.2.1.2.2.1.2.1, v4.1.2.1.2.2.1.2.2.1, v4.1.2.1.2.2.1.2.2.2.1, v4.1.2.1.2.2.1.2.2.2.2.1, ()), v4.1.2.1.2.2.2.1, ()), ()), (0 : Int), ())
noncomputable def S_i_MergeVerdicts : Spec := ⟨(.pair TVerdict (.pair TVerdict .unit)), (.pair (.pair (.int .i64) (.pair (.pair (.int .i64) (.pair (.int .i64) (.pair TState (.pair (.own 2 (.int .i64)) .unit)))) .unit)) (.pair (.int .i64) .unit)), .unit, rfl, i_MergeVerdicts⟩
noncomputable def σ_i_MergeVerdicts : FuncId → Option Spec := sig [(47, S_i_IsVerdict), (99, S_i_ownVerdict), (100, S_i_merge)]
theorem σok_i_MergeVerdicts : ∀ f s, σ_i_MergeVerdicts f = some s → FnOK Try.prog f s := sig_ok (l := [(47, S_i_IsVerdict), (99, S_i_ownVerdict), (100, S_i_merge)]) ⟨ok_i_IsVerdict, ok_i_ownVerdict, ok_i_merge, trivial⟩
noncomputable def Λ_i_MergeVerdicts : Nat → Option LSpec := lkp (loopList (bodyOf Try.f44)) []
theorem ok_i_MergeVerdicts : FnOK Try.prog 44 S_i_MergeVerdicts := fn_ok (Λ := Λ_i_MergeVerdicts) tab0 σok_i_MergeVerdicts Try.func44 (by kernel_rfl) (show Try.f44.body = some (bodyOf Try.f44) by kernel_rfl) [] rfl (by kernel_rfl) (by exact trivial) (by kernel_rfl)
  fun x y h => (show execFn Γ0 E0 σ_i_MergeVerdicts Λ_i_MergeVerdicts Try.f44 S_i_MergeVerdicts x = i_MergeVerdicts x by kernel_rfl).trans h

noncomputable def s_l06Kind (x : Ty.T (.pair (.int .i64) .unit)) : Option (Ty.T (.pair .bool .unit)) :=
match s_l01In (x.1, (0 : Int), (3 : Int), ()) with
| none => none
| some v1 =>
some (v1.1, ())
noncomputable def S_s_l06Kind : Spec := ⟨(.pair (.int .i64) .unit), (.pair .bool .unit), .unit, rfl, s_l06Kind⟩
noncomputable def σ_s_l06Kind : FuncId → Option Spec := sig [(73, S_s_l01In)]
theorem σok_s_l06Kind : ∀ f s, σ_s_l06Kind f = some s → FnOK Try.prog f s := sig_ok (l := [(73, S_s_l01In)]) ⟨ok_s_l01In, trivial⟩
noncomputable def Λ_s_l06Kind : Nat → Option LSpec := lkp (loopList (bodyOf Try.f149)) []
theorem ok_s_l06Kind : FnOK Try.prog 149 S_s_l06Kind := fn_ok (Λ := Λ_s_l06Kind) tab0 σok_s_l06Kind Try.func149 (by kernel_rfl) (show Try.f149.body = some (bodyOf Try.f149) by kernel_rfl) [] rfl (by kernel_rfl) (by exact trivial) (by kernel_rfl)
  fun x y h => (show execFn Γ0 E0 σ_s_l06Kind Λ_s_l06Kind Try.f149 S_s_l06Kind x = s_l06Kind x by kernel_rfl).trans h

noncomputable def s_l06Size (x : Ty.T (.pair (.int .i64) (.pair (.int .i64) .unit))) : Option (Ty.T (.pair .bool .unit)) :=
match (x.1 == (0 : Int)) with
| true =>
 match s_l01In (x.2.1, (0 : Int), (32 : Int), ()) with
 | none => none
 | some v1 =>
 some (v1.1, ())
| false =>
 match (x.1 == (2 : Int)) with
 | true =>
  match s_l01In (x.2.1, (1 : Int), (32 : Int), ()) with
  | none => none
  | some v2 =>
  some (v2.1, ())
 | false =>
  some ((x.2.1 == (0 : Int)), ())
noncomputable def S_s_l06Size : Spec := ⟨(.pair (.int .i64) (.pair (.int .i64) .unit)), (.pair .bool .unit), .unit, rfl, s_l06Size⟩
noncomputable def σ_s_l06Size : FuncId → Option Spec := sig [(73, S_s_l01In)]
theorem σok_s_l06Size : ∀ f s, σ_s_l06Size f = some s → FnOK Try.prog f s := sig_ok (l := [(73, S_s_l01In)]) ⟨ok_s_l01In, trivial⟩
noncomputable def Λ_s_l06Size : Nat → Option LSpec := lkp (loopList (bodyOf Try.f150)) []
theorem ok_s_l06Size : FnOK Try.prog 150 S_s_l06Size := fn_ok (Λ := Λ_s_l06Size) tab0 σok_s_l06Size Try.func150 (by kernel_rfl) (show Try.f150.body = some (bodyOf Try.f150) by kernel_rfl) [] rfl (by kernel_rfl) (by exact trivial) (by kernel_rfl)
  fun x y h => (show execFn Γ0 E0 σ_s_l06Size Λ_s_l06Size Try.f150 S_s_l06Size x = s_l06Size x by kernel_rfl).trans h

noncomputable def b_s_l01All_4 (x : (Ty.T (.pair (.list (.int .i64)) (.pair (.int .i64) (.pair (.int .i64) .unit))))) : Option ((Ty.T (.pair (.list (.int .i64)) (.pair (.int .i64) (.pair (.int .i64) .unit)))) ⊕ ((Ty.T .unit) ⊕ (Ty.T (.pair .bool .unit)))) :=
match (decide (x.2.2.1 < (x.1.length : Int))) with
| true =>
 onSome (idx x.1 x.2.2.1) fun v1 =>
 match s_l01In (v1, (0 : Int), x.2.1, ()) with
 | none => none
 | some v2 =>
 match (!v2.1) with
 | true =>
  some (.inr (.inr (false, ())))
 | false =>
  some (.inl (x.1, x.2.1, (IntKind.i64.wrap (x.2.2.1 + (1 : Int))), ()))
| false =>
 some (.inr (.inl (())))
noncomputable def s_l01All (x : Ty.T (.pair (.list (.int .i64)) (.pair (.int .i64) (.pair (.int .i64) .unit)))) : Option (Ty.T (.pair .bool .unit)) :=
match (decide ((x.1.length : Int) > x.2.1)) with
| true =>
 some (false, ())
| false =>
 match loopL b_s_l01All_4 (x.1, x.2.2.1, (0 : Int), ()) with
 | none => none
 | some (.inl v3) =>
  some (true, ())
 | some (.inr v4) =>
  some (v4.1, ())
noncomputable def S_s_l01All : Spec := ⟨(.pair (.list (.int .i64)) (.pair (.int .i64) (.pair (.int .i64) .unit))), (.pair .bool .unit), .unit, rfl, s_l01All⟩
noncomputable def σ_s_l01All : FuncId → Option Spec := sig [(73, S_s_l01In)]
theorem σok_s_l01All : ∀ f s, σ_s_l01All f = some s → FnOK Try.prog f s := sig_ok (l := [(73, S_s_l01In)]) ⟨ok_s_l01In, trivial⟩
noncomputable def Λ_s_l01All : Nat → Option LSpec := lkp (loopList (bodyOf Try.f163)) [⟨[0, 2, 7], (.pair (.list (.int .i64)) (.pair (.int .i64) (.pair (.int .i64) .unit))), 0, [], .unit, [6], (.pair .bool .unit), loopL b_s_l01All_4⟩]
theorem lok_s_l01All_4 (x) : codeK Γ0 E0 σ_s_l01All Λ_s_l01All Try.f163.ntmps (nthLoop Try.f163 0) (mkF Try.f163.ntmps [0, 2, 7] (.pair (.list (.int .i64)) (.pair (.int .i64) (.pair (.int .i64) .unit))) x) (readK σ_s_l01All Try.f163.ntmps [0, 2, 7] (.pair (.list (.int .i64)) (.pair (.int .i64) (.pair (.int .i64) .unit))) 0 [] .unit [6] (.pair .bool .unit)) = b_s_l01All_4 x := by kernel_rfl
theorem ok_s_l01All : FnOK Try.prog 163 S_s_l01All := fn_ok (Λ := Λ_s_l01All) tab0 σok_s_l01All Try.func163 (by kernel_rfl) (show Try.f163.body = some (bodyOf Try.f163) by kernel_rfl) [⟨[0, 2, 7], (.pair (.list (.int .i64)) (.pair (.int .i64) (.pair (.int .i64) .unit))), 0, [], .unit, [6], (.pair .bool .unit), loopL b_s_l01All_4⟩] rfl (by kernel_rfl) (by exact ⟨loop_LOK (lok_s_l01All_4), trivial⟩) (by kernel_rfl)
  fun x y h => (show execFn Γ0 E0 σ_s_l01All Λ_s_l01All Try.f163 S_s_l01All x = s_l01All x by kernel_rfl).trans h

noncomputable def s_IsBytes (x : Ty.T (.pair (.list (.int .i64)) .unit)) : Option (Ty.T (.pair .bool .unit)) :=
match s_l01All (x.1, (1024 : Int), (255 : Int), ()) with
| none => none
| some v1 =>
some (v1.1, ())
noncomputable def S_s_IsBytes : Spec := ⟨(.pair (.list (.int .i64)) .unit), (.pair .bool .unit), .unit, rfl, s_IsBytes⟩
noncomputable def σ_s_IsBytes : FuncId → Option Spec := sig [(163, S_s_l01All)]
theorem σok_s_IsBytes : ∀ f s, σ_s_IsBytes f = some s → FnOK Try.prog f s := sig_ok (l := [(163, S_s_l01All)]) ⟨ok_s_l01All, trivial⟩
noncomputable def Λ_s_IsBytes : Nat → Option LSpec := lkp (loopList (bodyOf Try.f151)) []
theorem ok_s_IsBytes : FnOK Try.prog 151 S_s_IsBytes := fn_ok (Λ := Λ_s_IsBytes) tab0 σok_s_IsBytes Try.func151 (by kernel_rfl) (show Try.f151.body = some (bodyOf Try.f151) by kernel_rfl) [] rfl (by kernel_rfl) (by exact trivial) (by kernel_rfl)
  fun x y h => (show execFn Γ0 E0 σ_s_IsBytes Λ_s_IsBytes Try.f151 S_s_IsBytes x = s_IsBytes x by kernel_rfl).trans h

noncomputable def b_s_l05Vector_2 (x : (Ty.T (.pair (.list (.int .i64)) (.pair (.int .i64) .unit)))) : Option ((Ty.T (.pair (.list (.int .i64)) (.pair (.int .i64) .unit))) ⊕ ((Ty.T .unit) ⊕ (Ty.T (.pair .bool .unit)))) :=
match (decide (x.2.1 < (x.1.length : Int))) with
| true =>
 onSome (idx x.1 x.2.1) fun v1 =>
 match s_l01In (v1, (0 : Int), (4294967295 : Int), ()) with
 | none => none
 | some v2 =>
 match (!v2.1) with
 | true =>
  some (.inr (.inr (false, ())))
 | false =>
  some (.inl (x.1, (IntKind.i64.wrap (x.2.1 + (1 : Int))), ()))
| false =>
 some (.inr (.inl (())))
noncomputable def s_l05Vector (x : Ty.T (.pair (.list (.int .i64)) .unit)) : Option (Ty.T (.pair .bool .unit)) :=
match loopL b_s_l05Vector_2 (x.1, (0 : Int), ()) with
| none => none
| some (.inl v3) =>
 some (true, ())
| some (.inr v4) =>
 some (v4.1, ())
noncomputable def S_s_l05Vector : Spec := ⟨(.pair (.list (.int .i64)) .unit), (.pair .bool .unit), .unit, rfl, s_l05Vector⟩
noncomputable def σ_s_l05Vector : FuncId → Option Spec := sig [(73, S_s_l01In)]
theorem σok_s_l05Vector : ∀ f s, σ_s_l05Vector f = some s → FnOK Try.prog f s := sig_ok (l := [(73, S_s_l01In)]) ⟨ok_s_l01In, trivial⟩
noncomputable def Λ_s_l05Vector : Nat → Option LSpec := lkp (loopList (bodyOf Try.f164)) [⟨[0, 3], (.pair (.list (.int .i64)) (.pair (.int .i64) .unit)), 0, [], .unit, [2], (.pair .bool .unit), loopL b_s_l05Vector_2⟩]
theorem lok_s_l05Vector_2 (x) : codeK Γ0 E0 σ_s_l05Vector Λ_s_l05Vector Try.f164.ntmps (nthLoop Try.f164 0) (mkF Try.f164.ntmps [0, 3] (.pair (.list (.int .i64)) (.pair (.int .i64) .unit)) x) (readK σ_s_l05Vector Try.f164.ntmps [0, 3] (.pair (.list (.int .i64)) (.pair (.int .i64) .unit)) 0 [] .unit [2] (.pair .bool .unit)) = b_s_l05Vector_2 x := by kernel_rfl
theorem ok_s_l05Vector : FnOK Try.prog 164 S_s_l05Vector := fn_ok (Λ := Λ_s_l05Vector) tab0 σok_s_l05Vector Try.func164 (by kernel_rfl) (show Try.f164.body = some (bodyOf Try.f164) by kernel_rfl) [⟨[0, 3], (.pair (.list (.int .i64)) (.pair (.int .i64) .unit)), 0, [], .unit, [2], (.pair .bool .unit), loopL b_s_l05Vector_2⟩] rfl (by kernel_rfl) (by exact ⟨loop_LOK (lok_s_l05Vector_2), trivial⟩) (by kernel_rfl)
  fun x y h => (show execFn Γ0 E0 σ_s_l05Vector Λ_s_l05Vector Try.f164 S_s_l05Vector x = s_l05Vector x by kernel_rfl).trans h

noncomputable def s_l05Has (x : Ty.T (.pair (.int .i64) (.pair (.int .i64) .unit))) : Option (Ty.T (.pair .bool .unit)) :=
if (IntKind.u64.wrap x.2.1) < 0 then none else
some (((bits BinOp.and .i64 (Int.fdiv x.1 (2 ^ min (IntKind.u64.wrap x.2.1).toNat IntKind.i64.bits)) (1 : Int)) == (1 : Int)), ())
noncomputable def S_s_l05Has : Spec := ⟨(.pair (.int .i64) (.pair (.int .i64) .unit)), (.pair .bool .unit), .unit, rfl, s_l05Has⟩
noncomputable def σ_s_l05Has : FuncId → Option Spec := sig []
theorem σok_s_l05Has : ∀ f s, σ_s_l05Has f = some s → FnOK Try.prog f s := sig_ok (l := []) trivial
noncomputable def Λ_s_l05Has : Nat → Option LSpec := lkp (loopList (bodyOf Try.f165)) []
theorem ok_s_l05Has : FnOK Try.prog 165 S_s_l05Has := fn_ok (Λ := Λ_s_l05Has) tab0 σok_s_l05Has Try.func165 (by kernel_rfl) (show Try.f165.body = some (bodyOf Try.f165) by kernel_rfl) [] rfl (by kernel_rfl) (by exact trivial) (by kernel_rfl)
  fun x y h => (show execFn Γ0 E0 σ_s_l05Has Λ_s_l05Has Try.f165 S_s_l05Has x = s_l05Has x by kernel_rfl).trans h

noncomputable def b_s_MembersOf_5 (x : (Ty.T (.pair (.int .i64) (.pair (.own 2 (.int .i64)) (.pair (.int .i64) .unit))))) : Option ((Ty.T (.pair (.int .i64) (.pair (.own 2 (.int .i64)) (.pair (.int .i64) .unit)))) ⊕ ((Ty.T (.pair (.own 2 (.int .i64)) .unit)) ⊕ (Ty.T .unit))) :=
match (decide (x.2.2.1 < (32 : Int))) with
| true =>
 match s_l05Has (x.1, x.2.2.1, ()) with
 | none => none
 | some v2 =>
 match v2.1 with
 | true =>
  room (x.2.1.length + [x.2.2.1].length) (
   some (.inl (x.1, (x.2.1 ++ [x.2.2.1]), (IntKind.i64.wrap (x.2.2.1 + (1 : Int))), ())))
 | false =>
  some (.inl (x.1, x.2.1, (IntKind.i64.wrap (x.2.2.1 + (1 : Int))), ()))
| false =>
 some (.inr (.inl (x.2.1, ())))
noncomputable def s_MembersOf (x : Ty.T (.pair (.int .i64) .unit)) : Option (Ty.T (.pair (.own 2 (.int .i64)) (.pair (.int .i64) .unit))) :=
match s_l05Vector ([x.1], ()) with
| none => none
| some v1 =>
match (!v1.1) with
| true =>
 some ([], (2 : Int), ())
| false =>
 match loopL b_s_MembersOf_5 (x.1, [], (0 : Int), ()) with
 | none => none
 | some (.inl v3) =>
  some (v3.1, (0 : Int), ())
 | some (.inr v5) =>
  none
noncomputable def S_s_MembersOf : Spec := ⟨(.pair (.int .i64) .unit), (.pair (.own 2 (.int .i64)) (.pair (.int .i64) .unit)), .unit, rfl, s_MembersOf⟩
noncomputable def σ_s_MembersOf : FuncId → Option Spec := sig [(164, S_s_l05Vector), (165, S_s_l05Has)]
theorem σok_s_MembersOf : ∀ f s, σ_s_MembersOf f = some s → FnOK Try.prog f s := sig_ok (l := [(164, S_s_l05Vector), (165, S_s_l05Has)]) ⟨ok_s_l05Vector, ok_s_l05Has, trivial⟩
noncomputable def Λ_s_MembersOf : Nat → Option LSpec := lkp (loopList (bodyOf Try.f152)) [⟨[0, 4, 5], (.pair (.int .i64) (.pair (.own 2 (.int .i64)) (.pair (.int .i64) .unit))), 0, [4], (.pair (.own 2 (.int .i64)) .unit), [], .unit, loopL b_s_MembersOf_5⟩]
theorem lok_s_MembersOf_5 (x) : codeK Γ0 E0 σ_s_MembersOf Λ_s_MembersOf Try.f152.ntmps (nthLoop Try.f152 0) (mkF Try.f152.ntmps [0, 4, 5] (.pair (.int .i64) (.pair (.own 2 (.int .i64)) (.pair (.int .i64) .unit))) x) (readK σ_s_MembersOf Try.f152.ntmps [0, 4, 5] (.pair (.int .i64) (.pair (.own 2 (.int .i64)) (.pair (.int .i64) .unit))) 0 [4] (.pair (.own 2 (.int .i64)) .unit) [] .unit) = b_s_MembersOf_5 x := by kernel_rfl
theorem ok_s_MembersOf : FnOK Try.prog 152 S_s_MembersOf := fn_ok (Λ := Λ_s_MembersOf) tab0 σok_s_MembersOf Try.func152 (by kernel_rfl) (show Try.f152.body = some (bodyOf Try.f152) by kernel_rfl) [⟨[0, 4, 5], (.pair (.int .i64) (.pair (.own 2 (.int .i64)) (.pair (.int .i64) .unit))), 0, [4], (.pair (.own 2 (.int .i64)) .unit), [], .unit, loopL b_s_MembersOf_5⟩] rfl (by kernel_rfl) (by exact ⟨loop_LOK (lok_s_MembersOf_5), trivial⟩) (by kernel_rfl)
  fun x y h => (show execFn Γ0 E0 σ_s_MembersOf Λ_s_MembersOf Try.f152 S_s_MembersOf x = s_MembersOf x by kernel_rfl).trans h

noncomputable def s_IsState (x : Ty.T (.pair TState .unit)) : Option (Ty.T (.pair .bool .unit)) :=
match s_l01In (x.1.1, (0 : Int), (65535 : Int), ()) with
| none => none
| some v1 =>
match v1.1 with
| true =>
 match s_l01In (x.1.2.1, (0 : Int), (15 : Int), ()) with
 | none => none
 | some v2 =>
 match v2.1 with
 | true =>
  match s_l01In (x.1.2.2.1, (0 : Int), (15 : Int), ()) with
  | none => none
  | some v3 =>
  match v3.1 with
  | true =>
   match s_l01In (x.1.2.2.2.1, (0 : Int), (255 : Int), ()) with
   | none => none
   | some v4 =>
   match v4.1 with
   | true =>
    match s_l01In (x.1.2.2.2.2.1, (0 : Int), (4294967295 : Int), ()) with
    | none => none
    | some v5 =>
    some (v5.1, ())
   | false =>
    some (false, ())
  | false =>
   some (false, ())
 | false =>
  some (false, ())
| false =>
 some (false, ())
noncomputable def S_s_IsState : Spec := ⟨(.pair TState .unit), (.pair .bool .unit), .unit, rfl, s_IsState⟩
noncomputable def σ_s_IsState : FuncId → Option Spec := sig [(73, S_s_l01In)]
theorem σok_s_IsState : ∀ f s, σ_s_IsState f = some s → FnOK Try.prog f s := sig_ok (l := [(73, S_s_l01In)]) ⟨ok_s_l01In, trivial⟩
noncomputable def Λ_s_IsState : Nat → Option LSpec := lkp (loopList (bodyOf Try.f153)) []
theorem ok_s_IsState : FnOK Try.prog 153 S_s_IsState := fn_ok (Λ := Λ_s_IsState) tab0 σok_s_IsState Try.func153 (by kernel_rfl) (show Try.f153.body = some (bodyOf Try.f153) by kernel_rfl) [] rfl (by kernel_rfl) (by exact trivial) (by kernel_rfl)
  fun x y h => (show execFn Γ0 E0 σ_s_IsState Λ_s_IsState Try.f153 S_s_IsState x = s_IsState x by kernel_rfl).trans h

noncomputable def s_IsFrame (x : Ty.T (.pair TFrame .unit)) : Option (Ty.T (.pair .bool .unit)) :=
match s_l06Kind (x.1.1, ()) with
| none => none
| some v1 =>
match (!v1.1) with
| true =>
 some (false, ())
| false =>
 match s_l01In (x.1.2.1, (0 : Int), (7 : Int), ()) with
 | none => none
 | some v2 =>
 match (!v2.1) with
 | true =>
  some (false, ())
 | false =>
  match s_l06Size (x.1.1, (x.1.2.2.2.1.length : Int), ()) with
  | none => none
  | some v3 =>
  match (!v3.1) with
  | true =>
   some (false, ())
  | false =>
   match s_IsBytes (x.1.2.2.2.1, ()) with
   | none => none
   | some v4 =>
   match (!v4.1) with
   | true =>
    some (false, ())
   | false =>
    match (x.1.1 == (0 : Int)) with
    | true =>
     some ((eqT TState (x.1.2.2.1.1, x.1.2.2.1.2.1, x.1.2.2.1.2.2.1, x.1.2.2.1.2.2.2.1, x.1.2.2.1.2.2.2.2.1, ()) ((0 : Int), (0 : Int), (0 : Int), (0 : Int), (0 : Int), ())), ())
    | false =>
     match (x.1.1 == (3 : Int)) with
     | true =>
      match s_MembersOf (x.1.2.2.1.2.2.2.2.1, ()) with
      | none => none
      | some v5 =>
      match s_IsState ((x.1.2.2.1.1, x.1.2.2.1.2.1, x.1.2.2.1.2.2.1, x.1.2.2.1.2.2.2.1, x.1.2.2.1.2.2.2.2.1, ()), ()) with
      | none => none
      | some v6 =>
      match v6.1 with
      | true =>
       match (x.1.2.2.1.2.1 == (0 : Int)) with
       | true =>
        match ((v5.1.length : Int) == (1 : Int)) with
        | true =>
         some ((x.1.2.1 == (0 : Int)), ())
        | false =>
         some (false, ())
       | false =>
        some (false, ())
      | false =>
       some (false, ())
     | false =>
      match s_IsState ((x.1.2.2.1.1, x.1.2.2.1.2.1, x.1.2.2.1.2.2.1, x.1.2.2.1.2.2.2.1, x.1.2.2.1.2.2.2.2.1, ()), ()) with
      | none => none
      | some v7 =>
      some (v7.1, ())
noncomputable def S_s_IsFrame : Spec := ⟨(.pair TFrame .unit), (.pair .bool .unit), .unit, rfl, s_IsFrame⟩
noncomputable def σ_s_IsFrame : FuncId → Option Spec := sig [(73, S_s_l01In), (149, S_s_l06Kind), (150, S_s_l06Size), (151, S_s_IsBytes), (152, S_s_MembersOf), (153, S_s_IsState)]
theorem σok_s_IsFrame : ∀ f s, σ_s_IsFrame f = some s → FnOK Try.prog f s := sig_ok (l := [(73, S_s_l01In), (149, S_s_l06Kind), (150, S_s_l06Size), (151, S_s_IsBytes), (152, S_s_MembersOf), (153, S_s_IsState)]) ⟨ok_s_l01In, ok_s_l06Kind, ok_s_l06Size, ok_s_IsBytes, ok_s_MembersOf, ok_s_IsState, trivial⟩
noncomputable def Λ_s_IsFrame : Nat → Option LSpec := lkp (loopList (bodyOf Try.f128)) []
theorem ok_s_IsFrame : FnOK Try.prog 128 S_s_IsFrame := fn_ok (Λ := Λ_s_IsFrame) tab0 σok_s_IsFrame Try.func128 (by kernel_rfl) (show Try.f128.body = some (bodyOf Try.f128) by kernel_rfl) [] rfl (by kernel_rfl) (by exact trivial) (by kernel_rfl)
  fun x y h => (show execFn Γ0 E0 σ_s_IsFrame Λ_s_IsFrame Try.f128 S_s_IsFrame x = s_IsFrame x by kernel_rfl).trans h

noncomputable def b_s_l01Same_4 (x : (Ty.T (.pair (.list (.int .i64)) (.pair (.list (.int .i64)) (.pair (.int .i64) .unit))))) : Option ((Ty.T (.pair (.list (.int .i64)) (.pair (.list (.int .i64)) (.pair (.int .i64) .unit)))) ⊕ ((Ty.T .unit) ⊕ (Ty.T (.pair .bool .unit)))) :=
match (decide (x.2.2.1 < (x.1.length : Int))) with
| true =>
 onSome (idx x.1 x.2.2.1) fun v1 =>
 onSome (idx x.2.1 x.2.2.1) fun v2 =>
 match (v1 != v2) with
 | true =>
  some (.inr (.inr (false, ())))
 | false =>
  some (.inl (x.1, x.2.1, (IntKind.i64.wrap (x.2.2.1 + (1 : Int))), ()))
| false =>
 some (.inr (.inl (())))
noncomputable def s_l01Same (x : Ty.T (.pair (.list (.int .i64)) (.pair (.list (.int .i64)) .unit))) : Option (Ty.T (.pair .bool .unit)) :=
match ((x.1.length : Int) != (x.2.1.length : Int)) with
| true =>
 some (false, ())
| false =>
 match loopL b_s_l01Same_4 (x.1, x.2.1, (0 : Int), ()) with
 | none => none
 | some (.inl v3) =>
  some (true, ())
 | some (.inr v4) =>
  some (v4.1, ())
noncomputable def S_s_l01Same : Spec := ⟨(.pair (.list (.int .i64)) (.pair (.list (.int .i64)) .unit)), (.pair .bool .unit), .unit, rfl, s_l01Same⟩
noncomputable def σ_s_l01Same : FuncId → Option Spec := sig []
theorem σok_s_l01Same : ∀ f s, σ_s_l01Same f = some s → FnOK Try.prog f s := sig_ok (l := []) trivial
noncomputable def Λ_s_l01Same : Nat → Option LSpec := lkp (loopList (bodyOf Try.f154)) [⟨[0, 1, 5], (.pair (.list (.int .i64)) (.pair (.list (.int .i64)) (.pair (.int .i64) .unit))), 0, [], .unit, [4], (.pair .bool .unit), loopL b_s_l01Same_4⟩]
theorem lok_s_l01Same_4 (x) : codeK Γ0 E0 σ_s_l01Same Λ_s_l01Same Try.f154.ntmps (nthLoop Try.f154 0) (mkF Try.f154.ntmps [0, 1, 5] (.pair (.list (.int .i64)) (.pair (.list (.int .i64)) (.pair (.int .i64) .unit))) x) (readK σ_s_l01Same Try.f154.ntmps [0, 1, 5] (.pair (.list (.int .i64)) (.pair (.list (.int .i64)) (.pair (.int .i64) .unit))) 0 [] .unit [4] (.pair .bool .unit)) = b_s_l01Same_4 x := by kernel_rfl
theorem ok_s_l01Same : FnOK Try.prog 154 S_s_l01Same := fn_ok (Λ := Λ_s_l01Same) tab0 σok_s_l01Same Try.func154 (by kernel_rfl) (show Try.f154.body = some (bodyOf Try.f154) by kernel_rfl) [⟨[0, 1, 5], (.pair (.list (.int .i64)) (.pair (.list (.int .i64)) (.pair (.int .i64) .unit))), 0, [], .unit, [4], (.pair .bool .unit), loopL b_s_l01Same_4⟩] rfl (by kernel_rfl) (by exact ⟨loop_LOK (lok_s_l01Same_4), trivial⟩) (by kernel_rfl)
  fun x y h => (show execFn Γ0 E0 σ_s_l01Same Λ_s_l01Same Try.f154 S_s_l01Same x = s_l01Same x by kernel_rfl).trans h

noncomputable def s_l28Same (x : Ty.T (.pair TFrame (.pair TFrame .unit))) : Option (Ty.T (.pair .bool .unit)) :=
match (x.1.1 == x.2.1.1) with
| true =>
 match (x.1.2.1 == x.2.1.2.1) with
 | true =>
  match (eqT TState (x.1.2.2.1.1, x.1.2.2.1.2.1, x.1.2.2.1.2.2.1, x.1.2.2.1.2.2.2.1, x.1.2.2.1.2.2.2.2.1, ()) (x.2.1.2.2.1.1, x.2.1.2.2.1.2.1, x.2.1.2.2.1.2.2.1, x.2.1.2.2.1.2.2.2.1, x.2.1.2.2.1.2.2.2.2.1, ())) with
  | true =>
   match s_l01Same (x.1.2.2.2.1, x.2.1.2.2.2.1, ()) with
   | none => none
   | some v1 =>
   some (v1.1, ())
  | false =>
   some (false, ())
 | false =>
  some (false, ())
| false =>
 some (false, ())
noncomputable def S_s_l28Same : Spec := ⟨(.pair TFrame (.pair TFrame .unit)), (.pair .bool .unit), .unit, rfl, s_l28Same⟩
noncomputable def σ_s_l28Same : FuncId → Option Spec := sig [(154, S_s_l01Same)]
theorem σok_s_l28Same : ∀ f s, σ_s_l28Same f = some s → FnOK Try.prog f s := sig_ok (l := [(154, S_s_l01Same)]) ⟨ok_s_l01Same, trivial⟩
noncomputable def Λ_s_l28Same : Nat → Option LSpec := lkp (loopList (bodyOf Try.f129)) []
theorem ok_s_l28Same : FnOK Try.prog 129 S_s_l28Same := fn_ok (Λ := Λ_s_l28Same) tab0 σok_s_l28Same Try.func129 (by kernel_rfl) (show Try.f129.body = some (bodyOf Try.f129) by kernel_rfl) [] rfl (by kernel_rfl) (by exact trivial) (by kernel_rfl)
  fun x y h => (show execFn Γ0 E0 σ_s_l28Same Λ_s_l28Same Try.f129 S_s_l28Same x = s_l28Same x by kernel_rfl).trans h

noncomputable def s_IsVerdict (x : Ty.T (.pair TVerdict .unit)) : Option (Ty.T (.pair .bool .unit)) :=
match (x.1.1 == (3 : Int)) with
| true =>
 match s_IsFrame ((x.1.2.1.1, x.1.2.1.2.1, (x.1.2.1.2.2.1.1, x.1.2.1.2.2.1.2.1, x.1.2.1.2.2.1.2.2.1, x.1.2.1.2.2.1.2.2.2.1, x.1.2.1.2.2.1.2.2.2.2.1, ()), x.1.2.1.2.2.2.1, ()), ()) with
 | none => none
 | some v1 =>
 some (v1.1, ())
| false =>
 match s_l01In (x.1.1, (0 : Int), (4 : Int), ()) with
 | none => none
 | some v2 =>
 match v2.1 with
 | true =>
  match s_l28Same ((x.1.2.1.1, x.1.2.1.2.1, (x.1.2.1.2.2.1.1, x.1.2.1.2.2.1.2.1, x.1.2.1.2.2.1.2.2.1, x.1.2.1.2.2.1.2.2.2.1, x.1.2.1.2.2.1.2.2.2.2.1, ()), x.1.2.1.2.2.2.1, ()), ((0 : Int), (0 : Int), ((0 : Int), (0 : Int), (0 : Int), (0 : Int), (0 : Int), ()), [], ()), ()) with
  | none => none
  | some v3 =>
  some (v3.1, ())
 | false =>
  some (false, ())
noncomputable def S_s_IsVerdict : Spec := ⟨(.pair TVerdict .unit), (.pair .bool .unit), .unit, rfl, s_IsVerdict⟩
noncomputable def σ_s_IsVerdict : FuncId → Option Spec := sig [(73, S_s_l01In), (128, S_s_IsFrame), (129, S_s_l28Same)]
theorem σok_s_IsVerdict : ∀ f s, σ_s_IsVerdict f = some s → FnOK Try.prog f s := sig_ok (l := [(73, S_s_l01In), (128, S_s_IsFrame), (129, S_s_l28Same)]) ⟨ok_s_l01In, ok_s_IsFrame, ok_s_l28Same, trivial⟩
noncomputable def Λ_s_IsVerdict : Nat → Option LSpec := lkp (loopList (bodyOf Try.f101)) []
theorem ok_s_IsVerdict : FnOK Try.prog 101 S_s_IsVerdict := fn_ok (Λ := Λ_s_IsVerdict) tab0 σok_s_IsVerdict Try.func101 (by kernel_rfl) (show Try.f101.body = some (bodyOf Try.f101) by kernel_rfl) [] rfl (by kernel_rfl) (by exact trivial) (by kernel_rfl)
  fun x y h => (show execFn Γ0 E0 σ_s_IsVerdict Λ_s_IsVerdict Try.f101 S_s_IsVerdict x = s_IsVerdict x by kernel_rfl).trans h

noncomputable def s_l01Own (x : Ty.T (.pair (.list (.int .i64)) .unit)) : Option (Ty.T (.pair (.own 2 (.int .i64)) .unit)) :=
room (([] : List (Ty.T (.int .i64))).length + x.1.length) (
 some ((([] : List (Ty.T (.int .i64))) ++ x.1), ()))
noncomputable def S_s_l01Own : Spec := ⟨(.pair (.list (.int .i64)) .unit), (.pair (.own 2 (.int .i64)) .unit), .unit, rfl, s_l01Own⟩
noncomputable def σ_s_l01Own : FuncId → Option Spec := sig []
theorem σok_s_l01Own : ∀ f s, σ_s_l01Own f = some s → FnOK Try.prog f s := sig_ok (l := []) trivial
noncomputable def Λ_s_l01Own : Nat → Option LSpec := lkp (loopList (bodyOf Try.f130)) []
theorem ok_s_l01Own : FnOK Try.prog 130 S_s_l01Own := fn_ok (Λ := Λ_s_l01Own) tab0 σok_s_l01Own Try.func130 (by kernel_rfl) (show Try.f130.body = some (bodyOf Try.f130) by kernel_rfl) [] rfl (by kernel_rfl) (by exact trivial) (by kernel_rfl)
  fun x y h => (show execFn Γ0 E0 σ_s_l01Own Λ_s_l01Own Try.f130 S_s_l01Own x = s_l01Own x by kernel_rfl).trans h

noncomputable def s_l29Own (x : Ty.T (.pair TVerdict .unit)) : Option (Ty.T (.pair (.pair (.int .i64) (.pair (.pair (.int .i64) (.pair (.int .i64) (.pair TState (.pair (.own 2 (.int .i64)) .unit)))) .unit)) .unit)) :=
match s_l01Own (x.1.2.1.2.2.2.1, ()) with
| none => none
| some v1 =>
some ((x.1.1, (x.1.2.1.1, x.1.2.1.2.1, (x.1.2.1.2.2.1.1, x.1.2.1.2.2.1.2.1, x.1.2.1.2.2.1.2.2.1, x.1.2.1.2.2.1.2.2.2.1, x.1.2.1.2.2.1.2.2.2.2.1, ()), v1.1, ()), ()), ())
noncomputable def S_s_l29Own : Spec := ⟨(.pair TVerdict .unit), (.pair (.pair (.int .i64) (.pair (.pair (.int .i64) (.pair (.int .i64) (.pair TState (.pair (.own 2 (.int .i64)) .unit)))) .unit)) .unit), .unit, rfl, s_l29Own⟩
noncomputable def σ_s_l29Own : FuncId → Option Spec := sig [(130, S_s_l01Own)]
theorem σok_s_l29Own : ∀ f s, σ_s_l29Own f = some s → FnOK Try.prog f s := sig_ok (l := [(130, S_s_l01Own)]) ⟨ok_s_l01Own, trivial⟩
noncomputable def Λ_s_l29Own : Nat → Option LSpec := lkp (loopList (bodyOf Try.f102)) []
theorem ok_s_l29Own : FnOK Try.prog 102 S_s_l29Own := fn_ok (Λ := Λ_s_l29Own) tab0 σok_s_l29Own Try.func102 (by kernel_rfl) (show Try.f102.body = some (bodyOf Try.f102) by kernel_rfl) [] rfl (by kernel_rfl) (by exact trivial) (by kernel_rfl)
  fun x y h => (show execFn Γ0 E0 σ_s_l29Own Λ_s_l29Own Try.f102 S_s_l29Own x = s_l29Own x by kernel_rfl).trans h

noncomputable def s_l29Merge (x : Ty.T (.pair TVerdict (.pair TVerdict .unit))) : Option (Ty.T (.pair TVerdict .unit)) :=
match (x.1.1 == (3 : Int)) with
| true =>
 match (x.2.1.1 == (3 : Int)) with
 | true =>
  match s_l28Same ((x.1.2.1.1, x.1.2.1.2.1, (x.1.2.1.2.2.1.1, x.1.2.1.2.2.1.2.1, x.1.2.1.2.2.1.2.2.1, x.1.2.1.2.2.1.2.2.2.1, x.1.2.1.2.2.1.2.2.2.2.1, ()), x.1.2.1.2.2.2.1, ()), (x.2.1.2.1.1, x.2.1.2.1.2.1, (x.2.1.2.1.2.2.1.1, x.2.1.2.1.2.2.1.2.1, x.2.1.2.1.2.2.1.2.2.1, x.2.1.2.1.2.2.1.2.2.2.1, x.2.1.2.1.2.2.1.2.2.2.2.1, ()), x.2.1.2.1.2.2.2.1, ()), ()) with
  | none => none
  | some v1 =>
  match v1.1 with
  | true =>
   some ((x.1.1, (x.1.2.1.1, x.1.2.1.2.1, (x.1.2.1.2.2.1.1, x.1.2.1.2.2.1.2.1, x.1.2.1.2.2.1.2.2.1, x.1.2.1.2.2.1.2.2.2.1, x.1.2.1.2.2.1.2.2.2.2.1, ()), x.1.2.1.2.2.2.1, ()), ()), ())
  | false =>
   match (x.1.1 == (3 : Int)) with
   | true =>
    match (x.2.1.1 == (3 : Int)) with
    | true =>
     some (((4 : Int), ((0 : Int), (0 : Int), ((0 : Int), (0 : Int), (0 : Int), (0 : Int), (0 : Int), ()), [], ()), ()), ())
    | false =>
     match (x.1.1 == (4 : Int)) with
     | true =>
      some (((4 : Int), ((0 : Int), (0 : Int), ((0 : Int), (0 : Int), (0 : Int), (0 : Int), (0 : Int), ()), [], ()), ()), ())
     | false =>
      match (x.2.1.1 == (4 : Int)) with
      | true =>
       some (((4 : Int), ((0 : Int), (0 : Int), ((0 : Int), (0 : Int), (0 : Int), (0 : Int), (0 : Int), ()), [], ()), ()), ())
      | false =>
       match (x.1.1 == (3 : Int)) with
       | true =>
        some ((x.1.1, (x.1.2.1.1, x.1.2.1.2.1, (x.1.2.1.2.2.1.1, x.1.2.1.2.2.1.2.1, x.1.2.1.2.2.1.2.2.1, x.1.2.1.2.2.1.2.2.2.1, x.1.2.1.2.2.1.2.2.2.2.1, ()), x.1.2.1.2.2.2.1, ()), ()), ())
       | false =>
        match (x.2.1.1 == (3 : Int)) with
        | true =>
         some ((x.2.1.1, (x.2.1.2.1.1, x.2.1.2.1.2.1, (x.2.1.2.1.2.2.1.1, x.2.1.2.1.2.2.1.2.1, x.2.1.2.1.2.2.1.2.2.1, x.2.1.2.1.2.2.1.2.2.2.1, x.2.1.2.1.2.2.1.2.2.2.2.1, ()), x.2.1.2.1.2.2.2.1, ()), ()), ())
        | false =>
         some (((if x.2.1.1 > x.1.1 then x.2.1.1 else x.1.1), ((0 : Int), (0 : Int), ((0 : Int), (0 : Int), (0 : Int), (0 : Int), (0 : Int), ()), [], ()), ()), ())
   | false =>
    match (x.1.1 == (4 : Int)) with
    | true =>
     some (((4 : Int), ((0 : Int), (0 : Int), ((0 : Int), (0 : Int), (0 : Int), (0 : Int), (0 : Int), ()), [], ()), ()), ())
    | false =>
     match (x.2.1.1 == (4 : Int)) with
     | true =>
      some (((4 : Int), ((0 : Int), (0 : Int), ((0 : Int), (0 : Int), (0 : Int), (0 : Int), (0 : Int), ()), [], ()), ()), ())
     | false =>
      match (x.1.1 == (3 : Int)) with
      | true =>
       some ((x.1.1, (x.1.2.1.1, x.1.2.1.2.1, (x.1.2.1.2.2.1.1, x.1.2.1.2.2.1.2.1, x.1.2.1.2.2.1.2.2.1, x.1.2.1.2.2.1.2.2.2.1, x.1.2.1.2.2.1.2.2.2.2.1, ()), x.1.2.1.2.2.2.1, ()), ()), ())
      | false =>
       match (x.2.1.1 == (3 : Int)) with
       | true =>
        some ((x.2.1.1, (x.2.1.2.1.1, x.2.1.2.1.2.1, (x.2.1.2.1.2.2.1.1, x.2.1.2.1.2.2.1.2.1, x.2.1.2.1.2.2.1.2.2.1, x.2.1.2.1.2.2.1.2.2.2.1, x.2.1.2.1.2.2.1.2.2.2.2.1, ()), x.2.1.2.1.2.2.2.1, ()), ()), ())
       | false =>
        some (((if x.2.1.1 > x.1.1 then x.2.1.1 else x.1.1), ((0 : Int), (0 : Int), ((0 : Int), (0 : Int), (0 : Int), (0 : Int), (0 : Int), ()), [], ()), ()), ())
 | false =>
  match (x.1.1 == (3 : Int)) with
  | true =>
   match (x.2.1.1 == (3 : Int)) with
   | true =>
    some (((4 : Int), ((0 : Int), (0 : Int), ((0 : Int), (0 : Int), (0 : Int), (0 : Int), (0 : Int), ()), [], ()), ()), ())
   | false =>
    match (x.1.1 == (4 : Int)) with
    | true =>
     some (((4 : Int), ((0 : Int), (0 : Int), ((0 : Int), (0 : Int), (0 : Int), (0 : Int), (0 : Int), ()), [], ()), ()), ())
    | false =>
     match (x.2.1.1 == (4 : Int)) with
     | true =>
      some (((4 : Int), ((0 : Int), (0 : Int), ((0 : Int), (0 : Int), (0 : Int), (0 : Int), (0 : Int), ()), [], ()), ()), ())
     | false =>
      match (x.1.1 == (3 : Int)) with
      | true =>
       some ((x.1.1, (x.1.2.1.1, x.1.2.1.2.1, (x.1.2.1.2.2.1.1, x.1.2.1.2.2.1.2.1, x.1.2.1.2.2.1.2.2.1, x.1.2.1.2.2.1.2.2.2.1, x.1.2.1.2.2.1.2.2.2.2.1, ()), x.1.2.1.2.2.2.1, ()), ()), ())
      | false =>
       match (x.2.1.1 == (3 : Int)) with
       | true =>
        some ((x.2.1.1, (x.2.1.2.1.1, x.2.1.2.1.2.1, (x.2.1.2.1.2.2.1.1, x.2.1.2.1.2.2.1.2.1, x.2.1.2.1.2.2.1.2.2.1, x.2.1.2.1.2.2.1.2.2.2.1, x.2.1.2.1.2.2.1.2.2.2.2.1, ()), x.2.1.2.1.2.2.2.1, ()), ()), ())
       | false =>
        some (((if x.2.1.1 > x.1.1 then x.2.1.1 else x.1.1), ((0 : Int), (0 : Int), ((0 : Int), (0 : Int), (0 : Int), (0 : Int), (0 : Int), ()), [], ()), ()), ())
  | false =>
   match (x.1.1 == (4 : Int)) with
   | true =>
    some (((4 : Int), ((0 : Int), (0 : Int), ((0 : Int), (0 : Int), (0 : Int), (0 : Int), (0 : Int), ()), [], ()), ()), ())
   | false =>
    match (x.2.1.1 == (4 : Int)) with
    | true =>
     some (((4 : Int), ((0 : Int), (0 : Int), ((0 : Int), (0 : Int), (0 : Int), (0 : Int), (0 : Int), ()), [], ()), ()), ())
    | false =>
     match (x.1.1 == (3 : Int)) with
     | true =>
      some ((x.1.1, (x.1.2.1.1, x.1.2.1.2.1, (x.1.2.1.2.2.1.1, x.1.2.1.2.2.1.2.1, x.1.2.1.2.2.1.2.2.1, x.1.2.1.2.2.1.2.2.2.1, x.1.2.1.2.2.1.2.2.2.2.1, ()), x.1.2.1.2.2.2.1, ()), ()), ())
     | false =>
      match (x.2.1.1 == (3 : Int)) with
      | true =>
       some ((x.2.1.1, (x.2.1.2.1.1, x.2.1.2.1.2.1, (x.2.1.2.1.2.2.1.1, x.2.1.2.1.2.2.1.2.1, x.2.1.2.1.2.2.1.2.2.1, x.2.1.2.1.2.2.1.2.2.2.1, x.2.1.2.1.2.2.1.2.2.2.2.1, ()), x.2.1.2.1.2.2.2.1, ()), ()), ())
      | false =>
       some (((if x.2.1.1 > x.1.1 then x.2.1.1 else x.1.1), ((0 : Int), (0 : Int), ((0 : Int), (0 : Int), (0 : Int), (0 : Int), (0 : Int), ()), [], ()), ()), ())
| false =>
 match (x.1.1 == (3 : Int)) with
 | true =>
  match (x.2.1.1 == (3 : Int)) with
  | true =>
   some (((4 : Int), ((0 : Int), (0 : Int), ((0 : Int), (0 : Int), (0 : Int), (0 : Int), (0 : Int), ()), [], ()), ()), ())
  | false =>
   match (x.1.1 == (4 : Int)) with
   | true =>
    some (((4 : Int), ((0 : Int), (0 : Int), ((0 : Int), (0 : Int), (0 : Int), (0 : Int), (0 : Int), ()), [], ()), ()), ())
   | false =>
    match (x.2.1.1 == (4 : Int)) with
    | true =>
     some (((4 : Int), ((0 : Int), (0 : Int), ((0 : Int), (0 : Int), (0 : Int), (0 : Int), (0 : Int), ()), [], ()), ()), ())
    | false =>
     match (x.1.1 == (3 : Int)) with
     | true =>
      some ((x.1.1, (x.1.2.1.1, x.1.2.1.2.1, (x.1.2.1.2.2.1.1, x.1.2.1.2.2.1.2.1, x.1.2.1.2.2.1.2.2.1, x.1.2.1.2.2.1.2.2.2.1, x.1.2.1.2.2.1.2.2.2.2.1, ()), x.1.2.1.2.2.2.1, ()), ()), ())
     | false =>
      match (x.2.1.1 == (3 : Int)) with
      | true =>
       some ((x.2.1.1, (x.2.1.2.1.1, x.2.1.2.1.2.1, (x.2.1.2.1.2.2.1.1, x.2.1.2.1.2.2.1.2.1, x.2.1.2.1.2.2.1.2.2.1, x.2.1.2.1.2.2.1.2.2.2.1, x.2.1.2.1.2.2.1.2.2.2.2.1, ()), x.2.1.2.1.2.2.2.1, ()), ()), ())
      | false =>
       some (((if x.2.1.1 > x.1.1 then x.2.1.1 else x.1.1), ((0 : Int), (0 : Int), ((0 : Int), (0 : Int), (0 : Int), (0 : Int), (0 : Int), ()), [], ()), ()), ())
 | false =>
  match (x.1.1 == (4 : Int)) with
  | true =>
   some (((4 : Int), ((0 : Int), (0 : Int), ((0 : Int), (0 : Int), (0 : Int), (0 : Int), (0 : Int), ()), [], ()), ()), ())
  | false =>
   match (x.2.1.1 == (4 : Int)) with
   | true =>
    some (((4 : Int), ((0 : Int), (0 : Int), ((0 : Int), (0 : Int), (0 : Int), (0 : Int), (0 : Int), ()), [], ()), ()), ())
   | false =>
    match (x.1.1 == (3 : Int)) with
    | true =>
     some ((x.1.1, (x.1.2.1.1, x.1.2.1.2.1, (x.1.2.1.2.2.1.1, x.1.2.1.2.2.1.2.1, x.1.2.1.2.2.1.2.2.1, x.1.2.1.2.2.1.2.2.2.1, x.1.2.1.2.2.1.2.2.2.2.1, ()), x.1.2.1.2.2.2.1, ()), ()), ())
    | false =>
     match (x.2.1.1 == (3 : Int)) with
     | true =>
      some ((x.2.1.1, (x.2.1.2.1.1, x.2.1.2.1.2.1, (x.2.1.2.1.2.2.1.1, x.2.1.2.1.2.2.1.2.1, x.2.1.2.1.2.2.1.2.2.1, x.2.1.2.1.2.2.1.2.2.2.1, x.2.1.2.1.2.2.1.2.2.2.2.1, ()), x.2.1.2.1.2.2.2.1, ()), ()), ())
     | false =>
      some (((if x.2.1.1 > x.1.1 then x.2.1.1 else x.1.1), ((0 : Int), (0 : Int), ((0 : Int), (0 : Int), (0 : Int), (0 : Int), (0 : Int), ()), [], ()), ()), ())
noncomputable def S_s_l29Merge : Spec := ⟨(.pair TVerdict (.pair TVerdict .unit)), (.pair TVerdict .unit), .unit, rfl, s_l29Merge⟩
noncomputable def σ_s_l29Merge : FuncId → Option Spec := sig [(129, S_s_l28Same)]
theorem σok_s_l29Merge : ∀ f s, σ_s_l29Merge f = some s → FnOK Try.prog f s := sig_ok (l := [(129, S_s_l28Same)]) ⟨ok_s_l28Same, trivial⟩
noncomputable def Λ_s_l29Merge : Nat → Option LSpec := lkp (loopList (bodyOf Try.f103)) []
theorem ok_s_l29Merge : FnOK Try.prog 103 S_s_l29Merge := fn_ok (Λ := Λ_s_l29Merge) tab0 σok_s_l29Merge Try.func103 (by kernel_rfl) (show Try.f103.body = some (bodyOf Try.f103) by kernel_rfl) [] rfl (by kernel_rfl) (by exact trivial) (by kernel_rfl)
  fun x y h => (show execFn Γ0 E0 σ_s_l29Merge Λ_s_l29Merge Try.f103 S_s_l29Merge x = s_l29Merge x by kernel_rfl).trans h

noncomputable def s_MergeVerdicts (x : Ty.T (.pair TVerdict (.pair TVerdict .unit))) : Option (Ty.T (.pair (.pair (.int .i64) (.pair (.pair (.int .i64) (.pair (.int .i64) (.pair TState (.pair (.own 2 (.int .i64)) .unit)))) .unit)) (.pair (.int .i64) .unit))) :=
match s_IsVerdict ((x.1.1, (x.1.2.1.1, x.1.2.1.2.1, (x.1.2.1.2.2.1.1, x.1.2.1.2.2.1.2.1, x.1.2.1.2.2.1.2.2.1, x.1.2.1.2.2.1.2.2.2.1, x.1.2.1.2.2.1.2.2.2.2.1, ()), x.1.2.1.2.2.2.1, ()), ()), ()) with
| none => none
| some v1 =>
match (!v1.1) with
| true =>
 some (((0 : Int), ((0 : Int), (0 : Int), ((0 : Int), (0 : Int), (0 : Int), (0 : Int), (0 : Int), ()), [], ()), ()), (1 : Int), ())
| false =>
 match s_IsVerdict ((x.2.1.1, (x.2.1.2.1.1, x.2.1.2.1.2.1, (x.2.1.2.1.2.2.1.1, x.2.1.2.1.2.2.1.2.1, x.2.1.2.1.2.2.1.2.2.1, x.2.1.2.1.2.2.1.2.2.2.1, x.2.1.2.1.2.2.1.2.2.2.2.1, ()), x.2.1.2.1.2.2.2.1, ()), ()), ()) with
 | none => none
 | some v2 =>
 match (!v2.1) with
 | true =>
  some (((0 : Int), ((0 : Int), (0 : Int), ((0 : Int), (0 : Int), (0 : Int), (0 : Int), (0 : Int), ()), [], ()), ()), (1 : Int), ())
 | false =>
  match s_l29Merge ((x.1.1, (x.1.2.1.1, x.1.2.1.2.1, (x.1.2.1.2.2.1.1, x.1.2.1.2.2.1.2.1, x.1.2.1.2.2.1.2.2.1, x.1.2.1.2.2.1.2.2.2.1, x.1.2.1.2.2.1.2.2.2.2.1, ()), x.1.2.1.2.2.2.1, ()), ()), (x.2.1.1, (x.2.1.2.1.1, x.2.1.2.1.2.1, (x.2.1.2.1.2.2.1.1, x.2.1.2.1.2.2.1.2.1, x.2.1.2.1.2.2.1.2.2.1, x.2.1.2.1.2.2.1.2.2.2.1, x.2.1.2.1.2.2.1.2.2.2.2.1, ()), x.2.1.2.1.2.2.2.1, ()), ()), ()) with
  | none => none
  | some v3 =>
  match s_l29Own (v3.1, ()) with
  | none => none
  | some v4 =>
  some ((v4.1.1, (v4.1.2.1.1, v4.1.2.1.2.1, (v4.1.2.1.2.2.1.1, v4.1.2.1.2.2.1.2.1, v4.1.2.1.2.2.1.2.2.1, v4.1.2.1.2.2.1.2.2.2.1, v4.1.2.1.2.2.1.2.2.2.2.1, ()), v4.1.2.1.2.2.2.1, ()), ()), (0 : Int), ())
noncomputable def S_s_MergeVerdicts : Spec := ⟨(.pair TVerdict (.pair TVerdict .unit)), (.pair (.pair (.int .i64) (.pair (.pair (.int .i64) (.pair (.int .i64) (.pair TState (.pair (.own 2 (.int .i64)) .unit)))) .unit)) (.pair (.int .i64) .unit)), .unit, rfl, s_MergeVerdicts⟩
noncomputable def σ_s_MergeVerdicts : FuncId → Option Spec := sig [(101, S_s_IsVerdict), (102, S_s_l29Own), (103, S_s_l29Merge)]
theorem σok_s_MergeVerdicts : ∀ f s, σ_s_MergeVerdicts f = some s → FnOK Try.prog f s := sig_ok (l := [(101, S_s_IsVerdict), (102, S_s_l29Own), (103, S_s_l29Merge)]) ⟨ok_s_IsVerdict, ok_s_l29Own, ok_s_l29Merge, trivial⟩
noncomputable def Λ_s_MergeVerdicts : Nat → Option LSpec := lkp (loopList (bodyOf Try.f45)) []
theorem ok_s_MergeVerdicts : FnOK Try.prog 45 S_s_MergeVerdicts := fn_ok (Λ := Λ_s_MergeVerdicts) tab0 σok_s_MergeVerdicts Try.func45 (by kernel_rfl) (show Try.f45.body = some (bodyOf Try.f45) by kernel_rfl) [] rfl (by kernel_rfl) (by exact trivial) (by kernel_rfl)
  fun x y h => (show execFn Γ0 E0 σ_s_MergeVerdicts Λ_s_MergeVerdicts Try.f45 S_s_MergeVerdicts x = s_MergeVerdicts x by kernel_rfl).trans h

noncomputable def l_likeFrames (x : Ty.T (.pair TFrame (.pair TFrame .unit))) : Option (Ty.T (.pair .bool .unit)) :=
match (x.1.1 == x.2.1.1) with
| true =>
 match (x.1.2.1 == x.2.1.2.1) with
 | true =>
  match (eqT TState (x.1.2.2.1.1, x.1.2.2.1.2.1, x.1.2.2.1.2.2.1, x.1.2.2.1.2.2.2.1, x.1.2.2.1.2.2.2.2.1, ()) (x.2.1.2.2.1.1, x.2.1.2.2.1.2.1, x.2.1.2.2.1.2.2.1, x.2.1.2.2.1.2.2.2.1, x.2.1.2.2.1.2.2.2.2.1, ())) with
  | true =>
   match l_likeInts (x.1.2.2.2.1, x.2.1.2.2.2.1, ()) with
   | none => none
   | some v1 =>
   some (v1.1, ())
  | false =>
   some (false, ())
 | false =>
  some (false, ())
| false =>
 some (false, ())
noncomputable def S_l_likeFrames : Spec := ⟨(.pair TFrame (.pair TFrame .unit)), (.pair .bool .unit), .unit, rfl, l_likeFrames⟩
noncomputable def σ_l_likeFrames : FuncId → Option Spec := sig [(38, S_l_likeInts)]
theorem σok_l_likeFrames : ∀ f s, σ_l_likeFrames f = some s → FnOK Try.prog f s := sig_ok (l := [(38, S_l_likeInts)]) ⟨ok_l_likeInts, trivial⟩
noncomputable def Λ_l_likeFrames : Nat → Option LSpec := lkp (loopList (bodyOf Try.f104)) []
theorem ok_l_likeFrames : FnOK Try.prog 104 S_l_likeFrames := fn_ok (Λ := Λ_l_likeFrames) tab0 σok_l_likeFrames Try.func104 (by kernel_rfl) (show Try.f104.body = some (bodyOf Try.f104) by kernel_rfl) [] rfl (by kernel_rfl) (by exact trivial) (by kernel_rfl)
  fun x y h => (show execFn Γ0 E0 σ_l_likeFrames Λ_l_likeFrames Try.f104 S_l_likeFrames x = l_likeFrames x by kernel_rfl).trans h

noncomputable def l_likeVerdicts (x : Ty.T (.pair TVerdict (.pair TVerdict .unit))) : Option (Ty.T (.pair .bool .unit)) :=
match (x.1.1 == x.2.1.1) with
| true =>
 match l_likeFrames ((x.1.2.1.1, x.1.2.1.2.1, (x.1.2.1.2.2.1.1, x.1.2.1.2.2.1.2.1, x.1.2.1.2.2.1.2.2.1, x.1.2.1.2.2.1.2.2.2.1, x.1.2.1.2.2.1.2.2.2.2.1, ()), x.1.2.1.2.2.2.1, ()), (x.2.1.2.1.1, x.2.1.2.1.2.1, (x.2.1.2.1.2.2.1.1, x.2.1.2.1.2.2.1.2.1, x.2.1.2.1.2.2.1.2.2.1, x.2.1.2.1.2.2.1.2.2.2.1, x.2.1.2.1.2.2.1.2.2.2.2.1, ()), x.2.1.2.1.2.2.2.1, ()), ()) with
 | none => none
 | some v1 =>
 some (v1.1, ())
| false =>
 some (false, ())
noncomputable def S_l_likeVerdicts : Spec := ⟨(.pair TVerdict (.pair TVerdict .unit)), (.pair .bool .unit), .unit, rfl, l_likeVerdicts⟩
noncomputable def σ_l_likeVerdicts : FuncId → Option Spec := sig [(104, S_l_likeFrames)]
theorem σok_l_likeVerdicts : ∀ f s, σ_l_likeVerdicts f = some s → FnOK Try.prog f s := sig_ok (l := [(104, S_l_likeFrames)]) ⟨ok_l_likeFrames, trivial⟩
noncomputable def Λ_l_likeVerdicts : Nat → Option LSpec := lkp (loopList (bodyOf Try.f46)) []
theorem ok_l_likeVerdicts : FnOK Try.prog 46 S_l_likeVerdicts := fn_ok (Λ := Λ_l_likeVerdicts) tab0 σok_l_likeVerdicts Try.func46 (by kernel_rfl) (show Try.f46.body = some (bodyOf Try.f46) by kernel_rfl) [] rfl (by kernel_rfl) (by exact trivial) (by kernel_rfl)
  fun x y h => (show execFn Γ0 E0 σ_l_likeVerdicts Λ_l_likeVerdicts Try.f46 S_l_likeVerdicts x = l_likeVerdicts x by kernel_rfl).trans h

noncomputable def l_FnMerged (x : Ty.T (.pair (.list (.int .u8)) .unit)) : Option (Ty.T (.pair .bool .unit)) :=
match l_big (x.1, ()) with
| none => none
| some v1 =>
match v1.1 with
| true =>
 some (true, ())
| false =>
 match s_DrawMergeVerdicts (x.1, ()) with
 | none => none
 | some v2 =>
 match i_MergeVerdicts ((v2.1.1, (v2.1.2.1.1, v2.1.2.1.2.1, (v2.1.2.1.2.2.1.1, v2.1.2.1.2.2.1.2.1, v2.1.2.1.2.2.1.2.2.1, v2.1.2.1.2.2.1.2.2.2.1, v2.1.2.1.2.2.1.2.2.2.2.1, ()), v2.1.2.1.2.2.2.1, ()), ()), (v2.2.1.1, (v2.2.1.2.1.1, v2.2.1.2.1.2.1, (v2.2.1.2.1.2.2.1.1, v2.2.1.2.1.2.2.1.2.1, v2.2.1.2.1.2.2.1.2.2.1, v2.2.1.2.1.2.2.1.2.2.2.1, v2.2.1.2.1.2.2.1.2.2.2.2.1, ()), v2.2.1.2.1.2.2.2.1, ()), ()), ()) with
 | none => none
 | some v3 =>
 match s_MergeVerdicts ((v2.1.1, (v2.1.2.1.1, v2.1.2.1.2.1, (v2.1.2.1.2.2.1.1, v2.1.2.1.2.2.1.2.1, v2.1.2.1.2.2.1.2.2.1, v2.1.2.1.2.2.1.2.2.2.1, v2.1.2.1.2.2.1.2.2.2.2.1, ()), v2.1.2.1.2.2.2.1, ()), ()), (v2.2.1.1, (v2.2.1.2.1.1, v2.2.1.2.1.2.1, (v2.2.1.2.1.2.2.1.1, v2.2.1.2.1.2.2.1.2.1, v2.2.1.2.1.2.2.1.2.2.1, v2.2.1.2.1.2.2.1.2.2.2.1, v2.2.1.2.1.2.2.1.2.2.2.2.1, ()), v2.2.1.2.1.2.2.2.1, ()), ()), ()) with
 | none => none
 | some v4 =>
 match (v3.2.1 != v4.2.1) with
 | true =>
  some (false, ())
 | false =>
  match l_likeVerdicts ((v3.1.1, (v3.1.2.1.1, v3.1.2.1.2.1, (v3.1.2.1.2.2.1.1, v3.1.2.1.2.2.1.2.1, v3.1.2.1.2.2.1.2.2.1, v3.1.2.1.2.2.1.2.2.2.1, v3.1.2.1.2.2.1.2.2.2.2.1, ()), v3.1.2.1.2.2.2.1, ()), ()), (v4.1.1, (v4.1.2.1.1, v4.1.2.1.2.1, (v4.1.2.1.2.2.1.1, v4.1.2.1.2.2.1.2.1, v4.1.2.1.2.2.1.2.2.1, v4.1.2.1.2.2.1.2.2.2.1, v4.1.2.1.2.2.1.2.2.2.2.1, ()), v4.1.2.1.2.2.2.1, ()), ()), ()) with
  | none => none
  | some v5 =>
  match (!v5.1) with
  | true =>
   some (false, ())
  | false =>
   match (v3.2.1 != (0 : Int)) with
   | true =>
    some (true, ())
   | false =>
    match i_MergeVerdicts ((v2.2.1.1, (v2.2.1.2.1.1, v2.2.1.2.1.2.1, (v2.2.1.2.1.2.2.1.1, v2.2.1.2.1.2.2.1.2.1, v2.2.1.2.1.2.2.1.2.2.1, v2.2.1.2.1.2.2.1.2.2.2.1, v2.2.1.2.1.2.2.1.2.2.2.2.1, ()), v2.2.1.2.1.2.2.2.1, ()), ()), (v2.1.1, (v2.1.2.1.1, v2.1.2.1.2.1, (v2.1.2.1.2.2.1.1, v2.1.2.1.2.2.1.2.1, v2.1.2.1.2.2.1.2.2.1, v2.1.2.1.2.2.1.2.2.2.1, v2.1.2.1.2.2.1.2.2.2.2.1, ()), v2.1.2.1.2.2.2.1, ()), ()), ()) with
    | none => none
    | some v6 =>
    match i_MergeVerdicts ((v2.1.1, (v2.1.2.1.1, v2.1.2.1.2.1, (v2.1.2.1.2.2.1.1, v2.1.2.1.2.2.1.2.1, v2.1.2.1.2.2.1.2.2.1, v2.1.2.1.2.2.1.2.2.2.1, v2.1.2.1.2.2.1.2.2.2.2.1, ()), v2.1.2.1.2.2.2.1, ()), ()), (v2.1.1, (v2.1.2.1.1, v2.1.2.1.2.1, (v2.1.2.1.2.2.1.1, v2.1.2.1.2.2.1.2.1, v2.1.2.1.2.2.1.2.2.1, v2.1.2.1.2.2.1.2.2.2.1, v2.1.2.1.2.2.1.2.2.2.2.1, ()), v2.1.2.1.2.2.2.1, ()), ()), ()) with
    | none => none
    | some v7 =>
    match i_MergeVerdicts ((v2.1.1, (v2.1.2.1.1, v2.1.2.1.2.1, (v2.1.2.1.2.2.1.1, v2.1.2.1.2.2.1.2.1, v2.1.2.1.2.2.1.2.2.1, v2.1.2.1.2.2.1.2.2.2.1, v2.1.2.1.2.2.1.2.2.2.2.1, ()), v2.1.2.1.2.2.2.1, ()), ()), ((0 : Int), ((0 : Int), (0 : Int), ((0 : Int), (0 : Int), (0 : Int), (0 : Int), (0 : Int), ()), [], ()), ()), ()) with
    | none => none
    | some v8 =>
    match (v6.2.1 == (0 : Int)) with
    | true =>
     match (v7.2.1 == (0 : Int)) with
     | true =>
      match (v8.2.1 == (0 : Int)) with
      | true =>
       match l_likeVerdicts ((v6.1.1, (v6.1.2.1.1, v6.1.2.1.2.1, (v6.1.2.1.2.2.1.1, v6.1.2.1.2.2.1.2.1, v6.1.2.1.2.2.1.2.2.1, v6.1.2.1.2.2.1.2.2.2.1, v6.1.2.1.2.2.1.2.2.2.2.1, ()), v6.1.2.1.2.2.2.1, ()), ()), (v3.1.1, (v3.1.2.1.1, v3.1.2.1.2.1, (v3.1.2.1.2.2.1.1, v3.1.2.1.2.2.1.2.1, v3.1.2.1.2.2.1.2.2.1, v3.1.2.1.2.2.1.2.2.2.1, v3.1.2.1.2.2.1.2.2.2.2.1, ()), v3.1.2.1.2.2.2.1, ()), ()), ()) with
       | none => none
       | some v9 =>
       match v9.1 with
       | true =>
        match l_likeVerdicts ((v7.1.1, (v7.1.2.1.1, v7.1.2.1.2.1, (v7.1.2.1.2.2.1.1, v7.1.2.1.2.2.1.2.1, v7.1.2.1.2.2.1.2.2.1, v7.1.2.1.2.2.1.2.2.2.1, v7.1.2.1.2.2.1.2.2.2.2.1, ()), v7.1.2.1.2.2.2.1, ()), ()), (v2.1.1, (v2.1.2.1.1, v2.1.2.1.2.1, (v2.1.2.1.2.2.1.1, v2.1.2.1.2.2.1.2.1, v2.1.2.1.2.2.1.2.2.1, v2.1.2.1.2.2.1.2.2.2.1, v2.1.2.1.2.2.1.2.2.2.2.1, ()), v2.1.2.1.2.2.2.1, ()), ()), ()) with
        | none => none
        | some v10 =>
        match v10.1 with
        | true =>
         match l_likeVerdicts ((v8.1.1, (v8.1.2.1.1, v8.1.2.1.2.1, (v8.1.2.1.2.2.1.1, v8.1.2.1.2.2.1.2.1, v8.1.2.1.2.2.1.2.2.1, v8.1.2.1.2.2.1.2.2.2.1, v8.1.2.1.2.2.1.2.2.2.2.1, ()), v8.1.2.1.2.2.2.1, ()), ()), (v2.1.1, (v2.1.2.1.1, v2.1.2.1.2.1, (v2.1.2.1.2.2.1.1, v2.1.2.1.2.2.1.2.1, v2.1.2.1.2.2.1.2.2.1, v2.1.2.1.2.2.1.2.2.2.1, v2.1.2.1.2.2.1.2.2.2.2.1, ()), v2.1.2.1.2.2.2.1, ()), ()), ()) with
         | none => none
         | some v11 =>
         match v11.1 with
         | true =>
          match i_IsVerdict ((v3.1.1, (v3.1.2.1.1, v3.1.2.1.2.1, (v3.1.2.1.2.2.1.1, v3.1.2.1.2.2.1.2.1, v3.1.2.1.2.2.1.2.2.1, v3.1.2.1.2.2.1.2.2.2.1, v3.1.2.1.2.2.1.2.2.2.2.1, ()), v3.1.2.1.2.2.2.1, ()), ()), ()) with
          | none => none
          | some v12 =>
          some (v12.1, ())
         | false =>
          some (false, ())
        | false =>
         some (false, ())
       | false =>
        some (false, ())
      | false =>
       some (false, ())
     | false =>
      some (false, ())
    | false =>
     some (false, ())
noncomputable def S_l_FnMerged : Spec := ⟨(.pair (.list (.int .u8)) .unit), (.pair .bool .unit), .unit, rfl, l_FnMerged⟩
noncomputable def σ_l_FnMerged : FuncId → Option Spec := sig [(26, S_l_big), (43, S_s_DrawMergeVerdicts), (44, S_i_MergeVerdicts), (45, S_s_MergeVerdicts), (46, S_l_likeVerdicts), (47, S_i_IsVerdict)]
theorem σok_l_FnMerged : ∀ f s, σ_l_FnMerged f = some s → FnOK Try.prog f s := sig_ok (l := [(26, S_l_big), (43, S_s_DrawMergeVerdicts), (44, S_i_MergeVerdicts), (45, S_s_MergeVerdicts), (46, S_l_likeVerdicts), (47, S_i_IsVerdict)]) ⟨ok_l_big, ok_s_DrawMergeVerdicts, ok_i_MergeVerdicts, ok_s_MergeVerdicts, ok_l_likeVerdicts, ok_i_IsVerdict, trivial⟩
noncomputable def Λ_l_FnMerged : Nat → Option LSpec := lkp (loopList (bodyOf Try.f8)) []
theorem ok_l_FnMerged : FnOK Try.prog 8 S_l_FnMerged := fn_ok (Λ := Λ_l_FnMerged) tab0 σok_l_FnMerged Try.func8 (by kernel_rfl) (show Try.f8.body = some (bodyOf Try.f8) by kernel_rfl) [] rfl (by kernel_rfl) (by exact trivial) (by kernel_rfl)
  fun x y h => (show execFn Γ0 E0 σ_l_FnMerged Λ_l_FnMerged Try.f8 S_l_FnMerged x = l_FnMerged x by kernel_rfl).trans h

noncomputable def l_szInt64S (x : Ty.T (.pair (.list (.int .i64)) (.pair (.int .i64) .unit))) : Option (Ty.T (.pair (.int .i64) .unit)) :=
match (decide ((IntKind.i64.wrap (x.2.1 - (x.1.length : Int))) < (0 : Int))) with
| true =>
 some ((-1 : Int), ())
| false =>
 some ((IntKind.i64.wrap (x.2.1 - (x.1.length : Int))), ())
noncomputable def S_l_szInt64S : Spec := ⟨(.pair (.list (.int .i64)) (.pair (.int .i64) .unit)), (.pair (.int .i64) .unit), .unit, rfl, l_szInt64S⟩
noncomputable def σ_l_szInt64S : FuncId → Option Spec := sig []
theorem σok_l_szInt64S : ∀ f s, σ_l_szInt64S f = some s → FnOK Try.prog f s := sig_ok (l := []) trivial
noncomputable def Λ_l_szInt64S : Nat → Option LSpec := lkp (loopList (bodyOf Try.f136)) []
theorem ok_l_szInt64S : FnOK Try.prog 136 S_l_szInt64S := fn_ok (Λ := Λ_l_szInt64S) tab0 σok_l_szInt64S Try.func136 (by kernel_rfl) (show Try.f136.body = some (bodyOf Try.f136) by kernel_rfl) [] rfl (by kernel_rfl) (by exact trivial) (by kernel_rfl)
  fun x y h => (show execFn Γ0 E0 σ_l_szInt64S Λ_l_szInt64S Try.f136 S_l_szInt64S x = l_szInt64S x by kernel_rfl).trans h

noncomputable def l_szFrame (x : Ty.T (.pair TFrame (.pair (.int .i64) .unit))) : Option (Ty.T (.pair (.int .i64) .unit)) :=
match l_szInt64S (x.1.2.2.2.1, x.2.1, ()) with
| none => none
| some v1 =>
match (decide (v1.1 < (0 : Int))) with
| true =>
 some ((-1 : Int), ())
| false =>
 some (v1.1, ())
noncomputable def S_l_szFrame : Spec := ⟨(.pair TFrame (.pair (.int .i64) .unit)), (.pair (.int .i64) .unit), .unit, rfl, l_szFrame⟩
noncomputable def σ_l_szFrame : FuncId → Option Spec := sig [(136, S_l_szInt64S)]
theorem σok_l_szFrame : ∀ f s, σ_l_szFrame f = some s → FnOK Try.prog f s := sig_ok (l := [(136, S_l_szInt64S)]) ⟨ok_l_szInt64S, trivial⟩
noncomputable def Λ_l_szFrame : Nat → Option LSpec := lkp (loopList (bodyOf Try.f107)) []
theorem ok_l_szFrame : FnOK Try.prog 107 S_l_szFrame := fn_ok (Λ := Λ_l_szFrame) tab0 σok_l_szFrame Try.func107 (by kernel_rfl) (show Try.f107.body = some (bodyOf Try.f107) by kernel_rfl) [] rfl (by kernel_rfl) (by exact trivial) (by kernel_rfl)
  fun x y h => (show execFn Γ0 E0 σ_l_szFrame Λ_l_szFrame Try.f107 S_l_szFrame x = l_szFrame x by kernel_rfl).trans h

noncomputable def l_szVerdict (x : Ty.T (.pair TVerdict (.pair (.int .i64) .unit))) : Option (Ty.T (.pair (.int .i64) .unit)) :=
match l_szFrame ((x.1.2.1.1, x.1.2.1.2.1, (x.1.2.1.2.2.1.1, x.1.2.1.2.2.1.2.1, x.1.2.1.2.2.1.2.2.1, x.1.2.1.2.2.1.2.2.2.1, x.1.2.1.2.2.1.2.2.2.2.1, ()), x.1.2.1.2.2.2.1, ()), x.2.1, ()) with
| none => none
| some v1 =>
match (decide (v1.1 < (0 : Int))) with
| true =>
 some ((-1 : Int), ())
| false =>
 some (v1.1, ())
noncomputable def S_l_szVerdict : Spec := ⟨(.pair TVerdict (.pair (.int .i64) .unit)), (.pair (.int .i64) .unit), .unit, rfl, l_szVerdict⟩
noncomputable def σ_l_szVerdict : FuncId → Option Spec := sig [(107, S_l_szFrame)]
theorem σok_l_szVerdict : ∀ f s, σ_l_szVerdict f = some s → FnOK Try.prog f s := sig_ok (l := [(107, S_l_szFrame)]) ⟨ok_l_szFrame, trivial⟩
noncomputable def Λ_l_szVerdict : Nat → Option LSpec := lkp (loopList (bodyOf Try.f48)) []
theorem ok_l_szVerdict : FnOK Try.prog 48 S_l_szVerdict := fn_ok (Λ := Λ_l_szVerdict) tab0 σok_l_szVerdict Try.func48 (by kernel_rfl) (show Try.f48.body = some (bodyOf Try.f48) by kernel_rfl) [] rfl (by kernel_rfl) (by exact trivial) (by kernel_rfl)
  fun x y h => (show execFn Γ0 E0 σ_l_szVerdict Λ_l_szVerdict Try.f48 S_l_szVerdict x = l_szVerdict x by kernel_rfl).trans h

noncomputable def b_l_toInt64S_3 (x : (Ty.T (.pair (.list (.int .i64)) (.pair (.own 2 (.int .i64)) (.pair (.int .i64) .unit))))) : Option ((Ty.T (.pair (.list (.int .i64)) (.pair (.own 2 (.int .i64)) (.pair (.int .i64) .unit)))) ⊕ ((Ty.T (.pair (.own 2 (.int .i64)) .unit)) ⊕ (Ty.T .unit))) :=
match (decide (x.2.2.1 < (x.1.length : Int))) with
| true =>
 onSome (idx x.1 x.2.2.1) fun v1 =>
 onSome (idx x.2.1 x.2.2.1) fun _ =>
 match x.2.1[x.2.2.1.toNat]? with
 | none => none
 | some v3 =>
 some (.inl (x.1, (x.2.1.set x.2.2.1.toNat v1), (IntKind.i64.wrap (x.2.2.1 + (1 : Int))), ()))
| false =>
 some (.inr (.inl (x.2.1, ())))
noncomputable def l_toInt64S (x : Ty.T (.pair (.list (.int .i64)) .unit)) : Option (Ty.T (.pair (.own 2 (.int .i64)) .unit)) :=
if 0 ≤ (x.1.length : Int) ∧ (x.1.length : Int) ≤ (x.1.length : Int) then
 room ((x.1.length : Int).toNat) (
  match loopL b_l_toInt64S_3 (x.1, (List.replicate (x.1.length : Int).toNat (0 : Int)), (0 : Int), ()) with
  | none => none
  | some (.inl v4) =>
   some (v4.1, ())
  | some (.inr v6) =>
   none)
else none
noncomputable def S_l_toInt64S : Spec := ⟨(.pair (.list (.int .i64)) .unit), (.pair (.own 2 (.int .i64)) .unit), .unit, rfl, l_toInt64S⟩
noncomputable def σ_l_toInt64S : FuncId → Option Spec := sig []
theorem σok_l_toInt64S : ∀ f s, σ_l_toInt64S f = some s → FnOK Try.prog f s := sig_ok (l := []) trivial
noncomputable def Λ_l_toInt64S : Nat → Option LSpec := lkp (loopList (bodyOf Try.f71)) [⟨[0, 3, 4], (.pair (.list (.int .i64)) (.pair (.own 2 (.int .i64)) (.pair (.int .i64) .unit))), 0, [3], (.pair (.own 2 (.int .i64)) .unit), [], .unit, loopL b_l_toInt64S_3⟩]
theorem lok_l_toInt64S_3 (x) : codeK Γ0 E0 σ_l_toInt64S Λ_l_toInt64S Try.f71.ntmps (nthLoop Try.f71 0) (mkF Try.f71.ntmps [0, 3, 4] (.pair (.list (.int .i64)) (.pair (.own 2 (.int .i64)) (.pair (.int .i64) .unit))) x) (readK σ_l_toInt64S Try.f71.ntmps [0, 3, 4] (.pair (.list (.int .i64)) (.pair (.own 2 (.int .i64)) (.pair (.int .i64) .unit))) 0 [3] (.pair (.own 2 (.int .i64)) .unit) [] .unit) = b_l_toInt64S_3 x := by kernel_rfl
theorem ok_l_toInt64S : FnOK Try.prog 71 S_l_toInt64S := fn_ok (Λ := Λ_l_toInt64S) tab0 σok_l_toInt64S Try.func71 (by kernel_rfl) (show Try.f71.body = some (bodyOf Try.f71) by kernel_rfl) [⟨[0, 3, 4], (.pair (.list (.int .i64)) (.pair (.own 2 (.int .i64)) (.pair (.int .i64) .unit))), 0, [3], (.pair (.own 2 (.int .i64)) .unit), [], .unit, loopL b_l_toInt64S_3⟩] rfl (by kernel_rfl) (by exact ⟨loop_LOK (lok_l_toInt64S_3), trivial⟩) (by kernel_rfl)
  fun x y h => (show execFn Γ0 E0 σ_l_toInt64S Λ_l_toInt64S Try.f71 S_l_toInt64S x = l_toInt64S x by kernel_rfl).trans h

noncomputable def l_toState (x : Ty.T (.pair TState .unit)) : Option (Ty.T (.pair TState .unit)) :=
some ((x.1.1, x.1.2.1, x.1.2.2.1, x.1.2.2.2.1, x.1.2.2.2.2.1, ()), ())
noncomputable def S_l_toState : Spec := ⟨(.pair TState .unit), (.pair TState .unit), .unit, rfl, l_toState⟩
noncomputable def σ_l_toState : FuncId → Option Spec := sig []
theorem σok_l_toState : ∀ f s, σ_l_toState f = some s → FnOK Try.prog f s := sig_ok (l := []) trivial
noncomputable def Λ_l_toState : Nat → Option LSpec := lkp (loopList (bodyOf Try.f137)) []
theorem ok_l_toState : FnOK Try.prog 137 S_l_toState := fn_ok (Λ := Λ_l_toState) tab0 σok_l_toState Try.func137 (by kernel_rfl) (show Try.f137.body = some (bodyOf Try.f137) by kernel_rfl) [] rfl (by kernel_rfl) (by exact trivial) (by kernel_rfl)
  fun x y h => (show execFn Γ0 E0 σ_l_toState Λ_l_toState Try.f137 S_l_toState x = l_toState x by kernel_rfl).trans h

noncomputable def l_toFrame (x : Ty.T (.pair TFrame .unit)) : Option (Ty.T (.pair (.pair (.int .i64) (.pair (.int .i64) (.pair TState (.pair (.own 2 (.int .i64)) .unit)))) .unit)) :=
match l_toState ((x.1.2.2.1.1, x.1.2.2.1.2.1, x.1.2.2.1.2.2.1, x.1.2.2.1.2.2.2.1, x.1.2.2.1.2.2.2.2.1, ()), ()) with
| none => none
| some v1 =>
match l_toInt64S (x.1.2.2.2.1, ()) with
| none => none
| some v2 =>
some ((x.1.1, x.1.2.1, (v1.1.1, v1.1.2.1, v1.1.2.2.1, v1.1.2.2.2.1, v1.1.2.2.2.2.1, ()), v2.1, ()), ())
noncomputable def S_l_toFrame : Spec := ⟨(.pair TFrame .unit), (.pair (.pair (.int .i64) (.pair (.int .i64) (.pair TState (.pair (.own 2 (.int .i64)) .unit)))) .unit), .unit, rfl, l_toFrame⟩
noncomputable def σ_l_toFrame : FuncId → Option Spec := sig [(71, S_l_toInt64S), (137, S_l_toState)]
theorem σok_l_toFrame : ∀ f s, σ_l_toFrame f = some s → FnOK Try.prog f s := sig_ok (l := [(71, S_l_toInt64S), (137, S_l_toState)]) ⟨ok_l_toInt64S, ok_l_toState, trivial⟩
noncomputable def Λ_l_toFrame : Nat → Option LSpec := lkp (loopList (bodyOf Try.f108)) []
theorem ok_l_toFrame : FnOK Try.prog 108 S_l_toFrame := fn_ok (Λ := Λ_l_toFrame) tab0 σok_l_toFrame Try.func108 (by kernel_rfl) (show Try.f108.body = some (bodyOf Try.f108) by kernel_rfl) [] rfl (by kernel_rfl) (by exact trivial) (by kernel_rfl)
  fun x y h => (show execFn Γ0 E0 σ_l_toFrame Λ_l_toFrame Try.f108 S_l_toFrame x = l_toFrame x by kernel_rfl).trans h

noncomputable def l_toVerdict (x : Ty.T (.pair TVerdict .unit)) : Option (Ty.T (.pair (.pair (.int .i64) (.pair (.pair (.int .i64) (.pair (.int .i64) (.pair TState (.pair (.own 2 (.int .i64)) .unit)))) .unit)) .unit)) :=
match l_toFrame ((x.1.2.1.1, x.1.2.1.2.1, (x.1.2.1.2.2.1.1, x.1.2.1.2.2.1.2.1, x.1.2.1.2.2.1.2.2.1, x.1.2.1.2.2.1.2.2.2.1, x.1.2.1.2.2.1.2.2.2.2.1, ()), x.1.2.1.2.2.2.1, ()), ()) with
| none => none
| some v1 =>
some ((x.1.1, (v1.1.1, v1.1.2.1, (v1.1.2.2.1.1, v1.1.2.2.1.2.1, v1.1.2.2.1.2.2.1, v1.1.2.2.1.2.2.2.1, v1.1.2.2.1.2.2.2.2.1, ()), v1.1.2.2.2.1, ()), ()), ())
noncomputable def S_l_toVerdict : Spec := ⟨(.pair TVerdict .unit), (.pair (.pair (.int .i64) (.pair (.pair (.int .i64) (.pair (.int .i64) (.pair TState (.pair (.own 2 (.int .i64)) .unit)))) .unit)) .unit), .unit, rfl, l_toVerdict⟩
noncomputable def σ_l_toVerdict : FuncId → Option Spec := sig [(108, S_l_toFrame)]
theorem σok_l_toVerdict : ∀ f s, σ_l_toVerdict f = some s → FnOK Try.prog f s := sig_ok (l := [(108, S_l_toFrame)]) ⟨ok_l_toFrame, trivial⟩
noncomputable def Λ_l_toVerdict : Nat → Option LSpec := lkp (loopList (bodyOf Try.f49)) []
theorem ok_l_toVerdict : FnOK Try.prog 49 S_l_toVerdict := fn_ok (Λ := Λ_l_toVerdict) tab0 σok_l_toVerdict Try.func49 (by kernel_rfl) (show Try.f49.body = some (bodyOf Try.f49) by kernel_rfl) [] rfl (by kernel_rfl) (by exact trivial) (by kernel_rfl)
  fun x y h => (show execFn Γ0 E0 σ_l_toVerdict Λ_l_toVerdict Try.f49 S_l_toVerdict x = l_toVerdict x by kernel_rfl).trans h

noncomputable def b_l_eqInt64S_4 (x : (Ty.T (.pair (.list (.int .i64)) (.pair (.list (.int .i64)) (.pair (.int .i64) .unit))))) : Option ((Ty.T (.pair (.list (.int .i64)) (.pair (.list (.int .i64)) (.pair (.int .i64) .unit)))) ⊕ ((Ty.T .unit) ⊕ (Ty.T (.pair .bool .unit)))) :=
match (decide (x.2.2.1 < (x.1.length : Int))) with
| true =>
 onSome (idx x.1 x.2.2.1) fun v1 =>
 onSome (idx x.2.1 x.2.2.1) fun v2 =>
 match (v1 != v2) with
 | true =>
  some (.inr (.inr (false, ())))
 | false =>
  some (.inl (x.1, x.2.1, (IntKind.i64.wrap (x.2.2.1 + (1 : Int))), ()))
| false =>
 some (.inr (.inl (())))
noncomputable def l_eqInt64S (x : Ty.T (.pair (.list (.int .i64)) (.pair (.list (.int .i64)) .unit))) : Option (Ty.T (.pair .bool .unit)) :=
match ((x.1.length : Int) != (x.2.1.length : Int)) with
| true =>
 some (false, ())
| false =>
 match loopL b_l_eqInt64S_4 (x.1, x.2.1, (0 : Int), ()) with
 | none => none
 | some (.inl v3) =>
  some (true, ())
 | some (.inr v4) =>
  some (v4.1, ())
noncomputable def S_l_eqInt64S : Spec := ⟨(.pair (.list (.int .i64)) (.pair (.list (.int .i64)) .unit)), (.pair .bool .unit), .unit, rfl, l_eqInt64S⟩
noncomputable def σ_l_eqInt64S : FuncId → Option Spec := sig []
theorem σok_l_eqInt64S : ∀ f s, σ_l_eqInt64S f = some s → FnOK Try.prog f s := sig_ok (l := []) trivial
noncomputable def Λ_l_eqInt64S : Nat → Option LSpec := lkp (loopList (bodyOf Try.f57)) [⟨[0, 1, 5], (.pair (.list (.int .i64)) (.pair (.list (.int .i64)) (.pair (.int .i64) .unit))), 0, [], .unit, [4], (.pair .bool .unit), loopL b_l_eqInt64S_4⟩]
theorem lok_l_eqInt64S_4 (x) : codeK Γ0 E0 σ_l_eqInt64S Λ_l_eqInt64S Try.f57.ntmps (nthLoop Try.f57 0) (mkF Try.f57.ntmps [0, 1, 5] (.pair (.list (.int .i64)) (.pair (.list (.int .i64)) (.pair (.int .i64) .unit))) x) (readK σ_l_eqInt64S Try.f57.ntmps [0, 1, 5] (.pair (.list (.int .i64)) (.pair (.list (.int .i64)) (.pair (.int .i64) .unit))) 0 [] .unit [4] (.pair .bool .unit)) = b_l_eqInt64S_4 x := by kernel_rfl
theorem ok_l_eqInt64S : FnOK Try.prog 57 S_l_eqInt64S := fn_ok (Λ := Λ_l_eqInt64S) tab0 σok_l_eqInt64S Try.func57 (by kernel_rfl) (show Try.f57.body = some (bodyOf Try.f57) by kernel_rfl) [⟨[0, 1, 5], (.pair (.list (.int .i64)) (.pair (.list (.int .i64)) (.pair (.int .i64) .unit))), 0, [], .unit, [4], (.pair .bool .unit), loopL b_l_eqInt64S_4⟩] rfl (by kernel_rfl) (by exact ⟨loop_LOK (lok_l_eqInt64S_4), trivial⟩) (by kernel_rfl)
  fun x y h => (show execFn Γ0 E0 σ_l_eqInt64S Λ_l_eqInt64S Try.f57 S_l_eqInt64S x = l_eqInt64S x by kernel_rfl).trans h

noncomputable def l_eqState (x : Ty.T (.pair TState (.pair TState .unit))) : Option (Ty.T (.pair .bool .unit)) :=
match (x.1.1 != x.2.1.1) with
| true =>
 some (false, ())
| false =>
 match (x.1.2.1 != x.2.1.2.1) with
 | true =>
  some (false, ())
 | false =>
  match (x.1.2.2.1 != x.2.1.2.2.1) with
  | true =>
   some (false, ())
  | false =>
   match (x.1.2.2.2.1 != x.2.1.2.2.2.1) with
   | true =>
    some (false, ())
   | false =>
    match (x.1.2.2.2.2.1 != x.2.1.2.2.2.2.1) with
    | true =>
     some (false, ())
    | false =>
     some (true, ())
noncomputable def S_l_eqState : Spec := ⟨(.pair TState (.pair TState .unit)), (.pair .bool .unit), .unit, rfl, l_eqState⟩
noncomputable def σ_l_eqState : FuncId → Option Spec := sig []
theorem σok_l_eqState : ∀ f s, σ_l_eqState f = some s → FnOK Try.prog f s := sig_ok (l := []) trivial
noncomputable def Λ_l_eqState : Nat → Option LSpec := lkp (loopList (bodyOf Try.f138)) []
theorem ok_l_eqState : FnOK Try.prog 138 S_l_eqState := fn_ok (Λ := Λ_l_eqState) tab0 σok_l_eqState Try.func138 (by kernel_rfl) (show Try.f138.body = some (bodyOf Try.f138) by kernel_rfl) [] rfl (by kernel_rfl) (by exact trivial) (by kernel_rfl)
  fun x y h => (show execFn Γ0 E0 σ_l_eqState Λ_l_eqState Try.f138 S_l_eqState x = l_eqState x by kernel_rfl).trans h

noncomputable def l_eqFrame (x : Ty.T (.pair TFrame (.pair TFrame .unit))) : Option (Ty.T (.pair .bool .unit)) :=
match (x.1.1 != x.2.1.1) with
| true =>
 some (false, ())
| false =>
 match (x.1.2.1 != x.2.1.2.1) with
 | true =>
  some (false, ())
 | false =>
  match l_eqState ((x.1.2.2.1.1, x.1.2.2.1.2.1, x.1.2.2.1.2.2.1, x.1.2.2.1.2.2.2.1, x.1.2.2.1.2.2.2.2.1, ()), (x.2.1.2.2.1.1, x.2.1.2.2.1.2.1, x.2.1.2.2.1.2.2.1, x.2.1.2.2.1.2.2.2.1, x.2.1.2.2.1.2.2.2.2.1, ()), ()) with
  | none => none
  | some v1 =>
  match (!v1.1) with
  | true =>
   some (false, ())
  | false =>
   match l_eqInt64S (x.1.2.2.2.1, x.2.1.2.2.2.1, ()) with
   | none => none
   | some v2 =>
   match (!v2.1) with
   | true =>
    some (false, ())
   | false =>
    some (true, ())
noncomputable def S_l_eqFrame : Spec := ⟨(.pair TFrame (.pair TFrame .unit)), (.pair .bool .unit), .unit, rfl, l_eqFrame⟩
noncomputable def σ_l_eqFrame : FuncId → Option Spec := sig [(57, S_l_eqInt64S), (138, S_l_eqState)]
theorem σok_l_eqFrame : ∀ f s, σ_l_eqFrame f = some s → FnOK Try.prog f s := sig_ok (l := [(57, S_l_eqInt64S), (138, S_l_eqState)]) ⟨ok_l_eqInt64S, ok_l_eqState, trivial⟩
noncomputable def Λ_l_eqFrame : Nat → Option LSpec := lkp (loopList (bodyOf Try.f109)) []
theorem ok_l_eqFrame : FnOK Try.prog 109 S_l_eqFrame := fn_ok (Λ := Λ_l_eqFrame) tab0 σok_l_eqFrame Try.func109 (by kernel_rfl) (show Try.f109.body = some (bodyOf Try.f109) by kernel_rfl) [] rfl (by kernel_rfl) (by exact trivial) (by kernel_rfl)
  fun x y h => (show execFn Γ0 E0 σ_l_eqFrame Λ_l_eqFrame Try.f109 S_l_eqFrame x = l_eqFrame x by kernel_rfl).trans h

noncomputable def l_eqVerdict (x : Ty.T (.pair TVerdict (.pair TVerdict .unit))) : Option (Ty.T (.pair .bool .unit)) :=
match (x.1.1 != x.2.1.1) with
| true =>
 some (false, ())
| false =>
 match l_eqFrame ((x.1.2.1.1, x.1.2.1.2.1, (x.1.2.1.2.2.1.1, x.1.2.1.2.2.1.2.1, x.1.2.1.2.2.1.2.2.1, x.1.2.1.2.2.1.2.2.2.1, x.1.2.1.2.2.1.2.2.2.2.1, ()), x.1.2.1.2.2.2.1, ()), (x.2.1.2.1.1, x.2.1.2.1.2.1, (x.2.1.2.1.2.2.1.1, x.2.1.2.1.2.2.1.2.1, x.2.1.2.1.2.2.1.2.2.1, x.2.1.2.1.2.2.1.2.2.2.1, x.2.1.2.1.2.2.1.2.2.2.2.1, ()), x.2.1.2.1.2.2.2.1, ()), ()) with
 | none => none
 | some v1 =>
 match (!v1.1) with
 | true =>
  some (false, ())
 | false =>
  some (true, ())
noncomputable def S_l_eqVerdict : Spec := ⟨(.pair TVerdict (.pair TVerdict .unit)), (.pair .bool .unit), .unit, rfl, l_eqVerdict⟩
noncomputable def σ_l_eqVerdict : FuncId → Option Spec := sig [(109, S_l_eqFrame)]
theorem σok_l_eqVerdict : ∀ f s, σ_l_eqVerdict f = some s → FnOK Try.prog f s := sig_ok (l := [(109, S_l_eqFrame)]) ⟨ok_l_eqFrame, trivial⟩
noncomputable def Λ_l_eqVerdict : Nat → Option LSpec := lkp (loopList (bodyOf Try.f50)) []
theorem ok_l_eqVerdict : FnOK Try.prog 50 S_l_eqVerdict := fn_ok (Λ := Λ_l_eqVerdict) tab0 σok_l_eqVerdict Try.func50 (by kernel_rfl) (show Try.f50.body = some (bodyOf Try.f50) by kernel_rfl) [] rfl (by kernel_rfl) (by exact trivial) (by kernel_rfl)
  fun x y h => (show execFn Γ0 E0 σ_l_eqVerdict Λ_l_eqVerdict Try.f50 S_l_eqVerdict x = l_eqVerdict x by kernel_rfl).trans h

noncomputable def b_l_markInt64S_2 (x : (Ty.T (.pair (.own 2 (.int .i64)) (.pair (.int .i64) (.pair (.int .i64) .unit))))) : Option ((Ty.T (.pair (.own 2 (.int .i64)) (.pair (.int .i64) (.pair (.int .i64) .unit)))) ⊕ ((Ty.T (.pair (.own 2 (.int .i64)) (.pair (.int .i64) .unit))) ⊕ (Ty.T .unit))) :=
match (decide (x.2.2.1 < (x.1.length : Int))) with
| true =>
 onSome (idx x.1 x.2.2.1) fun _ =>
 match x.1[x.2.2.1.toNat]? with
 | none => none
 | some v2 =>
 some (.inl ((x.1.set x.2.2.1.toNat x.2.1), (IntKind.i64.wrap (x.2.1 + (1 : Int))), (IntKind.i64.wrap (x.2.2.1 + (1 : Int))), ()))
| false =>
 some (.inr (.inl (x.1, x.2.1, ())))
noncomputable def l_markInt64S (x : Ty.T (.pair (.own 2 (.int .i64)) (.pair (.int .i64) .unit))) : Option (Ty.T (.pair (.int .i64) (.pair (.own 2 (.int .i64)) .unit))) :=
match loopL b_l_markInt64S_2 (x.1, x.2.1, (0 : Int), ()) with
| none => none
| some (.inl v3) =>
 some (v3.2.1, v3.1, ())
| some (.inr v5) =>
 none
noncomputable def S_l_markInt64S : Spec := ⟨(.pair (.own 2 (.int .i64)) (.pair (.int .i64) .unit)), (.pair (.int .i64) .unit), (.pair (.own 2 (.int .i64)) .unit), rfl, l_markInt64S⟩
noncomputable def σ_l_markInt64S : FuncId → Option Spec := sig []
theorem σok_l_markInt64S : ∀ f s, σ_l_markInt64S f = some s → FnOK Try.prog f s := sig_ok (l := []) trivial
noncomputable def Λ_l_markInt64S : Nat → Option LSpec := lkp (loopList (bodyOf Try.f60)) [⟨[0, 1, 5], (.pair (.own 2 (.int .i64)) (.pair (.int .i64) (.pair (.int .i64) .unit))), 0, [0, 1], (.pair (.own 2 (.int .i64)) (.pair (.int .i64) .unit)), [], .unit, loopL b_l_markInt64S_2⟩]
theorem lok_l_markInt64S_2 (x) : codeK Γ0 E0 σ_l_markInt64S Λ_l_markInt64S Try.f60.ntmps (nthLoop Try.f60 0) (mkF Try.f60.ntmps [0, 1, 5] (.pair (.own 2 (.int .i64)) (.pair (.int .i64) (.pair (.int .i64) .unit))) x) (readK σ_l_markInt64S Try.f60.ntmps [0, 1, 5] (.pair (.own 2 (.int .i64)) (.pair (.int .i64) (.pair (.int .i64) .unit))) 0 [0, 1] (.pair (.own 2 (.int .i64)) (.pair (.int .i64) .unit)) [] .unit) = b_l_markInt64S_2 x := by kernel_rfl
theorem ok_l_markInt64S : FnOK Try.prog 60 S_l_markInt64S := fn_ok (Λ := Λ_l_markInt64S) tab0 σok_l_markInt64S Try.func60 (by kernel_rfl) (show Try.f60.body = some (bodyOf Try.f60) by kernel_rfl) [⟨[0, 1, 5], (.pair (.own 2 (.int .i64)) (.pair (.int .i64) (.pair (.int .i64) .unit))), 0, [0, 1], (.pair (.own 2 (.int .i64)) (.pair (.int .i64) .unit)), [], .unit, loopL b_l_markInt64S_2⟩] rfl (by kernel_rfl) (by exact ⟨loop_LOK (lok_l_markInt64S_2), trivial⟩) (by kernel_rfl)
  fun x y h => (show execFn Γ0 E0 σ_l_markInt64S Λ_l_markInt64S Try.f60 S_l_markInt64S x = l_markInt64S x by kernel_rfl).trans h

noncomputable def l_markFrame (x : Ty.T (.pair (.pair (.int .i64) (.pair (.int .i64) (.pair TState (.pair (.own 2 (.int .i64)) .unit)))) (.pair (.int .i64) .unit))) : Option (Ty.T (.pair (.int .i64) (.pair (.pair (.int .i64) (.pair (.int .i64) (.pair TState (.pair (.own 2 (.int .i64)) .unit)))) .unit))) :=
match l_markInt64S (x.1.2.2.2.1, x.2.1, ()) with
| none => none
| some v1 =>
some (v1.1, (x.1.1, x.1.2.1, (x.1.2.2.1.1, x.1.2.2.1.2.1, x.1.2.2.1.2.2.1, x.1.2.2.1.2.2.2.1, x.1.2.2.1.2.2.2.2.1, ()), v1.2.1, ()), ())
noncomputable def S_l_markFrame : Spec := ⟨(.pair (.pair (.int .i64) (.pair (.int .i64) (.pair TState (.pair (.own 2 (.int .i64)) .unit)))) (.pair (.int .i64) .unit)), (.pair (.int .i64) .unit), (.pair (.pair (.int .i64) (.pair (.int .i64) (.pair TState (.pair (.own 2 (.int .i64)) .unit)))) .unit), rfl, l_markFrame⟩
noncomputable def σ_l_markFrame : FuncId → Option Spec := sig [(60, S_l_markInt64S)]
theorem σok_l_markFrame : ∀ f s, σ_l_markFrame f = some s → FnOK Try.prog f s := sig_ok (l := [(60, S_l_markInt64S)]) ⟨ok_l_markInt64S, trivial⟩
noncomputable def Λ_l_markFrame : Nat → Option LSpec := lkp (loopList (bodyOf Try.f110)) []
theorem ok_l_markFrame : FnOK Try.prog 110 S_l_markFrame := fn_ok (Λ := Λ_l_markFrame) tab0 σok_l_markFrame Try.func110 (by kernel_rfl) (show Try.f110.body = some (bodyOf Try.f110) by kernel_rfl) [] rfl (by kernel_rfl) (by exact trivial) (by kernel_rfl)
  fun x y h => (show execFn Γ0 E0 σ_l_markFrame Λ_l_markFrame Try.f110 S_l_markFrame x = l_markFrame x by kernel_rfl).trans h

noncomputable def l_markVerdict (x : Ty.T (.pair (.pair (.int .i64) (.pair (.pair (.int .i64) (.pair (.int .i64) (.pair TState (.pair (.own 2 (.int .i64)) .unit)))) .unit)) (.pair (.int .i64) .unit))) : Option (Ty.T (.pair (.int .i64) (.pair (.pair (.int .i64) (.pair (.pair (.int .i64) (.pair (.int .i64) (.pair TState (.pair (.own 2 (.int .i64)) .unit)))) .unit)) .unit))) :=
match l_markFrame ((x.1.2.1.1, x.1.2.1.2.1, (x.1.2.1.2.2.1.1, x.1.2.1.2.2.1.2.1, x.1.2.1.2.2.1.2.2.1, x.1.2.1.2.2.1.2.2.2.1, x.1.2.1.2.2.1.2.2.2.2.1, ()), x.1.2.1.2.2.2.1, ()), x.2.1, ()) with
| none => none
| some v1 =>
some (v1.1, (x.1.1, (x.1.2.1.1, x.1.2.1.2.1, (x.1.2.1.2.2.1.1, x.1.2.1.2.2.1.2.1, x.1.2.1.2.2.1.2.2.1, x.1.2.1.2.2.1.2.2.2.1, x.1.2.1.2.2.1.2.2.2.2.1, ()), v1.2.1.2.2.2.1, ()), ()), ())
noncomputable def S_l_markVerdict : Spec := ⟨(.pair (.pair (.int .i64) (.pair (.pair (.int .i64) (.pair (.int .i64) (.pair TState (.pair (.own 2 (.int .i64)) .unit)))) .unit)) (.pair (.int .i64) .unit)), (.pair (.int .i64) .unit), (.pair (.pair (.int .i64) (.pair (.pair (.int .i64) (.pair (.int .i64) (.pair TState (.pair (.own 2 (.int .i64)) .unit)))) .unit)) .unit), rfl, l_markVerdict⟩
noncomputable def σ_l_markVerdict : FuncId → Option Spec := sig [(110, S_l_markFrame)]
theorem σok_l_markVerdict : ∀ f s, σ_l_markVerdict f = some s → FnOK Try.prog f s := sig_ok (l := [(110, S_l_markFrame)]) ⟨ok_l_markFrame, trivial⟩
noncomputable def Λ_l_markVerdict : Nat → Option LSpec := lkp (loopList (bodyOf Try.f51)) []
theorem ok_l_markVerdict : FnOK Try.prog 51 S_l_markVerdict := fn_ok (Λ := Λ_l_markVerdict) tab0 σok_l_markVerdict Try.func51 (by kernel_rfl) (show Try.f51.body = some (bodyOf Try.f51) by kernel_rfl) [] rfl (by kernel_rfl) (by exact trivial) (by kernel_rfl)
  fun x y h => (show execFn Γ0 E0 σ_l_markVerdict Λ_l_markVerdict Try.f51 S_l_markVerdict x = l_markVerdict x by kernel_rfl).trans h

noncomputable def b_l_heldInt64S_2 (x : (Ty.T (.pair (.list (.int .i64)) (.pair (.int .i64) (.pair (.int .i64) .unit))))) : Option ((Ty.T (.pair (.list (.int .i64)) (.pair (.int .i64) (.pair (.int .i64) .unit)))) ⊕ ((Ty.T (.pair (.int .i64) .unit)) ⊕ (Ty.T (.pair (.int .i64) .unit)))) :=
match (decide (x.2.2.1 < (x.1.length : Int))) with
| true =>
 onSome (idx x.1 x.2.2.1) fun v1 =>
 match (v1 != x.2.1) with
 | true =>
  some (.inr (.inr ((-1 : Int), ())))
 | false =>
  some (.inl (x.1, (IntKind.i64.wrap (x.2.1 + (1 : Int))), (IntKind.i64.wrap (x.2.2.1 + (1 : Int))), ()))
| false =>
 some (.inr (.inl (x.2.1, ())))
noncomputable def l_heldInt64S (x : Ty.T (.pair (.list (.int .i64)) (.pair (.int .i64) .unit))) : Option (Ty.T (.pair (.int .i64) .unit)) :=
match loopL b_l_heldInt64S_2 (x.1, x.2.1, (0 : Int), ()) with
| none => none
| some (.inl v2) =>
 some (v2.1, ())
| some (.inr v3) =>
 some (v3.1, ())
noncomputable def S_l_heldInt64S : Spec := ⟨(.pair (.list (.int .i64)) (.pair (.int .i64) .unit)), (.pair (.int .i64) .unit), .unit, rfl, l_heldInt64S⟩
noncomputable def σ_l_heldInt64S : FuncId → Option Spec := sig []
theorem σok_l_heldInt64S : ∀ f s, σ_l_heldInt64S f = some s → FnOK Try.prog f s := sig_ok (l := []) trivial
noncomputable def Λ_l_heldInt64S : Nat → Option LSpec := lkp (loopList (bodyOf Try.f61)) [⟨[0, 1, 5], (.pair (.list (.int .i64)) (.pair (.int .i64) (.pair (.int .i64) .unit))), 0, [1], (.pair (.int .i64) .unit), [4], (.pair (.int .i64) .unit), loopL b_l_heldInt64S_2⟩]
theorem lok_l_heldInt64S_2 (x) : codeK Γ0 E0 σ_l_heldInt64S Λ_l_heldInt64S Try.f61.ntmps (nthLoop Try.f61 0) (mkF Try.f61.ntmps [0, 1, 5] (.pair (.list (.int .i64)) (.pair (.int .i64) (.pair (.int .i64) .unit))) x) (readK σ_l_heldInt64S Try.f61.ntmps [0, 1, 5] (.pair (.list (.int .i64)) (.pair (.int .i64) (.pair (.int .i64) .unit))) 0 [1] (.pair (.int .i64) .unit) [4] (.pair (.int .i64) .unit)) = b_l_heldInt64S_2 x := by kernel_rfl
theorem ok_l_heldInt64S : FnOK Try.prog 61 S_l_heldInt64S := fn_ok (Λ := Λ_l_heldInt64S) tab0 σok_l_heldInt64S Try.func61 (by kernel_rfl) (show Try.f61.body = some (bodyOf Try.f61) by kernel_rfl) [⟨[0, 1, 5], (.pair (.list (.int .i64)) (.pair (.int .i64) (.pair (.int .i64) .unit))), 0, [1], (.pair (.int .i64) .unit), [4], (.pair (.int .i64) .unit), loopL b_l_heldInt64S_2⟩] rfl (by kernel_rfl) (by exact ⟨loop_LOK (lok_l_heldInt64S_2), trivial⟩) (by kernel_rfl)
  fun x y h => (show execFn Γ0 E0 σ_l_heldInt64S Λ_l_heldInt64S Try.f61 S_l_heldInt64S x = l_heldInt64S x by kernel_rfl).trans h

noncomputable def l_heldFrame (x : Ty.T (.pair TFrame (.pair (.int .i64) .unit))) : Option (Ty.T (.pair (.int .i64) .unit)) :=
match l_heldInt64S (x.1.2.2.2.1, x.2.1, ()) with
| none => none
| some v1 =>
match (decide (v1.1 < (0 : Int))) with
| true =>
 some ((-1 : Int), ())
| false =>
 some (v1.1, ())
noncomputable def S_l_heldFrame : Spec := ⟨(.pair TFrame (.pair (.int .i64) .unit)), (.pair (.int .i64) .unit), .unit, rfl, l_heldFrame⟩
noncomputable def σ_l_heldFrame : FuncId → Option Spec := sig [(61, S_l_heldInt64S)]
theorem σok_l_heldFrame : ∀ f s, σ_l_heldFrame f = some s → FnOK Try.prog f s := sig_ok (l := [(61, S_l_heldInt64S)]) ⟨ok_l_heldInt64S, trivial⟩
noncomputable def Λ_l_heldFrame : Nat → Option LSpec := lkp (loopList (bodyOf Try.f111)) []
theorem ok_l_heldFrame : FnOK Try.prog 111 S_l_heldFrame := fn_ok (Λ := Λ_l_heldFrame) tab0 σok_l_heldFrame Try.func111 (by kernel_rfl) (show Try.f111.body = some (bodyOf Try.f111) by kernel_rfl) [] rfl (by kernel_rfl) (by exact trivial) (by kernel_rfl)
  fun x y h => (show execFn Γ0 E0 σ_l_heldFrame Λ_l_heldFrame Try.f111 S_l_heldFrame x = l_heldFrame x by kernel_rfl).trans h

noncomputable def l_heldVerdict (x : Ty.T (.pair TVerdict (.pair (.int .i64) .unit))) : Option (Ty.T (.pair (.int .i64) .unit)) :=
match l_heldFrame ((x.1.2.1.1, x.1.2.1.2.1, (x.1.2.1.2.2.1.1, x.1.2.1.2.2.1.2.1, x.1.2.1.2.2.1.2.2.1, x.1.2.1.2.2.1.2.2.2.1, x.1.2.1.2.2.1.2.2.2.2.1, ()), x.1.2.1.2.2.2.1, ()), x.2.1, ()) with
| none => none
| some v1 =>
match (decide (v1.1 < (0 : Int))) with
| true =>
 some ((-1 : Int), ())
| false =>
 some (v1.1, ())
noncomputable def S_l_heldVerdict : Spec := ⟨(.pair TVerdict (.pair (.int .i64) .unit)), (.pair (.int .i64) .unit), .unit, rfl, l_heldVerdict⟩
noncomputable def σ_l_heldVerdict : FuncId → Option Spec := sig [(111, S_l_heldFrame)]
theorem σok_l_heldVerdict : ∀ f s, σ_l_heldVerdict f = some s → FnOK Try.prog f s := sig_ok (l := [(111, S_l_heldFrame)]) ⟨ok_l_heldFrame, trivial⟩
noncomputable def Λ_l_heldVerdict : Nat → Option LSpec := lkp (loopList (bodyOf Try.f52)) []
theorem ok_l_heldVerdict : FnOK Try.prog 52 S_l_heldVerdict := fn_ok (Λ := Λ_l_heldVerdict) tab0 σok_l_heldVerdict Try.func52 (by kernel_rfl) (show Try.f52.body = some (bodyOf Try.f52) by kernel_rfl) [] rfl (by kernel_rfl) (by exact trivial) (by kernel_rfl)
  fun x y h => (show execFn Γ0 E0 σ_l_heldVerdict Λ_l_heldVerdict Try.f52 S_l_heldVerdict x = l_heldVerdict x by kernel_rfl).trans h

noncomputable def l_FnExactMergeVerdicts (x : Ty.T (.pair TVerdict (.pair TVerdict .unit))) : Option (Ty.T (.pair .bool .unit)) :=
match l_szVerdict ((x.1.1, (x.1.2.1.1, x.1.2.1.2.1, (x.1.2.1.2.2.1.1, x.1.2.1.2.2.1.2.1, x.1.2.1.2.2.1.2.2.1, x.1.2.1.2.2.1.2.2.2.1, x.1.2.1.2.2.1.2.2.2.2.1, ()), x.1.2.1.2.2.2.1, ()), ()), (1048576 : Int), ()) with
| none => none
| some v1 =>
match (decide (v1.1 < (0 : Int))) with
| true =>
 some (true, ())
| false =>
 match l_szVerdict ((x.2.1.1, (x.2.1.2.1.1, x.2.1.2.1.2.1, (x.2.1.2.1.2.2.1.1, x.2.1.2.1.2.2.1.2.1, x.2.1.2.1.2.2.1.2.2.1, x.2.1.2.1.2.2.1.2.2.2.1, x.2.1.2.1.2.2.1.2.2.2.2.1, ()), x.2.1.2.1.2.2.2.1, ()), ()), v1.1, ()) with
 | none => none
 | some v2 =>
 match (decide (v2.1 < (0 : Int))) with
 | true =>
  some (true, ())
 | false =>
  both (
   match l_toVerdict ((x.1.1, (x.1.2.1.1, x.1.2.1.2.1, (x.1.2.1.2.2.1.1, x.1.2.1.2.2.1.2.1, x.1.2.1.2.2.1.2.2.1, x.1.2.1.2.2.1.2.2.2.1, x.1.2.1.2.2.1.2.2.2.2.1, ()), x.1.2.1.2.2.2.1, ()), ()), ()) with
   | none => none
   | some v3 =>
   both (
    match l_toVerdict ((x.2.1.1, (x.2.1.2.1.1, x.2.1.2.1.2.1, (x.2.1.2.1.2.2.1.1, x.2.1.2.1.2.2.1.2.1, x.2.1.2.1.2.2.1.2.2.1, x.2.1.2.1.2.2.1.2.2.2.1, x.2.1.2.1.2.2.1.2.2.2.2.1, ()), x.2.1.2.1.2.2.2.1, ()), ()), ()) with
    | none => none
    | some v4 =>
    same (
     match s_MergeVerdicts ((v3.1.1, (v3.1.2.1.1, v3.1.2.1.2.1, (v3.1.2.1.2.2.1.1, v3.1.2.1.2.2.1.2.1, v3.1.2.1.2.2.1.2.2.1, v3.1.2.1.2.2.1.2.2.2.1, v3.1.2.1.2.2.1.2.2.2.2.1, ()), v3.1.2.1.2.2.2.1, ()), ()), (v4.1.1, (v4.1.2.1.1, v4.1.2.1.2.1, (v4.1.2.1.2.2.1.1, v4.1.2.1.2.2.1.2.1, v4.1.2.1.2.2.1.2.2.1, v4.1.2.1.2.2.1.2.2.2.1, v4.1.2.1.2.2.1.2.2.2.2.1, ()), v4.1.2.1.2.2.2.1, ()), ()), ()) with
     | none => none
     | some v5 =>
     match l_toVerdict ((x.1.1, (x.1.2.1.1, x.1.2.1.2.1, (x.1.2.1.2.2.1.1, x.1.2.1.2.2.1.2.1, x.1.2.1.2.2.1.2.2.1, x.1.2.1.2.2.1.2.2.2.1, x.1.2.1.2.2.1.2.2.2.2.1, ()), x.1.2.1.2.2.2.1, ()), ()), ()) with
     | none => none
     | some v6 =>
     match l_toVerdict ((x.2.1.1, (x.2.1.2.1.1, x.2.1.2.1.2.1, (x.2.1.2.1.2.2.1.1, x.2.1.2.1.2.2.1.2.1, x.2.1.2.1.2.2.1.2.2.1, x.2.1.2.1.2.2.1.2.2.2.1, x.2.1.2.1.2.2.1.2.2.2.2.1, ()), x.2.1.2.1.2.2.2.1, ()), ()), ()) with
     | none => none
     | some v7 =>
     match i_MergeVerdicts ((v6.1.1, (v6.1.2.1.1, v6.1.2.1.2.1, (v6.1.2.1.2.2.1.1, v6.1.2.1.2.2.1.2.1, v6.1.2.1.2.2.1.2.2.1, v6.1.2.1.2.2.1.2.2.2.1, v6.1.2.1.2.2.1.2.2.2.2.1, ()), v6.1.2.1.2.2.2.1, ()), ()), (v7.1.1, (v7.1.2.1.1, v7.1.2.1.2.1, (v7.1.2.1.2.2.1.1, v7.1.2.1.2.2.1.2.1, v7.1.2.1.2.2.1.2.2.1, v7.1.2.1.2.2.1.2.2.2.1, v7.1.2.1.2.2.1.2.2.2.2.1, ()), v7.1.2.1.2.2.2.1, ()), ()), ()) with
     | none => none
     | some v8 =>
     match l_eqVerdict ((v8.1.1, (v8.1.2.1.1, v8.1.2.1.2.1, (v8.1.2.1.2.2.1.1, v8.1.2.1.2.2.1.2.1, v8.1.2.1.2.2.1.2.2.1, v8.1.2.1.2.2.1.2.2.2.1, v8.1.2.1.2.2.1.2.2.2.2.1, ()), v8.1.2.1.2.2.2.1, ()), ()), (v5.1.1, (v5.1.2.1.1, v5.1.2.1.2.1, (v5.1.2.1.2.2.1.1, v5.1.2.1.2.2.1.2.1, v5.1.2.1.2.2.1.2.2.1, v5.1.2.1.2.2.1.2.2.2.1, v5.1.2.1.2.2.1.2.2.2.2.1, ()), v5.1.2.1.2.2.2.1, ()), ()), ()) with
     | none => none
     | some v9 =>
     match (!v9.1) with
     | true =>
      some (false, ())
     | false =>
      match (v8.2.1 != v5.2.1) with
      | true =>
       some (false, ())
      | false =>
       match l_toVerdict ((x.1.1, (x.1.2.1.1, x.1.2.1.2.1, (x.1.2.1.2.2.1.1, x.1.2.1.2.2.1.2.1, x.1.2.1.2.2.1.2.2.1, x.1.2.1.2.2.1.2.2.2.1, x.1.2.1.2.2.1.2.2.2.2.1, ()), x.1.2.1.2.2.2.1, ()), ()), ()) with
       | none => none
       | some v10 =>
       match l_eqVerdict ((v6.1.1, (v6.1.2.1.1, v6.1.2.1.2.1, (v6.1.2.1.2.2.1.1, v6.1.2.1.2.2.1.2.1, v6.1.2.1.2.2.1.2.2.1, v6.1.2.1.2.2.1.2.2.2.1, v6.1.2.1.2.2.1.2.2.2.2.1, ()), v6.1.2.1.2.2.2.1, ()), ()), (v10.1.1, (v10.1.2.1.1, v10.1.2.1.2.1, (v10.1.2.1.2.2.1.1, v10.1.2.1.2.2.1.2.1, v10.1.2.1.2.2.1.2.2.1, v10.1.2.1.2.2.1.2.2.2.1, v10.1.2.1.2.2.1.2.2.2.2.1, ()), v10.1.2.1.2.2.2.1, ()), ()), ()) with
       | none => none
       | some v11 =>
       match (!v11.1) with
       | true =>
        some (false, ())
       | false =>
        match l_toVerdict ((x.2.1.1, (x.2.1.2.1.1, x.2.1.2.1.2.1, (x.2.1.2.1.2.2.1.1, x.2.1.2.1.2.2.1.2.1, x.2.1.2.1.2.2.1.2.2.1, x.2.1.2.1.2.2.1.2.2.2.1, x.2.1.2.1.2.2.1.2.2.2.2.1, ()), x.2.1.2.1.2.2.2.1, ()), ()), ()) with
        | none => none
        | some v12 =>
        match l_eqVerdict ((v7.1.1, (v7.1.2.1.1, v7.1.2.1.2.1, (v7.1.2.1.2.2.1.1, v7.1.2.1.2.2.1.2.1, v7.1.2.1.2.2.1.2.2.1, v7.1.2.1.2.2.1.2.2.2.1, v7.1.2.1.2.2.1.2.2.2.2.1, ()), v7.1.2.1.2.2.2.1, ()), ()), (v12.1.1, (v12.1.2.1.1, v12.1.2.1.2.1, (v12.1.2.1.2.2.1.1, v12.1.2.1.2.2.1.2.1, v12.1.2.1.2.2.1.2.2.1, v12.1.2.1.2.2.1.2.2.2.1, v12.1.2.1.2.2.1.2.2.2.2.1, ()), v12.1.2.1.2.2.2.1, ()), ()), ()) with
        | none => none
        | some v13 =>
        match (!v13.1) with
        | true =>
         some (false, ())
        | false =>
         match l_markVerdict ((v6.1.1, (v6.1.2.1.1, v6.1.2.1.2.1, (v6.1.2.1.2.2.1.1, v6.1.2.1.2.2.1.2.1, v6.1.2.1.2.2.1.2.2.1, v6.1.2.1.2.2.1.2.2.2.1, v6.1.2.1.2.2.1.2.2.2.2.1, ()), v6.1.2.1.2.2.2.1, ()), ()), (1 : Int), ()) with
         | none => none
         | some v14 =>
         match l_markVerdict ((v7.1.1, (v7.1.2.1.1, v7.1.2.1.2.1, (v7.1.2.1.2.2.1.1, v7.1.2.1.2.2.1.2.1, v7.1.2.1.2.2.1.2.2.1, v7.1.2.1.2.2.1.2.2.2.1, v7.1.2.1.2.2.1.2.2.2.2.1, ()), v7.1.2.1.2.2.2.1, ()), ()), v14.1, ()) with
         | none => none
         | some v15 =>
         match (decide (v15.1 < (0 : Int))) with
         | true =>
          some (false, ())
         | false =>
          match l_eqVerdict ((v8.1.1, (v8.1.2.1.1, v8.1.2.1.2.1, (v8.1.2.1.2.2.1.1, v8.1.2.1.2.2.1.2.1, v8.1.2.1.2.2.1.2.2.1, v8.1.2.1.2.2.1.2.2.2.1, v8.1.2.1.2.2.1.2.2.2.2.1, ()), v8.1.2.1.2.2.2.1, ()), ()), (v5.1.1, (v5.1.2.1.1, v5.1.2.1.2.1, (v5.1.2.1.2.2.1.1, v5.1.2.1.2.2.1.2.1, v5.1.2.1.2.2.1.2.2.1, v5.1.2.1.2.2.1.2.2.2.1, v5.1.2.1.2.2.1.2.2.2.2.1, ()), v5.1.2.1.2.2.2.1, ()), ()), ()) with
          | none => none
          | some v16 =>
          match (!v16.1) with
          | true =>
           some (false, ())
          | false =>
           match (v8.2.1 != v5.2.1) with
           | true =>
            some (false, ())
           | false =>
            match l_markVerdict ((v8.1.1, (v8.1.2.1.1, v8.1.2.1.2.1, (v8.1.2.1.2.2.1.1, v8.1.2.1.2.2.1.2.1, v8.1.2.1.2.2.1.2.2.1, v8.1.2.1.2.2.1.2.2.2.1, v8.1.2.1.2.2.1.2.2.2.2.1, ()), v8.1.2.1.2.2.2.1, ()), ()), (1 : Int), ()) with
            | none => none
            | some v17 =>
            match l_heldVerdict ((v8.1.1, (v8.1.2.1.1, v8.1.2.1.2.1, (v8.1.2.1.2.2.1.1, v8.1.2.1.2.2.1.2.1, v8.1.2.1.2.2.1.2.2.1, v8.1.2.1.2.2.1.2.2.2.1, v8.1.2.1.2.2.1.2.2.2.2.1, ()), v17.2.1.2.1.2.2.2.1, ()), ()), (1 : Int), ()) with
            | none => none
            | some v18 =>
            match (decide (v18.1 < (0 : Int))) with
            | true =>
             some (false, ())
            | false =>
             match (v18.1 != v17.1) with
             | true =>
              some (false, ())
             | false =>
              both (
               match l_toVerdict ((x.1.1, (x.1.2.1.1, x.1.2.1.2.1, (x.1.2.1.2.2.1.1, x.1.2.1.2.2.1.2.1, x.1.2.1.2.2.1.2.2.1, x.1.2.1.2.2.1.2.2.2.1, x.1.2.1.2.2.1.2.2.2.2.1, ()), x.1.2.1.2.2.2.1, ()), ()), ()) with
               | none => none
               | some v19 =>
               both (
                match l_toVerdict ((x.2.1.1, (x.2.1.2.1.1, x.2.1.2.1.2.1, (x.2.1.2.1.2.2.1.1, x.2.1.2.1.2.2.1.2.1, x.2.1.2.1.2.2.1.2.2.1, x.2.1.2.1.2.2.1.2.2.2.1, x.2.1.2.1.2.2.1.2.2.2.2.1, ()), x.2.1.2.1.2.2.2.1, ()), ()), ()) with
                | none => none
                | some v20 =>
                same (
                 match i_MergeVerdicts ((v19.1.1, (v19.1.2.1.1, v19.1.2.1.2.1, (v19.1.2.1.2.2.1.1, v19.1.2.1.2.2.1.2.1, v19.1.2.1.2.2.1.2.2.1, v19.1.2.1.2.2.1.2.2.2.1, v19.1.2.1.2.2.1.2.2.2.2.1, ()), v19.1.2.1.2.2.2.1, ()), ()), (v20.1.1, (v20.1.2.1.1, v20.1.2.1.2.1, (v20.1.2.1.2.2.1.1, v20.1.2.1.2.2.1.2.1, v20.1.2.1.2.2.1.2.2.1, v20.1.2.1.2.2.1.2.2.2.1, v20.1.2.1.2.2.1.2.2.2.2.1, ()), v20.1.2.1.2.2.2.1, ()), ()), ()) with
                 | none => none
                 | some v21 =>
                 match l_eqVerdict ((v21.1.1, (v21.1.2.1.1, v21.1.2.1.2.1, (v21.1.2.1.2.2.1.1, v21.1.2.1.2.2.1.2.1, v21.1.2.1.2.2.1.2.2.1, v21.1.2.1.2.2.1.2.2.2.1, v21.1.2.1.2.2.1.2.2.2.2.1, ()), v21.1.2.1.2.2.2.1, ()), ()), (v5.1.1, (v5.1.2.1.1, v5.1.2.1.2.1, (v5.1.2.1.2.2.1.1, v5.1.2.1.2.2.1.2.1, v5.1.2.1.2.2.1.2.2.1, v5.1.2.1.2.2.1.2.2.2.1, v5.1.2.1.2.2.1.2.2.2.2.1, ()), v5.1.2.1.2.2.2.1, ()), ()), ()) with
                 | none => none
                 | some v22 =>
                 match (!v22.1) with
                 | true =>
                  some (false, ())
                 | false =>
                  match (v21.2.1 != v5.2.1) with
                  | true =>
                   some (false, ())
                  | false =>
                   match l_heldVerdict ((v8.1.1, (v8.1.2.1.1, v8.1.2.1.2.1, (v8.1.2.1.2.2.1.1, v8.1.2.1.2.2.1.2.1, v8.1.2.1.2.2.1.2.2.1, v8.1.2.1.2.2.1.2.2.2.1, v8.1.2.1.2.2.1.2.2.2.2.1, ()), v17.2.1.2.1.2.2.2.1, ()), ()), (1 : Int), ()) with
                   | none => none
                   | some v23 =>
                   match (decide (v23.1 < (0 : Int))) with
                   | true =>
                    some (false, ())
                   | false =>
                    match (v23.1 != v17.1) with
                    | true =>
                     some (false, ())
                    | false =>
                     some (true, ()))) (
                match l_toVerdict ((x.2.1.1, (x.2.1.2.1.1, x.2.1.2.1.2.1, (x.2.1.2.1.2.2.1.1, x.2.1.2.1.2.2.1.2.1, x.2.1.2.1.2.2.1.2.2.1, x.2.1.2.1.2.2.1.2.2.2.1, x.2.1.2.1.2.2.1.2.2.2.2.1, ()), x.2.1.2.1.2.2.2.1, ()), ()), ()) with
                | none => none
                | some v20 =>
                match i_MergeVerdicts ((v19.1.1, (v19.1.2.1.1, v19.1.2.1.2.1, (v19.1.2.1.2.2.1.1, v19.1.2.1.2.2.1.2.1, v19.1.2.1.2.2.1.2.2.1, v19.1.2.1.2.2.1.2.2.2.1, v19.1.2.1.2.2.1.2.2.2.2.1, ()), v19.1.2.1.2.2.2.1, ()), ()), (v20.1.1, (v20.1.2.1.1, v20.1.2.1.2.1, (v20.1.2.1.2.2.1.1, v20.1.2.1.2.2.1.2.1, v20.1.2.1.2.2.1.2.2.1, v20.1.2.1.2.2.1.2.2.2.1, v20.1.2.1.2.2.1.2.2.2.2.1, ()), v20.1.2.1.2.2.2.1, ()), ()), ()) with
                | none => none
                | some v21 =>
                match l_eqVerdict ((v21.1.1, (v21.1.2.1.1, v21.1.2.1.2.1, (v21.1.2.1.2.2.1.1, v21.1.2.1.2.2.1.2.1, v21.1.2.1.2.2.1.2.2.1, v21.1.2.1.2.2.1.2.2.2.1, v21.1.2.1.2.2.1.2.2.2.2.1, ()), v21.1.2.1.2.2.2.1, ()), ()), (v5.1.1, (v5.1.2.1.1, v5.1.2.1.2.1, (v5.1.2.1.2.2.1.1, v5.1.2.1.2.2.1.2.1, v5.1.2.1.2.2.1.2.2.1, v5.1.2.1.2.2.1.2.2.2.1, v5.1.2.1.2.2.1.2.2.2.2.1, ()), v5.1.2.1.2.2.2.1, ()), ()), ()) with
                | none => none
                | some v22 =>
                match (!v22.1) with
                | true =>
                 some (false, ())
                | false =>
                 match (v21.2.1 != v5.2.1) with
                 | true =>
                  some (false, ())
                 | false =>
                  match l_heldVerdict ((v8.1.1, (v8.1.2.1.1, v8.1.2.1.2.1, (v8.1.2.1.2.2.1.1, v8.1.2.1.2.2.1.2.1, v8.1.2.1.2.2.1.2.2.1, v8.1.2.1.2.2.1.2.2.2.1, v8.1.2.1.2.2.1.2.2.2.2.1, ()), v17.2.1.2.1.2.2.2.1, ()), ()), (1 : Int), ()) with
                  | none => none
                  | some v23 =>
                  match (decide (v23.1 < (0 : Int))) with
                  | true =>
                   some (false, ())
                  | false =>
                   match (v23.1 != v17.1) with
                   | true =>
                    some (false, ())
                   | false =>
                    some (true, ()))) (
               match l_toVerdict ((x.1.1, (x.1.2.1.1, x.1.2.1.2.1, (x.1.2.1.2.2.1.1, x.1.2.1.2.2.1.2.1, x.1.2.1.2.2.1.2.2.1, x.1.2.1.2.2.1.2.2.2.1, x.1.2.1.2.2.1.2.2.2.2.1, ()), x.1.2.1.2.2.2.1, ()), ()), ()) with
               | none => none
               | some v19 =>
               match l_toVerdict ((x.2.1.1, (x.2.1.2.1.1, x.2.1.2.1.2.1, (x.2.1.2.1.2.2.1.1, x.2.1.2.1.2.2.1.2.1, x.2.1.2.1.2.2.1.2.2.1, x.2.1.2.1.2.2.1.2.2.2.1, x.2.1.2.1.2.2.1.2.2.2.2.1, ()), x.2.1.2.1.2.2.2.1, ()), ()), ()) with
               | none => none
               | some v20 =>
               match i_MergeVerdicts ((v19.1.1, (v19.1.2.1.1, v19.1.2.1.2.1, (v19.1.2.1.2.2.1.1, v19.1.2.1.2.2.1.2.1, v19.1.2.1.2.2.1.2.2.1, v19.1.2.1.2.2.1.2.2.2.1, v19.1.2.1.2.2.1.2.2.2.2.1, ()), v19.1.2.1.2.2.2.1, ()), ()), (v20.1.1, (v20.1.2.1.1, v20.1.2.1.2.1, (v20.1.2.1.2.2.1.1, v20.1.2.1.2.2.1.2.1, v20.1.2.1.2.2.1.2.2.1, v20.1.2.1.2.2.1.2.2.2.1, v20.1.2.1.2.2.1.2.2.2.2.1, ()), v20.1.2.1.2.2.2.1, ()), ()), ()) with
               | none => none
               | some v21 =>
               match l_eqVerdict ((v21.1.1, (v21.1.2.1.1, v21.1.2.1.2.1, (v21.1.2.1.2.2.1.1, v21.1.2.1.2.2.1.2.1, v21.1.2.1.2.2.1.2.2.1, v21.1.2.1.2.2.1.2.2.2.1, v21.1.2.1.2.2.1.2.2.2.2.1, ()), v21.1.2.1.2.2.2.1, ()), ()), (v5.1.1, (v5.1.2.1.1, v5.1.2.1.2.1, (v5.1.2.1.2.2.1.1, v5.1.2.1.2.2.1.2.1, v5.1.2.1.2.2.1.2.2.1, v5.1.2.1.2.2.1.2.2.2.1, v5.1.2.1.2.2.1.2.2.2.2.1, ()), v5.1.2.1.2.2.2.1, ()), ()), ()) with
               | none => none
               | some v22 =>
               match (!v22.1) with
               | true =>
                some (false, ())
               | false =>
                match (v21.2.1 != v5.2.1) with
                | true =>
                 some (false, ())
                | false =>
                 match l_heldVerdict ((v8.1.1, (v8.1.2.1.1, v8.1.2.1.2.1, (v8.1.2.1.2.2.1.1, v8.1.2.1.2.2.1.2.1, v8.1.2.1.2.2.1.2.2.1, v8.1.2.1.2.2.1.2.2.2.1, v8.1.2.1.2.2.1.2.2.2.2.1, ()), v17.2.1.2.1.2.2.2.1, ()), ()), (1 : Int), ()) with
                 | none => none
                 | some v23 =>
                 match (decide (v23.1 < (0 : Int))) with
                 | true =>
                  some (false, ())
                 | false =>
                  match (v23.1 != v17.1) with
                  | true =>
                   some (false, ())
                  | false =>
                   some (true, ())))) (
    match l_toVerdict ((x.2.1.1, (x.2.1.2.1.1, x.2.1.2.1.2.1, (x.2.1.2.1.2.2.1.1, x.2.1.2.1.2.2.1.2.1, x.2.1.2.1.2.2.1.2.2.1, x.2.1.2.1.2.2.1.2.2.2.1, x.2.1.2.1.2.2.1.2.2.2.2.1, ()), x.2.1.2.1.2.2.2.1, ()), ()), ()) with
    | none => none
    | some v4 =>
    match s_MergeVerdicts ((v3.1.1, (v3.1.2.1.1, v3.1.2.1.2.1, (v3.1.2.1.2.2.1.1, v3.1.2.1.2.2.1.2.1, v3.1.2.1.2.2.1.2.2.1, v3.1.2.1.2.2.1.2.2.2.1, v3.1.2.1.2.2.1.2.2.2.2.1, ()), v3.1.2.1.2.2.2.1, ()), ()), (v4.1.1, (v4.1.2.1.1, v4.1.2.1.2.1, (v4.1.2.1.2.2.1.1, v4.1.2.1.2.2.1.2.1, v4.1.2.1.2.2.1.2.2.1, v4.1.2.1.2.2.1.2.2.2.1, v4.1.2.1.2.2.1.2.2.2.2.1, ()), v4.1.2.1.2.2.2.1, ()), ()), ()) with
    | none => none
    | some v5 =>
    match l_toVerdict ((x.1.1, (x.1.2.1.1, x.1.2.1.2.1, (x.1.2.1.2.2.1.1, x.1.2.1.2.2.1.2.1, x.1.2.1.2.2.1.2.2.1, x.1.2.1.2.2.1.2.2.2.1, x.1.2.1.2.2.1.2.2.2.2.1, ()), x.1.2.1.2.2.2.1, ()), ()), ()) with
    | none => none
    | some v6 =>
    match l_toVerdict ((x.2.1.1, (x.2.1.2.1.1, x.2.1.2.1.2.1, (x.2.1.2.1.2.2.1.1, x.2.1.2.1.2.2.1.2.1, x.2.1.2.1.2.2.1.2.2.1, x.2.1.2.1.2.2.1.2.2.2.1, x.2.1.2.1.2.2.1.2.2.2.2.1, ()), x.2.1.2.1.2.2.2.1, ()), ()), ()) with
    | none => none
    | some v7 =>
    match i_MergeVerdicts ((v6.1.1, (v6.1.2.1.1, v6.1.2.1.2.1, (v6.1.2.1.2.2.1.1, v6.1.2.1.2.2.1.2.1, v6.1.2.1.2.2.1.2.2.1, v6.1.2.1.2.2.1.2.2.2.1, v6.1.2.1.2.2.1.2.2.2.2.1, ()), v6.1.2.1.2.2.2.1, ()), ()), (v7.1.1, (v7.1.2.1.1, v7.1.2.1.2.1, (v7.1.2.1.2.2.1.1, v7.1.2.1.2.2.1.2.1, v7.1.2.1.2.2.1.2.2.1, v7.1.2.1.2.2.1.2.2.2.1, v7.1.2.1.2.2.1.2.2.2.2.1, ()), v7.1.2.1.2.2.2.1, ()), ()), ()) with
    | none => none
    | some v8 =>
    match l_eqVerdict ((v8.1.1, (v8.1.2.1.1, v8.1.2.1.2.1, (v8.1.2.1.2.2.1.1, v8.1.2.1.2.2.1.2.1, v8.1.2.1.2.2.1.2.2.1, v8.1.2.1.2.2.1.2.2.2.1, v8.1.2.1.2.2.1.2.2.2.2.1, ()), v8.1.2.1.2.2.2.1, ()), ()), (v5.1.1, (v5.1.2.1.1, v5.1.2.1.2.1, (v5.1.2.1.2.2.1.1, v5.1.2.1.2.2.1.2.1, v5.1.2.1.2.2.1.2.2.1, v5.1.2.1.2.2.1.2.2.2.1, v5.1.2.1.2.2.1.2.2.2.2.1, ()), v5.1.2.1.2.2.2.1, ()), ()), ()) with
    | none => none
    | some v9 =>
    match (!v9.1) with
    | true =>
     some (false, ())
    | false =>
     match (v8.2.1 != v5.2.1) with
     | true =>
      some (false, ())
     | false =>
      match l_toVerdict ((x.1.1, (x.1.2.1.1, x.1.2.1.2.1, (x.1.2.1.2.2.1.1, x.1.2.1.2.2.1.2.1, x.1.2.1.2.2.1.2.2.1, x.1.2.1.2.2.1.2.2.2.1, x.1.2.1.2.2.1.2.2.2.2.1, ()), x.1.2.1.2.2.2.1, ()), ()), ()) with
      | none => none
      | some v10 =>
      match l_eqVerdict ((v6.1.1, (v6.1.2.1.1, v6.1.2.1.2.1, (v6.1.2.1.2.2.1.1, v6.1.2.1.2.2.1.2.1, v6.1.2.1.2.2.1.2.2.1, v6.1.2.1.2.2.1.2.2.2.1, v6.1.2.1.2.2.1.2.2.2.2.1, ()), v6.1.2.1.2.2.2.1, ()), ()), (v10.1.1, (v10.1.2.1.1, v10.1.2.1.2.1, (v10.1.2.1.2.2.1.1, v10.1.2.1.2.2.1.2.1, v10.1.2.1.2.2.1.2.2.1, v10.1.2.1.2.2.1.2.2.2.1, v10.1.2.1.2.2.1.2.2.2.2.1, ()), v10.1.2.1.2.2.2.1, ()), ()), ()) with
      | none => none
      | some v11 =>
      match (!v11.1) with
      | true =>
       some (false, ())
      | false =>
       match l_toVerdict ((x.2.1.1, (x.2.1.2.1.1, x.2.1.2.1.2.1, (x.2.1.2.1.2.2.1.1, x.2.1.2.1.2.2.1.2.1, x.2.1.2.1.2.2.1.2.2.1, x.2.1.2.1.2.2.1.2.2.2.1, x.2.1.2.1.2.2.1.2.2.2.2.1, ()), x.2.1.2.1.2.2.2.1, ()), ()), ()) with
       | none => none
       | some v12 =>
       match l_eqVerdict ((v7.1.1, (v7.1.2.1.1, v7.1.2.1.2.1, (v7.1.2.1.2.2.1.1, v7.1.2.1.2.2.1.2.1, v7.1.2.1.2.2.1.2.2.1, v7.1.2.1.2.2.1.2.2.2.1, v7.1.2.1.2.2.1.2.2.2.2.1, ()), v7.1.2.1.2.2.2.1, ()), ()), (v12.1.1, (v12.1.2.1.1, v12.1.2.1.2.1, (v12.1.2.1.2.2.1.1, v12.1.2.1.2.2.1.2.1, v12.1.2.1.2.2.1.2.2.1, v12.1.2.1.2.2.1.2.2.2.1, v12.1.2.1.2.2.1.2.2.2.2.1, ()), v12.1.2.1.2.2.2.1, ()), ()), ()) with
       | none => none
       | some v13 =>
       match (!v13.1) with
       | true =>
        some (false, ())
       | false =>
        match l_markVerdict ((v6.1.1, (v6.1.2.1.1, v6.1.2.1.2.1, (v6.1.2.1.2.2.1.1, v6.1.2.1.2.2.1.2.1, v6.1.2.1.2.2.1.2.2.1, v6.1.2.1.2.2.1.2.2.2.1, v6.1.2.1.2.2.1.2.2.2.2.1, ()), v6.1.2.1.2.2.2.1, ()), ()), (1 : Int), ()) with
        | none => none
        | some v14 =>
        match l_markVerdict ((v7.1.1, (v7.1.2.1.1, v7.1.2.1.2.1, (v7.1.2.1.2.2.1.1, v7.1.2.1.2.2.1.2.1, v7.1.2.1.2.2.1.2.2.1, v7.1.2.1.2.2.1.2.2.2.1, v7.1.2.1.2.2.1.2.2.2.2.1, ()), v7.1.2.1.2.2.2.1, ()), ()), v14.1, ()) with
        | none => none
        | some v15 =>
        match (decide (v15.1 < (0 : Int))) with
        | true =>
         some (false, ())
        | false =>
         match l_eqVerdict ((v8.1.1, (v8.1.2.1.1, v8.1.2.1.2.1, (v8.1.2.1.2.2.1.1, v8.1.2.1.2.2.1.2.1, v8.1.2.1.2.2.1.2.2.1, v8.1.2.1.2.2.1.2.2.2.1, v8.1.2.1.2.2.1.2.2.2.2.1, ()), v8.1.2.1.2.2.2.1, ()), ()), (v5.1.1, (v5.1.2.1.1, v5.1.2.1.2.1, (v5.1.2.1.2.2.1.1, v5.1.2.1.2.2.1.2.1, v5.1.2.1.2.2.1.2.2.1, v5.1.2.1.2.2.1.2.2.2.1, v5.1.2.1.2.2.1.2.2.2.2.1, ()), v5.1.2.1.2.2.2.1, ()), ()), ()) with
         | none => none
         | some v16 =>
         match (!v16.1) with
         | true =>
          some (false, ())
         | false =>
          match (v8.2.1 != v5.2.1) with
          | true =>
           some (false, ())
          | false =>
           match l_markVerdict ((v8.1.1, (v8.1.2.1.1, v8.1.2.1.2.1, (v8.1.2.1.2.2.1.1, v8.1.2.1.2.2.1.2.1, v8.1.2.1.2.2.1.2.2.1, v8.1.2.1.2.2.1.2.2.2.1, v8.1.2.1.2.2.1.2.2.2.2.1, ()), v8.1.2.1.2.2.2.1, ()), ()), (1 : Int), ()) with
           | none => none
           | some v17 =>
           match l_heldVerdict ((v8.1.1, (v8.1.2.1.1, v8.1.2.1.2.1, (v8.1.2.1.2.2.1.1, v8.1.2.1.2.2.1.2.1, v8.1.2.1.2.2.1.2.2.1, v8.1.2.1.2.2.1.2.2.2.1, v8.1.2.1.2.2.1.2.2.2.2.1, ()), v17.2.1.2.1.2.2.2.1, ()), ()), (1 : Int), ()) with
           | none => none
           | some v18 =>
           match (decide (v18.1 < (0 : Int))) with
           | true =>
            some (false, ())
           | false =>
            match (v18.1 != v17.1) with
            | true =>
             some (false, ())
            | false =>
             both (
              match l_toVerdict ((x.1.1, (x.1.2.1.1, x.1.2.1.2.1, (x.1.2.1.2.2.1.1, x.1.2.1.2.2.1.2.1, x.1.2.1.2.2.1.2.2.1, x.1.2.1.2.2.1.2.2.2.1, x.1.2.1.2.2.1.2.2.2.2.1, ()), x.1.2.1.2.2.2.1, ()), ()), ()) with
              | none => none
              | some v19 =>
              both (
               match l_toVerdict ((x.2.1.1, (x.2.1.2.1.1, x.2.1.2.1.2.1, (x.2.1.2.1.2.2.1.1, x.2.1.2.1.2.2.1.2.1, x.2.1.2.1.2.2.1.2.2.1, x.2.1.2.1.2.2.1.2.2.2.1, x.2.1.2.1.2.2.1.2.2.2.2.1, ()), x.2.1.2.1.2.2.2.1, ()), ()), ()) with
               | none => none
               | some v20 =>
               same (
                match i_MergeVerdicts ((v19.1.1, (v19.1.2.1.1, v19.1.2.1.2.1, (v19.1.2.1.2.2.1.1, v19.1.2.1.2.2.1.2.1, v19.1.2.1.2.2.1.2.2.1, v19.1.2.1.2.2.1.2.2.2.1, v19.1.2.1.2.2.1.2.2.2.2.1, ()), v19.1.2.1.2.2.2.1, ()), ()), (v20.1.1, (v20.1.2.1.1, v20.1.2.1.2.1, (v20.1.2.1.2.2.1.1, v20.1.2.1.2.2.1.2.1, v20.1.2.1.2.2.1.2.2.1, v20.1.2.1.2.2.1.2.2.2.1, v20.1.2.1.2.2.1.2.2.2.2.1, ()), v20.1.2.1.2.2.2.1, ()), ()), ()) with
                | none => none
                | some v21 =>
                match l_eqVerdict ((v21.1.1, (v21.1.2.1.1, v21.1.2.1.2.1, (v21.1.2.1.2.2.1.1, v21.1.2.1.2.2.1.2.1, v21.1.2.1.2.2.1.2.2.1, v21.1.2.1.2.2.1.2.2.2.1, v21.1.2.1.2.2.1.2.2.2.2.1, ()), v21.1.2.1.2.2.2.1, ()), ()), (v5.1.1, (v5.1.2.1.1, v5.1.2.1.2.1, (v5.1.2.1.2.2.1.1, v5.1.2.1.2.2.1.2.1, v5.1.2.1.2.2.1.2.2.1, v5.1.2.1.2.2.1.2.2.2.1, v5.1.2.1.2.2.1.2.2.2.2.1, ()), v5.1.2.1.2.2.2.1, ()), ()), ()) with
                | none => none
                | some v22 =>
                match (!v22.1) with
                | true =>
                 some (false, ())
                | false =>
                 match (v21.2.1 != v5.2.1) with
                 | true =>
                  some (false, ())
                 | false =>
                  match l_heldVerdict ((v8.1.1, (v8.1.2.1.1, v8.1.2.1.2.1, (v8.1.2.1.2.2.1.1, v8.1.2.1.2.2.1.2.1, v8.1.2.1.2.2.1.2.2.1, v8.1.2.1.2.2.1.2.2.2.1, v8.1.2.1.2.2.1.2.2.2.2.1, ()), v17.2.1.2.1.2.2.2.1, ()), ()), (1 : Int), ()) with
                  | none => none
                  | some v23 =>
                  match (decide (v23.1 < (0 : Int))) with
                  | true =>
                   some (false, ())
                  | false =>
                   match (v23.1 != v17.1) with
                   | true =>
                    some (false, ())
                   | false =>
                    some (true, ()))) (
               match l_toVerdict ((x.2.1.1, (x.2.1.2.1.1, x.2.1.2.1.2.1, (x.2.1.2.1.2.2.1.1, x.2.1.2.1.2.2.1.2.1, x.2.1.2.1.2.2.1.2.2.1, x.2.1.2.1.2.2.1.2.2.2.1, x.2.1.2.1.2.2.1.2.2.2.2.1, ()), x.2.1.2.1.2.2.2.1, ()), ()), ()) with
               | none => none
               | some v20 =>
               match i_MergeVerdicts ((v19.1.1, (v19.1.2.1.1, v19.1.2.1.2.1, (v19.1.2.1.2.2.1.1, v19.1.2.1.2.2.1.2.1, v19.1.2.1.2.2.1.2.2.1, v19.1.2.1.2.2.1.2.2.2.1, v19.1.2.1.2.2.1.2.2.2.2.1, ()), v19.1.2.1.2.2.2.1, ()), ()), (v20.1.1, (v20.1.2.1.1, v20.1.2.1.2.1, (v20.1.2.1.2.2.1.1, v20.1.2.1.2.2.1.2.1, v20.1.2.1.2.2.1.2.2.1, v20.1.2.1.2.2.1.2.2.2.1, v20.1.2.1.2.2.1.2.2.2.2.1, ()), v20.1.2.1.2.2.2.1, ()), ()), ()) with
               | none => none
               | some v21 =>
               match l_eqVerdict ((v21.1.1, (v21.1.2.1.1, v21.1.2.1.2.1, (v21.1.2.1.2.2.1.1, v21.1.2.1.2.2.1.2.1, v21.1.2.1.2.2.1.2.2.1, v21.1.2.1.2.2.1.2.2.2.1, v21.1.2.1.2.2.1.2.2.2.2.1, ()), v21.1.2.1.2.2.2.1, ()), ()), (v5.1.1, (v5.1.2.1.1, v5.1.2.1.2.1, (v5.1.2.1.2.2.1.1, v5.1.2.1.2.2.1.2.1, v5.1.2.1.2.2.1.2.2.1, v5.1.2.1.2.2.1.2.2.2.1, v5.1.2.1.2.2.1.2.2.2.2.1, ()), v5.1.2.1.2.2.2.1, ()), ()), ()) with
               | none => none
               | some v22 =>
               match (!v22.1) with
               | true =>
                some (false, ())
               | false =>
                match (v21.2.1 != v5.2.1) with
                | true =>
                 some (false, ())
                | false =>
                 match l_heldVerdict ((v8.1.1, (v8.1.2.1.1, v8.1.2.1.2.1, (v8.1.2.1.2.2.1.1, v8.1.2.1.2.2.1.2.1, v8.1.2.1.2.2.1.2.2.1, v8.1.2.1.2.2.1.2.2.2.1, v8.1.2.1.2.2.1.2.2.2.2.1, ()), v17.2.1.2.1.2.2.2.1, ()), ()), (1 : Int), ()) with
                 | none => none
                 | some v23 =>
                 match (decide (v23.1 < (0 : Int))) with
                 | true =>
                  some (false, ())
                 | false =>
                  match (v23.1 != v17.1) with
                  | true =>
                   some (false, ())
                  | false =>
                   some (true, ()))) (
              match l_toVerdict ((x.1.1, (x.1.2.1.1, x.1.2.1.2.1, (x.1.2.1.2.2.1.1, x.1.2.1.2.2.1.2.1, x.1.2.1.2.2.1.2.2.1, x.1.2.1.2.2.1.2.2.2.1, x.1.2.1.2.2.1.2.2.2.2.1, ()), x.1.2.1.2.2.2.1, ()), ()), ()) with
              | none => none
              | some v19 =>
              match l_toVerdict ((x.2.1.1, (x.2.1.2.1.1, x.2.1.2.1.2.1, (x.2.1.2.1.2.2.1.1, x.2.1.2.1.2.2.1.2.1, x.2.1.2.1.2.2.1.2.2.1, x.2.1.2.1.2.2.1.2.2.2.1, x.2.1.2.1.2.2.1.2.2.2.2.1, ()), x.2.1.2.1.2.2.2.1, ()), ()), ()) with
              | none => none
              | some v20 =>
              match i_MergeVerdicts ((v19.1.1, (v19.1.2.1.1, v19.1.2.1.2.1, (v19.1.2.1.2.2.1.1, v19.1.2.1.2.2.1.2.1, v19.1.2.1.2.2.1.2.2.1, v19.1.2.1.2.2.1.2.2.2.1, v19.1.2.1.2.2.1.2.2.2.2.1, ()), v19.1.2.1.2.2.2.1, ()), ()), (v20.1.1, (v20.1.2.1.1, v20.1.2.1.2.1, (v20.1.2.1.2.2.1.1, v20.1.2.1.2.2.1.2.1, v20.1.2.1.2.2.1.2.2.1, v20.1.2.1.2.2.1.2.2.2.1, v20.1.2.1.2.2.1.2.2.2.2.1, ()), v20.1.2.1.2.2.2.1, ()), ()), ()) with
              | none => none
              | some v21 =>
              match l_eqVerdict ((v21.1.1, (v21.1.2.1.1, v21.1.2.1.2.1, (v21.1.2.1.2.2.1.1, v21.1.2.1.2.2.1.2.1, v21.1.2.1.2.2.1.2.2.1, v21.1.2.1.2.2.1.2.2.2.1, v21.1.2.1.2.2.1.2.2.2.2.1, ()), v21.1.2.1.2.2.2.1, ()), ()), (v5.1.1, (v5.1.2.1.1, v5.1.2.1.2.1, (v5.1.2.1.2.2.1.1, v5.1.2.1.2.2.1.2.1, v5.1.2.1.2.2.1.2.2.1, v5.1.2.1.2.2.1.2.2.2.1, v5.1.2.1.2.2.1.2.2.2.2.1, ()), v5.1.2.1.2.2.2.1, ()), ()), ()) with
              | none => none
              | some v22 =>
              match (!v22.1) with
              | true =>
               some (false, ())
              | false =>
               match (v21.2.1 != v5.2.1) with
               | true =>
                some (false, ())
               | false =>
                match l_heldVerdict ((v8.1.1, (v8.1.2.1.1, v8.1.2.1.2.1, (v8.1.2.1.2.2.1.1, v8.1.2.1.2.2.1.2.1, v8.1.2.1.2.2.1.2.2.1, v8.1.2.1.2.2.1.2.2.2.1, v8.1.2.1.2.2.1.2.2.2.2.1, ()), v17.2.1.2.1.2.2.2.1, ()), ()), (1 : Int), ()) with
                | none => none
                | some v23 =>
                match (decide (v23.1 < (0 : Int))) with
                | true =>
                 some (false, ())
                | false =>
                 match (v23.1 != v17.1) with
                 | true =>
                  some (false, ())
                 | false =>
                  some (true, ())))) (
   match l_toVerdict ((x.1.1, (x.1.2.1.1, x.1.2.1.2.1, (x.1.2.1.2.2.1.1, x.1.2.1.2.2.1.2.1, x.1.2.1.2.2.1.2.2.1, x.1.2.1.2.2.1.2.2.2.1, x.1.2.1.2.2.1.2.2.2.2.1, ()), x.1.2.1.2.2.2.1, ()), ()), ()) with
   | none => none
   | some v3 =>
   match l_toVerdict ((x.2.1.1, (x.2.1.2.1.1, x.2.1.2.1.2.1, (x.2.1.2.1.2.2.1.1, x.2.1.2.1.2.2.1.2.1, x.2.1.2.1.2.2.1.2.2.1, x.2.1.2.1.2.2.1.2.2.2.1, x.2.1.2.1.2.2.1.2.2.2.2.1, ()), x.2.1.2.1.2.2.2.1, ()), ()), ()) with
   | none => none
   | some v4 =>
   match s_MergeVerdicts ((v3.1.1, (v3.1.2.1.1, v3.1.2.1.2.1, (v3.1.2.1.2.2.1.1, v3.1.2.1.2.2.1.2.1, v3.1.2.1.2.2.1.2.2.1, v3.1.2.1.2.2.1.2.2.2.1, v3.1.2.1.2.2.1.2.2.2.2.1, ()), v3.1.2.1.2.2.2.1, ()), ()), (v4.1.1, (v4.1.2.1.1, v4.1.2.1.2.1, (v4.1.2.1.2.2.1.1, v4.1.2.1.2.2.1.2.1, v4.1.2.1.2.2.1.2.2.1, v4.1.2.1.2.2.1.2.2.2.1, v4.1.2.1.2.2.1.2.2.2.2.1, ()), v4.1.2.1.2.2.2.1, ()), ()), ()) with
   | none => none
   | some v5 =>
   match l_toVerdict ((x.1.1, (x.1.2.1.1, x.1.2.1.2.1, (x.1.2.1.2.2.1.1, x.1.2.1.2.2.1.2.1, x.1.2.1.2.2.1.2.2.1, x.1.2.1.2.2.1.2.2.2.1, x.1.2.1.2.2.1.2.2.2.2.1, ()), x.1.2.1.2.2.2.1, ()), ()), ()) with
   | none => none
   | some v6 =>
   match l_toVerdict ((x.2.1.1, (x.2.1.2.1.1, x.2.1.2.1.2.1, (x.2.1.2.1.2.2.1.1, x.2.1.2.1.2.2.1.2.1, x.2.1.2.1.2.2.1.2.2.1, x.2.1.2.1.2.2.1.2.2.2.1, x.2.1.2.1.2.2.1.2.2.2.2.1, ()), x.2.1.2.1.2.2.2.1, ()), ()), ()) with
   | none => none
   | some v7 =>
   match i_MergeVerdicts ((v6.1.1, (v6.1.2.1.1, v6.1.2.1.2.1, (v6.1.2.1.2.2.1.1, v6.1.2.1.2.2.1.2.1, v6.1.2.1.2.2.1.2.2.1, v6.1.2.1.2.2.1.2.2.2.1, v6.1.2.1.2.2.1.2.2.2.2.1, ()), v6.1.2.1.2.2.2.1, ()), ()), (v7.1.1, (v7.1.2.1.1, v7.1.2.1.2.1, (v7.1.2.1.2.2.1.1, v7.1.2.1.2.2.1.2.1, v7.1.2.1.2.2.1.2.2.1, v7.1.2.1.2.2.1.2.2.2.1, v7.1.2.1.2.2.1.2.2.2.2.1, ()), v7.1.2.1.2.2.2.1, ()), ()), ()) with
   | none => none
   | some v8 =>
   match l_eqVerdict ((v8.1.1, (v8.1.2.1.1, v8.1.2.1.2.1, (v8.1.2.1.2.2.1.1, v8.1.2.1.2.2.1.2.1, v8.1.2.1.2.2.1.2.2.1, v8.1.2.1.2.2.1.2.2.2.1, v8.1.2.1.2.2.1.2.2.2.2.1, ()), v8.1.2.1.2.2.2.1, ()), ()), (v5.1.1, (v5.1.2.1.1, v5.1.2.1.2.1, (v5.1.2.1.2.2.1.1, v5.1.2.1.2.2.1.2.1, v5.1.2.1.2.2.1.2.2.1, v5.1.2.1.2.2.1.2.2.2.1, v5.1.2.1.2.2.1.2.2.2.2.1, ()), v5.1.2.1.2.2.2.1, ()), ()), ()) with
   | none => none
   | some v9 =>
   match (!v9.1) with
   | true =>
    some (false, ())
   | false =>
    match (v8.2.1 != v5.2.1) with
    | true =>
     some (false, ())
    | false =>
     match l_toVerdict ((x.1.1, (x.1.2.1.1, x.1.2.1.2.1, (x.1.2.1.2.2.1.1, x.1.2.1.2.2.1.2.1, x.1.2.1.2.2.1.2.2.1, x.1.2.1.2.2.1.2.2.2.1, x.1.2.1.2.2.1.2.2.2.2.1, ()), x.1.2.1.2.2.2.1, ()), ()), ()) with
     | none => none
     | some v10 =>
     match l_eqVerdict ((v6.1.1, (v6.1.2.1.1, v6.1.2.1.2.1, (v6.1.2.1.2.2.1.1, v6.1.2.1.2.2.1.2.1, v6.1.2.1.2.2.1.2.2.1, v6.1.2.1.2.2.1.2.2.2.1, v6.1.2.1.2.2.1.2.2.2.2.1, ()), v6.1.2.1.2.2.2.1, ()), ()), (v10.1.1, (v10.1.2.1.1, v10.1.2.1.2.1, (v10.1.2.1.2.2.1.1, v10.1.2.1.2.2.1.2.1, v10.1.2.1.2.2.1.2.2.1, v10.1.2.1.2.2.1.2.2.2.1, v10.1.2.1.2.2.1.2.2.2.2.1, ()), v10.1.2.1.2.2.2.1, ()), ()), ()) with
     | none => none
     | some v11 =>
     match (!v11.1) with
     | true =>
      some (false, ())
     | false =>
      match l_toVerdict ((x.2.1.1, (x.2.1.2.1.1, x.2.1.2.1.2.1, (x.2.1.2.1.2.2.1.1, x.2.1.2.1.2.2.1.2.1, x.2.1.2.1.2.2.1.2.2.1, x.2.1.2.1.2.2.1.2.2.2.1, x.2.1.2.1.2.2.1.2.2.2.2.1, ()), x.2.1.2.1.2.2.2.1, ()), ()), ()) with
      | none => none
      | some v12 =>
      match l_eqVerdict ((v7.1.1, (v7.1.2.1.1, v7.1.2.1.2.1, (v7.1.2.1.2.2.1.1, v7.1.2.1.2.2.1.2.1, v7.1.2.1.2.2.1.2.2.1, v7.1.2.1.2.2.1.2.2.2.1, v7.1.2.1.2.2.1.2.2.2.2.1, ()), v7.1.2.1.2.2.2.1, ()), ()), (v12.1.1, (v12.1.2.1.1, v12.1.2.1.2.1, (v12.1.2.1.2.2.1.1, v12.1.2.1.2.2.1.2.1, v12.1.2.1.2.2.1.2.2.1, v12.1.2.1.2.2.1.2.2.2.1, v12.1.2.1.2.2.1.2.2.2.2.1, ()), v12.1.2.1.2.2.2.1, ()), ()), ()) with
      | none => none
      | some v13 =>
      match (!v13.1) with
      | true =>
       some (false, ())
      | false =>
       match l_markVerdict ((v6.1.1, (v6.1.2.1.1, v6.1.2.1.2.1, (v6.1.2.1.2.2.1.1, v6.1.2.1.2.2.1.2.1, v6.1.2.1.2.2.1.2.2.1, v6.1.2.1.2.2.1.2.2.2.1, v6.1.2.1.2.2.1.2.2.2.2.1, ()), v6.1.2.1.2.2.2.1, ()), ()), (1 : Int), ()) with
       | none => none
       | some v14 =>
       match l_markVerdict ((v7.1.1, (v7.1.2.1.1, v7.1.2.1.2.1, (v7.1.2.1.2.2.1.1, v7.1.2.1.2.2.1.2.1, v7.1.2.1.2.2.1.2.2.1, v7.1.2.1.2.2.1.2.2.2.1, v7.1.2.1.2.2.1.2.2.2.2.1, ()), v7.1.2.1.2.2.2.1, ()), ()), v14.1, ()) with
       | none => none
       | some v15 =>
       match (decide (v15.1 < (0 : Int))) with
       | true =>
        some (false, ())
       | false =>
        match l_eqVerdict ((v8.1.1, (v8.1.2.1.1, v8.1.2.1.2.1, (v8.1.2.1.2.2.1.1, v8.1.2.1.2.2.1.2.1, v8.1.2.1.2.2.1.2.2.1, v8.1.2.1.2.2.1.2.2.2.1, v8.1.2.1.2.2.1.2.2.2.2.1, ()), v8.1.2.1.2.2.2.1, ()), ()), (v5.1.1, (v5.1.2.1.1, v5.1.2.1.2.1, (v5.1.2.1.2.2.1.1, v5.1.2.1.2.2.1.2.1, v5.1.2.1.2.2.1.2.2.1, v5.1.2.1.2.2.1.2.2.2.1, v5.1.2.1.2.2.1.2.2.2.2.1, ()), v5.1.2.1.2.2.2.1, ()), ()), ()) with
        | none => none
        | some v16 =>
        match (!v16.1) with
        | true =>
         some (false, ())
        | false =>
         match (v8.2.1 != v5.2.1) with
         | true =>
          some (false, ())
         | false =>
          match l_markVerdict ((v8.1.1, (v8.1.2.1.1, v8.1.2.1.2.1, (v8.1.2.1.2.2.1.1, v8.1.2.1.2.2.1.2.1, v8.1.2.1.2.2.1.2.2.1, v8.1.2.1.2.2.1.2.2.2.1, v8.1.2.1.2.2.1.2.2.2.2.1, ()), v8.1.2.1.2.2.2.1, ()), ()), (1 : Int), ()) with
          | none => none
          | some v17 =>
          match l_heldVerdict ((v8.1.1, (v8.1.2.1.1, v8.1.2.1.2.1, (v8.1.2.1.2.2.1.1, v8.1.2.1.2.2.1.2.1, v8.1.2.1.2.2.1.2.2.1, v8.1.2.1.2.2.1.2.2.2.1, v8.1.2.1.2.2.1.2.2.2.2.1, ()), v17.2.1.2.1.2.2.2.1, ()), ()), (1 : Int), ()) with
          | none => none
          | some v18 =>
          match (decide (v18.1 < (0 : Int))) with
          | true =>
           some (false, ())
          | false =>
           match (v18.1 != v17.1) with
           | true =>
            some (false, ())
           | false =>
            both (
             match l_toVerdict ((x.1.1, (x.1.2.1.1, x.1.2.1.2.1, (x.1.2.1.2.2.1.1, x.1.2.1.2.2.1.2.1, x.1.2.1.2.2.1.2.2.1, x.1.2.1.2.2.1.2.2.2.1, x.1.2.1.2.2.1.2.2.2.2.1, ()), x.1.2.1.2.2.2.1, ()), ()), ()) with
             | none => none
             | some v19 =>
             both (
              match l_toVerdict ((x.2.1.1, (x.2.1.2.1.1, x.2.1.2.1.2.1, (x.2.1.2.1.2.2.1.1, x.2.1.2.1.2.2.1.2.1, x.2.1.2.1.2.2.1.2.2.1, x.2.1.2.1.2.2.1.2.2.2.1, x.2.1.2.1.2.2.1.2.2.2.2.1, ()), x.2.1.2.1.2.2.2.1, ()), ()), ()) with
              | none => none
              | some v20 =>
              same (
               match i_MergeVerdicts ((v19.1.1, (v19.1.2.1.1, v19.1.2.1.2.1, (v19.1.2.1.2.2.1.1, v19.1.2.1.2.2.1.2.1, v19.1.2.1.2.2.1.2.2.1, v19.1.2.1.2.2.1.2.2.2.1, v19.1.2.1.2.2.1.2.2.2.2.1, ()), v19.1.2.1.2.2.2.1, ()), ()), (v20.1.1, (v20.1.2.1.1, v20.1.2.1.2.1, (v20.1.2.1.2.2.1.1, v20.1.2.1.2.2.1.2.1, v20.1.2.1.2.2.1.2.2.1, v20.1.2.1.2.2.1.2.2.2.1, v20.1.2.1.2.2.1.2.2.2.2.1, ()), v20.1.2.1.2.2.2.1, ()), ()), ()) with
               | none => none
               | some v21 =>
               match l_eqVerdict ((v21.1.1, (v21.1.2.1.1, v21.1.2.1.2.1, (v21.1.2.1.2.2.1.1, v21.1.2.1.2.2.1.2.1, v21.1.2.1.2.2.1.2.2.1, v21.1.2.1.2.2.1.2.2.2.1, v21.1.2.1.2.2.1.2.2.2.2.1, ()), v21.1.2.1.2.2.2.1, ()), ()), (v5.1.1, (v5.1.2.1.1, v5.1.2.1.2.1, (v5.1.2.1.2.2.1.1, v5.1.2.1.2.2.1.2.1, v5.1.2.1.2.2.1.2.2.1, v5.1.2.1.2.2.1.2.2.2.1, v5.1.2.1.2.2.1.2.2.2.2.1, ()), v5.1.2.1.2.2.2.1, ()), ()), ()) with
               | none => none
               | some v22 =>
               match (!v22.1) with
               | true =>
                some (false, ())
               | false =>
                match (v21.2.1 != v5.2.1) with
                | true =>
                 some (false, ())
                | false =>
                 match l_heldVerdict ((v8.1.1, (v8.1.2.1.1, v8.1.2.1.2.1, (v8.1.2.1.2.2.1.1, v8.1.2.1.2.2.1.2.1, v8.1.2.1.2.2.1.2.2.1, v8.1.2.1.2.2.1.2.2.2.1, v8.1.2.1.2.2.1.2.2.2.2.1, ()), v17.2.1.2.1.2.2.2.1, ()), ()), (1 : Int), ()) with
                 | none => none
                 | some v23 =>
                 match (decide (v23.1 < (0 : Int))) with
                 | true =>
                  some (false, ())
                 | false =>
                  match (v23.1 != v17.1) with
                  | true =>
                   some (false, ())
                  | false =>
                   some (true, ()))) (
              match l_toVerdict ((x.2.1.1, (x.2.1.2.1.1, x.2.1.2.1.2.1, (x.2.1.2.1.2.2.1.1, x.2.1.2.1.2.2.1.2.1, x.2.1.2.1.2.2.1.2.2.1, x.2.1.2.1.2.2.1.2.2.2.1, x.2.1.2.1.2.2.1.2.2.2.2.1, ()), x.2.1.2.1.2.2.2.1, ()), ()), ()) with
              | none => none
              | some v20 =>
              match i_MergeVerdicts ((v19.1.1, (v19.1.2.1.1, v19.1.2.1.2.1, (v19.1.2.1.2.2.1.1, v19.1.2.1.2.2.1.2.1, v19.1.2.1.2.2.1.2.2.1, v19.1.2.1.2.2.1.2.2.2.1, v19.1.2.1.2.2.1.2.2.2.2.1, ()), v19.1.2.1.2.2.2.1, ()), ()), (v20.1.1, (v20.1.2.1.1, v20.1.2.1.2.1, (v20.1.2.1.2.2.1.1, v20.1.2.1.2.2.1.2.1, v20.1.2.1.2.2.1.2.2.1, v20.1.2.1.2.2.1.2.2.2.1, v20.1.2.1.2.2.1.2.2.2.2.1, ()), v20.1.2.1.2.2.2.1, ()), ()), ()) with
              | none => none
              | some v21 =>
              match l_eqVerdict ((v21.1.1, (v21.1.2.1.1, v21.1.2.1.2.1, (v21.1.2.1.2.2.1.1, v21.1.2.1.2.2.1.2.1, v21.1.2.1.2.2.1.2.2.1, v21.1.2.1.2.2.1.2.2.2.1, v21.1.2.1.2.2.1.2.2.2.2.1, ()), v21.1.2.1.2.2.2.1, ()), ()), (v5.1.1, (v5.1.2.1.1, v5.1.2.1.2.1, (v5.1.2.1.2.2.1.1, v5.1.2.1.2.2.1.2.1, v5.1.2.1.2.2.1.2.2.1, v5.1.2.1.2.2.1.2.2.2.1, v5.1.2.1.2.2.1.2.2.2.2.1, ()), v5.1.2.1.2.2.2.1, ()), ()), ()) with
              | none => none
              | some v22 =>
              match (!v22.1) with
              | true =>
               some (false, ())
              | false =>
               match (v21.2.1 != v5.2.1) with
               | true =>
                some (false, ())
               | false =>
                match l_heldVerdict ((v8.1.1, (v8.1.2.1.1, v8.1.2.1.2.1, (v8.1.2.1.2.2.1.1, v8.1.2.1.2.2.1.2.1, v8.1.2.1.2.2.1.2.2.1, v8.1.2.1.2.2.1.2.2.2.1, v8.1.2.1.2.2.1.2.2.2.2.1, ()), v17.2.1.2.1.2.2.2.1, ()), ()), (1 : Int), ()) with
                | none => none
                | some v23 =>
                match (decide (v23.1 < (0 : Int))) with
                | true =>
                 some (false, ())
                | false =>
                 match (v23.1 != v17.1) with
                 | true =>
                  some (false, ())
                 | false =>
                  some (true, ()))) (
             match l_toVerdict ((x.1.1, (x.1.2.1.1, x.1.2.1.2.1, (x.1.2.1.2.2.1.1, x.1.2.1.2.2.1.2.1, x.1.2.1.2.2.1.2.2.1, x.1.2.1.2.2.1.2.2.2.1, x.1.2.1.2.2.1.2.2.2.2.1, ()), x.1.2.1.2.2.2.1, ()), ()), ()) with
             | none => none
             | some v19 =>
             match l_toVerdict ((x.2.1.1, (x.2.1.2.1.1, x.2.1.2.1.2.1, (x.2.1.2.1.2.2.1.1, x.2.1.2.1.2.2.1.2.1, x.2.1.2.1.2.2.1.2.2.1, x.2.1.2.1.2.2.1.2.2.2.1, x.2.1.2.1.2.2.1.2.2.2.2.1, ()), x.2.1.2.1.2.2.2.1, ()), ()), ()) with
             | none => none
             | some v20 =>
             match i_MergeVerdicts ((v19.1.1, (v19.1.2.1.1, v19.1.2.1.2.1, (v19.1.2.1.2.2.1.1, v19.1.2.1.2.2.1.2.1, v19.1.2.1.2.2.1.2.2.1, v19.1.2.1.2.2.1.2.2.2.1, v19.1.2.1.2.2.1.2.2.2.2.1, ()), v19.1.2.1.2.2.2.1, ()), ()), (v20.1.1, (v20.1.2.1.1, v20.1.2.1.2.1, (v20.1.2.1.2.2.1.1, v20.1.2.1.2.2.1.2.1, v20.1.2.1.2.2.1.2.2.1, v20.1.2.1.2.2.1.2.2.2.1, v20.1.2.1.2.2.1.2.2.2.2.1, ()), v20.1.2.1.2.2.2.1, ()), ()), ()) with
             | none => none
             | some v21 =>
             match l_eqVerdict ((v21.1.1, (v21.1.2.1.1, v21.1.2.1.2.1, (v21.1.2.1.2.2.1.1, v21.1.2.1.2.2.1.2.1, v21.1.2.1.2.2.1.2.2.1, v21.1.2.1.2.2.1.2.2.2.1, v21.1.2.1.2.2.1.2.2.2.2.1, ()), v21.1.2.1.2.2.2.1, ()), ()), (v5.1.1, (v5.1.2.1.1, v5.1.2.1.2.1, (v5.1.2.1.2.2.1.1, v5.1.2.1.2.2.1.2.1, v5.1.2.1.2.2.1.2.2.1, v5.1.2.1.2.2.1.2.2.2.1, v5.1.2.1.2.2.1.2.2.2.2.1, ()), v5.1.2.1.2.2.2.1, ()), ()), ()) with
             | none => none
             | some v22 =>
             match (!v22.1) with
             | true =>
              some (false, ())
             | false =>
              match (v21.2.1 != v5.2.1) with
              | true =>
               some (false, ())
              | false =>
               match l_heldVerdict ((v8.1.1, (v8.1.2.1.1, v8.1.2.1.2.1, (v8.1.2.1.2.2.1.1, v8.1.2.1.2.2.1.2.1, v8.1.2.1.2.2.1.2.2.1, v8.1.2.1.2.2.1.2.2.2.1, v8.1.2.1.2.2.1.2.2.2.2.1, ()), v17.2.1.2.1.2.2.2.1, ()), ()), (1 : Int), ()) with
               | none => none
               | some v23 =>
               match (decide (v23.1 < (0 : Int))) with
               | true =>
                some (false, ())
               | false =>
                match (v23.1 != v17.1) with
                | true =>
                 some (false, ())
                | false =>
                 some (true, ())))
noncomputable def S_l_FnExactMergeVerdicts : Spec := ⟨(.pair TVerdict (.pair TVerdict .unit)), (.pair .bool .unit), .unit, rfl, l_FnExactMergeVerdicts⟩
noncomputable def σ_l_FnExactMergeVerdicts : FuncId → Option Spec := sig [(44, S_i_MergeVerdicts), (45, S_s_MergeVerdicts), (48, S_l_szVerdict), (49, S_l_toVerdict), (50, S_l_eqVerdict), (51, S_l_markVerdict), (52, S_l_heldVerdict)]
theorem σok_l_FnExactMergeVerdicts : ∀ f s, σ_l_FnExactMergeVerdicts f = some s → FnOK Try.prog f s := sig_ok (l := [(44, S_i_MergeVerdicts), (45, S_s_MergeVerdicts), (48, S_l_szVerdict), (49, S_l_toVerdict), (50, S_l_eqVerdict), (51, S_l_markVerdict), (52, S_l_heldVerdict)]) ⟨ok_i_MergeVerdicts, ok_s_MergeVerdicts, ok_l_szVerdict, ok_l_toVerdict, ok_l_eqVerdict, ok_l_markVerdict, ok_l_heldVerdict, trivial⟩
noncomputable def Λ_l_FnExactMergeVerdicts : Nat → Option LSpec := lkp (loopList (bodyOf Try.f9)) []
theorem ok_l_FnExactMergeVerdicts : FnOK Try.prog 9 S_l_FnExactMergeVerdicts := fn_ok (Λ := Λ_l_FnExactMergeVerdicts) tab0 σok_l_FnExactMergeVerdicts Try.func9 (by kernel_rfl) (show Try.f9.body = some (bodyOf Try.f9) by kernel_rfl) [] rfl (by kernel_rfl) (by exact trivial) (by kernel_rfl)
  fun x y h => (show execFn Γ0 E0 σ_l_FnExactMergeVerdicts Λ_l_FnExactMergeVerdicts Try.f9 S_l_FnExactMergeVerdicts x = l_FnExactMergeVerdicts x by kernel_rfl).trans h

noncomputable def b_l_szVerdictS_5 (x : (Ty.T (.pair (.list TVerdict) (.pair (.int .i64) (.pair (.int .i64) .unit))))) : Option ((Ty.T (.pair (.list TVerdict) (.pair (.int .i64) (.pair (.int .i64) .unit)))) ⊕ ((Ty.T (.pair (.int .i64) .unit)) ⊕ (Ty.T (.pair (.int .i64) .unit)))) :=
match (decide (x.2.2.1 < (x.1.length : Int))) with
| true =>
 onSome (idx x.1 x.2.2.1) fun v1 =>
 match l_szVerdict (v1, x.2.1, ()) with
 | none => none
 | some v2 =>
 match (decide (v2.1 < (0 : Int))) with
 | true =>
  some (.inr (.inr ((-1 : Int), ())))
 | false =>
  some (.inl (x.1, v2.1, (IntKind.i64.wrap (x.2.2.1 + (1 : Int))), ()))
| false =>
 some (.inr (.inl (x.2.1, ())))
noncomputable def l_szVerdictS (x : Ty.T (.pair (.list TVerdict) (.pair (.int .i64) .unit))) : Option (Ty.T (.pair (.int .i64) .unit)) :=
match (decide ((IntKind.i64.wrap (x.2.1 - (x.1.length : Int))) < (0 : Int))) with
| true =>
 some ((-1 : Int), ())
| false =>
 match loopL b_l_szVerdictS_5 (x.1, (IntKind.i64.wrap (x.2.1 - (x.1.length : Int))), (0 : Int), ()) with
 | none => none
 | some (.inl v3) =>
  some (v3.1, ())
 | some (.inr v4) =>
  some (v4.1, ())
noncomputable def S_l_szVerdictS : Spec := ⟨(.pair (.list TVerdict) (.pair (.int .i64) .unit)), (.pair (.int .i64) .unit), .unit, rfl, l_szVerdictS⟩
noncomputable def σ_l_szVerdictS : FuncId → Option Spec := sig [(48, S_l_szVerdict)]
theorem σok_l_szVerdictS : ∀ f s, σ_l_szVerdictS f = some s → FnOK Try.prog f s := sig_ok (l := [(48, S_l_szVerdict)]) ⟨ok_l_szVerdict, trivial⟩
noncomputable def Λ_l_szVerdictS : Nat → Option LSpec := lkp (loopList (bodyOf Try.f53)) [⟨[0, 1, 5], (.pair (.list TVerdict) (.pair (.int .i64) (.pair (.int .i64) .unit))), 0, [1], (.pair (.int .i64) .unit), [4], (.pair (.int .i64) .unit), loopL b_l_szVerdictS_5⟩]
theorem lok_l_szVerdictS_5 (x) : codeK Γ0 E0 σ_l_szVerdictS Λ_l_szVerdictS Try.f53.ntmps (nthLoop Try.f53 0) (mkF Try.f53.ntmps [0, 1, 5] (.pair (.list TVerdict) (.pair (.int .i64) (.pair (.int .i64) .unit))) x) (readK σ_l_szVerdictS Try.f53.ntmps [0, 1, 5] (.pair (.list TVerdict) (.pair (.int .i64) (.pair (.int .i64) .unit))) 0 [1] (.pair (.int .i64) .unit) [4] (.pair (.int .i64) .unit)) = b_l_szVerdictS_5 x := by kernel_rfl
theorem ok_l_szVerdictS : FnOK Try.prog 53 S_l_szVerdictS := fn_ok (Λ := Λ_l_szVerdictS) tab0 σok_l_szVerdictS Try.func53 (by kernel_rfl) (show Try.f53.body = some (bodyOf Try.f53) by kernel_rfl) [⟨[0, 1, 5], (.pair (.list TVerdict) (.pair (.int .i64) (.pair (.int .i64) .unit))), 0, [1], (.pair (.int .i64) .unit), [4], (.pair (.int .i64) .unit), loopL b_l_szVerdictS_5⟩] rfl (by kernel_rfl) (by exact ⟨loop_LOK (lok_l_szVerdictS_5), trivial⟩) (by kernel_rfl)
  fun x y h => (show execFn Γ0 E0 σ_l_szVerdictS Λ_l_szVerdictS Try.f53 S_l_szVerdictS x = l_szVerdictS x by kernel_rfl).trans h

noncomputable def b_s_CountStatuses_5 (x : (Ty.T (.pair (.list TVerdict) (.pair (.own 2 (.int .i64)) (.pair (.int .i64) .unit))))) : Option ((Ty.T (.pair (.list TVerdict) (.pair (.own 2 (.int .i64)) (.pair (.int .i64) .unit)))) ⊕ ((Ty.T (.pair (.own 2 (.int .i64)) .unit)) ⊕ (Ty.T (.pair (.own 2 (.int .i64)) (.pair (.int .i64) .unit))))) :=
match (decide (x.2.2.1 < (x.1.length : Int))) with
| true =>
 onSome (idx x.1 x.2.2.1) fun v1 =>
 match s_IsVerdict (v1, ()) with
 | none => none
 | some v2 =>
 match (!v2.1) with
 | true =>
  some (.inr (.inr ([], (1 : Int), ())))
 | false =>
  onSome (idx x.1 x.2.2.1) fun v3 =>
  onSome (idx x.2.1 v3.1) fun _ =>
  match x.2.1[v3.1.toNat]? with
  | none => none
  | some v5 =>
  onSome (idx x.2.1 v3.1) fun _ =>
  match x.2.1[v3.1.toNat]? with
  | none => none
  | some v7 =>
  some (.inl (x.1, (x.2.1.set v3.1.toNat (IntKind.i64.wrap (v5 + (1 : Int)))), (IntKind.i64.wrap (x.2.2.1 + (1 : Int))), ()))
| false =>
 some (.inr (.inl (x.2.1, ())))
noncomputable def s_CountStatuses (x : Ty.T (.pair (.list TVerdict) .unit)) : Option (Ty.T (.pair (.own 2 (.int .i64)) (.pair (.int .i64) .unit))) :=
match (decide ((x.1.length : Int) > (8192 : Int))) with
| true =>
 some ([], (3 : Int), ())
| false =>
 match loopL b_s_CountStatuses_5 (x.1, [(0 : Int), (0 : Int), (0 : Int), (0 : Int), (0 : Int)], (0 : Int), ()) with
 | none => none
 | some (.inl v8) =>
  some (v8.1, (0 : Int), ())
 | some (.inr v9) =>
  some (v9.1, v9.2.1, ())
noncomputable def S_s_CountStatuses : Spec := ⟨(.pair (.list TVerdict) .unit), (.pair (.own 2 (.int .i64)) (.pair (.int .i64) .unit)), .unit, rfl, s_CountStatuses⟩
noncomputable def σ_s_CountStatuses : FuncId → Option Spec := sig [(101, S_s_IsVerdict)]
theorem σok_s_CountStatuses : ∀ f s, σ_s_CountStatuses f = some s → FnOK Try.prog f s := sig_ok (l := [(101, S_s_IsVerdict)]) ⟨ok_s_IsVerdict, trivial⟩
noncomputable def Λ_s_CountStatuses : Nat → Option LSpec := lkp (loopList (bodyOf Try.f54)) [⟨[0, 4, 5], (.pair (.list TVerdict) (.pair (.own 2 (.int .i64)) (.pair (.int .i64) .unit))), 0, [4], (.pair (.own 2 (.int .i64)) .unit), [2, 3], (.pair (.own 2 (.int .i64)) (.pair (.int .i64) .unit)), loopL b_s_CountStatuses_5⟩]
theorem lok_s_CountStatuses_5 (x) : codeK Γ0 E0 σ_s_CountStatuses Λ_s_CountStatuses Try.f54.ntmps (nthLoop Try.f54 0) (mkF Try.f54.ntmps [0, 4, 5] (.pair (.list TVerdict) (.pair (.own 2 (.int .i64)) (.pair (.int .i64) .unit))) x) (readK σ_s_CountStatuses Try.f54.ntmps [0, 4, 5] (.pair (.list TVerdict) (.pair (.own 2 (.int .i64)) (.pair (.int .i64) .unit))) 0 [4] (.pair (.own 2 (.int .i64)) .unit) [2, 3] (.pair (.own 2 (.int .i64)) (.pair (.int .i64) .unit))) = b_s_CountStatuses_5 x := by kernel_rfl
theorem ok_s_CountStatuses : FnOK Try.prog 54 S_s_CountStatuses := fn_ok (Λ := Λ_s_CountStatuses) tab0 σok_s_CountStatuses Try.func54 (by kernel_rfl) (show Try.f54.body = some (bodyOf Try.f54) by kernel_rfl) [⟨[0, 4, 5], (.pair (.list TVerdict) (.pair (.own 2 (.int .i64)) (.pair (.int .i64) .unit))), 0, [4], (.pair (.own 2 (.int .i64)) .unit), [2, 3], (.pair (.own 2 (.int .i64)) (.pair (.int .i64) .unit)), loopL b_s_CountStatuses_5⟩] rfl (by kernel_rfl) (by exact ⟨loop_LOK (lok_s_CountStatuses_5), trivial⟩) (by kernel_rfl)
  fun x y h => (show execFn Γ0 E0 σ_s_CountStatuses Λ_s_CountStatuses Try.f54 S_s_CountStatuses x = s_CountStatuses x by kernel_rfl).trans h

noncomputable def b_l_toVerdictS_3 (x : (Ty.T (.pair (.list TVerdict) (.pair (.own 56 (.pair (.int .i64) (.pair (.pair (.int .i64) (.pair (.int .i64) (.pair TState (.pair (.own 2 (.int .i64)) .unit)))) .unit))) (.pair (.int .i64) .unit))))) : Option ((Ty.T (.pair (.list TVerdict) (.pair (.own 56 (.pair (.int .i64) (.pair (.pair (.int .i64) (.pair (.int .i64) (.pair TState (.pair (.own 2 (.int .i64)) .unit)))) .unit))) (.pair (.int .i64) .unit)))) ⊕ ((Ty.T (.pair (.own 56 (.pair (.int .i64) (.pair (.pair (.int .i64) (.pair (.int .i64) (.pair TState (.pair (.own 2 (.int .i64)) .unit)))) .unit))) .unit)) ⊕ (Ty.T .unit))) :=
match (decide (x.2.2.1 < (x.1.length : Int))) with
| true =>
 onSome (idx x.1 x.2.2.1) fun v1 =>
 match l_toVerdict (v1, ()) with
 | none => none
 | some v2 =>
 onSome (idx x.2.1 x.2.2.1) fun _ =>
 match x.2.1[x.2.2.1.toNat]? with
 | none => none
 | some v4 =>
 some (.inl (x.1, (x.2.1.set x.2.2.1.toNat (v2.1.1, (v2.1.2.1.1, v2.1.2.1.2.1, (v2.1.2.1.2.2.1.1, v2.1.2.1.2.2.1.2.1, v2.1.2.1.2.2.1.2.2.1, v2.1.2.1.2.2.1.2.2.2.1, v2.1.2.1.2.2.1.2.2.2.2.1, ()), v2.1.2.1.2.2.2.1, ()), ())), (IntKind.i64.wrap (x.2.2.1 + (1 : Int))), ()))
| false =>
 some (.inr (.inl (x.2.1, ())))
noncomputable def l_toVerdictS (x : Ty.T (.pair (.list TVerdict) .unit)) : Option (Ty.T (.pair (.own 56 (.pair (.int .i64) (.pair (.pair (.int .i64) (.pair (.int .i64) (.pair TState (.pair (.own 2 (.int .i64)) .unit)))) .unit))) .unit)) :=
if 0 ≤ (x.1.length : Int) ∧ (x.1.length : Int) ≤ (x.1.length : Int) then
 room ((x.1.length : Int).toNat) (
  match loopL b_l_toVerdictS_3 (x.1, (List.replicate (x.1.length : Int).toNat ((0 : Int), ((0 : Int), (0 : Int), ((0 : Int), (0 : Int), (0 : Int), (0 : Int), (0 : Int), ()), [], ()), ())), (0 : Int), ()) with
  | none => none
  | some (.inl v5) =>
   some (v5.1, ())
  | some (.inr v7) =>
   none)
else none
noncomputable def S_l_toVerdictS : Spec := ⟨(.pair (.list TVerdict) .unit), (.pair (.own 56 (.pair (.int .i64) (.pair (.pair (.int .i64) (.pair (.int .i64) (.pair TState (.pair (.own 2 (.int .i64)) .unit)))) .unit))) .unit), .unit, rfl, l_toVerdictS⟩
noncomputable def σ_l_toVerdictS : FuncId → Option Spec := sig [(49, S_l_toVerdict)]
theorem σok_l_toVerdictS : ∀ f s, σ_l_toVerdictS f = some s → FnOK Try.prog f s := sig_ok (l := [(49, S_l_toVerdict)]) ⟨ok_l_toVerdict, trivial⟩
noncomputable def Λ_l_toVerdictS : Nat → Option LSpec := lkp (loopList (bodyOf Try.f55)) [⟨[0, 3, 4], (.pair (.list TVerdict) (.pair (.own 56 (.pair (.int .i64) (.pair (.pair (.int .i64) (.pair (.int .i64) (.pair TState (.pair (.own 2 (.int .i64)) .unit)))) .unit))) (.pair (.int .i64) .unit))), 0, [3], (.pair (.own 56 (.pair (.int .i64) (.pair (.pair (.int .i64) (.pair (.int .i64) (.pair TState (.pair (.own 2 (.int .i64)) .unit)))) .unit))) .unit), [], .unit, loopL b_l_toVerdictS_3⟩]
theorem lok_l_toVerdictS_3 (x) : codeK Γ2 E2 σ_l_toVerdictS Λ_l_toVerdictS Try.f55.ntmps (nthLoop Try.f55 0) (mkF Try.f55.ntmps [0, 3, 4] (.pair (.list TVerdict) (.pair (.own 56 (.pair (.int .i64) (.pair (.pair (.int .i64) (.pair (.int .i64) (.pair TState (.pair (.own 2 (.int .i64)) .unit)))) .unit))) (.pair (.int .i64) .unit))) x) (readK σ_l_toVerdictS Try.f55.ntmps [0, 3, 4] (.pair (.list TVerdict) (.pair (.own 56 (.pair (.int .i64) (.pair (.pair (.int .i64) (.pair (.int .i64) (.pair TState (.pair (.own 2 (.int .i64)) .unit)))) .unit))) (.pair (.int .i64) .unit))) 0 [3] (.pair (.own 56 (.pair (.int .i64) (.pair (.pair (.int .i64) (.pair (.int .i64) (.pair TState (.pair (.own 2 (.int .i64)) .unit)))) .unit))) .unit) [] .unit) = b_l_toVerdictS_3 x := by kernel_rfl
theorem ok_l_toVerdictS : FnOK Try.prog 55 S_l_toVerdictS := fn_ok (Λ := Λ_l_toVerdictS) tab2 σok_l_toVerdictS Try.func55 (by kernel_rfl) (show Try.f55.body = some (bodyOf Try.f55) by kernel_rfl) [⟨[0, 3, 4], (.pair (.list TVerdict) (.pair (.own 56 (.pair (.int .i64) (.pair (.pair (.int .i64) (.pair (.int .i64) (.pair TState (.pair (.own 2 (.int .i64)) .unit)))) .unit))) (.pair (.int .i64) .unit))), 0, [3], (.pair (.own 56 (.pair (.int .i64) (.pair (.pair (.int .i64) (.pair (.int .i64) (.pair TState (.pair (.own 2 (.int .i64)) .unit)))) .unit))) .unit), [], .unit, loopL b_l_toVerdictS_3⟩] rfl (by kernel_rfl) (by exact ⟨loop_LOK (lok_l_toVerdictS_3), trivial⟩) (by kernel_rfl)
  fun x y h => (show execFn Γ2 E2 σ_l_toVerdictS Λ_l_toVerdictS Try.f55 S_l_toVerdictS x = l_toVerdictS x by kernel_rfl).trans h

noncomputable def b_slices_IndexFunc_Verdict_2 (x : (Ty.T (.pair (.list TVerdict) (.pair (.fn (.pair TVerdict .unit) (.pair .bool .unit)) (.pair (.int .i64) (.pair (.int .i64) .unit)))))) : Option ((Ty.T (.pair (.list TVerdict) (.pair (.fn (.pair TVerdict .unit) (.pair .bool .unit)) (.pair (.int .i64) (.pair (.int .i64) .unit))))) ⊕ ((Ty.T .unit) ⊕ (Ty.T (.pair (.int .i64) .unit)))) :=
match (decide (x.2.2.2.1 < x.2.2.1)) with
| true =>
 onSome (idx x.1 x.2.2.2.1) fun v1 =>
 match x.2.1 (v1, ()) with
 | none => none
 | some v2 =>
 match v2.1 with
 | true =>
  some (.inr (.inr (x.2.2.2.1, ())))
 | false =>
  some (.inl (x.1, x.2.1, x.2.2.1, (IntKind.i64.wrap (x.2.2.2.1 + (1 : Int))), ()))
| false =>
 some (.inr (.inl (())))
noncomputable def slices_IndexFunc_Verdict (x : Ty.T (.pair (.list TVerdict) (.pair (.fn (.pair TVerdict .unit) (.pair .bool .unit)) .unit))) : Option (Ty.T (.pair (.int .i64) .unit)) :=
match loopL b_slices_IndexFunc_Verdict_2 (x.1, x.2.1, (x.1.length : Int), (0 : Int), ()) with
| none => none
| some (.inl v3) =>
 some ((-1 : Int), ())
| some (.inr v4) =>
 some (v4.1, ())
noncomputable def S_slices_IndexFunc_Verdict : Spec := ⟨(.pair (.list TVerdict) (.pair (.fn (.pair TVerdict .unit) (.pair .bool .unit)) .unit)), (.pair (.int .i64) .unit), .unit, rfl, slices_IndexFunc_Verdict⟩
noncomputable def σ_slices_IndexFunc_Verdict : FuncId → Option Spec := sig []
theorem σok_slices_IndexFunc_Verdict : ∀ f s, σ_slices_IndexFunc_Verdict f = some s → FnOK Try.prog f s := sig_ok (l := []) trivial
noncomputable def Λ_slices_IndexFunc_Verdict : Nat → Option LSpec := lkp (loopList (bodyOf Try.f140)) [⟨[0, 1, 7, 8], (.pair (.list TVerdict) (.pair (.fn (.pair TVerdict .unit) (.pair .bool .unit)) (.pair (.int .i64) (.pair (.int .i64) .unit)))), 0, [], .unit, [4], (.pair (.int .i64) .unit), loopL b_slices_IndexFunc_Verdict_2⟩]
theorem lok_slices_IndexFunc_Verdict_2 (x) : codeK Γ0 E0 σ_slices_IndexFunc_Verdict Λ_slices_IndexFunc_Verdict Try.f140.ntmps (nthLoop Try.f140 0) (mkF Try.f140.ntmps [0, 1, 7, 8] (.pair (.list TVerdict) (.pair (.fn (.pair TVerdict .unit) (.pair .bool .unit)) (.pair (.int .i64) (.pair (.int .i64) .unit)))) x) (readK σ_slices_IndexFunc_Verdict Try.f140.ntmps [0, 1, 7, 8] (.pair (.list TVerdict) (.pair (.fn (.pair TVerdict .unit) (.pair .bool .unit)) (.pair (.int .i64) (.pair (.int .i64) .unit)))) 0 [] .unit [4] (.pair (.int .i64) .unit)) = b_slices_IndexFunc_Verdict_2 x := by kernel_rfl
theorem ok_slices_IndexFunc_Verdict : FnOK Try.prog 140 S_slices_IndexFunc_Verdict := fn_ok (Λ := Λ_slices_IndexFunc_Verdict) tab0 σok_slices_IndexFunc_Verdict Try.func140 (by kernel_rfl) (show Try.f140.body = some (bodyOf Try.f140) by kernel_rfl) [⟨[0, 1, 7, 8], (.pair (.list TVerdict) (.pair (.fn (.pair TVerdict .unit) (.pair .bool .unit)) (.pair (.int .i64) (.pair (.int .i64) .unit)))), 0, [], .unit, [4], (.pair (.int .i64) .unit), loopL b_slices_IndexFunc_Verdict_2⟩] rfl (by kernel_rfl) (by exact ⟨loop_LOK (lok_slices_IndexFunc_Verdict_2), trivial⟩) (by kernel_rfl)
  fun x y h => (show execFn Γ0 E0 σ_slices_IndexFunc_Verdict Λ_slices_IndexFunc_Verdict Try.f140 S_slices_IndexFunc_Verdict x = slices_IndexFunc_Verdict x by kernel_rfl).trans h

noncomputable def slices_ContainsFunc_Verdict (x : Ty.T (.pair (.list TVerdict) (.pair (.fn (.pair TVerdict .unit) (.pair .bool .unit)) .unit))) : Option (Ty.T (.pair .bool .unit)) :=
match slices_IndexFunc_Verdict (x.1, x.2.1, ()) with
| none => none
| some v1 =>
some ((decide (v1.1 ≥ (0 : Int))), ())
noncomputable def S_slices_ContainsFunc_Verdict : Spec := ⟨(.pair (.list TVerdict) (.pair (.fn (.pair TVerdict .unit) (.pair .bool .unit)) .unit)), (.pair .bool .unit), .unit, rfl, slices_ContainsFunc_Verdict⟩
noncomputable def σ_slices_ContainsFunc_Verdict : FuncId → Option Spec := sig [(140, S_slices_IndexFunc_Verdict)]
theorem σok_slices_ContainsFunc_Verdict : ∀ f s, σ_slices_ContainsFunc_Verdict f = some s → FnOK Try.prog f s := sig_ok (l := [(140, S_slices_IndexFunc_Verdict)]) ⟨ok_slices_IndexFunc_Verdict, trivial⟩
noncomputable def Λ_slices_ContainsFunc_Verdict : Nat → Option LSpec := lkp (loopList (bodyOf Try.f114)) []
theorem ok_slices_ContainsFunc_Verdict : FnOK Try.prog 114 S_slices_ContainsFunc_Verdict := fn_ok (Λ := Λ_slices_ContainsFunc_Verdict) tab0 σok_slices_ContainsFunc_Verdict Try.func114 (by kernel_rfl) (show Try.f114.body = some (bodyOf Try.f114) by kernel_rfl) [] rfl (by kernel_rfl) (by exact trivial) (by kernel_rfl)
  fun x y h => (show execFn Γ0 E0 σ_slices_ContainsFunc_Verdict Λ_slices_ContainsFunc_Verdict Try.f114 S_slices_ContainsFunc_Verdict x = slices_ContainsFunc_Verdict x by kernel_rfl).trans h

noncomputable def i_areVerdicts_1 (x : Ty.T (.pair TVerdict .unit)) : Option (Ty.T (.pair .bool .unit)) :=
match i_IsVerdict ((x.1.1, (x.1.2.1.1, x.1.2.1.2.1, (x.1.2.1.2.2.1.1, x.1.2.1.2.2.1.2.1, x.1.2.1.2.2.1.2.2.1, x.1.2.1.2.2.1.2.2.2.1, x.1.2.1.2.2.1.2.2.2.2.1, ()), x.1.2.1.2.2.2.1, ()), ()), ()) with
| none => none
| some v1 =>
some ((!v1.1), ())
noncomputable def S_i_areVerdicts_1 : Spec := ⟨(.pair TVerdict .unit), (.pair .bool .unit), .unit, rfl, i_areVerdicts_1⟩
noncomputable def σ_i_areVerdicts_1 : FuncId → Option Spec := sig [(47, S_i_IsVerdict)]
theorem σok_i_areVerdicts_1 : ∀ f s, σ_i_areVerdicts_1 f = some s → FnOK Try.prog f s := sig_ok (l := [(47, S_i_IsVerdict)]) ⟨ok_i_IsVerdict, trivial⟩
noncomputable def Λ_i_areVerdicts_1 : Nat → Option LSpec := lkp (loopList (bodyOf Try.f139)) []
theorem ok_i_areVerdicts_1 : FnOK Try.prog 139 S_i_areVerdicts_1 := fn_ok (Λ := Λ_i_areVerdicts_1) tab0 σok_i_areVerdicts_1 Try.func139 (by kernel_rfl) (show Try.f139.body = some (bodyOf Try.f139) by kernel_rfl) [] rfl (by kernel_rfl) (by exact trivial) (by kernel_rfl)
  fun x y h => (show execFn Γ0 E0 σ_i_areVerdicts_1 Λ_i_areVerdicts_1 Try.f139 S_i_areVerdicts_1 x = i_areVerdicts_1 x by kernel_rfl).trans h

noncomputable def i_areVerdicts (x : Ty.T (.pair (.list TVerdict) .unit)) : Option (Ty.T (.pair .bool .unit)) :=
match slices_ContainsFunc_Verdict (x.1, i_areVerdicts_1, ()) with
| none => none
| some v1 =>
some ((!v1.1), ())
noncomputable def S_i_areVerdicts : Spec := ⟨(.pair (.list TVerdict) .unit), (.pair .bool .unit), .unit, rfl, i_areVerdicts⟩
noncomputable def σ_i_areVerdicts : FuncId → Option Spec := sig [(114, S_slices_ContainsFunc_Verdict), (139, S_i_areVerdicts_1)]
theorem σok_i_areVerdicts : ∀ f s, σ_i_areVerdicts f = some s → FnOK Try.prog f s := sig_ok (l := [(114, S_slices_ContainsFunc_Verdict), (139, S_i_areVerdicts_1)]) ⟨ok_slices_ContainsFunc_Verdict, ok_i_areVerdicts_1, trivial⟩
noncomputable def Λ_i_areVerdicts : Nat → Option LSpec := lkp (loopList (bodyOf Try.f112)) []
theorem ok_i_areVerdicts : FnOK Try.prog 112 S_i_areVerdicts := fn_ok (Λ := Λ_i_areVerdicts) tab0 σok_i_areVerdicts Try.func112 (by kernel_rfl) (show Try.f112.body = some (bodyOf Try.f112) by kernel_rfl) [] rfl (by kernel_rfl) (by exact trivial) (by kernel_rfl)
  fun x y h => (show execFn Γ0 E0 σ_i_areVerdicts Λ_i_areVerdicts Try.f112 S_i_areVerdicts x = i_areVerdicts x by kernel_rfl).trans h

noncomputable def b_i_CountStatuses_7 (x : (Ty.T (.pair (.own 2 (.int .i64)) (.pair (.list TVerdict) (.pair (.int .i64) (.pair (.int .i64) .unit)))))) : Option ((Ty.T (.pair (.own 2 (.int .i64)) (.pair (.list TVerdict) (.pair (.int .i64) (.pair (.int .i64) .unit))))) ⊕ ((Ty.T (.pair (.own 2 (.int .i64)) .unit)) ⊕ (Ty.T .unit))) :=
match (decide (x.2.2.2.1 < x.2.2.1)) with
| true =>
 onSome (idx x.2.1 x.2.2.2.1) fun v2 =>
 onSome (idx x.1 v2.1) fun _ =>
 match x.1[v2.1.toNat]? with
 | none => none
 | some v4 =>
 onSome (idx x.1 v2.1) fun _ =>
 match x.1[v2.1.toNat]? with
 | none => none
 | some v6 =>
 some (.inl ((x.1.set v2.1.toNat (IntKind.i64.wrap (v4 + (1 : Int)))), x.2.1, x.2.2.1, (IntKind.i64.wrap (x.2.2.2.1 + (1 : Int))), ()))
| false =>
 some (.inr (.inl (x.1, ())))
noncomputable def i_CountStatuses (x : Ty.T (.pair (.list TVerdict) .unit)) : Option (Ty.T (.pair (.own 2 (.int .i64)) (.pair (.int .i64) .unit))) :=
match (decide ((x.1.length : Int) > (8192 : Int))) with
| true =>
 some ([], (3 : Int), ())
| false =>
 match i_areVerdicts (x.1, ()) with
 | none => none
 | some v1 =>
 match (!v1.1) with
 | true =>
  some ([], (1 : Int), ())
 | false =>
  if 0 ≤ (5 : Int) ∧ (5 : Int) ≤ (5 : Int) then
   room ((5 : Int).toNat) (
    match loopL b_i_CountStatuses_7 ((List.replicate (5 : Int).toNat (0 : Int)), x.1, (x.1.length : Int), (0 : Int), ()) with
    | none => none
    | some (.inl v7) =>
     some (v7.1, (0 : Int), ())
    | some (.inr v9) =>
     none)
  else none
noncomputable def S_i_CountStatuses : Spec := ⟨(.pair (.list TVerdict) .unit), (.pair (.own 2 (.int .i64)) (.pair (.int .i64) .unit)), .unit, rfl, i_CountStatuses⟩
noncomputable def σ_i_CountStatuses : FuncId → Option Spec := sig [(112, S_i_areVerdicts)]
theorem σok_i_CountStatuses : ∀ f s, σ_i_CountStatuses f = some s → FnOK Try.prog f s := sig_ok (l := [(112, S_i_areVerdicts)]) ⟨ok_i_areVerdicts, trivial⟩
noncomputable def Λ_i_CountStatuses : Nat → Option LSpec := lkp (loopList (bodyOf Try.f56)) [⟨[4, 14, 15, 16], (.pair (.own 2 (.int .i64)) (.pair (.list TVerdict) (.pair (.int .i64) (.pair (.int .i64) .unit)))), 0, [4], (.pair (.own 2 (.int .i64)) .unit), [], .unit, loopL b_i_CountStatuses_7⟩]
theorem lok_i_CountStatuses_7 (x) : codeK Γ0 E0 σ_i_CountStatuses Λ_i_CountStatuses Try.f56.ntmps (nthLoop Try.f56 0) (mkF Try.f56.ntmps [4, 14, 15, 16] (.pair (.own 2 (.int .i64)) (.pair (.list TVerdict) (.pair (.int .i64) (.pair (.int .i64) .unit)))) x) (readK σ_i_CountStatuses Try.f56.ntmps [4, 14, 15, 16] (.pair (.own 2 (.int .i64)) (.pair (.list TVerdict) (.pair (.int .i64) (.pair (.int .i64) .unit)))) 0 [4] (.pair (.own 2 (.int .i64)) .unit) [] .unit) = b_i_CountStatuses_7 x := by kernel_rfl
theorem ok_i_CountStatuses : FnOK Try.prog 56 S_i_CountStatuses := fn_ok (Λ := Λ_i_CountStatuses) tab0 σok_i_CountStatuses Try.func56 (by kernel_rfl) (show Try.f56.body = some (bodyOf Try.f56) by kernel_rfl) [⟨[4, 14, 15, 16], (.pair (.own 2 (.int .i64)) (.pair (.list TVerdict) (.pair (.int .i64) (.pair (.int .i64) .unit)))), 0, [4], (.pair (.own 2 (.int .i64)) .unit), [], .unit, loopL b_i_CountStatuses_7⟩] rfl (by kernel_rfl) (by exact ⟨loop_LOK (lok_i_CountStatuses_7), trivial⟩) (by kernel_rfl)
  fun x y h => (show execFn Γ0 E0 σ_i_CountStatuses Λ_i_CountStatuses Try.f56 S_i_CountStatuses x = i_CountStatuses x by kernel_rfl).trans h

noncomputable def b_l_eqVerdictS_4 (x : (Ty.T (.pair (.list TVerdict) (.pair (.list TVerdict) (.pair (.int .i64) .unit))))) : Option ((Ty.T (.pair (.list TVerdict) (.pair (.list TVerdict) (.pair (.int .i64) .unit)))) ⊕ ((Ty.T .unit) ⊕ (Ty.T (.pair .bool .unit)))) :=
match (decide (x.2.2.1 < (x.1.length : Int))) with
| true =>
 onSome (idx x.1 x.2.2.1) fun v1 =>
 onSome (idx x.2.1 x.2.2.1) fun v2 =>
 match l_eqVerdict (v1, v2, ()) with
 | none => none
 | some v3 =>
 match (!v3.1) with
 | true =>
  some (.inr (.inr (false, ())))
 | false =>
  some (.inl (x.1, x.2.1, (IntKind.i64.wrap (x.2.2.1 + (1 : Int))), ()))
| false =>
 some (.inr (.inl (())))
noncomputable def l_eqVerdictS (x : Ty.T (.pair (.list TVerdict) (.pair (.list TVerdict) .unit))) : Option (Ty.T (.pair .bool .unit)) :=
match ((x.1.length : Int) != (x.2.1.length : Int)) with
| true =>
 some (false, ())
| false =>
 match loopL b_l_eqVerdictS_4 (x.1, x.2.1, (0 : Int), ()) with
 | none => none
 | some (.inl v4) =>
  some (true, ())
 | some (.inr v5) =>
  some (v5.1, ())
noncomputable def S_l_eqVerdictS : Spec := ⟨(.pair (.list TVerdict) (.pair (.list TVerdict) .unit)), (.pair .bool .unit), .unit, rfl, l_eqVerdictS⟩
noncomputable def σ_l_eqVerdictS : FuncId → Option Spec := sig [(50, S_l_eqVerdict)]
theorem σok_l_eqVerdictS : ∀ f s, σ_l_eqVerdictS f = some s → FnOK Try.prog f s := sig_ok (l := [(50, S_l_eqVerdict)]) ⟨ok_l_eqVerdict, trivial⟩
noncomputable def Λ_l_eqVerdictS : Nat → Option LSpec := lkp (loopList (bodyOf Try.f58)) [⟨[0, 1, 5], (.pair (.list TVerdict) (.pair (.list TVerdict) (.pair (.int .i64) .unit))), 0, [], .unit, [4], (.pair .bool .unit), loopL b_l_eqVerdictS_4⟩]
theorem lok_l_eqVerdictS_4 (x) : codeK Γ0 E0 σ_l_eqVerdictS Λ_l_eqVerdictS Try.f58.ntmps (nthLoop Try.f58 0) (mkF Try.f58.ntmps [0, 1, 5] (.pair (.list TVerdict) (.pair (.list TVerdict) (.pair (.int .i64) .unit))) x) (readK σ_l_eqVerdictS Try.f58.ntmps [0, 1, 5] (.pair (.list TVerdict) (.pair (.list TVerdict) (.pair (.int .i64) .unit))) 0 [] .unit [4] (.pair .bool .unit)) = b_l_eqVerdictS_4 x := by kernel_rfl
theorem ok_l_eqVerdictS : FnOK Try.prog 58 S_l_eqVerdictS := fn_ok (Λ := Λ_l_eqVerdictS) tab0 σok_l_eqVerdictS Try.func58 (by kernel_rfl) (show Try.f58.body = some (bodyOf Try.f58) by kernel_rfl) [⟨[0, 1, 5], (.pair (.list TVerdict) (.pair (.list TVerdict) (.pair (.int .i64) .unit))), 0, [], .unit, [4], (.pair .bool .unit), loopL b_l_eqVerdictS_4⟩] rfl (by kernel_rfl) (by exact ⟨loop_LOK (lok_l_eqVerdictS_4), trivial⟩) (by kernel_rfl)
  fun x y h => (show execFn Γ0 E0 σ_l_eqVerdictS Λ_l_eqVerdictS Try.f58 S_l_eqVerdictS x = l_eqVerdictS x by kernel_rfl).trans h

noncomputable def b_l_markVerdictS_2 (x : (Ty.T (.pair (.own 56 (.pair (.int .i64) (.pair (.pair (.int .i64) (.pair (.int .i64) (.pair TState (.pair (.own 2 (.int .i64)) .unit)))) .unit))) (.pair (.int .i64) (.pair (.int .i64) .unit))))) : Option ((Ty.T (.pair (.own 56 (.pair (.int .i64) (.pair (.pair (.int .i64) (.pair (.int .i64) (.pair TState (.pair (.own 2 (.int .i64)) .unit)))) .unit))) (.pair (.int .i64) (.pair (.int .i64) .unit)))) ⊕ ((Ty.T (.pair (.own 56 (.pair (.int .i64) (.pair (.pair (.int .i64) (.pair (.int .i64) (.pair TState (.pair (.own 2 (.int .i64)) .unit)))) .unit))) (.pair (.int .i64) .unit))) ⊕ (Ty.T .unit))) :=
match (decide (x.2.2.1 < (x.1.length : Int))) with
| true =>
 onSome (idx x.1 x.2.2.1) fun _ =>
 match x.1[x.2.2.1.toNat]? with
 | none => none
 | some v2 =>
 onSome (idx (x.1.set x.2.2.1.toNat (x.2.1, v2.2)) x.2.2.1) fun _ =>
 match (x.1.set x.2.2.1.toNat (x.2.1, v2.2))[x.2.2.1.toNat]? with
 | none => none
 | some v4 =>
 onSome (idx ((x.1.set x.2.2.1.toNat (x.2.1, v2.2)).set x.2.2.1.toNat (v4.1, (((IntKind.i64.wrap (x.2.1 + (1 : Int))), v4.2.1.2), v4.2.2))) x.2.2.1) fun _ =>
 match ((x.1.set x.2.2.1.toNat (x.2.1, v2.2)).set x.2.2.1.toNat (v4.1, (((IntKind.i64.wrap (x.2.1 + (1 : Int))), v4.2.1.2), v4.2.2)))[x.2.2.1.toNat]? with
 | none => none
 | some v6 =>
 onSome (idx (((x.1.set x.2.2.1.toNat (x.2.1, v2.2)).set x.2.2.1.toNat (v4.1, (((IntKind.i64.wrap (x.2.1 + (1 : Int))), v4.2.1.2), v4.2.2))).set x.2.2.1.toNat (v6.1, ((v6.2.1.1, ((IntKind.i64.wrap ((IntKind.i64.wrap (x.2.1 + (1 : Int))) + (1 : Int))), v6.2.1.2.2)), v6.2.2))) x.2.2.1) fun _ =>
 match (((x.1.set x.2.2.1.toNat (x.2.1, v2.2)).set x.2.2.1.toNat (v4.1, (((IntKind.i64.wrap (x.2.1 + (1 : Int))), v4.2.1.2), v4.2.2))).set x.2.2.1.toNat (v6.1, ((v6.2.1.1, ((IntKind.i64.wrap ((IntKind.i64.wrap (x.2.1 + (1 : Int))) + (1 : Int))), v6.2.1.2.2)), v6.2.2)))[x.2.2.1.toNat]? with
 | none => none
 | some v8 =>
 onSome (idx ((((x.1.set x.2.2.1.toNat (x.2.1, v2.2)).set x.2.2.1.toNat (v4.1, (((IntKind.i64.wrap (x.2.1 + (1 : Int))), v4.2.1.2), v4.2.2))).set x.2.2.1.toNat (v6.1, ((v6.2.1.1, ((IntKind.i64.wrap ((IntKind.i64.wrap (x.2.1 + (1 : Int))) + (1 : Int))), v6.2.1.2.2)), v6.2.2))).set x.2.2.1.toNat (v8.1, ((v8.2.1.1, (v8.2.1.2.1, (((IntKind.i64.wrap ((IntKind.i64.wrap ((IntKind.i64.wrap (x.2.1 + (1 : Int))) + (1 : Int))) + (1 : Int))), v8.2.1.2.2.1.2), v8.2.1.2.2.2))), v8.2.2))) x.2.2.1) fun _ =>
 match ((((x.1.set x.2.2.1.toNat (x.2.1, v2.2)).set x.2.2.1.toNat (v4.1, (((IntKind.i64.wrap (x.2.1 + (1 : Int))), v4.2.1.2), v4.2.2))).set x.2.2.1.toNat (v6.1, ((v6.2.1.1, ((IntKind.i64.wrap ((IntKind.i64.wrap (x.2.1 + (1 : Int))) + (1 : Int))), v6.2.1.2.2)), v6.2.2))).set x.2.2.1.toNat (v8.1, ((v8.2.1.1, (v8.2.1.2.1, (((IntKind.i64.wrap ((IntKind.i64.wrap ((IntKind.i64.wrap (x.2.1 + (1 : Int))) + (1 : Int))) + (1 : Int))), v8.2.1.2.2.1.2), v8.2.1.2.2.2))), v8.2.2)))[x.2.2.1.toNat]? with
 | none => none
 | some v10 =>
 onSome (idx (((((x.1.set x.2.2.1.toNat (x.2.1, v2.2)).set x.2.2.1.toNat (v4.1, (((IntKind.i64.wrap (x.2.1 + (1 : Int))), v4.2.1.2), v4.2.2))).set x.2.2.1.toNat (v6.1, ((v6.2.1.1, ((IntKind.i64.wrap ((IntKind.i64.wrap (x.2.1 + (1 : Int))) + (1 : Int))), v6.2.1.2.2)), v6.2.2))).set x.2.2.1.toNat (v8.1, ((v8.2.1.1, (v8.2.1.2.1, (((IntKind.i64.wrap ((IntKind.i64.wrap ((IntKind.i64.wrap (x.2.1 + (1 : Int))) + (1 : Int))) + (1 : Int))), v8.2.1.2.2.1.2), v8.2.1.2.2.2))), v8.2.2))).set x.2.2.1.toNat (v10.1, ((v10.2.1.1, (v10.2.1.2.1, ((v10.2.1.2.2.1.1, ((IntKind.i64.wrap ((IntKind.i64.wrap ((IntKind.i64.wrap ((IntKind.i64.wrap (x.2.1 + (1 : Int))) + (1 : Int))) + (1 : Int))) + (1 : Int))), v10.2.1.2.2.1.2.2)), v10.2.1.2.2.2))), v10.2.2))) x.2.2.1) fun _ =>
 match (((((x.1.set x.2.2.1.toNat (x.2.1, v2.2)).set x.2.2.1.toNat (v4.1, (((IntKind.i64.wrap (x.2.1 + (1 : Int))), v4.2.1.2), v4.2.2))).set x.2.2.1.toNat (v6.1, ((v6.2.1.1, ((IntKind.i64.wrap ((IntKind.i64.wrap (x.2.1 + (1 : Int))) + (1 : Int))), v6.2.1.2.2)), v6.2.2))).set x.2.2.1.toNat (v8.1, ((v8.2.1.1, (v8.2.1.2.1, (((IntKind.i64.wrap ((IntKind.i64.wrap ((IntKind.i64.wrap (x.2.1 + (1 : Int))) + (1 : Int))) + (1 : Int))), v8.2.1.2.2.1.2), v8.2.1.2.2.2))), v8.2.2))).set x.2.2.1.toNat (v10.1, ((v10.2.1.1, (v10.2.1.2.1, ((v10.2.1.2.2.1.1, ((IntKind.i64.wrap ((IntKind.i64.wrap ((IntKind.i64.wrap ((IntKind.i64.wrap (x.2.1 + (1 : Int))) + (1 : Int))) + (1 : Int))) + (1 : Int))), v10.2.1.2.2.1.2.2)), v10.2.1.2.2.2))), v10.2.2)))[x.2.2.1.toNat]? with
 | none => none
 | some v12 =>
 onSome (idx ((((((x.1.set x.2.2.1.toNat (x.2.1, v2.2)).set x.2.2.1.toNat (v4.1, (((IntKind.i64.wrap (x.2.1 + (1 : Int))), v4.2.1.2), v4.2.2))).set x.2.2.1.toNat (v6.1, ((v6.2.1.1, ((IntKind.i64.wrap ((IntKind.i64.wrap (x.2.1 + (1 : Int))) + (1 : Int))), v6.2.1.2.2)), v6.2.2))).set x.2.2.1.toNat (v8.1, ((v8.2.1.1, (v8.2.1.2.1, (((IntKind.i64.wrap ((IntKind.i64.wrap ((IntKind.i64.wrap (x.2.1 + (1 : Int))) + (1 : Int))) + (1 : Int))), v8.2.1.2.2.1.2), v8.2.1.2.2.2))), v8.2.2))).set x.2.2.1.toNat (v10.1, ((v10.2.1.1, (v10.2.1.2.1, ((v10.2.1.2.2.1.1, ((IntKind.i64.wrap ((IntKind.i64.wrap ((IntKind.i64.wrap ((IntKind.i64.wrap (x.2.1 + (1 : Int))) + (1 : Int))) + (1 : Int))) + (1 : Int))), v10.2.1.2.2.1.2.2)), v10.2.1.2.2.2))), v10.2.2))).set x.2.2.1.toNat (v12.1, ((v12.2.1.1, (v12.2.1.2.1, ((v12.2.1.2.2.1.1, (v12.2.1.2.2.1.2.1, ((IntKind.i64.wrap ((IntKind.i64.wrap ((IntKind.i64.wrap ((IntKind.i64.wrap ((IntKind.i64.wrap (x.2.1 + (1 : Int))) + (1 : Int))) + (1 : Int))) + (1 : Int))) + (1 : Int))), v12.2.1.2.2.1.2.2.2))), v12.2.1.2.2.2))), v12.2.2))) x.2.2.1) fun _ =>
 match ((((((x.1.set x.2.2.1.toNat (x.2.1, v2.2)).set x.2.2.1.toNat (v4.1, (((IntKind.i64.wrap (x.2.1 + (1 : Int))), v4.2.1.2), v4.2.2))).set x.2.2.1.toNat (v6.1, ((v6.2.1.1, ((IntKind.i64.wrap ((IntKind.i64.wrap (x.2.1 + (1 : Int))) + (1 : Int))), v6.2.1.2.2)), v6.2.2))).set x.2.2.1.toNat (v8.1, ((v8.2.1.1, (v8.2.1.2.1, (((IntKind.i64.wrap ((IntKind.i64.wrap ((IntKind.i64.wrap (x.2.1 + (1 : Int))) + (1 : Int))) + (1 : Int))), v8.2.1.2.2.1.2), v8.2.1.2.2.2))), v8.2.2))).set x.2.2.1.toNat (v10.1, ((v10.2.1.1, (v10.2.1.2.1, ((v10.2.1.2.2.1.1, ((IntKind.i64.wrap ((IntKind.i64.wrap ((IntKind.i64.wrap ((IntKind.i64.wrap (x.2.1 + (1 : Int))) + (1 : Int))) + (1 : Int))) + (1 : Int))), v10.2.1.2.2.1.2.2)), v10.2.1.2.2.2))), v10.2.2))).set x.2.2.1.toNat (v12.1, ((v12.2.1.1, (v12.2.1.2.1, ((v12.2.1.2.2.1.1, (v12.2.1.2.2.1.2.1, ((IntKind.i64.wrap ((IntKind.i64.wrap ((IntKind.i64.wrap ((IntKind.i64.wrap ((IntKind.i64.wrap (x.2.1 + (1 : Int))) + (1 : Int))) + (1 : Int))) + (1 : Int))) + (1 : Int))), v12.2.1.2.2.1.2.2.2))), v12.2.1.2.2.2))), v12.2.2)))[x.2.2.1.toNat]? with
 | none => none
 | some v14 =>
 onSome (idx (((((((x.1.set x.2.2.1.toNat (x.2.1, v2.2)).set x.2.2.1.toNat (v4.1, (((IntKind.i64.wrap (x.2.1 + (1 : Int))), v4.2.1.2), v4.2.2))).set x.2.2.1.toNat (v6.1, ((v6.2.1.1, ((IntKind.i64.wrap ((IntKind.i64.wrap (x.2.1 + (1 : Int))) + (1 : Int))), v6.2.1.2.2)), v6.2.2))).set x.2.2.1.toNat (v8.1, ((v8.2.1.1, (v8.2.1.2.1, (((IntKind.i64.wrap ((IntKind.i64.wrap ((IntKind.i64.wrap (x.2.1 + (1 : Int))) + (1 : Int))) + (1 : Int))), v8.2.1.2.2.1.2), v8.2.1.2.2.2))), v8.2.2))).set x.2.2.1.toNat (v10.1, ((v10.2.1.1, (v10.2.1.2.1, ((v10.2.1.2.2.1.1, ((IntKind.i64.wrap ((IntKind.i64.wrap ((IntKind.i64.wrap ((IntKind.i64.wrap (x.2.1 + (1 : Int))) + (1 : Int))) + (1 : Int))) + (1 : Int))), v10.2.1.2.2.1.2.2)), v10.2.1.2.2.2))), v10.2.2))).set x.2.2.1.toNat (v12.1, ((v12.2.1.1, (v12.2.1.2.1, ((v12.2.1.2.2.1.1, (v12.2.1.2.2.1.2.1, ((IntKind.i64.wrap ((IntKind.i64.wrap ((IntKind.i64.wrap ((IntKind.i64.wrap ((IntKind.i64.wrap (x.2.1 + (1 : Int))) + (1 : Int))) + (1 : Int))) + (1 : Int))) + (1 : Int))), v12.2.1.2.2.1.2.2.2))), v12.2.1.2.2.2))), v12.2.2))).set x.2.2.1.toNat (v14.1, ((v14.2.1.1, (v14.2.1.2.1, ((v14.2.1.2.2.1.1, (v14.2.1.2.2.1.2.1, (v14.2.1.2.2.1.2.2.1, ((IntKind.i64.wrap ((IntKind.i64.wrap ((IntKind.i64.wrap ((IntKind.i64.wrap ((IntKind.i64.wrap ((IntKind.i64.wrap (x.2.1 + (1 : Int))) + (1 : Int))) + (1 : Int))) + (1 : Int))) + (1 : Int))) + (1 : Int))), v14.2.1.2.2.1.2.2.2.2)))), v14.2.1.2.2.2))), v14.2.2))) x.2.2.1) fun _ =>
 match (((((((x.1.set x.2.2.1.toNat (x.2.1, v2.2)).set x.2.2.1.toNat (v4.1, (((IntKind.i64.wrap (x.2.1 + (1 : Int))), v4.2.1.2), v4.2.2))).set x.2.2.1.toNat (v6.1, ((v6.2.1.1, ((IntKind.i64.wrap ((IntKind.i64.wrap (x.2.1 + (1 : Int))) + (1 : Int))), v6.2.1.2.2)), v6.2.2))).set x.2.2.1.toNat (v8.1, ((v8.2.1.1, (v8.2.1.2.1, (((IntKind.i64.wrap ((IntKind.i64.wrap ((IntKind.i64.wrap (x.2.1 + (1 : Int))) + (1 : Int))) + (1 : Int))), v8.2.1.2.2.1.2), v8.2.1.2.2.2))), v8.2.2))).set x.2.2.1.toNat (v10.1, ((v10.2.1.1, (v10.2.1.2.1, ((v10.2.1.2.2.1.1, ((IntKind.i64.wrap ((IntKind.i64.wrap ((IntKind.i64.wrap ((IntKind.i64.wrap (x.2.1 + (1 : Int))) + (1 : Int))) + (1 : Int))) + (1 : Int))), v10.2.1.2.2.1.2.2)), v10.2.1.2.2.2))), v10.2.2))).set x.2.2.1.toNat (v12.1, ((v12.2.1.1, (v12.2.1.2.1, ((v12.2.1.2.2.1.1, (v12.2.1.2.2.1.2.1, ((IntKind.i64.wrap ((IntKind.i64.wrap ((IntKind.i64.wrap ((IntKind.i64.wrap ((IntKind.i64.wrap (x.2.1 + (1 : Int))) + (1 : Int))) + (1 : Int))) + (1 : Int))) + (1 : Int))), v12.2.1.2.2.1.2.2.2))), v12.2.1.2.2.2))), v12.2.2))).set x.2.2.1.toNat (v14.1, ((v14.2.1.1, (v14.2.1.2.1, ((v14.2.1.2.2.1.1, (v14.2.1.2.2.1.2.1, (v14.2.1.2.2.1.2.2.1, ((IntKind.i64.wrap ((IntKind.i64.wrap ((IntKind.i64.wrap ((IntKind.i64.wrap ((IntKind.i64.wrap ((IntKind.i64.wrap (x.2.1 + (1 : Int))) + (1 : Int))) + (1 : Int))) + (1 : Int))) + (1 : Int))) + (1 : Int))), v14.2.1.2.2.1.2.2.2.2)))), v14.2.1.2.2.2))), v14.2.2)))[x.2.2.1.toNat]? with
 | none => none
 | some v16 =>
 onSome (idx ((((((((x.1.set x.2.2.1.toNat (x.2.1, v2.2)).set x.2.2.1.toNat (v4.1, (((IntKind.i64.wrap (x.2.1 + (1 : Int))), v4.2.1.2), v4.2.2))).set x.2.2.1.toNat (v6.1, ((v6.2.1.1, ((IntKind.i64.wrap ((IntKind.i64.wrap (x.2.1 + (1 : Int))) + (1 : Int))), v6.2.1.2.2)), v6.2.2))).set x.2.2.1.toNat (v8.1, ((v8.2.1.1, (v8.2.1.2.1, (((IntKind.i64.wrap ((IntKind.i64.wrap ((IntKind.i64.wrap (x.2.1 + (1 : Int))) + (1 : Int))) + (1 : Int))), v8.2.1.2.2.1.2), v8.2.1.2.2.2))), v8.2.2))).set x.2.2.1.toNat (v10.1, ((v10.2.1.1, (v10.2.1.2.1, ((v10.2.1.2.2.1.1, ((IntKind.i64.wrap ((IntKind.i64.wrap ((IntKind.i64.wrap ((IntKind.i64.wrap (x.2.1 + (1 : Int))) + (1 : Int))) + (1 : Int))) + (1 : Int))), v10.2.1.2.2.1.2.2)), v10.2.1.2.2.2))), v10.2.2))).set x.2.2.1.toNat (v12.1, ((v12.2.1.1, (v12.2.1.2.1, ((v12.2.1.2.2.1.1, (v12.2.1.2.2.1.2.1, ((IntKind.i64.wrap ((IntKind.i64.wrap ((IntKind.i64.wrap ((IntKind.i64.wrap ((IntKind.i64.wrap (x.2.1 + (1 : Int))) + (1 : Int))) + (1 : Int))) + (1 : Int))) + (1 : Int))), v12.2.1.2.2.1.2.2.2))), v12.2.1.2.2.2))), v12.2.2))).set x.2.2.1.toNat (v14.1, ((v14.2.1.1, (v14.2.1.2.1, ((v14.2.1.2.2.1.1, (v14.2.1.2.2.1.2.1, (v14.2.1.2.2.1.2.2.1, ((IntKind.i64.wrap ((IntKind.i64.wrap ((IntKind.i64.wrap ((IntKind.i64.wrap ((IntKind.i64.wrap ((IntKind.i64.wrap (x.2.1 + (1 : Int))) + (1 : Int))) + (1 : Int))) + (1 : Int))) + (1 : Int))) + (1 : Int))), v14.2.1.2.2.1.2.2.2.2)))), v14.2.1.2.2.2))), v14.2.2))).set x.2.2.1.toNat (v16.1, ((v16.2.1.1, (v16.2.1.2.1, ((v16.2.1.2.2.1.1, (v16.2.1.2.2.1.2.1, (v16.2.1.2.2.1.2.2.1, (v16.2.1.2.2.1.2.2.2.1, ((IntKind.i64.wrap ((IntKind.i64.wrap ((IntKind.i64.wrap ((IntKind.i64.wrap ((IntKind.i64.wrap ((IntKind.i64.wrap ((IntKind.i64.wrap (x.2.1 + (1 : Int))) + (1 : Int))) + (1 : Int))) + (1 : Int))) + (1 : Int))) + (1 : Int))) + (1 : Int))), v16.2.1.2.2.1.2.2.2.2.2))))), v16.2.1.2.2.2))), v16.2.2))) x.2.2.1) fun _ =>
 match ((((((((x.1.set x.2.2.1.toNat (x.2.1, v2.2)).set x.2.2.1.toNat (v4.1, (((IntKind.i64.wrap (x.2.1 + (1 : Int))), v4.2.1.2), v4.2.2))).set x.2.2.1.toNat (v6.1, ((v6.2.1.1, ((IntKind.i64.wrap ((IntKind.i64.wrap (x.2.1 + (1 : Int))) + (1 : Int))), v6.2.1.2.2)), v6.2.2))).set x.2.2.1.toNat (v8.1, ((v8.2.1.1, (v8.2.1.2.1, (((IntKind.i64.wrap ((IntKind.i64.wrap ((IntKind.i64.wrap (x.2.1 + (1 : Int))) + (1 : Int))) + (1 : Int))), v8.2.1.2.2.1.2), v8.2.1.2.2.2))), v8.2.2))).set x.2.2.1.toNat (v10.1, ((v10.2.1.1, (v10.2.1.2.1, ((v10.2.1.2.2.1.1, ((IntKind.i64.wrap ((IntKind.i64.wrap ((IntKind.i64.wrap ((IntKind.i64.wrap (x.2.1 + (1 : Int))) + (1 : Int))) + (1 : Int))) + (1 : Int))), v10.2.1.2.2.1.2.2)), v10.2.1.2.2.2))), v10.2.2))).set x.2.2.1.toNat (v12.1, ((v12.2.1.1, (v12.2.1.2.1, ((v12.2.1.2.2.1.1, (v12.2.1.2.2.1.2.1, ((IntKind.i64.wrap ((IntKind.i64.wrap ((IntKind.i64.wrap ((IntKind.i64.wrap ((IntKind.i64.wrap (x.2.1 + (1 : Int))) + (1 : Int))) + (1 : Int))) + (1 : Int))) + (1 : Int))), v12.2.1.2.2.1.2.2.2))), v12.2.1.2.2.2))), v12.2.2))).set x.2.2.1.toNat (v14.1, ((v14.2.1.1, (v14.2.1.2.1, ((v14.2.1.2.2.1.1, (v14.2.1.2.2.1.2.1, (v14.2.1.2.2.1.2.2.1, ((IntKind.i64.wrap ((IntKind.i64.wrap ((IntKind.i64.wrap ((IntKind.i64.wrap ((IntKind.i64.wrap ((IntKind.i64.wrap (x.2.1 + (1 : Int))) + (1 : Int))) + (1 : Int))) + (1 : Int))) + (1 : Int))) + (1 : Int))), v14.2.1.2.2.1.2.2.2.2)))), v14.2.1.2.2.2))), v14.2.2))).set x.2.2.1.toNat (v16.1, ((v16.2.1.1, (v16.2.1.2.1, ((v16.2.1.2.2.1.1, (v16.2.1.2.2.1.2.1, (v16.2.1.2.2.1.2.2.1, (v16.2.1.2.2.1.2.2.2.1, ((IntKind.i64.wrap ((IntKind.i64.wrap ((IntKind.i64.wrap ((IntKind.i64.wrap ((IntKind.i64.wrap ((IntKind.i64.wrap ((IntKind.i64.wrap (x.2.1 + (1 : Int))) + (1 : Int))) + (1 : Int))) + (1 : Int))) + (1 : Int))) + (1 : Int))) + (1 : Int))), v16.2.1.2.2.1.2.2.2.2.2))))), v16.2.1.2.2.2))), v16.2.2)))[x.2.2.1.toNat]? with
 | none => none
 | some v18 =>
 match l_markInt64S (v18.2.1.2.2.2.1, (IntKind.i64.wrap ((IntKind.i64.wrap ((IntKind.i64.wrap ((IntKind.i64.wrap ((IntKind.i64.wrap ((IntKind.i64.wrap ((IntKind.i64.wrap ((IntKind.i64.wrap (x.2.1 + (1 : Int))) + (1 : Int))) + (1 : Int))) + (1 : Int))) + (1 : Int))) + (1 : Int))) + (1 : Int))) + (1 : Int))), ()) with
 | none => none
 | some v19 =>
 some (.inl ((((((((((x.1.set x.2.2.1.toNat (x.2.1, v2.2)).set x.2.2.1.toNat (v4.1, (((IntKind.i64.wrap (x.2.1 + (1 : Int))), v4.2.1.2), v4.2.2))).set x.2.2.1.toNat (v6.1, ((v6.2.1.1, ((IntKind.i64.wrap ((IntKind.i64.wrap (x.2.1 + (1 : Int))) + (1 : Int))), v6.2.1.2.2)), v6.2.2))).set x.2.2.1.toNat (v8.1, ((v8.2.1.1, (v8.2.1.2.1, (((IntKind.i64.wrap ((IntKind.i64.wrap ((IntKind.i64.wrap (x.2.1 + (1 : Int))) + (1 : Int))) + (1 : Int))), v8.2.1.2.2.1.2), v8.2.1.2.2.2))), v8.2.2))).set x.2.2.1.toNat (v10.1, ((v10.2.1.1, (v10.2.1.2.1, ((v10.2.1.2.2.1.1, ((IntKind.i64.wrap ((IntKind.i64.wrap ((IntKind.i64.wrap ((IntKind.i64.wrap (x.2.1 + (1 : Int))) + (1 : Int))) + (1 : Int))) + (1 : Int))), v10.2.1.2.2.1.2.2)), v10.2.1.2.2.2))), v10.2.2))).set x.2.2.1.toNat (v12.1, ((v12.2.1.1, (v12.2.1.2.1, ((v12.2.1.2.2.1.1, (v12.2.1.2.2.1.2.1, ((IntKind.i64.wrap ((IntKind.i64.wrap ((IntKind.i64.wrap ((IntKind.i64.wrap ((IntKind.i64.wrap (x.2.1 + (1 : Int))) + (1 : Int))) + (1 : Int))) + (1 : Int))) + (1 : Int))), v12.2.1.2.2.1.2.2.2))), v12.2.1.2.2.2))), v12.2.2))).set x.2.2.1.toNat (v14.1, ((v14.2.1.1, (v14.2.1.2.1, ((v14.2.1.2.2.1.1, (v14.2.1.2.2.1.2.1, (v14.2.1.2.2.1.2.2.1, ((IntKind.i64.wrap ((IntKind.i64.wrap ((IntKind.i64.wrap ((IntKind.i64.wrap ((IntKind.i64.wrap ((IntKind.i64.wrap (x.2.1 + (1 : Int))) + (1 : Int))) + (1 : Int))) + (1 : Int))) + (1 : Int))) + (1 : Int))), v14.2.1.2.2.1.2.2.2.2)))), v14.2.1.2.2.2))), v14.2.2))).set x.2.2.1.toNat (v16.1, ((v16.2.1.1, (v16.2.1.2.1, ((v16.2.1.2.2.1.1, (v16.2.1.2.2.1.2.1, (v16.2.1.2.2.1.2.2.1, (v16.2.1.2.2.1.2.2.2.1, ((IntKind.i64.wrap ((IntKind.i64.wrap ((IntKind.i64.wrap ((IntKind.i64.wrap ((IntKind.i64.wrap ((IntKind.i64.wrap ((IntKind.i64.wrap (x.2.1 + (1 : Int))) + (1 : Int))) + (1 : Int))) + (1 : Int))) + (1 : Int))) + (1 : Int))) + (1 : Int))), v16.2.1.2.2.1.2.2.2.2.2))))), v16.2.1.2.2.2))), v16.2.2))).set x.2.2.1.toNat (v18.1, ((v18.2.1.1, (v18.2.1.2.1, (v18.2.1.2.2.1, (v19.2.1, v18.2.1.2.2.2.2)))), v18.2.2))), v19.1, (IntKind.i64.wrap (x.2.2.1 + (1 : Int))), ()))
| false =>
 some (.inr (.inl (x.1, x.2.1, ())))
noncomputable def l_markVerdictS (x : Ty.T (.pair (.own 56 (.pair (.int .i64) (.pair (.pair (.int .i64) (.pair (.int .i64) (.pair TState (.pair (.own 2 (.int .i64)) .unit)))) .unit))) (.pair (.int .i64) .unit))) : Option (Ty.T (.pair (.int .i64) (.pair (.own 56 (.pair (.int .i64) (.pair (.pair (.int .i64) (.pair (.int .i64) (.pair TState (.pair (.own 2 (.int .i64)) .unit)))) .unit))) .unit))) :=
match loopL b_l_markVerdictS_2 (x.1, x.2.1, (0 : Int), ()) with
| none => none
| some (.inl v20) =>
 some (v20.2.1, v20.1, ())
| some (.inr v22) =>
 none
noncomputable def S_l_markVerdictS : Spec := ⟨(.pair (.own 56 (.pair (.int .i64) (.pair (.pair (.int .i64) (.pair (.int .i64) (.pair TState (.pair (.own 2 (.int .i64)) .unit)))) .unit))) (.pair (.int .i64) .unit)), (.pair (.int .i64) .unit), (.pair (.own 56 (.pair (.int .i64) (.pair (.pair (.int .i64) (.pair (.int .i64) (.pair TState (.pair (.own 2 (.int .i64)) .unit)))) .unit))) .unit), rfl, l_markVerdictS⟩
noncomputable def σ_l_markVerdictS : FuncId → Option Spec := sig [(60, S_l_markInt64S)]
theorem σok_l_markVerdictS : ∀ f s, σ_l_markVerdictS f = some s → FnOK Try.prog f s := sig_ok (l := [(60, S_l_markInt64S)]) ⟨ok_l_markInt64S, trivial⟩
noncomputable def Λ_l_markVerdictS : Nat → Option LSpec := lkp (loopList (bodyOf Try.f59)) [⟨[0, 1, 5], (.pair (.own 56 (.pair (.int .i64) (.pair (.pair (.int .i64) (.pair (.int .i64) (.pair TState (.pair (.own 2 (.int .i64)) .unit)))) .unit))) (.pair (.int .i64) (.pair (.int .i64) .unit))), 0, [0, 1], (.pair (.own 56 (.pair (.int .i64) (.pair (.pair (.int .i64) (.pair (.int .i64) (.pair TState (.pair (.own 2 (.int .i64)) .unit)))) .unit))) (.pair (.int .i64) .unit)), [], .unit, loopL b_l_markVerdictS_2⟩]
theorem lok_l_markVerdictS_2 (x) : codeK Γ2 E2 σ_l_markVerdictS Λ_l_markVerdictS Try.f59.ntmps (nthLoop Try.f59 0) (mkF Try.f59.ntmps [0, 1, 5] (.pair (.own 56 (.pair (.int .i64) (.pair (.pair (.int .i64) (.pair (.int .i64) (.pair TState (.pair (.own 2 (.int .i64)) .unit)))) .unit))) (.pair (.int .i64) (.pair (.int .i64) .unit))) x) (readK σ_l_markVerdictS Try.f59.ntmps [0, 1, 5] (.pair (.own 56 (.pair (.int .i64) (.pair (.pair (.int .i64) (.pair (.int .i64) (.pair TState (.pair (.own 2 (.int .i64)) .unit)))) .unit))) (.pair (.int .i64) (.pair (.int .i64) .unit))) 0 [0, 1] (.pair (.own 56 (.pair (.int .i64) (.pair (.pair (.int .i64) (.pair (.int .i64) (.pair TState (.pair (.own 2 (.int .i64)) .unit)))) .unit))) (.pair (.int .i64) .unit)) [] .unit) = b_l_markVerdictS_2 x := by kernel_rfl
theorem ok_l_markVerdictS : FnOK Try.prog 59 S_l_markVerdictS := fn_ok (Λ := Λ_l_markVerdictS) tab2 σok_l_markVerdictS Try.func59 (by kernel_rfl) (show Try.f59.body = some (bodyOf Try.f59) by kernel_rfl) [⟨[0, 1, 5], (.pair (.own 56 (.pair (.int .i64) (.pair (.pair (.int .i64) (.pair (.int .i64) (.pair TState (.pair (.own 2 (.int .i64)) .unit)))) .unit))) (.pair (.int .i64) (.pair (.int .i64) .unit))), 0, [0, 1], (.pair (.own 56 (.pair (.int .i64) (.pair (.pair (.int .i64) (.pair (.int .i64) (.pair TState (.pair (.own 2 (.int .i64)) .unit)))) .unit))) (.pair (.int .i64) .unit)), [], .unit, loopL b_l_markVerdictS_2⟩] rfl (by kernel_rfl) (by exact ⟨loop_LOK (lok_l_markVerdictS_2), trivial⟩) (by kernel_rfl)
  fun x y h => (show execFn Γ2 E2 σ_l_markVerdictS Λ_l_markVerdictS Try.f59 S_l_markVerdictS x = l_markVerdictS x by kernel_rfl).trans h

noncomputable def l_FnExactCountStatuses (x : Ty.T (.pair (.list TVerdict) .unit)) : Option (Ty.T (.pair .bool .unit)) :=
match l_szVerdictS (x.1, (1048576 : Int), ()) with
| none => none
| some v1 =>
match (decide (v1.1 < (0 : Int))) with
| true =>
 some (true, ())
| false =>
 match l_toVerdictS (x.1, ()) with
 | none => none
 | some v2 =>
 match s_CountStatuses (v2.1, ()) with
 | none => none
 | some v3 =>
 match l_toVerdictS (x.1, ()) with
 | none => none
 | some v4 =>
 match i_CountStatuses (v4.1, ()) with
 | none => none
 | some v5 =>
 match l_eqInt64S (v5.1, v3.1, ()) with
 | none => none
 | some v6 =>
 match (!v6.1) with
 | true =>
  some (false, ())
 | false =>
  match (v5.2.1 != v3.2.1) with
  | true =>
   some (false, ())
  | false =>
   match l_toVerdictS (x.1, ()) with
   | none => none
   | some v7 =>
   match l_eqVerdictS (v4.1, v7.1, ()) with
   | none => none
   | some v8 =>
   match (!v8.1) with
   | true =>
    some (false, ())
   | false =>
    match l_markVerdictS (v4.1, (1 : Int), ()) with
    | none => none
    | some v9 =>
    match (decide (v9.1 < (0 : Int))) with
    | true =>
     some (false, ())
    | false =>
     match l_eqInt64S (v5.1, v3.1, ()) with
     | none => none
     | some v10 =>
     match (!v10.1) with
     | true =>
      some (false, ())
     | false =>
      match (v5.2.1 != v3.2.1) with
      | true =>
       some (false, ())
      | false =>
       match l_markInt64S (v5.1, (1 : Int), ()) with
       | none => none
       | some v11 =>
       match l_heldInt64S (v11.2.1, (1 : Int), ()) with
       | none => none
       | some v12 =>
       match (decide (v12.1 < (0 : Int))) with
       | true =>
        some (false, ())
       | false =>
        match (v12.1 != v11.1) with
        | true =>
         some (false, ())
        | false =>
         match l_toVerdictS (x.1, ()) with
         | none => none
         | some v13 =>
         match i_CountStatuses (v13.1, ()) with
         | none => none
         | some v14 =>
         match l_eqInt64S (v14.1, v3.1, ()) with
         | none => none
         | some v15 =>
         match (!v15.1) with
         | true =>
          some (false, ())
         | false =>
          match (v14.2.1 != v3.2.1) with
          | true =>
           some (false, ())
          | false =>
           match l_heldInt64S (v11.2.1, (1 : Int), ()) with
           | none => none
           | some v16 =>
           match (decide (v16.1 < (0 : Int))) with
           | true =>
            some (false, ())
           | false =>
            match (v16.1 != v11.1) with
            | true =>
             some (false, ())
            | false =>
             some (true, ())
noncomputable def S_l_FnExactCountStatuses : Spec := ⟨(.pair (.list TVerdict) .unit), (.pair .bool .unit), .unit, rfl, l_FnExactCountStatuses⟩
noncomputable def σ_l_FnExactCountStatuses : FuncId → Option Spec := sig [(53, S_l_szVerdictS), (54, S_s_CountStatuses), (55, S_l_toVerdictS), (56, S_i_CountStatuses), (57, S_l_eqInt64S), (58, S_l_eqVerdictS), (59, S_l_markVerdictS), (60, S_l_markInt64S), (61, S_l_heldInt64S)]
theorem σok_l_FnExactCountStatuses : ∀ f s, σ_l_FnExactCountStatuses f = some s → FnOK Try.prog f s := sig_ok (l := [(53, S_l_szVerdictS), (54, S_s_CountStatuses), (55, S_l_toVerdictS), (56, S_i_CountStatuses), (57, S_l_eqInt64S), (58, S_l_eqVerdictS), (59, S_l_markVerdictS), (60, S_l_markInt64S), (61, S_l_heldInt64S)]) ⟨ok_l_szVerdictS, ok_s_CountStatuses, ok_l_toVerdictS, ok_i_CountStatuses, ok_l_eqInt64S, ok_l_eqVerdictS, ok_l_markVerdictS, ok_l_markInt64S, ok_l_heldInt64S, trivial⟩
noncomputable def Λ_l_FnExactCountStatuses : Nat → Option LSpec := lkp (loopList (bodyOf Try.f10)) []
theorem ok_l_FnExactCountStatuses : FnOK Try.prog 10 S_l_FnExactCountStatuses := fn_ok (Λ := Λ_l_FnExactCountStatuses) tab0 σok_l_FnExactCountStatuses Try.func10 (by kernel_rfl) (show Try.f10.body = some (bodyOf Try.f10) by kernel_rfl) [] rfl (by kernel_rfl) (by exact trivial) (by kernel_rfl)
  fun x y h => (show execFn Γ0 E0 σ_l_FnExactCountStatuses Λ_l_FnExactCountStatuses Try.f10 S_l_FnExactCountStatuses x = l_FnExactCountStatuses x by kernel_rfl).trans h

noncomputable def b_s_MergeAll_4 (x : (Ty.T (.pair (.list TVerdict) (.pair (.box (.pair (.int .i64) (.pair (.pair (.int .i64) (.pair (.int .i64) (.pair TState (.pair (.own 2 (.int .i64)) .unit)))) .unit))) (.pair (.int .i64) .unit))))) : Option ((Ty.T (.pair (.list TVerdict) (.pair (.box (.pair (.int .i64) (.pair (.pair (.int .i64) (.pair (.int .i64) (.pair TState (.pair (.own 2 (.int .i64)) .unit)))) .unit))) (.pair (.int .i64) .unit)))) ⊕ ((Ty.T (.pair (.list TVerdict) (.pair (.box (.pair (.int .i64) (.pair (.pair (.int .i64) (.pair (.int .i64) (.pair TState (.pair (.own 2 (.int .i64)) .unit)))) .unit))) .unit))) ⊕ (Ty.T (.pair (.box (.pair (.int .i64) (.pair (.pair (.int .i64) (.pair (.int .i64) (.pair TState (.pair (.own 2 (.int .i64)) .unit)))) .unit))) (.pair (.int .i64) .unit))))) :=
match (decide (x.2.2.1 < (x.1.length : Int))) with
| true =>
 onSome (idx x.1 x.2.2.1) fun v2 =>
 match s_IsVerdict (v2, ()) with
 | none => none
 | some v3 =>
 match (!v3.1) with
 | true =>
  some (.inr (.inr (((0 : Int), ((0 : Int), (0 : Int), ((0 : Int), (0 : Int), (0 : Int), (0 : Int), (0 : Int), ()), [], ()), ()), (1 : Int), ())))
 | false =>
  some (.inl (x.1, (x.2.1.1, (x.2.1.2.1.1, x.2.1.2.1.2.1, (x.2.1.2.1.2.2.1.1, x.2.1.2.1.2.2.1.2.1, x.2.1.2.1.2.2.1.2.2.1, x.2.1.2.1.2.2.1.2.2.2.1, x.2.1.2.1.2.2.1.2.2.2.2.1, ()), x.2.1.2.1.2.2.2.1, ()), ()), (IntKind.i64.wrap (x.2.2.1 + (1 : Int))), ()))
| false =>
 some (.inr (.inl (x.1, (x.2.1.1, (x.2.1.2.1.1, x.2.1.2.1.2.1, (x.2.1.2.1.2.2.1.1, x.2.1.2.1.2.2.1.2.1, x.2.1.2.1.2.2.1.2.2.1, x.2.1.2.1.2.2.1.2.2.2.1, x.2.1.2.1.2.2.1.2.2.2.2.1, ()), x.2.1.2.1.2.2.2.1, ()), ()), ())))
noncomputable def b_s_MergeAll_10 (x : (Ty.T (.pair (.list TVerdict) (.pair (.box (.pair (.int .i64) (.pair (.pair (.int .i64) (.pair (.int .i64) (.pair TState (.pair (.own 2 (.int .i64)) .unit)))) .unit))) (.pair (.box TVerdict) (.pair (.int .i64) .unit)))))) : Option ((Ty.T (.pair (.list TVerdict) (.pair (.box (.pair (.int .i64) (.pair (.pair (.int .i64) (.pair (.int .i64) (.pair TState (.pair (.own 2 (.int .i64)) .unit)))) .unit))) (.pair (.box TVerdict) (.pair (.int .i64) .unit))))) ⊕ ((Ty.T (.pair (.box (.pair (.int .i64) (.pair (.pair (.int .i64) (.pair (.int .i64) (.pair TState (.pair (.own 2 (.int .i64)) .unit)))) .unit))) (.pair (.box TVerdict) .unit))) ⊕ (Ty.T .unit))) :=
match (decide (x.2.2.2.1 < (x.1.length : Int))) with
| true =>
 onSome (idx x.1 x.2.2.2.1) fun v7 =>
 match s_l29Merge ((x.2.2.1.1, (x.2.2.1.2.1.1, x.2.2.1.2.1.2.1, (x.2.2.1.2.1.2.2.1.1, x.2.2.1.2.1.2.2.1.2.1, x.2.2.1.2.1.2.2.1.2.2.1, x.2.2.1.2.1.2.2.1.2.2.2.1, x.2.2.1.2.1.2.2.1.2.2.2.2.1, ()), x.2.2.1.2.1.2.2.2.1, ()), ()), v7, ()) with
 | none => none
 | some v8 =>
 some (.inl (x.1, (x.2.1.1, (x.2.1.2.1.1, x.2.1.2.1.2.1, (x.2.1.2.1.2.2.1.1, x.2.1.2.1.2.2.1.2.1, x.2.1.2.1.2.2.1.2.2.1, x.2.1.2.1.2.2.1.2.2.2.1, x.2.1.2.1.2.2.1.2.2.2.2.1, ()), x.2.1.2.1.2.2.2.1, ()), ()), (v8.1.1, (v8.1.2.1.1, v8.1.2.1.2.1, (v8.1.2.1.2.2.1.1, v8.1.2.1.2.2.1.2.1, v8.1.2.1.2.2.1.2.2.1, v8.1.2.1.2.2.1.2.2.2.1, v8.1.2.1.2.2.1.2.2.2.2.1, ()), v8.1.2.1.2.2.2.1, ()), ()), (IntKind.i64.wrap (x.2.2.2.1 + (1 : Int))), ()))
| false =>
 some (.inr (.inl ((x.2.1.1, (x.2.1.2.1.1, x.2.1.2.1.2.1, (x.2.1.2.1.2.2.1.1, x.2.1.2.1.2.2.1.2.1, x.2.1.2.1.2.2.1.2.2.1, x.2.1.2.1.2.2.1.2.2.2.1, x.2.1.2.1.2.2.1.2.2.2.2.1, ()), x.2.1.2.1.2.2.2.1, ()), ()), (x.2.2.1.1, (x.2.2.1.2.1.1, x.2.2.1.2.1.2.1, (x.2.2.1.2.1.2.2.1.1, x.2.2.1.2.1.2.2.1.2.1, x.2.2.1.2.1.2.2.1.2.2.1, x.2.2.1.2.1.2.2.1.2.2.2.1, x.2.2.1.2.1.2.2.1.2.2.2.2.1, ()), x.2.2.1.2.1.2.2.2.1, ()), ()), ())))
noncomputable def s_MergeAll (x : Ty.T (.pair (.list TVerdict) .unit)) : Option (Ty.T (.pair (.pair (.int .i64) (.pair (.pair (.int .i64) (.pair (.int .i64) (.pair TState (.pair (.own 2 (.int .i64)) .unit)))) .unit)) (.pair (.int .i64) .unit))) :=
match s_l01In ((x.1.length : Int), (1 : Int), (32 : Int), ()) with
| none => none
| some v1 =>
match (!v1.1) with
| true =>
 some (((0 : Int), ((0 : Int), (0 : Int), ((0 : Int), (0 : Int), (0 : Int), (0 : Int), (0 : Int), ()), [], ()), ()), (3 : Int), ())
| false =>
 match loopL b_s_MergeAll_4 (x.1, ((0 : Int), ((0 : Int), (0 : Int), ((0 : Int), (0 : Int), (0 : Int), (0 : Int), (0 : Int), ()), [], ()), ()), (0 : Int), ()) with
 | none => none
 | some (.inl v4) =>
  onSome (idx v4.1 (0 : Int)) fun v6 =>
  match loopL b_s_MergeAll_10 (v4.1, (v4.2.1.1, (v4.2.1.2.1.1, v4.2.1.2.1.2.1, (v4.2.1.2.1.2.2.1.1, v4.2.1.2.1.2.2.1.2.1, v4.2.1.2.1.2.2.1.2.2.1, v4.2.1.2.1.2.2.1.2.2.2.1, v4.2.1.2.1.2.2.1.2.2.2.2.1, ()), v4.2.1.2.1.2.2.2.1, ()), ()), (v6.1, (v6.2.1.1, v6.2.1.2.1, (v6.2.1.2.2.1.1, v6.2.1.2.2.1.2.1, v6.2.1.2.2.1.2.2.1, v6.2.1.2.2.1.2.2.2.1, v6.2.1.2.2.1.2.2.2.2.1, ()), v6.2.1.2.2.2.1, ()), ()), (1 : Int), ()) with
  | none => none
  | some (.inl v9) =>
   match s_l29Own ((v9.2.1.1, (v9.2.1.2.1.1, v9.2.1.2.1.2.1, (v9.2.1.2.1.2.2.1.1, v9.2.1.2.1.2.2.1.2.1, v9.2.1.2.1.2.2.1.2.2.1, v9.2.1.2.1.2.2.1.2.2.2.1, v9.2.1.2.1.2.2.1.2.2.2.2.1, ()), v9.2.1.2.1.2.2.2.1, ()), ()), ()) with
   | none => none
   | some v11 =>
   some ((v11.1.1, (v11.1.2.1.1, v11.1.2.1.2.1, (v11.1.2.1.2.2.1.1, v11.1.2.1.2.2.1.2.1, v11.1.2.1.2.2.1.2.2.1, v11.1.2.1.2.2.1.2.2.2.1, v11.1.2.1.2.2.1.2.2.2.2.1, ()), v11.1.2.1.2.2.2.1, ()), ()), (0 : Int), ())
  | some (.inr v12) =>
   none
 | some (.inr v5) =>
  some ((v5.1.1, (v5.1.2.1.1, v5.1.2.1.2.1, (v5.1.2.1.2.2.1.1, v5.1.2.1.2.2.1.2.1, v5.1.2.1.2.2.1.2.2.1, v5.1.2.1.2.2.1.2.2.2.1, v5.1.2.1.2.2.1.2.2.2.2.1, ()), v5.1.2.1.2.2.2.1, ()), ()), v5.2.1, ())
noncomputable def S_s_MergeAll : Spec := ⟨(.pair (.list TVerdict) .unit), (.pair (.pair (.int .i64) (.pair (.pair (.int .i64) (.pair (.int .i64) (.pair TState (.pair (.own 2 (.int .i64)) .unit)))) .unit)) (.pair (.int .i64) .unit)), .unit, rfl, s_MergeAll⟩
noncomputable def σ_s_MergeAll : FuncId → Option Spec := sig [(73, S_s_l01In), (101, S_s_IsVerdict), (102, S_s_l29Own), (103, S_s_l29Merge)]
theorem σok_s_MergeAll : ∀ f s, σ_s_MergeAll f = some s → FnOK Try.prog f s := sig_ok (l := [(73, S_s_l01In), (101, S_s_IsVerdict), (102, S_s_l29Own), (103, S_s_l29Merge)]) ⟨ok_s_l01In, ok_s_IsVerdict, ok_s_l29Own, ok_s_l29Merge, trivial⟩
noncomputable def Λ_s_MergeAll : Nat → Option LSpec := lkp (loopList (bodyOf Try.f62)) [⟨[0, 2, 4], (.pair (.list TVerdict) (.pair (.box (.pair (.int .i64) (.pair (.pair (.int .i64) (.pair (.int .i64) (.pair TState (.pair (.own 2 (.int .i64)) .unit)))) .unit))) (.pair (.int .i64) .unit))), 0, [0, 2], (.pair (.list TVerdict) (.pair (.box (.pair (.int .i64) (.pair (.pair (.int .i64) (.pair (.int .i64) (.pair TState (.pair (.own 2 (.int .i64)) .unit)))) .unit))) .unit)), [2, 3], (.pair (.box (.pair (.int .i64) (.pair (.pair (.int .i64) (.pair (.int .i64) (.pair TState (.pair (.own 2 (.int .i64)) .unit)))) .unit))) (.pair (.int .i64) .unit)), loopL b_s_MergeAll_4⟩, ⟨[0, 2, 5, 6], (.pair (.list TVerdict) (.pair (.box (.pair (.int .i64) (.pair (.pair (.int .i64) (.pair (.int .i64) (.pair TState (.pair (.own 2 (.int .i64)) .unit)))) .unit))) (.pair (.box TVerdict) (.pair (.int .i64) .unit)))), 2, [2, 5], (.pair (.box (.pair (.int .i64) (.pair (.pair (.int .i64) (.pair (.int .i64) (.pair TState (.pair (.own 2 (.int .i64)) .unit)))) .unit))) (.pair (.box TVerdict) .unit)), [], .unit, loopL b_s_MergeAll_10⟩]
theorem lok_s_MergeAll_4 (x) : codeK Γ0 E0 σ_s_MergeAll Λ_s_MergeAll Try.f62.ntmps (nthLoop Try.f62 0) (mkF Try.f62.ntmps [0, 2, 4] (.pair (.list TVerdict) (.pair (.box (.pair (.int .i64) (.pair (.pair (.int .i64) (.pair (.int .i64) (.pair TState (.pair (.own 2 (.int .i64)) .unit)))) .unit))) (.pair (.int .i64) .unit))) x) (readK σ_s_MergeAll Try.f62.ntmps [0, 2, 4] (.pair (.list TVerdict) (.pair (.box (.pair (.int .i64) (.pair (.pair (.int .i64) (.pair (.int .i64) (.pair TState (.pair (.own 2 (.int .i64)) .unit)))) .unit))) (.pair (.int .i64) .unit))) 0 [0, 2] (.pair (.list TVerdict) (.pair (.box (.pair (.int .i64) (.pair (.pair (.int .i64) (.pair (.int .i64) (.pair TState (.pair (.own 2 (.int .i64)) .unit)))) .unit))) .unit)) [2, 3] (.pair (.box (.pair (.int .i64) (.pair (.pair (.int .i64) (.pair (.int .i64) (.pair TState (.pair (.own 2 (.int .i64)) .unit)))) .unit))) (.pair (.int .i64) .unit))) = b_s_MergeAll_4 x := by kernel_rfl
theorem lok_s_MergeAll_10 (x) : codeK Γ0 E0 σ_s_MergeAll Λ_s_MergeAll Try.f62.ntmps (nthLoop Try.f62 1) (mkF Try.f62.ntmps [0, 2, 5, 6] (.pair (.list TVerdict) (.pair (.box (.pair (.int .i64) (.pair (.pair (.int .i64) (.pair (.int .i64) (.pair TState (.pair (.own 2 (.int .i64)) .unit)))) .unit))) (.pair (.box TVerdict) (.pair (.int .i64) .unit)))) x) (readK σ_s_MergeAll Try.f62.ntmps [0, 2, 5, 6] (.pair (.list TVerdict) (.pair (.box (.pair (.int .i64) (.pair (.pair (.int .i64) (.pair (.int .i64) (.pair TState (.pair (.own 2 (.int .i64)) .unit)))) .unit))) (.pair (.box TVerdict) (.pair (.int .i64) .unit)))) 2 [2, 5] (.pair (.box (.pair (.int .i64) (.pair (.pair (.int .i64) (.pair (.int .i64) (.pair TState (.pair (.own 2 (.int .i64)) .unit)))) .unit))) (.pair (.box TVerdict) .unit)) [] .unit) = b_s_MergeAll_10 x := by kernel_rfl
theorem ok_s_MergeAll : FnOK Try.prog 62 S_s_MergeAll := fn_ok (Λ := Λ_s_MergeAll) tab0 σok_s_MergeAll Try.func62 (by kernel_rfl) (show Try.f62.body = some (bodyOf Try.f62) by kernel_rfl) [⟨[0, 2, 4], (.pair (.list TVerdict) (.pair (.box (.pair (.int .i64) (.pair (.pair (.int .i64) (.pair (.int .i64) (.pair TState (.pair (.own 2 (.int .i64)) .unit)))) .unit))) (.pair (.int .i64) .unit))), 0, [0, 2], (.pair (.list TVerdict) (.pair (.box (.pair (.int .i64) (.pair (.pair (.int .i64) (.pair (.int .i64) (.pair TState (.pair (.own 2 (.int .i64)) .unit)))) .unit))) .unit)), [2, 3], (.pair (.box (.pair (.int .i64) (.pair (.pair (.int .i64) (.pair (.int .i64) (.pair TState (.pair (.own 2 (.int .i64)) .unit)))) .unit))) (.pair (.int .i64) .unit)), loopL b_s_MergeAll_4⟩, ⟨[0, 2, 5, 6], (.pair (.list TVerdict) (.pair (.box (.pair (.int .i64) (.pair (.pair (.int .i64) (.pair (.int .i64) (.pair TState (.pair (.own 2 (.int .i64)) .unit)))) .unit))) (.pair (.box TVerdict) (.pair (.int .i64) .unit)))), 2, [2, 5], (.pair (.box (.pair (.int .i64) (.pair (.pair (.int .i64) (.pair (.int .i64) (.pair TState (.pair (.own 2 (.int .i64)) .unit)))) .unit))) (.pair (.box TVerdict) .unit)), [], .unit, loopL b_s_MergeAll_10⟩] rfl (by kernel_rfl) (by exact ⟨loop_LOK (lok_s_MergeAll_4), loop_LOK (lok_s_MergeAll_10), trivial⟩) (by kernel_rfl)
  fun x y h => (show execFn Γ0 E0 σ_s_MergeAll Λ_s_MergeAll Try.f62 S_s_MergeAll x = s_MergeAll x by kernel_rfl).trans h

noncomputable def b_i_MergeAll_7 (x : (Ty.T (.pair (.box (.pair (.int .i64) (.pair (.pair (.int .i64) (.pair (.int .i64) (.pair TState (.pair (.own 2 (.int .i64)) .unit)))) .unit))) (.pair (.box TVerdict) (.pair (.list TVerdict) (.pair (.int .i64) (.pair (.int .i64) .unit))))))) : Option ((Ty.T (.pair (.box (.pair (.int .i64) (.pair (.pair (.int .i64) (.pair (.int .i64) (.pair TState (.pair (.own 2 (.int .i64)) .unit)))) .unit))) (.pair (.box TVerdict) (.pair (.list TVerdict) (.pair (.int .i64) (.pair (.int .i64) .unit)))))) ⊕ ((Ty.T (.pair (.box (.pair (.int .i64) (.pair (.pair (.int .i64) (.pair (.int .i64) (.pair TState (.pair (.own 2 (.int .i64)) .unit)))) .unit))) (.pair (.box TVerdict) .unit))) ⊕ (Ty.T .unit))) :=
match (decide (x.2.2.2.2.1 < x.2.2.2.1)) with
| true =>
 onSome (idx x.2.2.1 x.2.2.2.2.1) fun v4 =>
 match i_merge ((x.2.1.1, (x.2.1.2.1.1, x.2.1.2.1.2.1, (x.2.1.2.1.2.2.1.1, x.2.1.2.1.2.2.1.2.1, x.2.1.2.1.2.2.1.2.2.1, x.2.1.2.1.2.2.1.2.2.2.1, x.2.1.2.1.2.2.1.2.2.2.2.1, ()), x.2.1.2.1.2.2.2.1, ()), ()), (v4.1, (v4.2.1.1, v4.2.1.2.1, (v4.2.1.2.2.1.1, v4.2.1.2.2.1.2.1, v4.2.1.2.2.1.2.2.1, v4.2.1.2.2.1.2.2.2.1, v4.2.1.2.2.1.2.2.2.2.1, ()), v4.2.1.2.2.2.1, ()), ()), ()) with
 | none => none
 | some v5 =>
 some (.inl ((x.1.1, (x.1.2.1.1, x.1.2.1.2.1, (x.1.2.1.2.2.1.1, x.1.2.1.2.2.1.2.1, x.1.2.1.2.2.1.2.2.1, x.1.2.1.2.2.1.2.2.2.1, x.1.2.1.2.2.1.2.2.2.2.1, ()), x.1.2.1.2.2.2.1, ()), ()), (v5.1.1, (v5.1.2.1.1, v5.1.2.1.2.1, (v5.1.2.1.2.2.1.1, v5.1.2.1.2.2.1.2.1, v5.1.2.1.2.2.1.2.2.1, v5.1.2.1.2.2.1.2.2.2.1, v5.1.2.1.2.2.1.2.2.2.2.1, ()), v5.1.2.1.2.2.2.1, ()), ()), x.2.2.1, x.2.2.2.1, (IntKind.i64.wrap (x.2.2.2.2.1 + (1 : Int))), ()))
| false =>
 some (.inr (.inl ((x.1.1, (x.1.2.1.1, x.1.2.1.2.1, (x.1.2.1.2.2.1.1, x.1.2.1.2.2.1.2.1, x.1.2.1.2.2.1.2.2.1, x.1.2.1.2.2.1.2.2.2.1, x.1.2.1.2.2.1.2.2.2.2.1, ()), x.1.2.1.2.2.2.1, ()), ()), (x.2.1.1, (x.2.1.2.1.1, x.2.1.2.1.2.1, (x.2.1.2.1.2.2.1.1, x.2.1.2.1.2.2.1.2.1, x.2.1.2.1.2.2.1.2.2.1, x.2.1.2.1.2.2.1.2.2.2.1, x.2.1.2.1.2.2.1.2.2.2.2.1, ()), x.2.1.2.1.2.2.2.1, ()), ()), ())))
noncomputable def i_MergeAll (x : Ty.T (.pair (.list TVerdict) .unit)) : Option (Ty.T (.pair (.pair (.int .i64) (.pair (.pair (.int .i64) (.pair (.int .i64) (.pair TState (.pair (.own 2 (.int .i64)) .unit)))) .unit)) (.pair (.int .i64) .unit))) :=
match (decide ((x.1.length : Int) < (1 : Int))) with
| true =>
 some (((0 : Int), ((0 : Int), (0 : Int), ((0 : Int), (0 : Int), (0 : Int), (0 : Int), (0 : Int), ()), [], ()), ()), (3 : Int), ())
| false =>
 match (decide ((x.1.length : Int) > (32 : Int))) with
 | true =>
  some (((0 : Int), ((0 : Int), (0 : Int), ((0 : Int), (0 : Int), (0 : Int), (0 : Int), (0 : Int), ()), [], ()), ()), (3 : Int), ())
 | false =>
  match i_areVerdicts (x.1, ()) with
  | none => none
  | some v1 =>
  match (!v1.1) with
  | true =>
   some (((0 : Int), ((0 : Int), (0 : Int), ((0 : Int), (0 : Int), (0 : Int), (0 : Int), (0 : Int), ()), [], ()), ()), (1 : Int), ())
  | false =>
   onSome (idx x.1 (0 : Int)) fun v2 =>
   onSome (bounds x.1.length (some (.dat (.int .i64) (1 : Int))) none) fun v3 =>
   match loopL b_i_MergeAll_7 (((0 : Int), ((0 : Int), (0 : Int), ((0 : Int), (0 : Int), (0 : Int), (0 : Int), (0 : Int), ()), [], ()), ()), (v2.1, (v2.2.1.1, v2.2.1.2.1, (v2.2.1.2.2.1.1, v2.2.1.2.2.1.2.1, v2.2.1.2.2.1.2.2.1, v2.2.1.2.2.1.2.2.2.1, v2.2.1.2.2.1.2.2.2.2.1, ()), v2.2.1.2.2.2.1, ()), ()), (List.drop v3.1 (List.take v3.2 x.1)), ((List.drop v3.1 (List.take v3.2 x.1)).length : Int), (0 : Int), ()) with
   | none => none
   | some (.inl v6) =>
    match i_ownVerdict ((v6.2.1.1, (v6.2.1.2.1.1, v6.2.1.2.1.2.1, (v6.2.1.2.1.2.2.1.1, v6.2.1.2.1.2.2.1.2.1, v6.2.1.2.1.2.2.1.2.2.1, v6.2.1.2.1.2.2.1.2.2.2.1, v6.2.1.2.1.2.2.1.2.2.2.2.1, ()), v6.2.1.2.1.2.2.2.1, ()), ()), ()) with
    | none => none
    | some v8 =>
    some ((v8.1.1, (v8.1.2.1.1, v8.1.2.1.2.1, (v8.1.2.1.2.2.1.1, v8.1.2.1.2.2.1.2.1, v8.1.2.1.2.2.1.2.2.1, v8.1.2.1.2.2.1.2.2.2.1, v8.1.2.1.2.2.1.2.2.2.2.1, ()), v8.1.2.1.2.2.2.1, ()), ()), (0 : Int), ())
   | some (.inr v9) =>
    none
noncomputable def S_i_MergeAll : Spec := ⟨(.pair (.list TVerdict) .unit), (.pair (.pair (.int .i64) (.pair (.pair (.int .i64) (.pair (.int .i64) (.pair TState (.pair (.own 2 (.int .i64)) .unit)))) .unit)) (.pair (.int .i64) .unit)), .unit, rfl, i_MergeAll⟩
noncomputable def σ_i_MergeAll : FuncId → Option Spec := sig [(99, S_i_ownVerdict), (100, S_i_merge), (112, S_i_areVerdicts)]
theorem σok_i_MergeAll : ∀ f s, σ_i_MergeAll f = some s → FnOK Try.prog f s := sig_ok (l := [(99, S_i_ownVerdict), (100, S_i_merge), (112, S_i_areVerdicts)]) ⟨ok_i_ownVerdict, ok_i_merge, ok_i_areVerdicts, trivial⟩
noncomputable def Λ_i_MergeAll : Nat → Option LSpec := lkp (loopList (bodyOf Try.f63)) [⟨[2, 4, 24, 25, 26], (.pair (.box (.pair (.int .i64) (.pair (.pair (.int .i64) (.pair (.int .i64) (.pair TState (.pair (.own 2 (.int .i64)) .unit)))) .unit))) (.pair (.box TVerdict) (.pair (.list TVerdict) (.pair (.int .i64) (.pair (.int .i64) .unit))))), 0, [2, 4], (.pair (.box (.pair (.int .i64) (.pair (.pair (.int .i64) (.pair (.int .i64) (.pair TState (.pair (.own 2 (.int .i64)) .unit)))) .unit))) (.pair (.box TVerdict) .unit)), [], .unit, loopL b_i_MergeAll_7⟩]
theorem lok_i_MergeAll_7 (x) : codeK Γ0 E0 σ_i_MergeAll Λ_i_MergeAll Try.f63.ntmps (nthLoop Try.f63 0) (mkF Try.f63.ntmps [2, 4, 24, 25, 26] (.pair (.box (.pair (.int .i64) (.pair (.pair (.int .i64) (.pair (.int .i64) (.pair TState (.pair (.own 2 (.int .i64)) .unit)))) .unit))) (.pair (.box TVerdict) (.pair (.list TVerdict) (.pair (.int .i64) (.pair (.int .i64) .unit))))) x) (readK σ_i_MergeAll Try.f63.ntmps [2, 4, 24, 25, 26] (.pair (.box (.pair (.int .i64) (.pair (.pair (.int .i64) (.pair (.int .i64) (.pair TState (.pair (.own 2 (.int .i64)) .unit)))) .unit))) (.pair (.box TVerdict) (.pair (.list TVerdict) (.pair (.int .i64) (.pair (.int .i64) .unit))))) 0 [2, 4] (.pair (.box (.pair (.int .i64) (.pair (.pair (.int .i64) (.pair (.int .i64) (.pair TState (.pair (.own 2 (.int .i64)) .unit)))) .unit))) (.pair (.box TVerdict) .unit)) [] .unit) = b_i_MergeAll_7 x := by kernel_rfl
theorem ok_i_MergeAll : FnOK Try.prog 63 S_i_MergeAll := fn_ok (Λ := Λ_i_MergeAll) tab0 σok_i_MergeAll Try.func63 (by kernel_rfl) (show Try.f63.body = some (bodyOf Try.f63) by kernel_rfl) [⟨[2, 4, 24, 25, 26], (.pair (.box (.pair (.int .i64) (.pair (.pair (.int .i64) (.pair (.int .i64) (.pair TState (.pair (.own 2 (.int .i64)) .unit)))) .unit))) (.pair (.box TVerdict) (.pair (.list TVerdict) (.pair (.int .i64) (.pair (.int .i64) .unit))))), 0, [2, 4], (.pair (.box (.pair (.int .i64) (.pair (.pair (.int .i64) (.pair (.int .i64) (.pair TState (.pair (.own 2 (.int .i64)) .unit)))) .unit))) (.pair (.box TVerdict) .unit)), [], .unit, loopL b_i_MergeAll_7⟩] rfl (by kernel_rfl) (by exact ⟨loop_LOK (lok_i_MergeAll_7), trivial⟩) (by kernel_rfl)
  fun x y h => (show execFn Γ0 E0 σ_i_MergeAll Λ_i_MergeAll Try.f63 S_i_MergeAll x = i_MergeAll x by kernel_rfl).trans h

noncomputable def l_FnExactMergeAll (x : Ty.T (.pair (.list TVerdict) .unit)) : Option (Ty.T (.pair .bool .unit)) :=
match l_szVerdictS (x.1, (1048576 : Int), ()) with
| none => none
| some v1 =>
match (decide (v1.1 < (0 : Int))) with
| true =>
 some (true, ())
| false =>
 match l_toVerdictS (x.1, ()) with
 | none => none
 | some v2 =>
 match s_MergeAll (v2.1, ()) with
 | none => none
 | some v3 =>
 match l_toVerdictS (x.1, ()) with
 | none => none
 | some v4 =>
 match i_MergeAll (v4.1, ()) with
 | none => none
 | some v5 =>
 match l_eqVerdict ((v5.1.1, (v5.1.2.1.1, v5.1.2.1.2.1, (v5.1.2.1.2.2.1.1, v5.1.2.1.2.2.1.2.1, v5.1.2.1.2.2.1.2.2.1, v5.1.2.1.2.2.1.2.2.2.1, v5.1.2.1.2.2.1.2.2.2.2.1, ()), v5.1.2.1.2.2.2.1, ()), ()), (v3.1.1, (v3.1.2.1.1, v3.1.2.1.2.1, (v3.1.2.1.2.2.1.1, v3.1.2.1.2.2.1.2.1, v3.1.2.1.2.2.1.2.2.1, v3.1.2.1.2.2.1.2.2.2.1, v3.1.2.1.2.2.1.2.2.2.2.1, ()), v3.1.2.1.2.2.2.1, ()), ()), ()) with
 | none => none
 | some v6 =>
 match (!v6.1) with
 | true =>
  some (false, ())
 | false =>
  match (v5.2.1 != v3.2.1) with
  | true =>
   some (false, ())
  | false =>
   match l_toVerdictS (x.1, ()) with
   | none => none
   | some v7 =>
   match l_eqVerdictS (v4.1, v7.1, ()) with
   | none => none
   | some v8 =>
   match (!v8.1) with
   | true =>
    some (false, ())
   | false =>
    match l_markVerdictS (v4.1, (1 : Int), ()) with
    | none => none
    | some v9 =>
    match (decide (v9.1 < (0 : Int))) with
    | true =>
     some (false, ())
    | false =>
     match l_eqVerdict ((v5.1.1, (v5.1.2.1.1, v5.1.2.1.2.1, (v5.1.2.1.2.2.1.1, v5.1.2.1.2.2.1.2.1, v5.1.2.1.2.2.1.2.2.1, v5.1.2.1.2.2.1.2.2.2.1, v5.1.2.1.2.2.1.2.2.2.2.1, ()), v5.1.2.1.2.2.2.1, ()), ()), (v3.1.1, (v3.1.2.1.1, v3.1.2.1.2.1, (v3.1.2.1.2.2.1.1, v3.1.2.1.2.2.1.2.1, v3.1.2.1.2.2.1.2.2.1, v3.1.2.1.2.2.1.2.2.2.1, v3.1.2.1.2.2.1.2.2.2.2.1, ()), v3.1.2.1.2.2.2.1, ()), ()), ()) with
     | none => none
     | some v10 =>
     match (!v10.1) with
     | true =>
      some (false, ())
     | false =>
      match (v5.2.1 != v3.2.1) with
      | true =>
       some (false, ())
      | false =>
       match l_markVerdict ((v5.1.1, (v5.1.2.1.1, v5.1.2.1.2.1, (v5.1.2.1.2.2.1.1, v5.1.2.1.2.2.1.2.1, v5.1.2.1.2.2.1.2.2.1, v5.1.2.1.2.2.1.2.2.2.1, v5.1.2.1.2.2.1.2.2.2.2.1, ()), v5.1.2.1.2.2.2.1, ()), ()), (1 : Int), ()) with
       | none => none
       | some v11 =>
       match l_heldVerdict ((v5.1.1, (v5.1.2.1.1, v5.1.2.1.2.1, (v5.1.2.1.2.2.1.1, v5.1.2.1.2.2.1.2.1, v5.1.2.1.2.2.1.2.2.1, v5.1.2.1.2.2.1.2.2.2.1, v5.1.2.1.2.2.1.2.2.2.2.1, ()), v11.2.1.2.1.2.2.2.1, ()), ()), (1 : Int), ()) with
       | none => none
       | some v12 =>
       match (decide (v12.1 < (0 : Int))) with
       | true =>
        some (false, ())
       | false =>
        match (v12.1 != v11.1) with
        | true =>
         some (false, ())
        | false =>
         match l_toVerdictS (x.1, ()) with
         | none => none
         | some v13 =>
         match i_MergeAll (v13.1, ()) with
         | none => none
         | some v14 =>
         match l_eqVerdict ((v14.1.1, (v14.1.2.1.1, v14.1.2.1.2.1, (v14.1.2.1.2.2.1.1, v14.1.2.1.2.2.1.2.1, v14.1.2.1.2.2.1.2.2.1, v14.1.2.1.2.2.1.2.2.2.1, v14.1.2.1.2.2.1.2.2.2.2.1, ()), v14.1.2.1.2.2.2.1, ()), ()), (v3.1.1, (v3.1.2.1.1, v3.1.2.1.2.1, (v3.1.2.1.2.2.1.1, v3.1.2.1.2.2.1.2.1, v3.1.2.1.2.2.1.2.2.1, v3.1.2.1.2.2.1.2.2.2.1, v3.1.2.1.2.2.1.2.2.2.2.1, ()), v3.1.2.1.2.2.2.1, ()), ()), ()) with
         | none => none
         | some v15 =>
         match (!v15.1) with
         | true =>
          some (false, ())
         | false =>
          match (v14.2.1 != v3.2.1) with
          | true =>
           some (false, ())
          | false =>
           match l_heldVerdict ((v5.1.1, (v5.1.2.1.1, v5.1.2.1.2.1, (v5.1.2.1.2.2.1.1, v5.1.2.1.2.2.1.2.1, v5.1.2.1.2.2.1.2.2.1, v5.1.2.1.2.2.1.2.2.2.1, v5.1.2.1.2.2.1.2.2.2.2.1, ()), v11.2.1.2.1.2.2.2.1, ()), ()), (1 : Int), ()) with
           | none => none
           | some v16 =>
           match (decide (v16.1 < (0 : Int))) with
           | true =>
            some (false, ())
           | false =>
            match (v16.1 != v11.1) with
            | true =>
             some (false, ())
            | false =>
             some (true, ())
noncomputable def S_l_FnExactMergeAll : Spec := ⟨(.pair (.list TVerdict) .unit), (.pair .bool .unit), .unit, rfl, l_FnExactMergeAll⟩
noncomputable def σ_l_FnExactMergeAll : FuncId → Option Spec := sig [(50, S_l_eqVerdict), (51, S_l_markVerdict), (52, S_l_heldVerdict), (53, S_l_szVerdictS), (55, S_l_toVerdictS), (58, S_l_eqVerdictS), (59, S_l_markVerdictS), (62, S_s_MergeAll), (63, S_i_MergeAll)]
theorem σok_l_FnExactMergeAll : ∀ f s, σ_l_FnExactMergeAll f = some s → FnOK Try.prog f s := sig_ok (l := [(50, S_l_eqVerdict), (51, S_l_markVerdict), (52, S_l_heldVerdict), (53, S_l_szVerdictS), (55, S_l_toVerdictS), (58, S_l_eqVerdictS), (59, S_l_markVerdictS), (62, S_s_MergeAll), (63, S_i_MergeAll)]) ⟨ok_l_eqVerdict, ok_l_markVerdict, ok_l_heldVerdict, ok_l_szVerdictS, ok_l_toVerdictS, ok_l_eqVerdictS, ok_l_markVerdictS, ok_s_MergeAll, ok_i_MergeAll, trivial⟩
noncomputable def Λ_l_FnExactMergeAll : Nat → Option LSpec := lkp (loopList (bodyOf Try.f11)) []
theorem ok_l_FnExactMergeAll : FnOK Try.prog 11 S_l_FnExactMergeAll := fn_ok (Λ := Λ_l_FnExactMergeAll) tab0 σok_l_FnExactMergeAll Try.func11 (by kernel_rfl) (show Try.f11.body = some (bodyOf Try.f11) by kernel_rfl) [] rfl (by kernel_rfl) (by exact trivial) (by kernel_rfl)
  fun x y h => (show execFn Γ0 E0 σ_l_FnExactMergeAll Λ_l_FnExactMergeAll Try.f11 S_l_FnExactMergeAll x = l_FnExactMergeAll x by kernel_rfl).trans h

noncomputable def b_s_l29DrawList_4 (x : (Ty.T (.pair (.box Tl01Source) (.pair (.box TVerdict) (.pair (.own 56 TVerdict) (.pair (.int .i64) .unit)))))) : Option ((Ty.T (.pair (.box Tl01Source) (.pair (.box TVerdict) (.pair (.own 56 TVerdict) (.pair (.int .i64) .unit))))) ⊕ ((Ty.T (.pair (.box Tl01Source) (.pair (.own 56 TVerdict) .unit))) ⊕ (Ty.T .unit))) :=
match (decide (x.2.2.2.1 > (0 : Int))) with
| true =>
 match s_l01Next ((x.1.1, x.1.2.1, x.1.2.2.1, ()), (3 : Int), ()) with
 | none => none
 | some v3 =>
 match (v3.1 == (0 : Int)) with
 | true =>
  match s_l28DrawVerdict ((v3.2.1.1, v3.2.1.2.1, v3.2.1.2.2.1, ()), ()) with
  | none => none
  | some v4 =>
  room (x.2.2.1.length + [v4.1].length) (
   some (.inl ((v4.2.1.1, v4.2.1.2.1, v4.2.1.2.2.1, ()), (x.2.1.1, (x.2.1.2.1.1, x.2.1.2.1.2.1, (x.2.1.2.1.2.2.1.1, x.2.1.2.1.2.2.1.2.1, x.2.1.2.1.2.2.1.2.2.1, x.2.1.2.1.2.2.1.2.2.2.1, x.2.1.2.1.2.2.1.2.2.2.2.1, ()), x.2.1.2.1.2.2.2.1, ()), ()), (x.2.2.1 ++ [v4.1]), (IntKind.i64.wrap (x.2.2.2.1 - (1 : Int))), ())))
 | false =>
  room (x.2.2.1.length + [(x.2.1.1, (x.2.1.2.1.1, x.2.1.2.1.2.1, (x.2.1.2.1.2.2.1.1, x.2.1.2.1.2.2.1.2.1, x.2.1.2.1.2.2.1.2.2.1, x.2.1.2.1.2.2.1.2.2.2.1, x.2.1.2.1.2.2.1.2.2.2.2.1, ()), x.2.1.2.1.2.2.2.1, ()), ())].length) (
   some (.inl ((v3.2.1.1, v3.2.1.2.1, v3.2.1.2.2.1, ()), (x.2.1.1, (x.2.1.2.1.1, x.2.1.2.1.2.1, (x.2.1.2.1.2.2.1.1, x.2.1.2.1.2.2.1.2.1, x.2.1.2.1.2.2.1.2.2.1, x.2.1.2.1.2.2.1.2.2.2.1, x.2.1.2.1.2.2.1.2.2.2.2.1, ()), x.2.1.2.1.2.2.2.1, ()), ()), (x.2.2.1 ++ [(x.2.1.1, (x.2.1.2.1.1, x.2.1.2.1.2.1, (x.2.1.2.1.2.2.1.1, x.2.1.2.1.2.2.1.2.1, x.2.1.2.1.2.2.1.2.2.1, x.2.1.2.1.2.2.1.2.2.2.1, x.2.1.2.1.2.2.1.2.2.2.2.1, ()), x.2.1.2.1.2.2.2.1, ()), ())]), (IntKind.i64.wrap (x.2.2.2.1 - (1 : Int))), ())))
| false =>
 some (.inr (.inl ((x.1.1, x.1.2.1, x.1.2.2.1, ()), x.2.2.1, ())))
noncomputable def s_l29DrawList (x : Ty.T (.pair (.box Tl01Source) .unit)) : Option (Ty.T (.pair (.own 56 TVerdict) (.pair (.box Tl01Source) .unit))) :=
match s_l28DrawVerdict ((x.1.1, x.1.2.1, x.1.2.2.1, ()), ()) with
| none => none
| some v1 =>
match s_l01Next ((v1.2.1.1, v1.2.1.2.1, v1.2.1.2.2.1, ()), (6 : Int), ()) with
| none => none
| some v2 =>
match loopL b_s_l29DrawList_4 ((v2.2.1.1, v2.2.1.2.1, v2.2.1.2.2.1, ()), (v1.1.1, (v1.1.2.1.1, v1.1.2.1.2.1, (v1.1.2.1.2.2.1.1, v1.1.2.1.2.2.1.2.1, v1.1.2.1.2.2.1.2.2.1, v1.1.2.1.2.2.1.2.2.2.1, v1.1.2.1.2.2.1.2.2.2.2.1, ()), v1.1.2.1.2.2.2.1, ()), ()), [], v2.1, ()) with
| none => none
| some (.inl v5) =>
 match s_l01Next ((v5.1.1, v5.1.2.1, v5.1.2.2.1, ()), (30 : Int), ()) with
 | none => none
 | some v7 =>
 match (v7.1 == (0 : Int)) with
 | true =>
  match s_l01Next ((v7.2.1.1, v7.2.1.2.1, v7.2.1.2.2.1, ()), (2 : Int), ()) with
  | none => none
  | some v8 =>
  if 0 ≤ (IntKind.i64.wrap ((32 : Int) + v8.1)) ∧ (IntKind.i64.wrap ((32 : Int) + v8.1)) ≤ (IntKind.i64.wrap ((32 : Int) + v8.1)) then
   room ((IntKind.i64.wrap ((32 : Int) + v8.1)).toNat) (
    some ((List.replicate (IntKind.i64.wrap ((32 : Int) + v8.1)).toNat ((0 : Int), ((0 : Int), (0 : Int), ((0 : Int), (0 : Int), (0 : Int), (0 : Int), (0 : Int), ()), [], ()), ())), (v8.2.1.1, v8.2.1.2.1, v8.2.1.2.2.1, ()), ()))
  else none
 | false =>
  some (v5.2.1, (v7.2.1.1, v7.2.1.2.1, v7.2.1.2.2.1, ()), ())
| some (.inr v9) =>
 none
noncomputable def S_s_l29DrawList : Spec := ⟨(.pair (.box Tl01Source) .unit), (.pair (.own 56 TVerdict) .unit), (.pair (.box Tl01Source) .unit), rfl, s_l29DrawList⟩
noncomputable def σ_s_l29DrawList : FuncId → Option Spec := sig [(96, S_s_l01Next), (127, S_s_l28DrawVerdict)]
theorem σok_s_l29DrawList : ∀ f s, σ_s_l29DrawList f = some s → FnOK Try.prog f s := sig_ok (l := [(96, S_s_l01Next), (127, S_s_l28DrawVerdict)]) ⟨ok_s_l01Next, ok_s_l28DrawVerdict, trivial⟩
noncomputable def Λ_s_l29DrawList : Nat → Option LSpec := lkp (loopList (bodyOf Try.f113)) [⟨[0, 3, 4, 5], (.pair (.box Tl01Source) (.pair (.box TVerdict) (.pair (.own 56 TVerdict) (.pair (.int .i64) .unit)))), 0, [0, 4], (.pair (.box Tl01Source) (.pair (.own 56 TVerdict) .unit)), [], .unit, loopL b_s_l29DrawList_4⟩]
theorem lok_s_l29DrawList_4 (x) : codeK Γ0 E0 σ_s_l29DrawList Λ_s_l29DrawList Try.f113.ntmps (nthLoop Try.f113 0) (mkF Try.f113.ntmps [0, 3, 4, 5] (.pair (.box Tl01Source) (.pair (.box TVerdict) (.pair (.own 56 TVerdict) (.pair (.int .i64) .unit)))) x) (readK σ_s_l29DrawList Try.f113.ntmps [0, 3, 4, 5] (.pair (.box Tl01Source) (.pair (.box TVerdict) (.pair (.own 56 TVerdict) (.pair (.int .i64) .unit)))) 0 [0, 4] (.pair (.box Tl01Source) (.pair (.own 56 TVerdict) .unit)) [] .unit) = b_s_l29DrawList_4 x := by kernel_rfl
theorem ok_s_l29DrawList : FnOK Try.prog 113 S_s_l29DrawList := fn_ok (Λ := Λ_s_l29DrawList) tab0 σok_s_l29DrawList Try.func113 (by kernel_rfl) (show Try.f113.body = some (bodyOf Try.f113) by kernel_rfl) [⟨[0, 3, 4, 5], (.pair (.box Tl01Source) (.pair (.box TVerdict) (.pair (.own 56 TVerdict) (.pair (.int .i64) .unit)))), 0, [0, 4], (.pair (.box Tl01Source) (.pair (.own 56 TVerdict) .unit)), [], .unit, loopL b_s_l29DrawList_4⟩] rfl (by kernel_rfl) (by exact ⟨loop_LOK (lok_s_l29DrawList_4), trivial⟩) (by kernel_rfl)
  fun x y h => (show execFn Γ0 E0 σ_s_l29DrawList Λ_s_l29DrawList Try.f113 S_s_l29DrawList x = s_l29DrawList x by kernel_rfl).trans h

noncomputable def s_DrawMergeAll (x : Ty.T (.pair (.list (.int .u8)) .unit)) : Option (Ty.T (.pair (.own 56 TVerdict) .unit)) :=
match s_l01From (x.1, ()) with
| none => none
| some v1 =>
match s_l29DrawList ((v1.1.1, v1.1.2.1, v1.1.2.2.1, ()), ()) with
| none => none
| some v2 =>
some (v2.1, ())
noncomputable def S_s_DrawMergeAll : Spec := ⟨(.pair (.list (.int .u8)) .unit), (.pair (.own 56 TVerdict) .unit), .unit, rfl, s_DrawMergeAll⟩
noncomputable def σ_s_DrawMergeAll : FuncId → Option Spec := sig [(84, S_s_l01From), (113, S_s_l29DrawList)]
theorem σok_s_DrawMergeAll : ∀ f s, σ_s_DrawMergeAll f = some s → FnOK Try.prog f s := sig_ok (l := [(84, S_s_l01From), (113, S_s_l29DrawList)]) ⟨ok_s_l01From, ok_s_l29DrawList, trivial⟩
noncomputable def Λ_s_DrawMergeAll : Nat → Option LSpec := lkp (loopList (bodyOf Try.f64)) []
theorem ok_s_DrawMergeAll : FnOK Try.prog 64 S_s_DrawMergeAll := fn_ok (Λ := Λ_s_DrawMergeAll) tab0 σok_s_DrawMergeAll Try.func64 (by kernel_rfl) (show Try.f64.body = some (bodyOf Try.f64) by kernel_rfl) [] rfl (by kernel_rfl) (by exact trivial) (by kernel_rfl)
  fun x y h => (show execFn Γ0 E0 σ_s_DrawMergeAll Λ_s_DrawMergeAll Try.f64 S_s_DrawMergeAll x = s_DrawMergeAll x by kernel_rfl).trans h

noncomputable def i_IsAgreement_1 (x : Ty.T (.pair TVerdict (.pair (.ptr (.list TVerdict)) .unit))) : Option (Ty.T (.pair .bool .unit)) :=
onSome (idx x.2.1 (0 : Int)) fun v1 =>
match i_SameVerdict ((x.1.1, (x.1.2.1.1, x.1.2.1.2.1, (x.1.2.1.2.2.1.1, x.1.2.1.2.2.1.2.1, x.1.2.1.2.2.1.2.2.1, x.1.2.1.2.2.1.2.2.2.1, x.1.2.1.2.2.1.2.2.2.2.1, ()), x.1.2.1.2.2.2.1, ()), ()), v1, ()) with
| none => none
| some v2 =>
some ((!v2.1), ())
noncomputable def S_i_IsAgreement_1 : Spec := ⟨(.pair TVerdict (.pair (.ptr (.list TVerdict)) .unit)), (.pair .bool .unit), .unit, rfl, i_IsAgreement_1⟩
noncomputable def σ_i_IsAgreement_1 : FuncId → Option Spec := sig [(116, S_i_SameVerdict)]
theorem σok_i_IsAgreement_1 : ∀ f s, σ_i_IsAgreement_1 f = some s → FnOK Try.prog f s := sig_ok (l := [(116, S_i_SameVerdict)]) ⟨ok_i_SameVerdict, trivial⟩
noncomputable def Λ_i_IsAgreement_1 : Nat → Option LSpec := lkp (loopList (bodyOf Try.f115)) []
theorem ok_i_IsAgreement_1 : FnOK Try.prog 115 S_i_IsAgreement_1 := fn_ok (Λ := Λ_i_IsAgreement_1) tab0 σok_i_IsAgreement_1 Try.func115 (by kernel_rfl) (show Try.f115.body = some (bodyOf Try.f115) by kernel_rfl) [] rfl (by kernel_rfl) (by exact trivial) (by kernel_rfl)
  fun x y h => (show execFn Γ0 E0 σ_i_IsAgreement_1 Λ_i_IsAgreement_1 Try.f115 S_i_IsAgreement_1 x = i_IsAgreement_1 x by kernel_rfl).trans h

noncomputable def i_IsAgreement (x : Ty.T (.pair (.list TVerdict) .unit)) : Option (Ty.T (.pair .bool .unit)) :=
match (decide ((x.1.length : Int) < (1 : Int))) with
| true =>
 some (false, ())
| false =>
 match (decide ((x.1.length : Int) > (32 : Int))) with
 | true =>
  some (false, ())
 | false =>
  match i_areVerdicts (x.1, ()) with
  | none => none
  | some v1 =>
  match (!v1.1) with
  | true =>
   some (false, ())
  | false =>
   match slices_ContainsFunc_Verdict (x.1, (fun z => i_IsAgreement_1 (z.1, x.1, ())), ()) with
   | none => none
   | some v2 =>
   some ((!v2.1), ())
noncomputable def S_i_IsAgreement : Spec := ⟨(.pair (.list TVerdict) .unit), (.pair .bool .unit), .unit, rfl, i_IsAgreement⟩
noncomputable def σ_i_IsAgreement : FuncId → Option Spec := sig [(112, S_i_areVerdicts), (114, S_slices_ContainsFunc_Verdict), (115, S_i_IsAgreement_1)]
theorem σok_i_IsAgreement : ∀ f s, σ_i_IsAgreement f = some s → FnOK Try.prog f s := sig_ok (l := [(112, S_i_areVerdicts), (114, S_slices_ContainsFunc_Verdict), (115, S_i_IsAgreement_1)]) ⟨ok_i_areVerdicts, ok_slices_ContainsFunc_Verdict, ok_i_IsAgreement_1, trivial⟩
noncomputable def Λ_i_IsAgreement : Nat → Option LSpec := lkp (loopList (bodyOf Try.f65)) []
theorem ok_i_IsAgreement : FnOK Try.prog 65 S_i_IsAgreement := fn_ok (Λ := Λ_i_IsAgreement) tab0 σok_i_IsAgreement Try.func65 (by kernel_rfl) (show Try.f65.body = some (bodyOf Try.f65) by kernel_rfl) [] rfl (by kernel_rfl) (by exact trivial) (by kernel_rfl)
  fun x y h => (show execFn Γ0 E0 σ_i_IsAgreement Λ_i_IsAgreement Try.f65 S_i_IsAgreement x = i_IsAgreement x by kernel_rfl).trans h

noncomputable def s_SameVerdict (x : Ty.T (.pair TVerdict (.pair TVerdict .unit))) : Option (Ty.T (.pair .bool .unit)) :=
match (x.1.1 == x.2.1.1) with
| true =>
 match s_l28Same ((x.1.2.1.1, x.1.2.1.2.1, (x.1.2.1.2.2.1.1, x.1.2.1.2.2.1.2.1, x.1.2.1.2.2.1.2.2.1, x.1.2.1.2.2.1.2.2.2.1, x.1.2.1.2.2.1.2.2.2.2.1, ()), x.1.2.1.2.2.2.1, ()), (x.2.1.2.1.1, x.2.1.2.1.2.1, (x.2.1.2.1.2.2.1.1, x.2.1.2.1.2.2.1.2.1, x.2.1.2.1.2.2.1.2.2.1, x.2.1.2.1.2.2.1.2.2.2.1, x.2.1.2.1.2.2.1.2.2.2.2.1, ()), x.2.1.2.1.2.2.2.1, ()), ()) with
 | none => none
 | some v1 =>
 some (v1.1, ())
| false =>
 some (false, ())
noncomputable def S_s_SameVerdict : Spec := ⟨(.pair TVerdict (.pair TVerdict .unit)), (.pair .bool .unit), .unit, rfl, s_SameVerdict⟩
noncomputable def σ_s_SameVerdict : FuncId → Option Spec := sig [(129, S_s_l28Same)]
theorem σok_s_SameVerdict : ∀ f s, σ_s_SameVerdict f = some s → FnOK Try.prog f s := sig_ok (l := [(129, S_s_l28Same)]) ⟨ok_s_l28Same, trivial⟩
noncomputable def Λ_s_SameVerdict : Nat → Option LSpec := lkp (loopList (bodyOf Try.f117)) []
theorem ok_s_SameVerdict : FnOK Try.prog 117 S_s_SameVerdict := fn_ok (Λ := Λ_s_SameVerdict) tab0 σok_s_SameVerdict Try.func117 (by kernel_rfl) (show Try.f117.body = some (bodyOf Try.f117) by kernel_rfl) [] rfl (by kernel_rfl) (by exact trivial) (by kernel_rfl)
  fun x y h => (show execFn Γ0 E0 σ_s_SameVerdict Λ_s_SameVerdict Try.f117 S_s_SameVerdict x = s_SameVerdict x by kernel_rfl).trans h

noncomputable def b_s_IsAgreement_2 (x : (Ty.T (.pair (.list TVerdict) (.pair (.int .i64) .unit)))) : Option ((Ty.T (.pair (.list TVerdict) (.pair (.int .i64) .unit))) ⊕ ((Ty.T (.pair (.list TVerdict) .unit)) ⊕ (Ty.T (.pair .bool .unit)))) :=
match (decide (x.2.1 < (x.1.length : Int))) with
| true =>
 onSome (idx x.1 x.2.1) fun v1 =>
 match s_IsVerdict (v1, ()) with
 | none => none
 | some v2 =>
 match (!v2.1) with
 | true =>
  some (.inr (.inr (false, ())))
 | false =>
  onSome (idx x.1 x.2.1) fun v3 =>
  onSome (idx x.1 (0 : Int)) fun v4 =>
  match s_SameVerdict (v3, v4, ()) with
  | none => none
  | some v5 =>
  match (!v5.1) with
  | true =>
   some (.inr (.inr (false, ())))
  | false =>
   some (.inl (x.1, (IntKind.i64.wrap (x.2.1 + (1 : Int))), ()))
| false =>
 some (.inr (.inl (x.1, ())))
noncomputable def s_IsAgreement (x : Ty.T (.pair (.list TVerdict) .unit)) : Option (Ty.T (.pair .bool .unit)) :=
match loopL b_s_IsAgreement_2 (x.1, (0 : Int), ()) with
| none => none
| some (.inl v6) =>
 match s_l01In ((v6.1.length : Int), (1 : Int), (32 : Int), ()) with
 | none => none
 | some v8 =>
 some (v8.1, ())
| some (.inr v7) =>
 some (v7.1, ())
noncomputable def S_s_IsAgreement : Spec := ⟨(.pair (.list TVerdict) .unit), (.pair .bool .unit), .unit, rfl, s_IsAgreement⟩
noncomputable def σ_s_IsAgreement : FuncId → Option Spec := sig [(73, S_s_l01In), (101, S_s_IsVerdict), (117, S_s_SameVerdict)]
theorem σok_s_IsAgreement : ∀ f s, σ_s_IsAgreement f = some s → FnOK Try.prog f s := sig_ok (l := [(73, S_s_l01In), (101, S_s_IsVerdict), (117, S_s_SameVerdict)]) ⟨ok_s_l01In, ok_s_IsVerdict, ok_s_SameVerdict, trivial⟩
noncomputable def Λ_s_IsAgreement : Nat → Option LSpec := lkp (loopList (bodyOf Try.f66)) [⟨[0, 3], (.pair (.list TVerdict) (.pair (.int .i64) .unit)), 0, [0], (.pair (.list TVerdict) .unit), [2], (.pair .bool .unit), loopL b_s_IsAgreement_2⟩]
theorem lok_s_IsAgreement_2 (x) : codeK Γ0 E0 σ_s_IsAgreement Λ_s_IsAgreement Try.f66.ntmps (nthLoop Try.f66 0) (mkF Try.f66.ntmps [0, 3] (.pair (.list TVerdict) (.pair (.int .i64) .unit)) x) (readK σ_s_IsAgreement Try.f66.ntmps [0, 3] (.pair (.list TVerdict) (.pair (.int .i64) .unit)) 0 [0] (.pair (.list TVerdict) .unit) [2] (.pair .bool .unit)) = b_s_IsAgreement_2 x := by kernel_rfl
theorem ok_s_IsAgreement : FnOK Try.prog 66 S_s_IsAgreement := fn_ok (Λ := Λ_s_IsAgreement) tab0 σok_s_IsAgreement Try.func66 (by kernel_rfl) (show Try.f66.body = some (bodyOf Try.f66) by kernel_rfl) [⟨[0, 3], (.pair (.list TVerdict) (.pair (.int .i64) .unit)), 0, [0], (.pair (.list TVerdict) .unit), [2], (.pair .bool .unit), loopL b_s_IsAgreement_2⟩] rfl (by kernel_rfl) (by exact ⟨loop_LOK (lok_s_IsAgreement_2), trivial⟩) (by kernel_rfl)
  fun x y h => (show execFn Γ0 E0 σ_s_IsAgreement Λ_s_IsAgreement Try.f66 S_s_IsAgreement x = s_IsAgreement x by kernel_rfl).trans h

noncomputable def b_l_sum_3 (x : (Ty.T (.pair (.list (.int .i64)) (.pair (.int .i64) (.pair (.int .i64) .unit))))) : Option ((Ty.T (.pair (.list (.int .i64)) (.pair (.int .i64) (.pair (.int .i64) .unit)))) ⊕ ((Ty.T (.pair (.int .i64) .unit)) ⊕ (Ty.T .unit))) :=
match (decide (x.2.2.1 < (x.1.length : Int))) with
| true =>
 onSome (idx x.1 x.2.2.1) fun v1 =>
 some (.inl (x.1, (IntKind.i64.wrap (x.2.1 + v1)), (IntKind.i64.wrap (x.2.2.1 + (1 : Int))), ()))
| false =>
 some (.inr (.inl (x.2.1, ())))
noncomputable def l_sum (x : Ty.T (.pair (.list (.int .i64)) .unit)) : Option (Ty.T (.pair (.int .i64) .unit)) :=
match loopL b_l_sum_3 (x.1, (0 : Int), (0 : Int), ()) with
| none => none
| some (.inl v2) =>
 some (v2.1, ())
| some (.inr v4) =>
 none
noncomputable def S_l_sum : Spec := ⟨(.pair (.list (.int .i64)) .unit), (.pair (.int .i64) .unit), .unit, rfl, l_sum⟩
noncomputable def σ_l_sum : FuncId → Option Spec := sig []
theorem σok_l_sum : ∀ f s, σ_l_sum f = some s → FnOK Try.prog f s := sig_ok (l := []) trivial
noncomputable def Λ_l_sum : Nat → Option LSpec := lkp (loopList (bodyOf Try.f67)) [⟨[0, 3, 4], (.pair (.list (.int .i64)) (.pair (.int .i64) (.pair (.int .i64) .unit))), 0, [3], (.pair (.int .i64) .unit), [], .unit, loopL b_l_sum_3⟩]
theorem lok_l_sum_3 (x) : codeK Γ0 E0 σ_l_sum Λ_l_sum Try.f67.ntmps (nthLoop Try.f67 0) (mkF Try.f67.ntmps [0, 3, 4] (.pair (.list (.int .i64)) (.pair (.int .i64) (.pair (.int .i64) .unit))) x) (readK σ_l_sum Try.f67.ntmps [0, 3, 4] (.pair (.list (.int .i64)) (.pair (.int .i64) (.pair (.int .i64) .unit))) 0 [3] (.pair (.int .i64) .unit) [] .unit) = b_l_sum_3 x := by kernel_rfl
theorem ok_l_sum : FnOK Try.prog 67 S_l_sum := fn_ok (Λ := Λ_l_sum) tab0 σok_l_sum Try.func67 (by kernel_rfl) (show Try.f67.body = some (bodyOf Try.f67) by kernel_rfl) [⟨[0, 3, 4], (.pair (.list (.int .i64)) (.pair (.int .i64) (.pair (.int .i64) .unit))), 0, [3], (.pair (.int .i64) .unit), [], .unit, loopL b_l_sum_3⟩] rfl (by kernel_rfl) (by exact ⟨loop_LOK (lok_l_sum_3), trivial⟩) (by kernel_rfl)
  fun x y h => (show execFn Γ0 E0 σ_l_sum Λ_l_sum Try.f67 S_l_sum x = l_sum x by kernel_rfl).trans h

noncomputable def b_l_roll_3 (x : (Ty.T (.pair (.list (.int .u8)) (.pair (.box Tdice) (.pair (.int .i64) .unit))))) : Option ((Ty.T (.pair (.list (.int .u8)) (.pair (.box Tdice) (.pair (.int .i64) .unit)))) ⊕ ((Ty.T (.pair (.box Tdice) .unit)) ⊕ (Ty.T .unit))) :=
match (decide (x.2.2.1 < (x.1.length : Int))) with
| true =>
 onSome (idx x.1 x.2.2.1) fun v1 =>
 some (.inl (x.1, (x.2.1.1, x.2.1.2.1, (IntKind.u64.wrap ((IntKind.u64.wrap ((IntKind.u64.wrap (x.2.1.2.2.1 * (1099511628211 : Int))) + (IntKind.u64.wrap v1))) + (3 : Int))), ()), (IntKind.i64.wrap (x.2.2.1 + (1 : Int))), ()))
| false =>
 some (.inr (.inl ((x.2.1.1, x.2.1.2.1, x.2.1.2.2.1, ()), ())))
noncomputable def l_roll (x : Ty.T (.pair (.list (.int .u8)) (.pair (.int .u64) .unit))) : Option (Ty.T (.pair (.box Tdice) .unit)) :=
match loopL b_l_roll_3 (x.1, (x.1, (0 : Int), (IntKind.u64.wrap ((IntKind.u64.wrap (x.2.1 * (7919 : Int))) + (IntKind.u64.wrap (x.1.length : Int)))), ()), (0 : Int), ()) with
| none => none
| some (.inl v2) =>
 some ((v2.1.1, v2.1.2.1, v2.1.2.2.1, ()), ())
| some (.inr v4) =>
 none
noncomputable def S_l_roll : Spec := ⟨(.pair (.list (.int .u8)) (.pair (.int .u64) .unit)), (.pair (.box Tdice) .unit), .unit, rfl, l_roll⟩
noncomputable def σ_l_roll : FuncId → Option Spec := sig []
theorem σok_l_roll : ∀ f s, σ_l_roll f = some s → FnOK Try.prog f s := sig_ok (l := []) trivial
noncomputable def Λ_l_roll : Nat → Option LSpec := lkp (loopList (bodyOf Try.f68)) [⟨[0, 5, 6], (.pair (.list (.int .u8)) (.pair (.box Tdice) (.pair (.int .i64) .unit))), 0, [5], (.pair (.box Tdice) .unit), [], .unit, loopL b_l_roll_3⟩]
theorem lok_l_roll_3 (x) : codeK Γ0 E0 σ_l_roll Λ_l_roll Try.f68.ntmps (nthLoop Try.f68 0) (mkF Try.f68.ntmps [0, 5, 6] (.pair (.list (.int .u8)) (.pair (.box Tdice) (.pair (.int .i64) .unit))) x) (readK σ_l_roll Try.f68.ntmps [0, 5, 6] (.pair (.list (.int .u8)) (.pair (.box Tdice) (.pair (.int .i64) .unit))) 0 [5] (.pair (.box Tdice) .unit) [] .unit) = b_l_roll_3 x := by kernel_rfl
theorem ok_l_roll : FnOK Try.prog 68 S_l_roll := fn_ok (Λ := Λ_l_roll) tab0 σok_l_roll Try.func68 (by kernel_rfl) (show Try.f68.body = some (bodyOf Try.f68) by kernel_rfl) [⟨[0, 5, 6], (.pair (.list (.int .u8)) (.pair (.box Tdice) (.pair (.int .i64) .unit))), 0, [5], (.pair (.box Tdice) .unit), [], .unit, loopL b_l_roll_3⟩] rfl (by kernel_rfl) (by exact ⟨loop_LOK (lok_l_roll_3), trivial⟩) (by kernel_rfl)
  fun x y h => (show execFn Γ0 E0 σ_l_roll Λ_l_roll Try.f68 S_l_roll x = l_roll x by kernel_rfl).trans h

noncomputable def l_dice_below (x : Ty.T (.pair (.box Tdice) (.pair (.int .i64) .unit))) : Option (Ty.T (.pair (.int .i64) (.pair (.box Tdice) .unit))) :=
match (decide (x.1.2.1 < (x.1.1.length : Int))) with
| true =>
 onSome (idx x.1.1 x.1.2.1) fun v1 =>
 if x.2.1 = 0 then none else
 some ((Int.tmod (IntKind.i64.wrap ((IntKind.i64.wrap (bits BinOp.and .u64 (Int.fdiv (IntKind.u64.wrap ((IntKind.u64.wrap (x.1.2.2.1 * (6364136223846793005 : Int))) + (1442695040888963407 : Int))) (2 ^ min (33 : Int).toNat IntKind.u64.bits)) (16777215 : Int))) + (IntKind.i64.wrap v1))) x.2.1), (x.1.1, (IntKind.i64.wrap (x.1.2.1 + (1 : Int))), (IntKind.u64.wrap ((IntKind.u64.wrap (x.1.2.2.1 * (6364136223846793005 : Int))) + (1442695040888963407 : Int))), ()), ())
| false =>
 if x.2.1 = 0 then none else
 some ((Int.tmod (IntKind.i64.wrap (bits BinOp.and .u64 (Int.fdiv (IntKind.u64.wrap ((IntKind.u64.wrap (x.1.2.2.1 * (6364136223846793005 : Int))) + (1442695040888963407 : Int))) (2 ^ min (33 : Int).toNat IntKind.u64.bits)) (16777215 : Int))) x.2.1), (x.1.1, x.1.2.1, (IntKind.u64.wrap ((IntKind.u64.wrap (x.1.2.2.1 * (6364136223846793005 : Int))) + (1442695040888963407 : Int))), ()), ())
noncomputable def S_l_dice_below : Spec := ⟨(.pair (.box Tdice) (.pair (.int .i64) .unit)), (.pair (.int .i64) .unit), (.pair (.box Tdice) .unit), rfl, l_dice_below⟩
noncomputable def σ_l_dice_below : FuncId → Option Spec := sig []
theorem σok_l_dice_below : ∀ f s, σ_l_dice_below f = some s → FnOK Try.prog f s := sig_ok (l := []) trivial
noncomputable def Λ_l_dice_below : Nat → Option LSpec := lkp (loopList (bodyOf Try.f69)) []
theorem ok_l_dice_below : FnOK Try.prog 69 S_l_dice_below := fn_ok (Λ := Λ_l_dice_below) tab0 σok_l_dice_below Try.func69 (by kernel_rfl) (show Try.f69.body = some (bodyOf Try.f69) by kernel_rfl) [] rfl (by kernel_rfl) (by exact trivial) (by kernel_rfl)
  fun x y h => (show execFn Γ0 E0 σ_l_dice_below Λ_l_dice_below Try.f69 S_l_dice_below x = l_dice_below x by kernel_rfl).trans h

noncomputable def l_FnMergedAll (x : Ty.T (.pair (.list (.int .u8)) .unit)) : Option (Ty.T (.pair .bool .unit)) :=
match l_big (x.1, ()) with
| none => none
| some v1 =>
match v1.1 with
| true =>
 some (true, ())
| false =>
 match s_DrawMergeAll (x.1, ()) with
 | none => none
 | some v2 =>
 match i_MergeAll (v2.1, ()) with
 | none => none
 | some v3 =>
 match s_MergeAll (v2.1, ()) with
 | none => none
 | some v4 =>
 match i_CountStatuses (v2.1, ()) with
 | none => none
 | some v5 =>
 match s_CountStatuses (v2.1, ()) with
 | none => none
 | some v6 =>
 match (v3.2.1 != v4.2.1) with
 | true =>
  some (false, ())
 | false =>
  match l_likeVerdicts ((v3.1.1, (v3.1.2.1.1, v3.1.2.1.2.1, (v3.1.2.1.2.2.1.1, v3.1.2.1.2.2.1.2.1, v3.1.2.1.2.2.1.2.2.1, v3.1.2.1.2.2.1.2.2.2.1, v3.1.2.1.2.2.1.2.2.2.2.1, ()), v3.1.2.1.2.2.2.1, ()), ()), (v4.1.1, (v4.1.2.1.1, v4.1.2.1.2.1, (v4.1.2.1.2.2.1.1, v4.1.2.1.2.2.1.2.1, v4.1.2.1.2.2.1.2.2.1, v4.1.2.1.2.2.1.2.2.2.1, v4.1.2.1.2.2.1.2.2.2.2.1, ()), v4.1.2.1.2.2.2.1, ()), ()), ()) with
  | none => none
  | some v7 =>
  match (!v7.1) with
  | true =>
   some (false, ())
  | false =>
   match (v5.2.1 != v6.2.1) with
   | true =>
    some (false, ())
   | false =>
    match l_likeInts (v5.1, v6.1, ()) with
    | none => none
    | some v8 =>
    match (!v8.1) with
    | true =>
     some (false, ())
    | false =>
     match i_IsAgreement (v2.1, ()) with
     | none => none
     | some v9 =>
     match s_IsAgreement (v2.1, ()) with
     | none => none
     | some v10 =>
     match (v9.1 != v10.1) with
     | true =>
      some (false, ())
     | false =>
      match (v3.2.1 != (0 : Int)) with
      | true =>
       some (true, ())
      | false =>
       match i_IsAgreement (v2.1, ()) with
       | none => none
       | some v11 =>
       match v11.1 with
       | true =>
        onSome (idx v2.1 (0 : Int)) fun _ =>
        match v2.1[(0 : Int).toNat]? with
        | none => none
        | some v13 =>
        match l_likeVerdicts ((v3.1.1, (v3.1.2.1.1, v3.1.2.1.2.1, (v3.1.2.1.2.2.1.1, v3.1.2.1.2.2.1.2.1, v3.1.2.1.2.2.1.2.2.1, v3.1.2.1.2.2.1.2.2.2.1, v3.1.2.1.2.2.1.2.2.2.2.1, ()), v3.1.2.1.2.2.2.1, ()), ()), v13, ()) with
        | none => none
        | some v14 =>
        match (!v14.1) with
        | true =>
         same (
          some (false, ()))
        | false =>
         same (
          match l_sum (v5.1, ()) with
          | none => none
          | some v15 =>
          match (v15.1 != (v2.1.length : Int)) with
          | true =>
           some (false, ())
          | false =>
           match l_roll (x.1, (2901 : Int), ()) with
           | none => none
           | some v16 =>
           match l_dice_below ((v16.1.1, v16.1.2.1, v16.1.2.2.1, ()), (v2.1.length : Int), ()) with
           | none => none
           | some v17 =>
           match ((IntKind.i64.wrap ((1 : Int) + v17.1)) == (v2.1.length : Int)) with
           | true =>
            some (true, ())
           | false =>
            onSome (bounds v2.1.length none (some (.dat (.int .i64) (IntKind.i64.wrap ((1 : Int) + v17.1))))) fun v18 =>
            match i_MergeAll ((List.drop v18.1 (List.take v18.2 v2.1)), ()) with
            | none => none
            | some v19 =>
            onSome (bounds v2.1.length (some (.dat (.int .i64) (IntKind.i64.wrap ((1 : Int) + v17.1)))) none) fun v20 =>
            both (
             both (
              both (
               room ([(v19.1.1, (v19.1.2.1.1, v19.1.2.1.2.1, (v19.1.2.1.2.2.1.1, v19.1.2.1.2.2.1.2.1, v19.1.2.1.2.2.1.2.2.1, v19.1.2.1.2.2.1.2.2.2.1, v19.1.2.1.2.2.1.2.2.2.2.1, ()), v19.1.2.1.2.2.2.1, ()), ())].length + (List.drop v20.1 (List.take v20.2 v2.1)).length) (
                same (
                 match i_MergeAll (([(v19.1.1, (v19.1.2.1.1, v19.1.2.1.2.1, (v19.1.2.1.2.2.1.1, v19.1.2.1.2.2.1.2.1, v19.1.2.1.2.2.1.2.2.1, v19.1.2.1.2.2.1.2.2.2.1, v19.1.2.1.2.2.1.2.2.2.2.1, ()), v19.1.2.1.2.2.2.1, ()), ())] ++ (List.drop v20.1 (List.take v20.2 v2.1))), ()) with
                 | none => none
                 | some v21 =>
                 match (v19.2.1 == (0 : Int)) with
                 | true =>
                  match (v21.2.1 == (0 : Int)) with
                  | true =>
                   match l_likeVerdicts ((v21.1.1, (v21.1.2.1.1, v21.1.2.1.2.1, (v21.1.2.1.2.2.1.1, v21.1.2.1.2.2.1.2.1, v21.1.2.1.2.2.1.2.2.1, v21.1.2.1.2.2.1.2.2.2.1, v21.1.2.1.2.2.1.2.2.2.2.1, ()), v21.1.2.1.2.2.2.1, ()), ()), (v3.1.1, (v3.1.2.1.1, v3.1.2.1.2.1, (v3.1.2.1.2.2.1.1, v3.1.2.1.2.2.1.2.1, v3.1.2.1.2.2.1.2.2.1, v3.1.2.1.2.2.1.2.2.2.1, v3.1.2.1.2.2.1.2.2.2.2.1, ()), v3.1.2.1.2.2.2.1, ()), ()), ()) with
                   | none => none
                   | some v22 =>
                   some (v22.1, ())
                  | false =>
                   some (false, ())
                 | false =>
                  some (false, ())))) (
               room ([(v19.1.1, (v19.1.2.1.1, v19.1.2.1.2.1, (v19.1.2.1.2.2.1.1, v19.1.2.1.2.2.1.2.1, v19.1.2.1.2.2.1.2.2.1, v19.1.2.1.2.2.1.2.2.2.1, v19.1.2.1.2.2.1.2.2.2.2.1, ()), v19.1.2.1.2.2.2.1, ()), ())].length + (List.drop v20.1 (List.take v20.2 v2.1)).length) (
                match i_MergeAll (([(v19.1.1, (v19.1.2.1.1, v19.1.2.1.2.1, (v19.1.2.1.2.2.1.1, v19.1.2.1.2.2.1.2.1, v19.1.2.1.2.2.1.2.2.1, v19.1.2.1.2.2.1.2.2.2.1, v19.1.2.1.2.2.1.2.2.2.2.1, ()), v19.1.2.1.2.2.2.1, ()), ())] ++ (List.drop v20.1 (List.take v20.2 v2.1))), ()) with
                | none => none
                | some v21 =>
                match (v19.2.1 == (0 : Int)) with
                | true =>
                 match (v21.2.1 == (0 : Int)) with
                 | true =>
                  match l_likeVerdicts ((v21.1.1, (v21.1.2.1.1, v21.1.2.1.2.1, (v21.1.2.1.2.2.1.1, v21.1.2.1.2.2.1.2.1, v21.1.2.1.2.2.1.2.2.1, v21.1.2.1.2.2.1.2.2.2.1, v21.1.2.1.2.2.1.2.2.2.2.1, ()), v21.1.2.1.2.2.2.1, ()), ()), (v3.1.1, (v3.1.2.1.1, v3.1.2.1.2.1, (v3.1.2.1.2.2.1.1, v3.1.2.1.2.2.1.2.1, v3.1.2.1.2.2.1.2.2.1, v3.1.2.1.2.2.1.2.2.2.1, v3.1.2.1.2.2.1.2.2.2.2.1, ()), v3.1.2.1.2.2.2.1, ()), ()), ()) with
                  | none => none
                  | some v22 =>
                  some (v22.1, ())
                 | false =>
                  some (false, ())
                | false =>
                 some (false, ())))) (
              room ([(v19.1.1, (v19.1.2.1.1, v19.1.2.1.2.1, (v19.1.2.1.2.2.1.1, v19.1.2.1.2.2.1.2.1, v19.1.2.1.2.2.1.2.2.1, v19.1.2.1.2.2.1.2.2.2.1, v19.1.2.1.2.2.1.2.2.2.2.1, ()), v19.1.2.1.2.2.2.1, ()), ())].length + (List.drop v20.1 (List.take v20.2 v2.1)).length) (
               match i_MergeAll (([(v19.1.1, (v19.1.2.1.1, v19.1.2.1.2.1, (v19.1.2.1.2.2.1.1, v19.1.2.1.2.2.1.2.1, v19.1.2.1.2.2.1.2.2.1, v19.1.2.1.2.2.1.2.2.2.1, v19.1.2.1.2.2.1.2.2.2.2.1, ()), v19.1.2.1.2.2.2.1, ()), ())] ++ (List.drop v20.1 (List.take v20.2 v2.1))), ()) with
               | none => none
               | some v21 =>
               match (v19.2.1 == (0 : Int)) with
               | true =>
                match (v21.2.1 == (0 : Int)) with
                | true =>
                 match l_likeVerdicts ((v21.1.1, (v21.1.2.1.1, v21.1.2.1.2.1, (v21.1.2.1.2.2.1.1, v21.1.2.1.2.2.1.2.1, v21.1.2.1.2.2.1.2.2.1, v21.1.2.1.2.2.1.2.2.2.1, v21.1.2.1.2.2.1.2.2.2.2.1, ()), v21.1.2.1.2.2.2.1, ()), ()), (v3.1.1, (v3.1.2.1.1, v3.1.2.1.2.1, (v3.1.2.1.2.2.1.1, v3.1.2.1.2.2.1.2.1, v3.1.2.1.2.2.1.2.2.1, v3.1.2.1.2.2.1.2.2.2.1, v3.1.2.1.2.2.1.2.2.2.2.1, ()), v3.1.2.1.2.2.2.1, ()), ()), ()) with
                 | none => none
                 | some v22 =>
                 some (v22.1, ())
                | false =>
                 some (false, ())
               | false =>
                some (false, ())))) (
             room ([(v19.1.1, (v19.1.2.1.1, v19.1.2.1.2.1, (v19.1.2.1.2.2.1.1, v19.1.2.1.2.2.1.2.1, v19.1.2.1.2.2.1.2.2.1, v19.1.2.1.2.2.1.2.2.2.1, v19.1.2.1.2.2.1.2.2.2.2.1, ()), v19.1.2.1.2.2.2.1, ()), ())].length + (List.drop v20.1 (List.take v20.2 v2.1)).length) (
              match i_MergeAll (([(v19.1.1, (v19.1.2.1.1, v19.1.2.1.2.1, (v19.1.2.1.2.2.1.1, v19.1.2.1.2.2.1.2.1, v19.1.2.1.2.2.1.2.2.1, v19.1.2.1.2.2.1.2.2.2.1, v19.1.2.1.2.2.1.2.2.2.2.1, ()), v19.1.2.1.2.2.2.1, ()), ())] ++ (List.drop v20.1 (List.take v20.2 v2.1))), ()) with
              | none => none
              | some v21 =>
              match (v19.2.1 == (0 : Int)) with
              | true =>
               match (v21.2.1 == (0 : Int)) with
               | true =>
                match l_likeVerdicts ((v21.1.1, (v21.1.2.1.1, v21.1.2.1.2.1, (v21.1.2.1.2.2.1.1, v21.1.2.1.2.2.1.2.1, v21.1.2.1.2.2.1.2.2.1, v21.1.2.1.2.2.1.2.2.2.1, v21.1.2.1.2.2.1.2.2.2.2.1, ()), v21.1.2.1.2.2.2.1, ()), ()), (v3.1.1, (v3.1.2.1.1, v3.1.2.1.2.1, (v3.1.2.1.2.2.1.1, v3.1.2.1.2.2.1.2.1, v3.1.2.1.2.2.1.2.2.1, v3.1.2.1.2.2.1.2.2.2.1, v3.1.2.1.2.2.1.2.2.2.2.1, ()), v3.1.2.1.2.2.2.1, ()), ()), ()) with
                | none => none
                | some v22 =>
                some (v22.1, ())
               | false =>
                some (false, ())
              | false =>
               some (false, ()))))
       | false =>
        same (
         match l_sum (v5.1, ()) with
         | none => none
         | some v23 =>
         match (v23.1 != (v2.1.length : Int)) with
         | true =>
          some (false, ())
         | false =>
          match l_roll (x.1, (2901 : Int), ()) with
          | none => none
          | some v24 =>
          match l_dice_below ((v24.1.1, v24.1.2.1, v24.1.2.2.1, ()), (v2.1.length : Int), ()) with
          | none => none
          | some v25 =>
          match ((IntKind.i64.wrap ((1 : Int) + v25.1)) == (v2.1.length : Int)) with
          | true =>
           some (true, ())
          | false =>
           onSome (bounds v2.1.length none (some (.dat (.int .i64) (IntKind.i64.wrap ((1 : Int) + v25.1))))) fun v26 =>
           match i_MergeAll ((List.drop v26.1 (List.take v26.2 v2.1)), ()) with
           | none => none
           | some v27 =>
           onSome (bounds v2.1.length (some (.dat (.int .i64) (IntKind.i64.wrap ((1 : Int) + v25.1)))) none) fun v28 =>
           both (
            both (
             both (
              room ([(v27.1.1, (v27.1.2.1.1, v27.1.2.1.2.1, (v27.1.2.1.2.2.1.1, v27.1.2.1.2.2.1.2.1, v27.1.2.1.2.2.1.2.2.1, v27.1.2.1.2.2.1.2.2.2.1, v27.1.2.1.2.2.1.2.2.2.2.1, ()), v27.1.2.1.2.2.2.1, ()), ())].length + (List.drop v28.1 (List.take v28.2 v2.1)).length) (
               same (
                match i_MergeAll (([(v27.1.1, (v27.1.2.1.1, v27.1.2.1.2.1, (v27.1.2.1.2.2.1.1, v27.1.2.1.2.2.1.2.1, v27.1.2.1.2.2.1.2.2.1, v27.1.2.1.2.2.1.2.2.2.1, v27.1.2.1.2.2.1.2.2.2.2.1, ()), v27.1.2.1.2.2.2.1, ()), ())] ++ (List.drop v28.1 (List.take v28.2 v2.1))), ()) with
                | none => none
                | some v29 =>
                match (v27.2.1 == (0 : Int)) with
                | true =>
                 match (v29.2.1 == (0 : Int)) with
                 | true =>
                  match l_likeVerdicts ((v29.1.1, (v29.1.2.1.1, v29.1.2.1.2.1, (v29.1.2.1.2.2.1.1, v29.1.2.1.2.2.1.2.1, v29.1.2.1.2.2.1.2.2.1, v29.1.2.1.2.2.1.2.2.2.1, v29.1.2.1.2.2.1.2.2.2.2.1, ()), v29.1.2.1.2.2.2.1, ()), ()), (v3.1.1, (v3.1.2.1.1, v3.1.2.1.2.1, (v3.1.2.1.2.2.1.1, v3.1.2.1.2.2.1.2.1, v3.1.2.1.2.2.1.2.2.1, v3.1.2.1.2.2.1.2.2.2.1, v3.1.2.1.2.2.1.2.2.2.2.1, ()), v3.1.2.1.2.2.2.1, ()), ()), ()) with
                  | none => none
                  | some v30 =>
                  some (v30.1, ())
                 | false =>
                  some (false, ())
                | false =>
                 some (false, ())))) (
              room ([(v27.1.1, (v27.1.2.1.1, v27.1.2.1.2.1, (v27.1.2.1.2.2.1.1, v27.1.2.1.2.2.1.2.1, v27.1.2.1.2.2.1.2.2.1, v27.1.2.1.2.2.1.2.2.2.1, v27.1.2.1.2.2.1.2.2.2.2.1, ()), v27.1.2.1.2.2.2.1, ()), ())].length + (List.drop v28.1 (List.take v28.2 v2.1)).length) (
               match i_MergeAll (([(v27.1.1, (v27.1.2.1.1, v27.1.2.1.2.1, (v27.1.2.1.2.2.1.1, v27.1.2.1.2.2.1.2.1, v27.1.2.1.2.2.1.2.2.1, v27.1.2.1.2.2.1.2.2.2.1, v27.1.2.1.2.2.1.2.2.2.2.1, ()), v27.1.2.1.2.2.2.1, ()), ())] ++ (List.drop v28.1 (List.take v28.2 v2.1))), ()) with
               | none => none
               | some v29 =>
               match (v27.2.1 == (0 : Int)) with
               | true =>
                match (v29.2.1 == (0 : Int)) with
                | true =>
                 match l_likeVerdicts ((v29.1.1, (v29.1.2.1.1, v29.1.2.1.2.1, (v29.1.2.1.2.2.1.1, v29.1.2.1.2.2.1.2.1, v29.1.2.1.2.2.1.2.2.1, v29.1.2.1.2.2.1.2.2.2.1, v29.1.2.1.2.2.1.2.2.2.2.1, ()), v29.1.2.1.2.2.2.1, ()), ()), (v3.1.1, (v3.1.2.1.1, v3.1.2.1.2.1, (v3.1.2.1.2.2.1.1, v3.1.2.1.2.2.1.2.1, v3.1.2.1.2.2.1.2.2.1, v3.1.2.1.2.2.1.2.2.2.1, v3.1.2.1.2.2.1.2.2.2.2.1, ()), v3.1.2.1.2.2.2.1, ()), ()), ()) with
                 | none => none
                 | some v30 =>
                 some (v30.1, ())
                | false =>
                 some (false, ())
               | false =>
                some (false, ())))) (
             room ([(v27.1.1, (v27.1.2.1.1, v27.1.2.1.2.1, (v27.1.2.1.2.2.1.1, v27.1.2.1.2.2.1.2.1, v27.1.2.1.2.2.1.2.2.1, v27.1.2.1.2.2.1.2.2.2.1, v27.1.2.1.2.2.1.2.2.2.2.1, ()), v27.1.2.1.2.2.2.1, ()), ())].length + (List.drop v28.1 (List.take v28.2 v2.1)).length) (
              match i_MergeAll (([(v27.1.1, (v27.1.2.1.1, v27.1.2.1.2.1, (v27.1.2.1.2.2.1.1, v27.1.2.1.2.2.1.2.1, v27.1.2.1.2.2.1.2.2.1, v27.1.2.1.2.2.1.2.2.2.1, v27.1.2.1.2.2.1.2.2.2.2.1, ()), v27.1.2.1.2.2.2.1, ()), ())] ++ (List.drop v28.1 (List.take v28.2 v2.1))), ()) with
              | none => none
              | some v29 =>
              match (v27.2.1 == (0 : Int)) with
              | true =>
               match (v29.2.1 == (0 : Int)) with
               | true =>
                match l_likeVerdicts ((v29.1.1, (v29.1.2.1.1, v29.1.2.1.2.1, (v29.1.2.1.2.2.1.1, v29.1.2.1.2.2.1.2.1, v29.1.2.1.2.2.1.2.2.1, v29.1.2.1.2.2.1.2.2.2.1, v29.1.2.1.2.2.1.2.2.2.2.1, ()), v29.1.2.1.2.2.2.1, ()), ()), (v3.1.1, (v3.1.2.1.1, v3.1.2.1.2.1, (v3.1.2.1.2.2.1.1, v3.1.2.1.2.2.1.2.1, v3.1.2.1.2.2.1.2.2.1, v3.1.2.1.2.2.1.2.2.2.1, v3.1.2.1.2.2.1.2.2.2.2.1, ()), v3.1.2.1.2.2.2.1, ()), ()), ()) with
                | none => none
                | some v30 =>
                some (v30.1, ())
               | false =>
                some (false, ())
              | false =>
               some (false, ())))) (
            room ([(v27.1.1, (v27.1.2.1.1, v27.1.2.1.2.1, (v27.1.2.1.2.2.1.1, v27.1.2.1.2.2.1.2.1, v27.1.2.1.2.2.1.2.2.1, v27.1.2.1.2.2.1.2.2.2.1, v27.1.2.1.2.2.1.2.2.2.2.1, ()), v27.1.2.1.2.2.2.1, ()), ())].length + (List.drop v28.1 (List.take v28.2 v2.1)).length) (
             match i_MergeAll (([(v27.1.1, (v27.1.2.1.1, v27.1.2.1.2.1, (v27.1.2.1.2.2.1.1, v27.1.2.1.2.2.1.2.1, v27.1.2.1.2.2.1.2.2.1, v27.1.2.1.2.2.1.2.2.2.1, v27.1.2.1.2.2.1.2.2.2.2.1, ()), v27.1.2.1.2.2.2.1, ()), ())] ++ (List.drop v28.1 (List.take v28.2 v2.1))), ()) with
             | none => none
             | some v29 =>
             match (v27.2.1 == (0 : Int)) with
             | true =>
              match (v29.2.1 == (0 : Int)) with
              | true =>
               match l_likeVerdicts ((v29.1.1, (v29.1.2.1.1, v29.1.2.1.2.1, (v29.1.2.1.2.2.1.1, v29.1.2.1.2.2.1.2.1, v29.1.2.1.2.2.1.2.2.1, v29.1.2.1.2.2.1.2.2.2.1, v29.1.2.1.2.2.1.2.2.2.2.1, ()), v29.1.2.1.2.2.2.1, ()), ()), (v3.1.1, (v3.1.2.1.1, v3.1.2.1.2.1, (v3.1.2.1.2.2.1.1, v3.1.2.1.2.2.1.2.1, v3.1.2.1.2.2.1.2.2.1, v3.1.2.1.2.2.1.2.2.2.1, v3.1.2.1.2.2.1.2.2.2.2.1, ()), v3.1.2.1.2.2.2.1, ()), ()), ()) with
               | none => none
               | some v30 =>
               some (v30.1, ())
              | false =>
               some (false, ())
             | false =>
              some (false, ()))))
noncomputable def S_l_FnMergedAll : Spec := ⟨(.pair (.list (.int .u8)) .unit), (.pair .bool .unit), .unit, rfl, l_FnMergedAll⟩
noncomputable def σ_l_FnMergedAll : FuncId → Option Spec := sig [(26, S_l_big), (38, S_l_likeInts), (46, S_l_likeVerdicts), (54, S_s_CountStatuses), (56, S_i_CountStatuses), (62, S_s_MergeAll), (63, S_i_MergeAll), (64, S_s_DrawMergeAll), (65, S_i_IsAgreement), (66, S_s_IsAgreement), (67, S_l_sum), (68, S_l_roll), (69, S_l_dice_below)]
theorem σok_l_FnMergedAll : ∀ f s, σ_l_FnMergedAll f = some s → FnOK Try.prog f s := sig_ok (l := [(26, S_l_big), (38, S_l_likeInts), (46, S_l_likeVerdicts), (54, S_s_CountStatuses), (56, S_i_CountStatuses), (62, S_s_MergeAll), (63, S_i_MergeAll), (64, S_s_DrawMergeAll), (65, S_i_IsAgreement), (66, S_s_IsAgreement), (67, S_l_sum), (68, S_l_roll), (69, S_l_dice_below)]) ⟨ok_l_big, ok_l_likeInts, ok_l_likeVerdicts, ok_s_CountStatuses, ok_i_CountStatuses, ok_s_MergeAll, ok_i_MergeAll, ok_s_DrawMergeAll, ok_i_IsAgreement, ok_s_IsAgreement, ok_l_sum, ok_l_roll, ok_l_dice_below, trivial⟩
noncomputable def Λ_l_FnMergedAll : Nat → Option LSpec := lkp (loopList (bodyOf Try.f12)) []
theorem ok_l_FnMergedAll : FnOK Try.prog 12 S_l_FnMergedAll := fn_ok (Λ := Λ_l_FnMergedAll) tab0 σok_l_FnMergedAll Try.func12 (by kernel_rfl) (show Try.f12.body = some (bodyOf Try.f12) by kernel_rfl) [] rfl (by kernel_rfl) (by exact trivial) (by kernel_rfl)
  fun x y h => (show execFn Γ0 E0 σ_l_FnMergedAll Λ_l_FnMergedAll Try.f12 S_l_FnMergedAll x = l_FnMergedAll x by kernel_rfl).trans h

noncomputable def s_l30Out (x : Ty.T (.pair (.int .i64) .unit)) : Option (Ty.T (.pair (.int .i64) .unit)) :=
match (decide (x.1 < (3 : Int))) with
| true =>
 some ((0 : Int), ())
| false =>
 match (decide (x.1 < (8 : Int))) with
 | true =>
  some ((1 : Int), ())
 | false =>
  some ((2 : Int), ())
noncomputable def S_s_l30Out : Spec := ⟨(.pair (.int .i64) .unit), (.pair (.int .i64) .unit), .unit, rfl, s_l30Out⟩
noncomputable def σ_s_l30Out : FuncId → Option Spec := sig []
theorem σok_s_l30Out : ∀ f s, σ_s_l30Out f = some s → FnOK Try.prog f s := sig_ok (l := []) trivial
noncomputable def Λ_s_l30Out : Nat → Option LSpec := lkp (loopList (bodyOf Try.f141)) []
theorem ok_s_l30Out : FnOK Try.prog 141 S_s_l30Out := fn_ok (Λ := Λ_s_l30Out) tab0 σok_s_l30Out Try.func141 (by kernel_rfl) (show Try.f141.body = some (bodyOf Try.f141) by kernel_rfl) [] rfl (by kernel_rfl) (by exact trivial) (by kernel_rfl)
  fun x y h => (show execFn Γ0 E0 σ_s_l30Out Λ_s_l30Out Try.f141 S_s_l30Out x = s_l30Out x by kernel_rfl).trans h

noncomputable def s_l30Floor (x : Ty.T (.pair (.int .i64) (.pair (.int .i64) .unit))) : Option (Ty.T (.pair (.int .i64) .unit)) :=
if x.2.1 = 0 then none else
if x.2.1 = 0 then none else
match (decide ((Int.tmod x.1 x.2.1) < (0 : Int))) with
| true =>
 some ((IntKind.i64.wrap ((IntKind.i64.wrap (Int.tdiv x.1 x.2.1)) - (1 : Int))), ())
| false =>
 some ((IntKind.i64.wrap (Int.tdiv x.1 x.2.1)), ())
noncomputable def S_s_l30Floor : Spec := ⟨(.pair (.int .i64) (.pair (.int .i64) .unit)), (.pair (.int .i64) .unit), .unit, rfl, s_l30Floor⟩
noncomputable def σ_s_l30Floor : FuncId → Option Spec := sig []
theorem σok_s_l30Floor : ∀ f s, σ_s_l30Floor f = some s → FnOK Try.prog f s := sig_ok (l := []) trivial
noncomputable def Λ_s_l30Floor : Nat → Option LSpec := lkp (loopList (bodyOf Try.f142)) []
theorem ok_s_l30Floor : FnOK Try.prog 142 S_s_l30Floor := fn_ok (Λ := Λ_s_l30Floor) tab0 σok_s_l30Floor Try.func142 (by kernel_rfl) (show Try.f142.body = some (bodyOf Try.f142) by kernel_rfl) [] rfl (by kernel_rfl) (by exact trivial) (by kernel_rfl)
  fun x y h => (show execFn Γ0 E0 σ_s_l30Floor Λ_s_l30Floor Try.f142 S_s_l30Floor x = s_l30Floor x by kernel_rfl).trans h

end Go.Proofs.Ytmdflpfagbcaiaa
