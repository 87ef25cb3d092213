/- What the functions of the claim do, on data; written by the program gen.py. -/
import Derived.Test.YtgjbodfkjfieaaaGA
namespace Go.Proofs.Ytgjbodfkjfieaaa
open Go.RowKit
set_option linter.unusedVariables false

noncomputable def s_IsFrame (x : Ty.T (.pair TFrame .unit)) : Option (Ty.T (.pair .bool .unit)) :=
match s_l06Kind (x.1.1, ()) with
| none => none
| some v1 =>
match (!v1.1) with
| true =>
 some (false, ())
| false =>
 match s_l01In (x.1.2.1, (0 : Int), (7 : Int), ()) with
 | none => none
 | some v2 =>
 match (!v2.1) with
 | true =>
  some (false, ())
 | false =>
  match s_l06Size (x.1.1, (x.1.2.2.2.1.length : Int), ()) with
  | none => none
  | some v3 =>
  match (!v3.1) with
  | true =>
   some (false, ())
  | false =>
   match s_IsBytes (x.1.2.2.2.1, ()) with
   | none => none
   | some v4 =>
   match (!v4.1) with
   | true =>
    some (false, ())
   | false =>
    match (x.1.1 == (0 : Int)) with
    | true =>
     some ((eqT TState (x.1.2.2.1.1, x.1.2.2.1.2.1, x.1.2.2.1.2.2.1, x.1.2.2.1.2.2.2.1, x.1.2.2.1.2.2.2.2.1, ()) ((0 : Int), (0 : Int), (0 : Int), (0 : Int), (0 : Int), ())), ())
    | false =>
     match (x.1.1 == (3 : Int)) with
     | true =>
      match s_MembersOf (x.1.2.2.1.2.2.2.2.1, ()) with
      | none => none
      | some v5 =>
      match s_IsState ((x.1.2.2.1.1, x.1.2.2.1.2.1, x.1.2.2.1.2.2.1, x.1.2.2.1.2.2.2.1, x.1.2.2.1.2.2.2.2.1, ()), ()) with
      | none => none
      | some v6 =>
      match v6.1 with
      | true =>
       match (x.1.2.2.1.2.1 == (0 : Int)) with
       | true =>
        match ((v5.1.length : Int) == (1 : Int)) with
        | true =>
         some ((x.1.2.1 == (0 : Int)), ())
        | false =>
         some (false, ())
       | false =>
        some (false, ())
      | false =>
       some (false, ())
     | false =>
      match s_IsState ((x.1.2.2.1.1, x.1.2.2.1.2.1, x.1.2.2.1.2.2.1, x.1.2.2.1.2.2.2.1, x.1.2.2.1.2.2.2.2.1, ()), ()) with
      | none => none
      | some v7 =>
      some (v7.1, ())
noncomputable def S_s_IsFrame : Spec := ⟨(.pair TFrame .unit), (.pair .bool .unit), .unit, rfl, s_IsFrame⟩
noncomputable def σ_s_IsFrame : FuncId → Option Spec := sig [(86, S_s_l01In), (141, S_s_IsState), (142, S_s_l06Kind), (143, S_s_l06Size), (144, S_s_IsBytes), (145, S_s_MembersOf)]
theorem σok_s_IsFrame : ∀ f s, σ_s_IsFrame f = some s → FnOK Try.prog f s := sig_ok (l := [(86, S_s_l01In), (141, S_s_IsState), (142, S_s_l06Kind), (143, S_s_l06Size), (144, S_s_IsBytes), (145, S_s_MembersOf)]) ⟨ok_s_l01In, ok_s_IsState, ok_s_l06Kind, ok_s_l06Size, ok_s_IsBytes, ok_s_MembersOf, trivial⟩
noncomputable def Λ_s_IsFrame : Nat → Option LSpec := lkp (loopList (bodyOf Try.f124)) []
theorem ok_s_IsFrame : FnOK Try.prog 124 S_s_IsFrame := fn_ok (Λ := Λ_s_IsFrame) tab0 σok_s_IsFrame Try.func124 (by kernel_rfl) (show Try.f124.body = some (bodyOf Try.f124) by kernel_rfl) [] rfl (by kernel_rfl) (by exact trivial) (by kernel_rfl)
  fun x y h => (show execFn Γ0 E0 σ_s_IsFrame Λ_s_IsFrame Try.f124 S_s_IsFrame x = s_IsFrame x by kernel_rfl).trans h

noncomputable def b_s_l01Same_4 (x : (Ty.T (.pair (.list (.int .i64)) (.pair (.list (.int .i64)) (.pair (.int .i64) .unit))))) : Option ((Ty.T (.pair (.list (.int .i64)) (.pair (.list (.int .i64)) (.pair (.int .i64) .unit)))) ⊕ ((Ty.T .unit) ⊕ (Ty.T (.pair .bool .unit)))) :=
match (decide (x.2.2.1 < (x.1.length : Int))) with
| true =>
 onSome (idx x.1 x.2.2.1) fun v1 =>
 onSome (idx x.2.1 x.2.2.1) fun v2 =>
 match (v1 != v2) with
 | true =>
  some (.inr (.inr (false, ())))
 | false =>
  some (.inl (x.1, x.2.1, (IntKind.i64.wrap (x.2.2.1 + (1 : Int))), ()))
| false =>
 some (.inr (.inl (())))
noncomputable def s_l01Same (x : Ty.T (.pair (.list (.int .i64)) (.pair (.list (.int .i64)) .unit))) : Option (Ty.T (.pair .bool .unit)) :=
match ((x.1.length : Int) != (x.2.1.length : Int)) with
| true =>
 some (false, ())
| false =>
 match loopL b_s_l01Same_4 (x.1, x.2.1, (0 : Int), ()) with
 | none => none
 | some (.inl v3) =>
  some (true, ())
 | some (.inr v4) =>
  some (v4.1, ())
noncomputable def S_s_l01Same : Spec := ⟨(.pair (.list (.int .i64)) (.pair (.list (.int .i64)) .unit)), (.pair .bool .unit), .unit, rfl, s_l01Same⟩
noncomputable def σ_s_l01Same : FuncId → Option Spec := sig []
theorem σok_s_l01Same : ∀ f s, σ_s_l01Same f = some s → FnOK Try.prog f s := sig_ok (l := []) trivial
noncomputable def Λ_s_l01Same : Nat → Option LSpec := lkp (loopList (bodyOf Try.f146)) [⟨[0, 1, 5], (.pair (.list (.int .i64)) (.pair (.list (.int .i64)) (.pair (.int .i64) .unit))), 0, [], .unit, [4], (.pair .bool .unit), loopL b_s_l01Same_4⟩]
theorem lok_s_l01Same_4 (x) : codeK Γ0 E0 σ_s_l01Same Λ_s_l01Same Try.f146.ntmps (nthLoop Try.f146 0) (mkF Try.f146.ntmps [0, 1, 5] (.pair (.list (.int .i64)) (.pair (.list (.int .i64)) (.pair (.int .i64) .unit))) x) (readK σ_s_l01Same Try.f146.ntmps [0, 1, 5] (.pair (.list (.int .i64)) (.pair (.list (.int .i64)) (.pair (.int .i64) .unit))) 0 [] .unit [4] (.pair .bool .unit)) = b_s_l01Same_4 x := by kernel_rfl
theorem ok_s_l01Same : FnOK Try.prog 146 S_s_l01Same := fn_ok (Λ := Λ_s_l01Same) tab0 σok_s_l01Same Try.func146 (by kernel_rfl) (show Try.f146.body = some (bodyOf Try.f146) by kernel_rfl) [⟨[0, 1, 5], (.pair (.list (.int .i64)) (.pair (.list (.int .i64)) (.pair (.int .i64) .unit))), 0, [], .unit, [4], (.pair .bool .unit), loopL b_s_l01Same_4⟩] rfl (by kernel_rfl) (by exact ⟨loop_LOK lok_s_l01Same_4, trivial⟩) (by kernel_rfl)
  fun x y h => (show execFn Γ0 E0 σ_s_l01Same Λ_s_l01Same Try.f146 S_s_l01Same x = s_l01Same x by kernel_rfl).trans h

noncomputable def s_l28Same (x : Ty.T (.pair TFrame (.pair TFrame .unit))) : Option (Ty.T (.pair .bool .unit)) :=
match (x.1.1 == x.2.1.1) with
| true =>
 match (x.1.2.1 == x.2.1.2.1) with
 | true =>
  match (eqT TState (x.1.2.2.1.1, x.1.2.2.1.2.1, x.1.2.2.1.2.2.1, x.1.2.2.1.2.2.2.1, x.1.2.2.1.2.2.2.2.1, ()) (x.2.1.2.2.1.1, x.2.1.2.2.1.2.1, x.2.1.2.2.1.2.2.1, x.2.1.2.2.1.2.2.2.1, x.2.1.2.2.1.2.2.2.2.1, ())) with
  | true =>
   match s_l01Same (x.1.2.2.2.1, x.2.1.2.2.2.1, ()) with
   | none => none
   | some v1 =>
   some (v1.1, ())
  | false =>
   some (false, ())
 | false =>
  some (false, ())
| false =>
 some (false, ())
noncomputable def S_s_l28Same : Spec := ⟨(.pair TFrame (.pair TFrame .unit)), (.pair .bool .unit), .unit, rfl, s_l28Same⟩
noncomputable def σ_s_l28Same : FuncId → Option Spec := sig [(146, S_s_l01Same)]
theorem σok_s_l28Same : ∀ f s, σ_s_l28Same f = some s → FnOK Try.prog f s := sig_ok (l := [(146, S_s_l01Same)]) ⟨ok_s_l01Same, trivial⟩
noncomputable def Λ_s_l28Same : Nat → Option LSpec := lkp (loopList (bodyOf Try.f125)) []
theorem ok_s_l28Same : FnOK Try.prog 125 S_s_l28Same := fn_ok (Λ := Λ_s_l28Same) tab0 σok_s_l28Same Try.func125 (by kernel_rfl) (show Try.f125.body = some (bodyOf Try.f125) by kernel_rfl) [] rfl (by kernel_rfl) (by exact trivial) (by kernel_rfl)
  fun x y h => (show execFn Γ0 E0 σ_s_l28Same Λ_s_l28Same Try.f125 S_s_l28Same x = s_l28Same x by kernel_rfl).trans h

noncomputable def s_IsVerdict (x : Ty.T (.pair TVerdict .unit)) : Option (Ty.T (.pair .bool .unit)) :=
match (x.1.1 == (3 : Int)) with
| true =>
 match s_IsFrame ((x.1.2.1.1, x.1.2.1.2.1, (x.1.2.1.2.2.1.1, x.1.2.1.2.2.1.2.1, x.1.2.1.2.2.1.2.2.1, x.1.2.1.2.2.1.2.2.2.1, x.1.2.1.2.2.1.2.2.2.2.1, ()), x.1.2.1.2.2.2.1, ()), ()) with
 | none => none
 | some v1 =>
 some (v1.1, ())
| false =>
 match s_l01In (x.1.1, (0 : Int), (4 : Int), ()) with
 | none => none
 | some v2 =>
 match v2.1 with
 | true =>
  match s_l28Same ((x.1.2.1.1, x.1.2.1.2.1, (x.1.2.1.2.2.1.1, x.1.2.1.2.2.1.2.1, x.1.2.1.2.2.1.2.2.1, x.1.2.1.2.2.1.2.2.2.1, x.1.2.1.2.2.1.2.2.2.2.1, ()), x.1.2.1.2.2.2.1, ()), ((0 : Int), (0 : Int), ((0 : Int), (0 : Int), (0 : Int), (0 : Int), (0 : Int), ()), [], ()), ()) with
  | none => none
  | some v3 =>
  some (v3.1, ())
 | false =>
  some (false, ())
noncomputable def S_s_IsVerdict : Spec := ⟨(.pair TVerdict .unit), (.pair .bool .unit), .unit, rfl, s_IsVerdict⟩
noncomputable def σ_s_IsVerdict : FuncId → Option Spec := sig [(86, S_s_l01In), (124, S_s_IsFrame), (125, S_s_l28Same)]
theorem σok_s_IsVerdict : ∀ f s, σ_s_IsVerdict f = some s → FnOK Try.prog f s := sig_ok (l := [(86, S_s_l01In), (124, S_s_IsFrame), (125, S_s_l28Same)]) ⟨ok_s_l01In, ok_s_IsFrame, ok_s_l28Same, trivial⟩
noncomputable def Λ_s_IsVerdict : Nat → Option LSpec := lkp (loopList (bodyOf Try.f95)) []
theorem ok_s_IsVerdict : FnOK Try.prog 95 S_s_IsVerdict := fn_ok (Λ := Λ_s_IsVerdict) tab0 σok_s_IsVerdict Try.func95 (by kernel_rfl) (show Try.f95.body = some (bodyOf Try.f95) by kernel_rfl) [] rfl (by kernel_rfl) (by exact trivial) (by kernel_rfl)
  fun x y h => (show execFn Γ0 E0 σ_s_IsVerdict Λ_s_IsVerdict Try.f95 S_s_IsVerdict x = s_IsVerdict x by kernel_rfl).trans h

noncomputable def s_SameVerdict (x : Ty.T (.pair TVerdict (.pair TVerdict .unit))) : Option (Ty.T (.pair .bool .unit)) :=
match (x.1.1 == x.2.1.1) with
| true =>
 match s_l28Same ((x.1.2.1.1, x.1.2.1.2.1, (x.1.2.1.2.2.1.1, x.1.2.1.2.2.1.2.1, x.1.2.1.2.2.1.2.2.1, x.1.2.1.2.2.1.2.2.2.1, x.1.2.1.2.2.1.2.2.2.2.1, ()), x.1.2.1.2.2.2.1, ()), (x.2.1.2.1.1, x.2.1.2.1.2.1, (x.2.1.2.1.2.2.1.1, x.2.1.2.1.2.2.1.2.1, x.2.1.2.1.2.2.1.2.2.1, x.2.1.2.1.2.2.1.2.2.2.1, x.2.1.2.1.2.2.1.2.2.2.2.1, ()), x.2.1.2.1.2.2.2.1, ()), ()) with
 | none => none
 | some v1 =>
 some (v1.1, ())
| false =>
 some (false, ())
noncomputable def S_s_SameVerdict : Spec := ⟨(.pair TVerdict (.pair TVerdict .unit)), (.pair .bool .unit), .unit, rfl, s_SameVerdict⟩
noncomputable def σ_s_SameVerdict : FuncId → Option Spec := sig [(125, S_s_l28Same)]
theorem σok_s_SameVerdict : ∀ f s, σ_s_SameVerdict f = some s → FnOK Try.prog f s := sig_ok (l := [(125, S_s_l28Same)]) ⟨ok_s_l28Same, trivial⟩
noncomputable def Λ_s_SameVerdict : Nat → Option LSpec := lkp (loopList (bodyOf Try.f96)) []
theorem ok_s_SameVerdict : FnOK Try.prog 96 S_s_SameVerdict := fn_ok (Λ := Λ_s_SameVerdict) tab0 σok_s_SameVerdict Try.func96 (by kernel_rfl) (show Try.f96.body = some (bodyOf Try.f96) by kernel_rfl) [] rfl (by kernel_rfl) (by exact trivial) (by kernel_rfl)
  fun x y h => (show execFn Γ0 E0 σ_s_SameVerdict Λ_s_SameVerdict Try.f96 S_s_SameVerdict x = s_SameVerdict x by kernel_rfl).trans h

noncomputable def b_s_IsAgreement_2 (x : (Ty.T (.pair (.list TVerdict) (.pair (.int .i64) .unit)))) : Option ((Ty.T (.pair (.list TVerdict) (.pair (.int .i64) .unit))) ⊕ ((Ty.T (.pair (.list TVerdict) .unit)) ⊕ (Ty.T (.pair .bool .unit)))) :=
match (decide (x.2.1 < (x.1.length : Int))) with
| true =>
 onSome (idx x.1 x.2.1) fun v1 =>
 match s_IsVerdict (v1, ()) with
 | none => none
 | some v2 =>
 match (!v2.1) with
 | true =>
  some (.inr (.inr (false, ())))
 | false =>
  onSome (idx x.1 x.2.1) fun v3 =>
  onSome (idx x.1 (0 : Int)) fun v4 =>
  match s_SameVerdict (v3, v4, ()) with
  | none => none
  | some v5 =>
  match (!v5.1) with
  | true =>
   some (.inr (.inr (false, ())))
  | false =>
   some (.inl (x.1, (IntKind.i64.wrap (x.2.1 + (1 : Int))), ()))
| false =>
 some (.inr (.inl (x.1, ())))
noncomputable def s_IsAgreement (x : Ty.T (.pair (.list TVerdict) .unit)) : Option (Ty.T (.pair .bool .unit)) :=
match loopL b_s_IsAgreement_2 (x.1, (0 : Int), ()) with
| none => none
| some (.inl v6) =>
 match s_l01In ((v6.1.length : Int), (1 : Int), (32 : Int), ()) with
 | none => none
 | some v8 =>
 some (v8.1, ())
| some (.inr v7) =>
 some (v7.1, ())
noncomputable def S_s_IsAgreement : Spec := ⟨(.pair (.list TVerdict) .unit), (.pair .bool .unit), .unit, rfl, s_IsAgreement⟩
noncomputable def σ_s_IsAgreement : FuncId → Option Spec := sig [(86, S_s_l01In), (95, S_s_IsVerdict), (96, S_s_SameVerdict)]
theorem σok_s_IsAgreement : ∀ f s, σ_s_IsAgreement f = some s → FnOK Try.prog f s := sig_ok (l := [(86, S_s_l01In), (95, S_s_IsVerdict), (96, S_s_SameVerdict)]) ⟨ok_s_l01In, ok_s_IsVerdict, ok_s_SameVerdict, trivial⟩
noncomputable def Λ_s_IsAgreement : Nat → Option LSpec := lkp (loopList (bodyOf Try.f51)) [⟨[0, 3], (.pair (.list TVerdict) (.pair (.int .i64) .unit)), 0, [0], (.pair (.list TVerdict) .unit), [2], (.pair .bool .unit), loopL b_s_IsAgreement_2⟩]
theorem lok_s_IsAgreement_2 (x) : codeK Γ0 E0 σ_s_IsAgreement Λ_s_IsAgreement Try.f51.ntmps (nthLoop Try.f51 0) (mkF Try.f51.ntmps [0, 3] (.pair (.list TVerdict) (.pair (.int .i64) .unit)) x) (readK σ_s_IsAgreement Try.f51.ntmps [0, 3] (.pair (.list TVerdict) (.pair (.int .i64) .unit)) 0 [0] (.pair (.list TVerdict) .unit) [2] (.pair .bool .unit)) = b_s_IsAgreement_2 x := by kernel_rfl
theorem ok_s_IsAgreement : FnOK Try.prog 51 S_s_IsAgreement := fn_ok (Λ := Λ_s_IsAgreement) tab0 σok_s_IsAgreement Try.func51 (by kernel_rfl) (show Try.f51.body = some (bodyOf Try.f51) by kernel_rfl) [⟨[0, 3], (.pair (.list TVerdict) (.pair (.int .i64) .unit)), 0, [0], (.pair (.list TVerdict) .unit), [2], (.pair .bool .unit), loopL b_s_IsAgreement_2⟩] rfl (by kernel_rfl) (by exact ⟨loop_LOK lok_s_IsAgreement_2, trivial⟩) (by kernel_rfl)
  fun x y h => (show execFn Γ0 E0 σ_s_IsAgreement Λ_s_IsAgreement Try.f51 S_s_IsAgreement x = s_IsAgreement x by kernel_rfl).trans h

noncomputable def l_toState (x : Ty.T (.pair TState .unit)) : Option (Ty.T (.pair TState .unit)) :=
some ((x.1.1, x.1.2.1, x.1.2.2.1, x.1.2.2.2.1, x.1.2.2.2.2.1, ()), ())
noncomputable def S_l_toState : Spec := ⟨(.pair TState .unit), (.pair TState .unit), .unit, rfl, l_toState⟩
noncomputable def σ_l_toState : FuncId → Option Spec := sig []
theorem σok_l_toState : ∀ f s, σ_l_toState f = some s → FnOK Try.prog f s := sig_ok (l := []) trivial
noncomputable def Λ_l_toState : Nat → Option LSpec := lkp (loopList (bodyOf Try.f136)) []
theorem ok_l_toState : FnOK Try.prog 136 S_l_toState := fn_ok (Λ := Λ_l_toState) tab0 σok_l_toState Try.func136 (by kernel_rfl) (show Try.f136.body = some (bodyOf Try.f136) by kernel_rfl) [] rfl (by kernel_rfl) (by exact trivial) (by kernel_rfl)
  fun x y h => (show execFn Γ0 E0 σ_l_toState Λ_l_toState Try.f136 S_l_toState x = l_toState x by kernel_rfl).trans h

noncomputable def b_l_toInt64S_3 (x : (Ty.T (.pair (.list (.int .i64)) (.pair (.own 2 (.int .i64)) (.pair (.int .i64) .unit))))) : Option ((Ty.T (.pair (.list (.int .i64)) (.pair (.own 2 (.int .i64)) (.pair (.int .i64) .unit)))) ⊕ ((Ty.T (.pair (.own 2 (.int .i64)) .unit)) ⊕ (Ty.T .unit))) :=
match (decide (x.2.2.1 < (x.1.length : Int))) with
| true =>
 onSome (idx x.1 x.2.2.1) fun v1 =>
 onSome (idx x.2.1 x.2.2.1) fun _ =>
 match x.2.1[x.2.2.1.toNat]? with
 | none => none
 | some v3 =>
 some (.inl (x.1, (x.2.1.set x.2.2.1.toNat v1), (IntKind.i64.wrap (x.2.2.1 + (1 : Int))), ()))
| false =>
 some (.inr (.inl (x.2.1, ())))
noncomputable def l_toInt64S (x : Ty.T (.pair (.list (.int .i64)) .unit)) : Option (Ty.T (.pair (.own 2 (.int .i64)) .unit)) :=
if 0 ≤ (x.1.length : Int) ∧ (x.1.length : Int) ≤ (x.1.length : Int) then
 room ((x.1.length : Int).toNat) (
  match loopL b_l_toInt64S_3 (x.1, (List.replicate (x.1.length : Int).toNat (0 : Int)), (0 : Int), ()) with
  | none => none
  | some (.inl v4) =>
   some (v4.1, ())
  | some (.inr v6) =>
   none)
else none
noncomputable def S_l_toInt64S : Spec := ⟨(.pair (.list (.int .i64)) .unit), (.pair (.own 2 (.int .i64)) .unit), .unit, rfl, l_toInt64S⟩
noncomputable def σ_l_toInt64S : FuncId → Option Spec := sig []
theorem σok_l_toInt64S : ∀ f s, σ_l_toInt64S f = some s → FnOK Try.prog f s := sig_ok (l := []) trivial
noncomputable def Λ_l_toInt64S : Nat → Option LSpec := lkp (loopList (bodyOf Try.f137)) [⟨[0, 3, 4], (.pair (.list (.int .i64)) (.pair (.own 2 (.int .i64)) (.pair (.int .i64) .unit))), 0, [3], (.pair (.own 2 (.int .i64)) .unit), [], .unit, loopL b_l_toInt64S_3⟩]
theorem lok_l_toInt64S_3 (x) : codeK Γ0 E0 σ_l_toInt64S Λ_l_toInt64S Try.f137.ntmps (nthLoop Try.f137 0) (mkF Try.f137.ntmps [0, 3, 4] (.pair (.list (.int .i64)) (.pair (.own 2 (.int .i64)) (.pair (.int .i64) .unit))) x) (readK σ_l_toInt64S Try.f137.ntmps [0, 3, 4] (.pair (.list (.int .i64)) (.pair (.own 2 (.int .i64)) (.pair (.int .i64) .unit))) 0 [3] (.pair (.own 2 (.int .i64)) .unit) [] .unit) = b_l_toInt64S_3 x := by kernel_rfl
theorem ok_l_toInt64S : FnOK Try.prog 137 S_l_toInt64S := fn_ok (Λ := Λ_l_toInt64S) tab0 σok_l_toInt64S Try.func137 (by kernel_rfl) (show Try.f137.body = some (bodyOf Try.f137) by kernel_rfl) [⟨[0, 3, 4], (.pair (.list (.int .i64)) (.pair (.own 2 (.int .i64)) (.pair (.int .i64) .unit))), 0, [3], (.pair (.own 2 (.int .i64)) .unit), [], .unit, loopL b_l_toInt64S_3⟩] rfl (by kernel_rfl) (by exact ⟨loop_LOK lok_l_toInt64S_3, trivial⟩) (by kernel_rfl)
  fun x y h => (show execFn Γ0 E0 σ_l_toInt64S Λ_l_toInt64S Try.f137 S_l_toInt64S x = l_toInt64S x by kernel_rfl).trans h

noncomputable def l_toFrame (x : Ty.T (.pair TFrame .unit)) : Option (Ty.T (.pair TFrame .unit)) :=
match l_toState ((x.1.2.2.1.1, x.1.2.2.1.2.1, x.1.2.2.1.2.2.1, x.1.2.2.1.2.2.2.1, x.1.2.2.1.2.2.2.2.1, ()), ()) with
| none => none
| some v1 =>
match l_toInt64S (x.1.2.2.2.1, ()) with
| none => none
| some v2 =>
some ((x.1.1, x.1.2.1, (v1.1.1, v1.1.2.1, v1.1.2.2.1, v1.1.2.2.2.1, v1.1.2.2.2.2.1, ()), v2.1, ()), ())
noncomputable def S_l_toFrame : Spec := ⟨(.pair TFrame .unit), (.pair TFrame .unit), .unit, rfl, l_toFrame⟩
noncomputable def σ_l_toFrame : FuncId → Option Spec := sig [(136, S_l_toState), (137, S_l_toInt64S)]
theorem σok_l_toFrame : ∀ f s, σ_l_toFrame f = some s → FnOK Try.prog f s := sig_ok (l := [(136, S_l_toState), (137, S_l_toInt64S)]) ⟨ok_l_toState, ok_l_toInt64S, trivial⟩
noncomputable def Λ_l_toFrame : Nat → Option LSpec := lkp (loopList (bodyOf Try.f110)) []
theorem ok_l_toFrame : FnOK Try.prog 110 S_l_toFrame := fn_ok (Λ := Λ_l_toFrame) tab0 σok_l_toFrame Try.func110 (by kernel_rfl) (show Try.f110.body = some (bodyOf Try.f110) by kernel_rfl) [] rfl (by kernel_rfl) (by exact trivial) (by kernel_rfl)
  fun x y h => (show execFn Γ0 E0 σ_l_toFrame Λ_l_toFrame Try.f110 S_l_toFrame x = l_toFrame x by kernel_rfl).trans h

noncomputable def l_toVerdict (x : Ty.T (.pair TVerdict .unit)) : Option (Ty.T (.pair TVerdict .unit)) :=
match l_toFrame ((x.1.2.1.1, x.1.2.1.2.1, (x.1.2.1.2.2.1.1, x.1.2.1.2.2.1.2.1, x.1.2.1.2.2.1.2.2.1, x.1.2.1.2.2.1.2.2.2.1, x.1.2.1.2.2.1.2.2.2.2.1, ()), x.1.2.1.2.2.2.1, ()), ()) with
| none => none
| some v1 =>
some ((x.1.1, (v1.1.1, v1.1.2.1, (v1.1.2.2.1.1, v1.1.2.2.1.2.1, v1.1.2.2.1.2.2.1, v1.1.2.2.1.2.2.2.1, v1.1.2.2.1.2.2.2.2.1, ()), v1.1.2.2.2.1, ()), ()), ())
noncomputable def S_l_toVerdict : Spec := ⟨(.pair TVerdict .unit), (.pair TVerdict .unit), .unit, rfl, l_toVerdict⟩
noncomputable def σ_l_toVerdict : FuncId → Option Spec := sig [(110, S_l_toFrame)]
theorem σok_l_toVerdict : ∀ f s, σ_l_toVerdict f = some s → FnOK Try.prog f s := sig_ok (l := [(110, S_l_toFrame)]) ⟨ok_l_toFrame, trivial⟩
noncomputable def Λ_l_toVerdict : Nat → Option LSpec := lkp (loopList (bodyOf Try.f63)) []
theorem ok_l_toVerdict : FnOK Try.prog 63 S_l_toVerdict := fn_ok (Λ := Λ_l_toVerdict) tab0 σok_l_toVerdict Try.func63 (by kernel_rfl) (show Try.f63.body = some (bodyOf Try.f63) by kernel_rfl) [] rfl (by kernel_rfl) (by exact trivial) (by kernel_rfl)
  fun x y h => (show execFn Γ0 E0 σ_l_toVerdict Λ_l_toVerdict Try.f63 S_l_toVerdict x = l_toVerdict x by kernel_rfl).trans h

noncomputable def b_l_toVerdictS_3 (x : (Ty.T (.pair (.list TVerdict) (.pair (.own 69 TVerdict) (.pair (.int .i64) .unit))))) : Option ((Ty.T (.pair (.list TVerdict) (.pair (.own 69 TVerdict) (.pair (.int .i64) .unit)))) ⊕ ((Ty.T (.pair (.own 69 TVerdict) .unit)) ⊕ (Ty.T .unit))) :=
match (decide (x.2.2.1 < (x.1.length : Int))) with
| true =>
 onSome (idx x.1 x.2.2.1) fun v1 =>
 match l_toVerdict (v1, ()) with
 | none => none
 | some v2 =>
 onSome (idx x.2.1 x.2.2.1) fun _ =>
 match x.2.1[x.2.2.1.toNat]? with
 | none => none
 | some v4 =>
 some (.inl (x.1, (x.2.1.set x.2.2.1.toNat (v2.1.1, (v2.1.2.1.1, v2.1.2.1.2.1, (v2.1.2.1.2.2.1.1, v2.1.2.1.2.2.1.2.1, v2.1.2.1.2.2.1.2.2.1, v2.1.2.1.2.2.1.2.2.2.1, v2.1.2.1.2.2.1.2.2.2.2.1, ()), v2.1.2.1.2.2.2.1, ()), ())), (IntKind.i64.wrap (x.2.2.1 + (1 : Int))), ()))
| false =>
 some (.inr (.inl (x.2.1, ())))
noncomputable def l_toVerdictS (x : Ty.T (.pair (.list TVerdict) .unit)) : Option (Ty.T (.pair (.own 69 TVerdict) .unit)) :=
if 0 ≤ (x.1.length : Int) ∧ (x.1.length : Int) ≤ (x.1.length : Int) then
 room ((x.1.length : Int).toNat) (
  match loopL b_l_toVerdictS_3 (x.1, (List.replicate (x.1.length : Int).toNat ((0 : Int), ((0 : Int), (0 : Int), ((0 : Int), (0 : Int), (0 : Int), (0 : Int), (0 : Int), ()), [], ()), ())), (0 : Int), ()) with
  | none => none
  | some (.inl v5) =>
   some (v5.1, ())
  | some (.inr v7) =>
   none)
else none
noncomputable def S_l_toVerdictS : Spec := ⟨(.pair (.list TVerdict) .unit), (.pair (.own 69 TVerdict) .unit), .unit, rfl, l_toVerdictS⟩
noncomputable def σ_l_toVerdictS : FuncId → Option Spec := sig [(63, S_l_toVerdict)]
theorem σok_l_toVerdictS : ∀ f s, σ_l_toVerdictS f = some s → FnOK Try.prog f s := sig_ok (l := [(63, S_l_toVerdict)]) ⟨ok_l_toVerdict, trivial⟩
noncomputable def Λ_l_toVerdictS : Nat → Option LSpec := lkp (loopList (bodyOf Try.f52)) [⟨[0, 3, 4], (.pair (.list TVerdict) (.pair (.own 69 TVerdict) (.pair (.int .i64) .unit))), 0, [3], (.pair (.own 69 TVerdict) .unit), [], .unit, loopL b_l_toVerdictS_3⟩]
theorem lok_l_toVerdictS_3 (x) : codeK Γ0 E0 σ_l_toVerdictS Λ_l_toVerdictS Try.f52.ntmps (nthLoop Try.f52 0) (mkF Try.f52.ntmps [0, 3, 4] (.pair (.list TVerdict) (.pair (.own 69 TVerdict) (.pair (.int .i64) .unit))) x) (readK σ_l_toVerdictS Try.f52.ntmps [0, 3, 4] (.pair (.list TVerdict) (.pair (.own 69 TVerdict) (.pair (.int .i64) .unit))) 0 [3] (.pair (.own 69 TVerdict) .unit) [] .unit) = b_l_toVerdictS_3 x := by kernel_rfl
theorem ok_l_toVerdictS : FnOK Try.prog 52 S_l_toVerdictS := fn_ok (Λ := Λ_l_toVerdictS) tab0 σok_l_toVerdictS Try.func52 (by kernel_rfl) (show Try.f52.body = some (bodyOf Try.f52) by kernel_rfl) [⟨[0, 3, 4], (.pair (.list TVerdict) (.pair (.own 69 TVerdict) (.pair (.int .i64) .unit))), 0, [3], (.pair (.own 69 TVerdict) .unit), [], .unit, loopL b_l_toVerdictS_3⟩] rfl (by kernel_rfl) (by exact ⟨loop_LOK lok_l_toVerdictS_3, trivial⟩) (by kernel_rfl)
  fun x y h => (show execFn Γ0 E0 σ_l_toVerdictS Λ_l_toVerdictS Try.f52 S_l_toVerdictS x = l_toVerdictS x by kernel_rfl).trans h

noncomputable def b_slices_IndexFunc_Verdict_2 (x : (Ty.T (.pair (.list TVerdict) (.pair (.fn (.pair TVerdict .unit) (.pair .bool .unit)) (.pair (.int .i64) (.pair (.int .i64) .unit)))))) : Option ((Ty.T (.pair (.list TVerdict) (.pair (.fn (.pair TVerdict .unit) (.pair .bool .unit)) (.pair (.int .i64) (.pair (.int .i64) .unit))))) ⊕ ((Ty.T .unit) ⊕ (Ty.T (.pair (.int .i64) .unit)))) :=
match (decide (x.2.2.2.1 < x.2.2.1)) with
| true =>
 onSome (idx x.1 x.2.2.2.1) fun v1 =>
 match x.2.1 (v1, ()) with
 | none => none
 | some v2 =>
 match v2.1 with
 | true =>
  some (.inr (.inr (x.2.2.2.1, ())))
 | false =>
  some (.inl (x.1, x.2.1, x.2.2.1, (IntKind.i64.wrap (x.2.2.2.1 + (1 : Int))), ()))
| false =>
 some (.inr (.inl (())))
noncomputable def slices_IndexFunc_Verdict (x : Ty.T (.pair (.list TVerdict) (.pair (.fn (.pair TVerdict .unit) (.pair .bool .unit)) .unit))) : Option (Ty.T (.pair (.int .i64) .unit)) :=
match loopL b_slices_IndexFunc_Verdict_2 (x.1, x.2.1, (x.1.length : Int), (0 : Int), ()) with
| none => none
| some (.inl v3) =>
 some ((-1 : Int), ())
| some (.inr v4) =>
 some (v4.1, ())
noncomputable def S_slices_IndexFunc_Verdict : Spec := ⟨(.pair (.list TVerdict) (.pair (.fn (.pair TVerdict .unit) (.pair .bool .unit)) .unit)), (.pair (.int .i64) .unit), .unit, rfl, slices_IndexFunc_Verdict⟩
noncomputable def σ_slices_IndexFunc_Verdict : FuncId → Option Spec := sig []
theorem σok_slices_IndexFunc_Verdict : ∀ f s, σ_slices_IndexFunc_Verdict f = some s → FnOK Try.prog f s := sig_ok (l := []) trivial
noncomputable def Λ_slices_IndexFunc_Verdict : Nat → Option LSpec := lkp (loopList (bodyOf Try.f127)) [⟨[0, 1, 7, 8], (.pair (.list TVerdict) (.pair (.fn (.pair TVerdict .unit) (.pair .bool .unit)) (.pair (.int .i64) (.pair (.int .i64) .unit)))), 0, [], .unit, [4], (.pair (.int .i64) .unit), loopL b_slices_IndexFunc_Verdict_2⟩]
theorem lok_slices_IndexFunc_Verdict_2 (x) : codeK Γ0 E0 σ_slices_IndexFunc_Verdict Λ_slices_IndexFunc_Verdict Try.f127.ntmps (nthLoop Try.f127 0) (mkF Try.f127.ntmps [0, 1, 7, 8] (.pair (.list TVerdict) (.pair (.fn (.pair TVerdict .unit) (.pair .bool .unit)) (.pair (.int .i64) (.pair (.int .i64) .unit)))) x) (readK σ_slices_IndexFunc_Verdict Try.f127.ntmps [0, 1, 7, 8] (.pair (.list TVerdict) (.pair (.fn (.pair TVerdict .unit) (.pair .bool .unit)) (.pair (.int .i64) (.pair (.int .i64) .unit)))) 0 [] .unit [4] (.pair (.int .i64) .unit)) = b_slices_IndexFunc_Verdict_2 x := by kernel_rfl
theorem ok_slices_IndexFunc_Verdict : FnOK Try.prog 127 S_slices_IndexFunc_Verdict := fn_ok (Λ := Λ_slices_IndexFunc_Verdict) tab0 σok_slices_IndexFunc_Verdict Try.func127 (by kernel_rfl) (show Try.f127.body = some (bodyOf Try.f127) by kernel_rfl) [⟨[0, 1, 7, 8], (.pair (.list TVerdict) (.pair (.fn (.pair TVerdict .unit) (.pair .bool .unit)) (.pair (.int .i64) (.pair (.int .i64) .unit)))), 0, [], .unit, [4], (.pair (.int .i64) .unit), loopL b_slices_IndexFunc_Verdict_2⟩] rfl (by kernel_rfl) (by exact ⟨loop_LOK lok_slices_IndexFunc_Verdict_2, trivial⟩) (by kernel_rfl)
  fun x y h => (show execFn Γ0 E0 σ_slices_IndexFunc_Verdict Λ_slices_IndexFunc_Verdict Try.f127 S_slices_IndexFunc_Verdict x = slices_IndexFunc_Verdict x by kernel_rfl).trans h

noncomputable def slices_ContainsFunc_Verdict (x : Ty.T (.pair (.list TVerdict) (.pair (.fn (.pair TVerdict .unit) (.pair .bool .unit)) .unit))) : Option (Ty.T (.pair .bool .unit)) :=
match slices_IndexFunc_Verdict (x.1, x.2.1, ()) with
| none => none
| some v1 =>
some ((decide (v1.1 ≥ (0 : Int))), ())
noncomputable def S_slices_ContainsFunc_Verdict : Spec := ⟨(.pair (.list TVerdict) (.pair (.fn (.pair TVerdict .unit) (.pair .bool .unit)) .unit)), (.pair .bool .unit), .unit, rfl, slices_ContainsFunc_Verdict⟩
noncomputable def σ_slices_ContainsFunc_Verdict : FuncId → Option Spec := sig [(127, S_slices_IndexFunc_Verdict)]
theorem σok_slices_ContainsFunc_Verdict : ∀ f s, σ_slices_ContainsFunc_Verdict f = some s → FnOK Try.prog f s := sig_ok (l := [(127, S_slices_IndexFunc_Verdict)]) ⟨ok_slices_IndexFunc_Verdict, trivial⟩
noncomputable def Λ_slices_ContainsFunc_Verdict : Nat → Option LSpec := lkp (loopList (bodyOf Try.f98)) []
theorem ok_slices_ContainsFunc_Verdict : FnOK Try.prog 98 S_slices_ContainsFunc_Verdict := fn_ok (Λ := Λ_slices_ContainsFunc_Verdict) tab0 σok_slices_ContainsFunc_Verdict Try.func98 (by kernel_rfl) (show Try.f98.body = some (bodyOf Try.f98) by kernel_rfl) [] rfl (by kernel_rfl) (by exact trivial) (by kernel_rfl)
  fun x y h => (show execFn Γ0 E0 σ_slices_ContainsFunc_Verdict Λ_slices_ContainsFunc_Verdict Try.f98 S_slices_ContainsFunc_Verdict x = slices_ContainsFunc_Verdict x by kernel_rfl).trans h

noncomputable def i_isKind (x : Ty.T (.pair (.int .i64) .unit)) : Option (Ty.T (.pair .bool .unit)) :=
match i_within (x.1, (0 : Int), (3 : Int), ()) with
| none => none
| some v1 =>
some (v1.1, ())
noncomputable def S_i_isKind : Spec := ⟨(.pair (.int .i64) .unit), (.pair .bool .unit), .unit, rfl, i_isKind⟩
noncomputable def σ_i_isKind : FuncId → Option Spec := sig [(88, S_i_within)]
theorem σok_i_isKind : ∀ f s, σ_i_isKind f = some s → FnOK Try.prog f s := sig_ok (l := [(88, S_i_within)]) ⟨ok_i_within, trivial⟩
noncomputable def Λ_i_isKind : Nat → Option LSpec := lkp (loopList (bodyOf Try.f130)) []
theorem ok_i_isKind : FnOK Try.prog 130 S_i_isKind := fn_ok (Λ := Λ_i_isKind) tab0 σok_i_isKind Try.func130 (by kernel_rfl) (show Try.f130.body = some (bodyOf Try.f130) by kernel_rfl) [] rfl (by kernel_rfl) (by exact trivial) (by kernel_rfl)
  fun x y h => (show execFn Γ0 E0 σ_i_isKind Λ_i_isKind Try.f130 S_i_isKind x = i_isKind x by kernel_rfl).trans h

noncomputable def i_isDataSize (x : Ty.T (.pair (.int .i64) (.pair (.int .i64) .unit))) : Option (Ty.T (.pair .bool .unit)) :=
match (x.1 == (0 : Int)) with
| true =>
 match i_within (x.2.1, (0 : Int), (32 : Int), ()) with
 | none => none
 | some v1 =>
 some (v1.1, ())
| false =>
 match (x.1 == (2 : Int)) with
 | true =>
  match i_within (x.2.1, (1 : Int), (32 : Int), ()) with
  | none => none
  | some v2 =>
  some (v2.1, ())
 | false =>
  some ((x.2.1 == (0 : Int)), ())
noncomputable def S_i_isDataSize : Spec := ⟨(.pair (.int .i64) (.pair (.int .i64) .unit)), (.pair .bool .unit), .unit, rfl, i_isDataSize⟩
noncomputable def σ_i_isDataSize : FuncId → Option Spec := sig [(88, S_i_within)]
theorem σok_i_isDataSize : ∀ f s, σ_i_isDataSize f = some s → FnOK Try.prog f s := sig_ok (l := [(88, S_i_within)]) ⟨ok_i_within, trivial⟩
noncomputable def Λ_i_isDataSize : Nat → Option LSpec := lkp (loopList (bodyOf Try.f131)) []
theorem ok_i_isDataSize : FnOK Try.prog 131 S_i_isDataSize := fn_ok (Λ := Λ_i_isDataSize) tab0 σok_i_isDataSize Try.func131 (by kernel_rfl) (show Try.f131.body = some (bodyOf Try.f131) by kernel_rfl) [] rfl (by kernel_rfl) (by exact trivial) (by kernel_rfl)
  fun x y h => (show execFn Γ0 E0 σ_i_isDataSize Λ_i_isDataSize Try.f131 S_i_isDataSize x = i_isDataSize x by kernel_rfl).trans h

noncomputable def b_i_allWithin_2 (x : (Ty.T (.pair (.int .i64) (.pair (.int .i64) (.pair (.list (.int .i64)) (.pair (.int .i64) (.pair (.int .i64) .unit))))))) : Option ((Ty.T (.pair (.int .i64) (.pair (.int .i64) (.pair (.list (.int .i64)) (.pair (.int .i64) (.pair (.int .i64) .unit)))))) ⊕ ((Ty.T .unit) ⊕ (Ty.T (.pair .bool .unit)))) :=
match (decide (x.2.2.2.2.1 < x.2.2.2.1)) with
| true =>
 onSome (idx x.2.2.1 x.2.2.2.2.1) fun v1 =>
 match (decide (v1 < x.1)) with
 | true =>
  some (.inr (.inr (false, ())))
 | false =>
  match (decide (v1 > x.2.1)) with
  | true =>
   some (.inr (.inr (false, ())))
  | false =>
   some (.inl (x.1, x.2.1, x.2.2.1, x.2.2.2.1, (IntKind.i64.wrap (x.2.2.2.2.1 + (1 : Int))), ()))
| false =>
 some (.inr (.inl (())))
noncomputable def i_allWithin (x : Ty.T (.pair (.list (.int .i64)) (.pair (.int .i64) (.pair (.int .i64) .unit)))) : Option (Ty.T (.pair .bool .unit)) :=
match loopL b_i_allWithin_2 (x.2.1, x.2.2.1, x.1, (x.1.length : Int), (0 : Int), ()) with
| none => none
| some (.inl v2) =>
 some (true, ())
| some (.inr v3) =>
 some (v3.1, ())
noncomputable def S_i_allWithin : Spec := ⟨(.pair (.list (.int .i64)) (.pair (.int .i64) (.pair (.int .i64) .unit))), (.pair .bool .unit), .unit, rfl, i_allWithin⟩
noncomputable def σ_i_allWithin : FuncId → Option Spec := sig []
theorem σok_i_allWithin : ∀ f s, σ_i_allWithin f = some s → FnOK Try.prog f s := sig_ok (l := []) trivial
noncomputable def Λ_i_allWithin : Nat → Option LSpec := lkp (loopList (bodyOf Try.f149)) [⟨[1, 2, 9, 10, 11], (.pair (.int .i64) (.pair (.int .i64) (.pair (.list (.int .i64)) (.pair (.int .i64) (.pair (.int .i64) .unit))))), 0, [], .unit, [6], (.pair .bool .unit), loopL b_i_allWithin_2⟩]
theorem lok_i_allWithin_2 (x) : codeK Γ0 E0 σ_i_allWithin Λ_i_allWithin Try.f149.ntmps (nthLoop Try.f149 0) (mkF Try.f149.ntmps [1, 2, 9, 10, 11] (.pair (.int .i64) (.pair (.int .i64) (.pair (.list (.int .i64)) (.pair (.int .i64) (.pair (.int .i64) .unit))))) x) (readK σ_i_allWithin Try.f149.ntmps [1, 2, 9, 10, 11] (.pair (.int .i64) (.pair (.int .i64) (.pair (.list (.int .i64)) (.pair (.int .i64) (.pair (.int .i64) .unit))))) 0 [] .unit [6] (.pair .bool .unit)) = b_i_allWithin_2 x := by kernel_rfl
theorem ok_i_allWithin : FnOK Try.prog 149 S_i_allWithin := fn_ok (Λ := Λ_i_allWithin) tab0 σok_i_allWithin Try.func149 (by kernel_rfl) (show Try.f149.body = some (bodyOf Try.f149) by kernel_rfl) [⟨[1, 2, 9, 10, 11], (.pair (.int .i64) (.pair (.int .i64) (.pair (.list (.int .i64)) (.pair (.int .i64) (.pair (.int .i64) .unit))))), 0, [], .unit, [6], (.pair .bool .unit), loopL b_i_allWithin_2⟩] rfl (by kernel_rfl) (by exact ⟨loop_LOK lok_i_allWithin_2, trivial⟩) (by kernel_rfl)
  fun x y h => (show execFn Γ0 E0 σ_i_allWithin Λ_i_allWithin Try.f149 S_i_allWithin x = i_allWithin x by kernel_rfl).trans h

noncomputable def i_IsBytes (x : Ty.T (.pair (.list (.int .i64)) .unit)) : Option (Ty.T (.pair .bool .unit)) :=
match (decide ((x.1.length : Int) ≤ (1024 : Int))) with
| true =>
 match i_allWithin (x.1, (0 : Int), (255 : Int), ()) with
 | none => none
 | some v1 =>
 some (v1.1, ())
| false =>
 some (false, ())
noncomputable def S_i_IsBytes : Spec := ⟨(.pair (.list (.int .i64)) .unit), (.pair .bool .unit), .unit, rfl, i_IsBytes⟩
noncomputable def σ_i_IsBytes : FuncId → Option Spec := sig [(149, S_i_allWithin)]
theorem σok_i_IsBytes : ∀ f s, σ_i_IsBytes f = some s → FnOK Try.prog f s := sig_ok (l := [(149, S_i_allWithin)]) ⟨ok_i_allWithin, trivial⟩
noncomputable def Λ_i_IsBytes : Nat → Option LSpec := lkp (loopList (bodyOf Try.f132)) []
theorem ok_i_IsBytes : FnOK Try.prog 132 S_i_IsBytes := fn_ok (Λ := Λ_i_IsBytes) tab0 σok_i_IsBytes Try.func132 (by kernel_rfl) (show Try.f132.body = some (bodyOf Try.f132) by kernel_rfl) [] rfl (by kernel_rfl) (by exact trivial) (by kernel_rfl)
  fun x y h => (show execFn Γ0 E0 σ_i_IsBytes Λ_i_IsBytes Try.f132 S_i_IsBytes x = i_IsBytes x by kernel_rfl).trans h

noncomputable def i_IsFrame (x : Ty.T (.pair TFrame .unit)) : Option (Ty.T (.pair .bool .unit)) :=
match i_isKind (x.1.1, ()) with
| none => none
| some v1 =>
match (!v1.1) with
| true =>
 some (false, ())
| false =>
 match i_within (x.1.2.1, (0 : Int), (7 : Int), ()) with
 | none => none
 | some v2 =>
 match (!v2.1) with
 | true =>
  some (false, ())
 | false =>
  match i_isDataSize (x.1.1, (x.1.2.2.2.1.length : Int), ()) with
  | none => none
  | some v3 =>
  match (!v3.1) with
  | true =>
   some (false, ())
  | false =>
   match i_IsBytes (x.1.2.2.2.1, ()) with
   | none => none
   | some v4 =>
   match (!v4.1) with
   | true =>
    some (false, ())
   | false =>
    match (x.1.1 == (0 : Int)) with
    | true =>
     some ((eqT TState (x.1.2.2.1.1, x.1.2.2.1.2.1, x.1.2.2.1.2.2.1, x.1.2.2.1.2.2.2.1, x.1.2.2.1.2.2.2.2.1, ()) ((0 : Int), (0 : Int), (0 : Int), (0 : Int), (0 : Int), ())), ())
    | false =>
     match (x.1.1 == (3 : Int)) with
     | true =>
      match i_IsState ((x.1.2.2.1.1, x.1.2.2.1.2.1, x.1.2.2.1.2.2.1, x.1.2.2.1.2.2.2.1, x.1.2.2.1.2.2.2.2.1, ()), ()) with
      | none => none
      | some v5 =>
      match v5.1 with
      | true =>
       match (x.1.2.2.1.2.1 == (0 : Int)) with
       | true =>
        match (x.1.2.2.1.2.2.2.2.1 != (0 : Int)) with
        | true =>
         match ((bits BinOp.and .i64 x.1.2.2.1.2.2.2.2.1 (IntKind.i64.wrap (x.1.2.2.1.2.2.2.2.1 - (1 : Int)))) == (0 : Int)) with
         | true =>
          some ((x.1.2.1 == (0 : Int)), ())
         | false =>
          some (false, ())
        | false =>
         some (false, ())
       | false =>
        some (false, ())
      | false =>
       some (false, ())
     | false =>
      match i_IsState ((x.1.2.2.1.1, x.1.2.2.1.2.1, x.1.2.2.1.2.2.1, x.1.2.2.1.2.2.2.1, x.1.2.2.1.2.2.2.2.1, ()), ()) with
      | none => none
      | some v6 =>
      some (v6.1, ())
noncomputable def S_i_IsFrame : Spec := ⟨(.pair TFrame .unit), (.pair .bool .unit), .unit, rfl, i_IsFrame⟩
noncomputable def σ_i_IsFrame : FuncId → Option Spec := sig [(88, S_i_within), (130, S_i_isKind), (131, S_i_isDataSize), (132, S_i_IsBytes), (133, S_i_IsState)]
theorem σok_i_IsFrame : ∀ f s, σ_i_IsFrame f = some s → FnOK Try.prog f s := sig_ok (l := [(88, S_i_within), (130, S_i_isKind), (131, S_i_isDataSize), (132, S_i_IsBytes), (133, S_i_IsState)]) ⟨ok_i_within, ok_i_isKind, ok_i_isDataSize, ok_i_IsBytes, ok_i_IsState, trivial⟩
noncomputable def Λ_i_IsFrame : Nat → Option LSpec := lkp (loopList (bodyOf Try.f107)) []
theorem ok_i_IsFrame : FnOK Try.prog 107 S_i_IsFrame := fn_ok (Λ := Λ_i_IsFrame) tab0 σok_i_IsFrame Try.func107 (by kernel_rfl) (show Try.f107.body = some (bodyOf Try.f107) by kernel_rfl) [] rfl (by kernel_rfl) (by exact trivial) (by kernel_rfl)
  fun x y h => (show execFn Γ0 E0 σ_i_IsFrame Λ_i_IsFrame Try.f107 S_i_IsFrame x = i_IsFrame x by kernel_rfl).trans h

noncomputable def b_slices_Equal_int64_4 (x : (Ty.T (.pair (.list (.int .i64)) (.pair (.list (.int .i64)) (.pair (.int .i64) (.pair (.int .i64) .unit)))))) : Option ((Ty.T (.pair (.list (.int .i64)) (.pair (.list (.int .i64)) (.pair (.int .i64) (.pair (.int .i64) .unit))))) ⊕ ((Ty.T .unit) ⊕ (Ty.T (.pair .bool .unit)))) :=
match (decide (x.2.2.2.1 < x.2.2.1)) with
| true =>
 onSome (idx x.1 x.2.2.2.1) fun v1 =>
 onSome (idx x.2.1 x.2.2.2.1) fun v2 =>
 match (v1 != v2) with
 | true =>
  some (.inr (.inr (false, ())))
 | false =>
  some (.inl (x.1, x.2.1, x.2.2.1, (IntKind.i64.wrap (x.2.2.2.1 + (1 : Int))), ()))
| false =>
 some (.inr (.inl (())))
noncomputable def slices_Equal_int64 (x : Ty.T (.pair (.list (.int .i64)) (.pair (.list (.int .i64)) .unit))) : Option (Ty.T (.pair .bool .unit)) :=
match ((x.1.length : Int) != (x.2.1.length : Int)) with
| true =>
 some (false, ())
| false =>
 match loopL b_slices_Equal_int64_4 (x.1, x.2.1, (x.1.length : Int), (0 : Int), ()) with
 | none => none
 | some (.inl v3) =>
  some (true, ())
 | some (.inr v4) =>
  some (v4.1, ())
noncomputable def S_slices_Equal_int64 : Spec := ⟨(.pair (.list (.int .i64)) (.pair (.list (.int .i64)) .unit)), (.pair .bool .unit), .unit, rfl, slices_Equal_int64⟩
noncomputable def σ_slices_Equal_int64 : FuncId → Option Spec := sig []
theorem σok_slices_Equal_int64 : ∀ f s, σ_slices_Equal_int64 f = some s → FnOK Try.prog f s := sig_ok (l := []) trivial
noncomputable def Λ_slices_Equal_int64 : Nat → Option LSpec := lkp (loopList (bodyOf Try.f134)) [⟨[0, 1, 12, 13], (.pair (.list (.int .i64)) (.pair (.list (.int .i64)) (.pair (.int .i64) (.pair (.int .i64) .unit)))), 0, [], .unit, [4], (.pair .bool .unit), loopL b_slices_Equal_int64_4⟩]
theorem lok_slices_Equal_int64_4 (x) : codeK Γ0 E0 σ_slices_Equal_int64 Λ_slices_Equal_int64 Try.f134.ntmps (nthLoop Try.f134 0) (mkF Try.f134.ntmps [0, 1, 12, 13] (.pair (.list (.int .i64)) (.pair (.list (.int .i64)) (.pair (.int .i64) (.pair (.int .i64) .unit)))) x) (readK σ_slices_Equal_int64 Try.f134.ntmps [0, 1, 12, 13] (.pair (.list (.int .i64)) (.pair (.list (.int .i64)) (.pair (.int .i64) (.pair (.int .i64) .unit)))) 0 [] .unit [4] (.pair .bool .unit)) = b_slices_Equal_int64_4 x := by kernel_rfl
theorem ok_slices_Equal_int64 : FnOK Try.prog 134 S_slices_Equal_int64 := fn_ok (Λ := Λ_slices_Equal_int64) tab0 σok_slices_Equal_int64 Try.func134 (by kernel_rfl) (show Try.f134.body = some (bodyOf Try.f134) by kernel_rfl) [⟨[0, 1, 12, 13], (.pair (.list (.int .i64)) (.pair (.list (.int .i64)) (.pair (.int .i64) (.pair (.int .i64) .unit)))), 0, [], .unit, [4], (.pair .bool .unit), loopL b_slices_Equal_int64_4⟩] rfl (by kernel_rfl) (by exact ⟨loop_LOK lok_slices_Equal_int64_4, trivial⟩) (by kernel_rfl)
  fun x y h => (show execFn Γ0 E0 σ_slices_Equal_int64 Λ_slices_Equal_int64 Try.f134 S_slices_Equal_int64 x = slices_Equal_int64 x by kernel_rfl).trans h

noncomputable def i_sameFrame (x : Ty.T (.pair TFrame (.pair TFrame .unit))) : Option (Ty.T (.pair .bool .unit)) :=
match (x.1.1 == x.2.1.1) with
| true =>
 match (x.1.2.1 == x.2.1.2.1) with
 | true =>
  match (eqT TState (x.1.2.2.1.1, x.1.2.2.1.2.1, x.1.2.2.1.2.2.1, x.1.2.2.1.2.2.2.1, x.1.2.2.1.2.2.2.2.1, ()) (x.2.1.2.2.1.1, x.2.1.2.2.1.2.1, x.2.1.2.2.1.2.2.1, x.2.1.2.2.1.2.2.2.1, x.2.1.2.2.1.2.2.2.2.1, ())) with
  | true =>
   match slices_Equal_int64 (x.1.2.2.2.1, x.2.1.2.2.2.1, ()) with
   | none => none
   | some v1 =>
   some (v1.1, ())
  | false =>
   some (false, ())
 | false =>
  some (false, ())
| false =>
 some (false, ())
noncomputable def S_i_sameFrame : Spec := ⟨(.pair TFrame (.pair TFrame .unit)), (.pair .bool .unit), .unit, rfl, i_sameFrame⟩
noncomputable def σ_i_sameFrame : FuncId → Option Spec := sig [(134, S_slices_Equal_int64)]
theorem σok_i_sameFrame : ∀ f s, σ_i_sameFrame f = some s → FnOK Try.prog f s := sig_ok (l := [(134, S_slices_Equal_int64)]) ⟨ok_slices_Equal_int64, trivial⟩
noncomputable def Λ_i_sameFrame : Nat → Option LSpec := lkp (loopList (bodyOf Try.f108)) []
theorem ok_i_sameFrame : FnOK Try.prog 108 S_i_sameFrame := fn_ok (Λ := Λ_i_sameFrame) tab0 σok_i_sameFrame Try.func108 (by kernel_rfl) (show Try.f108.body = some (bodyOf Try.f108) by kernel_rfl) [] rfl (by kernel_rfl) (by exact trivial) (by kernel_rfl)
  fun x y h => (show execFn Γ0 E0 σ_i_sameFrame Λ_i_sameFrame Try.f108 S_i_sameFrame x = i_sameFrame x by kernel_rfl).trans h

noncomputable def i_IsVerdict (x : Ty.T (.pair TVerdict .unit)) : Option (Ty.T (.pair .bool .unit)) :=
match (x.1.1 == (3 : Int)) with
| true =>
 match i_IsFrame ((x.1.2.1.1, x.1.2.1.2.1, (x.1.2.1.2.2.1.1, x.1.2.1.2.2.1.2.1, x.1.2.1.2.2.1.2.2.1, x.1.2.1.2.2.1.2.2.2.1, x.1.2.1.2.2.1.2.2.2.2.1, ()), x.1.2.1.2.2.2.1, ()), ()) with
 | none => none
 | some v1 =>
 some (v1.1, ())
| false =>
 match i_within (x.1.1, (0 : Int), (4 : Int), ()) with
 | none => none
 | some v2 =>
 match v2.1 with
 | true =>
  match i_sameFrame ((x.1.2.1.1, x.1.2.1.2.1, (x.1.2.1.2.2.1.1, x.1.2.1.2.2.1.2.1, x.1.2.1.2.2.1.2.2.1, x.1.2.1.2.2.1.2.2.2.1, x.1.2.1.2.2.1.2.2.2.2.1, ()), x.1.2.1.2.2.2.1, ()), ((0 : Int), (0 : Int), ((0 : Int), (0 : Int), (0 : Int), (0 : Int), (0 : Int), ()), [], ()), ()) with
  | none => none
  | some v3 =>
  some (v3.1, ())
 | false =>
  some (false, ())
noncomputable def S_i_IsVerdict : Spec := ⟨(.pair TVerdict .unit), (.pair .bool .unit), .unit, rfl, i_IsVerdict⟩
noncomputable def σ_i_IsVerdict : FuncId → Option Spec := sig [(88, S_i_within), (107, S_i_IsFrame), (108, S_i_sameFrame)]
theorem σok_i_IsVerdict : ∀ f s, σ_i_IsVerdict f = some s → FnOK Try.prog f s := sig_ok (l := [(88, S_i_within), (107, S_i_IsFrame), (108, S_i_sameFrame)]) ⟨ok_i_within, ok_i_IsFrame, ok_i_sameFrame, trivial⟩
noncomputable def Λ_i_IsVerdict : Nat → Option LSpec := lkp (loopList (bodyOf Try.f61)) []
theorem ok_i_IsVerdict : FnOK Try.prog 61 S_i_IsVerdict := fn_ok (Λ := Λ_i_IsVerdict) tab0 σok_i_IsVerdict Try.func61 (by kernel_rfl) (show Try.f61.body = some (bodyOf Try.f61) by kernel_rfl) [] rfl (by kernel_rfl) (by exact trivial) (by kernel_rfl)
  fun x y h => (show execFn Γ0 E0 σ_i_IsVerdict Λ_i_IsVerdict Try.f61 S_i_IsVerdict x = i_IsVerdict x by kernel_rfl).trans h

noncomputable def i_areVerdicts_1 (x : Ty.T (.pair TVerdict .unit)) : Option (Ty.T (.pair .bool .unit)) :=
match i_IsVerdict ((x.1.1, (x.1.2.1.1, x.1.2.1.2.1, (x.1.2.1.2.2.1.1, x.1.2.1.2.2.1.2.1, x.1.2.1.2.2.1.2.2.1, x.1.2.1.2.2.1.2.2.2.1, x.1.2.1.2.2.1.2.2.2.2.1, ()), x.1.2.1.2.2.2.1, ()), ()), ()) with
| none => none
| some v1 =>
some ((!v1.1), ())
noncomputable def S_i_areVerdicts_1 : Spec := ⟨(.pair TVerdict .unit), (.pair .bool .unit), .unit, rfl, i_areVerdicts_1⟩
noncomputable def σ_i_areVerdicts_1 : FuncId → Option Spec := sig [(61, S_i_IsVerdict)]
theorem σok_i_areVerdicts_1 : ∀ f s, σ_i_areVerdicts_1 f = some s → FnOK Try.prog f s := sig_ok (l := [(61, S_i_IsVerdict)]) ⟨ok_i_IsVerdict, trivial⟩
noncomputable def Λ_i_areVerdicts_1 : Nat → Option LSpec := lkp (loopList (bodyOf Try.f126)) []
theorem ok_i_areVerdicts_1 : FnOK Try.prog 126 S_i_areVerdicts_1 := fn_ok (Λ := Λ_i_areVerdicts_1) tab0 σok_i_areVerdicts_1 Try.func126 (by kernel_rfl) (show Try.f126.body = some (bodyOf Try.f126) by kernel_rfl) [] rfl (by kernel_rfl) (by exact trivial) (by kernel_rfl)
  fun x y h => (show execFn Γ0 E0 σ_i_areVerdicts_1 Λ_i_areVerdicts_1 Try.f126 S_i_areVerdicts_1 x = i_areVerdicts_1 x by kernel_rfl).trans h

noncomputable def i_areVerdicts (x : Ty.T (.pair (.list TVerdict) .unit)) : Option (Ty.T (.pair .bool .unit)) :=
match slices_ContainsFunc_Verdict (x.1, i_areVerdicts_1, ()) with
| none => none
| some v1 =>
some ((!v1.1), ())
noncomputable def S_i_areVerdicts : Spec := ⟨(.pair (.list TVerdict) .unit), (.pair .bool .unit), .unit, rfl, i_areVerdicts⟩
noncomputable def σ_i_areVerdicts : FuncId → Option Spec := sig [(98, S_slices_ContainsFunc_Verdict), (126, S_i_areVerdicts_1)]
theorem σok_i_areVerdicts : ∀ f s, σ_i_areVerdicts f = some s → FnOK Try.prog f s := sig_ok (l := [(98, S_slices_ContainsFunc_Verdict), (126, S_i_areVerdicts_1)]) ⟨ok_slices_ContainsFunc_Verdict, ok_i_areVerdicts_1, trivial⟩
noncomputable def Λ_i_areVerdicts : Nat → Option LSpec := lkp (loopList (bodyOf Try.f97)) []
theorem ok_i_areVerdicts : FnOK Try.prog 97 S_i_areVerdicts := fn_ok (Λ := Λ_i_areVerdicts) tab0 σok_i_areVerdicts Try.func97 (by kernel_rfl) (show Try.f97.body = some (bodyOf Try.f97) by kernel_rfl) [] rfl (by kernel_rfl) (by exact trivial) (by kernel_rfl)
  fun x y h => (show execFn Γ0 E0 σ_i_areVerdicts Λ_i_areVerdicts Try.f97 S_i_areVerdicts x = i_areVerdicts x by kernel_rfl).trans h

noncomputable def i_SameVerdict (x : Ty.T (.pair TVerdict (.pair TVerdict .unit))) : Option (Ty.T (.pair .bool .unit)) :=
match (x.1.1 == x.2.1.1) with
| true =>
 match i_sameFrame ((x.1.2.1.1, x.1.2.1.2.1, (x.1.2.1.2.2.1.1, x.1.2.1.2.2.1.2.1, x.1.2.1.2.2.1.2.2.1, x.1.2.1.2.2.1.2.2.2.1, x.1.2.1.2.2.1.2.2.2.2.1, ()), x.1.2.1.2.2.2.1, ()), (x.2.1.2.1.1, x.2.1.2.1.2.1, (x.2.1.2.1.2.2.1.1, x.2.1.2.1.2.2.1.2.1, x.2.1.2.1.2.2.1.2.2.1, x.2.1.2.1.2.2.1.2.2.2.1, x.2.1.2.1.2.2.1.2.2.2.2.1, ()), x.2.1.2.1.2.2.2.1, ()), ()) with
 | none => none
 | some v1 =>
 some (v1.1, ())
| false =>
 some (false, ())
noncomputable def S_i_SameVerdict : Spec := ⟨(.pair TVerdict (.pair TVerdict .unit)), (.pair .bool .unit), .unit, rfl, i_SameVerdict⟩
noncomputable def σ_i_SameVerdict : FuncId → Option Spec := sig [(108, S_i_sameFrame)]
theorem σok_i_SameVerdict : ∀ f s, σ_i_SameVerdict f = some s → FnOK Try.prog f s := sig_ok (l := [(108, S_i_sameFrame)]) ⟨ok_i_sameFrame, trivial⟩
noncomputable def Λ_i_SameVerdict : Nat → Option LSpec := lkp (loopList (bodyOf Try.f100)) []
theorem ok_i_SameVerdict : FnOK Try.prog 100 S_i_SameVerdict := fn_ok (Λ := Λ_i_SameVerdict) tab0 σok_i_SameVerdict Try.func100 (by kernel_rfl) (show Try.f100.body = some (bodyOf Try.f100) by kernel_rfl) [] rfl (by kernel_rfl) (by exact trivial) (by kernel_rfl)
  fun x y h => (show execFn Γ0 E0 σ_i_SameVerdict Λ_i_SameVerdict Try.f100 S_i_SameVerdict x = i_SameVerdict x by kernel_rfl).trans h

noncomputable def i_IsAgreement_1 (x : Ty.T (.pair TVerdict (.pair (.ptr (.list TVerdict)) .unit))) : Option (Ty.T (.pair .bool .unit)) :=
onSome (idx x.2.1 (0 : Int)) fun v1 =>
match i_SameVerdict ((x.1.1, (x.1.2.1.1, x.1.2.1.2.1, (x.1.2.1.2.2.1.1, x.1.2.1.2.2.1.2.1, x.1.2.1.2.2.1.2.2.1, x.1.2.1.2.2.1.2.2.2.1, x.1.2.1.2.2.1.2.2.2.2.1, ()), x.1.2.1.2.2.2.1, ()), ()), v1, ()) with
| none => none
| some v2 =>
some ((!v2.1), ())
noncomputable def S_i_IsAgreement_1 : Spec := ⟨(.pair TVerdict (.pair (.ptr (.list TVerdict)) .unit)), (.pair .bool .unit), .unit, rfl, i_IsAgreement_1⟩
noncomputable def σ_i_IsAgreement_1 : FuncId → Option Spec := sig [(100, S_i_SameVerdict)]
theorem σok_i_IsAgreement_1 : ∀ f s, σ_i_IsAgreement_1 f = some s → FnOK Try.prog f s := sig_ok (l := [(100, S_i_SameVerdict)]) ⟨ok_i_SameVerdict, trivial⟩
noncomputable def Λ_i_IsAgreement_1 : Nat → Option LSpec := lkp (loopList (bodyOf Try.f99)) []
theorem ok_i_IsAgreement_1 : FnOK Try.prog 99 S_i_IsAgreement_1 := fn_ok (Λ := Λ_i_IsAgreement_1) tab0 σok_i_IsAgreement_1 Try.func99 (by kernel_rfl) (show Try.f99.body = some (bodyOf Try.f99) by kernel_rfl) [] rfl (by kernel_rfl) (by exact trivial) (by kernel_rfl)
  fun x y h => (show execFn Γ0 E0 σ_i_IsAgreement_1 Λ_i_IsAgreement_1 Try.f99 S_i_IsAgreement_1 x = i_IsAgreement_1 x by kernel_rfl).trans h

noncomputable def i_IsAgreement (x : Ty.T (.pair (.list TVerdict) .unit)) : Option (Ty.T (.pair .bool .unit)) :=
match (decide ((x.1.length : Int) < (1 : Int))) with
| true =>
 some (false, ())
| false =>
 match (decide ((x.1.length : Int) > (32 : Int))) with
 | true =>
  some (false, ())
 | false =>
  match i_areVerdicts (x.1, ()) with
  | none => none
  | some v1 =>
  match (!v1.1) with
  | true =>
   some (false, ())
  | false =>
   match slices_ContainsFunc_Verdict (x.1, (fun z => i_IsAgreement_1 (z.1, x.1, ())), ()) with
   | none => none
   | some v2 =>
   some ((!v2.1), ())
noncomputable def S_i_IsAgreement : Spec := ⟨(.pair (.list TVerdict) .unit), (.pair .bool .unit), .unit, rfl, i_IsAgreement⟩
noncomputable def σ_i_IsAgreement : FuncId → Option Spec := sig [(97, S_i_areVerdicts), (98, S_slices_ContainsFunc_Verdict), (99, S_i_IsAgreement_1)]
theorem σok_i_IsAgreement : ∀ f s, σ_i_IsAgreement f = some s → FnOK Try.prog f s := sig_ok (l := [(97, S_i_areVerdicts), (98, S_slices_ContainsFunc_Verdict), (99, S_i_IsAgreement_1)]) ⟨ok_i_areVerdicts, ok_slices_ContainsFunc_Verdict, ok_i_IsAgreement_1, trivial⟩
noncomputable def Λ_i_IsAgreement : Nat → Option LSpec := lkp (loopList (bodyOf Try.f53)) []
theorem ok_i_IsAgreement : FnOK Try.prog 53 S_i_IsAgreement := fn_ok (Λ := Λ_i_IsAgreement) tab0 σok_i_IsAgreement Try.func53 (by kernel_rfl) (show Try.f53.body = some (bodyOf Try.f53) by kernel_rfl) [] rfl (by kernel_rfl) (by exact trivial) (by kernel_rfl)
  fun x y h => (show execFn Γ0 E0 σ_i_IsAgreement Λ_i_IsAgreement Try.f53 S_i_IsAgreement x = i_IsAgreement x by kernel_rfl).trans h

noncomputable def l_eqState (x : Ty.T (.pair TState (.pair TState .unit))) : Option (Ty.T (.pair .bool .unit)) :=
match (x.1.1 != x.2.1.1) with
| true =>
 some (false, ())
| false =>
 match (x.1.2.1 != x.2.1.2.1) with
 | true =>
  some (false, ())
 | false =>
  match (x.1.2.2.1 != x.2.1.2.2.1) with
  | true =>
   some (false, ())
  | false =>
   match (x.1.2.2.2.1 != x.2.1.2.2.2.1) with
   | true =>
    some (false, ())
   | false =>
    match (x.1.2.2.2.2.1 != x.2.1.2.2.2.2.1) with
    | true =>
     some (false, ())
    | false =>
     some (true, ())
noncomputable def S_l_eqState : Spec := ⟨(.pair TState (.pair TState .unit)), (.pair .bool .unit), .unit, rfl, l_eqState⟩
noncomputable def σ_l_eqState : FuncId → Option Spec := sig []
theorem σok_l_eqState : ∀ f s, σ_l_eqState f = some s → FnOK Try.prog f s := sig_ok (l := []) trivial
noncomputable def Λ_l_eqState : Nat → Option LSpec := lkp (loopList (bodyOf Try.f138)) []
theorem ok_l_eqState : FnOK Try.prog 138 S_l_eqState := fn_ok (Λ := Λ_l_eqState) tab0 σok_l_eqState Try.func138 (by kernel_rfl) (show Try.f138.body = some (bodyOf Try.f138) by kernel_rfl) [] rfl (by kernel_rfl) (by exact trivial) (by kernel_rfl)
  fun x y h => (show execFn Γ0 E0 σ_l_eqState Λ_l_eqState Try.f138 S_l_eqState x = l_eqState x by kernel_rfl).trans h

noncomputable def l_eqFrame (x : Ty.T (.pair TFrame (.pair TFrame .unit))) : Option (Ty.T (.pair .bool .unit)) :=
match (x.1.1 != x.2.1.1) with
| true =>
 some (false, ())
| false =>
 match (x.1.2.1 != x.2.1.2.1) with
 | true =>
  some (false, ())
 | false =>
  match l_eqState ((x.1.2.2.1.1, x.1.2.2.1.2.1, x.1.2.2.1.2.2.1, x.1.2.2.1.2.2.2.1, x.1.2.2.1.2.2.2.2.1, ()), (x.2.1.2.2.1.1, x.2.1.2.2.1.2.1, x.2.1.2.2.1.2.2.1, x.2.1.2.2.1.2.2.2.1, x.2.1.2.2.1.2.2.2.2.1, ()), ()) with
  | none => none
  | some v1 =>
  match (!v1.1) with
  | true =>
   some (false, ())
  | false =>
   match l_eqInt64S (x.1.2.2.2.1, x.2.1.2.2.2.1, ()) with
   | none => none
   | some v2 =>
   match (!v2.1) with
   | true =>
    some (false, ())
   | false =>
    some (true, ())
noncomputable def S_l_eqFrame : Spec := ⟨(.pair TFrame (.pair TFrame .unit)), (.pair .bool .unit), .unit, rfl, l_eqFrame⟩
noncomputable def σ_l_eqFrame : FuncId → Option Spec := sig [(24, S_l_eqInt64S), (138, S_l_eqState)]
theorem σok_l_eqFrame : ∀ f s, σ_l_eqFrame f = some s → FnOK Try.prog f s := sig_ok (l := [(24, S_l_eqInt64S), (138, S_l_eqState)]) ⟨ok_l_eqInt64S, ok_l_eqState, trivial⟩
noncomputable def Λ_l_eqFrame : Nat → Option LSpec := lkp (loopList (bodyOf Try.f111)) []
theorem ok_l_eqFrame : FnOK Try.prog 111 S_l_eqFrame := fn_ok (Λ := Λ_l_eqFrame) tab0 σok_l_eqFrame Try.func111 (by kernel_rfl) (show Try.f111.body = some (bodyOf Try.f111) by kernel_rfl) [] rfl (by kernel_rfl) (by exact trivial) (by kernel_rfl)
  fun x y h => (show execFn Γ0 E0 σ_l_eqFrame Λ_l_eqFrame Try.f111 S_l_eqFrame x = l_eqFrame x by kernel_rfl).trans h

noncomputable def l_eqVerdict (x : Ty.T (.pair TVerdict (.pair TVerdict .unit))) : Option (Ty.T (.pair .bool .unit)) :=
match (x.1.1 != x.2.1.1) with
| true =>
 some (false, ())
| false =>
 match l_eqFrame ((x.1.2.1.1, x.1.2.1.2.1, (x.1.2.1.2.2.1.1, x.1.2.1.2.2.1.2.1, x.1.2.1.2.2.1.2.2.1, x.1.2.1.2.2.1.2.2.2.1, x.1.2.1.2.2.1.2.2.2.2.1, ()), x.1.2.1.2.2.2.1, ()), (x.2.1.2.1.1, x.2.1.2.1.2.1, (x.2.1.2.1.2.2.1.1, x.2.1.2.1.2.2.1.2.1, x.2.1.2.1.2.2.1.2.2.1, x.2.1.2.1.2.2.1.2.2.2.1, x.2.1.2.1.2.2.1.2.2.2.2.1, ()), x.2.1.2.1.2.2.2.1, ()), ()) with
 | none => none
 | some v1 =>
 match (!v1.1) with
 | true =>
  some (false, ())
 | false =>
  some (true, ())
noncomputable def S_l_eqVerdict : Spec := ⟨(.pair TVerdict (.pair TVerdict .unit)), (.pair .bool .unit), .unit, rfl, l_eqVerdict⟩
noncomputable def σ_l_eqVerdict : FuncId → Option Spec := sig [(111, S_l_eqFrame)]
theorem σok_l_eqVerdict : ∀ f s, σ_l_eqVerdict f = some s → FnOK Try.prog f s := sig_ok (l := [(111, S_l_eqFrame)]) ⟨ok_l_eqFrame, trivial⟩
noncomputable def Λ_l_eqVerdict : Nat → Option LSpec := lkp (loopList (bodyOf Try.f64)) []
theorem ok_l_eqVerdict : FnOK Try.prog 64 S_l_eqVerdict := fn_ok (Λ := Λ_l_eqVerdict) tab0 σok_l_eqVerdict Try.func64 (by kernel_rfl) (show Try.f64.body = some (bodyOf Try.f64) by kernel_rfl) [] rfl (by kernel_rfl) (by exact trivial) (by kernel_rfl)
  fun x y h => (show execFn Γ0 E0 σ_l_eqVerdict Λ_l_eqVerdict Try.f64 S_l_eqVerdict x = l_eqVerdict x by kernel_rfl).trans h

noncomputable def b_l_eqVerdictS_4 (x : (Ty.T (.pair (.list TVerdict) (.pair (.list TVerdict) (.pair (.int .i64) .unit))))) : Option ((Ty.T (.pair (.list TVerdict) (.pair (.list TVerdict) (.pair (.int .i64) .unit)))) ⊕ ((Ty.T .unit) ⊕ (Ty.T (.pair .bool .unit)))) :=
match (decide (x.2.2.1 < (x.1.length : Int))) with
| true =>
 onSome (idx x.1 x.2.2.1) fun v1 =>
 onSome (idx x.2.1 x.2.2.1) fun v2 =>
 match l_eqVerdict (v1, v2, ()) with
 | none => none
 | some v3 =>
 match (!v3.1) with
 | true =>
  some (.inr (.inr (false, ())))
 | false =>
  some (.inl (x.1, x.2.1, (IntKind.i64.wrap (x.2.2.1 + (1 : Int))), ()))
| false =>
 some (.inr (.inl (())))
noncomputable def l_eqVerdictS (x : Ty.T (.pair (.list TVerdict) (.pair (.list TVerdict) .unit))) : Option (Ty.T (.pair .bool .unit)) :=
match ((x.1.length : Int) != (x.2.1.length : Int)) with
| true =>
 some (false, ())
| false =>
 match loopL b_l_eqVerdictS_4 (x.1, x.2.1, (0 : Int), ()) with
 | none => none
 | some (.inl v4) =>
  some (true, ())
 | some (.inr v5) =>
  some (v5.1, ())
noncomputable def S_l_eqVerdictS : Spec := ⟨(.pair (.list TVerdict) (.pair (.list TVerdict) .unit)), (.pair .bool .unit), .unit, rfl, l_eqVerdictS⟩
noncomputable def σ_l_eqVerdictS : FuncId → Option Spec := sig [(64, S_l_eqVerdict)]
theorem σok_l_eqVerdictS : ∀ f s, σ_l_eqVerdictS f = some s → FnOK Try.prog f s := sig_ok (l := [(64, S_l_eqVerdict)]) ⟨ok_l_eqVerdict, trivial⟩
noncomputable def Λ_l_eqVerdictS : Nat → Option LSpec := lkp (loopList (bodyOf Try.f54)) [⟨[0, 1, 5], (.pair (.list TVerdict) (.pair (.list TVerdict) (.pair (.int .i64) .unit))), 0, [], .unit, [4], (.pair .bool .unit), loopL b_l_eqVerdictS_4⟩]
theorem lok_l_eqVerdictS_4 (x) : codeK Γ0 E0 σ_l_eqVerdictS Λ_l_eqVerdictS Try.f54.ntmps (nthLoop Try.f54 0) (mkF Try.f54.ntmps [0, 1, 5] (.pair (.list TVerdict) (.pair (.list TVerdict) (.pair (.int .i64) .unit))) x) (readK σ_l_eqVerdictS Try.f54.ntmps [0, 1, 5] (.pair (.list TVerdict) (.pair (.list TVerdict) (.pair (.int .i64) .unit))) 0 [] .unit [4] (.pair .bool .unit)) = b_l_eqVerdictS_4 x := by kernel_rfl
theorem ok_l_eqVerdictS : FnOK Try.prog 54 S_l_eqVerdictS := fn_ok (Λ := Λ_l_eqVerdictS) tab0 σok_l_eqVerdictS Try.func54 (by kernel_rfl) (show Try.f54.body = some (bodyOf Try.f54) by kernel_rfl) [⟨[0, 1, 5], (.pair (.list TVerdict) (.pair (.list TVerdict) (.pair (.int .i64) .unit))), 0, [], .unit, [4], (.pair .bool .unit), loopL b_l_eqVerdictS_4⟩] rfl (by kernel_rfl) (by exact ⟨loop_LOK lok_l_eqVerdictS_4, trivial⟩) (by kernel_rfl)
  fun x y h => (show execFn Γ0 E0 σ_l_eqVerdictS Λ_l_eqVerdictS Try.f54 S_l_eqVerdictS x = l_eqVerdictS x by kernel_rfl).trans h

noncomputable def l_FnExactIsAgreement (x : Ty.T (.pair (.list TVerdict) .unit)) : Option (Ty.T (.pair .bool .unit)) :=
match l_szVerdictS (x.1, (1048576 : Int), ()) with
| none => none
| some v1 =>
match (decide (v1.1 < (0 : Int))) with
| true =>
 some (true, ())
| false =>
 match l_toVerdictS (x.1, ()) with
 | none => none
 | some v2 =>
 match s_IsAgreement (v2.1, ()) with
 | none => none
 | some v3 =>
 match l_toVerdictS (x.1, ()) with
 | none => none
 | some v4 =>
 match i_IsAgreement (v4.1, ()) with
 | none => none
 | some v5 =>
 match (v5.1 != v3.1) with
 | true =>
  some (false, ())
 | false =>
  match l_toVerdictS (x.1, ()) with
  | none => none
  | some v6 =>
  match l_eqVerdictS (v4.1, v6.1, ()) with
  | none => none
  | some v7 =>
  match (!v7.1) with
  | true =>
   some (false, ())
  | false =>
   some (true, ())
noncomputable def S_l_FnExactIsAgreement : Spec := ⟨(.pair (.list TVerdict) .unit), (.pair .bool .unit), .unit, rfl, l_FnExactIsAgreement⟩
noncomputable def σ_l_FnExactIsAgreement : FuncId → Option Spec := sig [(50, S_l_szVerdictS), (51, S_s_IsAgreement), (52, S_l_toVerdictS), (53, S_i_IsAgreement), (54, S_l_eqVerdictS)]
theorem σok_l_FnExactIsAgreement : ∀ f s, σ_l_FnExactIsAgreement f = some s → FnOK Try.prog f s := sig_ok (l := [(50, S_l_szVerdictS), (51, S_s_IsAgreement), (52, S_l_toVerdictS), (53, S_i_IsAgreement), (54, S_l_eqVerdictS)]) ⟨ok_l_szVerdictS, ok_s_IsAgreement, ok_l_toVerdictS, ok_i_IsAgreement, ok_l_eqVerdictS, trivial⟩
noncomputable def Λ_l_FnExactIsAgreement : Nat → Option LSpec := lkp (loopList (bodyOf Try.f11)) []
theorem ok_l_FnExactIsAgreement : FnOK Try.prog 11 S_l_FnExactIsAgreement := fn_ok (Λ := Λ_l_FnExactIsAgreement) tab0 σok_l_FnExactIsAgreement Try.func11 (by kernel_rfl) (show Try.f11.body = some (bodyOf Try.f11) by kernel_rfl) [] rfl (by kernel_rfl) (by exact trivial) (by kernel_rfl)
  fun x y h => (show execFn Γ0 E0 σ_l_FnExactIsAgreement Λ_l_FnExactIsAgreement Try.f11 S_l_FnExactIsAgreement x = l_FnExactIsAgreement x by kernel_rfl).trans h

noncomputable def s_l06State (x : Ty.T (.pair (.int .i64) .unit)) : Option (Ty.T (.pair .bool .unit)) :=
some ((x.1 != (0 : Int)), ())
noncomputable def S_s_l06State : Spec := ⟨(.pair (.int .i64) .unit), (.pair .bool .unit), .unit, rfl, s_l06State⟩
noncomputable def σ_s_l06State : FuncId → Option Spec := sig []
theorem σok_s_l06State : ∀ f s, σ_s_l06State f = some s → FnOK Try.prog f s := sig_ok (l := []) trivial
noncomputable def Λ_s_l06State : Nat → Option LSpec := lkp (loopList (bodyOf Try.f154)) []
theorem ok_s_l06State : FnOK Try.prog 154 S_s_l06State := fn_ok (Λ := Λ_s_l06State) tab0 σok_s_l06State Try.func154 (by kernel_rfl) (show Try.f154.body = some (bodyOf Try.f154) by kernel_rfl) [] rfl (by kernel_rfl) (by exact trivial) (by kernel_rfl)
  fun x y h => (show execFn Γ0 E0 σ_s_l06State Λ_s_l06State Try.f154 S_s_l06State x = s_l06State x by kernel_rfl).trans h

noncomputable def s_l06Data (x : Ty.T (.pair (.int .i64) .unit)) : Option (Ty.T (.pair .bool .unit)) :=
match (x.1 == (0 : Int)) with
| true =>
 some (true, ())
| false =>
 some ((x.1 == (2 : Int)), ())
noncomputable def S_s_l06Data : Spec := ⟨(.pair (.int .i64) .unit), (.pair .bool .unit), .unit, rfl, s_l06Data⟩
noncomputable def σ_s_l06Data : FuncId → Option Spec := sig []
theorem σok_s_l06Data : ∀ f s, σ_s_l06Data f = some s → FnOK Try.prog f s := sig_ok (l := []) trivial
noncomputable def Λ_s_l06Data : Nat → Option LSpec := lkp (loopList (bodyOf Try.f155)) []
theorem ok_s_l06Data : FnOK Try.prog 155 S_s_l06Data := fn_ok (Λ := Λ_s_l06Data) tab0 σok_s_l06Data Try.func155 (by kernel_rfl) (show Try.f155.body = some (bodyOf Try.f155) by kernel_rfl) [] rfl (by kernel_rfl) (by exact trivial) (by kernel_rfl)
  fun x y h => (show execFn Γ0 E0 σ_s_l06Data Λ_s_l06Data Try.f155 S_s_l06Data x = s_l06Data x by kernel_rfl).trans h

noncomputable def b_s_l06Draw_7 (x : (Ty.T (.pair (.box Tl01Source) (.pair (.box TFrame) (.pair (.box TFrame) (.pair (.own 2 (.int .i64)) (.pair (.int .i64) .unit))))))) : Option ((Ty.T (.pair (.box Tl01Source) (.pair (.box TFrame) (.pair (.box TFrame) (.pair (.own 2 (.int .i64)) (.pair (.int .i64) .unit)))))) ⊕ ((Ty.T (.pair (.box Tl01Source) (.pair (.box TFrame) (.pair (.box TFrame) (.pair (.own 2 (.int .i64)) .unit))))) ⊕ (Ty.T .unit))) :=
match (decide (x.2.2.2.2.1 > (0 : Int))) with
| true =>
 match s_l01Next ((x.1.1, x.1.2.1, x.1.2.2.1, ()), (256 : Int), ()) with
 | none => none
 | some v7 =>
 room (x.2.2.2.1.length + [v7.1].length) (
  some (.inl ((v7.2.1.1, v7.2.1.2.1, v7.2.1.2.2.1, ()), (x.2.1.1, x.2.1.2.1, (x.2.1.2.2.1.1, x.2.1.2.2.1.2.1, x.2.1.2.2.1.2.2.1, x.2.1.2.2.1.2.2.2.1, x.2.1.2.2.1.2.2.2.2.1, ()), x.2.1.2.2.2.1, ()), (x.2.2.1.1, x.2.2.1.2.1, (x.2.2.1.2.2.1.1, x.2.2.1.2.2.1.2.1, x.2.2.1.2.2.1.2.2.1, x.2.2.1.2.2.1.2.2.2.1, x.2.2.1.2.2.1.2.2.2.2.1, ()), x.2.2.1.2.2.2.1, ()), (x.2.2.2.1 ++ [v7.1]), (IntKind.i64.wrap (x.2.2.2.2.1 - (1 : Int))), ())))
| false =>
 some (.inr (.inl ((x.1.1, x.1.2.1, x.1.2.2.1, ()), (x.2.1.1, x.2.1.2.1, (x.2.1.2.2.1.1, x.2.1.2.2.1.2.1, x.2.1.2.2.1.2.2.1, x.2.1.2.2.1.2.2.2.1, x.2.1.2.2.1.2.2.2.2.1, ()), x.2.1.2.2.2.1, ()), (x.2.2.1.1, x.2.2.1.2.1, (x.2.2.1.2.2.1.1, x.2.2.1.2.2.1.2.1, x.2.2.1.2.2.1.2.2.1, x.2.2.1.2.2.1.2.2.2.1, x.2.2.1.2.2.1.2.2.2.2.1, ()), x.2.2.1.2.2.2.1, ()), x.2.2.2.1, ())))
noncomputable def s_l06Draw (x : Ty.T (.pair (.box Tl01Source) .unit)) : Option (Ty.T (.pair TFrame (.pair (.box Tl01Source) .unit))) :=
match s_l01Next ((x.1.1, x.1.2.1, x.1.2.2.1, ()), (4 : Int), ()) with
| none => none
| some v1 =>
match s_l01Next ((v1.2.1.1, v1.2.1.2.1, v1.2.1.2.2.1, ()), (8 : Int), ()) with
| none => none
| some v2 =>
match s_l06State (v1.1, ()) with
| none => none
| some v3 =>
match v3.1 with
| true =>
 match s_l04Draw ((v2.2.1.1, v2.2.1.2.1, v2.2.1.2.2.1, ()), ()) with
 | none => none
 | some v4 =>
 match s_l06Data (v1.1, ()) with
 | none => none
 | some v5 =>
 match v5.1 with
 | true =>
  match s_l01Next ((v4.2.1.1, v4.2.1.2.1, v4.2.1.2.2.1, ()), (6 : Int), ()) with
  | none => none
  | some v6 =>
  match loopL b_s_l06Draw_7 ((v6.2.1.1, v6.2.1.2.1, v6.2.1.2.2.1, ()), ((0 : Int), (0 : Int), ((0 : Int), (0 : Int), (0 : Int), (0 : Int), (0 : Int), ()), [], ()), (v1.1, v2.1, (v4.1.1, v4.1.2.1, v4.1.2.2.1, v4.1.2.2.2.1, v4.1.2.2.2.2.1, ()), [], ()), [], (IntKind.i64.wrap ((1 : Int) + v6.1)), ()) with
  | none => none
  | some (.inl v8) =>
   match (v8.2.2.1.1 == (3 : Int)) with
   | true =>
    match s_l01Next ((v8.1.1, v8.1.2.1, v8.1.2.2.1, ()), (10 : Int), ()) with
    | none => none
    | some v10 =>
    if (IntKind.u64.wrap v10.1) < 0 then none else
    some ((v8.2.2.1.1, (0 : Int), (v8.2.2.1.2.2.1.1, (0 : Int), v8.2.2.1.2.2.1.2.2.1, v8.2.2.1.2.2.1.2.2.2.1, (IntKind.i64.wrap ((1 : Int) * 2 ^ min (IntKind.u64.wrap v10.1).toNat IntKind.i64.bits)), ()), v8.2.2.2.1, ()), (v10.2.1.1, v10.2.1.2.1, v10.2.1.2.2.1, ()), ())
   | false =>
    some ((v8.2.2.1.1, v8.2.2.1.2.1, (v8.2.2.1.2.2.1.1, v8.2.2.1.2.2.1.2.1, v8.2.2.1.2.2.1.2.2.1, v8.2.2.1.2.2.1.2.2.2.1, v8.2.2.1.2.2.1.2.2.2.2.1, ()), v8.2.2.2.1, ()), (v8.1.1, v8.1.2.1, v8.1.2.2.1, ()), ())
  | some (.inr v11) =>
   none
 | false =>
  match (v1.1 == (3 : Int)) with
  | true =>
   match s_l01Next ((v4.2.1.1, v4.2.1.2.1, v4.2.1.2.2.1, ()), (10 : Int), ()) with
   | none => none
   | some v12 =>
   if (IntKind.u64.wrap v12.1) < 0 then none else
   some ((v1.1, (0 : Int), (v4.1.1, (0 : Int), v4.1.2.2.1, v4.1.2.2.2.1, (IntKind.i64.wrap ((1 : Int) * 2 ^ min (IntKind.u64.wrap v12.1).toNat IntKind.i64.bits)), ()), [], ()), (v12.2.1.1, v12.2.1.2.1, v12.2.1.2.2.1, ()), ())
  | false =>
   some ((v1.1, v2.1, (v4.1.1, v4.1.2.1, v4.1.2.2.1, v4.1.2.2.2.1, v4.1.2.2.2.2.1, ()), [], ()), (v4.2.1.1, v4.2.1.2.1, v4.2.1.2.2.1, ()), ())
| false =>
 match s_l06Data (v1.1, ()) with
 | none => none
 | some v13 =>
 match v13.1 with
 | true =>
  match s_l01Next ((v2.2.1.1, v2.2.1.2.1, v2.2.1.2.2.1, ()), (6 : Int), ()) with
  | none => none
  | some v14 =>
  match loopL b_s_l06Draw_7 ((v14.2.1.1, v14.2.1.2.1, v14.2.1.2.2.1, ()), ((0 : Int), (0 : Int), ((0 : Int), (0 : Int), (0 : Int), (0 : Int), (0 : Int), ()), [], ()), (v1.1, v2.1, ((0 : Int), (0 : Int), (0 : Int), (0 : Int), (0 : Int), ()), [], ()), [], (IntKind.i64.wrap ((1 : Int) + v14.1)), ()) with
  | none => none
  | some (.inl v15) =>
   match (v15.2.2.1.1 == (3 : Int)) with
   | true =>
    match s_l01Next ((v15.1.1, v15.1.2.1, v15.1.2.2.1, ()), (10 : Int), ()) with
    | none => none
    | some v17 =>
    if (IntKind.u64.wrap v17.1) < 0 then none else
    some ((v15.2.2.1.1, (0 : Int), (v15.2.2.1.2.2.1.1, (0 : Int), v15.2.2.1.2.2.1.2.2.1, v15.2.2.1.2.2.1.2.2.2.1, (IntKind.i64.wrap ((1 : Int) * 2 ^ min (IntKind.u64.wrap v17.1).toNat IntKind.i64.bits)), ()), v15.2.2.2.1, ()), (v17.2.1.1, v17.2.1.2.1, v17.2.1.2.2.1, ()), ())
   | false =>
    some ((v15.2.2.1.1, v15.2.2.1.2.1, (v15.2.2.1.2.2.1.1, v15.2.2.1.2.2.1.2.1, v15.2.2.1.2.2.1.2.2.1, v15.2.2.1.2.2.1.2.2.2.1, v15.2.2.1.2.2.1.2.2.2.2.1, ()), v15.2.2.2.1, ()), (v15.1.1, v15.1.2.1, v15.1.2.2.1, ()), ())
  | some (.inr v18) =>
   none
 | false =>
  match (v1.1 == (3 : Int)) with
  | true =>
   match s_l01Next ((v2.2.1.1, v2.2.1.2.1, v2.2.1.2.2.1, ()), (10 : Int), ()) with
   | none => none
   | some v19 =>
   if (IntKind.u64.wrap v19.1) < 0 then none else
   some ((v1.1, (0 : Int), ((0 : Int), (0 : Int), (0 : Int), (0 : Int), (IntKind.i64.wrap ((1 : Int) * 2 ^ min (IntKind.u64.wrap v19.1).toNat IntKind.i64.bits)), ()), [], ()), (v19.2.1.1, v19.2.1.2.1, v19.2.1.2.2.1, ()), ())
  | false =>
   some ((v1.1, v2.1, ((0 : Int), (0 : Int), (0 : Int), (0 : Int), (0 : Int), ()), [], ()), (v2.2.1.1, v2.2.1.2.1, v2.2.1.2.2.1, ()), ())
noncomputable def S_s_l06Draw : Spec := ⟨(.pair (.box Tl01Source) .unit), (.pair TFrame .unit), (.pair (.box Tl01Source) .unit), rfl, s_l06Draw⟩
noncomputable def σ_s_l06Draw : FuncId → Option Spec := sig [(80, S_s_l01Next), (139, S_s_l04Draw), (154, S_s_l06State), (155, S_s_l06Data)]
theorem σok_s_l06Draw : ∀ f s, σ_s_l06Draw f = some s → FnOK Try.prog f s := sig_ok (l := [(80, S_s_l01Next), (139, S_s_l04Draw), (154, S_s_l06State), (155, S_s_l06Data)]) ⟨ok_s_l01Next, ok_s_l04Draw, ok_s_l06State, ok_s_l06Data, trivial⟩
noncomputable def Λ_s_l06Draw : Nat → Option LSpec := lkp (loopList (bodyOf Try.f147)) [⟨[0, 2, 3, 4, 5], (.pair (.box Tl01Source) (.pair (.box TFrame) (.pair (.box TFrame) (.pair (.own 2 (.int .i64)) (.pair (.int .i64) .unit))))), 0, [0, 2, 3, 4], (.pair (.box Tl01Source) (.pair (.box TFrame) (.pair (.box TFrame) (.pair (.own 2 (.int .i64)) .unit)))), [], .unit, loopL b_s_l06Draw_7⟩]
theorem lok_s_l06Draw_7 (x) : codeK Γ0 E0 σ_s_l06Draw Λ_s_l06Draw Try.f147.ntmps (nthLoop Try.f147 0) (mkF Try.f147.ntmps [0, 2, 3, 4, 5] (.pair (.box Tl01Source) (.pair (.box TFrame) (.pair (.box TFrame) (.pair (.own 2 (.int .i64)) (.pair (.int .i64) .unit))))) x) (readK σ_s_l06Draw Try.f147.ntmps [0, 2, 3, 4, 5] (.pair (.box Tl01Source) (.pair (.box TFrame) (.pair (.box TFrame) (.pair (.own 2 (.int .i64)) (.pair (.int .i64) .unit))))) 0 [0, 2, 3, 4] (.pair (.box Tl01Source) (.pair (.box TFrame) (.pair (.box TFrame) (.pair (.own 2 (.int .i64)) .unit)))) [] .unit) = b_s_l06Draw_7 x := by kernel_rfl
theorem ok_s_l06Draw : FnOK Try.prog 147 S_s_l06Draw := fn_ok (Λ := Λ_s_l06Draw) tab0 σok_s_l06Draw Try.func147 (by kernel_rfl) (show Try.f147.body = some (bodyOf Try.f147) by kernel_rfl) [⟨[0, 2, 3, 4, 5], (.pair (.box Tl01Source) (.pair (.box TFrame) (.pair (.box TFrame) (.pair (.own 2 (.int .i64)) (.pair (.int .i64) .unit))))), 0, [0, 2, 3, 4], (.pair (.box Tl01Source) (.pair (.box TFrame) (.pair (.box TFrame) (.pair (.own 2 (.int .i64)) .unit)))), [], .unit, loopL b_s_l06Draw_7⟩] rfl (by kernel_rfl) (by exact ⟨loop_LOK lok_s_l06Draw_7, trivial⟩) (by kernel_rfl)
  fun x y h => (show execFn Γ0 E0 σ_s_l06Draw Λ_s_l06Draw Try.f147 S_s_l06Draw x = s_l06Draw x by kernel_rfl).trans h

noncomputable def b_s_l01DrawBytes_3 (x : (Ty.T (.pair (.box Tl01Source) (.pair (.own 2 (.int .i64)) (.pair (.int .i64) .unit))))) : Option ((Ty.T (.pair (.box Tl01Source) (.pair (.own 2 (.int .i64)) (.pair (.int .i64) .unit)))) ⊕ ((Ty.T (.pair (.box Tl01Source) (.pair (.own 2 (.int .i64)) .unit))) ⊕ (Ty.T .unit))) :=
match (decide (x.2.2.1 > (0 : Int))) with
| true =>
 match s_l01Next ((x.1.1, x.1.2.1, x.1.2.2.1, ()), (256 : Int), ()) with
 | none => none
 | some v2 =>
 room (x.2.1.length + [v2.1].length) (
  some (.inl ((v2.2.1.1, v2.2.1.2.1, v2.2.1.2.2.1, ()), (x.2.1 ++ [v2.1]), (IntKind.i64.wrap (x.2.2.1 - (1 : Int))), ())))
| false =>
 some (.inr (.inl ((x.1.1, x.1.2.1, x.1.2.2.1, ()), x.2.1, ())))
noncomputable def s_l01DrawBytes (x : Ty.T (.pair (.box Tl01Source) (.pair (.int .i64) .unit))) : Option (Ty.T (.pair (.own 2 (.int .i64)) (.pair (.box Tl01Source) .unit))) :=
match s_l01Next ((x.1.1, x.1.2.1, x.1.2.2.1, ()), (IntKind.i64.wrap (x.2.1 + (1 : Int))), ()) with
| none => none
| some v1 =>
match loopL b_s_l01DrawBytes_3 ((v1.2.1.1, v1.2.1.2.1, v1.2.1.2.2.1, ()), [], v1.1, ()) with
| none => none
| some (.inl v3) =>
 match s_l01Next ((v3.1.1, v3.1.2.1, v3.1.2.2.1, ()), (40 : Int), ()) with
 | none => none
 | some v5 =>
 match (v5.1 == (0 : Int)) with
 | true =>
  match s_l01Next ((v5.2.1.1, v5.2.1.2.1, v5.2.1.2.2.1, ()), (2 : Int), ()) with
  | none => none
  | some v6 =>
  onSome (idx [(256 : Int), (-1 : Int)] v6.1) fun _ =>
  match [(256 : Int), (-1 : Int)][v6.1.toNat]? with
  | none => none
  | some v8 =>
  room (v3.2.1.length + [v8].length) (
   some ((v3.2.1 ++ [v8]), (v6.2.1.1, v6.2.1.2.1, v6.2.1.2.2.1, ()), ()))
 | false =>
  match (v5.1 == (1 : Int)) with
  | true =>
   match s_l01Next ((v5.2.1.1, v5.2.1.2.1, v5.2.1.2.2.1, ()), (2 : Int), ()) with
   | none => none
   | some v9 =>
   if 0 ≤ (IntKind.i64.wrap ((1024 : Int) + v9.1)) ∧ (IntKind.i64.wrap ((1024 : Int) + v9.1)) ≤ (IntKind.i64.wrap ((1024 : Int) + v9.1)) then
    room ((IntKind.i64.wrap ((1024 : Int) + v9.1)).toNat) (
     some ((List.replicate (IntKind.i64.wrap ((1024 : Int) + v9.1)).toNat (0 : Int)), (v9.2.1.1, v9.2.1.2.1, v9.2.1.2.2.1, ()), ()))
   else none
  | false =>
   some (v3.2.1, (v5.2.1.1, v5.2.1.2.1, v5.2.1.2.2.1, ()), ())
| some (.inr v10) =>
 none
noncomputable def S_s_l01DrawBytes : Spec := ⟨(.pair (.box Tl01Source) (.pair (.int .i64) .unit)), (.pair (.own 2 (.int .i64)) .unit), (.pair (.box Tl01Source) .unit), rfl, s_l01DrawBytes⟩
noncomputable def σ_s_l01DrawBytes : FuncId → Option Spec := sig [(80, S_s_l01Next)]
theorem σok_s_l01DrawBytes : ∀ f s, σ_s_l01DrawBytes f = some s → FnOK Try.prog f s := sig_ok (l := [(80, S_s_l01Next)]) ⟨ok_s_l01Next, trivial⟩
noncomputable def Λ_s_l01DrawBytes : Nat → Option LSpec := lkp (loopList (bodyOf Try.f156)) [⟨[0, 5, 6], (.pair (.box Tl01Source) (.pair (.own 2 (.int .i64)) (.pair (.int .i64) .unit))), 0, [0, 5], (.pair (.box Tl01Source) (.pair (.own 2 (.int .i64)) .unit)), [], .unit, loopL b_s_l01DrawBytes_3⟩]
theorem lok_s_l01DrawBytes_3 (x) : codeK Γ0 E0 σ_s_l01DrawBytes Λ_s_l01DrawBytes Try.f156.ntmps (nthLoop Try.f156 0) (mkF Try.f156.ntmps [0, 5, 6] (.pair (.box Tl01Source) (.pair (.own 2 (.int .i64)) (.pair (.int .i64) .unit))) x) (readK σ_s_l01DrawBytes Try.f156.ntmps [0, 5, 6] (.pair (.box Tl01Source) (.pair (.own 2 (.int .i64)) (.pair (.int .i64) .unit))) 0 [0, 5] (.pair (.box Tl01Source) (.pair (.own 2 (.int .i64)) .unit)) [] .unit) = b_s_l01DrawBytes_3 x := by kernel_rfl
theorem ok_s_l01DrawBytes : FnOK Try.prog 156 S_s_l01DrawBytes := fn_ok (Λ := Λ_s_l01DrawBytes) tab0 σok_s_l01DrawBytes Try.func156 (by kernel_rfl) (show Try.f156.body = some (bodyOf Try.f156) by kernel_rfl) [⟨[0, 5, 6], (.pair (.box Tl01Source) (.pair (.own 2 (.int .i64)) (.pair (.int .i64) .unit))), 0, [0, 5], (.pair (.box Tl01Source) (.pair (.own 2 (.int .i64)) .unit)), [], .unit, loopL b_s_l01DrawBytes_3⟩] rfl (by kernel_rfl) (by exact ⟨loop_LOK lok_s_l01DrawBytes_3, trivial⟩) (by kernel_rfl)
  fun x y h => (show execFn Γ0 E0 σ_s_l01DrawBytes Λ_s_l01DrawBytes Try.f156 S_s_l01DrawBytes x = s_l01DrawBytes x by kernel_rfl).trans h

noncomputable def s_l06DrawAny (x : Ty.T (.pair (.box Tl01Source) .unit)) : Option (Ty.T (.pair TFrame (.pair (.box Tl01Source) .unit))) :=
match s_l06Draw ((x.1.1, x.1.2.1, x.1.2.2.1, ()), ()) with
| none => none
| some v1 =>
match s_l01Next ((v1.2.1.1, v1.2.1.2.1, v1.2.1.2.2.1, ()), (30 : Int), ()) with
| none => none
| some v2 =>
match (v2.1 == (0 : Int)) with
| true =>
 match s_l01Next ((v2.2.1.1, v2.2.1.2.1, v2.2.1.2.2.1, ()), (6 : Int), ()) with
 | none => none
 | some v3 =>
 some (((IntKind.i64.wrap (v3.1 - (1 : Int))), v1.1.2.1, (v1.1.2.2.1.1, v1.1.2.2.1.2.1, v1.1.2.2.1.2.2.1, v1.1.2.2.1.2.2.2.1, v1.1.2.2.1.2.2.2.2.1, ()), v1.1.2.2.2.1, ()), (v3.2.1.1, v3.2.1.2.1, v3.2.1.2.2.1, ()), ())
| false =>
 match (v2.1 == (1 : Int)) with
 | true =>
  match s_l01Next ((v2.2.1.1, v2.2.1.2.1, v2.2.1.2.2.1, ()), (3 : Int), ()) with
  | none => none
  | some v4 =>
  onSome (idx [(-1 : Int), (1 : Int), (8 : Int)] v4.1) fun _ =>
  match [(-1 : Int), (1 : Int), (8 : Int)][v4.1.toNat]? with
  | none => none
  | some v6 =>
  some ((v1.1.1, v6, (v1.1.2.2.1.1, v1.1.2.2.1.2.1, v1.1.2.2.1.2.2.1, v1.1.2.2.1.2.2.2.1, v1.1.2.2.1.2.2.2.2.1, ()), v1.1.2.2.2.1, ()), (v4.2.1.1, v4.2.1.2.1, v4.2.1.2.2.1, ()), ())
 | false =>
  match (v2.1 == (2 : Int)) with
  | true =>
   match s_l04DrawAny ((v2.2.1.1, v2.2.1.2.1, v2.2.1.2.2.1, ()), ()) with
   | none => none
   | some v7 =>
   some ((v1.1.1, v1.1.2.1, (v7.1.1, v7.1.2.1, v7.1.2.2.1, v7.1.2.2.2.1, v7.1.2.2.2.2.1, ()), v1.1.2.2.2.1, ()), (v7.2.1.1, v7.2.1.2.1, v7.2.1.2.2.1, ()), ())
  | false =>
   match (v2.1 == (3 : Int)) with
   | true =>
    match s_l01DrawBytes ((v2.2.1.1, v2.2.1.2.1, v2.2.1.2.2.1, ()), (3 : Int), ()) with
    | none => none
    | some v8 =>
    some ((v1.1.1, v1.1.2.1, (v1.1.2.2.1.1, v1.1.2.2.1.2.1, v1.1.2.2.1.2.2.1, v1.1.2.2.1.2.2.2.1, v1.1.2.2.1.2.2.2.2.1, ()), v8.1, ()), (v8.2.1.1, v8.2.1.2.1, v8.2.1.2.2.1, ()), ())
   | false =>
    match (v2.1 == (4 : Int)) with
    | true =>
     match s_l01Next ((v2.2.1.1, v2.2.1.2.1, v2.2.1.2.2.1, ()), (2 : Int), ()) with
     | none => none
     | some v9 =>
     if 0 ≤ (IntKind.i64.wrap ((32 : Int) + v9.1)) ∧ (IntKind.i64.wrap ((32 : Int) + v9.1)) ≤ (IntKind.i64.wrap ((32 : Int) + v9.1)) then
      room ((IntKind.i64.wrap ((32 : Int) + v9.1)).toNat) (
       some ((v1.1.1, v1.1.2.1, (v1.1.2.2.1.1, v1.1.2.2.1.2.1, v1.1.2.2.1.2.2.1, v1.1.2.2.1.2.2.2.1, v1.1.2.2.1.2.2.2.2.1, ()), (List.replicate (IntKind.i64.wrap ((32 : Int) + v9.1)).toNat (0 : Int)), ()), (v9.2.1.1, v9.2.1.2.1, v9.2.1.2.2.1, ()), ()))
     else none
    | false =>
     some ((v1.1.1, v1.1.2.1, (v1.1.2.2.1.1, v1.1.2.2.1.2.1, v1.1.2.2.1.2.2.1, v1.1.2.2.1.2.2.2.1, v1.1.2.2.1.2.2.2.2.1, ()), v1.1.2.2.2.1, ()), (v2.2.1.1, v2.2.1.2.1, v2.2.1.2.2.1, ()), ())
noncomputable def S_s_l06DrawAny : Spec := ⟨(.pair (.box Tl01Source) .unit), (.pair TFrame .unit), (.pair (.box Tl01Source) .unit), rfl, s_l06DrawAny⟩
noncomputable def σ_s_l06DrawAny : FuncId → Option Spec := sig [(80, S_s_l01Next), (140, S_s_l04DrawAny), (147, S_s_l06Draw), (156, S_s_l01DrawBytes)]
theorem σok_s_l06DrawAny : ∀ f s, σ_s_l06DrawAny f = some s → FnOK Try.prog f s := sig_ok (l := [(80, S_s_l01Next), (140, S_s_l04DrawAny), (147, S_s_l06Draw), (156, S_s_l01DrawBytes)]) ⟨ok_s_l01Next, ok_s_l04DrawAny, ok_s_l06Draw, ok_s_l01DrawBytes, trivial⟩
noncomputable def Λ_s_l06DrawAny : Nat → Option LSpec := lkp (loopList (bodyOf Try.f148)) []
theorem ok_s_l06DrawAny : FnOK Try.prog 148 S_s_l06DrawAny := fn_ok (Λ := Λ_s_l06DrawAny) tab0 σok_s_l06DrawAny Try.func148 (by kernel_rfl) (show Try.f148.body = some (bodyOf Try.f148) by kernel_rfl) [] rfl (by kernel_rfl) (by exact trivial) (by kernel_rfl)
  fun x y h => (show execFn Γ0 E0 σ_s_l06DrawAny Λ_s_l06DrawAny Try.f148 S_s_l06DrawAny x = s_l06DrawAny x by kernel_rfl).trans h

noncomputable def s_l28DrawVerdict (x : Ty.T (.pair (.box Tl01Source) .unit)) : Option (Ty.T (.pair TVerdict (.pair (.box Tl01Source) .unit))) :=
match s_l01Next ((x.1.1, x.1.2.1, x.1.2.2.1, ()), (5 : Int), ()) with
| none => none
| some v1 =>
match (v1.1 == (3 : Int)) with
| true =>
 match s_l06Draw ((v1.2.1.1, v1.2.1.2.1, v1.2.1.2.2.1, ()), ()) with
 | none => none
 | some v2 =>
 match s_l01Next ((v2.2.1.1, v2.2.1.2.1, v2.2.1.2.2.1, ()), (24 : Int), ()) with
 | none => none
 | some v3 =>
 match (v3.1 == (0 : Int)) with
 | true =>
  match s_l01Next ((v3.2.1.1, v3.2.1.2.1, v3.2.1.2.2.1, ()), (3 : Int), ()) with
  | none => none
  | some v4 =>
  onSome (idx [(-1 : Int), (5 : Int), (3 : Int)] v4.1) fun _ =>
  match [(-1 : Int), (5 : Int), (3 : Int)][v4.1.toNat]? with
  | none => none
  | some v6 =>
  some ((v6, (v2.1.1, v2.1.2.1, (v2.1.2.2.1.1, v2.1.2.2.1.2.1, v2.1.2.2.1.2.2.1, v2.1.2.2.1.2.2.2.1, v2.1.2.2.1.2.2.2.2.1, ()), v2.1.2.2.2.1, ()), ()), (v4.2.1.1, v4.2.1.2.1, v4.2.1.2.2.1, ()), ())
 | false =>
  match (v3.1 == (1 : Int)) with
  | true =>
   match s_l06DrawAny ((v3.2.1.1, v3.2.1.2.1, v3.2.1.2.2.1, ()), ()) with
   | none => none
   | some v7 =>
   some ((v1.1, (v7.1.1, v7.1.2.1, (v7.1.2.2.1.1, v7.1.2.2.1.2.1, v7.1.2.2.1.2.2.1, v7.1.2.2.1.2.2.2.1, v7.1.2.2.1.2.2.2.2.1, ()), v7.1.2.2.2.1, ()), ()), (v7.2.1.1, v7.2.1.2.1, v7.2.1.2.2.1, ()), ())
  | false =>
   some ((v1.1, (v2.1.1, v2.1.2.1, (v2.1.2.2.1.1, v2.1.2.2.1.2.1, v2.1.2.2.1.2.2.1, v2.1.2.2.1.2.2.2.1, v2.1.2.2.1.2.2.2.2.1, ()), v2.1.2.2.2.1, ()), ()), (v3.2.1.1, v3.2.1.2.1, v3.2.1.2.2.1, ()), ())
| false =>
 match s_l01Next ((v1.2.1.1, v1.2.1.2.1, v1.2.1.2.2.1, ()), (24 : Int), ()) with
 | none => none
 | some v8 =>
 match (v8.1 == (0 : Int)) with
 | true =>
  match s_l01Next ((v8.2.1.1, v8.2.1.2.1, v8.2.1.2.2.1, ()), (3 : Int), ()) with
  | none => none
  | some v9 =>
  onSome (idx [(-1 : Int), (5 : Int), (3 : Int)] v9.1) fun _ =>
  match [(-1 : Int), (5 : Int), (3 : Int)][v9.1.toNat]? with
  | none => none
  | some v11 =>
  some ((v11, ((0 : Int), (0 : Int), ((0 : Int), (0 : Int), (0 : Int), (0 : Int), (0 : Int), ()), [], ()), ()), (v9.2.1.1, v9.2.1.2.1, v9.2.1.2.2.1, ()), ())
 | false =>
  match (v8.1 == (1 : Int)) with
  | true =>
   match s_l06DrawAny ((v8.2.1.1, v8.2.1.2.1, v8.2.1.2.2.1, ()), ()) with
   | none => none
   | some v12 =>
   some ((v1.1, (v12.1.1, v12.1.2.1, (v12.1.2.2.1.1, v12.1.2.2.1.2.1, v12.1.2.2.1.2.2.1, v12.1.2.2.1.2.2.2.1, v12.1.2.2.1.2.2.2.2.1, ()), v12.1.2.2.2.1, ()), ()), (v12.2.1.1, v12.2.1.2.1, v12.2.1.2.2.1, ()), ())
  | false =>
   some ((v1.1, ((0 : Int), (0 : Int), ((0 : Int), (0 : Int), (0 : Int), (0 : Int), (0 : Int), ()), [], ()), ()), (v8.2.1.1, v8.2.1.2.1, v8.2.1.2.2.1, ()), ())
noncomputable def S_s_l28DrawVerdict : Spec := ⟨(.pair (.box Tl01Source) .unit), (.pair TVerdict .unit), (.pair (.box Tl01Source) .unit), rfl, s_l28DrawVerdict⟩
noncomputable def σ_s_l28DrawVerdict : FuncId → Option Spec := sig [(80, S_s_l01Next), (147, S_s_l06Draw), (148, S_s_l06DrawAny)]
theorem σok_s_l28DrawVerdict : ∀ f s, σ_s_l28DrawVerdict f = some s → FnOK Try.prog f s := sig_ok (l := [(80, S_s_l01Next), (147, S_s_l06Draw), (148, S_s_l06DrawAny)]) ⟨ok_s_l01Next, ok_s_l06Draw, ok_s_l06DrawAny, trivial⟩
noncomputable def Λ_s_l28DrawVerdict : Nat → Option LSpec := lkp (loopList (bodyOf Try.f128)) []
theorem ok_s_l28DrawVerdict : FnOK Try.prog 128 S_s_l28DrawVerdict := fn_ok (Λ := Λ_s_l28DrawVerdict) tab0 σok_s_l28DrawVerdict Try.func128 (by kernel_rfl) (show Try.f128.body = some (bodyOf Try.f128) by kernel_rfl) [] rfl (by kernel_rfl) (by exact trivial) (by kernel_rfl)
  fun x y h => (show execFn Γ0 E0 σ_s_l28DrawVerdict Λ_s_l28DrawVerdict Try.f128 S_s_l28DrawVerdict x = s_l28DrawVerdict x by kernel_rfl).trans h

noncomputable def s_DrawSameVerdict (x : Ty.T (.pair (.list (.int .u8)) .unit)) : Option (Ty.T (.pair TVerdict (.pair TVerdict .unit))) :=
match s_l01From (x.1, ()) with
| none => none
| some v1 =>
match s_l28DrawVerdict ((v1.1.1, v1.1.2.1, v1.1.2.2.1, ()), ()) with
| none => none
| some v2 =>
match s_l01Next ((v2.2.1.1, v2.2.1.2.1, v2.2.1.2.2.1, ()), (2 : Int), ()) with
| none => none
| some v3 =>
match (v3.1 == (0 : Int)) with
| true =>
 some ((v2.1.1, (v2.1.2.1.1, v2.1.2.1.2.1, (v2.1.2.1.2.2.1.1, v2.1.2.1.2.2.1.2.1, v2.1.2.1.2.2.1.2.2.1, v2.1.2.1.2.2.1.2.2.2.1, v2.1.2.1.2.2.1.2.2.2.2.1, ()), v2.1.2.1.2.2.2.1, ()), ()), (v2.1.1, (v2.1.2.1.1, v2.1.2.1.2.1, (v2.1.2.1.2.2.1.1, v2.1.2.1.2.2.1.2.1, v2.1.2.1.2.2.1.2.2.1, v2.1.2.1.2.2.1.2.2.2.1, v2.1.2.1.2.2.1.2.2.2.2.1, ()), v2.1.2.1.2.2.2.1, ()), ()), ())
| false =>
 match s_l28DrawVerdict ((v3.2.1.1, v3.2.1.2.1, v3.2.1.2.2.1, ()), ()) with
 | none => none
 | some v4 =>
 some ((v2.1.1, (v2.1.2.1.1, v2.1.2.1.2.1, (v2.1.2.1.2.2.1.1, v2.1.2.1.2.2.1.2.1, v2.1.2.1.2.2.1.2.2.1, v2.1.2.1.2.2.1.2.2.2.1, v2.1.2.1.2.2.1.2.2.2.2.1, ()), v2.1.2.1.2.2.2.1, ()), ()), (v4.1.1, (v4.1.2.1.1, v4.1.2.1.2.1, (v4.1.2.1.2.2.1.1, v4.1.2.1.2.2.1.2.1, v4.1.2.1.2.2.1.2.2.1, v4.1.2.1.2.2.1.2.2.2.1, v4.1.2.1.2.2.1.2.2.2.2.1, ()), v4.1.2.1.2.2.2.1, ()), ()), ())
noncomputable def S_s_DrawSameVerdict : Spec := ⟨(.pair (.list (.int .u8)) .unit), (.pair TVerdict (.pair TVerdict .unit)), .unit, rfl, s_DrawSameVerdict⟩
noncomputable def σ_s_DrawSameVerdict : FuncId → Option Spec := sig [(78, S_s_l01From), (80, S_s_l01Next), (128, S_s_l28DrawVerdict)]
theorem σok_s_DrawSameVerdict : ∀ f s, σ_s_DrawSameVerdict f = some s → FnOK Try.prog f s := sig_ok (l := [(78, S_s_l01From), (80, S_s_l01Next), (128, S_s_l28DrawVerdict)]) ⟨ok_s_l01From, ok_s_l01Next, ok_s_l28DrawVerdict, trivial⟩
noncomputable def Λ_s_DrawSameVerdict : Nat → Option LSpec := lkp (loopList (bodyOf Try.f101)) []
theorem ok_s_DrawSameVerdict : FnOK Try.prog 101 S_s_DrawSameVerdict := fn_ok (Λ := Λ_s_DrawSameVerdict) tab0 σok_s_DrawSameVerdict Try.func101 (by kernel_rfl) (show Try.f101.body = some (bodyOf Try.f101) by kernel_rfl) [] rfl (by kernel_rfl) (by exact trivial) (by kernel_rfl)
  fun x y h => (show execFn Γ0 E0 σ_s_DrawSameVerdict Λ_s_DrawSameVerdict Try.f101 S_s_DrawSameVerdict x = s_DrawSameVerdict x by kernel_rfl).trans h

noncomputable def s_DrawMergeVerdicts (x : Ty.T (.pair (.list (.int .u8)) .unit)) : Option (Ty.T (.pair TVerdict (.pair TVerdict .unit))) :=
match s_DrawSameVerdict (x.1, ()) with
| none => none
| some v1 =>
some ((v1.1.1, (v1.1.2.1.1, v1.1.2.1.2.1, (v1.1.2.1.2.2.1.1, v1.1.2.1.2.2.1.2.1, v1.1.2.1.2.2.1.2.2.1, v1.1.2.1.2.2.1.2.2.2.1, v1.1.2.1.2.2.1.2.2.2.2.1, ()), v1.1.2.1.2.2.2.1, ()), ()), (v1.2.1.1, (v1.2.1.2.1.1, v1.2.1.2.1.2.1, (v1.2.1.2.1.2.2.1.1, v1.2.1.2.1.2.2.1.2.1, v1.2.1.2.1.2.2.1.2.2.1, v1.2.1.2.1.2.2.1.2.2.2.1, v1.2.1.2.1.2.2.1.2.2.2.2.1, ()), v1.2.1.2.1.2.2.2.1, ()), ()), ())
noncomputable def S_s_DrawMergeVerdicts : Spec := ⟨(.pair (.list (.int .u8)) .unit), (.pair TVerdict (.pair TVerdict .unit)), .unit, rfl, s_DrawMergeVerdicts⟩
noncomputable def σ_s_DrawMergeVerdicts : FuncId → Option Spec := sig [(101, S_s_DrawSameVerdict)]
theorem σok_s_DrawMergeVerdicts : ∀ f s, σ_s_DrawMergeVerdicts f = some s → FnOK Try.prog f s := sig_ok (l := [(101, S_s_DrawSameVerdict)]) ⟨ok_s_DrawSameVerdict, trivial⟩
noncomputable def Λ_s_DrawMergeVerdicts : Nat → Option LSpec := lkp (loopList (bodyOf Try.f57)) []
theorem ok_s_DrawMergeVerdicts : FnOK Try.prog 57 S_s_DrawMergeVerdicts := fn_ok (Λ := Λ_s_DrawMergeVerdicts) tab0 σok_s_DrawMergeVerdicts Try.func57 (by kernel_rfl) (show Try.f57.body = some (bodyOf Try.f57) by kernel_rfl) [] rfl (by kernel_rfl) (by exact trivial) (by kernel_rfl)
  fun x y h => (show execFn Γ0 E0 σ_s_DrawMergeVerdicts Λ_s_DrawMergeVerdicts Try.f57 S_s_DrawMergeVerdicts x = s_DrawMergeVerdicts x by kernel_rfl).trans h

noncomputable def i_ownVerdict (x : Ty.T (.pair TVerdict .unit)) : Option (Ty.T (.pair TVerdict .unit)) :=
match slices_Clone_int64 (x.1.2.1.2.2.2.1, ()) with
| none => none
| some v1 =>
some ((x.1.1, (x.1.2.1.1, x.1.2.1.2.1, (x.1.2.1.2.2.1.1, x.1.2.1.2.2.1.2.1, x.1.2.1.2.2.1.2.2.1, x.1.2.1.2.2.1.2.2.2.1, x.1.2.1.2.2.1.2.2.2.2.1, ()), v1.1, ()), ()), ())
noncomputable def S_i_ownVerdict : Spec := ⟨(.pair TVerdict .unit), (.pair TVerdict .unit), .unit, rfl, i_ownVerdict⟩
noncomputable def σ_i_ownVerdict : FuncId → Option Spec := sig [(123, S_slices_Clone_int64)]
theorem σok_i_ownVerdict : ∀ f s, σ_i_ownVerdict f = some s → FnOK Try.prog f s := sig_ok (l := [(123, S_slices_Clone_int64)]) ⟨ok_slices_Clone_int64, trivial⟩
noncomputable def Λ_i_ownVerdict : Nat → Option LSpec := lkp (loopList (bodyOf Try.f102)) []
theorem ok_i_ownVerdict : FnOK Try.prog 102 S_i_ownVerdict := fn_ok (Λ := Λ_i_ownVerdict) tab0 σok_i_ownVerdict Try.func102 (by kernel_rfl) (show Try.f102.body = some (bodyOf Try.f102) by kernel_rfl) [] rfl (by kernel_rfl) (by exact trivial) (by kernel_rfl)
  fun x y h => (show execFn Γ0 E0 σ_i_ownVerdict Λ_i_ownVerdict Try.f102 S_i_ownVerdict x = i_ownVerdict x by kernel_rfl).trans h

noncomputable def i_merge (x : Ty.T (.pair TVerdict (.pair TVerdict .unit))) : Option (Ty.T (.pair TVerdict .unit)) :=
match (x.1.1 == (3 : Int)) with
| true =>
 match i_SameVerdict ((x.1.1, (x.1.2.1.1, x.1.2.1.2.1, (x.1.2.1.2.2.1.1, x.1.2.1.2.2.1.2.1, x.1.2.1.2.2.1.2.2.1, x.1.2.1.2.2.1.2.2.2.1, x.1.2.1.2.2.1.2.2.2.2.1, ()), x.1.2.1.2.2.2.1, ()), ()), (x.2.1.1, (x.2.1.2.1.1, x.2.1.2.1.2.1, (x.2.1.2.1.2.2.1.1, x.2.1.2.1.2.2.1.2.1, x.2.1.2.1.2.2.1.2.2.1, x.2.1.2.1.2.2.1.2.2.2.1, x.2.1.2.1.2.2.1.2.2.2.2.1, ()), x.2.1.2.1.2.2.2.1, ()), ()), ()) with
 | none => none
 | some v1 =>
 match v1.1 with
 | true =>
  some ((x.1.1, (x.1.2.1.1, x.1.2.1.2.1, (x.1.2.1.2.2.1.1, x.1.2.1.2.2.1.2.1, x.1.2.1.2.2.1.2.2.1, x.1.2.1.2.2.1.2.2.2.1, x.1.2.1.2.2.1.2.2.2.2.1, ()), x.1.2.1.2.2.2.1, ()), ()), ())
 | false =>
  match (x.1.1 == (3 : Int)) with
  | true =>
   match (x.2.1.1 == (3 : Int)) with
   | true =>
    some (((4 : Int), ((0 : Int), (0 : Int), ((0 : Int), (0 : Int), (0 : Int), (0 : Int), (0 : Int), ()), [], ()), ()), ())
   | false =>
    match (x.1.1 == (4 : Int)) with
    | true =>
     some (((4 : Int), ((0 : Int), (0 : Int), ((0 : Int), (0 : Int), (0 : Int), (0 : Int), (0 : Int), ()), [], ()), ()), ())
    | false =>
     match (x.2.1.1 == (4 : Int)) with
     | true =>
      some (((4 : Int), ((0 : Int), (0 : Int), ((0 : Int), (0 : Int), (0 : Int), (0 : Int), (0 : Int), ()), [], ()), ()), ())
     | false =>
      match (decide (x.1.1 ≥ x.2.1.1)) with
      | true =>
       some ((x.1.1, (x.1.2.1.1, x.1.2.1.2.1, (x.1.2.1.2.2.1.1, x.1.2.1.2.2.1.2.1, x.1.2.1.2.2.1.2.2.1, x.1.2.1.2.2.1.2.2.2.1, x.1.2.1.2.2.1.2.2.2.2.1, ()), x.1.2.1.2.2.2.1, ()), ()), ())
      | false =>
       some ((x.2.1.1, (x.2.1.2.1.1, x.2.1.2.1.2.1, (x.2.1.2.1.2.2.1.1, x.2.1.2.1.2.2.1.2.1, x.2.1.2.1.2.2.1.2.2.1, x.2.1.2.1.2.2.1.2.2.2.1, x.2.1.2.1.2.2.1.2.2.2.2.1, ()), x.2.1.2.1.2.2.2.1, ()), ()), ())
  | false =>
   match (x.1.1 == (4 : Int)) with
   | true =>
    some (((4 : Int), ((0 : Int), (0 : Int), ((0 : Int), (0 : Int), (0 : Int), (0 : Int), (0 : Int), ()), [], ()), ()), ())
   | false =>
    match (x.2.1.1 == (4 : Int)) with
    | true =>
     some (((4 : Int), ((0 : Int), (0 : Int), ((0 : Int), (0 : Int), (0 : Int), (0 : Int), (0 : Int), ()), [], ()), ()), ())
    | false =>
     match (decide (x.1.1 ≥ x.2.1.1)) with
     | true =>
      some ((x.1.1, (x.1.2.1.1, x.1.2.1.2.1, (x.1.2.1.2.2.1.1, x.1.2.1.2.2.1.2.1, x.1.2.1.2.2.1.2.2.1, x.1.2.1.2.2.1.2.2.2.1, x.1.2.1.2.2.1.2.2.2.2.1, ()), x.1.2.1.2.2.2.1, ()), ()), ())
     | false =>
      some ((x.2.1.1, (x.2.1.2.1.1, x.2.1.2.1.2.1, (x.2.1.2.1.2.2.1.1, x.2.1.2.1.2.2.1.2.1, x.2.1.2.1.2.2.1.2.2.1, x.2.1.2.1.2.2.1.2.2.2.1, x.2.1.2.1.2.2.1.2.2.2.2.1, ()), x.2.1.2.1.2.2.2.1, ()), ()), ())
| false =>
 match (x.1.1 == (3 : Int)) with
 | true =>
  match (x.2.1.1 == (3 : Int)) with
  | true =>
   some (((4 : Int), ((0 : Int), (0 : Int), ((0 : Int), (0 : Int), (0 : Int), (0 : Int), (0 : Int), ()), [], ()), ()), ())
  | false =>
   match (x.1.1 == (4 : Int)) with
   | true =>
    some (((4 : Int), ((0 : Int), (0 : Int), ((0 : Int), (0 : Int), (0 : Int), (0 : Int), (0 : Int), ()), [], ()), ()), ())
   | false =>
    match (x.2.1.1 == (4 : Int)) with
    | true =>
     some (((4 : Int), ((0 : Int), (0 : Int), ((0 : Int), (0 : Int), (0 : Int), (0 : Int), (0 : Int), ()), [], ()), ()), ())
    | false =>
     match (decide (x.1.1 ≥ x.2.1.1)) with
     | true =>
      some ((x.1.1, (x.1.2.1.1, x.1.2.1.2.1, (x.1.2.1.2.2.1.1, x.1.2.1.2.2.1.2.1, x.1.2.1.2.2.1.2.2.1, x.1.2.1.2.2.1.2.2.2.1, x.1.2.1.2.2.1.2.2.2.2.1, ()), x.1.2.1.2.2.2.1, ()), ()), ())
     | false =>
      some ((x.2.1.1, (x.2.1.2.1.1, x.2.1.2.1.2.1, (x.2.1.2.1.2.2.1.1, x.2.1.2.1.2.2.1.2.1, x.2.1.2.1.2.2.1.2.2.1, x.2.1.2.1.2.2.1.2.2.2.1, x.2.1.2.1.2.2.1.2.2.2.2.1, ()), x.2.1.2.1.2.2.2.1, ()), ()), ())
 | false =>
  match (x.1.1 == (4 : Int)) with
  | true =>
   some (((4 : Int), ((0 : Int), (0 : Int), ((0 : Int), (0 : Int), (0 : Int), (0 : Int), (0 : Int), ()), [], ()), ()), ())
  | false =>
   match (x.2.1.1 == (4 : Int)) with
   | true =>
    some (((4 : Int), ((0 : Int), (0 : Int), ((0 : Int), (0 : Int), (0 : Int), (0 : Int), (0 : Int), ()), [], ()), ()), ())
   | false =>
    match (decide (x.1.1 ≥ x.2.1.1)) with
    | true =>
     some ((x.1.1, (x.1.2.1.1, x.1.2.1.2.1, (x.1.2.1.2.2.1.1, x.1.2.1.2.2.1.2.1, x.1.2.1.2.2.1.2.2.1, x.1.2.1.2.2.1.2.2.2.1, x.1.2.1.2.2.1.2.2.2.2.1, ()), x.1.2.1.2.2.2.1, ()), ()), ())
    | false =>
     some ((x.2.1.1, (x.2.1.2.1.1, x.2.1.2.1.2.1, (x.2.1.2.1.2.2.1.1, x.2.1.2.1.2.2.1.2.1, x.2.1.2.1.2.2.1.2.2.1, x.2.1.2.1.2.2.1.2.2.2.1, x.2.1.2.1.2.2.1.2.2.2.2.1, ()), x.2.1.2.1.2.2.2.1, ()), ()), ())
noncomputable def S_i_merge : Spec := ⟨(.pair TVerdict (.pair TVerdict .unit)), (.pair TVerdict .unit), .unit, rfl, i_merge⟩
noncomputable def σ_i_merge : FuncId → Option Spec := sig [(100, S_i_SameVerdict)]
theorem σok_i_merge : ∀ f s, σ_i_merge f = some s → FnOK Try.prog f s := sig_ok (l := [(100, S_i_SameVerdict)]) ⟨ok_i_SameVerdict, trivial⟩
noncomputable def Λ_i_merge : Nat → Option LSpec := lkp (loopList (bodyOf Try.f103)) []
theorem ok_i_merge : FnOK Try.prog 103 S_i_merge := fn_ok (Λ := Λ_i_merge) tab0 σok_i_merge Try.func103 (by kernel_rfl) (show Try.f103.body = some (bodyOf Try.f103) by kernel_rfl) [] rfl (by kernel_rfl) (by exact trivial) (by kernel_rfl)
  fun x y h => (show execFn Γ0 E0 σ_i_merge Λ_i_merge Try.f103 S_i_merge x = i_merge x by kernel_rfl).trans h

noncomputable def i_MergeVerdicts (x : Ty.T (.pair TVerdict (.pair TVerdict .unit))) : Option (Ty.T (.pair TVerdict (.pair (.int .i64) .unit))) :=
match i_IsVerdict ((x.1.1, (x.1.2.1.1, x.1.2.1.2.1, (x.1.2.1.2.2.1.1, x.1.2.1.2.2.1.2.1, x.1.2.1.2.2.1.2.2.1, x.1.2.1.2.2.1.2.2.2.1, x.1.2.1.2.2.1.2.2.2.2.1, ()), x.1.2.1.2.2.2.1, ()), ()), ()) with
| none => none
| some v1 =>
match (!v1.1) with
| true =>
 some (((0 : Int), ((0 : Int), (0 : Int), ((0 : Int), (0 : Int), (0 : Int), (0 : Int), (0 : Int), ()), [], ()), ()), (1 : Int), ())
| false =>
 match i_IsVerdict ((x.2.1.1, (x.2.1.2.1.1, x.2.1.2.1.2.1, (x.2.1.2.1.2.2.1.1, x.2.1.2.1.2.2.1.2.1, x.2.1.2.1.2.2.1.2.2.1, x.2.1.2.1.2.2.1.2.2.2.1, x.2.1.2.1.2.2.1.2.2.2.2.1, ()), x.2.1.2.1.2.2.2.1, ()), ()), ()) with
 | none => none
 | some v2 =>
 match (!v2.1) with
 | true =>
  some (((0 : Int), ((0 : Int), (0 : Int), ((0 : Int), (0 : Int), (0 : Int), (0 : Int), (0 : Int), ()), [], ()), ()), (1 : Int), ())
 | false =>
  match i_merge ((x.1.1, (x.1.2.1.1, x.1.2.1.2.1, (x.1.2.1.2.2.1.1, x.1.2.1.2.2.1.2.1, x.1.2.1.2.2.1.2.2.1, x.1.2.1.2.2.1.2.2.2.1, x.1.2.1.2.2.1.2.2.2.2.1, ()), x.1.2.1.2.2.2.1, ()), ()), (x.2.1.1, (x.2.1.2.1.1, x.2.1.2.1.2.1, (x.2.1.2.1.2.2.1.1, x.2.1.2.1.2.2.1.2.1, x.2.1.2.1.2.2.1.2.2.1, x.2.1.2.1.2.2.1.2.2.2.1, x.2.1.2.1.2.2.1.2.2.2.2.1, ()), x.2.1.2.1.2.2.2.1, ()), ()), ()) with
  | none => none
  | some v3 =>
  match i_ownVerdict (v3.1, ()) with
  | none => none
  | some v4 =>
  some ((v4.1.1, (v4.1.2.1.1, v4.1.2.1.2.1, (v4.1.2.1.2.2.1.1, v4.1.2.1.2.2.1.2.1, v4.1.2.1.2.2.1.2.2.1, v4.1.2.1.2.2.1.2.2.2.1, v4.1.2.1.2.2.1.2.2.2.2.1, ()), v4.1.2.1.2.2.2.1, ()), ()), (0 : Int), ())
noncomputable def S_i_MergeVerdicts : Spec := ⟨(.pair TVerdict (.pair TVerdict .unit)), (.pair TVerdict (.pair (.int .i64) .unit)), .unit, rfl, i_MergeVerdicts⟩
noncomputable def σ_i_MergeVerdicts : FuncId → Option Spec := sig [(61, S_i_IsVerdict), (102, S_i_ownVerdict), (103, S_i_merge)]
theorem σok_i_MergeVerdicts : ∀ f s, σ_i_MergeVerdicts f = some s → FnOK Try.prog f s := sig_ok (l := [(61, S_i_IsVerdict), (102, S_i_ownVerdict), (103, S_i_merge)]) ⟨ok_i_IsVerdict, ok_i_ownVerdict, ok_i_merge, trivial⟩
noncomputable def Λ_i_MergeVerdicts : Nat → Option LSpec := lkp (loopList (bodyOf Try.f58)) []
theorem ok_i_MergeVerdicts : FnOK Try.prog 58 S_i_MergeVerdicts := fn_ok (Λ := Λ_i_MergeVerdicts) tab0 σok_i_MergeVerdicts Try.func58 (by kernel_rfl) (show Try.f58.body = some (bodyOf Try.f58) by kernel_rfl) [] rfl (by kernel_rfl) (by exact trivial) (by kernel_rfl)
  fun x y h => (show execFn Γ0 E0 σ_i_MergeVerdicts Λ_i_MergeVerdicts Try.f58 S_i_MergeVerdicts x = i_MergeVerdicts x by kernel_rfl).trans h

noncomputable def s_l01Own (x : Ty.T (.pair (.list (.int .i64)) .unit)) : Option (Ty.T (.pair (.own 2 (.int .i64)) .unit)) :=
room (([] : List (Ty.T (.int .i64))).length + x.1.length) (
 some ((([] : List (Ty.T (.int .i64))) ++ x.1), ()))
noncomputable def S_s_l01Own : Spec := ⟨(.pair (.list (.int .i64)) .unit), (.pair (.own 2 (.int .i64)) .unit), .unit, rfl, s_l01Own⟩
noncomputable def σ_s_l01Own : FuncId → Option Spec := sig []
theorem σok_s_l01Own : ∀ f s, σ_s_l01Own f = some s → FnOK Try.prog f s := sig_ok (l := []) trivial
noncomputable def Λ_s_l01Own : Nat → Option LSpec := lkp (loopList (bodyOf Try.f129)) []
theorem ok_s_l01Own : FnOK Try.prog 129 S_s_l01Own := fn_ok (Λ := Λ_s_l01Own) tab0 σok_s_l01Own Try.func129 (by kernel_rfl) (show Try.f129.body = some (bodyOf Try.f129) by kernel_rfl) [] rfl (by kernel_rfl) (by exact trivial) (by kernel_rfl)
  fun x y h => (show execFn Γ0 E0 σ_s_l01Own Λ_s_l01Own Try.f129 S_s_l01Own x = s_l01Own x by kernel_rfl).trans h

noncomputable def s_l29Own (x : Ty.T (.pair TVerdict .unit)) : Option (Ty.T (.pair TVerdict .unit)) :=
match s_l01Own (x.1.2.1.2.2.2.1, ()) with
| none => none
| some v1 =>
some ((x.1.1, (x.1.2.1.1, x.1.2.1.2.1, (x.1.2.1.2.2.1.1, x.1.2.1.2.2.1.2.1, x.1.2.1.2.2.1.2.2.1, x.1.2.1.2.2.1.2.2.2.1, x.1.2.1.2.2.1.2.2.2.2.1, ()), v1.1, ()), ()), ())
noncomputable def S_s_l29Own : Spec := ⟨(.pair TVerdict .unit), (.pair TVerdict .unit), .unit, rfl, s_l29Own⟩
noncomputable def σ_s_l29Own : FuncId → Option Spec := sig [(129, S_s_l01Own)]
theorem σok_s_l29Own : ∀ f s, σ_s_l29Own f = some s → FnOK Try.prog f s := sig_ok (l := [(129, S_s_l01Own)]) ⟨ok_s_l01Own, trivial⟩
noncomputable def Λ_s_l29Own : Nat → Option LSpec := lkp (loopList (bodyOf Try.f104)) []
theorem ok_s_l29Own : FnOK Try.prog 104 S_s_l29Own := fn_ok (Λ := Λ_s_l29Own) tab0 σok_s_l29Own Try.func104 (by kernel_rfl) (show Try.f104.body = some (bodyOf Try.f104) by kernel_rfl) [] rfl (by kernel_rfl) (by exact trivial) (by kernel_rfl)
  fun x y h => (show execFn Γ0 E0 σ_s_l29Own Λ_s_l29Own Try.f104 S_s_l29Own x = s_l29Own x by kernel_rfl).trans h

noncomputable def s_l29Merge (x : Ty.T (.pair TVerdict (.pair TVerdict .unit))) : Option (Ty.T (.pair TVerdict .unit)) :=
match (x.1.1 == (3 : Int)) with
| true =>
 match (x.2.1.1 == (3 : Int)) with
 | true =>
  match s_l28Same ((x.1.2.1.1, x.1.2.1.2.1, (x.1.2.1.2.2.1.1, x.1.2.1.2.2.1.2.1, x.1.2.1.2.2.1.2.2.1, x.1.2.1.2.2.1.2.2.2.1, x.1.2.1.2.2.1.2.2.2.2.1, ()), x.1.2.1.2.2.2.1, ()), (x.2.1.2.1.1, x.2.1.2.1.2.1, (x.2.1.2.1.2.2.1.1, x.2.1.2.1.2.2.1.2.1, x.2.1.2.1.2.2.1.2.2.1, x.2.1.2.1.2.2.1.2.2.2.1, x.2.1.2.1.2.2.1.2.2.2.2.1, ()), x.2.1.2.1.2.2.2.1, ()), ()) with
  | none => none
  | some v1 =>
  match v1.1 with
  | true =>
   some ((x.1.1, (x.1.2.1.1, x.1.2.1.2.1, (x.1.2.1.2.2.1.1, x.1.2.1.2.2.1.2.1, x.1.2.1.2.2.1.2.2.1, x.1.2.1.2.2.1.2.2.2.1, x.1.2.1.2.2.1.2.2.2.2.1, ()), x.1.2.1.2.2.2.1, ()), ()), ())
  | false =>
   match (x.1.1 == (3 : Int)) with
   | true =>
    match (x.2.1.1 == (3 : Int)) with
    | true =>
     some (((4 : Int), ((0 : Int), (0 : Int), ((0 : Int), (0 : Int), (0 : Int), (0 : Int), (0 : Int), ()), [], ()), ()), ())
    | false =>
     match (x.1.1 == (4 : Int)) with
     | true =>
      some (((4 : Int), ((0 : Int), (0 : Int), ((0 : Int), (0 : Int), (0 : Int), (0 : Int), (0 : Int), ()), [], ()), ()), ())
     | false =>
      match (x.2.1.1 == (4 : Int)) with
      | true =>
       some (((4 : Int), ((0 : Int), (0 : Int), ((0 : Int), (0 : Int), (0 : Int), (0 : Int), (0 : Int), ()), [], ()), ()), ())
      | false =>
       match (x.1.1 == (3 : Int)) with
       | true =>
        some ((x.1.1, (x.1.2.1.1, x.1.2.1.2.1, (x.1.2.1.2.2.1.1, x.1.2.1.2.2.1.2.1, x.1.2.1.2.2.1.2.2.1, x.1.2.1.2.2.1.2.2.2.1, x.1.2.1.2.2.1.2.2.2.2.1, ()), x.1.2.1.2.2.2.1, ()), ()), ())
       | false =>
        match (x.2.1.1 == (3 : Int)) with
        | true =>
         some ((x.2.1.1, (x.2.1.2.1.1, x.2.1.2.1.2.1, (x.2.1.2.1.2.2.1.1, x.2.1.2.1.2.2.1.2.1, x.2.1.2.1.2.2.1.2.2.1, x.2.1.2.1.2.2.1.2.2.2.1, x.2.1.2.1.2.2.1.2.2.2.2.1, ()), x.2.1.2.1.2.2.2.1, ()), ()), ())
        | false =>
         some (((if x.2.1.1 > x.1.1 then x.2.1.1 else x.1.1), ((0 : Int), (0 : Int), ((0 : Int), (0 : Int), (0 : Int), (0 : Int), (0 : Int), ()), [], ()), ()), ())
   | false =>
    match (x.1.1 == (4 : Int)) with
    | true =>
     some (((4 : Int), ((0 : Int), (0 : Int), ((0 : Int), (0 : Int), (0 : Int), (0 : Int), (0 : Int), ()), [], ()), ()), ())
    | false =>
     match (x.2.1.1 == (4 : Int)) with
     | true =>
      some (((4 : Int), ((0 : Int), (0 : Int), ((0 : Int), (0 : Int), (0 : Int), (0 : Int), (0 : Int), ()), [], ()), ()), ())
     | false =>
      match (x.1.1 == (3 : Int)) with
      | true =>
       some ((x.1.1, (x.1.2.1.1, x.1.2.1.2.1, (x.1.2.1.2.2.1.1, x.1.2.1.2.2.1.2.1, x.1.2.1.2.2.1.2.2.1, x.1.2.1.2.2.1.2.2.2.1, x.1.2.1.2.2.1.2.2.2.2.1, ()), x.1.2.1.2.2.2.1, ()), ()), ())
      | false =>
       match (x.2.1.1 == (3 : Int)) with
       | true =>
        some ((x.2.1.1, (x.2.1.2.1.1, x.2.1.2.1.2.1, (x.2.1.2.1.2.2.1.1, x.2.1.2.1.2.2.1.2.1, x.2.1.2.1.2.2.1.2.2.1, x.2.1.2.1.2.2.1.2.2.2.1, x.2.1.2.1.2.2.1.2.2.2.2.1, ()), x.2.1.2.1.2.2.2.1, ()), ()), ())
       | false =>
        some (((if x.2.1.1 > x.1.1 then x.2.1.1 else x.1.1), ((0 : Int), (0 : Int), ((0 : Int), (0 : Int), (0 : Int), (0 : Int), (0 : Int), ()), [], ()), ()), ())
 | false =>
  match (x.1.1 == (3 : Int)) with
  | true =>
   match (x.2.1.1 == (3 : Int)) with
   | true =>
    some (((4 : Int), ((0 : Int), (0 : Int), ((0 : Int), (0 : Int), (0 : Int), (0 : Int), (0 : Int), ()), [], ()), ()), ())
   | false =>
    match (x.1.1 == (4 : Int)) with
    | true =>
     some (((4 : Int), ((0 : Int), (0 : Int), ((0 : Int), (0 : Int), (0 : Int), (0 : Int), (0 : Int), ()), [], ()), ()), ())
    | false =>
     match (x.2.1.1 == (4 : Int)) with
     | true =>
      some (((4 : Int), ((0 : Int), (0 : Int), ((0 : Int), (0 : Int), (0 : Int), (0 : Int), (0 : Int), ()), [], ()), ()), ())
     | false =>
      match (x.1.1 == (3 : Int)) with
      | true =>
       some ((x.1.1, (x.1.2.1.1, x.1.2.1.2.1, (x.1.2.1.2.2.1.1, x.1.2.1.2.2.1.2.1, x.1.2.1.2.2.1.2.2.1, x.1.2.1.2.2.1.2.2.2.1, x.1.2.1.2.2.1.2.2.2.2.1, ()), x.1.2.1.2.2.2.1, ()), ()), ())
      | false =>
       match (x.2.1.1 == (3 : Int)) with
       | true =>
        some ((x.2.1.1, (x.2.1.2.1.1, x.2.1.2.1.2.1, (x.2.1.2.1.2.2.1.1, x.2.1.2.1.2.2.1.2.1, x.2.1.2.1.2.2.1.2.2.1, x.2.1.2.1.2.2.1.2.2.2.1, x.2.1.2.1.2.2.1.2.2.2.2.1, ()), x.2.1.2.1.2.2.2.1, ()), ()), ())
       | false =>
        some (((if x.2.1.1 > x.1.1 then x.2.1.1 else x.1.1), ((0 : Int), (0 : Int), ((0 : Int), (0 : Int), (0 : Int), (0 : Int), (0 : Int), ()), [], ()), ()), ())
  | false =>
   match (x.1.1 == (4 : Int)) with
   | true =>
    some (((4 : Int), ((0 : Int), (0 : Int), ((0 : Int), (0 : Int), (0 : Int), (0 : Int), (0 : Int), ()), [], ()), ()), ())
   | false =>
    match (x.2.1.1 == (4 : Int)) with
    | true =>
     some (((4 : Int), ((0 : Int), (0 : Int), ((0 : Int), (0 : Int), (0 : Int), (0 : Int), (0 : Int), ()), [], ()), ()), ())
    | false =>
     match (x.1.1 == (3 : Int)) with
     | true =>
      some ((x.1.1, (x.1.2.1.1, x.1.2.1.2.1, (x.1.2.1.2.2.1.1, x.1.2.1.2.2.1.2.1, x.1.2.1.2.2.1.2.2.1, x.1.2.1.2.2.1.2.2.2.1, x.1.2.1.2.2.1.2.2.2.2.1, ()), x.1.2.1.2.2.2.1, ()), ()), ())
     | false =>
      match (x.2.1.1 == (3 : Int)) with
      | true =>
       some ((x.2.1.1, (x.2.1.2.1.1, x.2.1.2.1.2.1, (x.2.1.2.1.2.2.1.1, x.2.1.2.1.2.2.1.2.1, x.2.1.2.1.2.2.1.2.2.1, x.2.1.2.1.2.2.1.2.2.2.1, x.2.1.2.1.2.2.1.2.2.2.2.1, ()), x.2.1.2.1.2.2.2.1, ()), ()), ())
      | false =>
       some (((if x.2.1.1 > x.1.1 then x.2.1.1 else x.1.1), ((0 : Int), (0 : Int), ((0 : Int), (0 : Int), (0 : Int), (0 : Int), (0 : Int), ()), [], ()), ()), ())
| false =>
 match (x.1.1 == (3 : Int)) with
 | true =>
  match (x.2.1.1 == (3 : Int)) with
  | true =>
   some (((4 : Int), ((0 : Int), (0 : Int), ((0 : Int), (0 : Int), (0 : Int), (0 : Int), (0 : Int), ()), [], ()), ()), ())
  | false =>
   match (x.1.1 == (4 : Int)) with
   | true =>
    some (((4 : Int), ((0 : Int), (0 : Int), ((0 : Int), (0 : Int), (0 : Int), (0 : Int), (0 : Int), ()), [], ()), ()), ())
   | false =>
    match (x.2.1.1 == (4 : Int)) with
    | true =>
     some (((4 : Int), ((0 : Int), (0 : Int), ((0 : Int), (0 : Int), (0 : Int), (0 : Int), (0 : Int), ()), [], ()), ()), ())
    | false =>
     match (x.1.1 == (3 : Int)) with
     | true =>
      some ((x.1.1, (x.1.2.1.1, x.1.2.1.2.1, (x.1.2.1.2.2.1.1, x.1.2.1.2.2.1.2.1, x.1.2.1.2.2.1.2.2.1, x.1.2.1.2.2.1.2.2.2.1, x.1.2.1.2.2.1.2.2.2.2.1, ()), x.1.2.1.2.2.2.1, ()), ()), ())
     | false =>
      match (x.2.1.1 == (3 : Int)) with
      | true =>
       some ((x.2.1.1, (x.2.1.2.1.1, x.2.1.2.1.2.1, (x.2.1.2.1.2.2.1.1, x.2.1.2.1.2.2.1.2.1, x.2.1.2.1.2.2.1.2.2.1, x.2.1.2.1.2.2.1.2.2.2.1, x.2.1.2.1.2.2.1.2.2.2.2.1, ()), x.2.1.2.1.2.2.2.1, ()), ()), ())
      | false =>
       some (((if x.2.1.1 > x.1.1 then x.2.1.1 else x.1.1), ((0 : Int), (0 : Int), ((0 : Int), (0 : Int), (0 : Int), (0 : Int), (0 : Int), ()), [], ()), ()), ())
 | false =>
  match (x.1.1 == (4 : Int)) with
  | true =>
   some (((4 : Int), ((0 : Int), (0 : Int), ((0 : Int), (0 : Int), (0 : Int), (0 : Int), (0 : Int), ()), [], ()), ()), ())
  | false =>
   match (x.2.1.1 == (4 : Int)) with
   | true =>
    some (((4 : Int), ((0 : Int), (0 : Int), ((0 : Int), (0 : Int), (0 : Int), (0 : Int), (0 : Int), ()), [], ()), ()), ())
   | false =>
    match (x.1.1 == (3 : Int)) with
    | true =>
     some ((x.1.1, (x.1.2.1.1, x.1.2.1.2.1, (x.1.2.1.2.2.1.1, x.1.2.1.2.2.1.2.1, x.1.2.1.2.2.1.2.2.1, x.1.2.1.2.2.1.2.2.2.1, x.1.2.1.2.2.1.2.2.2.2.1, ()), x.1.2.1.2.2.2.1, ()), ()), ())
    | false =>
     match (x.2.1.1 == (3 : Int)) with
     | true =>
      some ((x.2.1.1, (x.2.1.2.1.1, x.2.1.2.1.2.1, (x.2.1.2.1.2.2.1.1, x.2.1.2.1.2.2.1.2.1, x.2.1.2.1.2.2.1.2.2.1, x.2.1.2.1.2.2.1.2.2.2.1, x.2.1.2.1.2.2.1.2.2.2.2.1, ()), x.2.1.2.1.2.2.2.1, ()), ()), ())
     | false =>
      some (((if x.2.1.1 > x.1.1 then x.2.1.1 else x.1.1), ((0 : Int), (0 : Int), ((0 : Int), (0 : Int), (0 : Int), (0 : Int), (0 : Int), ()), [], ()), ()), ())
noncomputable def S_s_l29Merge : Spec := ⟨(.pair TVerdict (.pair TVerdict .unit)), (.pair TVerdict .unit), .unit, rfl, s_l29Merge⟩
noncomputable def σ_s_l29Merge : FuncId → Option Spec := sig [(125, S_s_l28Same)]
theorem σok_s_l29Merge : ∀ f s, σ_s_l29Merge f = some s → FnOK Try.prog f s := sig_ok (l := [(125, S_s_l28Same)]) ⟨ok_s_l28Same, trivial⟩
noncomputable def Λ_s_l29Merge : Nat → Option LSpec := lkp (loopList (bodyOf Try.f105)) []
theorem ok_s_l29Merge : FnOK Try.prog 105 S_s_l29Merge := fn_ok (Λ := Λ_s_l29Merge) tab0 σok_s_l29Merge Try.func105 (by kernel_rfl) (show Try.f105.body = some (bodyOf Try.f105) by kernel_rfl) [] rfl (by kernel_rfl) (by exact trivial) (by kernel_rfl)
  fun x y h => (show execFn Γ0 E0 σ_s_l29Merge Λ_s_l29Merge Try.f105 S_s_l29Merge x = s_l29Merge x by kernel_rfl).trans h

noncomputable def s_MergeVerdicts (x : Ty.T (.pair TVerdict (.pair TVerdict .unit))) : Option (Ty.T (.pair TVerdict (.pair (.int .i64) .unit))) :=
match s_IsVerdict ((x.1.1, (x.1.2.1.1, x.1.2.1.2.1, (x.1.2.1.2.2.1.1, x.1.2.1.2.2.1.2.1, x.1.2.1.2.2.1.2.2.1, x.1.2.1.2.2.1.2.2.2.1, x.1.2.1.2.2.1.2.2.2.2.1, ()), x.1.2.1.2.2.2.1, ()), ()), ()) with
| none => none
| some v1 =>
match (!v1.1) with
| true =>
 some (((0 : Int), ((0 : Int), (0 : Int), ((0 : Int), (0 : Int), (0 : Int), (0 : Int), (0 : Int), ()), [], ()), ()), (1 : Int), ())
| false =>
 match s_IsVerdict ((x.2.1.1, (x.2.1.2.1.1, x.2.1.2.1.2.1, (x.2.1.2.1.2.2.1.1, x.2.1.2.1.2.2.1.2.1, x.2.1.2.1.2.2.1.2.2.1, x.2.1.2.1.2.2.1.2.2.2.1, x.2.1.2.1.2.2.1.2.2.2.2.1, ()), x.2.1.2.1.2.2.2.1, ()), ()), ()) with
 | none => none
 | some v2 =>
 match (!v2.1) with
 | true =>
  some (((0 : Int), ((0 : Int), (0 : Int), ((0 : Int), (0 : Int), (0 : Int), (0 : Int), (0 : Int), ()), [], ()), ()), (1 : Int), ())
 | false =>
  match s_l29Merge ((x.1.1, (x.1.2.1.1, x.1.2.1.2.1, (x.1.2.1.2.2.1.1, x.1.2.1.2.2.1.2.1, x.1.2.1.2.2.1.2.2.1, x.1.2.1.2.2.1.2.2.2.1, x.1.2.1.2.2.1.2.2.2.2.1, ()), x.1.2.1.2.2.2.1, ()), ()), (x.2.1.1, (x.2.1.2.1.1, x.2.1.2.1.2.1, (x.2.1.2.1.2.2.1.1, x.2.1.2.1.2.2.1.2.1, x.2.1.2.1.2.2.1.2.2.1, x.2.1.2.1.2.2.1.2.2.2.1, x.2.1.2.1.2.2.1.2.2.2.2.1, ()), x.2.1.2.1.2.2.2.1, ()), ()), ()) with
  | none => none
  | some v3 =>
  match s_l29Own (v3.1, ()) with
  | none => none
  | some v4 =>
  some ((v4.1.1, (v4.1.2.1.1, v4.1.2.1.2.1, (v4.1.2.1.2.2.1.1, v4.1.2.1.2.2.1.2.1, v4.1.2.1.2.2.1.2.2.1, v4.1.2.1.2.2.1.2.2.2.1, v4.1.2.1.2.2.1.2.2.2.2.1, ()), v4.1.2.1.2.2.2.1, ()), ()), (0 : Int), ())
noncomputable def S_s_MergeVerdicts : Spec := ⟨(.pair TVerdict (.pair TVerdict .unit)), (.pair TVerdict (.pair (.int .i64) .unit)), .unit, rfl, s_MergeVerdicts⟩
noncomputable def σ_s_MergeVerdicts : FuncId → Option Spec := sig [(95, S_s_IsVerdict), (104, S_s_l29Own), (105, S_s_l29Merge)]
theorem σok_s_MergeVerdicts : ∀ f s, σ_s_MergeVerdicts f = some s → FnOK Try.prog f s := sig_ok (l := [(95, S_s_IsVerdict), (104, S_s_l29Own), (105, S_s_l29Merge)]) ⟨ok_s_IsVerdict, ok_s_l29Own, ok_s_l29Merge, trivial⟩
noncomputable def Λ_s_MergeVerdicts : Nat → Option LSpec := lkp (loopList (bodyOf Try.f59)) []
theorem ok_s_MergeVerdicts : FnOK Try.prog 59 S_s_MergeVerdicts := fn_ok (Λ := Λ_s_MergeVerdicts) tab0 σok_s_MergeVerdicts Try.func59 (by kernel_rfl) (show Try.f59.body = some (bodyOf Try.f59) by kernel_rfl) [] rfl (by kernel_rfl) (by exact trivial) (by kernel_rfl)
  fun x y h => (show execFn Γ0 E0 σ_s_MergeVerdicts Λ_s_MergeVerdicts Try.f59 S_s_MergeVerdicts x = s_MergeVerdicts x by kernel_rfl).trans h

noncomputable def l_likeFrames (x : Ty.T (.pair TFrame (.pair TFrame .unit))) : Option (Ty.T (.pair .bool .unit)) :=
match (x.1.1 == x.2.1.1) with
| true =>
 match (x.1.2.1 == x.2.1.2.1) with
 | true =>
  match (eqT TState (x.1.2.2.1.1, x.1.2.2.1.2.1, x.1.2.2.1.2.2.1, x.1.2.2.1.2.2.2.1, x.1.2.2.1.2.2.2.2.1, ()) (x.2.1.2.2.1.1, x.2.1.2.2.1.2.1, x.2.1.2.2.1.2.2.1, x.2.1.2.2.1.2.2.2.1, x.2.1.2.2.1.2.2.2.2.1, ())) with
  | true =>
   match l_likeInts (x.1.2.2.2.1, x.2.1.2.2.2.1, ()) with
   | none => none
   | some v1 =>
   some (v1.1, ())
  | false =>
   some (false, ())
 | false =>
  some (false, ())
| false =>
 some (false, ())
noncomputable def S_l_likeFrames : Spec := ⟨(.pair TFrame (.pair TFrame .unit)), (.pair .bool .unit), .unit, rfl, l_likeFrames⟩
noncomputable def σ_l_likeFrames : FuncId → Option Spec := sig [(39, S_l_likeInts)]
theorem σok_l_likeFrames : ∀ f s, σ_l_likeFrames f = some s → FnOK Try.prog f s := sig_ok (l := [(39, S_l_likeInts)]) ⟨ok_l_likeInts, trivial⟩
noncomputable def Λ_l_likeFrames : Nat → Option LSpec := lkp (loopList (bodyOf Try.f106)) []
theorem ok_l_likeFrames : FnOK Try.prog 106 S_l_likeFrames := fn_ok (Λ := Λ_l_likeFrames) tab0 σok_l_likeFrames Try.func106 (by kernel_rfl) (show Try.f106.body = some (bodyOf Try.f106) by kernel_rfl) [] rfl (by kernel_rfl) (by exact trivial) (by kernel_rfl)
  fun x y h => (show execFn Γ0 E0 σ_l_likeFrames Λ_l_likeFrames Try.f106 S_l_likeFrames x = l_likeFrames x by kernel_rfl).trans h

noncomputable def l_likeVerdicts (x : Ty.T (.pair TVerdict (.pair TVerdict .unit))) : Option (Ty.T (.pair .bool .unit)) :=
match (x.1.1 == x.2.1.1) with
| true =>
 match l_likeFrames ((x.1.2.1.1, x.1.2.1.2.1, (x.1.2.1.2.2.1.1, x.1.2.1.2.2.1.2.1, x.1.2.1.2.2.1.2.2.1, x.1.2.1.2.2.1.2.2.2.1, x.1.2.1.2.2.1.2.2.2.2.1, ()), x.1.2.1.2.2.2.1, ()), (x.2.1.2.1.1, x.2.1.2.1.2.1, (x.2.1.2.1.2.2.1.1, x.2.1.2.1.2.2.1.2.1, x.2.1.2.1.2.2.1.2.2.1, x.2.1.2.1.2.2.1.2.2.2.1, x.2.1.2.1.2.2.1.2.2.2.2.1, ()), x.2.1.2.1.2.2.2.1, ()), ()) with
 | none => none
 | some v1 =>
 some (v1.1, ())
| false =>
 some (false, ())
noncomputable def S_l_likeVerdicts : Spec := ⟨(.pair TVerdict (.pair TVerdict .unit)), (.pair .bool .unit), .unit, rfl, l_likeVerdicts⟩
noncomputable def σ_l_likeVerdicts : FuncId → Option Spec := sig [(106, S_l_likeFrames)]
theorem σok_l_likeVerdicts : ∀ f s, σ_l_likeVerdicts f = some s → FnOK Try.prog f s := sig_ok (l := [(106, S_l_likeFrames)]) ⟨ok_l_likeFrames, trivial⟩
noncomputable def Λ_l_likeVerdicts : Nat → Option LSpec := lkp (loopList (bodyOf Try.f60)) []
theorem ok_l_likeVerdicts : FnOK Try.prog 60 S_l_likeVerdicts := fn_ok (Λ := Λ_l_likeVerdicts) tab0 σok_l_likeVerdicts Try.func60 (by kernel_rfl) (show Try.f60.body = some (bodyOf Try.f60) by kernel_rfl) [] rfl (by kernel_rfl) (by exact trivial) (by kernel_rfl)
  fun x y h => (show execFn Γ0 E0 σ_l_likeVerdicts Λ_l_likeVerdicts Try.f60 S_l_likeVerdicts x = l_likeVerdicts x by kernel_rfl).trans h

noncomputable def l_FnMerged (x : Ty.T (.pair (.list (.int .u8)) .unit)) : Option (Ty.T (.pair .bool .unit)) :=
match l_big (x.1, ()) with
| none => none
| some v1 =>
match v1.1 with
| true =>
 some (true, ())
| false =>
 match s_DrawMergeVerdicts (x.1, ()) with
 | none => none
 | some v2 =>
 match i_MergeVerdicts ((v2.1.1, (v2.1.2.1.1, v2.1.2.1.2.1, (v2.1.2.1.2.2.1.1, v2.1.2.1.2.2.1.2.1, v2.1.2.1.2.2.1.2.2.1, v2.1.2.1.2.2.1.2.2.2.1, v2.1.2.1.2.2.1.2.2.2.2.1, ()), v2.1.2.1.2.2.2.1, ()), ()), (v2.2.1.1, (v2.2.1.2.1.1, v2.2.1.2.1.2.1, (v2.2.1.2.1.2.2.1.1, v2.2.1.2.1.2.2.1.2.1, v2.2.1.2.1.2.2.1.2.2.1, v2.2.1.2.1.2.2.1.2.2.2.1, v2.2.1.2.1.2.2.1.2.2.2.2.1, ()), v2.2.1.2.1.2.2.2.1, ()), ()), ()) with
 | none => none
 | some v3 =>
 match s_MergeVerdicts ((v2.1.1, (v2.1.2.1.1, v2.1.2.1.2.1, (v2.1.2.1.2.2.1.1, v2.1.2.1.2.2.1.2.1, v2.1.2.1.2.2.1.2.2.1, v2.1.2.1.2.2.1.2.2.2.1, v2.1.2.1.2.2.1.2.2.2.2.1, ()), v2.1.2.1.2.2.2.1, ()), ()), (v2.2.1.1, (v2.2.1.2.1.1, v2.2.1.2.1.2.1, (v2.2.1.2.1.2.2.1.1, v2.2.1.2.1.2.2.1.2.1, v2.2.1.2.1.2.2.1.2.2.1, v2.2.1.2.1.2.2.1.2.2.2.1, v2.2.1.2.1.2.2.1.2.2.2.2.1, ()), v2.2.1.2.1.2.2.2.1, ()), ()), ()) with
 | none => none
 | some v4 =>
 match (v3.2.1 != v4.2.1) with
 | true =>
  some (false, ())
 | false =>
  match l_likeVerdicts ((v3.1.1, (v3.1.2.1.1, v3.1.2.1.2.1, (v3.1.2.1.2.2.1.1, v3.1.2.1.2.2.1.2.1, v3.1.2.1.2.2.1.2.2.1, v3.1.2.1.2.2.1.2.2.2.1, v3.1.2.1.2.2.1.2.2.2.2.1, ()), v3.1.2.1.2.2.2.1, ()), ()), (v4.1.1, (v4.1.2.1.1, v4.1.2.1.2.1, (v4.1.2.1.2.2.1.1, v4.1.2.1.2.2.1.2.1, v4.1.2.1.2.2.1.2.2.1, v4.1.2.1.2.2.1.2.2.2.1, v4.1.2.1.2.2.1.2.2.2.2.1, ()), v4.1.2.1.2.2.2.1, ()), ()), ()) with
  | none => none
  | some v5 =>
  match (!v5.1) with
  | true =>
   some (false, ())
  | false =>
   match (v3.2.1 != (0 : Int)) with
   | true =>
    some (true, ())
   | false =>
    match i_MergeVerdicts ((v2.2.1.1, (v2.2.1.2.1.1, v2.2.1.2.1.2.1, (v2.2.1.2.1.2.2.1.1, v2.2.1.2.1.2.2.1.2.1, v2.2.1.2.1.2.2.1.2.2.1, v2.2.1.2.1.2.2.1.2.2.2.1, v2.2.1.2.1.2.2.1.2.2.2.2.1, ()), v2.2.1.2.1.2.2.2.1, ()), ()), (v2.1.1, (v2.1.2.1.1, v2.1.2.1.2.1, (v2.1.2.1.2.2.1.1, v2.1.2.1.2.2.1.2.1, v2.1.2.1.2.2.1.2.2.1, v2.1.2.1.2.2.1.2.2.2.1, v2.1.2.1.2.2.1.2.2.2.2.1, ()), v2.1.2.1.2.2.2.1, ()), ()), ()) with
    | none => none
    | some v6 =>
    match i_MergeVerdicts ((v2.1.1, (v2.1.2.1.1, v2.1.2.1.2.1, (v2.1.2.1.2.2.1.1, v2.1.2.1.2.2.1.2.1, v2.1.2.1.2.2.1.2.2.1, v2.1.2.1.2.2.1.2.2.2.1, v2.1.2.1.2.2.1.2.2.2.2.1, ()), v2.1.2.1.2.2.2.1, ()), ()), (v2.1.1, (v2.1.2.1.1, v2.1.2.1.2.1, (v2.1.2.1.2.2.1.1, v2.1.2.1.2.2.1.2.1, v2.1.2.1.2.2.1.2.2.1, v2.1.2.1.2.2.1.2.2.2.1, v2.1.2.1.2.2.1.2.2.2.2.1, ()), v2.1.2.1.2.2.2.1, ()), ()), ()) with
    | none => none
    | some v7 =>
    match i_MergeVerdicts ((v2.1.1, (v2.1.2.1.1, v2.1.2.1.2.1, (v2.1.2.1.2.2.1.1, v2.1.2.1.2.2.1.2.1, v2.1.2.1.2.2.1.2.2.1, v2.1.2.1.2.2.1.2.2.2.1, v2.1.2.1.2.2.1.2.2.2.2.1, ()), v2.1.2.1.2.2.2.1, ()), ()), ((0 : Int), ((0 : Int), (0 : Int), ((0 : Int), (0 : Int), (0 : Int), (0 : Int), (0 : Int), ()), [], ()), ()), ()) with
    | none => none
    | some v8 =>
    match (v6.2.1 == (0 : Int)) with
    | true =>
     match (v7.2.1 == (0 : Int)) with
     | true =>
      match (v8.2.1 == (0 : Int)) with
      | true =>
       match l_likeVerdicts ((v6.1.1, (v6.1.2.1.1, v6.1.2.1.2.1, (v6.1.2.1.2.2.1.1, v6.1.2.1.2.2.1.2.1, v6.1.2.1.2.2.1.2.2.1, v6.1.2.1.2.2.1.2.2.2.1, v6.1.2.1.2.2.1.2.2.2.2.1, ()), v6.1.2.1.2.2.2.1, ()), ()), (v3.1.1, (v3.1.2.1.1, v3.1.2.1.2.1, (v3.1.2.1.2.2.1.1, v3.1.2.1.2.2.1.2.1, v3.1.2.1.2.2.1.2.2.1, v3.1.2.1.2.2.1.2.2.2.1, v3.1.2.1.2.2.1.2.2.2.2.1, ()), v3.1.2.1.2.2.2.1, ()), ()), ()) with
       | none => none
       | some v9 =>
       match v9.1 with
       | true =>
        match l_likeVerdicts ((v7.1.1, (v7.1.2.1.1, v7.1.2.1.2.1, (v7.1.2.1.2.2.1.1, v7.1.2.1.2.2.1.2.1, v7.1.2.1.2.2.1.2.2.1, v7.1.2.1.2.2.1.2.2.2.1, v7.1.2.1.2.2.1.2.2.2.2.1, ()), v7.1.2.1.2.2.2.1, ()), ()), (v2.1.1, (v2.1.2.1.1, v2.1.2.1.2.1, (v2.1.2.1.2.2.1.1, v2.1.2.1.2.2.1.2.1, v2.1.2.1.2.2.1.2.2.1, v2.1.2.1.2.2.1.2.2.2.1, v2.1.2.1.2.2.1.2.2.2.2.1, ()), v2.1.2.1.2.2.2.1, ()), ()), ()) with
        | none => none
        | some v10 =>
        match v10.1 with
        | true =>
         match l_likeVerdicts ((v8.1.1, (v8.1.2.1.1, v8.1.2.1.2.1, (v8.1.2.1.2.2.1.1, v8.1.2.1.2.2.1.2.1, v8.1.2.1.2.2.1.2.2.1, v8.1.2.1.2.2.1.2.2.2.1, v8.1.2.1.2.2.1.2.2.2.2.1, ()), v8.1.2.1.2.2.2.1, ()), ()), (v2.1.1, (v2.1.2.1.1, v2.1.2.1.2.1, (v2.1.2.1.2.2.1.1, v2.1.2.1.2.2.1.2.1, v2.1.2.1.2.2.1.2.2.1, v2.1.2.1.2.2.1.2.2.2.1, v2.1.2.1.2.2.1.2.2.2.2.1, ()), v2.1.2.1.2.2.2.1, ()), ()), ()) with
         | none => none
         | some v11 =>
         match v11.1 with
         | true =>
          match i_IsVerdict ((v3.1.1, (v3.1.2.1.1, v3.1.2.1.2.1, (v3.1.2.1.2.2.1.1, v3.1.2.1.2.2.1.2.1, v3.1.2.1.2.2.1.2.2.1, v3.1.2.1.2.2.1.2.2.2.1, v3.1.2.1.2.2.1.2.2.2.2.1, ()), v3.1.2.1.2.2.2.1, ()), ()), ()) with
          | none => none
          | some v12 =>
          some (v12.1, ())
         | false =>
          some (false, ())
        | false =>
         some (false, ())
       | false =>
        some (false, ())
      | false =>
       some (false, ())
     | false =>
      some (false, ())
    | false =>
     some (false, ())
noncomputable def S_l_FnMerged : Spec := ⟨(.pair (.list (.int .u8)) .unit), (.pair .bool .unit), .unit, rfl, l_FnMerged⟩
noncomputable def σ_l_FnMerged : FuncId → Option Spec := sig [(29, S_l_big), (57, S_s_DrawMergeVerdicts), (58, S_i_MergeVerdicts), (59, S_s_MergeVerdicts), (60, S_l_likeVerdicts), (61, S_i_IsVerdict)]
theorem σok_l_FnMerged : ∀ f s, σ_l_FnMerged f = some s → FnOK Try.prog f s := sig_ok (l := [(29, S_l_big), (57, S_s_DrawMergeVerdicts), (58, S_i_MergeVerdicts), (59, S_s_MergeVerdicts), (60, S_l_likeVerdicts), (61, S_i_IsVerdict)]) ⟨ok_l_big, ok_s_DrawMergeVerdicts, ok_i_MergeVerdicts, ok_s_MergeVerdicts, ok_l_likeVerdicts, ok_i_IsVerdict, trivial⟩
noncomputable def Λ_l_FnMerged : Nat → Option LSpec := lkp (loopList (bodyOf Try.f13)) []
theorem ok_l_FnMerged : FnOK Try.prog 13 S_l_FnMerged := fn_ok (Λ := Λ_l_FnMerged) tab0 σok_l_FnMerged Try.func13 (by kernel_rfl) (show Try.f13.body = some (bodyOf Try.f13) by kernel_rfl) [] rfl (by kernel_rfl) (by exact trivial) (by kernel_rfl)
  fun x y h => (show execFn Γ0 E0 σ_l_FnMerged Λ_l_FnMerged Try.f13 S_l_FnMerged x = l_FnMerged x by kernel_rfl).trans h

noncomputable def l_markFrame (x : Ty.T (.pair (.pair (.int .i64) (.pair (.int .i64) (.pair TState (.pair (.own 2 (.int .i64)) .unit)))) (.pair (.int .i64) .unit))) : Option (Ty.T (.pair (.int .i64) (.pair (.pair (.int .i64) (.pair (.int .i64) (.pair TState (.pair (.own 2 (.int .i64)) .unit)))) .unit))) :=
match l_markInt64S (x.1.2.2.2.1, x.2.1, ()) with
| none => none
| some v1 =>
some (v1.1, (x.1.1, x.1.2.1, (x.1.2.2.1.1, x.1.2.2.1.2.1, x.1.2.2.1.2.2.1, x.1.2.2.1.2.2.2.1, x.1.2.2.1.2.2.2.2.1, ()), v1.2.1, ()), ())
noncomputable def S_l_markFrame : Spec := ⟨(.pair (.pair (.int .i64) (.pair (.int .i64) (.pair TState (.pair (.own 2 (.int .i64)) .unit)))) (.pair (.int .i64) .unit)), (.pair (.int .i64) .unit), (.pair (.pair (.int .i64) (.pair (.int .i64) (.pair TState (.pair (.own 2 (.int .i64)) .unit)))) .unit), rfl, l_markFrame⟩
noncomputable def σ_l_markFrame : FuncId → Option Spec := sig [(25, S_l_markInt64S)]
theorem σok_l_markFrame : ∀ f s, σ_l_markFrame f = some s → FnOK Try.prog f s := sig_ok (l := [(25, S_l_markInt64S)]) ⟨ok_l_markInt64S, trivial⟩
noncomputable def Λ_l_markFrame : Nat → Option LSpec := lkp (loopList (bodyOf Try.f112)) []
theorem ok_l_markFrame : FnOK Try.prog 112 S_l_markFrame := fn_ok (Λ := Λ_l_markFrame) tab0 σok_l_markFrame Try.func112 (by kernel_rfl) (show Try.f112.body = some (bodyOf Try.f112) by kernel_rfl) [] rfl (by kernel_rfl) (by exact trivial) (by kernel_rfl)
  fun x y h => (show execFn Γ0 E0 σ_l_markFrame Λ_l_markFrame Try.f112 S_l_markFrame x = l_markFrame x by kernel_rfl).trans h

noncomputable def l_markVerdict (x : Ty.T (.pair (.pair (.int .i64) (.pair (.pair (.int .i64) (.pair (.int .i64) (.pair TState (.pair (.own 2 (.int .i64)) .unit)))) .unit)) (.pair (.int .i64) .unit))) : Option (Ty.T (.pair (.int .i64) (.pair (.pair (.int .i64) (.pair (.pair (.int .i64) (.pair (.int .i64) (.pair TState (.pair (.own 2 (.int .i64)) .unit)))) .unit)) .unit))) :=
match l_markFrame ((x.1.2.1.1, x.1.2.1.2.1, (x.1.2.1.2.2.1.1, x.1.2.1.2.2.1.2.1, x.1.2.1.2.2.1.2.2.1, x.1.2.1.2.2.1.2.2.2.1, x.1.2.1.2.2.1.2.2.2.2.1, ()), x.1.2.1.2.2.2.1, ()), x.2.1, ()) with
| none => none
| some v1 =>
some (v1.1, (x.1.1, (x.1.2.1.1, x.1.2.1.2.1, (x.1.2.1.2.2.1.1, x.1.2.1.2.2.1.2.1, x.1.2.1.2.2.1.2.2.1, x.1.2.1.2.2.1.2.2.2.1, x.1.2.1.2.2.1.2.2.2.2.1, ()), v1.2.1.2.2.2.1, ()), ()), ())
noncomputable def S_l_markVerdict : Spec := ⟨(.pair (.pair (.int .i64) (.pair (.pair (.int .i64) (.pair (.int .i64) (.pair TState (.pair (.own 2 (.int .i64)) .unit)))) .unit)) (.pair (.int .i64) .unit)), (.pair (.int .i64) .unit), (.pair (.pair (.int .i64) (.pair (.pair (.int .i64) (.pair (.int .i64) (.pair TState (.pair (.own 2 (.int .i64)) .unit)))) .unit)) .unit), rfl, l_markVerdict⟩
noncomputable def σ_l_markVerdict : FuncId → Option Spec := sig [(112, S_l_markFrame)]
theorem σok_l_markVerdict : ∀ f s, σ_l_markVerdict f = some s → FnOK Try.prog f s := sig_ok (l := [(112, S_l_markFrame)]) ⟨ok_l_markFrame, trivial⟩
noncomputable def Λ_l_markVerdict : Nat → Option LSpec := lkp (loopList (bodyOf Try.f65)) []
theorem ok_l_markVerdict : FnOK Try.prog 65 S_l_markVerdict := fn_ok (Λ := Λ_l_markVerdict) tab0 σok_l_markVerdict Try.func65 (by kernel_rfl) (show Try.f65.body = some (bodyOf Try.f65) by kernel_rfl) [] rfl (by kernel_rfl) (by exact trivial) (by kernel_rfl)
  fun x y h => (show execFn Γ0 E0 σ_l_markVerdict Λ_l_markVerdict Try.f65 S_l_markVerdict x = l_markVerdict x by kernel_rfl).trans h

noncomputable def l_heldFrame (x : Ty.T (.pair TFrame (.pair (.int .i64) .unit))) : Option (Ty.T (.pair (.int .i64) .unit)) :=
match l_heldInt64S (x.1.2.2.2.1, x.2.1, ()) with
| none => none
| some v1 =>
match (decide (v1.1 < (0 : Int))) with
| true =>
 some ((-1 : Int), ())
| false =>
 some (v1.1, ())
noncomputable def S_l_heldFrame : Spec := ⟨(.pair TFrame (.pair (.int .i64) .unit)), (.pair (.int .i64) .unit), .unit, rfl, l_heldFrame⟩
noncomputable def σ_l_heldFrame : FuncId → Option Spec := sig [(26, S_l_heldInt64S)]
theorem σok_l_heldFrame : ∀ f s, σ_l_heldFrame f = some s → FnOK Try.prog f s := sig_ok (l := [(26, S_l_heldInt64S)]) ⟨ok_l_heldInt64S, trivial⟩
noncomputable def Λ_l_heldFrame : Nat → Option LSpec := lkp (loopList (bodyOf Try.f113)) []
theorem ok_l_heldFrame : FnOK Try.prog 113 S_l_heldFrame := fn_ok (Λ := Λ_l_heldFrame) tab0 σok_l_heldFrame Try.func113 (by kernel_rfl) (show Try.f113.body = some (bodyOf Try.f113) by kernel_rfl) [] rfl (by kernel_rfl) (by exact trivial) (by kernel_rfl)
  fun x y h => (show execFn Γ0 E0 σ_l_heldFrame Λ_l_heldFrame Try.f113 S_l_heldFrame x = l_heldFrame x by kernel_rfl).trans h

noncomputable def l_heldVerdict (x : Ty.T (.pair TVerdict (.pair (.int .i64) .unit))) : Option (Ty.T (.pair (.int .i64) .unit)) :=
match l_heldFrame ((x.1.2.1.1, x.1.2.1.2.1, (x.1.2.1.2.2.1.1, x.1.2.1.2.2.1.2.1, x.1.2.1.2.2.1.2.2.1, x.1.2.1.2.2.1.2.2.2.1, x.1.2.1.2.2.1.2.2.2.2.1, ()), x.1.2.1.2.2.2.1, ()), x.2.1, ()) with
| none => none
| some v1 =>
match (decide (v1.1 < (0 : Int))) with
| true =>
 some ((-1 : Int), ())
| false =>
 some (v1.1, ())
noncomputable def S_l_heldVerdict : Spec := ⟨(.pair TVerdict (.pair (.int .i64) .unit)), (.pair (.int .i64) .unit), .unit, rfl, l_heldVerdict⟩
noncomputable def σ_l_heldVerdict : FuncId → Option Spec := sig [(113, S_l_heldFrame)]
theorem σok_l_heldVerdict : ∀ f s, σ_l_heldVerdict f = some s → FnOK Try.prog f s := sig_ok (l := [(113, S_l_heldFrame)]) ⟨ok_l_heldFrame, trivial⟩
noncomputable def Λ_l_heldVerdict : Nat → Option LSpec := lkp (loopList (bodyOf Try.f66)) []
theorem ok_l_heldVerdict : FnOK Try.prog 66 S_l_heldVerdict := fn_ok (Λ := Λ_l_heldVerdict) tab0 σok_l_heldVerdict Try.func66 (by kernel_rfl) (show Try.f66.body = some (bodyOf Try.f66) by kernel_rfl) [] rfl (by kernel_rfl) (by exact trivial) (by kernel_rfl)
  fun x y h => (show execFn Γ0 E0 σ_l_heldVerdict Λ_l_heldVerdict Try.f66 S_l_heldVerdict x = l_heldVerdict x by kernel_rfl).trans h

end Go.Proofs.Ytgjbodfkjfieaaa
