/- What the functions of the claim do, on data; written by the program gen.py. -/
import Derived.Test.YtmdflpfagbcaiaaLoop
import Derived.Test.YtmdflpfagbcaiaaProg
import Derived.KernelRfl
namespace Go.Proofs.Ytmdflpfagbcaiaa
open Go.RowKit
set_option linter.unusedVariables false

def bodyOf (f : Func) : Code := match f.body with | some c => c | none => .skip
def nthLoop (f : Func) (i : Nat) : Code := (loopList (bodyOf f)).getD i .skip
abbrev TerrorAddressString : Ty := (.pair .str (.pair (.int .u64) .unit))
abbrev TStarter : Ty := (.pair (.int .i64) (.pair (.int .i64) (.pair (.int .i64) (.pair (.int .i64) .unit))))
abbrev TState : Ty := (.pair (.int .i64) TStarter)
abbrev TFrame : Ty := (.pair (.int .i64) (.pair (.int .i64) (.pair TState (.pair (.list (.int .i64)) .unit))))
abbrev TVerdict : Ty := (.pair (.int .i64) (.pair TFrame .unit))
abbrev TStep : Ty := (.pair (.int .i64) (.pair (.int .i64) (.pair (.list TStarter) (.pair (.list TStarter) .unit))))
abbrev Tdice : Ty := (.pair (.list (.int .u8)) (.pair (.int .i64) (.pair (.int .u64) .unit)))
abbrev Tl01Source : Ty := (.pair (.list (.int .u8)) (.pair (.int .i64) (.pair (.int .i64) .unit)))
abbrev TboundsError : Ty := (.pair (.int .i64) (.pair (.int .i64) (.pair .bool (.pair (.int .u8) .unit))))
def Γ0 : Tab := [(2, (.int .i64)), (3, (.int .i64)), (4, .bool), (5, (.int .u8)), (9, .str), (22, (.list TStep)), (28, (.list TStarter)), (30, (.list TStarter)), (37, (.list (.int .u8))), (43, (.list (.int .i64))), (47, TStarter), (52, TState), (54, TFrame), (56, TVerdict), (63, TState), (65, TFrame), (67, TVerdict), (72, (.list TVerdict)), (75, (.list TVerdict)), (87, (.int .u64)), (95, (.list TStarter)), (97, TStep), (100, TStarter), (114, (.list (.int .i64))), (128, Tdice), (129, (.int .u64)), (133, TStarter), (134, (.list (.list TStarter))), (137, Tl01Source), (165, (.int .u32)), (167, (.int .u64))]
def E0 : Elems := [(22, 97), (28, 100), (30, 47), (37, 5), (43, 2), (72, 67), (75, 56), (95, 133), (114, 3), (134, 30)]
theorem tab0 : tabB Try.prog Γ0 E0 = true := by kernel_rfl

def Γ1 : Tab := [(2, (.int .i64)), (22, (.list (.pair (.int .i64) (.pair (.int .i64) (.pair (.own 133 TStarter) (.pair (.own 133 TStarter) .unit)))))), (95, (.list TStarter)), (97, TStep)]
def E1 : Elems := [(22, 97)]
theorem tab1 : tabB Try.prog Γ1 E1 = true := by kernel_rfl

def Γ2 : Tab := [(2, (.int .i64)), (43, (.list (.int .i64))), (52, TState), (54, TFrame), (56, TVerdict), (67, TVerdict), (72, (.list TVerdict)), (75, (.list (.pair (.int .i64) (.pair (.pair (.int .i64) (.pair (.int .i64) (.pair TState (.pair (.own 2 (.int .i64)) .unit)))) .unit))))]
def E2 : Elems := [(72, 67), (75, 56)]
theorem tab2 : tabB Try.prog Γ2 E2 = true := by kernel_rfl

noncomputable def s_l01In (x : Ty.T (.pair (.int .i64) (.pair (.int .i64) (.pair (.int .i64) .unit)))) : Option (Ty.T (.pair .bool .unit)) :=
match (decide (x.1 ≥ x.2.1)) with
| true =>
 some ((decide (x.1 ≤ x.2.2.1)), ())
| false =>
 some (false, ())
noncomputable def S_s_l01In : Spec := ⟨(.pair (.int .i64) (.pair (.int .i64) (.pair (.int .i64) .unit))), (.pair .bool .unit), .unit, rfl, s_l01In⟩
noncomputable def σ_s_l01In : FuncId → Option Spec := sig []
theorem σok_s_l01In : ∀ f s, σ_s_l01In f = some s → FnOK Try.prog f s := sig_ok (l := []) trivial
noncomputable def Λ_s_l01In : Nat → Option LSpec := lkp (loopList (bodyOf Try.f73)) []
theorem ok_s_l01In : FnOK Try.prog 73 S_s_l01In := fn_ok (Λ := Λ_s_l01In) tab0 σok_s_l01In Try.func73 (by kernel_rfl) (show Try.f73.body = some (bodyOf Try.f73) by kernel_rfl) [] rfl (by kernel_rfl) (by exact trivial) (by kernel_rfl)
  fun x y h => (show execFn Γ0 E0 σ_s_l01In Λ_s_l01In Try.f73 S_s_l01In x = s_l01In x by kernel_rfl).trans h

noncomputable def s_QuietSteps (x : Ty.T (.pair (.int .i64) .unit)) : Option (Ty.T (.pair (.own 97 (.pair (.int .i64) (.pair (.int .i64) (.pair (.own 133 TStarter) (.pair (.own 133 TStarter) .unit))))) (.pair (.int .i64) .unit))) :=
match s_l01In (x.1, (0 : Int), (40 : Int), ()) with
| none => none
| some v1 =>
match (!v1.1) with
| true =>
 some ([], (3 : Int), ())
| false =>
 if 0 ≤ x.1 ∧ x.1 ≤ x.1 then
  room (x.1.toNat) (
   some ((List.replicate x.1.toNat ((0 : Int), (0 : Int), [], [], ())), (0 : Int), ()))
 else none
noncomputable def S_s_QuietSteps : Spec := ⟨(.pair (.int .i64) .unit), (.pair (.own 97 (.pair (.int .i64) (.pair (.int .i64) (.pair (.own 133 TStarter) (.pair (.own 133 TStarter) .unit))))) (.pair (.int .i64) .unit)), .unit, rfl, s_QuietSteps⟩
noncomputable def σ_s_QuietSteps : FuncId → Option Spec := sig [(73, S_s_l01In)]
theorem σok_s_QuietSteps : ∀ f s, σ_s_QuietSteps f = some s → FnOK Try.prog f s := sig_ok (l := [(73, S_s_l01In)]) ⟨ok_s_l01In, trivial⟩
noncomputable def Λ_s_QuietSteps : Nat → Option LSpec := lkp (loopList (bodyOf Try.f14)) []
theorem ok_s_QuietSteps : FnOK Try.prog 14 S_s_QuietSteps := fn_ok (Λ := Λ_s_QuietSteps) tab1 σok_s_QuietSteps Try.func14 (by kernel_rfl) (show Try.f14.body = some (bodyOf Try.f14) by kernel_rfl) [] rfl (by kernel_rfl) (by exact trivial) (by kernel_rfl)
  fun x y h => (show execFn Γ1 E1 σ_s_QuietSteps Λ_s_QuietSteps Try.f14 S_s_QuietSteps x = s_QuietSteps x by kernel_rfl).trans h

noncomputable def i_within (x : Ty.T (.pair (.int .i64) (.pair (.int .i64) (.pair (.int .i64) .unit)))) : Option (Ty.T (.pair .bool .unit)) :=
match (decide (x.1 ≥ x.2.1)) with
| true =>
 some ((decide (x.1 ≤ x.2.2.1)), ())
| false =>
 some (false, ())
noncomputable def S_i_within : Spec := ⟨(.pair (.int .i64) (.pair (.int .i64) (.pair (.int .i64) .unit))), (.pair .bool .unit), .unit, rfl, i_within⟩
noncomputable def σ_i_within : FuncId → Option Spec := sig []
theorem σok_i_within : ∀ f s, σ_i_within f = some s → FnOK Try.prog f s := sig_ok (l := []) trivial
noncomputable def Λ_i_within : Nat → Option LSpec := lkp (loopList (bodyOf Try.f74)) []
theorem ok_i_within : FnOK Try.prog 74 S_i_within := fn_ok (Λ := Λ_i_within) tab0 σok_i_within Try.func74 (by kernel_rfl) (show Try.f74.body = some (bodyOf Try.f74) by kernel_rfl) [] rfl (by kernel_rfl) (by exact trivial) (by kernel_rfl)
  fun x y h => (show execFn Γ0 E0 σ_i_within Λ_i_within Try.f74 S_i_within x = i_within x by kernel_rfl).trans h

noncomputable def i_QuietSteps (x : Ty.T (.pair (.int .i64) .unit)) : Option (Ty.T (.pair (.own 97 (.pair (.int .i64) (.pair (.int .i64) (.pair (.own 133 TStarter) (.pair (.own 133 TStarter) .unit))))) (.pair (.int .i64) .unit))) :=
match i_within (x.1, (0 : Int), (40 : Int), ()) with
| none => none
| some v1 =>
match (!v1.1) with
| true =>
 some ([], (3 : Int), ())
| false =>
 if 0 ≤ x.1 ∧ x.1 ≤ x.1 then
  room (x.1.toNat) (
   some ((List.replicate x.1.toNat ((0 : Int), (0 : Int), [], [], ())), (0 : Int), ()))
 else none
noncomputable def S_i_QuietSteps : Spec := ⟨(.pair (.int .i64) .unit), (.pair (.own 97 (.pair (.int .i64) (.pair (.int .i64) (.pair (.own 133 TStarter) (.pair (.own 133 TStarter) .unit))))) (.pair (.int .i64) .unit)), .unit, rfl, i_QuietSteps⟩
noncomputable def σ_i_QuietSteps : FuncId → Option Spec := sig [(74, S_i_within)]
theorem σok_i_QuietSteps : ∀ f s, σ_i_QuietSteps f = some s → FnOK Try.prog f s := sig_ok (l := [(74, S_i_within)]) ⟨ok_i_within, trivial⟩
noncomputable def Λ_i_QuietSteps : Nat → Option LSpec := lkp (loopList (bodyOf Try.f15)) []
theorem ok_i_QuietSteps : FnOK Try.prog 15 S_i_QuietSteps := fn_ok (Λ := Λ_i_QuietSteps) tab1 σok_i_QuietSteps Try.func15 (by kernel_rfl) (show Try.f15.body = some (bodyOf Try.f15) by kernel_rfl) [] rfl (by kernel_rfl) (by exact trivial) (by kernel_rfl)
  fun x y h => (show execFn Γ1 E1 σ_i_QuietSteps Λ_i_QuietSteps Try.f15 S_i_QuietSteps x = i_QuietSteps x by kernel_rfl).trans h

noncomputable def l_eqFault (x : Ty.T (.pair TStarter (.pair TStarter .unit))) : Option (Ty.T (.pair .bool .unit)) :=
match (x.1.1 != x.2.1.1) with
| true =>
 some (false, ())
| false =>
 match (x.1.2.1 != x.2.1.2.1) with
 | true =>
  some (false, ())
 | false =>
  match (x.1.2.2.1 != x.2.1.2.2.1) with
  | true =>
   some (false, ())
  | false =>
   match (x.1.2.2.2.1 != x.2.1.2.2.2.1) with
   | true =>
    some (false, ())
   | false =>
    some (true, ())
noncomputable def S_l_eqFault : Spec := ⟨(.pair TStarter (.pair TStarter .unit)), (.pair .bool .unit), .unit, rfl, l_eqFault⟩
noncomputable def σ_l_eqFault : FuncId → Option Spec := sig []
theorem σok_l_eqFault : ∀ f s, σ_l_eqFault f = some s → FnOK Try.prog f s := sig_ok (l := []) trivial
noncomputable def Λ_l_eqFault : Nat → Option LSpec := lkp (loopList (bodyOf Try.f146)) []
theorem ok_l_eqFault : FnOK Try.prog 146 S_l_eqFault := fn_ok (Λ := Λ_l_eqFault) tab0 σok_l_eqFault Try.func146 (by kernel_rfl) (show Try.f146.body = some (bodyOf Try.f146) by kernel_rfl) [] rfl (by kernel_rfl) (by exact trivial) (by kernel_rfl)
  fun x y h => (show execFn Γ0 E0 σ_l_eqFault Λ_l_eqFault Try.f146 S_l_eqFault x = l_eqFault x by kernel_rfl).trans h

noncomputable def b_l_eqFaultS_4 (x : (Ty.T (.pair (.list TStarter) (.pair (.list TStarter) (.pair (.int .i64) .unit))))) : Option ((Ty.T (.pair (.list TStarter) (.pair (.list TStarter) (.pair (.int .i64) .unit)))) ⊕ ((Ty.T .unit) ⊕ (Ty.T (.pair .bool .unit)))) :=
match (decide (x.2.2.1 < (x.1.length : Int))) with
| true =>
 onSome (idx x.1 x.2.2.1) fun v1 =>
 onSome (idx x.2.1 x.2.2.1) fun v2 =>
 match l_eqFault (v1, v2, ()) with
 | none => none
 | some v3 =>
 match (!v3.1) with
 | true =>
  some (.inr (.inr (false, ())))
 | false =>
  some (.inl (x.1, x.2.1, (IntKind.i64.wrap (x.2.2.1 + (1 : Int))), ()))
| false =>
 some (.inr (.inl (())))
noncomputable def l_eqFaultS (x : Ty.T (.pair (.list TStarter) (.pair (.list TStarter) .unit))) : Option (Ty.T (.pair .bool .unit)) :=
match ((x.1.length : Int) != (x.2.1.length : Int)) with
| true =>
 some (false, ())
| false =>
 match loopL b_l_eqFaultS_4 (x.1, x.2.1, (0 : Int), ()) with
 | none => none
 | some (.inl v4) =>
  some (true, ())
 | some (.inr v5) =>
  some (v5.1, ())
noncomputable def S_l_eqFaultS : Spec := ⟨(.pair (.list TStarter) (.pair (.list TStarter) .unit)), (.pair .bool .unit), .unit, rfl, l_eqFaultS⟩
noncomputable def σ_l_eqFaultS : FuncId → Option Spec := sig [(146, S_l_eqFault)]
theorem σok_l_eqFaultS : ∀ f s, σ_l_eqFaultS f = some s → FnOK Try.prog f s := sig_ok (l := [(146, S_l_eqFault)]) ⟨ok_l_eqFault, trivial⟩
noncomputable def Λ_l_eqFaultS : Nat → Option LSpec := lkp (loopList (bodyOf Try.f121)) [⟨[0, 1, 5], (.pair (.list TStarter) (.pair (.list TStarter) (.pair (.int .i64) .unit))), 0, [], .unit, [4], (.pair .bool .unit), loopL b_l_eqFaultS_4⟩]
theorem lok_l_eqFaultS_4 (x) : codeK Γ0 E0 σ_l_eqFaultS Λ_l_eqFaultS Try.f121.ntmps (nthLoop Try.f121 0) (mkF Try.f121.ntmps [0, 1, 5] (.pair (.list TStarter) (.pair (.list TStarter) (.pair (.int .i64) .unit))) x) (readK σ_l_eqFaultS Try.f121.ntmps [0, 1, 5] (.pair (.list TStarter) (.pair (.list TStarter) (.pair (.int .i64) .unit))) 0 [] .unit [4] (.pair .bool .unit)) = b_l_eqFaultS_4 x := by kernel_rfl
theorem ok_l_eqFaultS : FnOK Try.prog 121 S_l_eqFaultS := fn_ok (Λ := Λ_l_eqFaultS) tab0 σok_l_eqFaultS Try.func121 (by kernel_rfl) (show Try.f121.body = some (bodyOf Try.f121) by kernel_rfl) [⟨[0, 1, 5], (.pair (.list TStarter) (.pair (.list TStarter) (.pair (.int .i64) .unit))), 0, [], .unit, [4], (.pair .bool .unit), loopL b_l_eqFaultS_4⟩] rfl (by kernel_rfl) (by exact ⟨loop_LOK (lok_l_eqFaultS_4), trivial⟩) (by kernel_rfl)
  fun x y h => (show execFn Γ0 E0 σ_l_eqFaultS Λ_l_eqFaultS Try.f121 S_l_eqFaultS x = l_eqFaultS x by kernel_rfl).trans h

noncomputable def l_eqStep (x : Ty.T (.pair TStep (.pair TStep .unit))) : Option (Ty.T (.pair .bool .unit)) :=
match (x.1.1 != x.2.1.1) with
| true =>
 some (false, ())
| false =>
 match (x.1.2.1 != x.2.1.2.1) with
 | true =>
  some (false, ())
 | false =>
  match l_eqFaultS (x.1.2.2.1, x.2.1.2.2.1, ()) with
  | none => none
  | some v1 =>
  match (!v1.1) with
  | true =>
   some (false, ())
  | false =>
   match l_eqFaultS (x.1.2.2.2.1, x.2.1.2.2.2.1, ()) with
   | none => none
   | some v2 =>
   match (!v2.1) with
   | true =>
    some (false, ())
   | false =>
    some (true, ())
noncomputable def S_l_eqStep : Spec := ⟨(.pair TStep (.pair TStep .unit)), (.pair .bool .unit), .unit, rfl, l_eqStep⟩
noncomputable def σ_l_eqStep : FuncId → Option Spec := sig [(121, S_l_eqFaultS)]
theorem σok_l_eqStep : ∀ f s, σ_l_eqStep f = some s → FnOK Try.prog f s := sig_ok (l := [(121, S_l_eqFaultS)]) ⟨ok_l_eqFaultS, trivial⟩
noncomputable def Λ_l_eqStep : Nat → Option LSpec := lkp (loopList (bodyOf Try.f75)) []
theorem ok_l_eqStep : FnOK Try.prog 75 S_l_eqStep := fn_ok (Λ := Λ_l_eqStep) tab0 σok_l_eqStep Try.func75 (by kernel_rfl) (show Try.f75.body = some (bodyOf Try.f75) by kernel_rfl) [] rfl (by kernel_rfl) (by exact trivial) (by kernel_rfl)
  fun x y h => (show execFn Γ0 E0 σ_l_eqStep Λ_l_eqStep Try.f75 S_l_eqStep x = l_eqStep x by kernel_rfl).trans h

noncomputable def b_l_eqStepS_4 (x : (Ty.T (.pair (.list TStep) (.pair (.list TStep) (.pair (.int .i64) .unit))))) : Option ((Ty.T (.pair (.list TStep) (.pair (.list TStep) (.pair (.int .i64) .unit)))) ⊕ ((Ty.T .unit) ⊕ (Ty.T (.pair .bool .unit)))) :=
match (decide (x.2.2.1 < (x.1.length : Int))) with
| true =>
 onSome (idx x.1 x.2.2.1) fun v1 =>
 onSome (idx x.2.1 x.2.2.1) fun v2 =>
 match l_eqStep (v1, v2, ()) with
 | none => none
 | some v3 =>
 match (!v3.1) with
 | true =>
  some (.inr (.inr (false, ())))
 | false =>
  some (.inl (x.1, x.2.1, (IntKind.i64.wrap (x.2.2.1 + (1 : Int))), ()))
| false =>
 some (.inr (.inl (())))
noncomputable def l_eqStepS (x : Ty.T (.pair (.list TStep) (.pair (.list TStep) .unit))) : Option (Ty.T (.pair .bool .unit)) :=
match ((x.1.length : Int) != (x.2.1.length : Int)) with
| true =>
 some (false, ())
| false =>
 match loopL b_l_eqStepS_4 (x.1, x.2.1, (0 : Int), ()) with
 | none => none
 | some (.inl v4) =>
  some (true, ())
 | some (.inr v5) =>
  some (v5.1, ())
noncomputable def S_l_eqStepS : Spec := ⟨(.pair (.list TStep) (.pair (.list TStep) .unit)), (.pair .bool .unit), .unit, rfl, l_eqStepS⟩
noncomputable def σ_l_eqStepS : FuncId → Option Spec := sig [(75, S_l_eqStep)]
theorem σok_l_eqStepS : ∀ f s, σ_l_eqStepS f = some s → FnOK Try.prog f s := sig_ok (l := [(75, S_l_eqStep)]) ⟨ok_l_eqStep, trivial⟩
noncomputable def Λ_l_eqStepS : Nat → Option LSpec := lkp (loopList (bodyOf Try.f16)) [⟨[0, 1, 5], (.pair (.list TStep) (.pair (.list TStep) (.pair (.int .i64) .unit))), 0, [], .unit, [4], (.pair .bool .unit), loopL b_l_eqStepS_4⟩]
theorem lok_l_eqStepS_4 (x) : codeK Γ0 E0 σ_l_eqStepS Λ_l_eqStepS Try.f16.ntmps (nthLoop Try.f16 0) (mkF Try.f16.ntmps [0, 1, 5] (.pair (.list TStep) (.pair (.list TStep) (.pair (.int .i64) .unit))) x) (readK σ_l_eqStepS Try.f16.ntmps [0, 1, 5] (.pair (.list TStep) (.pair (.list TStep) (.pair (.int .i64) .unit))) 0 [] .unit [4] (.pair .bool .unit)) = b_l_eqStepS_4 x := by kernel_rfl
theorem ok_l_eqStepS : FnOK Try.prog 16 S_l_eqStepS := fn_ok (Λ := Λ_l_eqStepS) tab0 σok_l_eqStepS Try.func16 (by kernel_rfl) (show Try.f16.body = some (bodyOf Try.f16) by kernel_rfl) [⟨[0, 1, 5], (.pair (.list TStep) (.pair (.list TStep) (.pair (.int .i64) .unit))), 0, [], .unit, [4], (.pair .bool .unit), loopL b_l_eqStepS_4⟩] rfl (by kernel_rfl) (by exact ⟨loop_LOK (lok_l_eqStepS_4), trivial⟩) (by kernel_rfl)
  fun x y h => (show execFn Γ0 E0 σ_l_eqStepS Λ_l_eqStepS Try.f16 S_l_eqStepS x = l_eqStepS x by kernel_rfl).trans h

noncomputable def b_l_markFaultS_2 (x : (Ty.T (.pair (.own 133 TStarter) (.pair (.int .i64) (.pair (.int .i64) .unit))))) : Option ((Ty.T (.pair (.own 133 TStarter) (.pair (.int .i64) (.pair (.int .i64) .unit)))) ⊕ ((Ty.T (.pair (.own 133 TStarter) (.pair (.int .i64) .unit))) ⊕ (Ty.T .unit))) :=
match (decide (x.2.2.1 < (x.1.length : Int))) with
| true =>
 onSome (idx x.1 x.2.2.1) fun _ =>
 match x.1[x.2.2.1.toNat]? with
 | none => none
 | some v2 =>
 onSome (idx (x.1.set x.2.2.1.toNat (x.2.1, v2.2.1, v2.2.2.1, v2.2.2.2.1, ())) x.2.2.1) fun _ =>
 match (x.1.set x.2.2.1.toNat (x.2.1, v2.2.1, v2.2.2.1, v2.2.2.2.1, ()))[x.2.2.1.toNat]? with
 | none => none
 | some v4 =>
 onSome (idx ((x.1.set x.2.2.1.toNat (x.2.1, v2.2.1, v2.2.2.1, v2.2.2.2.1, ())).set x.2.2.1.toNat (v4.1, (IntKind.i64.wrap (x.2.1 + (1 : Int))), v4.2.2.1, v4.2.2.2.1, ())) x.2.2.1) fun _ =>
 match ((x.1.set x.2.2.1.toNat (x.2.1, v2.2.1, v2.2.2.1, v2.2.2.2.1, ())).set x.2.2.1.toNat (v4.1, (IntKind.i64.wrap (x.2.1 + (1 : Int))), v4.2.2.1, v4.2.2.2.1, ()))[x.2.2.1.toNat]? with
 | none => none
 | some v6 =>
 onSome (idx (((x.1.set x.2.2.1.toNat (x.2.1, v2.2.1, v2.2.2.1, v2.2.2.2.1, ())).set x.2.2.1.toNat (v4.1, (IntKind.i64.wrap (x.2.1 + (1 : Int))), v4.2.2.1, v4.2.2.2.1, ())).set x.2.2.1.toNat (v6.1, v6.2.1, (IntKind.i64.wrap ((IntKind.i64.wrap (x.2.1 + (1 : Int))) + (1 : Int))), v6.2.2.2.1, ())) x.2.2.1) fun _ =>
 match (((x.1.set x.2.2.1.toNat (x.2.1, v2.2.1, v2.2.2.1, v2.2.2.2.1, ())).set x.2.2.1.toNat (v4.1, (IntKind.i64.wrap (x.2.1 + (1 : Int))), v4.2.2.1, v4.2.2.2.1, ())).set x.2.2.1.toNat (v6.1, v6.2.1, (IntKind.i64.wrap ((IntKind.i64.wrap (x.2.1 + (1 : Int))) + (1 : Int))), v6.2.2.2.1, ()))[x.2.2.1.toNat]? with
 | none => none
 | some v8 =>
 some (.inl (((((x.1.set x.2.2.1.toNat (x.2.1, v2.2.1, v2.2.2.1, v2.2.2.2.1, ())).set x.2.2.1.toNat (v4.1, (IntKind.i64.wrap (x.2.1 + (1 : Int))), v4.2.2.1, v4.2.2.2.1, ())).set x.2.2.1.toNat (v6.1, v6.2.1, (IntKind.i64.wrap ((IntKind.i64.wrap (x.2.1 + (1 : Int))) + (1 : Int))), v6.2.2.2.1, ())).set x.2.2.1.toNat (v8.1, v8.2.1, v8.2.2.1, (IntKind.i64.wrap ((IntKind.i64.wrap ((IntKind.i64.wrap (x.2.1 + (1 : Int))) + (1 : Int))) + (1 : Int))), ())), (IntKind.i64.wrap ((IntKind.i64.wrap ((IntKind.i64.wrap ((IntKind.i64.wrap (x.2.1 + (1 : Int))) + (1 : Int))) + (1 : Int))) + (1 : Int))), (IntKind.i64.wrap (x.2.2.1 + (1 : Int))), ()))
| false =>
 some (.inr (.inl (x.1, x.2.1, ())))
noncomputable def l_markFaultS (x : Ty.T (.pair (.own 133 TStarter) (.pair (.int .i64) .unit))) : Option (Ty.T (.pair (.int .i64) (.pair (.own 133 TStarter) .unit))) :=
match loopL b_l_markFaultS_2 (x.1, x.2.1, (0 : Int), ()) with
| none => none
| some (.inl v9) =>
 some (v9.2.1, v9.1, ())
| some (.inr v11) =>
 none
noncomputable def S_l_markFaultS : Spec := ⟨(.pair (.own 133 TStarter) (.pair (.int .i64) .unit)), (.pair (.int .i64) .unit), (.pair (.own 133 TStarter) .unit), rfl, l_markFaultS⟩
noncomputable def σ_l_markFaultS : FuncId → Option Spec := sig []
theorem σok_l_markFaultS : ∀ f s, σ_l_markFaultS f = some s → FnOK Try.prog f s := sig_ok (l := []) trivial
noncomputable def Λ_l_markFaultS : Nat → Option LSpec := lkp (loopList (bodyOf Try.f76)) [⟨[0, 1, 5], (.pair (.own 133 TStarter) (.pair (.int .i64) (.pair (.int .i64) .unit))), 0, [0, 1], (.pair (.own 133 TStarter) (.pair (.int .i64) .unit)), [], .unit, loopL b_l_markFaultS_2⟩]
theorem lok_l_markFaultS_2 (x) : codeK Γ0 E0 σ_l_markFaultS Λ_l_markFaultS Try.f76.ntmps (nthLoop Try.f76 0) (mkF Try.f76.ntmps [0, 1, 5] (.pair (.own 133 TStarter) (.pair (.int .i64) (.pair (.int .i64) .unit))) x) (readK σ_l_markFaultS Try.f76.ntmps [0, 1, 5] (.pair (.own 133 TStarter) (.pair (.int .i64) (.pair (.int .i64) .unit))) 0 [0, 1] (.pair (.own 133 TStarter) (.pair (.int .i64) .unit)) [] .unit) = b_l_markFaultS_2 x := by kernel_rfl
theorem ok_l_markFaultS : FnOK Try.prog 76 S_l_markFaultS := fn_ok (Λ := Λ_l_markFaultS) tab0 σok_l_markFaultS Try.func76 (by kernel_rfl) (show Try.f76.body = some (bodyOf Try.f76) by kernel_rfl) [⟨[0, 1, 5], (.pair (.own 133 TStarter) (.pair (.int .i64) (.pair (.int .i64) .unit))), 0, [0, 1], (.pair (.own 133 TStarter) (.pair (.int .i64) .unit)), [], .unit, loopL b_l_markFaultS_2⟩] rfl (by kernel_rfl) (by exact ⟨loop_LOK (lok_l_markFaultS_2), trivial⟩) (by kernel_rfl)
  fun x y h => (show execFn Γ0 E0 σ_l_markFaultS Λ_l_markFaultS Try.f76 S_l_markFaultS x = l_markFaultS x by kernel_rfl).trans h

noncomputable def b_l_markStepS_2 (x : (Ty.T (.pair (.own 97 (.pair (.int .i64) (.pair (.int .i64) (.pair (.own 133 TStarter) (.pair (.own 133 TStarter) .unit))))) (.pair (.int .i64) (.pair (.int .i64) .unit))))) : Option ((Ty.T (.pair (.own 97 (.pair (.int .i64) (.pair (.int .i64) (.pair (.own 133 TStarter) (.pair (.own 133 TStarter) .unit))))) (.pair (.int .i64) (.pair (.int .i64) .unit)))) ⊕ ((Ty.T (.pair (.own 97 (.pair (.int .i64) (.pair (.int .i64) (.pair (.own 133 TStarter) (.pair (.own 133 TStarter) .unit))))) (.pair (.int .i64) .unit))) ⊕ (Ty.T .unit))) :=
match (decide (x.2.2.1 < (x.1.length : Int))) with
| true =>
 onSome (idx x.1 x.2.2.1) fun _ =>
 match x.1[x.2.2.1.toNat]? with
 | none => none
 | some v2 =>
 onSome (idx (x.1.set x.2.2.1.toNat (x.2.1, v2.2)) x.2.2.1) fun _ =>
 match (x.1.set x.2.2.1.toNat (x.2.1, v2.2))[x.2.2.1.toNat]? with
 | none => none
 | some v4 =>
 onSome (idx ((x.1.set x.2.2.1.toNat (x.2.1, v2.2)).set x.2.2.1.toNat (v4.1, ((IntKind.i64.wrap (x.2.1 + (1 : Int))), v4.2.2))) x.2.2.1) fun _ =>
 match ((x.1.set x.2.2.1.toNat (x.2.1, v2.2)).set x.2.2.1.toNat (v4.1, ((IntKind.i64.wrap (x.2.1 + (1 : Int))), v4.2.2)))[x.2.2.1.toNat]? with
 | none => none
 | some v6 =>
 match l_markFaultS (v6.2.2.1, (IntKind.i64.wrap ((IntKind.i64.wrap (x.2.1 + (1 : Int))) + (1 : Int))), ()) with
 | none => none
 | some v7 =>
 onSome (idx (((x.1.set x.2.2.1.toNat (x.2.1, v2.2)).set x.2.2.1.toNat (v4.1, ((IntKind.i64.wrap (x.2.1 + (1 : Int))), v4.2.2))).set x.2.2.1.toNat (v6.1, (v6.2.1, (v7.2.1, v6.2.2.2)))) x.2.2.1) fun _ =>
 match (((x.1.set x.2.2.1.toNat (x.2.1, v2.2)).set x.2.2.1.toNat (v4.1, ((IntKind.i64.wrap (x.2.1 + (1 : Int))), v4.2.2))).set x.2.2.1.toNat (v6.1, (v6.2.1, (v7.2.1, v6.2.2.2))))[x.2.2.1.toNat]? with
 | none => none
 | some v9 =>
 match l_markFaultS (v9.2.2.2.1, v7.1, ()) with
 | none => none
 | some v10 =>
 some (.inl (((((x.1.set x.2.2.1.toNat (x.2.1, v2.2)).set x.2.2.1.toNat (v4.1, ((IntKind.i64.wrap (x.2.1 + (1 : Int))), v4.2.2))).set x.2.2.1.toNat (v6.1, (v6.2.1, (v7.2.1, v6.2.2.2)))).set x.2.2.1.toNat (v9.1, (v9.2.1, (v9.2.2.1, (v10.2.1, v9.2.2.2.2))))), v10.1, (IntKind.i64.wrap (x.2.2.1 + (1 : Int))), ()))
| false =>
 some (.inr (.inl (x.1, x.2.1, ())))
noncomputable def l_markStepS (x : Ty.T (.pair (.own 97 (.pair (.int .i64) (.pair (.int .i64) (.pair (.own 133 TStarter) (.pair (.own 133 TStarter) .unit))))) (.pair (.int .i64) .unit))) : Option (Ty.T (.pair (.int .i64) (.pair (.own 97 (.pair (.int .i64) (.pair (.int .i64) (.pair (.own 133 TStarter) (.pair (.own 133 TStarter) .unit))))) .unit))) :=
match loopL b_l_markStepS_2 (x.1, x.2.1, (0 : Int), ()) with
| none => none
| some (.inl v11) =>
 some (v11.2.1, v11.1, ())
| some (.inr v13) =>
 none
noncomputable def S_l_markStepS : Spec := ⟨(.pair (.own 97 (.pair (.int .i64) (.pair (.int .i64) (.pair (.own 133 TStarter) (.pair (.own 133 TStarter) .unit))))) (.pair (.int .i64) .unit)), (.pair (.int .i64) .unit), (.pair (.own 97 (.pair (.int .i64) (.pair (.int .i64) (.pair (.own 133 TStarter) (.pair (.own 133 TStarter) .unit))))) .unit), rfl, l_markStepS⟩
noncomputable def σ_l_markStepS : FuncId → Option Spec := sig [(76, S_l_markFaultS)]
theorem σok_l_markStepS : ∀ f s, σ_l_markStepS f = some s → FnOK Try.prog f s := sig_ok (l := [(76, S_l_markFaultS)]) ⟨ok_l_markFaultS, trivial⟩
noncomputable def Λ_l_markStepS : Nat → Option LSpec := lkp (loopList (bodyOf Try.f17)) [⟨[0, 1, 5], (.pair (.own 97 (.pair (.int .i64) (.pair (.int .i64) (.pair (.own 133 TStarter) (.pair (.own 133 TStarter) .unit))))) (.pair (.int .i64) (.pair (.int .i64) .unit))), 0, [0, 1], (.pair (.own 97 (.pair (.int .i64) (.pair (.int .i64) (.pair (.own 133 TStarter) (.pair (.own 133 TStarter) .unit))))) (.pair (.int .i64) .unit)), [], .unit, loopL b_l_markStepS_2⟩]
theorem lok_l_markStepS_2 (x) : codeK Γ1 E1 σ_l_markStepS Λ_l_markStepS Try.f17.ntmps (nthLoop Try.f17 0) (mkF Try.f17.ntmps [0, 1, 5] (.pair (.own 97 (.pair (.int .i64) (.pair (.int .i64) (.pair (.own 133 TStarter) (.pair (.own 133 TStarter) .unit))))) (.pair (.int .i64) (.pair (.int .i64) .unit))) x) (readK σ_l_markStepS Try.f17.ntmps [0, 1, 5] (.pair (.own 97 (.pair (.int .i64) (.pair (.int .i64) (.pair (.own 133 TStarter) (.pair (.own 133 TStarter) .unit))))) (.pair (.int .i64) (.pair (.int .i64) .unit))) 0 [0, 1] (.pair (.own 97 (.pair (.int .i64) (.pair (.int .i64) (.pair (.own 133 TStarter) (.pair (.own 133 TStarter) .unit))))) (.pair (.int .i64) .unit)) [] .unit) = b_l_markStepS_2 x := by kernel_rfl
theorem ok_l_markStepS : FnOK Try.prog 17 S_l_markStepS := fn_ok (Λ := Λ_l_markStepS) tab1 σok_l_markStepS Try.func17 (by kernel_rfl) (show Try.f17.body = some (bodyOf Try.f17) by kernel_rfl) [⟨[0, 1, 5], (.pair (.own 97 (.pair (.int .i64) (.pair (.int .i64) (.pair (.own 133 TStarter) (.pair (.own 133 TStarter) .unit))))) (.pair (.int .i64) (.pair (.int .i64) .unit))), 0, [0, 1], (.pair (.own 97 (.pair (.int .i64) (.pair (.int .i64) (.pair (.own 133 TStarter) (.pair (.own 133 TStarter) .unit))))) (.pair (.int .i64) .unit)), [], .unit, loopL b_l_markStepS_2⟩] rfl (by kernel_rfl) (by exact ⟨loop_LOK (lok_l_markStepS_2), trivial⟩) (by kernel_rfl)
  fun x y h => (show execFn Γ1 E1 σ_l_markStepS Λ_l_markStepS Try.f17 S_l_markStepS x = l_markStepS x by kernel_rfl).trans h

noncomputable def b_l_heldFaultS_2 (x : (Ty.T (.pair (.list TStarter) (.pair (.int .i64) (.pair (.int .i64) .unit))))) : Option ((Ty.T (.pair (.list TStarter) (.pair (.int .i64) (.pair (.int .i64) .unit)))) ⊕ ((Ty.T (.pair (.int .i64) .unit)) ⊕ (Ty.T (.pair (.int .i64) .unit)))) :=
match (decide (x.2.2.1 < (x.1.length : Int))) with
| true =>
 onSome (idx x.1 x.2.2.1) fun v1 =>
 match (v1.1 != x.2.1) with
 | true =>
  some (.inr (.inr ((-1 : Int), ())))
 | false =>
  onSome (idx x.1 x.2.2.1) fun v2 =>
  match (v2.2.1 != (IntKind.i64.wrap (x.2.1 + (1 : Int)))) with
  | true =>
   some (.inr (.inr ((-1 : Int), ())))
  | false =>
   onSome (idx x.1 x.2.2.1) fun v3 =>
   match (v3.2.2.1 != (IntKind.i64.wrap ((IntKind.i64.wrap (x.2.1 + (1 : Int))) + (1 : Int)))) with
   | true =>
    some (.inr (.inr ((-1 : Int), ())))
   | false =>
    onSome (idx x.1 x.2.2.1) fun v4 =>
    match (v4.2.2.2.1 != (IntKind.i64.wrap ((IntKind.i64.wrap ((IntKind.i64.wrap (x.2.1 + (1 : Int))) + (1 : Int))) + (1 : Int)))) with
    | true =>
     some (.inr (.inr ((-1 : Int), ())))
    | false =>
     some (.inl (x.1, (IntKind.i64.wrap ((IntKind.i64.wrap ((IntKind.i64.wrap ((IntKind.i64.wrap (x.2.1 + (1 : Int))) + (1 : Int))) + (1 : Int))) + (1 : Int))), (IntKind.i64.wrap (x.2.2.1 + (1 : Int))), ()))
| false =>
 some (.inr (.inl (x.2.1, ())))
noncomputable def l_heldFaultS (x : Ty.T (.pair (.list TStarter) (.pair (.int .i64) .unit))) : Option (Ty.T (.pair (.int .i64) .unit)) :=
match loopL b_l_heldFaultS_2 (x.1, x.2.1, (0 : Int), ()) with
| none => none
| some (.inl v5) =>
 some (v5.1, ())
| some (.inr v6) =>
 some (v6.1, ())
noncomputable def S_l_heldFaultS : Spec := ⟨(.pair (.list TStarter) (.pair (.int .i64) .unit)), (.pair (.int .i64) .unit), .unit, rfl, l_heldFaultS⟩
noncomputable def σ_l_heldFaultS : FuncId → Option Spec := sig []
theorem σok_l_heldFaultS : ∀ f s, σ_l_heldFaultS f = some s → FnOK Try.prog f s := sig_ok (l := []) trivial
noncomputable def Λ_l_heldFaultS : Nat → Option LSpec := lkp (loopList (bodyOf Try.f77)) [⟨[0, 1, 5], (.pair (.list TStarter) (.pair (.int .i64) (.pair (.int .i64) .unit))), 0, [1], (.pair (.int .i64) .unit), [4], (.pair (.int .i64) .unit), loopL b_l_heldFaultS_2⟩]
theorem lok_l_heldFaultS_2 (x) : codeK Γ0 E0 σ_l_heldFaultS Λ_l_heldFaultS Try.f77.ntmps (nthLoop Try.f77 0) (mkF Try.f77.ntmps [0, 1, 5] (.pair (.list TStarter) (.pair (.int .i64) (.pair (.int .i64) .unit))) x) (readK σ_l_heldFaultS Try.f77.ntmps [0, 1, 5] (.pair (.list TStarter) (.pair (.int .i64) (.pair (.int .i64) .unit))) 0 [1] (.pair (.int .i64) .unit) [4] (.pair (.int .i64) .unit)) = b_l_heldFaultS_2 x := by kernel_rfl
theorem ok_l_heldFaultS : FnOK Try.prog 77 S_l_heldFaultS := fn_ok (Λ := Λ_l_heldFaultS) tab0 σok_l_heldFaultS Try.func77 (by kernel_rfl) (show Try.f77.body = some (bodyOf Try.f77) by kernel_rfl) [⟨[0, 1, 5], (.pair (.list TStarter) (.pair (.int .i64) (.pair (.int .i64) .unit))), 0, [1], (.pair (.int .i64) .unit), [4], (.pair (.int .i64) .unit), loopL b_l_heldFaultS_2⟩] rfl (by kernel_rfl) (by exact ⟨loop_LOK (lok_l_heldFaultS_2), trivial⟩) (by kernel_rfl)
  fun x y h => (show execFn Γ0 E0 σ_l_heldFaultS Λ_l_heldFaultS Try.f77 S_l_heldFaultS x = l_heldFaultS x by kernel_rfl).trans h

noncomputable def b_l_heldStepS_2 (x : (Ty.T (.pair (.list TStep) (.pair (.int .i64) (.pair (.int .i64) .unit))))) : Option ((Ty.T (.pair (.list TStep) (.pair (.int .i64) (.pair (.int .i64) .unit)))) ⊕ ((Ty.T (.pair (.int .i64) .unit)) ⊕ (Ty.T (.pair (.int .i64) .unit)))) :=
match (decide (x.2.2.1 < (x.1.length : Int))) with
| true =>
 onSome (idx x.1 x.2.2.1) fun v1 =>
 match (v1.1 != x.2.1) with
 | true =>
  some (.inr (.inr ((-1 : Int), ())))
 | false =>
  onSome (idx x.1 x.2.2.1) fun v2 =>
  match (v2.2.1 != (IntKind.i64.wrap (x.2.1 + (1 : Int)))) with
  | true =>
   some (.inr (.inr ((-1 : Int), ())))
  | false =>
   onSome (idx x.1 x.2.2.1) fun v3 =>
   match l_heldFaultS (v3.2.2.1, (IntKind.i64.wrap ((IntKind.i64.wrap (x.2.1 + (1 : Int))) + (1 : Int))), ()) with
   | none => none
   | some v4 =>
   match (decide (v4.1 < (0 : Int))) with
   | true =>
    some (.inr (.inr ((-1 : Int), ())))
   | false =>
    onSome (idx x.1 x.2.2.1) fun v5 =>
    match l_heldFaultS (v5.2.2.2.1, v4.1, ()) with
    | none => none
    | some v6 =>
    match (decide (v6.1 < (0 : Int))) with
    | true =>
     some (.inr (.inr ((-1 : Int), ())))
    | false =>
     some (.inl (x.1, v6.1, (IntKind.i64.wrap (x.2.2.1 + (1 : Int))), ()))
| false =>
 some (.inr (.inl (x.2.1, ())))
noncomputable def l_heldStepS (x : Ty.T (.pair (.list TStep) (.pair (.int .i64) .unit))) : Option (Ty.T (.pair (.int .i64) .unit)) :=
match loopL b_l_heldStepS_2 (x.1, x.2.1, (0 : Int), ()) with
| none => none
| some (.inl v7) =>
 some (v7.1, ())
| some (.inr v8) =>
 some (v8.1, ())
noncomputable def S_l_heldStepS : Spec := ⟨(.pair (.list TStep) (.pair (.int .i64) .unit)), (.pair (.int .i64) .unit), .unit, rfl, l_heldStepS⟩
noncomputable def σ_l_heldStepS : FuncId → Option Spec := sig [(77, S_l_heldFaultS)]
theorem σok_l_heldStepS : ∀ f s, σ_l_heldStepS f = some s → FnOK Try.prog f s := sig_ok (l := [(77, S_l_heldFaultS)]) ⟨ok_l_heldFaultS, trivial⟩
noncomputable def Λ_l_heldStepS : Nat → Option LSpec := lkp (loopList (bodyOf Try.f18)) [⟨[0, 1, 5], (.pair (.list TStep) (.pair (.int .i64) (.pair (.int .i64) .unit))), 0, [1], (.pair (.int .i64) .unit), [4], (.pair (.int .i64) .unit), loopL b_l_heldStepS_2⟩]
theorem lok_l_heldStepS_2 (x) : codeK Γ0 E0 σ_l_heldStepS Λ_l_heldStepS Try.f18.ntmps (nthLoop Try.f18 0) (mkF Try.f18.ntmps [0, 1, 5] (.pair (.list TStep) (.pair (.int .i64) (.pair (.int .i64) .unit))) x) (readK σ_l_heldStepS Try.f18.ntmps [0, 1, 5] (.pair (.list TStep) (.pair (.int .i64) (.pair (.int .i64) .unit))) 0 [1] (.pair (.int .i64) .unit) [4] (.pair (.int .i64) .unit)) = b_l_heldStepS_2 x := by kernel_rfl
theorem ok_l_heldStepS : FnOK Try.prog 18 S_l_heldStepS := fn_ok (Λ := Λ_l_heldStepS) tab0 σok_l_heldStepS Try.func18 (by kernel_rfl) (show Try.f18.body = some (bodyOf Try.f18) by kernel_rfl) [⟨[0, 1, 5], (.pair (.list TStep) (.pair (.int .i64) (.pair (.int .i64) .unit))), 0, [1], (.pair (.int .i64) .unit), [4], (.pair (.int .i64) .unit), loopL b_l_heldStepS_2⟩] rfl (by kernel_rfl) (by exact ⟨loop_LOK (lok_l_heldStepS_2), trivial⟩) (by kernel_rfl)
  fun x y h => (show execFn Γ0 E0 σ_l_heldStepS Λ_l_heldStepS Try.f18 S_l_heldStepS x = l_heldStepS x by kernel_rfl).trans h

noncomputable def l_FnExactQuietSteps (x : Ty.T (.pair (.int .i64) .unit)) : Option (Ty.T (.pair .bool .unit)) :=
match s_QuietSteps (x.1, ()) with
| none => none
| some v1 =>
match i_QuietSteps (x.1, ()) with
| none => none
| some v2 =>
match l_eqStepS (v2.1, v1.1, ()) with
| none => none
| some v3 =>
match (!v3.1) with
| true =>
 some (false, ())
| false =>
 match (v2.2.1 != v1.2.1) with
 | true =>
  some (false, ())
 | false =>
  match l_markStepS (v2.1, (1 : Int), ()) with
  | none => none
  | some v4 =>
  match l_heldStepS (v4.2.1, (1 : Int), ()) with
  | none => none
  | some v5 =>
  match (decide (v5.1 < (0 : Int))) with
  | true =>
   some (false, ())
  | false =>
   match (v5.1 != v4.1) with
   | true =>
    some (false, ())
   | false =>
    match i_QuietSteps (x.1, ()) with
    | none => none
    | some v6 =>
    match l_eqStepS (v6.1, v1.1, ()) with
    | none => none
    | some v7 =>
    match (!v7.1) with
    | true =>
     some (false, ())
    | false =>
     match (v6.2.1 != v1.2.1) with
     | true =>
      some (false, ())
     | false =>
      match l_heldStepS (v4.2.1, (1 : Int), ()) with
      | none => none
      | some v8 =>
      match (decide (v8.1 < (0 : Int))) with
      | true =>
       some (false, ())
      | false =>
       match (v8.1 != v4.1) with
       | true =>
        some (false, ())
       | false =>
        some (true, ())
noncomputable def S_l_FnExactQuietSteps : Spec := ⟨(.pair (.int .i64) .unit), (.pair .bool .unit), .unit, rfl, l_FnExactQuietSteps⟩
noncomputable def σ_l_FnExactQuietSteps : FuncId → Option Spec := sig [(14, S_s_QuietSteps), (15, S_i_QuietSteps), (16, S_l_eqStepS), (17, S_l_markStepS), (18, S_l_heldStepS)]
theorem σok_l_FnExactQuietSteps : ∀ f s, σ_l_FnExactQuietSteps f = some s → FnOK Try.prog f s := sig_ok (l := [(14, S_s_QuietSteps), (15, S_i_QuietSteps), (16, S_l_eqStepS), (17, S_l_markStepS), (18, S_l_heldStepS)]) ⟨ok_s_QuietSteps, ok_i_QuietSteps, ok_l_eqStepS, ok_l_markStepS, ok_l_heldStepS, trivial⟩
noncomputable def Λ_l_FnExactQuietSteps : Nat → Option LSpec := lkp (loopList (bodyOf Try.f3)) []
theorem ok_l_FnExactQuietSteps : FnOK Try.prog 3 S_l_FnExactQuietSteps := fn_ok (Λ := Λ_l_FnExactQuietSteps) tab0 σok_l_FnExactQuietSteps Try.func3 (by kernel_rfl) (show Try.f3.body = some (bodyOf Try.f3) by kernel_rfl) [] rfl (by kernel_rfl) (by exact trivial) (by kernel_rfl)
  fun x y h => (show execFn Γ0 E0 σ_l_FnExactQuietSteps Λ_l_FnExactQuietSteps Try.f3 S_l_FnExactQuietSteps x = l_FnExactQuietSteps x by kernel_rfl).trans h

noncomputable def l_szStarterS (x : Ty.T (.pair (.list TStarter) (.pair (.int .i64) .unit))) : Option (Ty.T (.pair (.int .i64) .unit)) :=
match (decide ((IntKind.i64.wrap (x.2.1 - (x.1.length : Int))) < (0 : Int))) with
| true =>
 some ((-1 : Int), ())
| false =>
 some ((IntKind.i64.wrap (x.2.1 - (x.1.length : Int))), ())
noncomputable def S_l_szStarterS : Spec := ⟨(.pair (.list TStarter) (.pair (.int .i64) .unit)), (.pair (.int .i64) .unit), .unit, rfl, l_szStarterS⟩
noncomputable def σ_l_szStarterS : FuncId → Option Spec := sig []
theorem σok_l_szStarterS : ∀ f s, σ_l_szStarterS f = some s → FnOK Try.prog f s := sig_ok (l := []) trivial
noncomputable def Λ_l_szStarterS : Nat → Option LSpec := lkp (loopList (bodyOf Try.f19)) []
theorem ok_l_szStarterS : FnOK Try.prog 19 S_l_szStarterS := fn_ok (Λ := Λ_l_szStarterS) tab0 σok_l_szStarterS Try.func19 (by kernel_rfl) (show Try.f19.body = some (bodyOf Try.f19) by kernel_rfl) [] rfl (by kernel_rfl) (by exact trivial) (by kernel_rfl)
  fun x y h => (show execFn Γ0 E0 σ_l_szStarterS Λ_l_szStarterS Try.f19 S_l_szStarterS x = l_szStarterS x by kernel_rfl).trans h

noncomputable def s_l05Node (x : Ty.T (.pair (.int .i64) .unit)) : Option (Ty.T (.pair .bool .unit)) :=
match s_l01In (x.1, (0 : Int), (31 : Int), ()) with
| none => none
| some v1 =>
some (v1.1, ())
noncomputable def S_s_l05Node : Spec := ⟨(.pair (.int .i64) .unit), (.pair .bool .unit), .unit, rfl, s_l05Node⟩
noncomputable def σ_s_l05Node : FuncId → Option Spec := sig [(73, S_s_l01In)]
theorem σok_s_l05Node : ∀ f s, σ_s_l05Node f = some s → FnOK Try.prog f s := sig_ok (l := [(73, S_s_l01In)]) ⟨ok_s_l01In, trivial⟩
noncomputable def Λ_s_l05Node : Nat → Option LSpec := lkp (loopList (bodyOf Try.f90)) []
theorem ok_s_l05Node : FnOK Try.prog 90 S_s_l05Node := fn_ok (Λ := Λ_s_l05Node) tab0 σok_s_l05Node Try.func90 (by kernel_rfl) (show Try.f90.body = some (bodyOf Try.f90) by kernel_rfl) [] rfl (by kernel_rfl) (by exact trivial) (by kernel_rfl)
  fun x y h => (show execFn Γ0 E0 σ_s_l05Node Λ_s_l05Node Try.f90 S_s_l05Node x = s_l05Node x by kernel_rfl).trans h

noncomputable def b_s_AreStarters_8 (x : (Ty.T (.pair (.list TStarter) (.pair (.int .i64) (.pair (.box TStarter) (.pair (.int .i64) .unit)))))) : Option ((Ty.T (.pair (.list TStarter) (.pair (.int .i64) (.pair (.box TStarter) (.pair (.int .i64) .unit))))) ⊕ ((Ty.T (.pair (.list TStarter) (.pair (.int .i64) .unit))) ⊕ (Ty.T (.pair .bool .unit)))) :=
match (decide (x.2.2.2.1 < x.2.1)) with
| true =>
 onSome (idx x.1 x.2.2.2.1) fun v6 =>
 match (v6.1 == x.2.2.1.1) with
 | true =>
  some (.inr (.inr (false, ())))
 | false =>
  onSome (idx x.1 x.2.2.2.1) fun v7 =>
  match (v7.2.2.2.1 == x.2.2.1.2.2.2.1) with
  | true =>
   some (.inr (.inr (false, ())))
  | false =>
   some (.inl (x.1, x.2.1, (x.2.2.1.1, x.2.2.1.2.1, x.2.2.1.2.2.1, x.2.2.1.2.2.2.1, ()), (IntKind.i64.wrap (x.2.2.2.1 + (1 : Int))), ()))
| false =>
 some (.inr (.inl (x.1, x.2.1, ())))
noncomputable def b_s_AreStarters_2 (x : (Ty.T (.pair (.list TStarter) (.pair (.int .i64) .unit)))) : Option ((Ty.T (.pair (.list TStarter) (.pair (.int .i64) .unit))) ⊕ ((Ty.T (.pair (.list TStarter) .unit)) ⊕ (Ty.T (.pair .bool .unit)))) :=
match (decide (x.2.1 < (x.1.length : Int))) with
| true =>
 onSome (idx x.1 x.2.1) fun v1 =>
 match s_l05Node (v1.1, ()) with
 | none => none
 | some v2 =>
 match (!v2.1) with
 | true =>
  some (.inr (.inr (false, ())))
 | false =>
  match s_l01In (v1.2.1, (0 : Int), (100000 : Int), ()) with
  | none => none
  | some v3 =>
  match (!v3.1) with
  | true =>
   some (.inr (.inr (false, ())))
  | false =>
   match s_l01In (v1.2.2.1, (1 : Int), (100000 : Int), ()) with
   | none => none
   | some v4 =>
   match (!v4.1) with
   | true =>
    some (.inr (.inr (false, ())))
   | false =>
    match s_l01In (v1.2.2.2.1, (1 : Int), (100000 : Int), ()) with
    | none => none
    | some v5 =>
    match (!v5.1) with
    | true =>
     some (.inr (.inr (false, ())))
    | false =>
     match loopL b_s_AreStarters_8 (x.1, x.2.1, (v1.1, v1.2.1, v1.2.2.1, v1.2.2.2.1, ()), (0 : Int), ()) with
     | none => none
     | some (.inl v6) =>
      some (.inl (v6.1, (IntKind.i64.wrap (v6.2.1 + (1 : Int))), ()))
     | some (.inr v7) =>
      some (.inr (.inr (v7.1, ())))
| false =>
 some (.inr (.inl (x.1, ())))
noncomputable def s_AreStarters (x : Ty.T (.pair (.list TStarter) .unit)) : Option (Ty.T (.pair .bool .unit)) :=
match loopL b_s_AreStarters_2 (x.1, (0 : Int), ()) with
| none => none
| some (.inl v8) =>
 match s_l01In ((v8.1.length : Int), (1 : Int), (32 : Int), ()) with
 | none => none
 | some v10 =>
 some (v10.1, ())
| some (.inr v9) =>
 some (v9.1, ())
noncomputable def S_s_AreStarters : Spec := ⟨(.pair (.list TStarter) .unit), (.pair .bool .unit), .unit, rfl, s_AreStarters⟩
noncomputable def σ_s_AreStarters : FuncId → Option Spec := sig [(73, S_s_l01In), (90, S_s_l05Node)]
theorem σok_s_AreStarters : ∀ f s, σ_s_AreStarters f = some s → FnOK Try.prog f s := sig_ok (l := [(73, S_s_l01In), (90, S_s_l05Node)]) ⟨ok_s_l01In, ok_s_l05Node, trivial⟩
noncomputable def Λ_s_AreStarters : Nat → Option LSpec := lkp (loopList (bodyOf Try.f31)) [⟨[0, 3], (.pair (.list TStarter) (.pair (.int .i64) .unit)), 0, [0], (.pair (.list TStarter) .unit), [2], (.pair .bool .unit), loopL b_s_AreStarters_2⟩, ⟨[0, 3, 4, 5], (.pair (.list TStarter) (.pair (.int .i64) (.pair (.box TStarter) (.pair (.int .i64) .unit)))), 2, [0, 3], (.pair (.list TStarter) (.pair (.int .i64) .unit)), [2], (.pair .bool .unit), loopL b_s_AreStarters_8⟩]
theorem lok_s_AreStarters_2 (x) : codeK Γ0 E0 σ_s_AreStarters Λ_s_AreStarters Try.f31.ntmps (nthLoop Try.f31 0) (mkF Try.f31.ntmps [0, 3] (.pair (.list TStarter) (.pair (.int .i64) .unit)) x) (readK σ_s_AreStarters Try.f31.ntmps [0, 3] (.pair (.list TStarter) (.pair (.int .i64) .unit)) 0 [0] (.pair (.list TStarter) .unit) [2] (.pair .bool .unit)) = b_s_AreStarters_2 x := by kernel_rfl
theorem lok_s_AreStarters_8 (x) : codeK Γ0 E0 σ_s_AreStarters Λ_s_AreStarters Try.f31.ntmps (nthLoop Try.f31 1) (mkF Try.f31.ntmps [0, 3, 4, 5] (.pair (.list TStarter) (.pair (.int .i64) (.pair (.box TStarter) (.pair (.int .i64) .unit)))) x) (readK σ_s_AreStarters Try.f31.ntmps [0, 3, 4, 5] (.pair (.list TStarter) (.pair (.int .i64) (.pair (.box TStarter) (.pair (.int .i64) .unit)))) 2 [0, 3] (.pair (.list TStarter) (.pair (.int .i64) .unit)) [2] (.pair .bool .unit)) = b_s_AreStarters_8 x := by kernel_rfl
theorem ok_s_AreStarters : FnOK Try.prog 31 S_s_AreStarters := fn_ok (Λ := Λ_s_AreStarters) tab0 σok_s_AreStarters Try.func31 (by kernel_rfl) (show Try.f31.body = some (bodyOf Try.f31) by kernel_rfl) [⟨[0, 3], (.pair (.list TStarter) (.pair (.int .i64) .unit)), 0, [0], (.pair (.list TStarter) .unit), [2], (.pair .bool .unit), loopL b_s_AreStarters_2⟩, ⟨[0, 3, 4, 5], (.pair (.list TStarter) (.pair (.int .i64) (.pair (.box TStarter) (.pair (.int .i64) .unit)))), 2, [0, 3], (.pair (.list TStarter) (.pair (.int .i64) .unit)), [2], (.pair .bool .unit), loopL b_s_AreStarters_8⟩] rfl (by kernel_rfl) (by exact ⟨loop_LOK (lok_s_AreStarters_2), loop_LOK (lok_s_AreStarters_8), trivial⟩) (by kernel_rfl)
  fun x y h => (show execFn Γ0 E0 σ_s_AreStarters Λ_s_AreStarters Try.f31 S_s_AreStarters x = s_AreStarters x by kernel_rfl).trans h

noncomputable def b_s_WithoutStarter_5 (x : (Ty.T (.pair (.list TStarter) (.pair (.int .i64) (.pair (.own 47 TStarter) (.pair (.int .i64) .unit)))))) : Option ((Ty.T (.pair (.list TStarter) (.pair (.int .i64) (.pair (.own 47 TStarter) (.pair (.int .i64) .unit))))) ⊕ ((Ty.T (.pair (.list TStarter) (.pair (.own 47 TStarter) .unit))) ⊕ (Ty.T .unit))) :=
match (decide (x.2.2.2.1 < (x.1.length : Int))) with
| true =>
 onSome (idx x.1 x.2.2.2.1) fun v2 =>
 match (v2.1 != x.2.1) with
 | true =>
  onSome (idx x.1 x.2.2.2.1) fun v3 =>
  room (x.2.2.1.length + [v3].length) (
   some (.inl (x.1, x.2.1, (x.2.2.1 ++ [v3]), (IntKind.i64.wrap (x.2.2.2.1 + (1 : Int))), ())))
 | false =>
  some (.inl (x.1, x.2.1, x.2.2.1, (IntKind.i64.wrap (x.2.2.2.1 + (1 : Int))), ()))
| false =>
 some (.inr (.inl (x.1, x.2.2.1, ())))
noncomputable def s_WithoutStarter (x : Ty.T (.pair (.list TStarter) (.pair (.int .i64) .unit))) : Option (Ty.T (.pair (.own 47 TStarter) (.pair (.int .i64) .unit))) :=
match s_AreStarters (x.1, ()) with
| none => none
| some v1 =>
match (!v1.1) with
| true =>
 some ([], (1 : Int), ())
| false =>
 match loopL b_s_WithoutStarter_5 (x.1, x.2.1, [], (0 : Int), ()) with
 | none => none
 | some (.inl v4) =>
  match ((v4.2.1.length : Int) == (v4.1.length : Int)) with
  | true =>
   some ([], (4 : Int), ())
  | false =>
   match ((v4.2.1.length : Int) == (0 : Int)) with
   | true =>
    some ([], (5 : Int), ())
   | false =>
    some (v4.2.1, (0 : Int), ())
 | some (.inr v6) =>
  none
noncomputable def S_s_WithoutStarter : Spec := ⟨(.pair (.list TStarter) (.pair (.int .i64) .unit)), (.pair (.own 47 TStarter) (.pair (.int .i64) .unit)), .unit, rfl, s_WithoutStarter⟩
noncomputable def σ_s_WithoutStarter : FuncId → Option Spec := sig [(31, S_s_AreStarters)]
theorem σok_s_WithoutStarter : ∀ f s, σ_s_WithoutStarter f = some s → FnOK Try.prog f s := sig_ok (l := [(31, S_s_AreStarters)]) ⟨ok_s_AreStarters, trivial⟩
noncomputable def Λ_s_WithoutStarter : Nat → Option LSpec := lkp (loopList (bodyOf Try.f20)) [⟨[0, 1, 6, 7], (.pair (.list TStarter) (.pair (.int .i64) (.pair (.own 47 TStarter) (.pair (.int .i64) .unit)))), 0, [0, 6], (.pair (.list TStarter) (.pair (.own 47 TStarter) .unit)), [], .unit, loopL b_s_WithoutStarter_5⟩]
theorem lok_s_WithoutStarter_5 (x) : codeK Γ0 E0 σ_s_WithoutStarter Λ_s_WithoutStarter Try.f20.ntmps (nthLoop Try.f20 0) (mkF Try.f20.ntmps [0, 1, 6, 7] (.pair (.list TStarter) (.pair (.int .i64) (.pair (.own 47 TStarter) (.pair (.int .i64) .unit)))) x) (readK σ_s_WithoutStarter Try.f20.ntmps [0, 1, 6, 7] (.pair (.list TStarter) (.pair (.int .i64) (.pair (.own 47 TStarter) (.pair (.int .i64) .unit)))) 0 [0, 6] (.pair (.list TStarter) (.pair (.own 47 TStarter) .unit)) [] .unit) = b_s_WithoutStarter_5 x := by kernel_rfl
theorem ok_s_WithoutStarter : FnOK Try.prog 20 S_s_WithoutStarter := fn_ok (Λ := Λ_s_WithoutStarter) tab0 σok_s_WithoutStarter Try.func20 (by kernel_rfl) (show Try.f20.body = some (bodyOf Try.f20) by kernel_rfl) [⟨[0, 1, 6, 7], (.pair (.list TStarter) (.pair (.int .i64) (.pair (.own 47 TStarter) (.pair (.int .i64) .unit)))), 0, [0, 6], (.pair (.list TStarter) (.pair (.own 47 TStarter) .unit)), [], .unit, loopL b_s_WithoutStarter_5⟩] rfl (by kernel_rfl) (by exact ⟨loop_LOK (lok_s_WithoutStarter_5), trivial⟩) (by kernel_rfl)
  fun x y h => (show execFn Γ0 E0 σ_s_WithoutStarter Λ_s_WithoutStarter Try.f20 S_s_WithoutStarter x = s_WithoutStarter x by kernel_rfl).trans h

noncomputable def l_toStarter (x : Ty.T (.pair TStarter .unit)) : Option (Ty.T (.pair TStarter .unit)) :=
some ((x.1.1, x.1.2.1, x.1.2.2.1, x.1.2.2.2.1, ()), ())
noncomputable def S_l_toStarter : Spec := ⟨(.pair TStarter .unit), (.pair TStarter .unit), .unit, rfl, l_toStarter⟩
noncomputable def σ_l_toStarter : FuncId → Option Spec := sig []
theorem σok_l_toStarter : ∀ f s, σ_l_toStarter f = some s → FnOK Try.prog f s := sig_ok (l := []) trivial
noncomputable def Λ_l_toStarter : Nat → Option LSpec := lkp (loopList (bodyOf Try.f78)) []
theorem ok_l_toStarter : FnOK Try.prog 78 S_l_toStarter := fn_ok (Λ := Λ_l_toStarter) tab0 σok_l_toStarter Try.func78 (by kernel_rfl) (show Try.f78.body = some (bodyOf Try.f78) by kernel_rfl) [] rfl (by kernel_rfl) (by exact trivial) (by kernel_rfl)
  fun x y h => (show execFn Γ0 E0 σ_l_toStarter Λ_l_toStarter Try.f78 S_l_toStarter x = l_toStarter x by kernel_rfl).trans h

noncomputable def b_l_toStarterS_3 (x : (Ty.T (.pair (.list TStarter) (.pair (.own 47 TStarter) (.pair (.int .i64) .unit))))) : Option ((Ty.T (.pair (.list TStarter) (.pair (.own 47 TStarter) (.pair (.int .i64) .unit)))) ⊕ ((Ty.T (.pair (.own 47 TStarter) .unit)) ⊕ (Ty.T .unit))) :=
match (decide (x.2.2.1 < (x.1.length : Int))) with
| true =>
 onSome (idx x.1 x.2.2.1) fun v1 =>
 match l_toStarter (v1, ()) with
 | none => none
 | some v2 =>
 onSome (idx x.2.1 x.2.2.1) fun _ =>
 match x.2.1[x.2.2.1.toNat]? with
 | none => none
 | some v4 =>
 some (.inl (x.1, (x.2.1.set x.2.2.1.toNat (v2.1.1, v2.1.2.1, v2.1.2.2.1, v2.1.2.2.2.1, ())), (IntKind.i64.wrap (x.2.2.1 + (1 : Int))), ()))
| false =>
 some (.inr (.inl (x.2.1, ())))
noncomputable def l_toStarterS (x : Ty.T (.pair (.list TStarter) .unit)) : Option (Ty.T (.pair (.own 47 TStarter) .unit)) :=
if 0 ≤ (x.1.length : Int) ∧ (x.1.length : Int) ≤ (x.1.length : Int) then
 room ((x.1.length : Int).toNat) (
  match loopL b_l_toStarterS_3 (x.1, (List.replicate (x.1.length : Int).toNat ((0 : Int), (0 : Int), (0 : Int), (0 : Int), ())), (0 : Int), ()) with
  | none => none
  | some (.inl v5) =>
   some (v5.1, ())
  | some (.inr v7) =>
   none)
else none
noncomputable def S_l_toStarterS : Spec := ⟨(.pair (.list TStarter) .unit), (.pair (.own 47 TStarter) .unit), .unit, rfl, l_toStarterS⟩
noncomputable def σ_l_toStarterS : FuncId → Option Spec := sig [(78, S_l_toStarter)]
theorem σok_l_toStarterS : ∀ f s, σ_l_toStarterS f = some s → FnOK Try.prog f s := sig_ok (l := [(78, S_l_toStarter)]) ⟨ok_l_toStarter, trivial⟩
noncomputable def Λ_l_toStarterS : Nat → Option LSpec := lkp (loopList (bodyOf Try.f21)) [⟨[0, 3, 4], (.pair (.list TStarter) (.pair (.own 47 TStarter) (.pair (.int .i64) .unit))), 0, [3], (.pair (.own 47 TStarter) .unit), [], .unit, loopL b_l_toStarterS_3⟩]
theorem lok_l_toStarterS_3 (x) : codeK Γ0 E0 σ_l_toStarterS Λ_l_toStarterS Try.f21.ntmps (nthLoop Try.f21 0) (mkF Try.f21.ntmps [0, 3, 4] (.pair (.list TStarter) (.pair (.own 47 TStarter) (.pair (.int .i64) .unit))) x) (readK σ_l_toStarterS Try.f21.ntmps [0, 3, 4] (.pair (.list TStarter) (.pair (.own 47 TStarter) (.pair (.int .i64) .unit))) 0 [3] (.pair (.own 47 TStarter) .unit) [] .unit) = b_l_toStarterS_3 x := by kernel_rfl
theorem ok_l_toStarterS : FnOK Try.prog 21 S_l_toStarterS := fn_ok (Λ := Λ_l_toStarterS) tab0 σok_l_toStarterS Try.func21 (by kernel_rfl) (show Try.f21.body = some (bodyOf Try.f21) by kernel_rfl) [⟨[0, 3, 4], (.pair (.list TStarter) (.pair (.own 47 TStarter) (.pair (.int .i64) .unit))), 0, [3], (.pair (.own 47 TStarter) .unit), [], .unit, loopL b_l_toStarterS_3⟩] rfl (by kernel_rfl) (by exact ⟨loop_LOK (lok_l_toStarterS_3), trivial⟩) (by kernel_rfl)
  fun x y h => (show execFn Γ0 E0 σ_l_toStarterS Λ_l_toStarterS Try.f21 S_l_toStarterS x = l_toStarterS x by kernel_rfl).trans h

noncomputable def i_isNode (x : Ty.T (.pair (.int .i64) .unit)) : Option (Ty.T (.pair .bool .unit)) :=
match i_within (x.1, (0 : Int), (31 : Int), ()) with
| none => none
| some v1 =>
some (v1.1, ())
noncomputable def S_i_isNode : Spec := ⟨(.pair (.int .i64) .unit), (.pair .bool .unit), .unit, rfl, i_isNode⟩
noncomputable def σ_i_isNode : FuncId → Option Spec := sig [(74, S_i_within)]
theorem σok_i_isNode : ∀ f s, σ_i_isNode f = some s → FnOK Try.prog f s := sig_ok (l := [(74, S_i_within)]) ⟨ok_i_within, trivial⟩
noncomputable def Λ_i_isNode : Nat → Option LSpec := lkp (loopList (bodyOf Try.f87)) []
theorem ok_i_isNode : FnOK Try.prog 87 S_i_isNode := fn_ok (Λ := Λ_i_isNode) tab0 σok_i_isNode Try.func87 (by kernel_rfl) (show Try.f87.body = some (bodyOf Try.f87) by kernel_rfl) [] rfl (by kernel_rfl) (by exact trivial) (by kernel_rfl)
  fun x y h => (show execFn Γ0 E0 σ_i_isNode Λ_i_isNode Try.f87 S_i_isNode x = i_isNode x by kernel_rfl).trans h

noncomputable def b_slices_IndexFunc_Starter_2 (x : (Ty.T (.pair (.list TStarter) (.pair (.fn (.pair TStarter .unit) (.pair .bool .unit)) (.pair (.int .i64) (.pair (.int .i64) .unit)))))) : Option ((Ty.T (.pair (.list TStarter) (.pair (.fn (.pair TStarter .unit) (.pair .bool .unit)) (.pair (.int .i64) (.pair (.int .i64) .unit))))) ⊕ ((Ty.T .unit) ⊕ (Ty.T (.pair (.int .i64) .unit)))) :=
match (decide (x.2.2.2.1 < x.2.2.1)) with
| true =>
 onSome (idx x.1 x.2.2.2.1) fun v1 =>
 match x.2.1 (v1, ()) with
 | none => none
 | some v2 =>
 match v2.1 with
 | true =>
  some (.inr (.inr (x.2.2.2.1, ())))
 | false =>
  some (.inl (x.1, x.2.1, x.2.2.1, (IntKind.i64.wrap (x.2.2.2.1 + (1 : Int))), ()))
| false =>
 some (.inr (.inl (())))
noncomputable def slices_IndexFunc_Starter (x : Ty.T (.pair (.list TStarter) (.pair (.fn (.pair TStarter .unit) (.pair .bool .unit)) .unit))) : Option (Ty.T (.pair (.int .i64) .unit)) :=
match loopL b_slices_IndexFunc_Starter_2 (x.1, x.2.1, (x.1.length : Int), (0 : Int), ()) with
| none => none
| some (.inl v3) =>
 some ((-1 : Int), ())
| some (.inr v4) =>
 some (v4.1, ())
noncomputable def S_slices_IndexFunc_Starter : Spec := ⟨(.pair (.list TStarter) (.pair (.fn (.pair TStarter .unit) (.pair .bool .unit)) .unit)), (.pair (.int .i64) .unit), .unit, rfl, slices_IndexFunc_Starter⟩
noncomputable def σ_slices_IndexFunc_Starter : FuncId → Option Spec := sig []
theorem σok_slices_IndexFunc_Starter : ∀ f s, σ_slices_IndexFunc_Starter f = some s → FnOK Try.prog f s := sig_ok (l := []) trivial
noncomputable def Λ_slices_IndexFunc_Starter : Nat → Option LSpec := lkp (loopList (bodyOf Try.f79)) [⟨[0, 1, 7, 8], (.pair (.list TStarter) (.pair (.fn (.pair TStarter .unit) (.pair .bool .unit)) (.pair (.int .i64) (.pair (.int .i64) .unit)))), 0, [], .unit, [4], (.pair (.int .i64) .unit), loopL b_slices_IndexFunc_Starter_2⟩]
theorem lok_slices_IndexFunc_Starter_2 (x) : codeK Γ0 E0 σ_slices_IndexFunc_Starter Λ_slices_IndexFunc_Starter Try.f79.ntmps (nthLoop Try.f79 0) (mkF Try.f79.ntmps [0, 1, 7, 8] (.pair (.list TStarter) (.pair (.fn (.pair TStarter .unit) (.pair .bool .unit)) (.pair (.int .i64) (.pair (.int .i64) .unit)))) x) (readK σ_slices_IndexFunc_Starter Try.f79.ntmps [0, 1, 7, 8] (.pair (.list TStarter) (.pair (.fn (.pair TStarter .unit) (.pair .bool .unit)) (.pair (.int .i64) (.pair (.int .i64) .unit)))) 0 [] .unit [4] (.pair (.int .i64) .unit)) = b_slices_IndexFunc_Starter_2 x := by kernel_rfl
theorem ok_slices_IndexFunc_Starter : FnOK Try.prog 79 S_slices_IndexFunc_Starter := fn_ok (Λ := Λ_slices_IndexFunc_Starter) tab0 σok_slices_IndexFunc_Starter Try.func79 (by kernel_rfl) (show Try.f79.body = some (bodyOf Try.f79) by kernel_rfl) [⟨[0, 1, 7, 8], (.pair (.list TStarter) (.pair (.fn (.pair TStarter .unit) (.pair .bool .unit)) (.pair (.int .i64) (.pair (.int .i64) .unit)))), 0, [], .unit, [4], (.pair (.int .i64) .unit), loopL b_slices_IndexFunc_Starter_2⟩] rfl (by kernel_rfl) (by exact ⟨loop_LOK (lok_slices_IndexFunc_Starter_2), trivial⟩) (by kernel_rfl)
  fun x y h => (show execFn Γ0 E0 σ_slices_IndexFunc_Starter Λ_slices_IndexFunc_Starter Try.f79 S_slices_IndexFunc_Starter x = slices_IndexFunc_Starter x by kernel_rfl).trans h

noncomputable def slices_ContainsFunc_Starter (x : Ty.T (.pair (.list TStarter) (.pair (.fn (.pair TStarter .unit) (.pair .bool .unit)) .unit))) : Option (Ty.T (.pair .bool .unit)) :=
match slices_IndexFunc_Starter (x.1, x.2.1, ()) with
| none => none
| some v1 =>
some ((decide (v1.1 ≥ (0 : Int))), ())
noncomputable def S_slices_ContainsFunc_Starter : Spec := ⟨(.pair (.list TStarter) (.pair (.fn (.pair TStarter .unit) (.pair .bool .unit)) .unit)), (.pair .bool .unit), .unit, rfl, slices_ContainsFunc_Starter⟩
noncomputable def σ_slices_ContainsFunc_Starter : FuncId → Option Spec := sig [(79, S_slices_IndexFunc_Starter)]
theorem σok_slices_ContainsFunc_Starter : ∀ f s, σ_slices_ContainsFunc_Starter f = some s → FnOK Try.prog f s := sig_ok (l := [(79, S_slices_IndexFunc_Starter)]) ⟨ok_slices_IndexFunc_Starter, trivial⟩
noncomputable def Λ_slices_ContainsFunc_Starter : Nat → Option LSpec := lkp (loopList (bodyOf Try.f88)) []
theorem ok_slices_ContainsFunc_Starter : FnOK Try.prog 88 S_slices_ContainsFunc_Starter := fn_ok (Λ := Λ_slices_ContainsFunc_Starter) tab0 σok_slices_ContainsFunc_Starter Try.func88 (by kernel_rfl) (show Try.f88.body = some (bodyOf Try.f88) by kernel_rfl) [] rfl (by kernel_rfl) (by exact trivial) (by kernel_rfl)
  fun x y h => (show execFn Γ0 E0 σ_slices_ContainsFunc_Starter Λ_slices_ContainsFunc_Starter Try.f88 S_slices_ContainsFunc_Starter x = slices_ContainsFunc_Starter x by kernel_rfl).trans h

noncomputable def i_AreStarters_1 (x : Ty.T (.pair TStarter (.pair (.ptr TStarter) .unit))) : Option (Ty.T (.pair .bool .unit)) :=
match (x.1.1 == x.2.1.1) with
| true =>
 some (true, ())
| false =>
 some ((x.1.2.2.2.1 == x.2.1.2.2.2.1), ())
noncomputable def S_i_AreStarters_1 : Spec := ⟨(.pair TStarter (.pair (.ptr TStarter) .unit)), (.pair .bool .unit), .unit, rfl, i_AreStarters_1⟩
noncomputable def σ_i_AreStarters_1 : FuncId → Option Spec := sig []
theorem σok_i_AreStarters_1 : ∀ f s, σ_i_AreStarters_1 f = some s → FnOK Try.prog f s := sig_ok (l := []) trivial
noncomputable def Λ_i_AreStarters_1 : Nat → Option LSpec := lkp (loopList (bodyOf Try.f89)) []
theorem ok_i_AreStarters_1 : FnOK Try.prog 89 S_i_AreStarters_1 := fn_ok (Λ := Λ_i_AreStarters_1) tab0 σok_i_AreStarters_1 Try.func89 (by kernel_rfl) (show Try.f89.body = some (bodyOf Try.f89) by kernel_rfl) [] rfl (by kernel_rfl) (by exact trivial) (by kernel_rfl)
  fun x y h => (show execFn Γ0 E0 σ_i_AreStarters_1 Λ_i_AreStarters_1 Try.f89 S_i_AreStarters_1 x = i_AreStarters_1 x by kernel_rfl).trans h

noncomputable def b_i_AreStarters_2 (x : (Ty.T (.pair (.list TStarter) (.pair (.list TStarter) (.pair (.int .i64) (.pair (.int .i64) .unit)))))) : Option ((Ty.T (.pair (.list TStarter) (.pair (.list TStarter) (.pair (.int .i64) (.pair (.int .i64) .unit))))) ⊕ ((Ty.T (.pair (.list TStarter) .unit)) ⊕ (Ty.T (.pair .bool .unit)))) :=
match (decide (x.2.2.2.1 < x.2.2.1)) with
| true =>
 onSome (idx x.2.1 x.2.2.2.1) fun v1 =>
 match i_isNode (v1.1, ()) with
 | none => none
 | some v2 =>
 match (!v2.1) with
 | true =>
  some (.inr (.inr (false, ())))
 | false =>
  match i_within (v1.2.1, (0 : Int), (100000 : Int), ()) with
  | none => none
  | some v3 =>
  match (!v3.1) with
  | true =>
   some (.inr (.inr (false, ())))
  | false =>
   match i_within (v1.2.2.1, (1 : Int), (100000 : Int), ()) with
   | none => none
   | some v4 =>
   match (!v4.1) with
   | true =>
    some (.inr (.inr (false, ())))
   | false =>
    match i_within (v1.2.2.2.1, (1 : Int), (100000 : Int), ()) with
    | none => none
    | some v5 =>
    match (!v5.1) with
    | true =>
     some (.inr (.inr (false, ())))
    | false =>
     onSome (bounds x.1.length none (some (.dat (.int .i64) x.2.2.2.1))) fun v6 =>
     match slices_ContainsFunc_Starter ((List.drop v6.1 (List.take v6.2 x.1)), (fun z => i_AreStarters_1 (z.1, (v1.1, v1.2.1, v1.2.2.1, v1.2.2.2.1, ()), ())), ()) with
     | none => none
     | some v7 =>
     match v7.1 with
     | true =>
      some (.inr (.inr (false, ())))
     | false =>
      some (.inl (x.1, x.2.1, x.2.2.1, (IntKind.i64.wrap (x.2.2.2.1 + (1 : Int))), ()))
| false =>
 some (.inr (.inl (x.1, ())))
noncomputable def i_AreStarters (x : Ty.T (.pair (.list TStarter) .unit)) : Option (Ty.T (.pair .bool .unit)) :=
match loopL b_i_AreStarters_2 (x.1, x.1, (x.1.length : Int), (0 : Int), ()) with
| none => none
| some (.inl v8) =>
 match (decide ((v8.1.length : Int) ≥ (1 : Int))) with
 | true =>
  some ((decide ((v8.1.length : Int) ≤ (32 : Int))), ())
 | false =>
  some (false, ())
| some (.inr v9) =>
 some (v9.1, ())
noncomputable def S_i_AreStarters : Spec := ⟨(.pair (.list TStarter) .unit), (.pair .bool .unit), .unit, rfl, i_AreStarters⟩
noncomputable def σ_i_AreStarters : FuncId → Option Spec := sig [(74, S_i_within), (87, S_i_isNode), (88, S_slices_ContainsFunc_Starter), (89, S_i_AreStarters_1)]
theorem σok_i_AreStarters : ∀ f s, σ_i_AreStarters f = some s → FnOK Try.prog f s := sig_ok (l := [(74, S_i_within), (87, S_i_isNode), (88, S_slices_ContainsFunc_Starter), (89, S_i_AreStarters_1)]) ⟨ok_i_within, ok_i_isNode, ok_slices_ContainsFunc_Starter, ok_i_AreStarters_1, trivial⟩
noncomputable def Λ_i_AreStarters : Nat → Option LSpec := lkp (loopList (bodyOf Try.f30)) [⟨[0, 5, 6, 7], (.pair (.list TStarter) (.pair (.list TStarter) (.pair (.int .i64) (.pair (.int .i64) .unit)))), 0, [0], (.pair (.list TStarter) .unit), [2], (.pair .bool .unit), loopL b_i_AreStarters_2⟩]
theorem lok_i_AreStarters_2 (x) : codeK Γ0 E0 σ_i_AreStarters Λ_i_AreStarters Try.f30.ntmps (nthLoop Try.f30 0) (mkF Try.f30.ntmps [0, 5, 6, 7] (.pair (.list TStarter) (.pair (.list TStarter) (.pair (.int .i64) (.pair (.int .i64) .unit)))) x) (readK σ_i_AreStarters Try.f30.ntmps [0, 5, 6, 7] (.pair (.list TStarter) (.pair (.list TStarter) (.pair (.int .i64) (.pair (.int .i64) .unit)))) 0 [0] (.pair (.list TStarter) .unit) [2] (.pair .bool .unit)) = b_i_AreStarters_2 x := by kernel_rfl
theorem ok_i_AreStarters : FnOK Try.prog 30 S_i_AreStarters := fn_ok (Λ := Λ_i_AreStarters) tab0 σok_i_AreStarters Try.func30 (by kernel_rfl) (show Try.f30.body = some (bodyOf Try.f30) by kernel_rfl) [⟨[0, 5, 6, 7], (.pair (.list TStarter) (.pair (.list TStarter) (.pair (.int .i64) (.pair (.int .i64) .unit)))), 0, [0], (.pair (.list TStarter) .unit), [2], (.pair .bool .unit), loopL b_i_AreStarters_2⟩] rfl (by kernel_rfl) (by exact ⟨loop_LOK (lok_i_AreStarters_2), trivial⟩) (by kernel_rfl)
  fun x y h => (show execFn Γ0 E0 σ_i_AreStarters Λ_i_AreStarters Try.f30 S_i_AreStarters x = i_AreStarters x by kernel_rfl).trans h

noncomputable def i_WithoutStarter_1 (x : Ty.T (.pair TStarter (.pair (.ptr (.int .i64)) .unit))) : Option (Ty.T (.pair .bool .unit)) :=
some ((x.1.1 == x.2.1), ())
noncomputable def S_i_WithoutStarter_1 : Spec := ⟨(.pair TStarter (.pair (.ptr (.int .i64)) .unit)), (.pair .bool .unit), .unit, rfl, i_WithoutStarter_1⟩
noncomputable def σ_i_WithoutStarter_1 : FuncId → Option Spec := sig []
theorem σok_i_WithoutStarter_1 : ∀ f s, σ_i_WithoutStarter_1 f = some s → FnOK Try.prog f s := sig_ok (l := []) trivial
noncomputable def Λ_i_WithoutStarter_1 : Nat → Option LSpec := lkp (loopList (bodyOf Try.f80)) []
theorem ok_i_WithoutStarter_1 : FnOK Try.prog 80 S_i_WithoutStarter_1 := fn_ok (Λ := Λ_i_WithoutStarter_1) tab0 σok_i_WithoutStarter_1 Try.func80 (by kernel_rfl) (show Try.f80.body = some (bodyOf Try.f80) by kernel_rfl) [] rfl (by kernel_rfl) (by exact trivial) (by kernel_rfl)
  fun x y h => (show execFn Γ0 E0 σ_i_WithoutStarter_1 Λ_i_WithoutStarter_1 Try.f80 S_i_WithoutStarter_1 x = i_WithoutStarter_1 x by kernel_rfl).trans h

noncomputable def slices_Grow_Starter (x : Ty.T (.pair .nil (.pair (.int .i64) .unit))) : Option (Ty.T (.pair (.own 47 TStarter) .unit)) :=
match (decide (x.2.1 < (0 : Int))) with
| true =>
 none
| false =>
 match (decide ((IntKind.i64.wrap (x.2.1 - (IntKind.i64.wrap ((0 : Int) - (0 : Int))))) > (0 : Int))) with
 | true =>
  onSome (bounds 0 none (some (.dat (.int .i64) (0 : Int)))) fun v1 =>
  if 0 ≤ (IntKind.i64.wrap (x.2.1 - (IntKind.i64.wrap ((0 : Int) - (0 : Int))))) then
   room ((IntKind.i64.wrap (x.2.1 - (IntKind.i64.wrap ((0 : Int) - (0 : Int))))).toNat) (
    onSome (bounds (List.replicate (IntKind.i64.wrap (x.2.1 - (IntKind.i64.wrap ((0 : Int) - (0 : Int))))).toNat ((0 : Int), (0 : Int), (0 : Int), (0 : Int), ())).length none (some (.dat (.int .i64) (0 : Int)))) fun v2 =>
    some ((List.take v2.2 (List.replicate (IntKind.i64.wrap (x.2.1 - (IntKind.i64.wrap ((0 : Int) - (0 : Int))))).toNat ((0 : Int), (0 : Int), (0 : Int), (0 : Int), ()))), ()))
  else none
 | false =>
  some ([], ())
noncomputable def S_slices_Grow_Starter : Spec := ⟨(.pair .nil (.pair (.int .i64) .unit)), (.pair (.own 47 TStarter) .unit), .unit, rfl, slices_Grow_Starter⟩
noncomputable def σ_slices_Grow_Starter : FuncId → Option Spec := sig []
theorem σok_slices_Grow_Starter : ∀ f s, σ_slices_Grow_Starter f = some s → FnOK Try.prog f s := sig_ok (l := []) trivial
noncomputable def Λ_slices_Grow_Starter : Nat → Option LSpec := lkp (loopList (bodyOf Try.f122)) []
theorem ok_slices_Grow_Starter : FnOK Try.prog 122 S_slices_Grow_Starter := fn_ok (Λ := Λ_slices_Grow_Starter) tab0 σok_slices_Grow_Starter Try.func122 (by kernel_rfl) (show Try.f122.body = some (bodyOf Try.f122) by kernel_rfl) [] rfl (by kernel_rfl) (by exact trivial) (by kernel_rfl)
  fun x y h => (show execFn Γ0 E0 σ_slices_Grow_Starter Λ_slices_Grow_Starter Try.f122 S_slices_Grow_Starter x = slices_Grow_Starter x by kernel_rfl).trans h

noncomputable def b_slices_Concat_Starter_3 (x : (Ty.T (.pair (.list (.list TStarter)) (.pair (.int .i64) (.pair (.list (.list TStarter)) (.pair (.int .i64) (.pair (.int .i64) .unit))))))) : Option ((Ty.T (.pair (.list (.list TStarter)) (.pair (.int .i64) (.pair (.list (.list TStarter)) (.pair (.int .i64) (.pair (.int .i64) .unit)))))) ⊕ ((Ty.T (.pair (.list (.list TStarter)) (.pair (.int .i64) .unit))) ⊕ (Ty.T .unit))) :=
match (decide (x.2.2.2.2.1 < x.2.2.2.1)) with
| true =>
 onSome (idx x.2.2.1 x.2.2.2.2.1) fun v1 =>
 match (decide ((IntKind.i64.wrap (x.2.1 + (v1.length : Int))) < (0 : Int))) with
 | true =>
  none
 | false =>
  some (.inl (x.1, (IntKind.i64.wrap (x.2.1 + (v1.length : Int))), x.2.2.1, x.2.2.2.1, (IntKind.i64.wrap (x.2.2.2.2.1 + (1 : Int))), ()))
| false =>
 some (.inr (.inl (x.1, x.2.1, ())))
noncomputable def b_slices_Concat_Starter_11 (x : (Ty.T (.pair (.own 47 TStarter) (.pair (.list (.list TStarter)) (.pair (.int .i64) (.pair (.int .i64) .unit)))))) : Option ((Ty.T (.pair (.own 47 TStarter) (.pair (.list (.list TStarter)) (.pair (.int .i64) (.pair (.int .i64) .unit))))) ⊕ ((Ty.T (.pair (.own 47 TStarter) .unit)) ⊕ (Ty.T .unit))) :=
match (decide (x.2.2.2.1 < x.2.2.1)) with
| true =>
 onSome (idx x.2.1 x.2.2.2.1) fun v5 =>
 room (x.1.length + v5.length) (
  some (.inl ((x.1 ++ v5), x.2.1, x.2.2.1, (IntKind.i64.wrap (x.2.2.2.1 + (1 : Int))), ())))
| false =>
 some (.inr (.inl (x.1, ())))
noncomputable def slices_Concat_Starter (x : Ty.T (.pair (.list (.list TStarter)) .unit)) : Option (Ty.T (.pair (.own 47 TStarter) .unit)) :=
match loopL b_slices_Concat_Starter_3 (x.1, (0 : Int), x.1, (x.1.length : Int), (0 : Int), ()) with
| none => none
| some (.inl v2) =>
 match slices_Grow_Starter ((), v2.2.1, ()) with
 | none => none
 | some v4 =>
 match loopL b_slices_Concat_Starter_11 (v4.1, v2.1, (v2.1.length : Int), (0 : Int), ()) with
 | none => none
 | some (.inl v6) =>
  some (v6.1, ())
 | some (.inr v8) =>
  none
| some (.inr v9) =>
 none
noncomputable def S_slices_Concat_Starter : Spec := ⟨(.pair (.list (.list TStarter)) .unit), (.pair (.own 47 TStarter) .unit), .unit, rfl, slices_Concat_Starter⟩
noncomputable def σ_slices_Concat_Starter : FuncId → Option Spec := sig [(122, S_slices_Grow_Starter)]
theorem σok_slices_Concat_Starter : ∀ f s, σ_slices_Concat_Starter f = some s → FnOK Try.prog f s := sig_ok (l := [(122, S_slices_Grow_Starter)]) ⟨ok_slices_Grow_Starter, trivial⟩
noncomputable def Λ_slices_Concat_Starter : Nat → Option LSpec := lkp (loopList (bodyOf Try.f81)) [⟨[0, 3, 9, 10, 11], (.pair (.list (.list TStarter)) (.pair (.int .i64) (.pair (.list (.list TStarter)) (.pair (.int .i64) (.pair (.int .i64) .unit))))), 0, [0, 3], (.pair (.list (.list TStarter)) (.pair (.int .i64) .unit)), [], .unit, loopL b_slices_Concat_Starter_3⟩, ⟨[6, 25, 26, 27], (.pair (.own 47 TStarter) (.pair (.list (.list TStarter)) (.pair (.int .i64) (.pair (.int .i64) .unit)))), 2, [6], (.pair (.own 47 TStarter) .unit), [], .unit, loopL b_slices_Concat_Starter_11⟩]
theorem lok_slices_Concat_Starter_3 (x) : codeK Γ0 E0 σ_slices_Concat_Starter Λ_slices_Concat_Starter Try.f81.ntmps (nthLoop Try.f81 0) (mkF Try.f81.ntmps [0, 3, 9, 10, 11] (.pair (.list (.list TStarter)) (.pair (.int .i64) (.pair (.list (.list TStarter)) (.pair (.int .i64) (.pair (.int .i64) .unit))))) x) (readK σ_slices_Concat_Starter Try.f81.ntmps [0, 3, 9, 10, 11] (.pair (.list (.list TStarter)) (.pair (.int .i64) (.pair (.list (.list TStarter)) (.pair (.int .i64) (.pair (.int .i64) .unit))))) 0 [0, 3] (.pair (.list (.list TStarter)) (.pair (.int .i64) .unit)) [] .unit) = b_slices_Concat_Starter_3 x := by kernel_rfl
theorem lok_slices_Concat_Starter_11 (x) : codeK Γ0 E0 σ_slices_Concat_Starter Λ_slices_Concat_Starter Try.f81.ntmps (nthLoop Try.f81 1) (mkF Try.f81.ntmps [6, 25, 26, 27] (.pair (.own 47 TStarter) (.pair (.list (.list TStarter)) (.pair (.int .i64) (.pair (.int .i64) .unit)))) x) (readK σ_slices_Concat_Starter Try.f81.ntmps [6, 25, 26, 27] (.pair (.own 47 TStarter) (.pair (.list (.list TStarter)) (.pair (.int .i64) (.pair (.int .i64) .unit)))) 2 [6] (.pair (.own 47 TStarter) .unit) [] .unit) = b_slices_Concat_Starter_11 x := by kernel_rfl
theorem ok_slices_Concat_Starter : FnOK Try.prog 81 S_slices_Concat_Starter := fn_ok (Λ := Λ_slices_Concat_Starter) tab0 σok_slices_Concat_Starter Try.func81 (by kernel_rfl) (show Try.f81.body = some (bodyOf Try.f81) by kernel_rfl) [⟨[0, 3, 9, 10, 11], (.pair (.list (.list TStarter)) (.pair (.int .i64) (.pair (.list (.list TStarter)) (.pair (.int .i64) (.pair (.int .i64) .unit))))), 0, [0, 3], (.pair (.list (.list TStarter)) (.pair (.int .i64) .unit)), [], .unit, loopL b_slices_Concat_Starter_3⟩, ⟨[6, 25, 26, 27], (.pair (.own 47 TStarter) (.pair (.list (.list TStarter)) (.pair (.int .i64) (.pair (.int .i64) .unit)))), 2, [6], (.pair (.own 47 TStarter) .unit), [], .unit, loopL b_slices_Concat_Starter_11⟩] rfl (by kernel_rfl) (by exact ⟨loop_LOK (lok_slices_Concat_Starter_3), loop_LOK (lok_slices_Concat_Starter_11), trivial⟩) (by kernel_rfl)
  fun x y h => (show execFn Γ0 E0 σ_slices_Concat_Starter Λ_slices_Concat_Starter Try.f81 S_slices_Concat_Starter x = slices_Concat_Starter x by kernel_rfl).trans h

noncomputable def i_WithoutStarter (x : Ty.T (.pair (.list TStarter) (.pair (.int .i64) .unit))) : Option (Ty.T (.pair (.own 47 TStarter) (.pair (.int .i64) .unit))) :=
match i_AreStarters (x.1, ()) with
| none => none
| some v1 =>
match (!v1.1) with
| true =>
 some ([], (1 : Int), ())
| false =>
 match slices_IndexFunc_Starter (x.1, (fun z => i_WithoutStarter_1 (z.1, x.2.1, ())), ()) with
 | none => none
 | some v2 =>
 match (decide (v2.1 < (0 : Int))) with
 | true =>
  some ([], (4 : Int), ())
 | false =>
  match ((x.1.length : Int) == (1 : Int)) with
  | true =>
   some ([], (5 : Int), ())
  | false =>
   onSome (bounds x.1.length none (some (.dat (.int .i64) v2.1))) fun v3 =>
   onSome (bounds x.1.length (some (.dat (.int .i64) (IntKind.i64.wrap (v2.1 + (1 : Int))))) none) fun v4 =>
   match slices_Concat_Starter ([(List.drop v3.1 (List.take v3.2 x.1)), (List.drop v4.1 (List.take v4.2 x.1))], ()) with
   | none => none
   | some v5 =>
   some (v5.1, (0 : Int), ())
noncomputable def S_i_WithoutStarter : Spec := ⟨(.pair (.list TStarter) (.pair (.int .i64) .unit)), (.pair (.own 47 TStarter) (.pair (.int .i64) .unit)), .unit, rfl, i_WithoutStarter⟩
noncomputable def σ_i_WithoutStarter : FuncId → Option Spec := sig [(30, S_i_AreStarters), (79, S_slices_IndexFunc_Starter), (80, S_i_WithoutStarter_1), (81, S_slices_Concat_Starter)]
theorem σok_i_WithoutStarter : ∀ f s, σ_i_WithoutStarter f = some s → FnOK Try.prog f s := sig_ok (l := [(30, S_i_AreStarters), (79, S_slices_IndexFunc_Starter), (80, S_i_WithoutStarter_1), (81, S_slices_Concat_Starter)]) ⟨ok_i_AreStarters, ok_slices_IndexFunc_Starter, ok_i_WithoutStarter_1, ok_slices_Concat_Starter, trivial⟩
noncomputable def Λ_i_WithoutStarter : Nat → Option LSpec := lkp (loopList (bodyOf Try.f22)) []
theorem ok_i_WithoutStarter : FnOK Try.prog 22 S_i_WithoutStarter := fn_ok (Λ := Λ_i_WithoutStarter) tab0 σok_i_WithoutStarter Try.func22 (by kernel_rfl) (show Try.f22.body = some (bodyOf Try.f22) by kernel_rfl) [] rfl (by kernel_rfl) (by exact trivial) (by kernel_rfl)
  fun x y h => (show execFn Γ0 E0 σ_i_WithoutStarter Λ_i_WithoutStarter Try.f22 S_i_WithoutStarter x = i_WithoutStarter x by kernel_rfl).trans h

noncomputable def l_eqStarter (x : Ty.T (.pair TStarter (.pair TStarter .unit))) : Option (Ty.T (.pair .bool .unit)) :=
match (x.1.1 != x.2.1.1) with
| true =>
 some (false, ())
| false =>
 match (x.1.2.1 != x.2.1.2.1) with
 | true =>
  some (false, ())
 | false =>
  match (x.1.2.2.1 != x.2.1.2.2.1) with
  | true =>
   some (false, ())
  | false =>
   match (x.1.2.2.2.1 != x.2.1.2.2.2.1) with
   | true =>
    some (false, ())
   | false =>
    some (true, ())
noncomputable def S_l_eqStarter : Spec := ⟨(.pair TStarter (.pair TStarter .unit)), (.pair .bool .unit), .unit, rfl, l_eqStarter⟩
noncomputable def σ_l_eqStarter : FuncId → Option Spec := sig []
theorem σok_l_eqStarter : ∀ f s, σ_l_eqStarter f = some s → FnOK Try.prog f s := sig_ok (l := []) trivial
noncomputable def Λ_l_eqStarter : Nat → Option LSpec := lkp (loopList (bodyOf Try.f82)) []
theorem ok_l_eqStarter : FnOK Try.prog 82 S_l_eqStarter := fn_ok (Λ := Λ_l_eqStarter) tab0 σok_l_eqStarter Try.func82 (by kernel_rfl) (show Try.f82.body = some (bodyOf Try.f82) by kernel_rfl) [] rfl (by kernel_rfl) (by exact trivial) (by kernel_rfl)
  fun x y h => (show execFn Γ0 E0 σ_l_eqStarter Λ_l_eqStarter Try.f82 S_l_eqStarter x = l_eqStarter x by kernel_rfl).trans h

noncomputable def b_l_eqStarterS_4 (x : (Ty.T (.pair (.list TStarter) (.pair (.list TStarter) (.pair (.int .i64) .unit))))) : Option ((Ty.T (.pair (.list TStarter) (.pair (.list TStarter) (.pair (.int .i64) .unit)))) ⊕ ((Ty.T .unit) ⊕ (Ty.T (.pair .bool .unit)))) :=
match (decide (x.2.2.1 < (x.1.length : Int))) with
| true =>
 onSome (idx x.1 x.2.2.1) fun v1 =>
 onSome (idx x.2.1 x.2.2.1) fun v2 =>
 match l_eqStarter (v1, v2, ()) with
 | none => none
 | some v3 =>
 match (!v3.1) with
 | true =>
  some (.inr (.inr (false, ())))
 | false =>
  some (.inl (x.1, x.2.1, (IntKind.i64.wrap (x.2.2.1 + (1 : Int))), ()))
| false =>
 some (.inr (.inl (())))
noncomputable def l_eqStarterS (x : Ty.T (.pair (.list TStarter) (.pair (.list TStarter) .unit))) : Option (Ty.T (.pair .bool .unit)) :=
match ((x.1.length : Int) != (x.2.1.length : Int)) with
| true =>
 some (false, ())
| false =>
 match loopL b_l_eqStarterS_4 (x.1, x.2.1, (0 : Int), ()) with
 | none => none
 | some (.inl v4) =>
  some (true, ())
 | some (.inr v5) =>
  some (v5.1, ())
noncomputable def S_l_eqStarterS : Spec := ⟨(.pair (.list TStarter) (.pair (.list TStarter) .unit)), (.pair .bool .unit), .unit, rfl, l_eqStarterS⟩
noncomputable def σ_l_eqStarterS : FuncId → Option Spec := sig [(82, S_l_eqStarter)]
theorem σok_l_eqStarterS : ∀ f s, σ_l_eqStarterS f = some s → FnOK Try.prog f s := sig_ok (l := [(82, S_l_eqStarter)]) ⟨ok_l_eqStarter, trivial⟩
noncomputable def Λ_l_eqStarterS : Nat → Option LSpec := lkp (loopList (bodyOf Try.f23)) [⟨[0, 1, 5], (.pair (.list TStarter) (.pair (.list TStarter) (.pair (.int .i64) .unit))), 0, [], .unit, [4], (.pair .bool .unit), loopL b_l_eqStarterS_4⟩]
theorem lok_l_eqStarterS_4 (x) : codeK Γ0 E0 σ_l_eqStarterS Λ_l_eqStarterS Try.f23.ntmps (nthLoop Try.f23 0) (mkF Try.f23.ntmps [0, 1, 5] (.pair (.list TStarter) (.pair (.list TStarter) (.pair (.int .i64) .unit))) x) (readK σ_l_eqStarterS Try.f23.ntmps [0, 1, 5] (.pair (.list TStarter) (.pair (.list TStarter) (.pair (.int .i64) .unit))) 0 [] .unit [4] (.pair .bool .unit)) = b_l_eqStarterS_4 x := by kernel_rfl
theorem ok_l_eqStarterS : FnOK Try.prog 23 S_l_eqStarterS := fn_ok (Λ := Λ_l_eqStarterS) tab0 σok_l_eqStarterS Try.func23 (by kernel_rfl) (show Try.f23.body = some (bodyOf Try.f23) by kernel_rfl) [⟨[0, 1, 5], (.pair (.list TStarter) (.pair (.list TStarter) (.pair (.int .i64) .unit))), 0, [], .unit, [4], (.pair .bool .unit), loopL b_l_eqStarterS_4⟩] rfl (by kernel_rfl) (by exact ⟨loop_LOK (lok_l_eqStarterS_4), trivial⟩) (by kernel_rfl)
  fun x y h => (show execFn Γ0 E0 σ_l_eqStarterS Λ_l_eqStarterS Try.f23 S_l_eqStarterS x = l_eqStarterS x by kernel_rfl).trans h

noncomputable def b_l_markStarterS_2 (x : (Ty.T (.pair (.own 47 TStarter) (.pair (.int .i64) (.pair (.int .i64) .unit))))) : Option ((Ty.T (.pair (.own 47 TStarter) (.pair (.int .i64) (.pair (.int .i64) .unit)))) ⊕ ((Ty.T (.pair (.own 47 TStarter) (.pair (.int .i64) .unit))) ⊕ (Ty.T .unit))) :=
match (decide (x.2.2.1 < (x.1.length : Int))) with
| true =>
 onSome (idx x.1 x.2.2.1) fun _ =>
 match x.1[x.2.2.1.toNat]? with
 | none => none
 | some v2 =>
 onSome (idx (x.1.set x.2.2.1.toNat (x.2.1, v2.2.1, v2.2.2.1, v2.2.2.2.1, ())) x.2.2.1) fun _ =>
 match (x.1.set x.2.2.1.toNat (x.2.1, v2.2.1, v2.2.2.1, v2.2.2.2.1, ()))[x.2.2.1.toNat]? with
 | none => none
 | some v4 =>
 onSome (idx ((x.1.set x.2.2.1.toNat (x.2.1, v2.2.1, v2.2.2.1, v2.2.2.2.1, ())).set x.2.2.1.toNat (v4.1, (IntKind.i64.wrap (x.2.1 + (1 : Int))), v4.2.2.1, v4.2.2.2.1, ())) x.2.2.1) fun _ =>
 match ((x.1.set x.2.2.1.toNat (x.2.1, v2.2.1, v2.2.2.1, v2.2.2.2.1, ())).set x.2.2.1.toNat (v4.1, (IntKind.i64.wrap (x.2.1 + (1 : Int))), v4.2.2.1, v4.2.2.2.1, ()))[x.2.2.1.toNat]? with
 | none => none
 | some v6 =>
 onSome (idx (((x.1.set x.2.2.1.toNat (x.2.1, v2.2.1, v2.2.2.1, v2.2.2.2.1, ())).set x.2.2.1.toNat (v4.1, (IntKind.i64.wrap (x.2.1 + (1 : Int))), v4.2.2.1, v4.2.2.2.1, ())).set x.2.2.1.toNat (v6.1, v6.2.1, (IntKind.i64.wrap ((IntKind.i64.wrap (x.2.1 + (1 : Int))) + (1 : Int))), v6.2.2.2.1, ())) x.2.2.1) fun _ =>
 match (((x.1.set x.2.2.1.toNat (x.2.1, v2.2.1, v2.2.2.1, v2.2.2.2.1, ())).set x.2.2.1.toNat (v4.1, (IntKind.i64.wrap (x.2.1 + (1 : Int))), v4.2.2.1, v4.2.2.2.1, ())).set x.2.2.1.toNat (v6.1, v6.2.1, (IntKind.i64.wrap ((IntKind.i64.wrap (x.2.1 + (1 : Int))) + (1 : Int))), v6.2.2.2.1, ()))[x.2.2.1.toNat]? with
 | none => none
 | some v8 =>
 some (.inl (((((x.1.set x.2.2.1.toNat (x.2.1, v2.2.1, v2.2.2.1, v2.2.2.2.1, ())).set x.2.2.1.toNat (v4.1, (IntKind.i64.wrap (x.2.1 + (1 : Int))), v4.2.2.1, v4.2.2.2.1, ())).set x.2.2.1.toNat (v6.1, v6.2.1, (IntKind.i64.wrap ((IntKind.i64.wrap (x.2.1 + (1 : Int))) + (1 : Int))), v6.2.2.2.1, ())).set x.2.2.1.toNat (v8.1, v8.2.1, v8.2.2.1, (IntKind.i64.wrap ((IntKind.i64.wrap ((IntKind.i64.wrap (x.2.1 + (1 : Int))) + (1 : Int))) + (1 : Int))), ())), (IntKind.i64.wrap ((IntKind.i64.wrap ((IntKind.i64.wrap ((IntKind.i64.wrap (x.2.1 + (1 : Int))) + (1 : Int))) + (1 : Int))) + (1 : Int))), (IntKind.i64.wrap (x.2.2.1 + (1 : Int))), ()))
| false =>
 some (.inr (.inl (x.1, x.2.1, ())))
noncomputable def l_markStarterS (x : Ty.T (.pair (.own 47 TStarter) (.pair (.int .i64) .unit))) : Option (Ty.T (.pair (.int .i64) (.pair (.own 47 TStarter) .unit))) :=
match loopL b_l_markStarterS_2 (x.1, x.2.1, (0 : Int), ()) with
| none => none
| some (.inl v9) =>
 some (v9.2.1, v9.1, ())
| some (.inr v11) =>
 none
noncomputable def S_l_markStarterS : Spec := ⟨(.pair (.own 47 TStarter) (.pair (.int .i64) .unit)), (.pair (.int .i64) .unit), (.pair (.own 47 TStarter) .unit), rfl, l_markStarterS⟩
noncomputable def σ_l_markStarterS : FuncId → Option Spec := sig []
theorem σok_l_markStarterS : ∀ f s, σ_l_markStarterS f = some s → FnOK Try.prog f s := sig_ok (l := []) trivial
noncomputable def Λ_l_markStarterS : Nat → Option LSpec := lkp (loopList (bodyOf Try.f24)) [⟨[0, 1, 5], (.pair (.own 47 TStarter) (.pair (.int .i64) (.pair (.int .i64) .unit))), 0, [0, 1], (.pair (.own 47 TStarter) (.pair (.int .i64) .unit)), [], .unit, loopL b_l_markStarterS_2⟩]
theorem lok_l_markStarterS_2 (x) : codeK Γ0 E0 σ_l_markStarterS Λ_l_markStarterS Try.f24.ntmps (nthLoop Try.f24 0) (mkF Try.f24.ntmps [0, 1, 5] (.pair (.own 47 TStarter) (.pair (.int .i64) (.pair (.int .i64) .unit))) x) (readK σ_l_markStarterS Try.f24.ntmps [0, 1, 5] (.pair (.own 47 TStarter) (.pair (.int .i64) (.pair (.int .i64) .unit))) 0 [0, 1] (.pair (.own 47 TStarter) (.pair (.int .i64) .unit)) [] .unit) = b_l_markStarterS_2 x := by kernel_rfl
theorem ok_l_markStarterS : FnOK Try.prog 24 S_l_markStarterS := fn_ok (Λ := Λ_l_markStarterS) tab0 σok_l_markStarterS Try.func24 (by kernel_rfl) (show Try.f24.body = some (bodyOf Try.f24) by kernel_rfl) [⟨[0, 1, 5], (.pair (.own 47 TStarter) (.pair (.int .i64) (.pair (.int .i64) .unit))), 0, [0, 1], (.pair (.own 47 TStarter) (.pair (.int .i64) .unit)), [], .unit, loopL b_l_markStarterS_2⟩] rfl (by kernel_rfl) (by exact ⟨loop_LOK (lok_l_markStarterS_2), trivial⟩) (by kernel_rfl)
  fun x y h => (show execFn Γ0 E0 σ_l_markStarterS Λ_l_markStarterS Try.f24 S_l_markStarterS x = l_markStarterS x by kernel_rfl).trans h

noncomputable def b_l_heldStarterS_2 (x : (Ty.T (.pair (.list TStarter) (.pair (.int .i64) (.pair (.int .i64) .unit))))) : Option ((Ty.T (.pair (.list TStarter) (.pair (.int .i64) (.pair (.int .i64) .unit)))) ⊕ ((Ty.T (.pair (.int .i64) .unit)) ⊕ (Ty.T (.pair (.int .i64) .unit)))) :=
match (decide (x.2.2.1 < (x.1.length : Int))) with
| true =>
 onSome (idx x.1 x.2.2.1) fun v1 =>
 match (v1.1 != x.2.1) with
 | true =>
  some (.inr (.inr ((-1 : Int), ())))
 | false =>
  onSome (idx x.1 x.2.2.1) fun v2 =>
  match (v2.2.1 != (IntKind.i64.wrap (x.2.1 + (1 : Int)))) with
  | true =>
   some (.inr (.inr ((-1 : Int), ())))
  | false =>
   onSome (idx x.1 x.2.2.1) fun v3 =>
   match (v3.2.2.1 != (IntKind.i64.wrap ((IntKind.i64.wrap (x.2.1 + (1 : Int))) + (1 : Int)))) with
   | true =>
    some (.inr (.inr ((-1 : Int), ())))
   | false =>
    onSome (idx x.1 x.2.2.1) fun v4 =>
    match (v4.2.2.2.1 != (IntKind.i64.wrap ((IntKind.i64.wrap ((IntKind.i64.wrap (x.2.1 + (1 : Int))) + (1 : Int))) + (1 : Int)))) with
    | true =>
     some (.inr (.inr ((-1 : Int), ())))
    | false =>
     some (.inl (x.1, (IntKind.i64.wrap ((IntKind.i64.wrap ((IntKind.i64.wrap ((IntKind.i64.wrap (x.2.1 + (1 : Int))) + (1 : Int))) + (1 : Int))) + (1 : Int))), (IntKind.i64.wrap (x.2.2.1 + (1 : Int))), ()))
| false =>
 some (.inr (.inl (x.2.1, ())))
noncomputable def l_heldStarterS (x : Ty.T (.pair (.list TStarter) (.pair (.int .i64) .unit))) : Option (Ty.T (.pair (.int .i64) .unit)) :=
match loopL b_l_heldStarterS_2 (x.1, x.2.1, (0 : Int), ()) with
| none => none
| some (.inl v5) =>
 some (v5.1, ())
| some (.inr v6) =>
 some (v6.1, ())
noncomputable def S_l_heldStarterS : Spec := ⟨(.pair (.list TStarter) (.pair (.int .i64) .unit)), (.pair (.int .i64) .unit), .unit, rfl, l_heldStarterS⟩
noncomputable def σ_l_heldStarterS : FuncId → Option Spec := sig []
theorem σok_l_heldStarterS : ∀ f s, σ_l_heldStarterS f = some s → FnOK Try.prog f s := sig_ok (l := []) trivial
noncomputable def Λ_l_heldStarterS : Nat → Option LSpec := lkp (loopList (bodyOf Try.f25)) [⟨[0, 1, 5], (.pair (.list TStarter) (.pair (.int .i64) (.pair (.int .i64) .unit))), 0, [1], (.pair (.int .i64) .unit), [4], (.pair (.int .i64) .unit), loopL b_l_heldStarterS_2⟩]
theorem lok_l_heldStarterS_2 (x) : codeK Γ0 E0 σ_l_heldStarterS Λ_l_heldStarterS Try.f25.ntmps (nthLoop Try.f25 0) (mkF Try.f25.ntmps [0, 1, 5] (.pair (.list TStarter) (.pair (.int .i64) (.pair (.int .i64) .unit))) x) (readK σ_l_heldStarterS Try.f25.ntmps [0, 1, 5] (.pair (.list TStarter) (.pair (.int .i64) (.pair (.int .i64) .unit))) 0 [1] (.pair (.int .i64) .unit) [4] (.pair (.int .i64) .unit)) = b_l_heldStarterS_2 x := by kernel_rfl
theorem ok_l_heldStarterS : FnOK Try.prog 25 S_l_heldStarterS := fn_ok (Λ := Λ_l_heldStarterS) tab0 σok_l_heldStarterS Try.func25 (by kernel_rfl) (show Try.f25.body = some (bodyOf Try.f25) by kernel_rfl) [⟨[0, 1, 5], (.pair (.list TStarter) (.pair (.int .i64) (.pair (.int .i64) .unit))), 0, [1], (.pair (.int .i64) .unit), [4], (.pair (.int .i64) .unit), loopL b_l_heldStarterS_2⟩] rfl (by kernel_rfl) (by exact ⟨loop_LOK (lok_l_heldStarterS_2), trivial⟩) (by kernel_rfl)
  fun x y h => (show execFn Γ0 E0 σ_l_heldStarterS Λ_l_heldStarterS Try.f25 S_l_heldStarterS x = l_heldStarterS x by kernel_rfl).trans h

noncomputable def l_FnExactWithoutStarter (x : Ty.T (.pair (.list TStarter) (.pair (.int .i64) .unit))) : Option (Ty.T (.pair .bool .unit)) :=
match l_szStarterS (x.1, (1048576 : Int), ()) with
| none => none
| some v1 =>
match (decide (v1.1 < (0 : Int))) with
| true =>
 some (true, ())
| false =>
 match l_toStarterS (x.1, ()) with
 | none => none
 | some v2 =>
 match s_WithoutStarter (v2.1, x.2.1, ()) with
 | none => none
 | some v3 =>
 match l_toStarterS (x.1, ()) with
 | none => none
 | some v4 =>
 match i_WithoutStarter (v4.1, x.2.1, ()) with
 | none => none
 | some v5 =>
 match l_eqStarterS (v5.1, v3.1, ()) with
 | none => none
 | some v6 =>
 match (!v6.1) with
 | true =>
  some (false, ())
 | false =>
  match (v5.2.1 != v3.2.1) with
  | true =>
   some (false, ())
  | false =>
   match l_toStarterS (x.1, ()) with
   | none => none
   | some v7 =>
   match l_eqStarterS (v4.1, v7.1, ()) with
   | none => none
   | some v8 =>
   match (!v8.1) with
   | true =>
    some (false, ())
   | false =>
    match l_markStarterS (v4.1, (1 : Int), ()) with
    | none => none
    | some v9 =>
    match (decide (v9.1 < (0 : Int))) with
    | true =>
     some (false, ())
    | false =>
     match l_eqStarterS (v5.1, v3.1, ()) with
     | none => none
     | some v10 =>
     match (!v10.1) with
     | true =>
      some (false, ())
     | false =>
      match (v5.2.1 != v3.2.1) with
      | true =>
       some (false, ())
      | false =>
       match l_markStarterS (v5.1, (1 : Int), ()) with
       | none => none
       | some v11 =>
       match l_heldStarterS (v11.2.1, (1 : Int), ()) with
       | none => none
       | some v12 =>
       match (decide (v12.1 < (0 : Int))) with
       | true =>
        some (false, ())
       | false =>
        match (v12.1 != v11.1) with
        | true =>
         some (false, ())
        | false =>
         match l_toStarterS (x.1, ()) with
         | none => none
         | some v13 =>
         match i_WithoutStarter (v13.1, x.2.1, ()) with
         | none => none
         | some v14 =>
         match l_eqStarterS (v14.1, v3.1, ()) with
         | none => none
         | some v15 =>
         match (!v15.1) with
         | true =>
          some (false, ())
         | false =>
          match (v14.2.1 != v3.2.1) with
          | true =>
           some (false, ())
          | false =>
           match l_heldStarterS (v11.2.1, (1 : Int), ()) with
           | none => none
           | some v16 =>
           match (decide (v16.1 < (0 : Int))) with
           | true =>
            some (false, ())
           | false =>
            match (v16.1 != v11.1) with
            | true =>
             some (false, ())
            | false =>
             some (true, ())
noncomputable def S_l_FnExactWithoutStarter : Spec := ⟨(.pair (.list TStarter) (.pair (.int .i64) .unit)), (.pair .bool .unit), .unit, rfl, l_FnExactWithoutStarter⟩
noncomputable def σ_l_FnExactWithoutStarter : FuncId → Option Spec := sig [(19, S_l_szStarterS), (20, S_s_WithoutStarter), (21, S_l_toStarterS), (22, S_i_WithoutStarter), (23, S_l_eqStarterS), (24, S_l_markStarterS), (25, S_l_heldStarterS)]
theorem σok_l_FnExactWithoutStarter : ∀ f s, σ_l_FnExactWithoutStarter f = some s → FnOK Try.prog f s := sig_ok (l := [(19, S_l_szStarterS), (20, S_s_WithoutStarter), (21, S_l_toStarterS), (22, S_i_WithoutStarter), (23, S_l_eqStarterS), (24, S_l_markStarterS), (25, S_l_heldStarterS)]) ⟨ok_l_szStarterS, ok_s_WithoutStarter, ok_l_toStarterS, ok_i_WithoutStarter, ok_l_eqStarterS, ok_l_markStarterS, ok_l_heldStarterS, trivial⟩
noncomputable def Λ_l_FnExactWithoutStarter : Nat → Option LSpec := lkp (loopList (bodyOf Try.f4)) []
theorem ok_l_FnExactWithoutStarter : FnOK Try.prog 4 S_l_FnExactWithoutStarter := fn_ok (Λ := Λ_l_FnExactWithoutStarter) tab0 σok_l_FnExactWithoutStarter Try.func4 (by kernel_rfl) (show Try.f4.body = some (bodyOf Try.f4) by kernel_rfl) [] rfl (by kernel_rfl) (by exact trivial) (by kernel_rfl)
  fun x y h => (show execFn Γ0 E0 σ_l_FnExactWithoutStarter Λ_l_FnExactWithoutStarter Try.f4 S_l_FnExactWithoutStarter x = l_FnExactWithoutStarter x by kernel_rfl).trans h

noncomputable def l_big (x : Ty.T (.pair (.list (.int .u8)) .unit)) : Option (Ty.T (.pair .bool .unit)) :=
some ((decide ((x.1.length : Int) > (4096 : Int))), ())
noncomputable def S_l_big : Spec := ⟨(.pair (.list (.int .u8)) .unit), (.pair .bool .unit), .unit, rfl, l_big⟩
noncomputable def σ_l_big : FuncId → Option Spec := sig []
theorem σok_l_big : ∀ f s, σ_l_big f = some s → FnOK Try.prog f s := sig_ok (l := []) trivial
noncomputable def Λ_l_big : Nat → Option LSpec := lkp (loopList (bodyOf Try.f26)) []
theorem ok_l_big : FnOK Try.prog 26 S_l_big := fn_ok (Λ := Λ_l_big) tab0 σok_l_big Try.func26 (by kernel_rfl) (show Try.f26.body = some (bodyOf Try.f26) by kernel_rfl) [] rfl (by kernel_rfl) (by exact trivial) (by kernel_rfl)
  fun x y h => (show execFn Γ0 E0 σ_l_big Λ_l_big Try.f26 S_l_big x = l_big x by kernel_rfl).trans h

noncomputable def s_l01Next (x : Ty.T (.pair (.box Tl01Source) (.pair (.int .i64) .unit))) : Option (Ty.T (.pair (.int .i64) (.pair (.box Tl01Source) .unit))) :=
match (decide (x.2.1 ≤ (1 : Int))) with
| true =>
 some ((0 : Int), (x.1.1, x.1.2.1, x.1.2.2.1, ()), ())
| false =>
 match (decide (x.1.2.1 < (x.1.1.length : Int))) with
 | true =>
  onSome (idx x.1.1 x.1.2.1) fun v1 =>
  match (decide (x.2.1 ≤ (256 : Int))) with
  | true =>
   match ((Int.tmod (IntKind.i64.wrap (x.1.2.1 + (1 : Int))) (2 : Int)) == (0 : Int)) with
   | true =>
    onSome (idx x.1.1 (IntKind.i64.wrap ((IntKind.i64.wrap (x.1.2.1 + (1 : Int))) - (1 : Int)))) fun v2 =>
    if x.2.1 = 0 then none else
    some ((Int.tmod (IntKind.i64.wrap v2) x.2.1), (x.1.1, (IntKind.i64.wrap (x.1.2.1 + (1 : Int))), (Int.tmod (IntKind.i64.wrap ((IntKind.i64.wrap (x.1.2.2.1 * (48271 : Int))) + (17 : Int))) (2147483647 : Int)), ()), ())
   | false =>
    if x.2.1 = 0 then none else
    some ((Int.tmod (IntKind.i64.wrap ((IntKind.i64.wrap (Int.tdiv (Int.tmod (IntKind.i64.wrap ((IntKind.i64.wrap (x.1.2.2.1 * (48271 : Int))) + (17 : Int))) (2147483647 : Int)) (23 : Int))) + (IntKind.i64.wrap v1))) x.2.1), (x.1.1, (IntKind.i64.wrap (x.1.2.1 + (1 : Int))), (Int.tmod (IntKind.i64.wrap ((IntKind.i64.wrap (x.1.2.2.1 * (48271 : Int))) + (17 : Int))) (2147483647 : Int)), ()), ())
  | false =>
   if x.2.1 = 0 then none else
   some ((Int.tmod (IntKind.i64.wrap ((IntKind.i64.wrap (Int.tdiv (Int.tmod (IntKind.i64.wrap ((IntKind.i64.wrap (x.1.2.2.1 * (48271 : Int))) + (17 : Int))) (2147483647 : Int)) (23 : Int))) + (IntKind.i64.wrap v1))) x.2.1), (x.1.1, (IntKind.i64.wrap (x.1.2.1 + (1 : Int))), (Int.tmod (IntKind.i64.wrap ((IntKind.i64.wrap (x.1.2.2.1 * (48271 : Int))) + (17 : Int))) (2147483647 : Int)), ()), ())
 | false =>
  if x.2.1 = 0 then none else
  some ((Int.tmod (IntKind.i64.wrap (Int.tdiv (Int.tmod (IntKind.i64.wrap ((IntKind.i64.wrap (x.1.2.2.1 * (48271 : Int))) + (17 : Int))) (2147483647 : Int)) (23 : Int))) x.2.1), (x.1.1, x.1.2.1, (Int.tmod (IntKind.i64.wrap ((IntKind.i64.wrap (x.1.2.2.1 * (48271 : Int))) + (17 : Int))) (2147483647 : Int)), ()), ())
noncomputable def S_s_l01Next : Spec := ⟨(.pair (.box Tl01Source) (.pair (.int .i64) .unit)), (.pair (.int .i64) .unit), (.pair (.box Tl01Source) .unit), rfl, s_l01Next⟩
noncomputable def σ_s_l01Next : FuncId → Option Spec := sig []
theorem σok_s_l01Next : ∀ f s, σ_s_l01Next f = some s → FnOK Try.prog f s := sig_ok (l := []) trivial
noncomputable def Λ_s_l01Next : Nat → Option LSpec := lkp (loopList (bodyOf Try.f96)) []
theorem ok_s_l01Next : FnOK Try.prog 96 S_s_l01Next := fn_ok (Λ := Λ_s_l01Next) tab0 σok_s_l01Next Try.func96 (by kernel_rfl) (show Try.f96.body = some (bodyOf Try.f96) by kernel_rfl) [] rfl (by kernel_rfl) (by exact trivial) (by kernel_rfl)
  fun x y h => (show execFn Γ0 E0 σ_s_l01Next Λ_s_l01Next Try.f96 S_s_l01Next x = s_l01Next x by kernel_rfl).trans h

noncomputable def b_s_l31Draw_4 (x : (Ty.T (.pair (.box Tl01Source) (.pair (.own 47 TStarter) (.pair (.int .i64) (.pair (.int .i64) .unit)))))) : Option ((Ty.T (.pair (.box Tl01Source) (.pair (.own 47 TStarter) (.pair (.int .i64) (.pair (.int .i64) .unit))))) ⊕ ((Ty.T (.pair (.box Tl01Source) (.pair (.own 47 TStarter) .unit))) ⊕ (Ty.T .unit))) :=
match (decide (x.2.2.2.1 > (0 : Int))) with
| true =>
 match s_l01Next ((x.1.1, x.1.2.1, x.1.2.2.1, ()), (3 : Int), ()) with
 | none => none
 | some v2 =>
 match s_l01Next ((v2.2.1.1, v2.2.1.2.1, v2.2.1.2.2.1, ()), (4 : Int), ()) with
 | none => none
 | some v3 =>
 match s_l01Next ((v3.2.1.1, v3.2.1.2.1, v3.2.1.2.2.1, ()), (6 : Int), ()) with
 | none => none
 | some v4 =>
 match s_l01Next ((v4.2.1.1, v4.2.1.2.1, v4.2.1.2.2.1, ()), (2 : Int), ()) with
 | none => none
 | some v5 =>
 match (v5.1 == (0 : Int)) with
 | true =>
  match s_l01Next ((v5.2.1.1, v5.2.1.2.1, v5.2.1.2.2.1, ()), (2 : Int), ()) with
  | none => none
  | some v6 =>
  room (x.2.1.length + [((IntKind.i64.wrap ((x.2.1.length : Int) + (IntKind.i64.wrap ((IntKind.i64.wrap ((2 : Int) * v6.1)) * (x.2.1.length : Int))))), v3.1, (IntKind.i64.wrap ((6 : Int) - v3.1)), (IntKind.i64.wrap ((IntKind.i64.wrap (x.2.2.1 + (1 : Int))) + v2.1)), ())].length) (
   some (.inl ((v6.2.1.1, v6.2.1.2.1, v6.2.1.2.2.1, ()), (x.2.1 ++ [((IntKind.i64.wrap ((x.2.1.length : Int) + (IntKind.i64.wrap ((IntKind.i64.wrap ((2 : Int) * v6.1)) * (x.2.1.length : Int))))), v3.1, (IntKind.i64.wrap ((6 : Int) - v3.1)), (IntKind.i64.wrap ((IntKind.i64.wrap (x.2.2.1 + (1 : Int))) + v2.1)), ())]), (IntKind.i64.wrap ((IntKind.i64.wrap (x.2.2.1 + (1 : Int))) + v2.1)), (IntKind.i64.wrap (x.2.2.2.1 - (1 : Int))), ())))
 | false =>
  match s_l01Next ((v5.2.1.1, v5.2.1.2.1, v5.2.1.2.2.1, ()), (2 : Int), ()) with
  | none => none
  | some v7 =>
  room (x.2.1.length + [((IntKind.i64.wrap ((x.2.1.length : Int) + (IntKind.i64.wrap ((IntKind.i64.wrap ((2 : Int) * v7.1)) * (x.2.1.length : Int))))), v3.1, (IntKind.i64.wrap ((1 : Int) + v4.1)), (IntKind.i64.wrap ((IntKind.i64.wrap (x.2.2.1 + (1 : Int))) + v2.1)), ())].length) (
   some (.inl ((v7.2.1.1, v7.2.1.2.1, v7.2.1.2.2.1, ()), (x.2.1 ++ [((IntKind.i64.wrap ((x.2.1.length : Int) + (IntKind.i64.wrap ((IntKind.i64.wrap ((2 : Int) * v7.1)) * (x.2.1.length : Int))))), v3.1, (IntKind.i64.wrap ((1 : Int) + v4.1)), (IntKind.i64.wrap ((IntKind.i64.wrap (x.2.2.1 + (1 : Int))) + v2.1)), ())]), (IntKind.i64.wrap ((IntKind.i64.wrap (x.2.2.1 + (1 : Int))) + v2.1)), (IntKind.i64.wrap (x.2.2.2.1 - (1 : Int))), ())))
| false =>
 some (.inr (.inl ((x.1.1, x.1.2.1, x.1.2.2.1, ()), x.2.1, ())))
noncomputable def s_l31Draw (x : Ty.T (.pair (.box Tl01Source) .unit)) : Option (Ty.T (.pair (.own 47 TStarter) (.pair (.box Tl01Source) .unit))) :=
match s_l01Next ((x.1.1, x.1.2.1, x.1.2.2.1, ()), (6 : Int), ()) with
| none => none
| some v1 =>
match loopL b_s_l31Draw_4 ((v1.2.1.1, v1.2.1.2.1, v1.2.1.2.2.1, ()), [], (0 : Int), (IntKind.i64.wrap ((1 : Int) + v1.1)), ()) with
| none => none
| some (.inl v8) =>
 match s_l01Next ((v8.1.1, v8.1.2.1, v8.1.2.2.1, ()), (v8.2.1.length : Int), ()) with
 | none => none
 | some v10 =>
 match s_l01Next ((v10.2.1.1, v10.2.1.2.1, v10.2.1.2.2.1, ()), (24 : Int), ()) with
 | none => none
 | some v11 =>
 match (v11.1 == (0 : Int)) with
 | true =>
  match s_l01Next ((v11.2.1.1, v11.2.1.2.1, v11.2.1.2.2.1, ()), (3 : Int), ()) with
  | none => none
  | some v12 =>
  onSome (idx [(-1 : Int), (31 : Int), (32 : Int)] v12.1) fun _ =>
  match [(-1 : Int), (31 : Int), (32 : Int)][v12.1.toNat]? with
  | none => none
  | some v14 =>
  onSome (idx v8.2.1 v10.1) fun _ =>
  match v8.2.1[v10.1.toNat]? with
  | none => none
  | some v16 =>
  some ((v8.2.1.set v10.1.toNat (v14, v16.2.1, v16.2.2.1, v16.2.2.2.1, ())), (v12.2.1.1, v12.2.1.2.1, v12.2.1.2.2.1, ()), ())
 | false =>
  match (v11.1 == (1 : Int)) with
  | true =>
   match s_l01Next ((v11.2.1.1, v11.2.1.2.1, v11.2.1.2.2.1, ()), (3 : Int), ()) with
   | none => none
   | some v17 =>
   onSome (idx [(-1 : Int), (100000 : Int), (100001 : Int)] v17.1) fun _ =>
   match [(-1 : Int), (100000 : Int), (100001 : Int)][v17.1.toNat]? with
   | none => none
   | some v19 =>
   onSome (idx v8.2.1 v10.1) fun _ =>
   match v8.2.1[v10.1.toNat]? with
   | none => none
   | some v21 =>
   some ((v8.2.1.set v10.1.toNat (v21.1, v19, v21.2.2.1, v21.2.2.2.1, ())), (v17.2.1.1, v17.2.1.2.1, v17.2.1.2.2.1, ()), ())
  | false =>
   match (v11.1 == (2 : Int)) with
   | true =>
    match s_l01Next ((v11.2.1.1, v11.2.1.2.1, v11.2.1.2.2.1, ()), (3 : Int), ()) with
    | none => none
    | some v22 =>
    onSome (idx [(0 : Int), (100000 : Int), (100001 : Int)] v22.1) fun _ =>
    match [(0 : Int), (100000 : Int), (100001 : Int)][v22.1.toNat]? with
    | none => none
    | some v24 =>
    onSome (idx v8.2.1 v10.1) fun _ =>
    match v8.2.1[v10.1.toNat]? with
    | none => none
    | some v26 =>
    some ((v8.2.1.set v10.1.toNat (v26.1, v26.2.1, v24, v26.2.2.2.1, ())), (v22.2.1.1, v22.2.1.2.1, v22.2.1.2.2.1, ()), ())
   | false =>
    match (v11.1 == (3 : Int)) with
    | true =>
     match s_l01Next ((v11.2.1.1, v11.2.1.2.1, v11.2.1.2.2.1, ()), (3 : Int), ()) with
     | none => none
     | some v27 =>
     onSome (idx [(0 : Int), (1 : Int), (100001 : Int)] v27.1) fun _ =>
     match [(0 : Int), (1 : Int), (100001 : Int)][v27.1.toNat]? with
     | none => none
     | some v29 =>
     onSome (idx v8.2.1 v10.1) fun _ =>
     match v8.2.1[v10.1.toNat]? with
     | none => none
     | some v31 =>
     some ((v8.2.1.set v10.1.toNat (v31.1, v31.2.1, v31.2.2.1, v29, ())), (v27.2.1.1, v27.2.1.2.1, v27.2.1.2.2.1, ()), ())
    | false =>
     match (v11.1 == (4 : Int)) with
     | true =>
      some ([], (v11.2.1.1, v11.2.1.2.1, v11.2.1.2.2.1, ()), ())
     | false =>
      match (v11.1 == (5 : Int)) with
      | true =>
       match s_l01Next ((v11.2.1.1, v11.2.1.2.1, v11.2.1.2.2.1, ()), (2 : Int), ()) with
       | none => none
       | some v32 =>
       match s_l01Next ((v32.2.1.1, v32.2.1.2.1, v32.2.1.2.2.1, ()), (4 : Int), ()) with
       | none => none
       | some v33 =>
       some ([((0 : Int), (0 : Int), (4 : Int), (2 : Int), ()), ((1 : Int), (2 : Int), (2 : Int), (IntKind.i64.wrap ((5 : Int) + v32.1)), ()), ((2 : Int), (3 : Int), (IntKind.i64.wrap ((2 : Int) + (IntKind.i64.wrap (Int.tdiv v33.1 (3 : Int))))), (4 : Int), ())], (v33.2.1.1, v33.2.1.2.1, v33.2.1.2.2.1, ()), ())
      | false =>
       some (v8.2.1, (v11.2.1.1, v11.2.1.2.1, v11.2.1.2.2.1, ()), ())
| some (.inr v34) =>
 none
noncomputable def S_s_l31Draw : Spec := ⟨(.pair (.box Tl01Source) .unit), (.pair (.own 47 TStarter) .unit), (.pair (.box Tl01Source) .unit), rfl, s_l31Draw⟩
noncomputable def σ_s_l31Draw : FuncId → Option Spec := sig [(96, S_s_l01Next)]
theorem σok_s_l31Draw : ∀ f s, σ_s_l31Draw f = some s → FnOK Try.prog f s := sig_ok (l := [(96, S_s_l01Next)]) ⟨ok_s_l01Next, trivial⟩
noncomputable def Λ_s_l31Draw : Nat → Option LSpec := lkp (loopList (bodyOf Try.f83)) [⟨[0, 3, 4, 5], (.pair (.box Tl01Source) (.pair (.own 47 TStarter) (.pair (.int .i64) (.pair (.int .i64) .unit)))), 0, [0, 3], (.pair (.box Tl01Source) (.pair (.own 47 TStarter) .unit)), [], .unit, loopL b_s_l31Draw_4⟩]
theorem lok_s_l31Draw_4 (x) : codeK Γ0 E0 σ_s_l31Draw Λ_s_l31Draw Try.f83.ntmps (nthLoop Try.f83 0) (mkF Try.f83.ntmps [0, 3, 4, 5] (.pair (.box Tl01Source) (.pair (.own 47 TStarter) (.pair (.int .i64) (.pair (.int .i64) .unit)))) x) (readK σ_s_l31Draw Try.f83.ntmps [0, 3, 4, 5] (.pair (.box Tl01Source) (.pair (.own 47 TStarter) (.pair (.int .i64) (.pair (.int .i64) .unit)))) 0 [0, 3] (.pair (.box Tl01Source) (.pair (.own 47 TStarter) .unit)) [] .unit) = b_s_l31Draw_4 x := by kernel_rfl
theorem ok_s_l31Draw : FnOK Try.prog 83 S_s_l31Draw := fn_ok (Λ := Λ_s_l31Draw) tab0 σok_s_l31Draw Try.func83 (by kernel_rfl) (show Try.f83.body = some (bodyOf Try.f83) by kernel_rfl) [⟨[0, 3, 4, 5], (.pair (.box Tl01Source) (.pair (.own 47 TStarter) (.pair (.int .i64) (.pair (.int .i64) .unit)))), 0, [0, 3], (.pair (.box Tl01Source) (.pair (.own 47 TStarter) .unit)), [], .unit, loopL b_s_l31Draw_4⟩] rfl (by kernel_rfl) (by exact ⟨loop_LOK (lok_s_l31Draw_4), trivial⟩) (by kernel_rfl)
  fun x y h => (show execFn Γ0 E0 σ_s_l31Draw Λ_s_l31Draw Try.f83 S_s_l31Draw x = s_l31Draw x by kernel_rfl).trans h

noncomputable def b_s_l01From_3 (x : (Ty.T (.pair (.list (.int .u8)) (.pair (.box Tl01Source) (.pair (.int .i64) .unit))))) : Option ((Ty.T (.pair (.list (.int .u8)) (.pair (.box Tl01Source) (.pair (.int .i64) .unit)))) ⊕ ((Ty.T (.pair (.box Tl01Source) .unit)) ⊕ (Ty.T .unit))) :=
match (decide (x.2.2.1 < (x.1.length : Int))) with
| true =>
 match (decide (x.2.2.1 < (64 : Int))) with
 | true =>
  onSome (idx x.1 x.2.2.1) fun v1 =>
  some (.inl (x.1, (x.2.1.1, x.2.1.2.1, (Int.tmod (IntKind.i64.wrap ((IntKind.i64.wrap (x.2.1.2.2.1 * (53 : Int))) + (IntKind.i64.wrap v1))) (2147483647 : Int)), ()), (IntKind.i64.wrap (x.2.2.1 + (1 : Int))), ()))
 | false =>
  some (.inr (.inl ((x.2.1.1, x.2.1.2.1, x.2.1.2.2.1, ()), ())))
| false =>
 some (.inr (.inl ((x.2.1.1, x.2.1.2.1, x.2.1.2.2.1, ()), ())))
noncomputable def s_l01From (x : Ty.T (.pair (.list (.int .u8)) .unit)) : Option (Ty.T (.pair (.box Tl01Source) .unit)) :=
match loopL b_s_l01From_3 (x.1, (x.1, (0 : Int), (40009 : Int), ()), (0 : Int), ()) with
| none => none
| some (.inl v2) =>
 some ((v2.1.1, v2.1.2.1, v2.1.2.2.1, ()), ())
| some (.inr v4) =>
 none
noncomputable def S_s_l01From : Spec := ⟨(.pair (.list (.int .u8)) .unit), (.pair (.box Tl01Source) .unit), .unit, rfl, s_l01From⟩
noncomputable def σ_s_l01From : FuncId → Option Spec := sig []
theorem σok_s_l01From : ∀ f s, σ_s_l01From f = some s → FnOK Try.prog f s := sig_ok (l := []) trivial
noncomputable def Λ_s_l01From : Nat → Option LSpec := lkp (loopList (bodyOf Try.f84)) [⟨[0, 3, 4], (.pair (.list (.int .u8)) (.pair (.box Tl01Source) (.pair (.int .i64) .unit))), 0, [3], (.pair (.box Tl01Source) .unit), [], .unit, loopL b_s_l01From_3⟩]
theorem lok_s_l01From_3 (x) : codeK Γ0 E0 σ_s_l01From Λ_s_l01From Try.f84.ntmps (nthLoop Try.f84 0) (mkF Try.f84.ntmps [0, 3, 4] (.pair (.list (.int .u8)) (.pair (.box Tl01Source) (.pair (.int .i64) .unit))) x) (readK σ_s_l01From Try.f84.ntmps [0, 3, 4] (.pair (.list (.int .u8)) (.pair (.box Tl01Source) (.pair (.int .i64) .unit))) 0 [3] (.pair (.box Tl01Source) .unit) [] .unit) = b_s_l01From_3 x := by kernel_rfl
theorem ok_s_l01From : FnOK Try.prog 84 S_s_l01From := fn_ok (Λ := Λ_s_l01From) tab0 σok_s_l01From Try.func84 (by kernel_rfl) (show Try.f84.body = some (bodyOf Try.f84) by kernel_rfl) [⟨[0, 3, 4], (.pair (.list (.int .u8)) (.pair (.box Tl01Source) (.pair (.int .i64) .unit))), 0, [3], (.pair (.box Tl01Source) .unit), [], .unit, loopL b_s_l01From_3⟩] rfl (by kernel_rfl) (by exact ⟨loop_LOK (lok_s_l01From_3), trivial⟩) (by kernel_rfl)
  fun x y h => (show execFn Γ0 E0 σ_s_l01From Λ_s_l01From Try.f84 S_s_l01From x = s_l01From x by kernel_rfl).trans h

noncomputable def s_DrawLeaderOf (x : Ty.T (.pair (.list (.int .u8)) .unit)) : Option (Ty.T (.pair (.own 47 TStarter) .unit)) :=
match s_l01From (x.1, ()) with
| none => none
| some v1 =>
match s_l31Draw ((v1.1.1, v1.1.2.1, v1.1.2.2.1, ()), ()) with
| none => none
| some v2 =>
some (v2.1, ())
noncomputable def S_s_DrawLeaderOf : Spec := ⟨(.pair (.list (.int .u8)) .unit), (.pair (.own 47 TStarter) .unit), .unit, rfl, s_DrawLeaderOf⟩
noncomputable def σ_s_DrawLeaderOf : FuncId → Option Spec := sig [(83, S_s_l31Draw), (84, S_s_l01From)]
theorem σok_s_DrawLeaderOf : ∀ f s, σ_s_DrawLeaderOf f = some s → FnOK Try.prog f s := sig_ok (l := [(83, S_s_l31Draw), (84, S_s_l01From)]) ⟨ok_s_l31Draw, ok_s_l01From, trivial⟩
noncomputable def Λ_s_DrawLeaderOf : Nat → Option LSpec := lkp (loopList (bodyOf Try.f27)) []
theorem ok_s_DrawLeaderOf : FnOK Try.prog 27 S_s_DrawLeaderOf := fn_ok (Λ := Λ_s_DrawLeaderOf) tab0 σok_s_DrawLeaderOf Try.func27 (by kernel_rfl) (show Try.f27.body = some (bodyOf Try.f27) by kernel_rfl) [] rfl (by kernel_rfl) (by exact trivial) (by kernel_rfl)
  fun x y h => (show execFn Γ0 E0 σ_s_DrawLeaderOf Λ_s_DrawLeaderOf Try.f27 S_s_DrawLeaderOf x = s_DrawLeaderOf x by kernel_rfl).trans h

noncomputable def b_i_firstDue_3 (x : (Ty.T (.pair (.own 2 (.int .i64)) (.pair (.list TStarter) (.pair (.int .i64) (.pair (.int .i64) .unit)))))) : Option ((Ty.T (.pair (.own 2 (.int .i64)) (.pair (.list TStarter) (.pair (.int .i64) (.pair (.int .i64) .unit))))) ⊕ ((Ty.T (.pair (.own 2 (.int .i64)) .unit)) ⊕ (Ty.T .unit))) :=
match (decide (x.2.2.2.1 < x.2.2.1)) with
| true =>
 onSome (idx x.2.1 x.2.2.2.1) fun v1 =>
 room (x.1.length + [(IntKind.i64.wrap (v1.2.1 + v1.2.2.1))].length) (
  some (.inl ((x.1 ++ [(IntKind.i64.wrap (v1.2.1 + v1.2.2.1))]), x.2.1, x.2.2.1, (IntKind.i64.wrap (x.2.2.2.1 + (1 : Int))), ())))
| false =>
 some (.inr (.inl (x.1, ())))
noncomputable def i_firstDue (x : Ty.T (.pair (.list TStarter) .unit)) : Option (Ty.T (.pair (.own 2 (.int .i64)) .unit)) :=
match loopL b_i_firstDue_3 ([], x.1, (x.1.length : Int), (0 : Int), ()) with
| none => none
| some (.inl v2) =>
 some (v2.1, ())
| some (.inr v4) =>
 none
noncomputable def S_i_firstDue : Spec := ⟨(.pair (.list TStarter) .unit), (.pair (.own 2 (.int .i64)) .unit), .unit, rfl, i_firstDue⟩
noncomputable def σ_i_firstDue : FuncId → Option Spec := sig []
theorem σok_i_firstDue : ∀ f s, σ_i_firstDue f = some s → FnOK Try.prog f s := sig_ok (l := []) trivial
noncomputable def Λ_i_firstDue : Nat → Option LSpec := lkp (loopList (bodyOf Try.f91)) [⟨[3, 7, 8, 9], (.pair (.own 2 (.int .i64)) (.pair (.list TStarter) (.pair (.int .i64) (.pair (.int .i64) .unit)))), 0, [3], (.pair (.own 2 (.int .i64)) .unit), [], .unit, loopL b_i_firstDue_3⟩]
theorem lok_i_firstDue_3 (x) : codeK Γ0 E0 σ_i_firstDue Λ_i_firstDue Try.f91.ntmps (nthLoop Try.f91 0) (mkF Try.f91.ntmps [3, 7, 8, 9] (.pair (.own 2 (.int .i64)) (.pair (.list TStarter) (.pair (.int .i64) (.pair (.int .i64) .unit)))) x) (readK σ_i_firstDue Try.f91.ntmps [3, 7, 8, 9] (.pair (.own 2 (.int .i64)) (.pair (.list TStarter) (.pair (.int .i64) (.pair (.int .i64) .unit)))) 0 [3] (.pair (.own 2 (.int .i64)) .unit) [] .unit) = b_i_firstDue_3 x := by kernel_rfl
theorem ok_i_firstDue : FnOK Try.prog 91 S_i_firstDue := fn_ok (Λ := Λ_i_firstDue) tab0 σok_i_firstDue Try.func91 (by kernel_rfl) (show Try.f91.body = some (bodyOf Try.f91) by kernel_rfl) [⟨[3, 7, 8, 9], (.pair (.own 2 (.int .i64)) (.pair (.list TStarter) (.pair (.int .i64) (.pair (.int .i64) .unit)))), 0, [3], (.pair (.own 2 (.int .i64)) .unit), [], .unit, loopL b_i_firstDue_3⟩] rfl (by kernel_rfl) (by exact ⟨loop_LOK (lok_i_firstDue_3), trivial⟩) (by kernel_rfl)
  fun x y h => (show execFn Γ0 E0 σ_i_firstDue Λ_i_firstDue Try.f91 S_i_firstDue x = i_firstDue x by kernel_rfl).trans h

noncomputable def b_slices_Min_int64_5 (x : (Ty.T (.pair (.list (.int .i64)) (.pair (.int .i64) (.pair (.int .i64) .unit))))) : Option ((Ty.T (.pair (.list (.int .i64)) (.pair (.int .i64) (.pair (.int .i64) .unit)))) ⊕ ((Ty.T (.pair (.int .i64) .unit)) ⊕ (Ty.T .unit))) :=
match (decide (x.2.2.1 < (x.1.length : Int))) with
| true =>
 onSome (idx x.1 x.2.2.1) fun v2 =>
 some (.inl (x.1, (if v2 < x.2.1 then v2 else x.2.1), (IntKind.i64.wrap (x.2.2.1 + (1 : Int))), ()))
| false =>
 some (.inr (.inl (x.2.1, ())))
noncomputable def slices_Min_int64 (x : Ty.T (.pair (.list (.int .i64)) .unit)) : Option (Ty.T (.pair (.int .i64) .unit)) :=
match (decide ((x.1.length : Int) < (1 : Int))) with
| true =>
 none
| false =>
 onSome (idx x.1 (0 : Int)) fun v1 =>
 match loopL b_slices_Min_int64_5 (x.1, v1, (1 : Int), ()) with
 | none => none
 | some (.inl v3) =>
  some (v3.1, ())
 | some (.inr v5) =>
  none
noncomputable def S_slices_Min_int64 : Spec := ⟨(.pair (.list (.int .i64)) .unit), (.pair (.int .i64) .unit), .unit, rfl, slices_Min_int64⟩
noncomputable def σ_slices_Min_int64 : FuncId → Option Spec := sig []
theorem σok_slices_Min_int64 : ∀ f s, σ_slices_Min_int64 f = some s → FnOK Try.prog f s := sig_ok (l := []) trivial
noncomputable def Λ_slices_Min_int64 : Nat → Option LSpec := lkp (loopList (bodyOf Try.f123)) [⟨[0, 3, 4], (.pair (.list (.int .i64)) (.pair (.int .i64) (.pair (.int .i64) .unit))), 0, [3], (.pair (.int .i64) .unit), [], .unit, loopL b_slices_Min_int64_5⟩]
theorem lok_slices_Min_int64_5 (x) : codeK Γ0 E0 σ_slices_Min_int64 Λ_slices_Min_int64 Try.f123.ntmps (nthLoop Try.f123 0) (mkF Try.f123.ntmps [0, 3, 4] (.pair (.list (.int .i64)) (.pair (.int .i64) (.pair (.int .i64) .unit))) x) (readK σ_slices_Min_int64 Try.f123.ntmps [0, 3, 4] (.pair (.list (.int .i64)) (.pair (.int .i64) (.pair (.int .i64) .unit))) 0 [3] (.pair (.int .i64) .unit) [] .unit) = b_slices_Min_int64_5 x := by kernel_rfl
theorem ok_slices_Min_int64 : FnOK Try.prog 123 S_slices_Min_int64 := fn_ok (Λ := Λ_slices_Min_int64) tab0 σok_slices_Min_int64 Try.func123 (by kernel_rfl) (show Try.f123.body = some (bodyOf Try.f123) by kernel_rfl) [⟨[0, 3, 4], (.pair (.list (.int .i64)) (.pair (.int .i64) (.pair (.int .i64) .unit))), 0, [3], (.pair (.int .i64) .unit), [], .unit, loopL b_slices_Min_int64_5⟩] rfl (by kernel_rfl) (by exact ⟨loop_LOK (lok_slices_Min_int64_5), trivial⟩) (by kernel_rfl)
  fun x y h => (show execFn Γ0 E0 σ_slices_Min_int64 Λ_slices_Min_int64 Try.f123 S_slices_Min_int64 x = slices_Min_int64 x by kernel_rfl).trans h

noncomputable def b_i_leastDue_3 (x : (Ty.T (.pair (.list (.int .i64)) (.pair (.own 3 (.int .i64)) (.pair (.list (.int .i64)) (.pair (.int .i64) (.pair (.int .i64) .unit))))))) : Option ((Ty.T (.pair (.list (.int .i64)) (.pair (.own 3 (.int .i64)) (.pair (.list (.int .i64)) (.pair (.int .i64) (.pair (.int .i64) .unit)))))) ⊕ ((Ty.T (.pair (.own 3 (.int .i64)) .unit)) ⊕ (Ty.T .unit))) :=
match (decide (x.2.2.2.2.1 < x.2.2.2.1)) with
| true =>
 onSome (idx x.2.2.1 x.2.2.2.2.1) fun v1 =>
 match slices_Min_int64 (x.1, ()) with
 | none => none
 | some v2 =>
 match (v1 == v2.1) with
 | true =>
  room (x.2.1.length + [x.2.2.2.2.1].length) (
   some (.inl (x.1, (x.2.1 ++ [x.2.2.2.2.1]), x.2.2.1, x.2.2.2.1, (IntKind.i64.wrap (x.2.2.2.2.1 + (1 : Int))), ())))
 | false =>
  some (.inl (x.1, x.2.1, x.2.2.1, x.2.2.2.1, (IntKind.i64.wrap (x.2.2.2.2.1 + (1 : Int))), ()))
| false =>
 some (.inr (.inl (x.2.1, ())))
noncomputable def i_leastDue (x : Ty.T (.pair (.list (.int .i64)) .unit)) : Option (Ty.T (.pair (.own 3 (.int .i64)) .unit)) :=
match loopL b_i_leastDue_3 (x.1, [], x.1, (x.1.length : Int), (0 : Int), ()) with
| none => none
| some (.inl v3) =>
 some (v3.1, ())
| some (.inr v5) =>
 none
noncomputable def S_i_leastDue : Spec := ⟨(.pair (.list (.int .i64)) .unit), (.pair (.own 3 (.int .i64)) .unit), .unit, rfl, i_leastDue⟩
noncomputable def σ_i_leastDue : FuncId → Option Spec := sig [(123, S_slices_Min_int64)]
theorem σok_i_leastDue : ∀ f s, σ_i_leastDue f = some s → FnOK Try.prog f s := sig_ok (l := [(123, S_slices_Min_int64)]) ⟨ok_slices_Min_int64, trivial⟩
noncomputable def Λ_i_leastDue : Nat → Option LSpec := lkp (loopList (bodyOf Try.f92)) [⟨[0, 3, 7, 8, 9], (.pair (.list (.int .i64)) (.pair (.own 3 (.int .i64)) (.pair (.list (.int .i64)) (.pair (.int .i64) (.pair (.int .i64) .unit))))), 0, [3], (.pair (.own 3 (.int .i64)) .unit), [], .unit, loopL b_i_leastDue_3⟩]
theorem lok_i_leastDue_3 (x) : codeK Γ0 E0 σ_i_leastDue Λ_i_leastDue Try.f92.ntmps (nthLoop Try.f92 0) (mkF Try.f92.ntmps [0, 3, 7, 8, 9] (.pair (.list (.int .i64)) (.pair (.own 3 (.int .i64)) (.pair (.list (.int .i64)) (.pair (.int .i64) (.pair (.int .i64) .unit))))) x) (readK σ_i_leastDue Try.f92.ntmps [0, 3, 7, 8, 9] (.pair (.list (.int .i64)) (.pair (.own 3 (.int .i64)) (.pair (.list (.int .i64)) (.pair (.int .i64) (.pair (.int .i64) .unit))))) 0 [3] (.pair (.own 3 (.int .i64)) .unit) [] .unit) = b_i_leastDue_3 x := by kernel_rfl
theorem ok_i_leastDue : FnOK Try.prog 92 S_i_leastDue := fn_ok (Λ := Λ_i_leastDue) tab0 σok_i_leastDue Try.func92 (by kernel_rfl) (show Try.f92.body = some (bodyOf Try.f92) by kernel_rfl) [⟨[0, 3, 7, 8, 9], (.pair (.list (.int .i64)) (.pair (.own 3 (.int .i64)) (.pair (.list (.int .i64)) (.pair (.int .i64) (.pair (.int .i64) .unit))))), 0, [3], (.pair (.own 3 (.int .i64)) .unit), [], .unit, loopL b_i_leastDue_3⟩] rfl (by kernel_rfl) (by exact ⟨loop_LOK (lok_i_leastDue_3), trivial⟩) (by kernel_rfl)
  fun x y h => (show execFn Γ0 E0 σ_i_leastDue Λ_i_leastDue Try.f92 S_i_leastDue x = i_leastDue x by kernel_rfl).trans h

noncomputable def slices_Clone_int64 (x : Ty.T (.pair (.list (.int .i64)) .unit)) : Option (Ty.T (.pair (.own 2 (.int .i64)) .unit)) :=
nilK x.1 fun v1 =>
match v1 with
| true =>
 some ([], ())
| false =>
 room (([] : List (Ty.T (.int .i64))).length + x.1.length) (
  some ((([] : List (Ty.T (.int .i64))) ++ x.1), ()))
noncomputable def S_slices_Clone_int64 : Spec := ⟨(.pair (.list (.int .i64)) .unit), (.pair (.own 2 (.int .i64)) .unit), .unit, rfl, slices_Clone_int64⟩
noncomputable def σ_slices_Clone_int64 : FuncId → Option Spec := sig []
theorem σok_slices_Clone_int64 : ∀ f s, σ_slices_Clone_int64 f = some s → FnOK Try.prog f s := sig_ok (l := []) trivial
noncomputable def Λ_slices_Clone_int64 : Nat → Option LSpec := lkp (loopList (bodyOf Try.f124)) []
theorem ok_slices_Clone_int64 : FnOK Try.prog 124 S_slices_Clone_int64 := fn_ok (Λ := Λ_slices_Clone_int64) tab0 σok_slices_Clone_int64 Try.func124 (by kernel_rfl) (show Try.f124.body = some (bodyOf Try.f124) by kernel_rfl) [] rfl (by kernel_rfl) (by exact trivial) (by kernel_rfl)
  fun x y h => (show execFn Γ0 E0 σ_slices_Clone_int64 Λ_slices_Clone_int64 Try.f124 S_slices_Clone_int64 x = slices_Clone_int64 x by kernel_rfl).trans h

noncomputable def b_i_collide_3 (x : (Ty.T (.pair (.list (.int .i64)) (.pair (.int .i64) (.pair (.own 2 (.int .i64)) (.pair (.list TStarter) (.pair (.int .i64) (.pair (.int .i64) .unit)))))))) : Option ((Ty.T (.pair (.list (.int .i64)) (.pair (.int .i64) (.pair (.own 2 (.int .i64)) (.pair (.list TStarter) (.pair (.int .i64) (.pair (.int .i64) .unit))))))) ⊕ ((Ty.T (.pair (.own 2 (.int .i64)) .unit)) ⊕ (Ty.T .unit))) :=
match (decide (x.2.2.2.2.2.1 < x.2.2.2.2.1)) with
| true =>
 onSome (idx x.2.2.2.1 x.2.2.2.2.2.1) fun v3 =>
 onSome (idx x.1 x.2.2.2.2.2.1) fun v4 =>
 match (v4 == x.2.1) with
 | true =>
  onSome (idx x.2.2.1 x.2.2.2.2.2.1) fun _ =>
  match x.2.2.1[x.2.2.2.2.2.1.toNat]? with
  | none => none
  | some v6 =>
  some (.inl (x.1, x.2.1, (x.2.2.1.set x.2.2.2.2.2.1.toNat (IntKind.i64.wrap (x.2.1 + v3.2.2.2.1))), x.2.2.2.1, x.2.2.2.2.1, (IntKind.i64.wrap (x.2.2.2.2.2.1 + (1 : Int))), ()))
 | false =>
  match (decide (v3.2.1 ≤ x.2.1)) with
  | true =>
   onSome (idx x.2.2.1 x.2.2.2.2.2.1) fun _ =>
   match x.2.2.1[x.2.2.2.2.2.1.toNat]? with
   | none => none
   | some v8 =>
   some (.inl (x.1, x.2.1, (x.2.2.1.set x.2.2.2.2.2.1.toNat (IntKind.i64.wrap (x.2.1 + v3.2.2.1))), x.2.2.2.1, x.2.2.2.2.1, (IntKind.i64.wrap (x.2.2.2.2.2.1 + (1 : Int))), ()))
  | false =>
   some (.inl (x.1, x.2.1, x.2.2.1, x.2.2.2.1, x.2.2.2.2.1, (IntKind.i64.wrap (x.2.2.2.2.2.1 + (1 : Int))), ()))
| false =>
 some (.inr (.inl (x.2.2.1, ())))
noncomputable def i_collide (x : Ty.T (.pair (.list TStarter) (.pair (.list (.int .i64)) .unit))) : Option (Ty.T (.pair (.own 2 (.int .i64)) .unit)) :=
match slices_Min_int64 (x.2.1, ()) with
| none => none
| some v1 =>
match slices_Clone_int64 (x.2.1, ()) with
| none => none
| some v2 =>
match loopL b_i_collide_3 (x.2.1, v1.1, v2.1, x.1, (x.1.length : Int), (0 : Int), ()) with
| none => none
| some (.inl v9) =>
 some (v9.1, ())
| some (.inr v11) =>
 none
noncomputable def S_i_collide : Spec := ⟨(.pair (.list TStarter) (.pair (.list (.int .i64)) .unit)), (.pair (.own 2 (.int .i64)) .unit), .unit, rfl, i_collide⟩
noncomputable def σ_i_collide : FuncId → Option Spec := sig [(123, S_slices_Min_int64), (124, S_slices_Clone_int64)]
theorem σok_i_collide : ∀ f s, σ_i_collide f = some s → FnOK Try.prog f s := sig_ok (l := [(123, S_slices_Min_int64), (124, S_slices_Clone_int64)]) ⟨ok_slices_Min_int64, ok_slices_Clone_int64, trivial⟩
noncomputable def Λ_i_collide : Nat → Option LSpec := lkp (loopList (bodyOf Try.f93)) [⟨[1, 5, 6, 13, 14, 15], (.pair (.list (.int .i64)) (.pair (.int .i64) (.pair (.own 2 (.int .i64)) (.pair (.list TStarter) (.pair (.int .i64) (.pair (.int .i64) .unit)))))), 0, [6], (.pair (.own 2 (.int .i64)) .unit), [], .unit, loopL b_i_collide_3⟩]
theorem lok_i_collide_3 (x) : codeK Γ0 E0 σ_i_collide Λ_i_collide Try.f93.ntmps (nthLoop Try.f93 0) (mkF Try.f93.ntmps [1, 5, 6, 13, 14, 15] (.pair (.list (.int .i64)) (.pair (.int .i64) (.pair (.own 2 (.int .i64)) (.pair (.list TStarter) (.pair (.int .i64) (.pair (.int .i64) .unit)))))) x) (readK σ_i_collide Try.f93.ntmps [1, 5, 6, 13, 14, 15] (.pair (.list (.int .i64)) (.pair (.int .i64) (.pair (.own 2 (.int .i64)) (.pair (.list TStarter) (.pair (.int .i64) (.pair (.int .i64) .unit)))))) 0 [6] (.pair (.own 2 (.int .i64)) .unit) [] .unit) = b_i_collide_3 x := by kernel_rfl
theorem ok_i_collide : FnOK Try.prog 93 S_i_collide := fn_ok (Λ := Λ_i_collide) tab0 σok_i_collide Try.func93 (by kernel_rfl) (show Try.f93.body = some (bodyOf Try.f93) by kernel_rfl) [⟨[1, 5, 6, 13, 14, 15], (.pair (.list (.int .i64)) (.pair (.int .i64) (.pair (.own 2 (.int .i64)) (.pair (.list TStarter) (.pair (.int .i64) (.pair (.int .i64) .unit)))))), 0, [6], (.pair (.own 2 (.int .i64)) .unit), [], .unit, loopL b_i_collide_3⟩] rfl (by kernel_rfl) (by exact ⟨loop_LOK (lok_i_collide_3), trivial⟩) (by kernel_rfl)
  fun x y h => (show execFn Γ0 E0 σ_i_collide Λ_i_collide Try.f93 S_i_collide x = i_collide x by kernel_rfl).trans h

noncomputable def b_i_startup_3 (x : (Ty.T (.pair (.list TStarter) (.pair (.own 2 (.int .i64)) (.pair (.int .i64) .unit))))) : Option ((Ty.T (.pair (.list TStarter) (.pair (.own 2 (.int .i64)) (.pair (.int .i64) .unit)))) ⊕ ((Ty.T .unit) ⊕ (Ty.T (.pair (.int .i64) (.pair (.int .i64) (.pair (.int .i64) (.pair .bool .unit))))))) :=
match (decide (x.2.2.1 < (51 : Int))) with
| true =>
 match i_leastDue (x.2.1, ()) with
 | none => none
 | some v2 =>
 match ((v2.1.length : Int) == (1 : Int)) with
 | true =>
  onSome (idx v2.1 (0 : Int)) fun _ =>
  match v2.1[(0 : Int).toNat]? with
  | none => none
  | some v4 =>
  onSome (idx v2.1 (0 : Int)) fun _ =>
  match v2.1[(0 : Int).toNat]? with
  | none => none
  | some v6 =>
  onSome (idx x.2.1 v6) fun _ =>
  match x.2.1[v6.toNat]? with
  | none => none
  | some v8 =>
  some (.inr (.inr (v4, v8, x.2.2.1, true, ())))
 | false =>
  match i_collide (x.1, x.2.1, ()) with
  | none => none
  | some v9 =>
  some (.inl (x.1, v9.1, (IntKind.i64.wrap (x.2.2.1 + (1 : Int))), ()))
| false =>
 some (.inr (.inl (())))
noncomputable def i_startup (x : Ty.T (.pair (.list TStarter) .unit)) : Option (Ty.T (.pair (.int .i64) (.pair (.int .i64) (.pair (.int .i64) (.pair .bool .unit))))) :=
match i_firstDue (x.1, ()) with
| none => none
| some v1 =>
match loopL b_i_startup_3 (x.1, v1.1, (0 : Int), ()) with
| none => none
| some (.inl v10) =>
 some ((0 : Int), (0 : Int), (0 : Int), false, ())
| some (.inr v11) =>
 some (v11.1, v11.2.1, v11.2.2.1, v11.2.2.2.1, ())
noncomputable def S_i_startup : Spec := ⟨(.pair (.list TStarter) .unit), (.pair (.int .i64) (.pair (.int .i64) (.pair (.int .i64) (.pair .bool .unit)))), .unit, rfl, i_startup⟩
noncomputable def σ_i_startup : FuncId → Option Spec := sig [(91, S_i_firstDue), (92, S_i_leastDue), (93, S_i_collide)]
theorem σok_i_startup : ∀ f s, σ_i_startup f = some s → FnOK Try.prog f s := sig_ok (l := [(91, S_i_firstDue), (92, S_i_leastDue), (93, S_i_collide)]) ⟨ok_i_firstDue, ok_i_leastDue, ok_i_collide, trivial⟩
noncomputable def Λ_i_startup : Nat → Option LSpec := lkp (loopList (bodyOf Try.f85)) [⟨[0, 6, 11], (.pair (.list TStarter) (.pair (.own 2 (.int .i64)) (.pair (.int .i64) .unit))), 0, [], .unit, [2, 3, 4, 5], (.pair (.int .i64) (.pair (.int .i64) (.pair (.int .i64) (.pair .bool .unit)))), loopL b_i_startup_3⟩]
theorem lok_i_startup_3 (x) : codeK Γ0 E0 σ_i_startup Λ_i_startup Try.f85.ntmps (nthLoop Try.f85 0) (mkF Try.f85.ntmps [0, 6, 11] (.pair (.list TStarter) (.pair (.own 2 (.int .i64)) (.pair (.int .i64) .unit))) x) (readK σ_i_startup Try.f85.ntmps [0, 6, 11] (.pair (.list TStarter) (.pair (.own 2 (.int .i64)) (.pair (.int .i64) .unit))) 0 [] .unit [2, 3, 4, 5] (.pair (.int .i64) (.pair (.int .i64) (.pair (.int .i64) (.pair .bool .unit))))) = b_i_startup_3 x := by kernel_rfl
theorem ok_i_startup : FnOK Try.prog 85 S_i_startup := fn_ok (Λ := Λ_i_startup) tab0 σok_i_startup Try.func85 (by kernel_rfl) (show Try.f85.body = some (bodyOf Try.f85) by kernel_rfl) [⟨[0, 6, 11], (.pair (.list TStarter) (.pair (.own 2 (.int .i64)) (.pair (.int .i64) .unit))), 0, [], .unit, [2, 3, 4, 5], (.pair (.int .i64) (.pair (.int .i64) (.pair (.int .i64) (.pair .bool .unit)))), loopL b_i_startup_3⟩] rfl (by kernel_rfl) (by exact ⟨loop_LOK (lok_i_startup_3), trivial⟩) (by kernel_rfl)
  fun x y h => (show execFn Γ0 E0 σ_i_startup Λ_i_startup Try.f85 S_i_startup x = i_startup x by kernel_rfl).trans h

noncomputable def i_LeaderOf (x : Ty.T (.pair (.list TStarter) .unit)) : Option (Ty.T TStarter) :=
match i_AreStarters (x.1, ()) with
| none => none
| some v1 =>
match (!v1.1) with
| true =>
 some ((0 : Int), (0 : Int), (0 : Int), (1 : Int), ())
| false =>
 match i_startup (x.1, ()) with
 | none => none
 | some v2 =>
 match (!v2.2.2.2.1) with
 | true =>
  some ((0 : Int), (0 : Int), (0 : Int), (3 : Int), ())
 | false =>
  onSome (idx x.1 v2.1) fun v3 =>
  some (v3.1, v2.2.1, v2.2.2.1, (0 : Int), ())
noncomputable def S_i_LeaderOf : Spec := ⟨(.pair (.list TStarter) .unit), TStarter, .unit, rfl, i_LeaderOf⟩
noncomputable def σ_i_LeaderOf : FuncId → Option Spec := sig [(30, S_i_AreStarters), (85, S_i_startup)]
theorem σok_i_LeaderOf : ∀ f s, σ_i_LeaderOf f = some s → FnOK Try.prog f s := sig_ok (l := [(30, S_i_AreStarters), (85, S_i_startup)]) ⟨ok_i_AreStarters, ok_i_startup, trivial⟩
noncomputable def Λ_i_LeaderOf : Nat → Option LSpec := lkp (loopList (bodyOf Try.f28)) []
theorem ok_i_LeaderOf : FnOK Try.prog 28 S_i_LeaderOf := fn_ok (Λ := Λ_i_LeaderOf) tab0 σok_i_LeaderOf Try.func28 (by kernel_rfl) (show Try.f28.body = some (bodyOf Try.f28) by kernel_rfl) [] rfl (by kernel_rfl) (by exact trivial) (by kernel_rfl)
  fun x y h => (show execFn Γ0 E0 σ_i_LeaderOf Λ_i_LeaderOf Try.f28 S_i_LeaderOf x = i_LeaderOf x by kernel_rfl).trans h

noncomputable def b_s_l17Ends_3 (x : (Ty.T (.pair (.list (.int .i64)) (.pair (.int .i64) (.pair (.int .i64) (.pair (.int .i64) .unit)))))) : Option ((Ty.T (.pair (.list (.int .i64)) (.pair (.int .i64) (.pair (.int .i64) (.pair (.int .i64) .unit))))) ⊕ ((Ty.T (.pair (.int .i64) (.pair (.int .i64) .unit))) ⊕ (Ty.T .unit))) :=
match (decide (x.2.2.2.1 < (x.1.length : Int))) with
| true =>
 onSome (idx x.1 x.2.2.2.1) fun v3 =>
 onSome (idx x.1 x.2.2.2.1) fun v4 =>
 some (.inl (x.1, (if v3 < x.2.1 then v3 else x.2.1), (if v4 > x.2.2.1 then v4 else x.2.2.1), (IntKind.i64.wrap (x.2.2.2.1 + (1 : Int))), ()))
| false =>
 some (.inr (.inl (x.2.1, x.2.2.1, ())))
noncomputable def s_l17Ends (x : Ty.T (.pair (.list (.int .i64)) .unit)) : Option (Ty.T (.pair (.int .i64) (.pair (.int .i64) .unit))) :=
onSome (idx x.1 (0 : Int)) fun v1 =>
onSome (idx x.1 (0 : Int)) fun v2 =>
match loopL b_s_l17Ends_3 (x.1, v1, v2, (1 : Int), ()) with
| none => none
| some (.inl v5) =>
 some (v5.1, v5.2.1, ())
| some (.inr v7) =>
 none
noncomputable def S_s_l17Ends : Spec := ⟨(.pair (.list (.int .i64)) .unit), (.pair (.int .i64) (.pair (.int .i64) .unit)), .unit, rfl, s_l17Ends⟩
noncomputable def σ_s_l17Ends : FuncId → Option Spec := sig []
theorem σok_s_l17Ends : ∀ f s, σ_s_l17Ends f = some s → FnOK Try.prog f s := sig_ok (l := []) trivial
noncomputable def Λ_s_l17Ends : Nat → Option LSpec := lkp (loopList (bodyOf Try.f125)) [⟨[0, 4, 5, 6], (.pair (.list (.int .i64)) (.pair (.int .i64) (.pair (.int .i64) (.pair (.int .i64) .unit)))), 0, [4, 5], (.pair (.int .i64) (.pair (.int .i64) .unit)), [], .unit, loopL b_s_l17Ends_3⟩]
theorem lok_s_l17Ends_3 (x) : codeK Γ0 E0 σ_s_l17Ends Λ_s_l17Ends Try.f125.ntmps (nthLoop Try.f125 0) (mkF Try.f125.ntmps [0, 4, 5, 6] (.pair (.list (.int .i64)) (.pair (.int .i64) (.pair (.int .i64) (.pair (.int .i64) .unit)))) x) (readK σ_s_l17Ends Try.f125.ntmps [0, 4, 5, 6] (.pair (.list (.int .i64)) (.pair (.int .i64) (.pair (.int .i64) (.pair (.int .i64) .unit)))) 0 [4, 5] (.pair (.int .i64) (.pair (.int .i64) .unit)) [] .unit) = b_s_l17Ends_3 x := by kernel_rfl
theorem ok_s_l17Ends : FnOK Try.prog 125 S_s_l17Ends := fn_ok (Λ := Λ_s_l17Ends) tab0 σok_s_l17Ends Try.func125 (by kernel_rfl) (show Try.f125.body = some (bodyOf Try.f125) by kernel_rfl) [⟨[0, 4, 5, 6], (.pair (.list (.int .i64)) (.pair (.int .i64) (.pair (.int .i64) (.pair (.int .i64) .unit)))), 0, [4, 5], (.pair (.int .i64) (.pair (.int .i64) .unit)), [], .unit, loopL b_s_l17Ends_3⟩] rfl (by kernel_rfl) (by exact ⟨loop_LOK (lok_s_l17Ends_3), trivial⟩) (by kernel_rfl)
  fun x y h => (show execFn Γ0 E0 σ_s_l17Ends Λ_s_l17Ends Try.f125 S_s_l17Ends x = s_l17Ends x by kernel_rfl).trans h

noncomputable def b_s_l31First_4 (x : (Ty.T (.pair (.list (.int .i64)) (.pair (.int .i64) (.pair (.own 2 (.int .i64)) (.pair (.int .i64) .unit)))))) : Option ((Ty.T (.pair (.list (.int .i64)) (.pair (.int .i64) (.pair (.own 2 (.int .i64)) (.pair (.int .i64) .unit))))) ⊕ ((Ty.T (.pair (.own 2 (.int .i64)) .unit)) ⊕ (Ty.T .unit))) :=
match (decide (x.2.2.2.1 < (x.1.length : Int))) with
| true =>
 onSome (idx x.1 x.2.2.2.1) fun v2 =>
 match (v2 == x.2.1) with
 | true =>
  room (x.2.2.1.length + [x.2.2.2.1].length) (
   some (.inl (x.1, x.2.1, (x.2.2.1 ++ [x.2.2.2.1]), (IntKind.i64.wrap (x.2.2.2.1 + (1 : Int))), ())))
 | false =>
  some (.inl (x.1, x.2.1, x.2.2.1, (IntKind.i64.wrap (x.2.2.2.1 + (1 : Int))), ()))
| false =>
 some (.inr (.inl (x.2.2.1, ())))
noncomputable def s_l31First (x : Ty.T (.pair (.list (.int .i64)) .unit)) : Option (Ty.T (.pair (.own 2 (.int .i64)) .unit)) :=
match s_l17Ends (x.1, ()) with
| none => none
| some v1 =>
match loopL b_s_l31First_4 (x.1, v1.1, [], (0 : Int), ()) with
| none => none
| some (.inl v3) =>
 some (v3.1, ())
| some (.inr v5) =>
 none
noncomputable def S_s_l31First : Spec := ⟨(.pair (.list (.int .i64)) .unit), (.pair (.own 2 (.int .i64)) .unit), .unit, rfl, s_l31First⟩
noncomputable def σ_s_l31First : FuncId → Option Spec := sig [(125, S_s_l17Ends)]
theorem σok_s_l31First : ∀ f s, σ_s_l31First f = some s → FnOK Try.prog f s := sig_ok (l := [(125, S_s_l17Ends)]) ⟨ok_s_l17Ends, trivial⟩
noncomputable def Λ_s_l31First : Nat → Option LSpec := lkp (loopList (bodyOf Try.f94)) [⟨[0, 3, 5, 6], (.pair (.list (.int .i64)) (.pair (.int .i64) (.pair (.own 2 (.int .i64)) (.pair (.int .i64) .unit)))), 0, [5], (.pair (.own 2 (.int .i64)) .unit), [], .unit, loopL b_s_l31First_4⟩]
theorem lok_s_l31First_4 (x) : codeK Γ0 E0 σ_s_l31First Λ_s_l31First Try.f94.ntmps (nthLoop Try.f94 0) (mkF Try.f94.ntmps [0, 3, 5, 6] (.pair (.list (.int .i64)) (.pair (.int .i64) (.pair (.own 2 (.int .i64)) (.pair (.int .i64) .unit)))) x) (readK σ_s_l31First Try.f94.ntmps [0, 3, 5, 6] (.pair (.list (.int .i64)) (.pair (.int .i64) (.pair (.own 2 (.int .i64)) (.pair (.int .i64) .unit)))) 0 [5] (.pair (.own 2 (.int .i64)) .unit) [] .unit) = b_s_l31First_4 x := by kernel_rfl
theorem ok_s_l31First : FnOK Try.prog 94 S_s_l31First := fn_ok (Λ := Λ_s_l31First) tab0 σok_s_l31First Try.func94 (by kernel_rfl) (show Try.f94.body = some (bodyOf Try.f94) by kernel_rfl) [⟨[0, 3, 5, 6], (.pair (.list (.int .i64)) (.pair (.int .i64) (.pair (.own 2 (.int .i64)) (.pair (.int .i64) .unit)))), 0, [5], (.pair (.own 2 (.int .i64)) .unit), [], .unit, loopL b_s_l31First_4⟩] rfl (by kernel_rfl) (by exact ⟨loop_LOK (lok_s_l31First_4), trivial⟩) (by kernel_rfl)
  fun x y h => (show execFn Γ0 E0 σ_s_l31First Λ_s_l31First Try.f94 S_s_l31First x = s_l31First x by kernel_rfl).trans h

noncomputable def b_s_l31Due_3 (x : (Ty.T (.pair (.list TStarter) (.pair (.own 2 (.int .i64)) (.pair (.int .i64) .unit))))) : Option ((Ty.T (.pair (.list TStarter) (.pair (.own 2 (.int .i64)) (.pair (.int .i64) .unit)))) ⊕ ((Ty.T (.pair (.own 2 (.int .i64)) .unit)) ⊕ (Ty.T .unit))) :=
match (decide (x.2.2.1 < (x.1.length : Int))) with
| true =>
 onSome (idx x.1 x.2.2.1) fun v1 =>
 onSome (idx x.1 x.2.2.1) fun v2 =>
 room (x.2.1.length + [(IntKind.i64.wrap (v1.2.1 + v2.2.2.1))].length) (
  some (.inl (x.1, (x.2.1 ++ [(IntKind.i64.wrap (v1.2.1 + v2.2.2.1))]), (IntKind.i64.wrap (x.2.2.1 + (1 : Int))), ())))
| false =>
 some (.inr (.inl (x.2.1, ())))
noncomputable def s_l31Due (x : Ty.T (.pair (.list TStarter) .unit)) : Option (Ty.T (.pair (.own 2 (.int .i64)) .unit)) :=
match loopL b_s_l31Due_3 (x.1, [], (0 : Int), ()) with
| none => none
| some (.inl v3) =>
 some (v3.1, ())
| some (.inr v5) =>
 none
noncomputable def S_s_l31Due : Spec := ⟨(.pair (.list TStarter) .unit), (.pair (.own 2 (.int .i64)) .unit), .unit, rfl, s_l31Due⟩
noncomputable def σ_s_l31Due : FuncId → Option Spec := sig []
theorem σok_s_l31Due : ∀ f s, σ_s_l31Due f = some s → FnOK Try.prog f s := sig_ok (l := []) trivial
noncomputable def Λ_s_l31Due : Nat → Option LSpec := lkp (loopList (bodyOf Try.f95)) [⟨[0, 3, 4], (.pair (.list TStarter) (.pair (.own 2 (.int .i64)) (.pair (.int .i64) .unit))), 0, [3], (.pair (.own 2 (.int .i64)) .unit), [], .unit, loopL b_s_l31Due_3⟩]
theorem lok_s_l31Due_3 (x) : codeK Γ0 E0 σ_s_l31Due Λ_s_l31Due Try.f95.ntmps (nthLoop Try.f95 0) (mkF Try.f95.ntmps [0, 3, 4] (.pair (.list TStarter) (.pair (.own 2 (.int .i64)) (.pair (.int .i64) .unit))) x) (readK σ_s_l31Due Try.f95.ntmps [0, 3, 4] (.pair (.list TStarter) (.pair (.own 2 (.int .i64)) (.pair (.int .i64) .unit))) 0 [3] (.pair (.own 2 (.int .i64)) .unit) [] .unit) = b_s_l31Due_3 x := by kernel_rfl
theorem ok_s_l31Due : FnOK Try.prog 95 S_s_l31Due := fn_ok (Λ := Λ_s_l31Due) tab0 σok_s_l31Due Try.func95 (by kernel_rfl) (show Try.f95.body = some (bodyOf Try.f95) by kernel_rfl) [⟨[0, 3, 4], (.pair (.list TStarter) (.pair (.own 2 (.int .i64)) (.pair (.int .i64) .unit))), 0, [3], (.pair (.own 2 (.int .i64)) .unit), [], .unit, loopL b_s_l31Due_3⟩] rfl (by kernel_rfl) (by exact ⟨loop_LOK (lok_s_l31Due_3), trivial⟩) (by kernel_rfl)
  fun x y h => (show execFn Γ0 E0 σ_s_l31Due Λ_s_l31Due Try.f95 S_s_l31Due x = s_l31Due x by kernel_rfl).trans h

noncomputable def b_s_l01Has_2 (x : (Ty.T (.pair (.list (.int .i64)) (.pair (.int .i64) (.pair (.int .i64) .unit))))) : Option ((Ty.T (.pair (.list (.int .i64)) (.pair (.int .i64) (.pair (.int .i64) .unit)))) ⊕ ((Ty.T .unit) ⊕ (Ty.T (.pair .bool .unit)))) :=
match (decide (x.2.2.1 < (x.1.length : Int))) with
| true =>
 onSome (idx x.1 x.2.2.1) fun v1 =>
 match (v1 == x.2.1) with
 | true =>
  some (.inr (.inr (true, ())))
 | false =>
  some (.inl (x.1, x.2.1, (IntKind.i64.wrap (x.2.2.1 + (1 : Int))), ()))
| false =>
 some (.inr (.inl (())))
noncomputable def s_l01Has (x : Ty.T (.pair (.list (.int .i64)) (.pair (.int .i64) .unit))) : Option (Ty.T (.pair .bool .unit)) :=
match loopL b_s_l01Has_2 (x.1, x.2.1, (0 : Int), ()) with
| none => none
| some (.inl v2) =>
 some (false, ())
| some (.inr v3) =>
 some (v3.1, ())
noncomputable def S_s_l01Has : Spec := ⟨(.pair (.list (.int .i64)) (.pair (.int .i64) .unit)), (.pair .bool .unit), .unit, rfl, s_l01Has⟩
noncomputable def σ_s_l01Has : FuncId → Option Spec := sig []
theorem σok_s_l01Has : ∀ f s, σ_s_l01Has f = some s → FnOK Try.prog f s := sig_ok (l := []) trivial
noncomputable def Λ_s_l01Has : Nat → Option LSpec := lkp (loopList (bodyOf Try.f126)) [⟨[0, 1, 5], (.pair (.list (.int .i64)) (.pair (.int .i64) (.pair (.int .i64) .unit))), 0, [], .unit, [4], (.pair .bool .unit), loopL b_s_l01Has_2⟩]
theorem lok_s_l01Has_2 (x) : codeK Γ0 E0 σ_s_l01Has Λ_s_l01Has Try.f126.ntmps (nthLoop Try.f126 0) (mkF Try.f126.ntmps [0, 1, 5] (.pair (.list (.int .i64)) (.pair (.int .i64) (.pair (.int .i64) .unit))) x) (readK σ_s_l01Has Try.f126.ntmps [0, 1, 5] (.pair (.list (.int .i64)) (.pair (.int .i64) (.pair (.int .i64) .unit))) 0 [] .unit [4] (.pair .bool .unit)) = b_s_l01Has_2 x := by kernel_rfl
theorem ok_s_l01Has : FnOK Try.prog 126 S_s_l01Has := fn_ok (Λ := Λ_s_l01Has) tab0 σok_s_l01Has Try.func126 (by kernel_rfl) (show Try.f126.body = some (bodyOf Try.f126) by kernel_rfl) [⟨[0, 1, 5], (.pair (.list (.int .i64)) (.pair (.int .i64) (.pair (.int .i64) .unit))), 0, [], .unit, [4], (.pair .bool .unit), loopL b_s_l01Has_2⟩] rfl (by kernel_rfl) (by exact ⟨loop_LOK (lok_s_l01Has_2), trivial⟩) (by kernel_rfl)
  fun x y h => (show execFn Γ0 E0 σ_s_l01Has Λ_s_l01Has Try.f126 S_s_l01Has x = s_l01Has x by kernel_rfl).trans h

noncomputable def b_s_l31Collide_5 (x : (Ty.T (.pair (.list TStarter) (.pair (.list (.int .i64)) (.pair (.own 2 (.int .i64)) (.pair (.int .i64) (.pair (.own 2 (.int .i64)) (.pair (.int .i64) .unit)))))))) : Option ((Ty.T (.pair (.list TStarter) (.pair (.list (.int .i64)) (.pair (.own 2 (.int .i64)) (.pair (.int .i64) (.pair (.own 2 (.int .i64)) (.pair (.int .i64) .unit))))))) ⊕ ((Ty.T (.pair (.own 2 (.int .i64)) .unit)) ⊕ (Ty.T .unit))) :=
match (decide (x.2.2.2.2.2.1 < (x.2.1.length : Int))) with
| true =>
 match s_l01Has (x.2.2.1, x.2.2.2.2.2.1, ()) with
 | none => none
 | some v5 =>
 match v5.1 with
 | true =>
  onSome (idx x.1 x.2.2.2.2.2.1) fun v6 =>
  room (x.2.2.2.2.1.length + [(IntKind.i64.wrap (x.2.2.2.1 + v6.2.2.2.1))].length) (
   some (.inl (x.1, x.2.1, x.2.2.1, x.2.2.2.1, (x.2.2.2.2.1 ++ [(IntKind.i64.wrap (x.2.2.2.1 + v6.2.2.2.1))]), (IntKind.i64.wrap (x.2.2.2.2.2.1 + (1 : Int))), ())))
 | false =>
  onSome (idx x.1 x.2.2.2.2.2.1) fun v7 =>
  match (decide (v7.2.1 ≤ x.2.2.2.1)) with
  | true =>
   onSome (idx x.1 x.2.2.2.2.2.1) fun v8 =>
   room (x.2.2.2.2.1.length + [(IntKind.i64.wrap (x.2.2.2.1 + v8.2.2.1))].length) (
    some (.inl (x.1, x.2.1, x.2.2.1, x.2.2.2.1, (x.2.2.2.2.1 ++ [(IntKind.i64.wrap (x.2.2.2.1 + v8.2.2.1))]), (IntKind.i64.wrap (x.2.2.2.2.2.1 + (1 : Int))), ())))
  | false =>
   onSome (idx x.2.1 x.2.2.2.2.2.1) fun v9 =>
   room (x.2.2.2.2.1.length + [v9].length) (
    some (.inl (x.1, x.2.1, x.2.2.1, x.2.2.2.1, (x.2.2.2.2.1 ++ [v9]), (IntKind.i64.wrap (x.2.2.2.2.2.1 + (1 : Int))), ())))
| false =>
 some (.inr (.inl (x.2.2.2.2.1, ())))
noncomputable def s_l31Collide (x : Ty.T (.pair (.list TStarter) (.pair (.list (.int .i64)) .unit))) : Option (Ty.T (.pair (.own 2 (.int .i64)) .unit)) :=
match s_l31First (x.2.1, ()) with
| none => none
| some v1 =>
onSome (idx v1.1 (0 : Int)) fun _ =>
match v1.1[(0 : Int).toNat]? with
| none => none
| some v3 =>
onSome (idx x.2.1 v3) fun v4 =>
match loopL b_s_l31Collide_5 (x.1, x.2.1, v1.1, v4, [], (0 : Int), ()) with
| none => none
| some (.inl v10) =>
 some (v10.1, ())
| some (.inr v12) =>
 none
noncomputable def S_s_l31Collide : Spec := ⟨(.pair (.list TStarter) (.pair (.list (.int .i64)) .unit)), (.pair (.own 2 (.int .i64)) .unit), .unit, rfl, s_l31Collide⟩
noncomputable def σ_s_l31Collide : FuncId → Option Spec := sig [(94, S_s_l31First), (126, S_s_l01Has)]
theorem σok_s_l31Collide : ∀ f s, σ_s_l31Collide f = some s → FnOK Try.prog f s := sig_ok (l := [(94, S_s_l31First), (126, S_s_l01Has)]) ⟨ok_s_l31First, ok_s_l01Has, trivial⟩
noncomputable def Λ_s_l31Collide : Nat → Option LSpec := lkp (loopList (bodyOf Try.f97)) [⟨[0, 1, 5, 6, 7, 8], (.pair (.list TStarter) (.pair (.list (.int .i64)) (.pair (.own 2 (.int .i64)) (.pair (.int .i64) (.pair (.own 2 (.int .i64)) (.pair (.int .i64) .unit)))))), 0, [7], (.pair (.own 2 (.int .i64)) .unit), [], .unit, loopL b_s_l31Collide_5⟩]
theorem lok_s_l31Collide_5 (x) : codeK Γ0 E0 σ_s_l31Collide Λ_s_l31Collide Try.f97.ntmps (nthLoop Try.f97 0) (mkF Try.f97.ntmps [0, 1, 5, 6, 7, 8] (.pair (.list TStarter) (.pair (.list (.int .i64)) (.pair (.own 2 (.int .i64)) (.pair (.int .i64) (.pair (.own 2 (.int .i64)) (.pair (.int .i64) .unit)))))) x) (readK σ_s_l31Collide Try.f97.ntmps [0, 1, 5, 6, 7, 8] (.pair (.list TStarter) (.pair (.list (.int .i64)) (.pair (.own 2 (.int .i64)) (.pair (.int .i64) (.pair (.own 2 (.int .i64)) (.pair (.int .i64) .unit)))))) 0 [7] (.pair (.own 2 (.int .i64)) .unit) [] .unit) = b_s_l31Collide_5 x := by kernel_rfl
theorem ok_s_l31Collide : FnOK Try.prog 97 S_s_l31Collide := fn_ok (Λ := Λ_s_l31Collide) tab0 σok_s_l31Collide Try.func97 (by kernel_rfl) (show Try.f97.body = some (bodyOf Try.f97) by kernel_rfl) [⟨[0, 1, 5, 6, 7, 8], (.pair (.list TStarter) (.pair (.list (.int .i64)) (.pair (.own 2 (.int .i64)) (.pair (.int .i64) (.pair (.own 2 (.int .i64)) (.pair (.int .i64) .unit)))))), 0, [7], (.pair (.own 2 (.int .i64)) .unit), [], .unit, loopL b_s_l31Collide_5⟩] rfl (by kernel_rfl) (by exact ⟨loop_LOK (lok_s_l31Collide_5), trivial⟩) (by kernel_rfl)
  fun x y h => (show execFn Γ0 E0 σ_s_l31Collide Λ_s_l31Collide Try.f97 S_s_l31Collide x = s_l31Collide x by kernel_rfl).trans h

noncomputable def b_s_l31Leader_3 (x : (Ty.T (.pair (.list TStarter) (.pair (.own 2 (.int .i64)) (.pair (.int .i64) .unit))))) : Option ((Ty.T (.pair (.list TStarter) (.pair (.own 2 (.int .i64)) (.pair (.int .i64) .unit)))) ⊕ ((Ty.T .unit) ⊕ (Ty.T (.pair (.int .i64) (.pair (.int .i64) (.pair (.int .i64) .unit)))))) :=
match (decide (x.2.2.1 ≤ (50 : Int))) with
| true =>
 match s_l31First (x.2.1, ()) with
 | none => none
 | some v2 =>
 match ((v2.1.length : Int) == (1 : Int)) with
 | true =>
  onSome (idx v2.1 (0 : Int)) fun _ =>
  match v2.1[(0 : Int).toNat]? with
  | none => none
  | some v4 =>
  onSome (idx v2.1 (0 : Int)) fun _ =>
  match v2.1[(0 : Int).toNat]? with
  | none => none
  | some v6 =>
  onSome (idx x.2.1 v6) fun _ =>
  match x.2.1[v6.toNat]? with
  | none => none
  | some v8 =>
  some (.inr (.inr (v4, v8, x.2.2.1, ())))
 | false =>
  match s_l31Collide (x.1, x.2.1, ()) with
  | none => none
  | some v9 =>
  some (.inl (x.1, v9.1, (IntKind.i64.wrap (x.2.2.1 + (1 : Int))), ()))
| false =>
 some (.inr (.inl (())))
noncomputable def s_l31Leader (x : Ty.T (.pair (.list TStarter) .unit)) : Option (Ty.T (.pair (.int .i64) (.pair (.int .i64) (.pair (.int .i64) .unit)))) :=
match s_l31Due (x.1, ()) with
| none => none
| some v1 =>
match loopL b_s_l31Leader_3 (x.1, v1.1, (0 : Int), ()) with
| none => none
| some (.inl v10) =>
 some ((-1 : Int), (0 : Int), (0 : Int), ())
| some (.inr v11) =>
 some (v11.1, v11.2.1, v11.2.2.1, ())
noncomputable def S_s_l31Leader : Spec := ⟨(.pair (.list TStarter) .unit), (.pair (.int .i64) (.pair (.int .i64) (.pair (.int .i64) .unit))), .unit, rfl, s_l31Leader⟩
noncomputable def σ_s_l31Leader : FuncId → Option Spec := sig [(94, S_s_l31First), (95, S_s_l31Due), (97, S_s_l31Collide)]
theorem σok_s_l31Leader : ∀ f s, σ_s_l31Leader f = some s → FnOK Try.prog f s := sig_ok (l := [(94, S_s_l31First), (95, S_s_l31Due), (97, S_s_l31Collide)]) ⟨ok_s_l31First, ok_s_l31Due, ok_s_l31Collide, trivial⟩
noncomputable def Λ_s_l31Leader : Nat → Option LSpec := lkp (loopList (bodyOf Try.f86)) [⟨[0, 5, 6], (.pair (.list TStarter) (.pair (.own 2 (.int .i64)) (.pair (.int .i64) .unit))), 0, [], .unit, [2, 3, 4], (.pair (.int .i64) (.pair (.int .i64) (.pair (.int .i64) .unit))), loopL b_s_l31Leader_3⟩]
theorem lok_s_l31Leader_3 (x) : codeK Γ0 E0 σ_s_l31Leader Λ_s_l31Leader Try.f86.ntmps (nthLoop Try.f86 0) (mkF Try.f86.ntmps [0, 5, 6] (.pair (.list TStarter) (.pair (.own 2 (.int .i64)) (.pair (.int .i64) .unit))) x) (readK σ_s_l31Leader Try.f86.ntmps [0, 5, 6] (.pair (.list TStarter) (.pair (.own 2 (.int .i64)) (.pair (.int .i64) .unit))) 0 [] .unit [2, 3, 4] (.pair (.int .i64) (.pair (.int .i64) (.pair (.int .i64) .unit)))) = b_s_l31Leader_3 x := by kernel_rfl
theorem ok_s_l31Leader : FnOK Try.prog 86 S_s_l31Leader := fn_ok (Λ := Λ_s_l31Leader) tab0 σok_s_l31Leader Try.func86 (by kernel_rfl) (show Try.f86.body = some (bodyOf Try.f86) by kernel_rfl) [⟨[0, 5, 6], (.pair (.list TStarter) (.pair (.own 2 (.int .i64)) (.pair (.int .i64) .unit))), 0, [], .unit, [2, 3, 4], (.pair (.int .i64) (.pair (.int .i64) (.pair (.int .i64) .unit))), loopL b_s_l31Leader_3⟩] rfl (by kernel_rfl) (by exact ⟨loop_LOK (lok_s_l31Leader_3), trivial⟩) (by kernel_rfl)
  fun x y h => (show execFn Γ0 E0 σ_s_l31Leader Λ_s_l31Leader Try.f86 S_s_l31Leader x = s_l31Leader x by kernel_rfl).trans h

noncomputable def s_LeaderOf (x : Ty.T (.pair (.list TStarter) .unit)) : Option (Ty.T TStarter) :=
match s_AreStarters (x.1, ()) with
| none => none
| some v1 =>
match (!v1.1) with
| true =>
 some ((0 : Int), (0 : Int), (0 : Int), (1 : Int), ())
| false =>
 match s_l31Leader (x.1, ()) with
 | none => none
 | some v2 =>
 match (decide (v2.1 < (0 : Int))) with
 | true =>
  some ((0 : Int), (0 : Int), (0 : Int), (3 : Int), ())
 | false =>
  onSome (idx x.1 v2.1) fun v3 =>
  some (v3.1, v2.2.1, v2.2.2.1, (0 : Int), ())
noncomputable def S_s_LeaderOf : Spec := ⟨(.pair (.list TStarter) .unit), TStarter, .unit, rfl, s_LeaderOf⟩
noncomputable def σ_s_LeaderOf : FuncId → Option Spec := sig [(31, S_s_AreStarters), (86, S_s_l31Leader)]
theorem σok_s_LeaderOf : ∀ f s, σ_s_LeaderOf f = some s → FnOK Try.prog f s := sig_ok (l := [(31, S_s_AreStarters), (86, S_s_l31Leader)]) ⟨ok_s_AreStarters, ok_s_l31Leader, trivial⟩
noncomputable def Λ_s_LeaderOf : Nat → Option LSpec := lkp (loopList (bodyOf Try.f29)) []
theorem ok_s_LeaderOf : FnOK Try.prog 29 S_s_LeaderOf := fn_ok (Λ := Λ_s_LeaderOf) tab0 σok_s_LeaderOf Try.func29 (by kernel_rfl) (show Try.f29.body = some (bodyOf Try.f29) by kernel_rfl) [] rfl (by kernel_rfl) (by exact trivial) (by kernel_rfl)
  fun x y h => (show execFn Γ0 E0 σ_s_LeaderOf Λ_s_LeaderOf Try.f29 S_s_LeaderOf x = s_LeaderOf x by kernel_rfl).trans h

noncomputable def b_i_DueTimes_7 (x : (Ty.T (.pair (.list TStarter) (.pair (.own 2 (.int .i64)) (.pair (.int .i64) (.pair (.int .i64) .unit)))))) : Option ((Ty.T (.pair (.list TStarter) (.pair (.own 2 (.int .i64)) (.pair (.int .i64) (.pair (.int .i64) .unit))))) ⊕ ((Ty.T (.pair (.own 2 (.int .i64)) .unit)) ⊕ (Ty.T (.pair (.own 2 (.int .i64)) (.pair (.int .i64) .unit))))) :=
match (decide (x.2.2.2.1 < x.2.2.1)) with
| true =>
 match i_leastDue (x.2.1, ()) with
 | none => none
 | some v4 =>
 match ((v4.1.length : Int) == (1 : Int)) with
 | true =>
  some (.inr (.inr ([], (4 : Int), ())))
 | false =>
  match i_collide (x.1, x.2.1, ()) with
  | none => none
  | some v5 =>
  some (.inl (x.1, v5.1, x.2.2.1, (IntKind.i64.wrap (x.2.2.2.1 + (1 : Int))), ()))
| false =>
 some (.inr (.inl (x.2.1, ())))
noncomputable def i_DueTimes (x : Ty.T (.pair (.list TStarter) (.pair (.int .i64) .unit))) : Option (Ty.T (.pair (.own 2 (.int .i64)) (.pair (.int .i64) .unit))) :=
match i_AreStarters (x.1, ()) with
| none => none
| some v1 =>
match (!v1.1) with
| true =>
 some ([], (1 : Int), ())
| false =>
 match i_within (x.2.1, (0 : Int), (50 : Int), ()) with
 | none => none
 | some v2 =>
 match (!v2.1) with
 | true =>
  some ([], (2 : Int), ())
 | false =>
  match i_firstDue (x.1, ()) with
  | none => none
  | some v3 =>
  match loopL b_i_DueTimes_7 (x.1, v3.1, x.2.1, (0 : Int), ()) with
  | none => none
  | some (.inl v6) =>
   some (v6.1, (0 : Int), ())
  | some (.inr v7) =>
   some (v7.1, v7.2.1, ())
noncomputable def S_i_DueTimes : Spec := ⟨(.pair (.list TStarter) (.pair (.int .i64) .unit)), (.pair (.own 2 (.int .i64)) (.pair (.int .i64) .unit)), .unit, rfl, i_DueTimes⟩
noncomputable def σ_i_DueTimes : FuncId → Option Spec := sig [(30, S_i_AreStarters), (74, S_i_within), (91, S_i_firstDue), (92, S_i_leastDue), (93, S_i_collide)]
theorem σok_i_DueTimes : ∀ f s, σ_i_DueTimes f = some s → FnOK Try.prog f s := sig_ok (l := [(30, S_i_AreStarters), (74, S_i_within), (91, S_i_firstDue), (92, S_i_leastDue), (93, S_i_collide)]) ⟨ok_i_AreStarters, ok_i_within, ok_i_firstDue, ok_i_leastDue, ok_i_collide, trivial⟩
noncomputable def Λ_i_DueTimes : Nat → Option LSpec := lkp (loopList (bodyOf Try.f32)) [⟨[0, 6, 15, 16], (.pair (.list TStarter) (.pair (.own 2 (.int .i64)) (.pair (.int .i64) (.pair (.int .i64) .unit)))), 0, [6], (.pair (.own 2 (.int .i64)) .unit), [4, 5], (.pair (.own 2 (.int .i64)) (.pair (.int .i64) .unit)), loopL b_i_DueTimes_7⟩]
theorem lok_i_DueTimes_7 (x) : codeK Γ0 E0 σ_i_DueTimes Λ_i_DueTimes Try.f32.ntmps (nthLoop Try.f32 0) (mkF Try.f32.ntmps [0, 6, 15, 16] (.pair (.list TStarter) (.pair (.own 2 (.int .i64)) (.pair (.int .i64) (.pair (.int .i64) .unit)))) x) (readK σ_i_DueTimes Try.f32.ntmps [0, 6, 15, 16] (.pair (.list TStarter) (.pair (.own 2 (.int .i64)) (.pair (.int .i64) (.pair (.int .i64) .unit)))) 0 [6] (.pair (.own 2 (.int .i64)) .unit) [4, 5] (.pair (.own 2 (.int .i64)) (.pair (.int .i64) .unit))) = b_i_DueTimes_7 x := by kernel_rfl
theorem ok_i_DueTimes : FnOK Try.prog 32 S_i_DueTimes := fn_ok (Λ := Λ_i_DueTimes) tab0 σok_i_DueTimes Try.func32 (by kernel_rfl) (show Try.f32.body = some (bodyOf Try.f32) by kernel_rfl) [⟨[0, 6, 15, 16], (.pair (.list TStarter) (.pair (.own 2 (.int .i64)) (.pair (.int .i64) (.pair (.int .i64) .unit)))), 0, [6], (.pair (.own 2 (.int .i64)) .unit), [4, 5], (.pair (.own 2 (.int .i64)) (.pair (.int .i64) .unit)), loopL b_i_DueTimes_7⟩] rfl (by kernel_rfl) (by exact ⟨loop_LOK (lok_i_DueTimes_7), trivial⟩) (by kernel_rfl)
  fun x y h => (show execFn Γ0 E0 σ_i_DueTimes Λ_i_DueTimes Try.f32 S_i_DueTimes x = i_DueTimes x by kernel_rfl).trans h

noncomputable def b_i_JoinTimes_10 (x : (Ty.T (.pair (.int .i64) (.pair (.int .i64) (.pair (.int .i64) (.pair (.own 2 (.int .i64)) (.pair (.list TStarter) (.pair (.int .i64) (.pair (.int .i64) .unit))))))))) : Option ((Ty.T (.pair (.int .i64) (.pair (.int .i64) (.pair (.int .i64) (.pair (.own 2 (.int .i64)) (.pair (.list TStarter) (.pair (.int .i64) (.pair (.int .i64) .unit)))))))) ⊕ ((Ty.T (.pair (.own 2 (.int .i64)) .unit)) ⊕ (Ty.T .unit))) :=
match (decide (x.2.2.2.2.2.2.1 < x.2.2.2.2.2.1)) with
| true =>
 onSome (idx x.2.2.2.2.1 x.2.2.2.2.2.2.1) fun v4 =>
 match (x.2.2.2.2.2.2.1 == x.2.1) with
 | true =>
  room (x.2.2.2.1.length + [x.2.2.1].length) (
   some (.inl (x.1, x.2.1, x.2.2.1, (x.2.2.2.1 ++ [x.2.2.1]), x.2.2.2.2.1, x.2.2.2.2.2.1, (IntKind.i64.wrap (x.2.2.2.2.2.2.1 + (1 : Int))), ())))
 | false =>
  match (decide (v4.2.1 ≤ x.2.2.1)) with
  | true =>
   room (x.2.2.2.1.length + [(IntKind.i64.wrap (x.2.2.1 + x.1))].length) (
    some (.inl (x.1, x.2.1, x.2.2.1, (x.2.2.2.1 ++ [(IntKind.i64.wrap (x.2.2.1 + x.1))]), x.2.2.2.2.1, x.2.2.2.2.2.1, (IntKind.i64.wrap (x.2.2.2.2.2.2.1 + (1 : Int))), ())))
  | false =>
   if x.1 = 0 then none else
   room (x.2.2.2.1.length + [(IntKind.i64.wrap ((IntKind.i64.wrap (x.2.2.1 + (IntKind.i64.wrap ((IntKind.i64.wrap (Int.tdiv (IntKind.i64.wrap ((IntKind.i64.wrap ((IntKind.i64.wrap (v4.2.1 - x.2.2.1)) + x.1)) - (1 : Int))) x.1)) * x.1)))) + x.1))].length) (
    some (.inl (x.1, x.2.1, x.2.2.1, (x.2.2.2.1 ++ [(IntKind.i64.wrap ((IntKind.i64.wrap (x.2.2.1 + (IntKind.i64.wrap ((IntKind.i64.wrap (Int.tdiv (IntKind.i64.wrap ((IntKind.i64.wrap ((IntKind.i64.wrap (v4.2.1 - x.2.2.1)) + x.1)) - (1 : Int))) x.1)) * x.1)))) + x.1))]), x.2.2.2.2.1, x.2.2.2.2.2.1, (IntKind.i64.wrap (x.2.2.2.2.2.2.1 + (1 : Int))), ())))
| false =>
 some (.inr (.inl (x.2.2.2.1, ())))
noncomputable def i_JoinTimes (x : Ty.T (.pair (.list TStarter) (.pair (.int .i64) .unit))) : Option (Ty.T (.pair (.own 2 (.int .i64)) (.pair (.int .i64) .unit))) :=
match i_AreStarters (x.1, ()) with
| none => none
| some v1 =>
match (!v1.1) with
| true =>
 some ([], (1 : Int), ())
| false =>
 match i_within (x.2.1, (1 : Int), (100000 : Int), ()) with
 | none => none
 | some v2 =>
 match (!v2.1) with
 | true =>
  some ([], (2 : Int), ())
 | false =>
  match i_startup (x.1, ()) with
  | none => none
  | some v3 =>
  match (!v3.2.2.2.1) with
  | true =>
   some ([], (3 : Int), ())
  | false =>
   match loopL b_i_JoinTimes_10 (x.2.1, v3.1, v3.2.1, [], x.1, (x.1.length : Int), (0 : Int), ()) with
   | none => none
   | some (.inl v5) =>
    some (v5.1, (0 : Int), ())
   | some (.inr v7) =>
    none
noncomputable def S_i_JoinTimes : Spec := ⟨(.pair (.list TStarter) (.pair (.int .i64) .unit)), (.pair (.own 2 (.int .i64)) (.pair (.int .i64) .unit)), .unit, rfl, i_JoinTimes⟩
noncomputable def σ_i_JoinTimes : FuncId → Option Spec := sig [(30, S_i_AreStarters), (74, S_i_within), (85, S_i_startup)]
theorem σok_i_JoinTimes : ∀ f s, σ_i_JoinTimes f = some s → FnOK Try.prog f s := sig_ok (l := [(30, S_i_AreStarters), (74, S_i_within), (85, S_i_startup)]) ⟨ok_i_AreStarters, ok_i_within, ok_i_startup, trivial⟩
noncomputable def Λ_i_JoinTimes : Nat → Option LSpec := lkp (loopList (bodyOf Try.f33)) [⟨[1, 6, 7, 10, 29, 30, 31], (.pair (.int .i64) (.pair (.int .i64) (.pair (.int .i64) (.pair (.own 2 (.int .i64)) (.pair (.list TStarter) (.pair (.int .i64) (.pair (.int .i64) .unit))))))), 0, [10], (.pair (.own 2 (.int .i64)) .unit), [], .unit, loopL b_i_JoinTimes_10⟩]
theorem lok_i_JoinTimes_10 (x) : codeK Γ0 E0 σ_i_JoinTimes Λ_i_JoinTimes Try.f33.ntmps (nthLoop Try.f33 0) (mkF Try.f33.ntmps [1, 6, 7, 10, 29, 30, 31] (.pair (.int .i64) (.pair (.int .i64) (.pair (.int .i64) (.pair (.own 2 (.int .i64)) (.pair (.list TStarter) (.pair (.int .i64) (.pair (.int .i64) .unit))))))) x) (readK σ_i_JoinTimes Try.f33.ntmps [1, 6, 7, 10, 29, 30, 31] (.pair (.int .i64) (.pair (.int .i64) (.pair (.int .i64) (.pair (.own 2 (.int .i64)) (.pair (.list TStarter) (.pair (.int .i64) (.pair (.int .i64) .unit))))))) 0 [10] (.pair (.own 2 (.int .i64)) .unit) [] .unit) = b_i_JoinTimes_10 x := by kernel_rfl
theorem ok_i_JoinTimes : FnOK Try.prog 33 S_i_JoinTimes := fn_ok (Λ := Λ_i_JoinTimes) tab0 σok_i_JoinTimes Try.func33 (by kernel_rfl) (show Try.f33.body = some (bodyOf Try.f33) by kernel_rfl) [⟨[1, 6, 7, 10, 29, 30, 31], (.pair (.int .i64) (.pair (.int .i64) (.pair (.int .i64) (.pair (.own 2 (.int .i64)) (.pair (.list TStarter) (.pair (.int .i64) (.pair (.int .i64) .unit))))))), 0, [10], (.pair (.own 2 (.int .i64)) .unit), [], .unit, loopL b_i_JoinTimes_10⟩] rfl (by kernel_rfl) (by exact ⟨loop_LOK (lok_i_JoinTimes_10), trivial⟩) (by kernel_rfl)
  fun x y h => (show execFn Γ0 E0 σ_i_JoinTimes Λ_i_JoinTimes Try.f33 S_i_JoinTimes x = i_JoinTimes x by kernel_rfl).trans h

noncomputable def b_l_FnLeaders_15 (x : (Ty.T (.pair (.own 47 TStarter) (.pair (.int .i64) (.pair (.int .i64) (.pair (.int .i64) (.pair (.own 2 (.int .i64)) (.pair (.own 2 (.int .i64)) (.pair (.int .i64) .unit))))))))) : Option ((Ty.T (.pair (.own 47 TStarter) (.pair (.int .i64) (.pair (.int .i64) (.pair (.int .i64) (.pair (.own 2 (.int .i64)) (.pair (.own 2 (.int .i64)) (.pair (.int .i64) .unit)))))))) ⊕ ((Ty.T (.pair (.own 47 TStarter) (.pair (.int .i64) .unit))) ⊕ (Ty.T (.pair .bool .unit)))) :=
match (decide (x.2.2.2.2.2.2.1 < (x.1.length : Int))) with
| true =>
 onSome (idx x.1 x.2.2.2.2.2.2.1) fun _ =>
 match x.1[x.2.2.2.2.2.2.1.toNat]? with
 | none => none
 | some v10 =>
 match (v10.1 == x.2.1) with
 | true =>
  onSome (idx x.2.2.2.2.1 x.2.2.2.2.2.2.1) fun _ =>
  match x.2.2.2.2.1[x.2.2.2.2.2.2.1.toNat]? with
  | none => none
  | some v12 =>
  match (v12 != x.2.2.1) with
  | true =>
   some (.inr (.inr (false, ())))
  | false =>
   onSome (idx x.2.2.2.2.2.1 x.2.2.2.2.2.2.1) fun _ =>
   match x.2.2.2.2.2.1[x.2.2.2.2.2.2.1.toNat]? with
   | none => none
   | some v14 =>
   match (v14 != x.2.2.1) with
   | true =>
    some (.inr (.inr (false, ())))
   | false =>
    match (!(v10.1 == x.2.1)) with
    | true =>
     onSome (idx x.2.2.2.2.1 x.2.2.2.2.2.2.1) fun _ =>
     match x.2.2.2.2.1[x.2.2.2.2.2.2.1.toNat]? with
     | none => none
     | some v16 =>
     match (decide (v16 ≤ x.2.2.1)) with
     | true =>
      some (.inr (.inr (false, ())))
     | false =>
      onSome (idx x.2.2.2.2.2.1 x.2.2.2.2.2.2.1) fun _ =>
      match x.2.2.2.2.2.1[x.2.2.2.2.2.2.1.toNat]? with
      | none => none
      | some v18 =>
      match (decide (v18 ≤ x.2.2.1)) with
      | true =>
       some (.inr (.inr (false, ())))
      | false =>
       some (.inl (x.1, x.2.1, x.2.2.1, x.2.2.2.1, x.2.2.2.2.1, x.2.2.2.2.2.1, (IntKind.i64.wrap (x.2.2.2.2.2.2.1 + (1 : Int))), ()))
    | false =>
     some (.inl (x.1, x.2.1, x.2.2.1, x.2.2.2.1, x.2.2.2.2.1, x.2.2.2.2.2.1, (IntKind.i64.wrap (x.2.2.2.2.2.2.1 + (1 : Int))), ()))
 | false =>
  match (!(v10.1 == x.2.1)) with
  | true =>
   onSome (idx x.2.2.2.2.1 x.2.2.2.2.2.2.1) fun _ =>
   match x.2.2.2.2.1[x.2.2.2.2.2.2.1.toNat]? with
   | none => none
   | some v20 =>
   match (decide (v20 ≤ x.2.2.1)) with
   | true =>
    some (.inr (.inr (false, ())))
   | false =>
    onSome (idx x.2.2.2.2.2.1 x.2.2.2.2.2.2.1) fun _ =>
    match x.2.2.2.2.2.1[x.2.2.2.2.2.2.1.toNat]? with
    | none => none
    | some v22 =>
    match (decide (v22 ≤ x.2.2.1)) with
    | true =>
     some (.inr (.inr (false, ())))
    | false =>
     some (.inl (x.1, x.2.1, x.2.2.1, x.2.2.2.1, x.2.2.2.2.1, x.2.2.2.2.2.1, (IntKind.i64.wrap (x.2.2.2.2.2.2.1 + (1 : Int))), ()))
  | false =>
   some (.inl (x.1, x.2.1, x.2.2.1, x.2.2.2.1, x.2.2.2.2.1, x.2.2.2.2.2.1, (IntKind.i64.wrap (x.2.2.2.2.2.2.1 + (1 : Int))), ()))
| false =>
 some (.inr (.inl (x.1, x.2.2.2.1, ())))
noncomputable def l_FnLeaders (x : Ty.T (.pair (.list (.int .u8)) .unit)) : Option (Ty.T (.pair .bool .unit)) :=
match l_big (x.1, ()) with
| none => none
| some v1 =>
match v1.1 with
| true =>
 some (true, ())
| false =>
 match s_DrawLeaderOf (x.1, ()) with
 | none => none
 | some v2 =>
 match i_LeaderOf (v2.1, ()) with
 | none => none
 | some v3 =>
 match s_LeaderOf (v2.1, ()) with
 | none => none
 | some v4 =>
 match (v3.2.2.2.1 != v4.2.2.2.1) with
 | true =>
  some (false, ())
 | false =>
  match (v3.1 != v4.1) with
  | true =>
   some (false, ())
  | false =>
   match (v3.2.1 != v4.2.1) with
   | true =>
    some (false, ())
   | false =>
    match (v3.2.2.1 != v4.2.2.1) with
    | true =>
     some (false, ())
    | false =>
     match i_AreStarters (v2.1, ()) with
     | none => none
     | some v5 =>
     match s_AreStarters (v2.1, ()) with
     | none => none
     | some v6 =>
     match (v5.1 != v6.1) with
     | true =>
      some (false, ())
     | false =>
      match (v3.2.2.2.1 != (0 : Int)) with
      | true =>
       some (true, ())
      | false =>
       match i_DueTimes (v2.1, v3.2.2.1, ()) with
       | none => none
       | some v7 =>
       match i_JoinTimes (v2.1, (5 : Int), ()) with
       | none => none
       | some v8 =>
       match (v7.2.1 != (0 : Int)) with
       | true =>
        some (false, ())
       | false =>
        match (v8.2.1 != (0 : Int)) with
        | true =>
         some (false, ())
        | false =>
         match ((v7.1.length : Int) != (v2.1.length : Int)) with
         | true =>
          some (false, ())
         | false =>
          match ((v8.1.length : Int) != (v2.1.length : Int)) with
          | true =>
           some (false, ())
          | false =>
           match loopL b_l_FnLeaders_15 (v2.1, v3.1, v3.2.1, v3.2.2.1, v7.1, v8.1, (0 : Int), ()) with
           | none => none
           | some (.inl v23) =>
            match i_DueTimes (v23.1, (IntKind.i64.wrap (v23.2.1 + (1 : Int))), ()) with
            | none => none
            | some v25 =>
            match (v25.2.1 == (4 : Int)) with
            | true =>
             some (true, ())
            | false =>
             some ((v23.2.1 == (50 : Int)), ())
           | some (.inr v24) =>
            some (v24.1, ())
noncomputable def S_l_FnLeaders : Spec := ⟨(.pair (.list (.int .u8)) .unit), (.pair .bool .unit), .unit, rfl, l_FnLeaders⟩
noncomputable def σ_l_FnLeaders : FuncId → Option Spec := sig [(26, S_l_big), (27, S_s_DrawLeaderOf), (28, S_i_LeaderOf), (29, S_s_LeaderOf), (30, S_i_AreStarters), (31, S_s_AreStarters), (32, S_i_DueTimes), (33, S_i_JoinTimes)]
theorem σok_l_FnLeaders : ∀ f s, σ_l_FnLeaders f = some s → FnOK Try.prog f s := sig_ok (l := [(26, S_l_big), (27, S_s_DrawLeaderOf), (28, S_i_LeaderOf), (29, S_s_LeaderOf), (30, S_i_AreStarters), (31, S_s_AreStarters), (32, S_i_DueTimes), (33, S_i_JoinTimes)]) ⟨ok_l_big, ok_s_DrawLeaderOf, ok_i_LeaderOf, ok_s_LeaderOf, ok_i_AreStarters, ok_s_AreStarters, ok_i_DueTimes, ok_i_JoinTimes, trivial⟩
noncomputable def Λ_l_FnLeaders : Nat → Option LSpec := lkp (loopList (bodyOf Try.f5)) [⟨[3, 4, 5, 6, 12, 14, 16], (.pair (.own 47 TStarter) (.pair (.int .i64) (.pair (.int .i64) (.pair (.int .i64) (.pair (.own 2 (.int .i64)) (.pair (.own 2 (.int .i64)) (.pair (.int .i64) .unit))))))), 0, [3, 6], (.pair (.own 47 TStarter) (.pair (.int .i64) .unit)), [2], (.pair .bool .unit), loopL b_l_FnLeaders_15⟩]
theorem lok_l_FnLeaders_15 (x) : codeK Γ0 E0 σ_l_FnLeaders Λ_l_FnLeaders Try.f5.ntmps (nthLoop Try.f5 0) (mkF Try.f5.ntmps [3, 4, 5, 6, 12, 14, 16] (.pair (.own 47 TStarter) (.pair (.int .i64) (.pair (.int .i64) (.pair (.int .i64) (.pair (.own 2 (.int .i64)) (.pair (.own 2 (.int .i64)) (.pair (.int .i64) .unit))))))) x) (readK σ_l_FnLeaders Try.f5.ntmps [3, 4, 5, 6, 12, 14, 16] (.pair (.own 47 TStarter) (.pair (.int .i64) (.pair (.int .i64) (.pair (.int .i64) (.pair (.own 2 (.int .i64)) (.pair (.own 2 (.int .i64)) (.pair (.int .i64) .unit))))))) 0 [3, 6] (.pair (.own 47 TStarter) (.pair (.int .i64) .unit)) [2] (.pair .bool .unit)) = b_l_FnLeaders_15 x := by kernel_rfl
theorem ok_l_FnLeaders : FnOK Try.prog 5 S_l_FnLeaders := fn_ok (Λ := Λ_l_FnLeaders) tab0 σok_l_FnLeaders Try.func5 (by kernel_rfl) (show Try.f5.body = some (bodyOf Try.f5) by kernel_rfl) [⟨[3, 4, 5, 6, 12, 14, 16], (.pair (.own 47 TStarter) (.pair (.int .i64) (.pair (.int .i64) (.pair (.int .i64) (.pair (.own 2 (.int .i64)) (.pair (.own 2 (.int .i64)) (.pair (.int .i64) .unit))))))), 0, [3, 6], (.pair (.own 47 TStarter) (.pair (.int .i64) .unit)), [2], (.pair .bool .unit), loopL b_l_FnLeaders_15⟩] rfl (by kernel_rfl) (by exact ⟨loop_LOK (lok_l_FnLeaders_15), trivial⟩) (by kernel_rfl)
  fun x y h => (show execFn Γ0 E0 σ_l_FnLeaders Λ_l_FnLeaders Try.f5 S_l_FnLeaders x = l_FnLeaders x by kernel_rfl).trans h

noncomputable def s_DrawFirstStart (x : Ty.T (.pair (.list (.int .u8)) .unit)) : Option (Ty.T (.pair (.own 47 TStarter) .unit)) :=
match s_l01From (x.1, ()) with
| none => none
| some v1 =>
match s_l31Draw ((v1.1.1, v1.1.2.1, v1.1.2.2.1, ()), ()) with
| none => none
| some v2 =>
some (v2.1, ())
noncomputable def S_s_DrawFirstStart : Spec := ⟨(.pair (.list (.int .u8)) .unit), (.pair (.own 47 TStarter) .unit), .unit, rfl, s_DrawFirstStart⟩
noncomputable def σ_s_DrawFirstStart : FuncId → Option Spec := sig [(83, S_s_l31Draw), (84, S_s_l01From)]
theorem σok_s_DrawFirstStart : ∀ f s, σ_s_DrawFirstStart f = some s → FnOK Try.prog f s := sig_ok (l := [(83, S_s_l31Draw), (84, S_s_l01From)]) ⟨ok_s_l31Draw, ok_s_l01From, trivial⟩
noncomputable def Λ_s_DrawFirstStart : Nat → Option LSpec := lkp (loopList (bodyOf Try.f34)) []
theorem ok_s_DrawFirstStart : FnOK Try.prog 34 S_s_DrawFirstStart := fn_ok (Λ := Λ_s_DrawFirstStart) tab0 σok_s_DrawFirstStart Try.func34 (by kernel_rfl) (show Try.f34.body = some (bodyOf Try.f34) by kernel_rfl) [] rfl (by kernel_rfl) (by exact trivial) (by kernel_rfl)
  fun x y h => (show execFn Γ0 E0 σ_s_DrawFirstStart Λ_s_DrawFirstStart Try.f34 S_s_DrawFirstStart x = s_DrawFirstStart x by kernel_rfl).trans h

noncomputable def b_i_FirstStart_5 (x : (Ty.T (.pair (.list TStarter) (.pair (.own 2 (.int .i64)) (.pair (.own 3 (.int .i64)) (.pair (.int .i64) (.pair (.int .i64) .unit))))))) : Option ((Ty.T (.pair (.list TStarter) (.pair (.own 2 (.int .i64)) (.pair (.own 3 (.int .i64)) (.pair (.int .i64) (.pair (.int .i64) .unit)))))) ⊕ ((Ty.T (.pair (.own 2 (.int .i64)) .unit)) ⊕ (Ty.T .unit))) :=
match (decide (x.2.2.2.2.1 < x.2.2.2.1)) with
| true =>
 onSome (idx x.2.2.1 x.2.2.2.2.1) fun _ =>
 match x.2.2.1[x.2.2.2.2.1.toNat]? with
 | none => none
 | some v5 =>
 onSome (idx x.1 v5) fun v6 =>
 room (x.2.1.length + [v6.1].length) (
  some (.inl (x.1, (x.2.1 ++ [v6.1]), x.2.2.1, x.2.2.2.1, (IntKind.i64.wrap (x.2.2.2.2.1 + (1 : Int))), ())))
| false =>
 some (.inr (.inl (x.2.1, ())))
noncomputable def i_FirstStart (x : Ty.T (.pair (.list TStarter) .unit)) : Option (Ty.T (.pair (.own 2 (.int .i64)) (.pair (.int .i64) .unit))) :=
match i_AreStarters (x.1, ()) with
| none => none
| some v1 =>
match (!v1.1) with
| true =>
 some ([], (1 : Int), ())
| false =>
 match i_firstDue (x.1, ()) with
 | none => none
 | some v2 =>
 match i_leastDue (v2.1, ()) with
 | none => none
 | some v3 =>
 match loopL b_i_FirstStart_5 (x.1, [], v3.1, (v3.1.length : Int), (0 : Int), ()) with
 | none => none
 | some (.inl v7) =>
  some (v7.1, (0 : Int), ())
 | some (.inr v9) =>
  none
noncomputable def S_i_FirstStart : Spec := ⟨(.pair (.list TStarter) .unit), (.pair (.own 2 (.int .i64)) (.pair (.int .i64) .unit)), .unit, rfl, i_FirstStart⟩
noncomputable def σ_i_FirstStart : FuncId → Option Spec := sig [(30, S_i_AreStarters), (91, S_i_firstDue), (92, S_i_leastDue)]
theorem σok_i_FirstStart : ∀ f s, σ_i_FirstStart f = some s → FnOK Try.prog f s := sig_ok (l := [(30, S_i_AreStarters), (91, S_i_firstDue), (92, S_i_leastDue)]) ⟨ok_i_AreStarters, ok_i_firstDue, ok_i_leastDue, trivial⟩
noncomputable def Λ_i_FirstStart : Nat → Option LSpec := lkp (loopList (bodyOf Try.f35)) [⟨[0, 4, 13, 14, 15], (.pair (.list TStarter) (.pair (.own 2 (.int .i64)) (.pair (.own 3 (.int .i64)) (.pair (.int .i64) (.pair (.int .i64) .unit))))), 0, [4], (.pair (.own 2 (.int .i64)) .unit), [], .unit, loopL b_i_FirstStart_5⟩]
theorem lok_i_FirstStart_5 (x) : codeK Γ0 E0 σ_i_FirstStart Λ_i_FirstStart Try.f35.ntmps (nthLoop Try.f35 0) (mkF Try.f35.ntmps [0, 4, 13, 14, 15] (.pair (.list TStarter) (.pair (.own 2 (.int .i64)) (.pair (.own 3 (.int .i64)) (.pair (.int .i64) (.pair (.int .i64) .unit))))) x) (readK σ_i_FirstStart Try.f35.ntmps [0, 4, 13, 14, 15] (.pair (.list TStarter) (.pair (.own 2 (.int .i64)) (.pair (.own 3 (.int .i64)) (.pair (.int .i64) (.pair (.int .i64) .unit))))) 0 [4] (.pair (.own 2 (.int .i64)) .unit) [] .unit) = b_i_FirstStart_5 x := by kernel_rfl
theorem ok_i_FirstStart : FnOK Try.prog 35 S_i_FirstStart := fn_ok (Λ := Λ_i_FirstStart) tab0 σok_i_FirstStart Try.func35 (by kernel_rfl) (show Try.f35.body = some (bodyOf Try.f35) by kernel_rfl) [⟨[0, 4, 13, 14, 15], (.pair (.list TStarter) (.pair (.own 2 (.int .i64)) (.pair (.own 3 (.int .i64)) (.pair (.int .i64) (.pair (.int .i64) .unit))))), 0, [4], (.pair (.own 2 (.int .i64)) .unit), [], .unit, loopL b_i_FirstStart_5⟩] rfl (by kernel_rfl) (by exact ⟨loop_LOK (lok_i_FirstStart_5), trivial⟩) (by kernel_rfl)
  fun x y h => (show execFn Γ0 E0 σ_i_FirstStart Λ_i_FirstStart Try.f35 S_i_FirstStart x = i_FirstStart x by kernel_rfl).trans h

noncomputable def b_s_FirstStart_6 (x : (Ty.T (.pair (.list TStarter) (.pair (.own 2 (.int .i64)) (.pair (.own 2 (.int .i64)) (.pair (.int .i64) .unit)))))) : Option ((Ty.T (.pair (.list TStarter) (.pair (.own 2 (.int .i64)) (.pair (.own 2 (.int .i64)) (.pair (.int .i64) .unit))))) ⊕ ((Ty.T (.pair (.own 2 (.int .i64)) .unit)) ⊕ (Ty.T .unit))) :=
match (decide (x.2.2.2.1 < (x.2.1.length : Int))) with
| true =>
 onSome (idx x.2.1 x.2.2.2.1) fun _ =>
 match x.2.1[x.2.2.2.1.toNat]? with
 | none => none
 | some v5 =>
 onSome (idx x.1 v5) fun v6 =>
 room (x.2.2.1.length + [v6.1].length) (
  some (.inl (x.1, x.2.1, (x.2.2.1 ++ [v6.1]), (IntKind.i64.wrap (x.2.2.2.1 + (1 : Int))), ())))
| false =>
 some (.inr (.inl (x.2.2.1, ())))
noncomputable def s_FirstStart (x : Ty.T (.pair (.list TStarter) .unit)) : Option (Ty.T (.pair (.own 2 (.int .i64)) (.pair (.int .i64) .unit))) :=
match s_AreStarters (x.1, ()) with
| none => none
| some v1 =>
match (!v1.1) with
| true =>
 some ([], (1 : Int), ())
| false =>
 match s_l31Due (x.1, ()) with
 | none => none
 | some v2 =>
 match s_l31First (v2.1, ()) with
 | none => none
 | some v3 =>
 match loopL b_s_FirstStart_6 (x.1, v3.1, [], (0 : Int), ()) with
 | none => none
 | some (.inl v7) =>
  some (v7.1, (0 : Int), ())
 | some (.inr v9) =>
  none
noncomputable def S_s_FirstStart : Spec := ⟨(.pair (.list TStarter) .unit), (.pair (.own 2 (.int .i64)) (.pair (.int .i64) .unit)), .unit, rfl, s_FirstStart⟩
noncomputable def σ_s_FirstStart : FuncId → Option Spec := sig [(31, S_s_AreStarters), (94, S_s_l31First), (95, S_s_l31Due)]
theorem σok_s_FirstStart : ∀ f s, σ_s_FirstStart f = some s → FnOK Try.prog f s := sig_ok (l := [(31, S_s_AreStarters), (94, S_s_l31First), (95, S_s_l31Due)]) ⟨ok_s_AreStarters, ok_s_l31First, ok_s_l31Due, trivial⟩
noncomputable def Λ_s_FirstStart : Nat → Option LSpec := lkp (loopList (bodyOf Try.f36)) [⟨[0, 4, 5, 6], (.pair (.list TStarter) (.pair (.own 2 (.int .i64)) (.pair (.own 2 (.int .i64)) (.pair (.int .i64) .unit)))), 0, [5], (.pair (.own 2 (.int .i64)) .unit), [], .unit, loopL b_s_FirstStart_6⟩]
theorem lok_s_FirstStart_6 (x) : codeK Γ0 E0 σ_s_FirstStart Λ_s_FirstStart Try.f36.ntmps (nthLoop Try.f36 0) (mkF Try.f36.ntmps [0, 4, 5, 6] (.pair (.list TStarter) (.pair (.own 2 (.int .i64)) (.pair (.own 2 (.int .i64)) (.pair (.int .i64) .unit)))) x) (readK σ_s_FirstStart Try.f36.ntmps [0, 4, 5, 6] (.pair (.list TStarter) (.pair (.own 2 (.int .i64)) (.pair (.own 2 (.int .i64)) (.pair (.int .i64) .unit)))) 0 [5] (.pair (.own 2 (.int .i64)) .unit) [] .unit) = b_s_FirstStart_6 x := by kernel_rfl
theorem ok_s_FirstStart : FnOK Try.prog 36 S_s_FirstStart := fn_ok (Λ := Λ_s_FirstStart) tab0 σok_s_FirstStart Try.func36 (by kernel_rfl) (show Try.f36.body = some (bodyOf Try.f36) by kernel_rfl) [⟨[0, 4, 5, 6], (.pair (.list TStarter) (.pair (.own 2 (.int .i64)) (.pair (.own 2 (.int .i64)) (.pair (.int .i64) .unit)))), 0, [5], (.pair (.own 2 (.int .i64)) .unit), [], .unit, loopL b_s_FirstStart_6⟩] rfl (by kernel_rfl) (by exact ⟨loop_LOK (lok_s_FirstStart_6), trivial⟩) (by kernel_rfl)
  fun x y h => (show execFn Γ0 E0 σ_s_FirstStart Λ_s_FirstStart Try.f36 S_s_FirstStart x = s_FirstStart x by kernel_rfl).trans h

noncomputable def s_DrawWithoutStarter (x : Ty.T (.pair (.list (.int .u8)) .unit)) : Option (Ty.T (.pair (.own 47 TStarter) (.pair (.int .i64) .unit))) :=
match s_l01From (x.1, ()) with
| none => none
| some v1 =>
match s_l31Draw ((v1.1.1, v1.1.2.1, v1.1.2.2.1, ()), ()) with
| none => none
| some v2 =>
match s_l01Next ((v2.2.1.1, v2.2.1.2.1, v2.2.1.2.2.1, ()), (6 : Int), ()) with
| none => none
| some v3 =>
some (v2.1, v3.1, ())
noncomputable def S_s_DrawWithoutStarter : Spec := ⟨(.pair (.list (.int .u8)) .unit), (.pair (.own 47 TStarter) (.pair (.int .i64) .unit)), .unit, rfl, s_DrawWithoutStarter⟩
noncomputable def σ_s_DrawWithoutStarter : FuncId → Option Spec := sig [(83, S_s_l31Draw), (84, S_s_l01From), (96, S_s_l01Next)]
theorem σok_s_DrawWithoutStarter : ∀ f s, σ_s_DrawWithoutStarter f = some s → FnOK Try.prog f s := sig_ok (l := [(83, S_s_l31Draw), (84, S_s_l01From), (96, S_s_l01Next)]) ⟨ok_s_l31Draw, ok_s_l01From, ok_s_l01Next, trivial⟩
noncomputable def Λ_s_DrawWithoutStarter : Nat → Option LSpec := lkp (loopList (bodyOf Try.f37)) []
theorem ok_s_DrawWithoutStarter : FnOK Try.prog 37 S_s_DrawWithoutStarter := fn_ok (Λ := Λ_s_DrawWithoutStarter) tab0 σok_s_DrawWithoutStarter Try.func37 (by kernel_rfl) (show Try.f37.body = some (bodyOf Try.f37) by kernel_rfl) [] rfl (by kernel_rfl) (by exact trivial) (by kernel_rfl)
  fun x y h => (show execFn Γ0 E0 σ_s_DrawWithoutStarter Λ_s_DrawWithoutStarter Try.f37 S_s_DrawWithoutStarter x = s_DrawWithoutStarter x by kernel_rfl).trans h

noncomputable def b_l_likeInts_4 (x : (Ty.T (.pair (.list (.int .i64)) (.pair (.list (.int .i64)) (.pair (.int .i64) .unit))))) : Option ((Ty.T (.pair (.list (.int .i64)) (.pair (.list (.int .i64)) (.pair (.int .i64) .unit)))) ⊕ ((Ty.T .unit) ⊕ (Ty.T (.pair .bool .unit)))) :=
match (decide (x.2.2.1 < (x.1.length : Int))) with
| true =>
 onSome (idx x.1 x.2.2.1) fun v1 =>
 onSome (idx x.2.1 x.2.2.1) fun v2 =>
 match (v1 != v2) with
 | true =>
  some (.inr (.inr (false, ())))
 | false =>
  some (.inl (x.1, x.2.1, (IntKind.i64.wrap (x.2.2.1 + (1 : Int))), ()))
| false =>
 some (.inr (.inl (())))
noncomputable def l_likeInts (x : Ty.T (.pair (.list (.int .i64)) (.pair (.list (.int .i64)) .unit))) : Option (Ty.T (.pair .bool .unit)) :=
match ((x.1.length : Int) != (x.2.1.length : Int)) with
| true =>
 some (false, ())
| false =>
 match loopL b_l_likeInts_4 (x.1, x.2.1, (0 : Int), ()) with
 | none => none
 | some (.inl v3) =>
  some (true, ())
 | some (.inr v4) =>
  some (v4.1, ())
noncomputable def S_l_likeInts : Spec := ⟨(.pair (.list (.int .i64)) (.pair (.list (.int .i64)) .unit)), (.pair .bool .unit), .unit, rfl, l_likeInts⟩
noncomputable def σ_l_likeInts : FuncId → Option Spec := sig []
theorem σok_l_likeInts : ∀ f s, σ_l_likeInts f = some s → FnOK Try.prog f s := sig_ok (l := []) trivial
noncomputable def Λ_l_likeInts : Nat → Option LSpec := lkp (loopList (bodyOf Try.f38)) [⟨[0, 1, 5], (.pair (.list (.int .i64)) (.pair (.list (.int .i64)) (.pair (.int .i64) .unit))), 0, [], .unit, [4], (.pair .bool .unit), loopL b_l_likeInts_4⟩]
theorem lok_l_likeInts_4 (x) : codeK Γ0 E0 σ_l_likeInts Λ_l_likeInts Try.f38.ntmps (nthLoop Try.f38 0) (mkF Try.f38.ntmps [0, 1, 5] (.pair (.list (.int .i64)) (.pair (.list (.int .i64)) (.pair (.int .i64) .unit))) x) (readK σ_l_likeInts Try.f38.ntmps [0, 1, 5] (.pair (.list (.int .i64)) (.pair (.list (.int .i64)) (.pair (.int .i64) .unit))) 0 [] .unit [4] (.pair .bool .unit)) = b_l_likeInts_4 x := by kernel_rfl
theorem ok_l_likeInts : FnOK Try.prog 38 S_l_likeInts := fn_ok (Λ := Λ_l_likeInts) tab0 σok_l_likeInts Try.func38 (by kernel_rfl) (show Try.f38.body = some (bodyOf Try.f38) by kernel_rfl) [⟨[0, 1, 5], (.pair (.list (.int .i64)) (.pair (.list (.int .i64)) (.pair (.int .i64) .unit))), 0, [], .unit, [4], (.pair .bool .unit), loopL b_l_likeInts_4⟩] rfl (by kernel_rfl) (by exact ⟨loop_LOK (lok_l_likeInts_4), trivial⟩) (by kernel_rfl)
  fun x y h => (show execFn Γ0 E0 σ_l_likeInts Λ_l_likeInts Try.f38 S_l_likeInts x = l_likeInts x by kernel_rfl).trans h

noncomputable def b_l_FnTwoStarters_12 (x : (Ty.T (.pair (.own 47 TStarter) (.pair (.own 2 (.int .i64)) (.pair (.int .i64) (.pair (.own 47 TStarter) (.pair (.own 47 TStarter) (.pair (.int .i64) .unit)))))))) : Option ((Ty.T (.pair (.own 47 TStarter) (.pair (.own 2 (.int .i64)) (.pair (.int .i64) (.pair (.own 47 TStarter) (.pair (.own 47 TStarter) (.pair (.int .i64) .unit))))))) ⊕ ((Ty.T (.pair (.own 47 TStarter) (.pair (.own 2 (.int .i64)) (.pair (.int .i64) .unit)))) ⊕ (Ty.T (.pair .bool .unit)))) :=
match (decide (x.2.2.2.2.2.1 < (x.2.2.2.1.length : Int))) with
| true =>
 onSome (idx x.2.2.2.1 x.2.2.2.2.2.1) fun _ =>
 match x.2.2.2.1[x.2.2.2.2.2.1.toNat]? with
 | none => none
 | some v10 =>
 onSome (idx x.2.2.2.2.1 x.2.2.2.2.2.1) fun _ =>
 match x.2.2.2.2.1[x.2.2.2.2.2.1.toNat]? with
 | none => none
 | some v12 =>
 match (!(eqT TStarter v10 v12)) with
 | true =>
  some (.inr (.inr (false, ())))
 | false =>
  some (.inl (x.1, x.2.1, x.2.2.1, x.2.2.2.1, x.2.2.2.2.1, (IntKind.i64.wrap (x.2.2.2.2.2.1 + (1 : Int))), ()))
| false =>
 some (.inr (.inl (x.1, x.2.1, x.2.2.1, ())))
noncomputable def l_FnTwoStarters (x : Ty.T (.pair (.list (.int .u8)) .unit)) : Option (Ty.T (.pair .bool .unit)) :=
match l_big (x.1, ()) with
| none => none
| some v1 =>
match v1.1 with
| true =>
 some (true, ())
| false =>
 match s_DrawFirstStart (x.1, ()) with
 | none => none
 | some v2 =>
 match i_FirstStart (v2.1, ()) with
 | none => none
 | some v3 =>
 match s_FirstStart (v2.1, ()) with
 | none => none
 | some v4 =>
 match s_DrawWithoutStarter (x.1, ()) with
 | none => none
 | some v5 =>
 match i_WithoutStarter (v5.1, v5.2.1, ()) with
 | none => none
 | some v6 =>
 match s_WithoutStarter (v5.1, v5.2.1, ()) with
 | none => none
 | some v7 =>
 match (v3.2.1 != v4.2.1) with
 | true =>
  some (false, ())
 | false =>
  match l_likeInts (v3.1, v4.1, ()) with
  | none => none
  | some v8 =>
  match (!v8.1) with
  | true =>
   some (false, ())
  | false =>
   match (v6.2.1 != v7.2.1) with
   | true =>
    some (false, ())
   | false =>
    match ((v6.1.length : Int) != (v7.1.length : Int)) with
    | true =>
     some (false, ())
    | false =>
     match loopL b_l_FnTwoStarters_12 (v2.1, v3.1, v3.2.1, v6.1, v7.1, (0 : Int), ()) with
     | none => none
     | some (.inl v13) =>
      match (v13.2.2.1 != (0 : Int)) with
      | true =>
       some (true, ())
      | false =>
       match (decide ((v13.1.length : Int) < (2 : Int))) with
       | true =>
        some (true, ())
       | false =>
        onSome (bounds v13.1.length none (some (.dat (.int .i64) (2 : Int)))) fun v15 =>
        match i_LeaderOf ((List.drop v15.1 (List.take v15.2 v13.1)), ()) with
        | none => none
        | some v16 =>
        match i_LeaderOf (v13.1, ()) with
        | none => none
        | some v17 =>
        match (v16.2.2.2.1 == (0 : Int)) with
        | true =>
         match (decide (v16.2.2.1 ≤ (1 : Int))) with
         | true =>
          match (v17.2.2.2.1 != (0 : Int)) with
          | true =>
           some (true, ())
          | false =>
           some ((((v13.2.1.length : Int) == (1 : Int)) == (v17.2.2.1 == (0 : Int))), ())
         | false =>
          some (false, ())
        | false =>
         some (false, ())
     | some (.inr v14) =>
      some (v14.1, ())
noncomputable def S_l_FnTwoStarters : Spec := ⟨(.pair (.list (.int .u8)) .unit), (.pair .bool .unit), .unit, rfl, l_FnTwoStarters⟩
noncomputable def σ_l_FnTwoStarters : FuncId → Option Spec := sig [(20, S_s_WithoutStarter), (22, S_i_WithoutStarter), (26, S_l_big), (28, S_i_LeaderOf), (34, S_s_DrawFirstStart), (35, S_i_FirstStart), (36, S_s_FirstStart), (37, S_s_DrawWithoutStarter), (38, S_l_likeInts)]
theorem σok_l_FnTwoStarters : ∀ f s, σ_l_FnTwoStarters f = some s → FnOK Try.prog f s := sig_ok (l := [(20, S_s_WithoutStarter), (22, S_i_WithoutStarter), (26, S_l_big), (28, S_i_LeaderOf), (34, S_s_DrawFirstStart), (35, S_i_FirstStart), (36, S_s_FirstStart), (37, S_s_DrawWithoutStarter), (38, S_l_likeInts)]) ⟨ok_s_WithoutStarter, ok_i_WithoutStarter, ok_l_big, ok_i_LeaderOf, ok_s_DrawFirstStart, ok_i_FirstStart, ok_s_FirstStart, ok_s_DrawWithoutStarter, ok_l_likeInts, trivial⟩
noncomputable def Λ_l_FnTwoStarters : Nat → Option LSpec := lkp (loopList (bodyOf Try.f6)) [⟨[3, 4, 5, 10, 12, 14], (.pair (.own 47 TStarter) (.pair (.own 2 (.int .i64)) (.pair (.int .i64) (.pair (.own 47 TStarter) (.pair (.own 47 TStarter) (.pair (.int .i64) .unit)))))), 0, [3, 4, 5], (.pair (.own 47 TStarter) (.pair (.own 2 (.int .i64)) (.pair (.int .i64) .unit))), [2], (.pair .bool .unit), loopL b_l_FnTwoStarters_12⟩]
theorem lok_l_FnTwoStarters_12 (x) : codeK Γ0 E0 σ_l_FnTwoStarters Λ_l_FnTwoStarters Try.f6.ntmps (nthLoop Try.f6 0) (mkF Try.f6.ntmps [3, 4, 5, 10, 12, 14] (.pair (.own 47 TStarter) (.pair (.own 2 (.int .i64)) (.pair (.int .i64) (.pair (.own 47 TStarter) (.pair (.own 47 TStarter) (.pair (.int .i64) .unit)))))) x) (readK σ_l_FnTwoStarters Try.f6.ntmps [3, 4, 5, 10, 12, 14] (.pair (.own 47 TStarter) (.pair (.own 2 (.int .i64)) (.pair (.int .i64) (.pair (.own 47 TStarter) (.pair (.own 47 TStarter) (.pair (.int .i64) .unit)))))) 0 [3, 4, 5] (.pair (.own 47 TStarter) (.pair (.own 2 (.int .i64)) (.pair (.int .i64) .unit))) [2] (.pair .bool .unit)) = b_l_FnTwoStarters_12 x := by kernel_rfl
theorem ok_l_FnTwoStarters : FnOK Try.prog 6 S_l_FnTwoStarters := fn_ok (Λ := Λ_l_FnTwoStarters) tab0 σok_l_FnTwoStarters Try.func6 (by kernel_rfl) (show Try.f6.body = some (bodyOf Try.f6) by kernel_rfl) [⟨[3, 4, 5, 10, 12, 14], (.pair (.own 47 TStarter) (.pair (.own 2 (.int .i64)) (.pair (.int .i64) (.pair (.own 47 TStarter) (.pair (.own 47 TStarter) (.pair (.int .i64) .unit)))))), 0, [3, 4, 5], (.pair (.own 47 TStarter) (.pair (.own 2 (.int .i64)) (.pair (.int .i64) .unit))), [2], (.pair .bool .unit), loopL b_l_FnTwoStarters_12⟩] rfl (by kernel_rfl) (by exact ⟨loop_LOK (lok_l_FnTwoStarters_12), trivial⟩) (by kernel_rfl)
  fun x y h => (show execFn Γ0 E0 σ_l_FnTwoStarters Λ_l_FnTwoStarters Try.f6 S_l_FnTwoStarters x = l_FnTwoStarters x by kernel_rfl).trans h

noncomputable def s_DrawJoinTimes (x : Ty.T (.pair (.list (.int .u8)) .unit)) : Option (Ty.T (.pair (.own 47 TStarter) (.pair (.int .i64) .unit))) :=
match s_l01From (x.1, ()) with
| none => none
| some v1 =>
match s_l31Draw ((v1.1.1, v1.1.2.1, v1.1.2.2.1, ()), ()) with
| none => none
| some v2 =>
match s_l01Next ((v2.2.1.1, v2.2.1.2.1, v2.2.1.2.2.1, ()), (9 : Int), ()) with
| none => none
| some v3 =>
match s_l01Next ((v3.2.1.1, v3.2.1.2.1, v3.2.1.2.2.1, ()), (9 : Int), ()) with
| none => none
| some v4 =>
same (
 match s_l01Next ((v4.2.1.1, v4.2.1.2.1, v4.2.1.2.2.1, ()), (5 : Int), ()) with
 | none => none
 | some v5 =>
 onSome (idx [(IntKind.i64.wrap ((1 : Int) + v3.1)), (IntKind.i64.wrap ((1 : Int) + v4.1)), (0 : Int), (100000 : Int), (100001 : Int)] v5.1) fun _ =>
 match [(IntKind.i64.wrap ((1 : Int) + v3.1)), (IntKind.i64.wrap ((1 : Int) + v4.1)), (0 : Int), (100000 : Int), (100001 : Int)][v5.1.toNat]? with
 | none => none
 | some v7 =>
 some (v2.1, v7, ()))
noncomputable def S_s_DrawJoinTimes : Spec := ⟨(.pair (.list (.int .u8)) .unit), (.pair (.own 47 TStarter) (.pair (.int .i64) .unit)), .unit, rfl, s_DrawJoinTimes⟩
noncomputable def σ_s_DrawJoinTimes : FuncId → Option Spec := sig [(83, S_s_l31Draw), (84, S_s_l01From), (96, S_s_l01Next)]
theorem σok_s_DrawJoinTimes : ∀ f s, σ_s_DrawJoinTimes f = some s → FnOK Try.prog f s := sig_ok (l := [(83, S_s_l31Draw), (84, S_s_l01From), (96, S_s_l01Next)]) ⟨ok_s_l31Draw, ok_s_l01From, ok_s_l01Next, trivial⟩
noncomputable def Λ_s_DrawJoinTimes : Nat → Option LSpec := lkp (loopList (bodyOf Try.f39)) []
theorem ok_s_DrawJoinTimes : FnOK Try.prog 39 S_s_DrawJoinTimes := fn_ok (Λ := Λ_s_DrawJoinTimes) tab0 σok_s_DrawJoinTimes Try.func39 (by kernel_rfl) (show Try.f39.body = some (bodyOf Try.f39) by kernel_rfl) [] rfl (by kernel_rfl) (by exact trivial) (by kernel_rfl)
  fun x y h => (show execFn Γ0 E0 σ_s_DrawJoinTimes Λ_s_DrawJoinTimes Try.f39 S_s_DrawJoinTimes x = s_DrawJoinTimes x by kernel_rfl).trans h

noncomputable def b_s_JoinTimes_10 (x : (Ty.T (.pair (.list TStarter) (.pair (.int .i64) (.pair (.int .i64) (.pair (.int .i64) (.pair (.own 2 (.int .i64)) (.pair (.int .i64) .unit)))))))) : Option ((Ty.T (.pair (.list TStarter) (.pair (.int .i64) (.pair (.int .i64) (.pair (.int .i64) (.pair (.own 2 (.int .i64)) (.pair (.int .i64) .unit))))))) ⊕ ((Ty.T (.pair (.own 2 (.int .i64)) .unit)) ⊕ (Ty.T .unit))) :=
match (decide (x.2.2.2.2.2.1 < (x.1.length : Int))) with
| true =>
 match (x.2.2.2.2.2.1 == x.2.2.1) with
 | true =>
  room (x.2.2.2.2.1.length + [x.2.2.2.1].length) (
   some (.inl (x.1, x.2.1, x.2.2.1, x.2.2.2.1, (x.2.2.2.2.1 ++ [x.2.2.2.1]), (IntKind.i64.wrap (x.2.2.2.2.2.1 + (1 : Int))), ())))
 | false =>
  onSome (idx x.1 x.2.2.2.2.2.1) fun v4 =>
  match (decide (v4.2.1 ≤ x.2.2.2.1)) with
  | true =>
   room (x.2.2.2.2.1.length + [(IntKind.i64.wrap (x.2.2.2.1 + x.2.1))].length) (
    some (.inl (x.1, x.2.1, x.2.2.1, x.2.2.2.1, (x.2.2.2.2.1 ++ [(IntKind.i64.wrap (x.2.2.2.1 + x.2.1))]), (IntKind.i64.wrap (x.2.2.2.2.2.1 + (1 : Int))), ())))
  | false =>
   onSome (idx x.1 x.2.2.2.2.2.1) fun v5 =>
   if x.2.1 = 0 then none else
   room (x.2.2.2.2.1.length + [(IntKind.i64.wrap (x.2.2.2.1 + (IntKind.i64.wrap ((IntKind.i64.wrap ((IntKind.i64.wrap (Int.tdiv (IntKind.i64.wrap ((IntKind.i64.wrap ((IntKind.i64.wrap (v5.2.1 - x.2.2.2.1)) + x.2.1)) - (1 : Int))) x.2.1)) + (1 : Int))) * x.2.1))))].length) (
    some (.inl (x.1, x.2.1, x.2.2.1, x.2.2.2.1, (x.2.2.2.2.1 ++ [(IntKind.i64.wrap (x.2.2.2.1 + (IntKind.i64.wrap ((IntKind.i64.wrap ((IntKind.i64.wrap (Int.tdiv (IntKind.i64.wrap ((IntKind.i64.wrap ((IntKind.i64.wrap (v5.2.1 - x.2.2.2.1)) + x.2.1)) - (1 : Int))) x.2.1)) + (1 : Int))) * x.2.1))))]), (IntKind.i64.wrap (x.2.2.2.2.2.1 + (1 : Int))), ())))
| false =>
 some (.inr (.inl (x.2.2.2.2.1, ())))
noncomputable def s_JoinTimes (x : Ty.T (.pair (.list TStarter) (.pair (.int .i64) .unit))) : Option (Ty.T (.pair (.own 2 (.int .i64)) (.pair (.int .i64) .unit))) :=
match s_AreStarters (x.1, ()) with
| none => none
| some v1 =>
match (!v1.1) with
| true =>
 some ([], (1 : Int), ())
| false =>
 match s_l01In (x.2.1, (1 : Int), (100000 : Int), ()) with
 | none => none
 | some v2 =>
 match (!v2.1) with
 | true =>
  some ([], (2 : Int), ())
 | false =>
  match s_l31Leader (x.1, ()) with
  | none => none
  | some v3 =>
  match (decide (v3.1 < (0 : Int))) with
  | true =>
   some ([], (3 : Int), ())
  | false =>
   match loopL b_s_JoinTimes_10 (x.1, x.2.1, v3.1, v3.2.1, [], (0 : Int), ()) with
   | none => none
   | some (.inl v6) =>
    some (v6.1, (0 : Int), ())
   | some (.inr v8) =>
    none
noncomputable def S_s_JoinTimes : Spec := ⟨(.pair (.list TStarter) (.pair (.int .i64) .unit)), (.pair (.own 2 (.int .i64)) (.pair (.int .i64) .unit)), .unit, rfl, s_JoinTimes⟩
noncomputable def σ_s_JoinTimes : FuncId → Option Spec := sig [(31, S_s_AreStarters), (73, S_s_l01In), (86, S_s_l31Leader)]
theorem σok_s_JoinTimes : ∀ f s, σ_s_JoinTimes f = some s → FnOK Try.prog f s := sig_ok (l := [(31, S_s_AreStarters), (73, S_s_l01In), (86, S_s_l31Leader)]) ⟨ok_s_AreStarters, ok_s_l01In, ok_s_l31Leader, trivial⟩
noncomputable def Λ_s_JoinTimes : Nat → Option LSpec := lkp (loopList (bodyOf Try.f40)) [⟨[0, 1, 6, 7, 9, 10], (.pair (.list TStarter) (.pair (.int .i64) (.pair (.int .i64) (.pair (.int .i64) (.pair (.own 2 (.int .i64)) (.pair (.int .i64) .unit)))))), 0, [9], (.pair (.own 2 (.int .i64)) .unit), [], .unit, loopL b_s_JoinTimes_10⟩]
theorem lok_s_JoinTimes_10 (x) : codeK Γ0 E0 σ_s_JoinTimes Λ_s_JoinTimes Try.f40.ntmps (nthLoop Try.f40 0) (mkF Try.f40.ntmps [0, 1, 6, 7, 9, 10] (.pair (.list TStarter) (.pair (.int .i64) (.pair (.int .i64) (.pair (.int .i64) (.pair (.own 2 (.int .i64)) (.pair (.int .i64) .unit)))))) x) (readK σ_s_JoinTimes Try.f40.ntmps [0, 1, 6, 7, 9, 10] (.pair (.list TStarter) (.pair (.int .i64) (.pair (.int .i64) (.pair (.int .i64) (.pair (.own 2 (.int .i64)) (.pair (.int .i64) .unit)))))) 0 [9] (.pair (.own 2 (.int .i64)) .unit) [] .unit) = b_s_JoinTimes_10 x := by kernel_rfl
theorem ok_s_JoinTimes : FnOK Try.prog 40 S_s_JoinTimes := fn_ok (Λ := Λ_s_JoinTimes) tab0 σok_s_JoinTimes Try.func40 (by kernel_rfl) (show Try.f40.body = some (bodyOf Try.f40) by kernel_rfl) [⟨[0, 1, 6, 7, 9, 10], (.pair (.list TStarter) (.pair (.int .i64) (.pair (.int .i64) (.pair (.int .i64) (.pair (.own 2 (.int .i64)) (.pair (.int .i64) .unit)))))), 0, [9], (.pair (.own 2 (.int .i64)) .unit), [], .unit, loopL b_s_JoinTimes_10⟩] rfl (by kernel_rfl) (by exact ⟨loop_LOK (lok_s_JoinTimes_10), trivial⟩) (by kernel_rfl)
  fun x y h => (show execFn Γ0 E0 σ_s_JoinTimes Λ_s_JoinTimes Try.f40 S_s_JoinTimes x = s_JoinTimes x by kernel_rfl).trans h

noncomputable def s_DrawDueTimes (x : Ty.T (.pair (.list (.int .u8)) .unit)) : Option (Ty.T (.pair (.own 47 TStarter) (.pair (.int .i64) .unit))) :=
match s_l01From (x.1, ()) with
| none => none
| some v1 =>
match s_l31Draw ((v1.1.1, v1.1.2.1, v1.1.2.2.1, ()), ()) with
| none => none
| some v2 =>
match s_l01Next ((v2.2.1.1, v2.2.1.2.1, v2.2.1.2.2.1, ()), (4 : Int), ()) with
| none => none
| some v3 =>
match s_l01Next ((v3.2.1.1, v3.2.1.2.1, v3.2.1.2.2.1, ()), (4 : Int), ()) with
| none => none
| some v4 =>
same (
 match s_l01Next ((v4.2.1.1, v4.2.1.2.1, v4.2.1.2.2.1, ()), (5 : Int), ()) with
 | none => none
 | some v5 =>
 onSome (idx [v3.1, v4.1, (50 : Int), (51 : Int), (-1 : Int)] v5.1) fun _ =>
 match [v3.1, v4.1, (50 : Int), (51 : Int), (-1 : Int)][v5.1.toNat]? with
 | none => none
 | some v7 =>
 some (v2.1, v7, ()))
noncomputable def S_s_DrawDueTimes : Spec := ⟨(.pair (.list (.int .u8)) .unit), (.pair (.own 47 TStarter) (.pair (.int .i64) .unit)), .unit, rfl, s_DrawDueTimes⟩
noncomputable def σ_s_DrawDueTimes : FuncId → Option Spec := sig [(83, S_s_l31Draw), (84, S_s_l01From), (96, S_s_l01Next)]
theorem σok_s_DrawDueTimes : ∀ f s, σ_s_DrawDueTimes f = some s → FnOK Try.prog f s := sig_ok (l := [(83, S_s_l31Draw), (84, S_s_l01From), (96, S_s_l01Next)]) ⟨ok_s_l31Draw, ok_s_l01From, ok_s_l01Next, trivial⟩
noncomputable def Λ_s_DrawDueTimes : Nat → Option LSpec := lkp (loopList (bodyOf Try.f41)) []
theorem ok_s_DrawDueTimes : FnOK Try.prog 41 S_s_DrawDueTimes := fn_ok (Λ := Λ_s_DrawDueTimes) tab0 σok_s_DrawDueTimes Try.func41 (by kernel_rfl) (show Try.f41.body = some (bodyOf Try.f41) by kernel_rfl) [] rfl (by kernel_rfl) (by exact trivial) (by kernel_rfl)
  fun x y h => (show execFn Γ0 E0 σ_s_DrawDueTimes Λ_s_DrawDueTimes Try.f41 S_s_DrawDueTimes x = s_DrawDueTimes x by kernel_rfl).trans h

noncomputable def b_s_DueTimes_6 (x : (Ty.T (.pair (.list TStarter) (.pair (.int .i64) (.pair (.own 2 (.int .i64)) .unit))))) : Option ((Ty.T (.pair (.list TStarter) (.pair (.int .i64) (.pair (.own 2 (.int .i64)) .unit)))) ⊕ ((Ty.T (.pair (.own 2 (.int .i64)) .unit)) ⊕ (Ty.T (.pair (.own 2 (.int .i64)) (.pair (.int .i64) .unit))))) :=
match (decide (x.2.1 > (0 : Int))) with
| true =>
 match s_l31First (x.2.2.1, ()) with
 | none => none
 | some v4 =>
 match ((v4.1.length : Int) == (1 : Int)) with
 | true =>
  some (.inr (.inr ([], (4 : Int), ())))
 | false =>
  match s_l31Collide (x.1, x.2.2.1, ()) with
  | none => none
  | some v5 =>
  some (.inl (x.1, (IntKind.i64.wrap (x.2.1 - (1 : Int))), v5.1, ()))
| false =>
 some (.inr (.inl (x.2.2.1, ())))
noncomputable def s_DueTimes (x : Ty.T (.pair (.list TStarter) (.pair (.int .i64) .unit))) : Option (Ty.T (.pair (.own 2 (.int .i64)) (.pair (.int .i64) .unit))) :=
match s_AreStarters (x.1, ()) with
| none => none
| some v1 =>
match (!v1.1) with
| true =>
 some ([], (1 : Int), ())
| false =>
 match s_l01In (x.2.1, (0 : Int), (50 : Int), ()) with
 | none => none
 | some v2 =>
 match (!v2.1) with
 | true =>
  some ([], (2 : Int), ())
 | false =>
  match s_l31Due (x.1, ()) with
  | none => none
  | some v3 =>
  match loopL b_s_DueTimes_6 (x.1, x.2.1, v3.1, ()) with
  | none => none
  | some (.inl v6) =>
   some (v6.1, (0 : Int), ())
  | some (.inr v7) =>
   some (v7.1, v7.2.1, ())
noncomputable def S_s_DueTimes : Spec := ⟨(.pair (.list TStarter) (.pair (.int .i64) .unit)), (.pair (.own 2 (.int .i64)) (.pair (.int .i64) .unit)), .unit, rfl, s_DueTimes⟩
noncomputable def σ_s_DueTimes : FuncId → Option Spec := sig [(31, S_s_AreStarters), (73, S_s_l01In), (94, S_s_l31First), (95, S_s_l31Due), (97, S_s_l31Collide)]
theorem σok_s_DueTimes : ∀ f s, σ_s_DueTimes f = some s → FnOK Try.prog f s := sig_ok (l := [(31, S_s_AreStarters), (73, S_s_l01In), (94, S_s_l31First), (95, S_s_l31Due), (97, S_s_l31Collide)]) ⟨ok_s_AreStarters, ok_s_l01In, ok_s_l31First, ok_s_l31Due, ok_s_l31Collide, trivial⟩
noncomputable def Λ_s_DueTimes : Nat → Option LSpec := lkp (loopList (bodyOf Try.f42)) [⟨[0, 1, 6], (.pair (.list TStarter) (.pair (.int .i64) (.pair (.own 2 (.int .i64)) .unit))), 0, [6], (.pair (.own 2 (.int .i64)) .unit), [4, 5], (.pair (.own 2 (.int .i64)) (.pair (.int .i64) .unit)), loopL b_s_DueTimes_6⟩]
theorem lok_s_DueTimes_6 (x) : codeK Γ0 E0 σ_s_DueTimes Λ_s_DueTimes Try.f42.ntmps (nthLoop Try.f42 0) (mkF Try.f42.ntmps [0, 1, 6] (.pair (.list TStarter) (.pair (.int .i64) (.pair (.own 2 (.int .i64)) .unit))) x) (readK σ_s_DueTimes Try.f42.ntmps [0, 1, 6] (.pair (.list TStarter) (.pair (.int .i64) (.pair (.own 2 (.int .i64)) .unit))) 0 [6] (.pair (.own 2 (.int .i64)) .unit) [4, 5] (.pair (.own 2 (.int .i64)) (.pair (.int .i64) .unit))) = b_s_DueTimes_6 x := by kernel_rfl
theorem ok_s_DueTimes : FnOK Try.prog 42 S_s_DueTimes := fn_ok (Λ := Λ_s_DueTimes) tab0 σok_s_DueTimes Try.func42 (by kernel_rfl) (show Try.f42.body = some (bodyOf Try.f42) by kernel_rfl) [⟨[0, 1, 6], (.pair (.list TStarter) (.pair (.int .i64) (.pair (.own 2 (.int .i64)) .unit))), 0, [6], (.pair (.own 2 (.int .i64)) .unit), [4, 5], (.pair (.own 2 (.int .i64)) (.pair (.int .i64) .unit)), loopL b_s_DueTimes_6⟩] rfl (by kernel_rfl) (by exact ⟨loop_LOK (lok_s_DueTimes_6), trivial⟩) (by kernel_rfl)
  fun x y h => (show execFn Γ0 E0 σ_s_DueTimes Λ_s_DueTimes Try.f42 S_s_DueTimes x = s_DueTimes x by kernel_rfl).trans h

noncomputable def b_l_FnJoined_15 (x : (Ty.T (.pair (.own 47 TStarter) (.pair (.int .i64) (.pair (.own 2 (.int .i64)) (.pair (.int .i64) (.pair (.int .i64) (.pair (.int .i64) .unit)))))))) : Option ((Ty.T (.pair (.own 47 TStarter) (.pair (.int .i64) (.pair (.own 2 (.int .i64)) (.pair (.int .i64) (.pair (.int .i64) (.pair (.int .i64) .unit))))))) ⊕ ((Ty.T (.pair (.int .i64) .unit)) ⊕ (Ty.T (.pair .bool .unit)))) :=
match (decide (x.2.2.2.2.2.1 < (x.2.2.1.length : Int))) with
| true =>
 onSome (idx x.2.2.1 x.2.2.2.2.2.1) fun _ =>
 match x.2.2.1[x.2.2.2.2.2.1.toNat]? with
 | none => none
 | some v12 =>
 if x.2.1 = 0 then none else
 match ((Int.tmod (IntKind.i64.wrap (v12 - x.2.2.2.1)) x.2.1) != (0 : Int)) with
 | true =>
  some (.inr (.inr (false, ())))
 | false =>
  onSome (idx x.2.2.1 x.2.2.2.2.2.1) fun _ =>
  match x.2.2.1[x.2.2.2.2.2.1.toNat]? with
  | none => none
  | some v14 =>
  onSome (idx x.1 x.2.2.2.2.2.1) fun _ =>
  match x.1[x.2.2.2.2.2.1.toNat]? with
  | none => none
  | some v16 =>
  match (decide (v14 < v16.2.1)) with
  | true =>
   some (.inr (.inr (false, ())))
  | false =>
   some (.inl (x.1, x.2.1, x.2.2.1, x.2.2.2.1, x.2.2.2.2.1, (IntKind.i64.wrap (x.2.2.2.2.2.1 + (1 : Int))), ()))
| false =>
 some (.inr (.inl (x.2.2.2.2.1, ())))
noncomputable def l_FnJoined (x : Ty.T (.pair (.list (.int .u8)) .unit)) : Option (Ty.T (.pair .bool .unit)) :=
match l_big (x.1, ()) with
| none => none
| some v1 =>
match v1.1 with
| true =>
 some (true, ())
| false =>
 match s_DrawJoinTimes (x.1, ()) with
 | none => none
 | some v2 =>
 match i_JoinTimes (v2.1, v2.2.1, ()) with
 | none => none
 | some v3 =>
 match s_JoinTimes (v2.1, v2.2.1, ()) with
 | none => none
 | some v4 =>
 match s_DrawDueTimes (x.1, ()) with
 | none => none
 | some v5 =>
 match i_DueTimes (v5.1, v5.2.1, ()) with
 | none => none
 | some v6 =>
 match s_DueTimes (v5.1, v5.2.1, ()) with
 | none => none
 | some v7 =>
 match (v3.2.1 != v4.2.1) with
 | true =>
  some (false, ())
 | false =>
  match l_likeInts (v3.1, v4.1, ()) with
  | none => none
  | some v8 =>
  match (!v8.1) with
  | true =>
   some (false, ())
  | false =>
   match (v6.2.1 != v7.2.1) with
   | true =>
    some (false, ())
   | false =>
    match l_likeInts (v6.1, v7.1, ()) with
    | none => none
    | some v9 =>
    match (!v9.1) with
    | true =>
     some (false, ())
    | false =>
     match (v3.2.1 != (0 : Int)) with
     | true =>
      some (true, ())
     | false =>
      match i_LeaderOf (v2.1, ()) with
      | none => none
      | some v10 =>
      match loopL b_l_FnJoined_15 (v2.1, v2.2.1, v3.1, v10.2.1, v10.2.2.2.1, (0 : Int), ()) with
      | none => none
      | some (.inl v17) =>
       some ((v17.1 == (0 : Int)), ())
      | some (.inr v18) =>
       some (v18.1, ())
noncomputable def S_l_FnJoined : Spec := ⟨(.pair (.list (.int .u8)) .unit), (.pair .bool .unit), .unit, rfl, l_FnJoined⟩
noncomputable def σ_l_FnJoined : FuncId → Option Spec := sig [(26, S_l_big), (28, S_i_LeaderOf), (32, S_i_DueTimes), (33, S_i_JoinTimes), (38, S_l_likeInts), (39, S_s_DrawJoinTimes), (40, S_s_JoinTimes), (41, S_s_DrawDueTimes), (42, S_s_DueTimes)]
theorem σok_l_FnJoined : ∀ f s, σ_l_FnJoined f = some s → FnOK Try.prog f s := sig_ok (l := [(26, S_l_big), (28, S_i_LeaderOf), (32, S_i_DueTimes), (33, S_i_JoinTimes), (38, S_l_likeInts), (39, S_s_DrawJoinTimes), (40, S_s_JoinTimes), (41, S_s_DrawDueTimes), (42, S_s_DueTimes)]) ⟨ok_l_big, ok_i_LeaderOf, ok_i_DueTimes, ok_i_JoinTimes, ok_l_likeInts, ok_s_DrawJoinTimes, ok_s_JoinTimes, ok_s_DrawDueTimes, ok_s_DueTimes, trivial⟩
noncomputable def Λ_l_FnJoined : Nat → Option LSpec := lkp (loopList (bodyOf Try.f7)) [⟨[3, 4, 5, 16, 18, 19], (.pair (.own 47 TStarter) (.pair (.int .i64) (.pair (.own 2 (.int .i64)) (.pair (.int .i64) (.pair (.int .i64) (.pair (.int .i64) .unit)))))), 0, [18], (.pair (.int .i64) .unit), [2], (.pair .bool .unit), loopL b_l_FnJoined_15⟩]
theorem lok_l_FnJoined_15 (x) : codeK Γ0 E0 σ_l_FnJoined Λ_l_FnJoined Try.f7.ntmps (nthLoop Try.f7 0) (mkF Try.f7.ntmps [3, 4, 5, 16, 18, 19] (.pair (.own 47 TStarter) (.pair (.int .i64) (.pair (.own 2 (.int .i64)) (.pair (.int .i64) (.pair (.int .i64) (.pair (.int .i64) .unit)))))) x) (readK σ_l_FnJoined Try.f7.ntmps [3, 4, 5, 16, 18, 19] (.pair (.own 47 TStarter) (.pair (.int .i64) (.pair (.own 2 (.int .i64)) (.pair (.int .i64) (.pair (.int .i64) (.pair (.int .i64) .unit)))))) 0 [18] (.pair (.int .i64) .unit) [2] (.pair .bool .unit)) = b_l_FnJoined_15 x := by kernel_rfl
theorem ok_l_FnJoined : FnOK Try.prog 7 S_l_FnJoined := fn_ok (Λ := Λ_l_FnJoined) tab0 σok_l_FnJoined Try.func7 (by kernel_rfl) (show Try.f7.body = some (bodyOf Try.f7) by kernel_rfl) [⟨[3, 4, 5, 16, 18, 19], (.pair (.own 47 TStarter) (.pair (.int .i64) (.pair (.own 2 (.int .i64)) (.pair (.int .i64) (.pair (.int .i64) (.pair (.int .i64) .unit)))))), 0, [18], (.pair (.int .i64) .unit), [2], (.pair .bool .unit), loopL b_l_FnJoined_15⟩] rfl (by kernel_rfl) (by exact ⟨loop_LOK (lok_l_FnJoined_15), trivial⟩) (by kernel_rfl)
  fun x y h => (show execFn Γ0 E0 σ_l_FnJoined Λ_l_FnJoined Try.f7 S_l_FnJoined x = l_FnJoined x by kernel_rfl).trans h

noncomputable def s_l06State (x : Ty.T (.pair (.int .i64) .unit)) : Option (Ty.T (.pair .bool .unit)) :=
some ((x.1 != (0 : Int)), ())
noncomputable def S_s_l06State : Spec := ⟨(.pair (.int .i64) .unit), (.pair .bool .unit), .unit, rfl, s_l06State⟩
noncomputable def σ_s_l06State : FuncId → Option Spec := sig []
theorem σok_s_l06State : ∀ f s, σ_s_l06State f = some s → FnOK Try.prog f s := sig_ok (l := []) trivial
noncomputable def Λ_s_l06State : Nat → Option LSpec := lkp (loopList (bodyOf Try.f158)) []
theorem ok_s_l06State : FnOK Try.prog 158 S_s_l06State := fn_ok (Λ := Λ_s_l06State) tab0 σok_s_l06State Try.func158 (by kernel_rfl) (show Try.f158.body = some (bodyOf Try.f158) by kernel_rfl) [] rfl (by kernel_rfl) (by exact trivial) (by kernel_rfl)
  fun x y h => (show execFn Γ0 E0 σ_s_l06State Λ_s_l06State Try.f158 S_s_l06State x = s_l06State x by kernel_rfl).trans h

noncomputable def s_l04Draw (x : Ty.T (.pair (.box Tl01Source) .unit)) : Option (Ty.T (.pair TState (.pair (.box Tl01Source) .unit))) :=
match s_l01Next ((x.1.1, x.1.2.1, x.1.2.2.1, ()), (200 : Int), ()) with
| none => none
| some v1 =>
match s_l01Next ((v1.2.1.1, v1.2.1.2.1, v1.2.1.2.2.1, ()), (3 : Int), ()) with
| none => none
| some v2 =>
match s_l01Next ((v2.2.1.1, v2.2.1.2.1, v2.2.1.2.2.1, ()), (3 : Int), ()) with
| none => none
| some v3 =>
match s_l01Next ((v3.2.1.1, v3.2.1.2.1, v3.2.1.2.2.1, ()), (6 : Int), ()) with
| none => none
| some v4 =>
match s_l01Next ((v4.2.1.1, v4.2.1.2.1, v4.2.1.2.2.1, ()), (256 : Int), ()) with
| none => none
| some v5 =>
match s_l01Next ((v5.2.1.1, v5.2.1.2.1, v5.2.1.2.2.1, ()), (8 : Int), ()) with
| none => none
| some v6 =>
match (v6.1 == (0 : Int)) with
| true =>
 match s_l01Next ((v6.2.1.1, v6.2.1.2.1, v6.2.1.2.2.1, ()), (9 : Int), ()) with
 | none => none
 | some v7 =>
 match s_l01Next ((v7.2.1.1, v7.2.1.2.1, v7.2.1.2.2.1, ()), (16 : Int), ()) with
 | none => none
 | some v8 =>
 match s_l01Next ((v8.2.1.1, v8.2.1.2.1, v8.2.1.2.2.1, ()), (16 : Int), ()) with
 | none => none
 | some v9 =>
 match s_l01Next ((v9.2.1.1, v9.2.1.2.1, v9.2.1.2.2.1, ()), (256 : Int), ()) with
 | none => none
 | some v10 =>
 match s_l01Next ((v10.2.1.1, v10.2.1.2.1, v10.2.1.2.2.1, ()), (99 : Int), ()) with
 | none => none
 | some v11 =>
 some (((IntKind.i64.wrap ((65535 : Int) - v7.1)), v8.1, v9.1, v10.1, (IntKind.i64.wrap ((4294967295 : Int) - v11.1)), ()), (v11.2.1.1, v11.2.1.2.1, v11.2.1.2.2.1, ()), ())
| false =>
 some ((v1.1, v2.1, v3.1, v4.1, v5.1, ()), (v6.2.1.1, v6.2.1.2.1, v6.2.1.2.2.1, ()), ())
noncomputable def S_s_l04Draw : Spec := ⟨(.pair (.box Tl01Source) .unit), (.pair TState .unit), (.pair (.box Tl01Source) .unit), rfl, s_l04Draw⟩
noncomputable def σ_s_l04Draw : FuncId → Option Spec := sig [(96, S_s_l01Next)]
theorem σok_s_l04Draw : ∀ f s, σ_s_l04Draw f = some s → FnOK Try.prog f s := sig_ok (l := [(96, S_s_l01Next)]) ⟨ok_s_l01Next, trivial⟩
noncomputable def Λ_s_l04Draw : Nat → Option LSpec := lkp (loopList (bodyOf Try.f159)) []
theorem ok_s_l04Draw : FnOK Try.prog 159 S_s_l04Draw := fn_ok (Λ := Λ_s_l04Draw) tab0 σok_s_l04Draw Try.func159 (by kernel_rfl) (show Try.f159.body = some (bodyOf Try.f159) by kernel_rfl) [] rfl (by kernel_rfl) (by exact trivial) (by kernel_rfl)
  fun x y h => (show execFn Γ0 E0 σ_s_l04Draw Λ_s_l04Draw Try.f159 S_s_l04Draw x = s_l04Draw x by kernel_rfl).trans h

noncomputable def s_l06Data (x : Ty.T (.pair (.int .i64) .unit)) : Option (Ty.T (.pair .bool .unit)) :=
match (x.1 == (0 : Int)) with
| true =>
 some (true, ())
| false =>
 some ((x.1 == (2 : Int)), ())
noncomputable def S_s_l06Data : Spec := ⟨(.pair (.int .i64) .unit), (.pair .bool .unit), .unit, rfl, s_l06Data⟩
noncomputable def σ_s_l06Data : FuncId → Option Spec := sig []
theorem σok_s_l06Data : ∀ f s, σ_s_l06Data f = some s → FnOK Try.prog f s := sig_ok (l := []) trivial
noncomputable def Λ_s_l06Data : Nat → Option LSpec := lkp (loopList (bodyOf Try.f160)) []
theorem ok_s_l06Data : FnOK Try.prog 160 S_s_l06Data := fn_ok (Λ := Λ_s_l06Data) tab0 σok_s_l06Data Try.func160 (by kernel_rfl) (show Try.f160.body = some (bodyOf Try.f160) by kernel_rfl) [] rfl (by kernel_rfl) (by exact trivial) (by kernel_rfl)
  fun x y h => (show execFn Γ0 E0 σ_s_l06Data Λ_s_l06Data Try.f160 S_s_l06Data x = s_l06Data x by kernel_rfl).trans h

noncomputable def b_s_l06Draw_7 (x : (Ty.T (.pair (.box Tl01Source) (.pair (.box TFrame) (.pair (.box TFrame) (.pair (.own 2 (.int .i64)) (.pair (.int .i64) .unit))))))) : Option ((Ty.T (.pair (.box Tl01Source) (.pair (.box TFrame) (.pair (.box TFrame) (.pair (.own 2 (.int .i64)) (.pair (.int .i64) .unit)))))) ⊕ ((Ty.T (.pair (.box Tl01Source) (.pair (.box TFrame) (.pair (.box TFrame) (.pair (.own 2 (.int .i64)) .unit))))) ⊕ (Ty.T .unit))) :=
match (decide (x.2.2.2.2.1 > (0 : Int))) with
| true =>
 match s_l01Next ((x.1.1, x.1.2.1, x.1.2.2.1, ()), (256 : Int), ()) with
 | none => none
 | some v7 =>
 room (x.2.2.2.1.length + [v7.1].length) (
  some (.inl ((v7.2.1.1, v7.2.1.2.1, v7.2.1.2.2.1, ()), (x.2.1.1, x.2.1.2.1, (x.2.1.2.2.1.1, x.2.1.2.2.1.2.1, x.2.1.2.2.1.2.2.1, x.2.1.2.2.1.2.2.2.1, x.2.1.2.2.1.2.2.2.2.1, ()), x.2.1.2.2.2.1, ()), (x.2.2.1.1, x.2.2.1.2.1, (x.2.2.1.2.2.1.1, x.2.2.1.2.2.1.2.1, x.2.2.1.2.2.1.2.2.1, x.2.2.1.2.2.1.2.2.2.1, x.2.2.1.2.2.1.2.2.2.2.1, ()), x.2.2.1.2.2.2.1, ()), (x.2.2.2.1 ++ [v7.1]), (IntKind.i64.wrap (x.2.2.2.2.1 - (1 : Int))), ())))
| false =>
 some (.inr (.inl ((x.1.1, x.1.2.1, x.1.2.2.1, ()), (x.2.1.1, x.2.1.2.1, (x.2.1.2.2.1.1, x.2.1.2.2.1.2.1, x.2.1.2.2.1.2.2.1, x.2.1.2.2.1.2.2.2.1, x.2.1.2.2.1.2.2.2.2.1, ()), x.2.1.2.2.2.1, ()), (x.2.2.1.1, x.2.2.1.2.1, (x.2.2.1.2.2.1.1, x.2.2.1.2.2.1.2.1, x.2.2.1.2.2.1.2.2.1, x.2.2.1.2.2.1.2.2.2.1, x.2.2.1.2.2.1.2.2.2.2.1, ()), x.2.2.1.2.2.2.1, ()), x.2.2.2.1, ())))
noncomputable def s_l06Draw (x : Ty.T (.pair (.box Tl01Source) .unit)) : Option (Ty.T (.pair TFrame (.pair (.box Tl01Source) .unit))) :=
match s_l01Next ((x.1.1, x.1.2.1, x.1.2.2.1, ()), (4 : Int), ()) with
| none => none
| some v1 =>
match s_l01Next ((v1.2.1.1, v1.2.1.2.1, v1.2.1.2.2.1, ()), (8 : Int), ()) with
| none => none
| some v2 =>
match s_l06State (v1.1, ()) with
| none => none
| some v3 =>
match v3.1 with
| true =>
 match s_l04Draw ((v2.2.1.1, v2.2.1.2.1, v2.2.1.2.2.1, ()), ()) with
 | none => none
 | some v4 =>
 match s_l06Data (v1.1, ()) with
 | none => none
 | some v5 =>
 match v5.1 with
 | true =>
  match s_l01Next ((v4.2.1.1, v4.2.1.2.1, v4.2.1.2.2.1, ()), (6 : Int), ()) with
  | none => none
  | some v6 =>
  match loopL b_s_l06Draw_7 ((v6.2.1.1, v6.2.1.2.1, v6.2.1.2.2.1, ()), ((0 : Int), (0 : Int), ((0 : Int), (0 : Int), (0 : Int), (0 : Int), (0 : Int), ()), [], ()), (v1.1, v2.1, (v4.1.1, v4.1.2.1, v4.1.2.2.1, v4.1.2.2.2.1, v4.1.2.2.2.2.1, ()), [], ()), [], (IntKind.i64.wrap ((1 : Int) + v6.1)), ()) with
  | none => none
  | some (.inl v8) =>
   match (v8.2.2.1.1 == (3 : Int)) with
   | true =>
    match s_l01Next ((v8.1.1, v8.1.2.1, v8.1.2.2.1, ()), (10 : Int), ()) with
    | none => none
    | some v10 =>
    if (IntKind.u64.wrap v10.1) < 0 then none else
    some ((v8.2.2.1.1, (0 : Int), (v8.2.2.1.2.2.1.1, (0 : Int), v8.2.2.1.2.2.1.2.2.1, v8.2.2.1.2.2.1.2.2.2.1, (IntKind.i64.wrap ((1 : Int) * 2 ^ min (IntKind.u64.wrap v10.1).toNat IntKind.i64.bits)), ()), v8.2.2.2.1, ()), (v10.2.1.1, v10.2.1.2.1, v10.2.1.2.2.1, ()), ())
   | false =>
    some ((v8.2.2.1.1, v8.2.2.1.2.1, (v8.2.2.1.2.2.1.1, v8.2.2.1.2.2.1.2.1, v8.2.2.1.2.2.1.2.2.1, v8.2.2.1.2.2.1.2.2.2.1, v8.2.2.1.2.2.1.2.2.2.2.1, ()), v8.2.2.2.1, ()), (v8.1.1, v8.1.2.1, v8.1.2.2.1, ()), ())
  | some (.inr v11) =>
   none
 | false =>
  match (v1.1 == (3 : Int)) with
  | true =>
   match s_l01Next ((v4.2.1.1, v4.2.1.2.1, v4.2.1.2.2.1, ()), (10 : Int), ()) with
   | none => none
   | some v12 =>
   if (IntKind.u64.wrap v12.1) < 0 then none else
   some ((v1.1, (0 : Int), (v4.1.1, (0 : Int), v4.1.2.2.1, v4.1.2.2.2.1, (IntKind.i64.wrap ((1 : Int) * 2 ^ min (IntKind.u64.wrap v12.1).toNat IntKind.i64.bits)), ()), [], ()), (v12.2.1.1, v12.2.1.2.1, v12.2.1.2.2.1, ()), ())
  | false =>
   some ((v1.1, v2.1, (v4.1.1, v4.1.2.1, v4.1.2.2.1, v4.1.2.2.2.1, v4.1.2.2.2.2.1, ()), [], ()), (v4.2.1.1, v4.2.1.2.1, v4.2.1.2.2.1, ()), ())
| false =>
 match s_l06Data (v1.1, ()) with
 | none => none
 | some v13 =>
 match v13.1 with
 | true =>
  match s_l01Next ((v2.2.1.1, v2.2.1.2.1, v2.2.1.2.2.1, ()), (6 : Int), ()) with
  | none => none
  | some v14 =>
  match loopL b_s_l06Draw_7 ((v14.2.1.1, v14.2.1.2.1, v14.2.1.2.2.1, ()), ((0 : Int), (0 : Int), ((0 : Int), (0 : Int), (0 : Int), (0 : Int), (0 : Int), ()), [], ()), (v1.1, v2.1, ((0 : Int), (0 : Int), (0 : Int), (0 : Int), (0 : Int), ()), [], ()), [], (IntKind.i64.wrap ((1 : Int) + v14.1)), ()) with
  | none => none
  | some (.inl v15) =>
   match (v15.2.2.1.1 == (3 : Int)) with
   | true =>
    match s_l01Next ((v15.1.1, v15.1.2.1, v15.1.2.2.1, ()), (10 : Int), ()) with
    | none => none
    | some v17 =>
    if (IntKind.u64.wrap v17.1) < 0 then none else
    some ((v15.2.2.1.1, (0 : Int), (v15.2.2.1.2.2.1.1, (0 : Int), v15.2.2.1.2.2.1.2.2.1, v15.2.2.1.2.2.1.2.2.2.1, (IntKind.i64.wrap ((1 : Int) * 2 ^ min (IntKind.u64.wrap v17.1).toNat IntKind.i64.bits)), ()), v15.2.2.2.1, ()), (v17.2.1.1, v17.2.1.2.1, v17.2.1.2.2.1, ()), ())
   | false =>
    some ((v15.2.2.1.1, v15.2.2.1.2.1, (v15.2.2.1.2.2.1.1, v15.2.2.1.2.2.1.2.1, v15.2.2.1.2.2.1.2.2.1, v15.2.2.1.2.2.1.2.2.2.1, v15.2.2.1.2.2.1.2.2.2.2.1, ()), v15.2.2.2.1, ()), (v15.1.1, v15.1.2.1, v15.1.2.2.1, ()), ())
  | some (.inr v18) =>
   none
 | false =>
  match (v1.1 == (3 : Int)) with
  | true =>
   match s_l01Next ((v2.2.1.1, v2.2.1.2.1, v2.2.1.2.2.1, ()), (10 : Int), ()) with
   | none => none
   | some v19 =>
   if (IntKind.u64.wrap v19.1) < 0 then none else
   some ((v1.1, (0 : Int), ((0 : Int), (0 : Int), (0 : Int), (0 : Int), (IntKind.i64.wrap ((1 : Int) * 2 ^ min (IntKind.u64.wrap v19.1).toNat IntKind.i64.bits)), ()), [], ()), (v19.2.1.1, v19.2.1.2.1, v19.2.1.2.2.1, ()), ())
  | false =>
   some ((v1.1, v2.1, ((0 : Int), (0 : Int), (0 : Int), (0 : Int), (0 : Int), ()), [], ()), (v2.2.1.1, v2.2.1.2.1, v2.2.1.2.2.1, ()), ())
noncomputable def S_s_l06Draw : Spec := ⟨(.pair (.box Tl01Source) .unit), (.pair TFrame .unit), (.pair (.box Tl01Source) .unit), rfl, s_l06Draw⟩
noncomputable def σ_s_l06Draw : FuncId → Option Spec := sig [(96, S_s_l01Next), (158, S_s_l06State), (159, S_s_l04Draw), (160, S_s_l06Data)]
theorem σok_s_l06Draw : ∀ f s, σ_s_l06Draw f = some s → FnOK Try.prog f s := sig_ok (l := [(96, S_s_l01Next), (158, S_s_l06State), (159, S_s_l04Draw), (160, S_s_l06Data)]) ⟨ok_s_l01Next, ok_s_l06State, ok_s_l04Draw, ok_s_l06Data, trivial⟩
noncomputable def Λ_s_l06Draw : Nat → Option LSpec := lkp (loopList (bodyOf Try.f147)) [⟨[0, 2, 3, 4, 5], (.pair (.box Tl01Source) (.pair (.box TFrame) (.pair (.box TFrame) (.pair (.own 2 (.int .i64)) (.pair (.int .i64) .unit))))), 0, [0, 2, 3, 4], (.pair (.box Tl01Source) (.pair (.box TFrame) (.pair (.box TFrame) (.pair (.own 2 (.int .i64)) .unit)))), [], .unit, loopL b_s_l06Draw_7⟩]
theorem lok_s_l06Draw_7 (x) : codeK Γ0 E0 σ_s_l06Draw Λ_s_l06Draw Try.f147.ntmps (nthLoop Try.f147 0) (mkF Try.f147.ntmps [0, 2, 3, 4, 5] (.pair (.box Tl01Source) (.pair (.box TFrame) (.pair (.box TFrame) (.pair (.own 2 (.int .i64)) (.pair (.int .i64) .unit))))) x) (readK σ_s_l06Draw Try.f147.ntmps [0, 2, 3, 4, 5] (.pair (.box Tl01Source) (.pair (.box TFrame) (.pair (.box TFrame) (.pair (.own 2 (.int .i64)) (.pair (.int .i64) .unit))))) 0 [0, 2, 3, 4] (.pair (.box Tl01Source) (.pair (.box TFrame) (.pair (.box TFrame) (.pair (.own 2 (.int .i64)) .unit)))) [] .unit) = b_s_l06Draw_7 x := by kernel_rfl
theorem ok_s_l06Draw : FnOK Try.prog 147 S_s_l06Draw := fn_ok (Λ := Λ_s_l06Draw) tab0 σok_s_l06Draw Try.func147 (by kernel_rfl) (show Try.f147.body = some (bodyOf Try.f147) by kernel_rfl) [⟨[0, 2, 3, 4, 5], (.pair (.box Tl01Source) (.pair (.box TFrame) (.pair (.box TFrame) (.pair (.own 2 (.int .i64)) (.pair (.int .i64) .unit))))), 0, [0, 2, 3, 4], (.pair (.box Tl01Source) (.pair (.box TFrame) (.pair (.box TFrame) (.pair (.own 2 (.int .i64)) .unit)))), [], .unit, loopL b_s_l06Draw_7⟩] rfl (by kernel_rfl) (by exact ⟨loop_LOK (lok_s_l06Draw_7), trivial⟩) (by kernel_rfl)
  fun x y h => (show execFn Γ0 E0 σ_s_l06Draw Λ_s_l06Draw Try.f147 S_s_l06Draw x = s_l06Draw x by kernel_rfl).trans h

noncomputable def s_l04DrawAny (x : Ty.T (.pair (.box Tl01Source) .unit)) : Option (Ty.T (.pair TState (.pair (.box Tl01Source) .unit))) :=
match s_l04Draw ((x.1.1, x.1.2.1, x.1.2.2.1, ()), ()) with
| none => none
| some v1 =>
match s_l01Next ((v1.2.1.1, v1.2.1.2.1, v1.2.1.2.2.1, ()), (30 : Int), ()) with
| none => none
| some v2 =>
match (v2.1 == (0 : Int)) with
| true =>
 match s_l01Next ((v2.2.1.1, v2.2.1.2.1, v2.2.1.2.2.1, ()), (3 : Int), ()) with
 | none => none
 | some v3 =>
 onSome (idx [(-1 : Int), (65535 : Int), (65536 : Int)] v3.1) fun _ =>
 match [(-1 : Int), (65535 : Int), (65536 : Int)][v3.1.toNat]? with
 | none => none
 | some v5 =>
 some ((v5, v1.1.2.1, v1.1.2.2.1, v1.1.2.2.2.1, v1.1.2.2.2.2.1, ()), (v3.2.1.1, v3.2.1.2.1, v3.2.1.2.2.1, ()), ())
| false =>
 match (v2.1 == (1 : Int)) with
 | true =>
  match s_l01Next ((v2.2.1.1, v2.2.1.2.1, v2.2.1.2.2.1, ()), (2 : Int), ()) with
  | none => none
  | some v6 =>
  onSome (idx [(-1 : Int), (16 : Int)] v6.1) fun _ =>
  match [(-1 : Int), (16 : Int)][v6.1.toNat]? with
  | none => none
  | some v8 =>
  some ((v1.1.1, v8, v1.1.2.2.1, v1.1.2.2.2.1, v1.1.2.2.2.2.1, ()), (v6.2.1.1, v6.2.1.2.1, v6.2.1.2.2.1, ()), ())
 | false =>
  match (v2.1 == (2 : Int)) with
  | true =>
   match s_l01Next ((v2.2.1.1, v2.2.1.2.1, v2.2.1.2.2.1, ()), (2 : Int), ()) with
   | none => none
   | some v9 =>
   onSome (idx [(-1 : Int), (16 : Int)] v9.1) fun _ =>
   match [(-1 : Int), (16 : Int)][v9.1.toNat]? with
   | none => none
   | some v11 =>
   some ((v1.1.1, v1.1.2.1, v11, v1.1.2.2.2.1, v1.1.2.2.2.2.1, ()), (v9.2.1.1, v9.2.1.2.1, v9.2.1.2.2.1, ()), ())
  | false =>
   match (v2.1 == (3 : Int)) with
   | true =>
    match s_l01Next ((v2.2.1.1, v2.2.1.2.1, v2.2.1.2.2.1, ()), (2 : Int), ()) with
    | none => none
    | some v12 =>
    onSome (idx [(-1 : Int), (256 : Int)] v12.1) fun _ =>
    match [(-1 : Int), (256 : Int)][v12.1.toNat]? with
    | none => none
    | some v14 =>
    some ((v1.1.1, v1.1.2.1, v1.1.2.2.1, v14, v1.1.2.2.2.2.1, ()), (v12.2.1.1, v12.2.1.2.1, v12.2.1.2.2.1, ()), ())
   | false =>
    match (v2.1 == (4 : Int)) with
    | true =>
     match s_l01Next ((v2.2.1.1, v2.2.1.2.1, v2.2.1.2.2.1, ()), (2 : Int), ()) with
     | none => none
     | some v15 =>
     onSome (idx [(-1 : Int), (4294967296 : Int)] v15.1) fun _ =>
     match [(-1 : Int), (4294967296 : Int)][v15.1.toNat]? with
     | none => none
     | some v17 =>
     some ((v1.1.1, v1.1.2.1, v1.1.2.2.1, v1.1.2.2.2.1, v17, ()), (v15.2.1.1, v15.2.1.2.1, v15.2.1.2.2.1, ()), ())
    | false =>
     some ((v1.1.1, v1.1.2.1, v1.1.2.2.1, v1.1.2.2.2.1, v1.1.2.2.2.2.1, ()), (v2.2.1.1, v2.2.1.2.1, v2.2.1.2.2.1, ()), ())
noncomputable def S_s_l04DrawAny : Spec := ⟨(.pair (.box Tl01Source) .unit), (.pair TState .unit), (.pair (.box Tl01Source) .unit), rfl, s_l04DrawAny⟩
noncomputable def σ_s_l04DrawAny : FuncId → Option Spec := sig [(96, S_s_l01Next), (159, S_s_l04Draw)]
theorem σok_s_l04DrawAny : ∀ f s, σ_s_l04DrawAny f = some s → FnOK Try.prog f s := sig_ok (l := [(96, S_s_l01Next), (159, S_s_l04Draw)]) ⟨ok_s_l01Next, ok_s_l04Draw, trivial⟩
noncomputable def Λ_s_l04DrawAny : Nat → Option LSpec := lkp (loopList (bodyOf Try.f161)) []
theorem ok_s_l04DrawAny : FnOK Try.prog 161 S_s_l04DrawAny := fn_ok (Λ := Λ_s_l04DrawAny) tab0 σok_s_l04DrawAny Try.func161 (by kernel_rfl) (show Try.f161.body = some (bodyOf Try.f161) by kernel_rfl) [] rfl (by kernel_rfl) (by exact trivial) (by kernel_rfl)
  fun x y h => (show execFn Γ0 E0 σ_s_l04DrawAny Λ_s_l04DrawAny Try.f161 S_s_l04DrawAny x = s_l04DrawAny x by kernel_rfl).trans h

noncomputable def b_s_l01DrawBytes_3 (x : (Ty.T (.pair (.box Tl01Source) (.pair (.own 2 (.int .i64)) (.pair (.int .i64) .unit))))) : Option ((Ty.T (.pair (.box Tl01Source) (.pair (.own 2 (.int .i64)) (.pair (.int .i64) .unit)))) ⊕ ((Ty.T (.pair (.box Tl01Source) (.pair (.own 2 (.int .i64)) .unit))) ⊕ (Ty.T .unit))) :=
match (decide (x.2.2.1 > (0 : Int))) with
| true =>
 match s_l01Next ((x.1.1, x.1.2.1, x.1.2.2.1, ()), (256 : Int), ()) with
 | none => none
 | some v2 =>
 room (x.2.1.length + [v2.1].length) (
  some (.inl ((v2.2.1.1, v2.2.1.2.1, v2.2.1.2.2.1, ()), (x.2.1 ++ [v2.1]), (IntKind.i64.wrap (x.2.2.1 - (1 : Int))), ())))
| false =>
 some (.inr (.inl ((x.1.1, x.1.2.1, x.1.2.2.1, ()), x.2.1, ())))
noncomputable def s_l01DrawBytes (x : Ty.T (.pair (.box Tl01Source) (.pair (.int .i64) .unit))) : Option (Ty.T (.pair (.own 2 (.int .i64)) (.pair (.box Tl01Source) .unit))) :=
match s_l01Next ((x.1.1, x.1.2.1, x.1.2.2.1, ()), (IntKind.i64.wrap (x.2.1 + (1 : Int))), ()) with
| none => none
| some v1 =>
match loopL b_s_l01DrawBytes_3 ((v1.2.1.1, v1.2.1.2.1, v1.2.1.2.2.1, ()), [], v1.1, ()) with
| none => none
| some (.inl v3) =>
 match s_l01Next ((v3.1.1, v3.1.2.1, v3.1.2.2.1, ()), (40 : Int), ()) with
 | none => none
 | some v5 =>
 match (v5.1 == (0 : Int)) with
 | true =>
  match s_l01Next ((v5.2.1.1, v5.2.1.2.1, v5.2.1.2.2.1, ()), (2 : Int), ()) with
  | none => none
  | some v6 =>
  onSome (idx [(256 : Int), (-1 : Int)] v6.1) fun _ =>
  match [(256 : Int), (-1 : Int)][v6.1.toNat]? with
  | none => none
  | some v8 =>
  room (v3.2.1.length + [v8].length) (
   some ((v3.2.1 ++ [v8]), (v6.2.1.1, v6.2.1.2.1, v6.2.1.2.2.1, ()), ()))
 | false =>
  match (v5.1 == (1 : Int)) with
  | true =>
   match s_l01Next ((v5.2.1.1, v5.2.1.2.1, v5.2.1.2.2.1, ()), (2 : Int), ()) with
   | none => none
   | some v9 =>
   if 0 ≤ (IntKind.i64.wrap ((1024 : Int) + v9.1)) ∧ (IntKind.i64.wrap ((1024 : Int) + v9.1)) ≤ (IntKind.i64.wrap ((1024 : Int) + v9.1)) then
    room ((IntKind.i64.wrap ((1024 : Int) + v9.1)).toNat) (
     some ((List.replicate (IntKind.i64.wrap ((1024 : Int) + v9.1)).toNat (0 : Int)), (v9.2.1.1, v9.2.1.2.1, v9.2.1.2.2.1, ()), ()))
   else none
  | false =>
   some (v3.2.1, (v5.2.1.1, v5.2.1.2.1, v5.2.1.2.2.1, ()), ())
| some (.inr v10) =>
 none
noncomputable def S_s_l01DrawBytes : Spec := ⟨(.pair (.box Tl01Source) (.pair (.int .i64) .unit)), (.pair (.own 2 (.int .i64)) .unit), (.pair (.box Tl01Source) .unit), rfl, s_l01DrawBytes⟩
noncomputable def σ_s_l01DrawBytes : FuncId → Option Spec := sig [(96, S_s_l01Next)]
theorem σok_s_l01DrawBytes : ∀ f s, σ_s_l01DrawBytes f = some s → FnOK Try.prog f s := sig_ok (l := [(96, S_s_l01Next)]) ⟨ok_s_l01Next, trivial⟩
noncomputable def Λ_s_l01DrawBytes : Nat → Option LSpec := lkp (loopList (bodyOf Try.f162)) [⟨[0, 5, 6], (.pair (.box Tl01Source) (.pair (.own 2 (.int .i64)) (.pair (.int .i64) .unit))), 0, [0, 5], (.pair (.box Tl01Source) (.pair (.own 2 (.int .i64)) .unit)), [], .unit, loopL b_s_l01DrawBytes_3⟩]
theorem lok_s_l01DrawBytes_3 (x) : codeK Γ0 E0 σ_s_l01DrawBytes Λ_s_l01DrawBytes Try.f162.ntmps (nthLoop Try.f162 0) (mkF Try.f162.ntmps [0, 5, 6] (.pair (.box Tl01Source) (.pair (.own 2 (.int .i64)) (.pair (.int .i64) .unit))) x) (readK σ_s_l01DrawBytes Try.f162.ntmps [0, 5, 6] (.pair (.box Tl01Source) (.pair (.own 2 (.int .i64)) (.pair (.int .i64) .unit))) 0 [0, 5] (.pair (.box Tl01Source) (.pair (.own 2 (.int .i64)) .unit)) [] .unit) = b_s_l01DrawBytes_3 x := by kernel_rfl
theorem ok_s_l01DrawBytes : FnOK Try.prog 162 S_s_l01DrawBytes := fn_ok (Λ := Λ_s_l01DrawBytes) tab0 σok_s_l01DrawBytes Try.func162 (by kernel_rfl) (show Try.f162.body = some (bodyOf Try.f162) by kernel_rfl) [⟨[0, 5, 6], (.pair (.box Tl01Source) (.pair (.own 2 (.int .i64)) (.pair (.int .i64) .unit))), 0, [0, 5], (.pair (.box Tl01Source) (.pair (.own 2 (.int .i64)) .unit)), [], .unit, loopL b_s_l01DrawBytes_3⟩] rfl (by kernel_rfl) (by exact ⟨loop_LOK (lok_s_l01DrawBytes_3), trivial⟩) (by kernel_rfl)
  fun x y h => (show execFn Γ0 E0 σ_s_l01DrawBytes Λ_s_l01DrawBytes Try.f162 S_s_l01DrawBytes x = s_l01DrawBytes x by kernel_rfl).trans h

noncomputable def s_l06DrawAny (x : Ty.T (.pair (.box Tl01Source) .unit)) : Option (Ty.T (.pair TFrame (.pair (.box Tl01Source) .unit))) :=
match s_l06Draw ((x.1.1, x.1.2.1, x.1.2.2.1, ()), ()) with
| none => none
| some v1 =>
match s_l01Next ((v1.2.1.1, v1.2.1.2.1, v1.2.1.2.2.1, ()), (30 : Int), ()) with
| none => none
| some v2 =>
match (v2.1 == (0 : Int)) with
| true =>
 match s_l01Next ((v2.2.1.1, v2.2.1.2.1, v2.2.1.2.2.1, ()), (6 : Int), ()) with
 | none => none
 | some v3 =>
 some (((IntKind.i64.wrap (v3.1 - (1 : Int))), v1.1.2.1, (v1.1.2.2.1.1, v1.1.2.2.1.2.1, v1.1.2.2.1.2.2.1, v1.1.2.2.1.2.2.2.1, v1.1.2.2.1.2.2.2.2.1, ()), v1.1.2.2.2.1, ()), (v3.2.1.1, v3.2.1.2.1, v3.2.1.2.2.1, ()), ())
| false =>
 match (v2.1 == (1 : Int)) with
 | true =>
  match s_l01Next ((v2.2.1.1, v2.2.1.2.1, v2.2.1.2.2.1, ()), (3 : Int), ()) with
  | none => none
  | some v4 =>
  onSome (idx [(-1 : Int), (1 : Int), (8 : Int)] v4.1) fun _ =>
  match [(-1 : Int), (1 : Int), (8 : Int)][v4.1.toNat]? with
  | none => none
  | some v6 =>
  some ((v1.1.1, v6, (v1.1.2.2.1.1, v1.1.2.2.1.2.1, v1.1.2.2.1.2.2.1, v1.1.2.2.1.2.2.2.1, v1.1.2.2.1.2.2.2.2.1, ()), v1.1.2.2.2.1, ()), (v4.2.1.1, v4.2.1.2.1, v4.2.1.2.2.1, ()), ())
 | false =>
  match (v2.1 == (2 : Int)) with
  | true =>
   match s_l04DrawAny ((v2.2.1.1, v2.2.1.2.1, v2.2.1.2.2.1, ()), ()) with
   | none => none
   | some v7 =>
   some ((v1.1.1, v1.1.2.1, (v7.1.1, v7.1.2.1, v7.1.2.2.1, v7.1.2.2.2.1, v7.1.2.2.2.2.1, ()), v1.1.2.2.2.1, ()), (v7.2.1.1, v7.2.1.2.1, v7.2.1.2.2.1, ()), ())
  | false =>
   match (v2.1 == (3 : Int)) with
   | true =>
    match s_l01DrawBytes ((v2.2.1.1, v2.2.1.2.1, v2.2.1.2.2.1, ()), (3 : Int), ()) with
    | none => none
    | some v8 =>
    some ((v1.1.1, v1.1.2.1, (v1.1.2.2.1.1, v1.1.2.2.1.2.1, v1.1.2.2.1.2.2.1, v1.1.2.2.1.2.2.2.1, v1.1.2.2.1.2.2.2.2.1, ()), v8.1, ()), (v8.2.1.1, v8.2.1.2.1, v8.2.1.2.2.1, ()), ())
   | false =>
    match (v2.1 == (4 : Int)) with
    | true =>
     match s_l01Next ((v2.2.1.1, v2.2.1.2.1, v2.2.1.2.2.1, ()), (2 : Int), ()) with
     | none => none
     | some v9 =>
     if 0 ≤ (IntKind.i64.wrap ((32 : Int) + v9.1)) ∧ (IntKind.i64.wrap ((32 : Int) + v9.1)) ≤ (IntKind.i64.wrap ((32 : Int) + v9.1)) then
      room ((IntKind.i64.wrap ((32 : Int) + v9.1)).toNat) (
       some ((v1.1.1, v1.1.2.1, (v1.1.2.2.1.1, v1.1.2.2.1.2.1, v1.1.2.2.1.2.2.1, v1.1.2.2.1.2.2.2.1, v1.1.2.2.1.2.2.2.2.1, ()), (List.replicate (IntKind.i64.wrap ((32 : Int) + v9.1)).toNat (0 : Int)), ()), (v9.2.1.1, v9.2.1.2.1, v9.2.1.2.2.1, ()), ()))
     else none
    | false =>
     some ((v1.1.1, v1.1.2.1, (v1.1.2.2.1.1, v1.1.2.2.1.2.1, v1.1.2.2.1.2.2.1, v1.1.2.2.1.2.2.2.1, v1.1.2.2.1.2.2.2.2.1, ()), v1.1.2.2.2.1, ()), (v2.2.1.1, v2.2.1.2.1, v2.2.1.2.2.1, ()), ())
noncomputable def S_s_l06DrawAny : Spec := ⟨(.pair (.box Tl01Source) .unit), (.pair TFrame .unit), (.pair (.box Tl01Source) .unit), rfl, s_l06DrawAny⟩
noncomputable def σ_s_l06DrawAny : FuncId → Option Spec := sig [(96, S_s_l01Next), (147, S_s_l06Draw), (161, S_s_l04DrawAny), (162, S_s_l01DrawBytes)]
theorem σok_s_l06DrawAny : ∀ f s, σ_s_l06DrawAny f = some s → FnOK Try.prog f s := sig_ok (l := [(96, S_s_l01Next), (147, S_s_l06Draw), (161, S_s_l04DrawAny), (162, S_s_l01DrawBytes)]) ⟨ok_s_l01Next, ok_s_l06Draw, ok_s_l04DrawAny, ok_s_l01DrawBytes, trivial⟩
noncomputable def Λ_s_l06DrawAny : Nat → Option LSpec := lkp (loopList (bodyOf Try.f148)) []
theorem ok_s_l06DrawAny : FnOK Try.prog 148 S_s_l06DrawAny := fn_ok (Λ := Λ_s_l06DrawAny) tab0 σok_s_l06DrawAny Try.func148 (by kernel_rfl) (show Try.f148.body = some (bodyOf Try.f148) by kernel_rfl) [] rfl (by kernel_rfl) (by exact trivial) (by kernel_rfl)
  fun x y h => (show execFn Γ0 E0 σ_s_l06DrawAny Λ_s_l06DrawAny Try.f148 S_s_l06DrawAny x = s_l06DrawAny x by kernel_rfl).trans h

noncomputable def s_l28DrawVerdict (x : Ty.T (.pair (.box Tl01Source) .unit)) : Option (Ty.T (.pair TVerdict (.pair (.box Tl01Source) .unit))) :=
match s_l01Next ((x.1.1, x.1.2.1, x.1.2.2.1, ()), (5 : Int), ()) with
| none => none
| some v1 =>
match (v1.1 == (3 : Int)) with
| true =>
 match s_l06Draw ((v1.2.1.1, v1.2.1.2.1, v1.2.1.2.2.1, ()), ()) with
 | none => none
 | some v2 =>
 match s_l01Next ((v2.2.1.1, v2.2.1.2.1, v2.2.1.2.2.1, ()), (24 : Int), ()) with
 | none => none
 | some v3 =>
 match (v3.1 == (0 : Int)) with
 | true =>
  match s_l01Next ((v3.2.1.1, v3.2.1.2.1, v3.2.1.2.2.1, ()), (3 : Int), ()) with
  | none => none
  | some v4 =>
  onSome (idx [(-1 : Int), (5 : Int), (3 : Int)] v4.1) fun _ =>
  match [(-1 : Int), (5 : Int), (3 : Int)][v4.1.toNat]? with
  | none => none
  | some v6 =>
  some ((v6, (v2.1.1, v2.1.2.1, (v2.1.2.2.1.1, v2.1.2.2.1.2.1, v2.1.2.2.1.2.2.1, v2.1.2.2.1.2.2.2.1, v2.1.2.2.1.2.2.2.2.1, ()), v2.1.2.2.2.1, ()), ()), (v4.2.1.1, v4.2.1.2.1, v4.2.1.2.2.1, ()), ())
 | false =>
  match (v3.1 == (1 : Int)) with
  | true =>
   match s_l06DrawAny ((v3.2.1.1, v3.2.1.2.1, v3.2.1.2.2.1, ()), ()) with
   | none => none
   | some v7 =>
   some ((v1.1, (v7.1.1, v7.1.2.1, (v7.1.2.2.1.1, v7.1.2.2.1.2.1, v7.1.2.2.1.2.2.1, v7.1.2.2.1.2.2.2.1, v7.1.2.2.1.2.2.2.2.1, ()), v7.1.2.2.2.1, ()), ()), (v7.2.1.1, v7.2.1.2.1, v7.2.1.2.2.1, ()), ())
  | false =>
   some ((v1.1, (v2.1.1, v2.1.2.1, (v2.1.2.2.1.1, v2.1.2.2.1.2.1, v2.1.2.2.1.2.2.1, v2.1.2.2.1.2.2.2.1, v2.1.2.2.1.2.2.2.2.1, ()), v2.1.2.2.2.1, ()), ()), (v3.2.1.1, v3.2.1.2.1, v3.2.1.2.2.1, ()), ())
| false =>
 match s_l01Next ((v1.2.1.1, v1.2.1.2.1, v1.2.1.2.2.1, ()), (24 : Int), ()) with
 | none => none
 | some v8 =>
 match (v8.1 == (0 : Int)) with
 | true =>
  match s_l01Next ((v8.2.1.1, v8.2.1.2.1, v8.2.1.2.2.1, ()), (3 : Int), ()) with
  | none => none
  | some v9 =>
  onSome (idx [(-1 : Int), (5 : Int), (3 : Int)] v9.1) fun _ =>
  match [(-1 : Int), (5 : Int), (3 : Int)][v9.1.toNat]? with
  | none => none
  | some v11 =>
  some ((v11, ((0 : Int), (0 : Int), ((0 : Int), (0 : Int), (0 : Int), (0 : Int), (0 : Int), ()), [], ()), ()), (v9.2.1.1, v9.2.1.2.1, v9.2.1.2.2.1, ()), ())
 | false =>
  match (v8.1 == (1 : Int)) with
  | true =>
   match s_l06DrawAny ((v8.2.1.1, v8.2.1.2.1, v8.2.1.2.2.1, ()), ()) with
   | none => none
   | some v12 =>
   some ((v1.1, (v12.1.1, v12.1.2.1, (v12.1.2.2.1.1, v12.1.2.2.1.2.1, v12.1.2.2.1.2.2.1, v12.1.2.2.1.2.2.2.1, v12.1.2.2.1.2.2.2.2.1, ()), v12.1.2.2.2.1, ()), ()), (v12.2.1.1, v12.2.1.2.1, v12.2.1.2.2.1, ()), ())
  | false =>
   some ((v1.1, ((0 : Int), (0 : Int), ((0 : Int), (0 : Int), (0 : Int), (0 : Int), (0 : Int), ()), [], ()), ()), (v8.2.1.1, v8.2.1.2.1, v8.2.1.2.2.1, ()), ())
noncomputable def S_s_l28DrawVerdict : Spec := ⟨(.pair (.box Tl01Source) .unit), (.pair TVerdict .unit), (.pair (.box Tl01Source) .unit), rfl, s_l28DrawVerdict⟩
noncomputable def σ_s_l28DrawVerdict : FuncId → Option Spec := sig [(96, S_s_l01Next), (147, S_s_l06Draw), (148, S_s_l06DrawAny)]
theorem σok_s_l28DrawVerdict : ∀ f s, σ_s_l28DrawVerdict f = some s → FnOK Try.prog f s := sig_ok (l := [(96, S_s_l01Next), (147, S_s_l06Draw), (148, S_s_l06DrawAny)]) ⟨ok_s_l01Next, ok_s_l06Draw, ok_s_l06DrawAny, trivial⟩
noncomputable def Λ_s_l28DrawVerdict : Nat → Option LSpec := lkp (loopList (bodyOf Try.f127)) []
theorem ok_s_l28DrawVerdict : FnOK Try.prog 127 S_s_l28DrawVerdict := fn_ok (Λ := Λ_s_l28DrawVerdict) tab0 σok_s_l28DrawVerdict Try.func127 (by kernel_rfl) (show Try.f127.body = some (bodyOf Try.f127) by kernel_rfl) [] rfl (by kernel_rfl) (by exact trivial) (by kernel_rfl)
  fun x y h => (show execFn Γ0 E0 σ_s_l28DrawVerdict Λ_s_l28DrawVerdict Try.f127 S_s_l28DrawVerdict x = s_l28DrawVerdict x by kernel_rfl).trans h

noncomputable def s_DrawSameVerdict (x : Ty.T (.pair (.list (.int .u8)) .unit)) : Option (Ty.T (.pair TVerdict (.pair TVerdict .unit))) :=
match s_l01From (x.1, ()) with
| none => none
| some v1 =>
match s_l28DrawVerdict ((v1.1.1, v1.1.2.1, v1.1.2.2.1, ()), ()) with
| none => none
| some v2 =>
match s_l01Next ((v2.2.1.1, v2.2.1.2.1, v2.2.1.2.2.1, ()), (2 : Int), ()) with
| none => none
| some v3 =>
match (v3.1 == (0 : Int)) with
| true =>
 some ((v2.1.1, (v2.1.2.1.1, v2.1.2.1.2.1, (v2.1.2.1.2.2.1.1, v2.1.2.1.2.2.1.2.1, v2.1.2.1.2.2.1.2.2.1, v2.1.2.1.2.2.1.2.2.2.1, v2.1.2.1.2.2.1.2.2.2.2.1, ()), v2.1.2.1.2.2.2.1, ()), ()), (v2.1.1, (v2.1.2.1.1, v2.1.2.1.2.1, (v2.1.2.1.2.2.1.1, v2.1.2.1.2.2.1.2.1, v2.1.2.1.2.2.1.2.2.1, v2.1.2.1.2.2.1.2.2.2.1, v2.1.2.1.2.2.1.2.2.2.2.1, ()), v2.1.2.1.2.2.2.1, ()), ()), ())
| false =>
 match s_l28DrawVerdict ((v3.2.1.1, v3.2.1.2.1, v3.2.1.2.2.1, ()), ()) with
 | none => none
 | some v4 =>
 some ((v2.1.1, (v2.1.2.1.1, v2.1.2.1.2.1, (v2.1.2.1.2.2.1.1, v2.1.2.1.2.2.1.2.1, v2.1.2.1.2.2.1.2.2.1, v2.1.2.1.2.2.1.2.2.2.1, v2.1.2.1.2.2.1.2.2.2.2.1, ()), v2.1.2.1.2.2.2.1, ()), ()), (v4.1.1, (v4.1.2.1.1, v4.1.2.1.2.1, (v4.1.2.1.2.2.1.1, v4.1.2.1.2.2.1.2.1, v4.1.2.1.2.2.1.2.2.1, v4.1.2.1.2.2.1.2.2.2.1, v4.1.2.1.2.2.1.2.2.2.2.1, ()), v4.1.2.1.2.2.2.1, ()), ()), ())
noncomputable def S_s_DrawSameVerdict : Spec := ⟨(.pair (.list (.int .u8)) .unit), (.pair TVerdict (.pair TVerdict .unit)), .unit, rfl, s_DrawSameVerdict⟩
noncomputable def σ_s_DrawSameVerdict : FuncId → Option Spec := sig [(84, S_s_l01From), (96, S_s_l01Next), (127, S_s_l28DrawVerdict)]
theorem σok_s_DrawSameVerdict : ∀ f s, σ_s_DrawSameVerdict f = some s → FnOK Try.prog f s := sig_ok (l := [(84, S_s_l01From), (96, S_s_l01Next), (127, S_s_l28DrawVerdict)]) ⟨ok_s_l01From, ok_s_l01Next, ok_s_l28DrawVerdict, trivial⟩
noncomputable def Λ_s_DrawSameVerdict : Nat → Option LSpec := lkp (loopList (bodyOf Try.f98)) []
theorem ok_s_DrawSameVerdict : FnOK Try.prog 98 S_s_DrawSameVerdict := fn_ok (Λ := Λ_s_DrawSameVerdict) tab0 σok_s_DrawSameVerdict Try.func98 (by kernel_rfl) (show Try.f98.body = some (bodyOf Try.f98) by kernel_rfl) [] rfl (by kernel_rfl) (by exact trivial) (by kernel_rfl)
  fun x y h => (show execFn Γ0 E0 σ_s_DrawSameVerdict Λ_s_DrawSameVerdict Try.f98 S_s_DrawSameVerdict x = s_DrawSameVerdict x by kernel_rfl).trans h

noncomputable def s_DrawMergeVerdicts (x : Ty.T (.pair (.list (.int .u8)) .unit)) : Option (Ty.T (.pair TVerdict (.pair TVerdict .unit))) :=
match s_DrawSameVerdict (x.1, ()) with
| none => none
| some v1 =>
some ((v1.1.1, (v1.1.2.1.1, v1.1.2.1.2.1, (v1.1.2.1.2.2.1.1, v1.1.2.1.2.2.1.2.1, v1.1.2.1.2.2.1.2.2.1, v1.1.2.1.2.2.1.2.2.2.1, v1.1.2.1.2.2.1.2.2.2.2.1, ()), v1.1.2.1.2.2.2.1, ()), ()), (v1.2.1.1, (v1.2.1.2.1.1, v1.2.1.2.1.2.1, (v1.2.1.2.1.2.2.1.1, v1.2.1.2.1.2.2.1.2.1, v1.2.1.2.1.2.2.1.2.2.1, v1.2.1.2.1.2.2.1.2.2.2.1, v1.2.1.2.1.2.2.1.2.2.2.2.1, ()), v1.2.1.2.1.2.2.2.1, ()), ()), ())
noncomputable def S_s_DrawMergeVerdicts : Spec := ⟨(.pair (.list (.int .u8)) .unit), (.pair TVerdict (.pair TVerdict .unit)), .unit, rfl, s_DrawMergeVerdicts⟩
noncomputable def σ_s_DrawMergeVerdicts : FuncId → Option Spec := sig [(98, S_s_DrawSameVerdict)]
theorem σok_s_DrawMergeVerdicts : ∀ f s, σ_s_DrawMergeVerdicts f = some s → FnOK Try.prog f s := sig_ok (l := [(98, S_s_DrawSameVerdict)]) ⟨ok_s_DrawSameVerdict, trivial⟩
noncomputable def Λ_s_DrawMergeVerdicts : Nat → Option LSpec := lkp (loopList (bodyOf Try.f43)) []
theorem ok_s_DrawMergeVerdicts : FnOK Try.prog 43 S_s_DrawMergeVerdicts := fn_ok (Λ := Λ_s_DrawMergeVerdicts) tab0 σok_s_DrawMergeVerdicts Try.func43 (by kernel_rfl) (show Try.f43.body = some (bodyOf Try.f43) by kernel_rfl) [] rfl (by kernel_rfl) (by exact trivial) (by kernel_rfl)
  fun x y h => (show execFn Γ0 E0 σ_s_DrawMergeVerdicts Λ_s_DrawMergeVerdicts Try.f43 S_s_DrawMergeVerdicts x = s_DrawMergeVerdicts x by kernel_rfl).trans h

noncomputable def i_isKind (x : Ty.T (.pair (.int .i64) .unit)) : Option (Ty.T (.pair .bool .unit)) :=
match i_within (x.1, (0 : Int), (3 : Int), ()) with
| none => none
| some v1 =>
some (v1.1, ())
noncomputable def S_i_isKind : Spec := ⟨(.pair (.int .i64) .unit), (.pair .bool .unit), .unit, rfl, i_isKind⟩
noncomputable def σ_i_isKind : FuncId → Option Spec := sig [(74, S_i_within)]
theorem σok_i_isKind : ∀ f s, σ_i_isKind f = some s → FnOK Try.prog f s := sig_ok (l := [(74, S_i_within)]) ⟨ok_i_within, trivial⟩
noncomputable def Λ_i_isKind : Nat → Option LSpec := lkp (loopList (bodyOf Try.f131)) []
theorem ok_i_isKind : FnOK Try.prog 131 S_i_isKind := fn_ok (Λ := Λ_i_isKind) tab0 σok_i_isKind Try.func131 (by kernel_rfl) (show Try.f131.body = some (bodyOf Try.f131) by kernel_rfl) [] rfl (by kernel_rfl) (by exact trivial) (by kernel_rfl)
  fun x y h => (show execFn Γ0 E0 σ_i_isKind Λ_i_isKind Try.f131 S_i_isKind x = i_isKind x by kernel_rfl).trans h

noncomputable def i_isDataSize (x : Ty.T (.pair (.int .i64) (.pair (.int .i64) .unit))) : Option (Ty.T (.pair .bool .unit)) :=
match (x.1 == (0 : Int)) with
| true =>
 match i_within (x.2.1, (0 : Int), (32 : Int), ()) with
 | none => none
 | some v1 =>
 some (v1.1, ())
| false =>
 match (x.1 == (2 : Int)) with
 | true =>
  match i_within (x.2.1, (1 : Int), (32 : Int), ()) with
  | none => none
  | some v2 =>
  some (v2.1, ())
 | false =>
  some ((x.2.1 == (0 : Int)), ())
noncomputable def S_i_isDataSize : Spec := ⟨(.pair (.int .i64) (.pair (.int .i64) .unit)), (.pair .bool .unit), .unit, rfl, i_isDataSize⟩
noncomputable def σ_i_isDataSize : FuncId → Option Spec := sig [(74, S_i_within)]
theorem σok_i_isDataSize : ∀ f s, σ_i_isDataSize f = some s → FnOK Try.prog f s := sig_ok (l := [(74, S_i_within)]) ⟨ok_i_within, trivial⟩
noncomputable def Λ_i_isDataSize : Nat → Option LSpec := lkp (loopList (bodyOf Try.f132)) []
theorem ok_i_isDataSize : FnOK Try.prog 132 S_i_isDataSize := fn_ok (Λ := Λ_i_isDataSize) tab0 σok_i_isDataSize Try.func132 (by kernel_rfl) (show Try.f132.body = some (bodyOf Try.f132) by kernel_rfl) [] rfl (by kernel_rfl) (by exact trivial) (by kernel_rfl)
  fun x y h => (show execFn Γ0 E0 σ_i_isDataSize Λ_i_isDataSize Try.f132 S_i_isDataSize x = i_isDataSize x by kernel_rfl).trans h

noncomputable def b_i_allWithin_2 (x : (Ty.T (.pair (.int .i64) (.pair (.int .i64) (.pair (.list (.int .i64)) (.pair (.int .i64) (.pair (.int .i64) .unit))))))) : Option ((Ty.T (.pair (.int .i64) (.pair (.int .i64) (.pair (.list (.int .i64)) (.pair (.int .i64) (.pair (.int .i64) .unit)))))) ⊕ ((Ty.T .unit) ⊕ (Ty.T (.pair .bool .unit)))) :=
match (decide (x.2.2.2.2.1 < x.2.2.2.1)) with
| true =>
 onSome (idx x.2.2.1 x.2.2.2.2.1) fun v1 =>
 match (decide (v1 < x.1)) with
 | true =>
  some (.inr (.inr (false, ())))
 | false =>
  match (decide (v1 > x.2.1)) with
  | true =>
   some (.inr (.inr (false, ())))
  | false =>
   some (.inl (x.1, x.2.1, x.2.2.1, x.2.2.2.1, (IntKind.i64.wrap (x.2.2.2.2.1 + (1 : Int))), ()))
| false =>
 some (.inr (.inl (())))
noncomputable def i_allWithin (x : Ty.T (.pair (.list (.int .i64)) (.pair (.int .i64) (.pair (.int .i64) .unit)))) : Option (Ty.T (.pair .bool .unit)) :=
match loopL b_i_allWithin_2 (x.2.1, x.2.2.1, x.1, (x.1.length : Int), (0 : Int), ()) with
| none => none
| some (.inl v2) =>
 some (true, ())
| some (.inr v3) =>
 some (v3.1, ())
noncomputable def S_i_allWithin : Spec := ⟨(.pair (.list (.int .i64)) (.pair (.int .i64) (.pair (.int .i64) .unit))), (.pair .bool .unit), .unit, rfl, i_allWithin⟩
noncomputable def σ_i_allWithin : FuncId → Option Spec := sig []
theorem σok_i_allWithin : ∀ f s, σ_i_allWithin f = some s → FnOK Try.prog f s := sig_ok (l := []) trivial
noncomputable def Λ_i_allWithin : Nat → Option LSpec := lkp (loopList (bodyOf Try.f119)) [⟨[1, 2, 9, 10, 11], (.pair (.int .i64) (.pair (.int .i64) (.pair (.list (.int .i64)) (.pair (.int .i64) (.pair (.int .i64) .unit))))), 0, [], .unit, [6], (.pair .bool .unit), loopL b_i_allWithin_2⟩]
theorem lok_i_allWithin_2 (x) : codeK Γ0 E0 σ_i_allWithin Λ_i_allWithin Try.f119.ntmps (nthLoop Try.f119 0) (mkF Try.f119.ntmps [1, 2, 9, 10, 11] (.pair (.int .i64) (.pair (.int .i64) (.pair (.list (.int .i64)) (.pair (.int .i64) (.pair (.int .i64) .unit))))) x) (readK σ_i_allWithin Try.f119.ntmps [1, 2, 9, 10, 11] (.pair (.int .i64) (.pair (.int .i64) (.pair (.list (.int .i64)) (.pair (.int .i64) (.pair (.int .i64) .unit))))) 0 [] .unit [6] (.pair .bool .unit)) = b_i_allWithin_2 x := by kernel_rfl
theorem ok_i_allWithin : FnOK Try.prog 119 S_i_allWithin := fn_ok (Λ := Λ_i_allWithin) tab0 σok_i_allWithin Try.func119 (by kernel_rfl) (show Try.f119.body = some (bodyOf Try.f119) by kernel_rfl) [⟨[1, 2, 9, 10, 11], (.pair (.int .i64) (.pair (.int .i64) (.pair (.list (.int .i64)) (.pair (.int .i64) (.pair (.int .i64) .unit))))), 0, [], .unit, [6], (.pair .bool .unit), loopL b_i_allWithin_2⟩] rfl (by kernel_rfl) (by exact ⟨loop_LOK (lok_i_allWithin_2), trivial⟩) (by kernel_rfl)
  fun x y h => (show execFn Γ0 E0 σ_i_allWithin Λ_i_allWithin Try.f119 S_i_allWithin x = i_allWithin x by kernel_rfl).trans h

noncomputable def i_IsBytes (x : Ty.T (.pair (.list (.int .i64)) .unit)) : Option (Ty.T (.pair .bool .unit)) :=
match (decide ((x.1.length : Int) ≤ (1024 : Int))) with
| true =>
 match i_allWithin (x.1, (0 : Int), (255 : Int), ()) with
 | none => none
 | some v1 =>
 some (v1.1, ())
| false =>
 some (false, ())
noncomputable def S_i_IsBytes : Spec := ⟨(.pair (.list (.int .i64)) .unit), (.pair .bool .unit), .unit, rfl, i_IsBytes⟩
noncomputable def σ_i_IsBytes : FuncId → Option Spec := sig [(119, S_i_allWithin)]
theorem σok_i_IsBytes : ∀ f s, σ_i_IsBytes f = some s → FnOK Try.prog f s := sig_ok (l := [(119, S_i_allWithin)]) ⟨ok_i_allWithin, trivial⟩
noncomputable def Λ_i_IsBytes : Nat → Option LSpec := lkp (loopList (bodyOf Try.f133)) []
theorem ok_i_IsBytes : FnOK Try.prog 133 S_i_IsBytes := fn_ok (Λ := Λ_i_IsBytes) tab0 σok_i_IsBytes Try.func133 (by kernel_rfl) (show Try.f133.body = some (bodyOf Try.f133) by kernel_rfl) [] rfl (by kernel_rfl) (by exact trivial) (by kernel_rfl)
  fun x y h => (show execFn Γ0 E0 σ_i_IsBytes Λ_i_IsBytes Try.f133 S_i_IsBytes x = i_IsBytes x by kernel_rfl).trans h

noncomputable def i_isVector (x : Ty.T (.pair (.int .i64) .unit)) : Option (Ty.T (.pair .bool .unit)) :=
match i_within (x.1, (0 : Int), (4294967295 : Int), ()) with
| none => none
| some v1 =>
some (v1.1, ())
noncomputable def S_i_isVector : Spec := ⟨(.pair (.int .i64) .unit), (.pair .bool .unit), .unit, rfl, i_isVector⟩
noncomputable def σ_i_isVector : FuncId → Option Spec := sig [(74, S_i_within)]
theorem σok_i_isVector : ∀ f s, σ_i_isVector f = some s → FnOK Try.prog f s := sig_ok (l := [(74, S_i_within)]) ⟨ok_i_within, trivial⟩
noncomputable def Λ_i_isVector : Nat → Option LSpec := lkp (loopList (bodyOf Try.f155)) []
theorem ok_i_isVector : FnOK Try.prog 155 S_i_isVector := fn_ok (Λ := Λ_i_isVector) tab0 σok_i_isVector Try.func155 (by kernel_rfl) (show Try.f155.body = some (bodyOf Try.f155) by kernel_rfl) [] rfl (by kernel_rfl) (by exact trivial) (by kernel_rfl)
  fun x y h => (show execFn Γ0 E0 σ_i_isVector Λ_i_isVector Try.f155 S_i_isVector x = i_isVector x by kernel_rfl).trans h

noncomputable def i_IsState (x : Ty.T (.pair TState .unit)) : Option (Ty.T (.pair .bool .unit)) :=
match i_within (x.1.1, (0 : Int), (65535 : Int), ()) with
| none => none
| some v1 =>
match v1.1 with
| true =>
 match i_within (x.1.2.1, (0 : Int), (15 : Int), ()) with
 | none => none
 | some v2 =>
 match v2.1 with
 | true =>
  match i_within (x.1.2.2.1, (0 : Int), (15 : Int), ()) with
  | none => none
  | some v3 =>
  match v3.1 with
  | true =>
   match i_within (x.1.2.2.2.1, (0 : Int), (255 : Int), ()) with
   | none => none
   | some v4 =>
   match v4.1 with
   | true =>
    match i_isVector (x.1.2.2.2.2.1, ()) with
    | none => none
    | some v5 =>
    some (v5.1, ())
   | false =>
    some (false, ())
  | false =>
   some (false, ())
 | false =>
  some (false, ())
| false =>
 some (false, ())
noncomputable def S_i_IsState : Spec := ⟨(.pair TState .unit), (.pair .bool .unit), .unit, rfl, i_IsState⟩
noncomputable def σ_i_IsState : FuncId → Option Spec := sig [(74, S_i_within), (155, S_i_isVector)]
theorem σok_i_IsState : ∀ f s, σ_i_IsState f = some s → FnOK Try.prog f s := sig_ok (l := [(74, S_i_within), (155, S_i_isVector)]) ⟨ok_i_within, ok_i_isVector, trivial⟩
noncomputable def Λ_i_IsState : Nat → Option LSpec := lkp (loopList (bodyOf Try.f134)) []
theorem ok_i_IsState : FnOK Try.prog 134 S_i_IsState := fn_ok (Λ := Λ_i_IsState) tab0 σok_i_IsState Try.func134 (by kernel_rfl) (show Try.f134.body = some (bodyOf Try.f134) by kernel_rfl) [] rfl (by kernel_rfl) (by exact trivial) (by kernel_rfl)
  fun x y h => (show execFn Γ0 E0 σ_i_IsState Λ_i_IsState Try.f134 S_i_IsState x = i_IsState x by kernel_rfl).trans h

noncomputable def i_IsFrame (x : Ty.T (.pair TFrame .unit)) : Option (Ty.T (.pair .bool .unit)) :=
match i_isKind (x.1.1, ()) with
| none => none
| some v1 =>
match (!v1.1) with
| true =>
 some (false, ())
| false =>
 match i_within (x.1.2.1, (0 : Int), (7 : Int), ()) with
 | none => none
 | some v2 =>
 match (!v2.1) with
 | true =>
  some (false, ())
 | false =>
  match i_isDataSize (x.1.1, (x.1.2.2.2.1.length : Int), ()) with
  | none => none
  | some v3 =>
  match (!v3.1) with
  | true =>
   some (false, ())
  | false =>
   match i_IsBytes (x.1.2.2.2.1, ()) with
   | none => none
   | some v4 =>
   match (!v4.1) with
   | true =>
    some (false, ())
   | false =>
    match (x.1.1 == (0 : Int)) with
    | true =>
     some ((eqT TState (x.1.2.2.1.1, x.1.2.2.1.2.1, x.1.2.2.1.2.2.1, x.1.2.2.1.2.2.2.1, x.1.2.2.1.2.2.2.2.1, ()) ((0 : Int), (0 : Int), (0 : Int), (0 : Int), (0 : Int), ())), ())
    | false =>
     match (x.1.1 == (3 : Int)) with
     | true =>
      match i_IsState ((x.1.2.2.1.1, x.1.2.2.1.2.1, x.1.2.2.1.2.2.1, x.1.2.2.1.2.2.2.1, x.1.2.2.1.2.2.2.2.1, ()), ()) with
      | none => none
      | some v5 =>
      match v5.1 with
      | true =>
       match (x.1.2.2.1.2.1 == (0 : Int)) with
       | true =>
        match (x.1.2.2.1.2.2.2.2.1 != (0 : Int)) with
        | true =>
         match ((bits BinOp.and .i64 x.1.2.2.1.2.2.2.2.1 (IntKind.i64.wrap (x.1.2.2.1.2.2.2.2.1 - (1 : Int)))) == (0 : Int)) with
         | true =>
          some ((x.1.2.1 == (0 : Int)), ())
         | false =>
          some (false, ())
        | false =>
         some (false, ())
       | false =>
        some (false, ())
      | false =>
       some (false, ())
     | false =>
      match i_IsState ((x.1.2.2.1.1, x.1.2.2.1.2.1, x.1.2.2.1.2.2.1, x.1.2.2.1.2.2.2.1, x.1.2.2.1.2.2.2.2.1, ()), ()) with
      | none => none
      | some v6 =>
      some (v6.1, ())
noncomputable def S_i_IsFrame : Spec := ⟨(.pair TFrame .unit), (.pair .bool .unit), .unit, rfl, i_IsFrame⟩
noncomputable def σ_i_IsFrame : FuncId → Option Spec := sig [(74, S_i_within), (131, S_i_isKind), (132, S_i_isDataSize), (133, S_i_IsBytes), (134, S_i_IsState)]
theorem σok_i_IsFrame : ∀ f s, σ_i_IsFrame f = some s → FnOK Try.prog f s := sig_ok (l := [(74, S_i_within), (131, S_i_isKind), (132, S_i_isDataSize), (133, S_i_IsBytes), (134, S_i_IsState)]) ⟨ok_i_within, ok_i_isKind, ok_i_isDataSize, ok_i_IsBytes, ok_i_IsState, trivial⟩
noncomputable def Λ_i_IsFrame : Nat → Option LSpec := lkp (loopList (bodyOf Try.f105)) []
theorem ok_i_IsFrame : FnOK Try.prog 105 S_i_IsFrame := fn_ok (Λ := Λ_i_IsFrame) tab0 σok_i_IsFrame Try.func105 (by kernel_rfl) (show Try.f105.body = some (bodyOf Try.f105) by kernel_rfl) [] rfl (by kernel_rfl) (by exact trivial) (by kernel_rfl)
  fun x y h => (show execFn Γ0 E0 σ_i_IsFrame Λ_i_IsFrame Try.f105 S_i_IsFrame x = i_IsFrame x by kernel_rfl).trans h

noncomputable def b_slices_Equal_int64_4 (x : (Ty.T (.pair (.list (.int .i64)) (.pair (.list (.int .i64)) (.pair (.int .i64) (.pair (.int .i64) .unit)))))) : Option ((Ty.T (.pair (.list (.int .i64)) (.pair (.list (.int .i64)) (.pair (.int .i64) (.pair (.int .i64) .unit))))) ⊕ ((Ty.T .unit) ⊕ (Ty.T (.pair .bool .unit)))) :=
match (decide (x.2.2.2.1 < x.2.2.1)) with
| true =>
 onSome (idx x.1 x.2.2.2.1) fun v1 =>
 onSome (idx x.2.1 x.2.2.2.1) fun v2 =>
 match (v1 != v2) with
 | true =>
  some (.inr (.inr (false, ())))
 | false =>
  some (.inl (x.1, x.2.1, x.2.2.1, (IntKind.i64.wrap (x.2.2.2.1 + (1 : Int))), ()))
| false =>
 some (.inr (.inl (())))
noncomputable def slices_Equal_int64 (x : Ty.T (.pair (.list (.int .i64)) (.pair (.list (.int .i64)) .unit))) : Option (Ty.T (.pair .bool .unit)) :=
match ((x.1.length : Int) != (x.2.1.length : Int)) with
| true =>
 some (false, ())
| false =>
 match loopL b_slices_Equal_int64_4 (x.1, x.2.1, (x.1.length : Int), (0 : Int), ()) with
 | none => none
 | some (.inl v3) =>
  some (true, ())
 | some (.inr v4) =>
  some (v4.1, ())
noncomputable def S_slices_Equal_int64 : Spec := ⟨(.pair (.list (.int .i64)) (.pair (.list (.int .i64)) .unit)), (.pair .bool .unit), .unit, rfl, slices_Equal_int64⟩
noncomputable def σ_slices_Equal_int64 : FuncId → Option Spec := sig []
theorem σok_slices_Equal_int64 : ∀ f s, σ_slices_Equal_int64 f = some s → FnOK Try.prog f s := sig_ok (l := []) trivial
noncomputable def Λ_slices_Equal_int64 : Nat → Option LSpec := lkp (loopList (bodyOf Try.f135)) [⟨[0, 1, 12, 13], (.pair (.list (.int .i64)) (.pair (.list (.int .i64)) (.pair (.int .i64) (.pair (.int .i64) .unit)))), 0, [], .unit, [4], (.pair .bool .unit), loopL b_slices_Equal_int64_4⟩]
theorem lok_slices_Equal_int64_4 (x) : codeK Γ0 E0 σ_slices_Equal_int64 Λ_slices_Equal_int64 Try.f135.ntmps (nthLoop Try.f135 0) (mkF Try.f135.ntmps [0, 1, 12, 13] (.pair (.list (.int .i64)) (.pair (.list (.int .i64)) (.pair (.int .i64) (.pair (.int .i64) .unit)))) x) (readK σ_slices_Equal_int64 Try.f135.ntmps [0, 1, 12, 13] (.pair (.list (.int .i64)) (.pair (.list (.int .i64)) (.pair (.int .i64) (.pair (.int .i64) .unit)))) 0 [] .unit [4] (.pair .bool .unit)) = b_slices_Equal_int64_4 x := by kernel_rfl
theorem ok_slices_Equal_int64 : FnOK Try.prog 135 S_slices_Equal_int64 := fn_ok (Λ := Λ_slices_Equal_int64) tab0 σok_slices_Equal_int64 Try.func135 (by kernel_rfl) (show Try.f135.body = some (bodyOf Try.f135) by kernel_rfl) [⟨[0, 1, 12, 13], (.pair (.list (.int .i64)) (.pair (.list (.int .i64)) (.pair (.int .i64) (.pair (.int .i64) .unit)))), 0, [], .unit, [4], (.pair .bool .unit), loopL b_slices_Equal_int64_4⟩] rfl (by kernel_rfl) (by exact ⟨loop_LOK (lok_slices_Equal_int64_4), trivial⟩) (by kernel_rfl)
  fun x y h => (show execFn Γ0 E0 σ_slices_Equal_int64 Λ_slices_Equal_int64 Try.f135 S_slices_Equal_int64 x = slices_Equal_int64 x by kernel_rfl).trans h

noncomputable def i_sameFrame (x : Ty.T (.pair TFrame (.pair TFrame .unit))) : Option (Ty.T (.pair .bool .unit)) :=
match (x.1.1 == x.2.1.1) with
| true =>
 match (x.1.2.1 == x.2.1.2.1) with
 | true =>
  match (eqT TState (x.1.2.2.1.1, x.1.2.2.1.2.1, x.1.2.2.1.2.2.1, x.1.2.2.1.2.2.2.1, x.1.2.2.1.2.2.2.2.1, ()) (x.2.1.2.2.1.1, x.2.1.2.2.1.2.1, x.2.1.2.2.1.2.2.1, x.2.1.2.2.1.2.2.2.1, x.2.1.2.2.1.2.2.2.2.1, ())) with
  | true =>
   match slices_Equal_int64 (x.1.2.2.2.1, x.2.1.2.2.2.1, ()) with
   | none => none
   | some v1 =>
   some (v1.1, ())
  | false =>
   some (false, ())
 | false =>
  some (false, ())
| false =>
 some (false, ())
noncomputable def S_i_sameFrame : Spec := ⟨(.pair TFrame (.pair TFrame .unit)), (.pair .bool .unit), .unit, rfl, i_sameFrame⟩
noncomputable def σ_i_sameFrame : FuncId → Option Spec := sig [(135, S_slices_Equal_int64)]
theorem σok_i_sameFrame : ∀ f s, σ_i_sameFrame f = some s → FnOK Try.prog f s := sig_ok (l := [(135, S_slices_Equal_int64)]) ⟨ok_slices_Equal_int64, trivial⟩
noncomputable def Λ_i_sameFrame : Nat → Option LSpec := lkp (loopList (bodyOf Try.f106)) []
theorem ok_i_sameFrame : FnOK Try.prog 106 S_i_sameFrame := fn_ok (Λ := Λ_i_sameFrame) tab0 σok_i_sameFrame Try.func106 (by kernel_rfl) (show Try.f106.body = some (bodyOf Try.f106) by kernel_rfl) [] rfl (by kernel_rfl) (by exact trivial) (by kernel_rfl)
  fun x y h => (show execFn Γ0 E0 σ_i_sameFrame Λ_i_sameFrame Try.f106 S_i_sameFrame x = i_sameFrame x by kernel_rfl).trans h

end Go.Proofs.Ytmdflpfagbcaiaa
