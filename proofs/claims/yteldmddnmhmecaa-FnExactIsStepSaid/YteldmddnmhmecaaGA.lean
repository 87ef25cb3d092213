/- What the functions of the claim do, on data; written by the program gen.py. -/
import Derived.Test.YteldmddnmhmecaaLoop
import Derived.Test.YteldmddnmhmecaaProg
import Derived.KernelRfl
namespace Go.Proofs.Yteldmddnmhmecaa
open Go.RowKit
set_option linter.unusedVariables false

def bodyOf (f : Func) : Code := match f.body with | some c => c | none => .skip
def nthLoop (f : Func) (i : Nat) : Code := (loopList (bodyOf f)).getD i .skip
abbrev TerrorAddressString : Ty := (.pair .str (.pair (.int .u64) .unit))
abbrev TState : Ty := (.pair (.int .i64) (.pair (.int .i64) (.pair (.int .i64) (.pair (.int .i64) (.pair (.int .i64) .unit)))))
abbrev TMark : Ty := (.pair TState (.pair (.int .i64) (.pair (.int .i64) .unit)))
abbrev TStep : Ty := (.pair (.int .i64) (.pair (.int .i64) (.pair (.list (.pair (.int .i64) (.pair (.int .i64) (.pair (.int .i64) (.pair (.int .i64) .unit))))) (.pair (.list (.pair (.int .i64) (.pair (.int .i64) (.pair (.int .i64) (.pair (.int .i64) .unit))))) .unit))))
abbrev TStarter : Ty := (.pair (.int .i64) (.pair (.int .i64) (.pair (.int .i64) (.pair (.int .i64) .unit))))
abbrev TboundsError : Ty := (.pair (.int .i64) (.pair (.int .i64) (.pair .bool (.pair (.int .u8) .unit))))
def Γ0 : Tab := [(2, (.int .i64)), (4, .bool), (23, TState), (26, TState), (32, TMark), (35, TMark), (38, (.list (.int .i64))), (43, (.list TStarter)), (46, (.list TStarter)), (50, (.list TMark)), (53, (.list TMark)), (57, (.list TStep)), (68, (.list TStarter)), (70, TStep), (73, (.list TStarter)), (75, TStep), (87, TStarter), (89, TStarter), (109, TStarter), (113, TStarter)]
def E0 : Elems := [(38, 2), (43, 89), (46, 87), (50, 32), (53, 35), (57, 75), (68, 113), (73, 109)]
theorem tab0 : tabB Try.prog Γ0 E0 = true := by kernel_rfl

noncomputable def s_l01In (x : Ty.T (.pair (.int .i64) (.pair (.int .i64) (.pair (.int .i64) .unit)))) : Option (Ty.T (.pair .bool .unit)) :=
match (decide (x.1 ≥ x.2.1)) with
| true =>
 some ((decide (x.1 ≤ x.2.2.1)), ())
| false =>
 some (false, ())
noncomputable def S_s_l01In : Spec := ⟨(.pair (.int .i64) (.pair (.int .i64) (.pair (.int .i64) .unit))), (.pair .bool .unit), .unit, rfl, s_l01In⟩
noncomputable def σ_s_l01In : FuncId → Option Spec := sig []
theorem σok_s_l01In : ∀ f s, σ_s_l01In f = some s → FnOK Try.prog f s := sig_ok (l := []) trivial
noncomputable def Λ_s_l01In : Nat → Option LSpec := lkp (loopList (bodyOf Try.f60)) []
theorem ok_s_l01In : FnOK Try.prog 60 S_s_l01In := fn_ok (Λ := Λ_s_l01In) tab0 σok_s_l01In Try.func60 (by kernel_rfl) (show Try.f60.body = some (bodyOf Try.f60) by kernel_rfl) [] rfl (by kernel_rfl) (by exact trivial) (by kernel_rfl)
  fun x y h => (show execFn Γ0 E0 σ_s_l01In Λ_s_l01In Try.f60 S_s_l01In x = s_l01In x by kernel_rfl).trans h

noncomputable def s_IsState (x : Ty.T (.pair TState .unit)) : Option (Ty.T (.pair .bool .unit)) :=
match s_l01In (x.1.1, (0 : Int), (65535 : Int), ()) with
| none => none
| some v1 =>
match v1.1 with
| true =>
 match s_l01In (x.1.2.1, (0 : Int), (15 : Int), ()) with
 | none => none
 | some v2 =>
 match v2.1 with
 | true =>
  match s_l01In (x.1.2.2.1, (0 : Int), (15 : Int), ()) with
  | none => none
  | some v3 =>
  match v3.1 with
  | true =>
   match s_l01In (x.1.2.2.2.1, (0 : Int), (255 : Int), ()) with
   | none => none
   | some v4 =>
   match v4.1 with
   | true =>
    match s_l01In (x.1.2.2.2.2.1, (0 : Int), (4294967295 : Int), ()) with
    | none => none
    | some v5 =>
    some (v5.1, ())
   | false =>
    some (false, ())
  | false =>
   some (false, ())
 | false =>
  some (false, ())
| false =>
 some (false, ())
noncomputable def S_s_IsState : Spec := ⟨(.pair TState .unit), (.pair .bool .unit), .unit, rfl, s_IsState⟩
noncomputable def σ_s_IsState : FuncId → Option Spec := sig [(60, S_s_l01In)]
theorem σok_s_IsState : ∀ f s, σ_s_IsState f = some s → FnOK Try.prog f s := sig_ok (l := [(60, S_s_l01In)]) ⟨ok_s_l01In, trivial⟩
noncomputable def Λ_s_IsState : Nat → Option LSpec := lkp (loopList (bodyOf Try.f58)) []
theorem ok_s_IsState : FnOK Try.prog 58 S_s_IsState := fn_ok (Λ := Λ_s_IsState) tab0 σok_s_IsState Try.func58 (by kernel_rfl) (show Try.f58.body = some (bodyOf Try.f58) by kernel_rfl) [] rfl (by kernel_rfl) (by exact trivial) (by kernel_rfl)
  fun x y h => (show execFn Γ0 E0 σ_s_IsState Λ_s_IsState Try.f58 S_s_IsState x = s_IsState x by kernel_rfl).trans h

noncomputable def s_LostMembers (x : Ty.T (.pair TState (.pair TState .unit))) : Option (Ty.T (.pair (.int .i64) (.pair (.int .i64) .unit))) :=
match s_IsState ((x.1.1, x.1.2.1, x.1.2.2.1, x.1.2.2.2.1, x.1.2.2.2.2.1, ()), ()) with
| none => none
| some v1 =>
match (!v1.1) with
| true =>
 some ((0 : Int), (1 : Int), ())
| false =>
 match s_IsState ((x.2.1.1, x.2.1.2.1, x.2.1.2.2.1, x.2.1.2.2.2.1, x.2.1.2.2.2.2.1, ()), ()) with
 | none => none
 | some v2 =>
 match (!v2.1) with
 | true =>
  some ((0 : Int), (1 : Int), ())
 | false =>
  some ((bits BinOp.andNot .i64 x.1.2.2.2.2.1 x.2.1.2.2.2.2.1), (0 : Int), ())
noncomputable def S_s_LostMembers : Spec := ⟨(.pair TState (.pair TState .unit)), (.pair (.int .i64) (.pair (.int .i64) .unit)), .unit, rfl, s_LostMembers⟩
noncomputable def σ_s_LostMembers : FuncId → Option Spec := sig [(58, S_s_IsState)]
theorem σok_s_LostMembers : ∀ f s, σ_s_LostMembers f = some s → FnOK Try.prog f s := sig_ok (l := [(58, S_s_IsState)]) ⟨ok_s_IsState, trivial⟩
noncomputable def Λ_s_LostMembers : Nat → Option LSpec := lkp (loopList (bodyOf Try.f15)) []
theorem ok_s_LostMembers : FnOK Try.prog 15 S_s_LostMembers := fn_ok (Λ := Λ_s_LostMembers) tab0 σok_s_LostMembers Try.func15 (by kernel_rfl) (show Try.f15.body = some (bodyOf Try.f15) by kernel_rfl) [] rfl (by kernel_rfl) (by exact trivial) (by kernel_rfl)
  fun x y h => (show execFn Γ0 E0 σ_s_LostMembers Λ_s_LostMembers Try.f15 S_s_LostMembers x = s_LostMembers x by kernel_rfl).trans h

noncomputable def l_toState (x : Ty.T (.pair TState .unit)) : Option (Ty.T (.pair TState .unit)) :=
some ((x.1.1, x.1.2.1, x.1.2.2.1, x.1.2.2.2.1, x.1.2.2.2.2.1, ()), ())
noncomputable def S_l_toState : Spec := ⟨(.pair TState .unit), (.pair TState .unit), .unit, rfl, l_toState⟩
noncomputable def σ_l_toState : FuncId → Option Spec := sig []
theorem σok_l_toState : ∀ f s, σ_l_toState f = some s → FnOK Try.prog f s := sig_ok (l := []) trivial
noncomputable def Λ_l_toState : Nat → Option LSpec := lkp (loopList (bodyOf Try.f16)) []
theorem ok_l_toState : FnOK Try.prog 16 S_l_toState := fn_ok (Λ := Λ_l_toState) tab0 σok_l_toState Try.func16 (by kernel_rfl) (show Try.f16.body = some (bodyOf Try.f16) by kernel_rfl) [] rfl (by kernel_rfl) (by exact trivial) (by kernel_rfl)
  fun x y h => (show execFn Γ0 E0 σ_l_toState Λ_l_toState Try.f16 S_l_toState x = l_toState x by kernel_rfl).trans h

noncomputable def i_within (x : Ty.T (.pair (.int .i64) (.pair (.int .i64) (.pair (.int .i64) .unit)))) : Option (Ty.T (.pair .bool .unit)) :=
match (decide (x.1 ≥ x.2.1)) with
| true =>
 some ((decide (x.1 ≤ x.2.2.1)), ())
| false =>
 some (false, ())
noncomputable def S_i_within : Spec := ⟨(.pair (.int .i64) (.pair (.int .i64) (.pair (.int .i64) .unit))), (.pair .bool .unit), .unit, rfl, i_within⟩
noncomputable def σ_i_within : FuncId → Option Spec := sig []
theorem σok_i_within : ∀ f s, σ_i_within f = some s → FnOK Try.prog f s := sig_ok (l := []) trivial
noncomputable def Λ_i_within : Nat → Option LSpec := lkp (loopList (bodyOf Try.f62)) []
theorem ok_i_within : FnOK Try.prog 62 S_i_within := fn_ok (Λ := Λ_i_within) tab0 σok_i_within Try.func62 (by kernel_rfl) (show Try.f62.body = some (bodyOf Try.f62) by kernel_rfl) [] rfl (by kernel_rfl) (by exact trivial) (by kernel_rfl)
  fun x y h => (show execFn Γ0 E0 σ_i_within Λ_i_within Try.f62 S_i_within x = i_within x by kernel_rfl).trans h

noncomputable def i_isVector (x : Ty.T (.pair (.int .i64) .unit)) : Option (Ty.T (.pair .bool .unit)) :=
match i_within (x.1, (0 : Int), (4294967295 : Int), ()) with
| none => none
| some v1 =>
some (v1.1, ())
noncomputable def S_i_isVector : Spec := ⟨(.pair (.int .i64) .unit), (.pair .bool .unit), .unit, rfl, i_isVector⟩
noncomputable def σ_i_isVector : FuncId → Option Spec := sig [(62, S_i_within)]
theorem σok_i_isVector : ∀ f s, σ_i_isVector f = some s → FnOK Try.prog f s := sig_ok (l := [(62, S_i_within)]) ⟨ok_i_within, trivial⟩
noncomputable def Λ_i_isVector : Nat → Option LSpec := lkp (loopList (bodyOf Try.f93)) []
theorem ok_i_isVector : FnOK Try.prog 93 S_i_isVector := fn_ok (Λ := Λ_i_isVector) tab0 σok_i_isVector Try.func93 (by kernel_rfl) (show Try.f93.body = some (bodyOf Try.f93) by kernel_rfl) [] rfl (by kernel_rfl) (by exact trivial) (by kernel_rfl)
  fun x y h => (show execFn Γ0 E0 σ_i_isVector Λ_i_isVector Try.f93 S_i_isVector x = i_isVector x by kernel_rfl).trans h

noncomputable def i_IsState (x : Ty.T (.pair TState .unit)) : Option (Ty.T (.pair .bool .unit)) :=
match i_within (x.1.1, (0 : Int), (65535 : Int), ()) with
| none => none
| some v1 =>
match v1.1 with
| true =>
 match i_within (x.1.2.1, (0 : Int), (15 : Int), ()) with
 | none => none
 | some v2 =>
 match v2.1 with
 | true =>
  match i_within (x.1.2.2.1, (0 : Int), (15 : Int), ()) with
  | none => none
  | some v3 =>
  match v3.1 with
  | true =>
   match i_within (x.1.2.2.2.1, (0 : Int), (255 : Int), ()) with
   | none => none
   | some v4 =>
   match v4.1 with
   | true =>
    match i_isVector (x.1.2.2.2.2.1, ()) with
    | none => none
    | some v5 =>
    some (v5.1, ())
   | false =>
    some (false, ())
  | false =>
   some (false, ())
 | false =>
  some (false, ())
| false =>
 some (false, ())
noncomputable def S_i_IsState : Spec := ⟨(.pair TState .unit), (.pair .bool .unit), .unit, rfl, i_IsState⟩
noncomputable def σ_i_IsState : FuncId → Option Spec := sig [(62, S_i_within), (93, S_i_isVector)]
theorem σok_i_IsState : ∀ f s, σ_i_IsState f = some s → FnOK Try.prog f s := sig_ok (l := [(62, S_i_within), (93, S_i_isVector)]) ⟨ok_i_within, ok_i_isVector, trivial⟩
noncomputable def Λ_i_IsState : Nat → Option LSpec := lkp (loopList (bodyOf Try.f59)) []
theorem ok_i_IsState : FnOK Try.prog 59 S_i_IsState := fn_ok (Λ := Λ_i_IsState) tab0 σok_i_IsState Try.func59 (by kernel_rfl) (show Try.f59.body = some (bodyOf Try.f59) by kernel_rfl) [] rfl (by kernel_rfl) (by exact trivial) (by kernel_rfl)
  fun x y h => (show execFn Γ0 E0 σ_i_IsState Λ_i_IsState Try.f59 S_i_IsState x = i_IsState x by kernel_rfl).trans h

noncomputable def i_LostMembers (x : Ty.T (.pair TState (.pair TState .unit))) : Option (Ty.T (.pair (.int .i64) (.pair (.int .i64) .unit))) :=
match i_IsState ((x.1.1, x.1.2.1, x.1.2.2.1, x.1.2.2.2.1, x.1.2.2.2.2.1, ()), ()) with
| none => none
| some v1 =>
match (!v1.1) with
| true =>
 some ((0 : Int), (1 : Int), ())
| false =>
 match i_IsState ((x.2.1.1, x.2.1.2.1, x.2.1.2.2.1, x.2.1.2.2.2.1, x.2.1.2.2.2.2.1, ()), ()) with
 | none => none
 | some v2 =>
 match (!v2.1) with
 | true =>
  some ((0 : Int), (1 : Int), ())
 | false =>
  some ((bits BinOp.andNot .i64 x.1.2.2.2.2.1 x.2.1.2.2.2.2.1), (0 : Int), ())
noncomputable def S_i_LostMembers : Spec := ⟨(.pair TState (.pair TState .unit)), (.pair (.int .i64) (.pair (.int .i64) .unit)), .unit, rfl, i_LostMembers⟩
noncomputable def σ_i_LostMembers : FuncId → Option Spec := sig [(59, S_i_IsState)]
theorem σok_i_LostMembers : ∀ f s, σ_i_LostMembers f = some s → FnOK Try.prog f s := sig_ok (l := [(59, S_i_IsState)]) ⟨ok_i_IsState, trivial⟩
noncomputable def Λ_i_LostMembers : Nat → Option LSpec := lkp (loopList (bodyOf Try.f17)) []
theorem ok_i_LostMembers : FnOK Try.prog 17 S_i_LostMembers := fn_ok (Λ := Λ_i_LostMembers) tab0 σok_i_LostMembers Try.func17 (by kernel_rfl) (show Try.f17.body = some (bodyOf Try.f17) by kernel_rfl) [] rfl (by kernel_rfl) (by exact trivial) (by kernel_rfl)
  fun x y h => (show execFn Γ0 E0 σ_i_LostMembers Λ_i_LostMembers Try.f17 S_i_LostMembers x = i_LostMembers x by kernel_rfl).trans h

noncomputable def l_FnExactLostMembers (x : Ty.T (.pair TState (.pair TState .unit))) : Option (Ty.T (.pair .bool .unit)) :=
match l_toState ((x.1.1, x.1.2.1, x.1.2.2.1, x.1.2.2.2.1, x.1.2.2.2.2.1, ()), ()) with
| none => none
| some v1 =>
match l_toState ((x.2.1.1, x.2.1.2.1, x.2.1.2.2.1, x.2.1.2.2.2.1, x.2.1.2.2.2.2.1, ()), ()) with
| none => none
| some v2 =>
match s_LostMembers (v1.1, v2.1, ()) with
| none => none
| some v3 =>
match l_toState ((x.1.1, x.1.2.1, x.1.2.2.1, x.1.2.2.2.1, x.1.2.2.2.2.1, ()), ()) with
| none => none
| some v4 =>
match l_toState ((x.2.1.1, x.2.1.2.1, x.2.1.2.2.1, x.2.1.2.2.2.1, x.2.1.2.2.2.2.1, ()), ()) with
| none => none
| some v5 =>
match i_LostMembers (v4.1, v5.1, ()) with
| none => none
| some v6 =>
match (v6.1 != v3.1) with
| true =>
 some (false, ())
| false =>
 match (v6.2.1 != v3.2.1) with
 | true =>
  some (false, ())
 | false =>
  some (true, ())
noncomputable def S_l_FnExactLostMembers : Spec := ⟨(.pair TState (.pair TState .unit)), (.pair .bool .unit), .unit, rfl, l_FnExactLostMembers⟩
noncomputable def σ_l_FnExactLostMembers : FuncId → Option Spec := sig [(15, S_s_LostMembers), (16, S_l_toState), (17, S_i_LostMembers)]
theorem σok_l_FnExactLostMembers : ∀ f s, σ_l_FnExactLostMembers f = some s → FnOK Try.prog f s := sig_ok (l := [(15, S_s_LostMembers), (16, S_l_toState), (17, S_i_LostMembers)]) ⟨ok_s_LostMembers, ok_l_toState, ok_i_LostMembers, trivial⟩
noncomputable def Λ_l_FnExactLostMembers : Nat → Option LSpec := lkp (loopList (bodyOf Try.f3)) []
theorem ok_l_FnExactLostMembers : FnOK Try.prog 3 S_l_FnExactLostMembers := fn_ok (Λ := Λ_l_FnExactLostMembers) tab0 σok_l_FnExactLostMembers Try.func3 (by kernel_rfl) (show Try.f3.body = some (bodyOf Try.f3) by kernel_rfl) [] rfl (by kernel_rfl) (by exact trivial) (by kernel_rfl)
  fun x y h => (show execFn Γ0 E0 σ_l_FnExactLostMembers Λ_l_FnExactLostMembers Try.f3 S_l_FnExactLostMembers x = l_FnExactLostMembers x by kernel_rfl).trans h

noncomputable def s_l30Out (x : Ty.T (.pair (.int .i64) .unit)) : Option (Ty.T (.pair (.int .i64) .unit)) :=
match (decide (x.1 < (3 : Int))) with
| true =>
 some ((0 : Int), ())
| false =>
 match (decide (x.1 < (8 : Int))) with
 | true =>
  some ((1 : Int), ())
 | false =>
  some ((2 : Int), ())
noncomputable def S_s_l30Out : Spec := ⟨(.pair (.int .i64) .unit), (.pair (.int .i64) .unit), .unit, rfl, s_l30Out⟩
noncomputable def σ_s_l30Out : FuncId → Option Spec := sig []
theorem σok_s_l30Out : ∀ f s, σ_s_l30Out f = some s → FnOK Try.prog f s := sig_ok (l := []) trivial
noncomputable def Λ_s_l30Out : Nat → Option LSpec := lkp (loopList (bodyOf Try.f61)) []
theorem ok_s_l30Out : FnOK Try.prog 61 S_s_l30Out := fn_ok (Λ := Λ_s_l30Out) tab0 σok_s_l30Out Try.func61 (by kernel_rfl) (show Try.f61.body = some (bodyOf Try.f61) by kernel_rfl) [] rfl (by kernel_rfl) (by exact trivial) (by kernel_rfl)
  fun x y h => (show execFn Γ0 E0 σ_s_l30Out Λ_s_l30Out Try.f61 S_s_l30Out x = s_l30Out x by kernel_rfl).trans h

noncomputable def s_LeftOut (x : Ty.T (.pair (.int .i64) .unit)) : Option (Ty.T (.pair (.int .i64) (.pair (.int .i64) .unit))) :=
match s_l01In (x.1, (1 : Int), (32 : Int), ()) with
| none => none
| some v1 =>
match (!v1.1) with
| true =>
 some ((0 : Int), (3 : Int), ())
| false =>
 match s_l30Out (x.1, ()) with
 | none => none
 | some v2 =>
 some (v2.1, (0 : Int), ())
noncomputable def S_s_LeftOut : Spec := ⟨(.pair (.int .i64) .unit), (.pair (.int .i64) (.pair (.int .i64) .unit)), .unit, rfl, s_LeftOut⟩
noncomputable def σ_s_LeftOut : FuncId → Option Spec := sig [(60, S_s_l01In), (61, S_s_l30Out)]
theorem σok_s_LeftOut : ∀ f s, σ_s_LeftOut f = some s → FnOK Try.prog f s := sig_ok (l := [(60, S_s_l01In), (61, S_s_l30Out)]) ⟨ok_s_l01In, ok_s_l30Out, trivial⟩
noncomputable def Λ_s_LeftOut : Nat → Option LSpec := lkp (loopList (bodyOf Try.f18)) []
theorem ok_s_LeftOut : FnOK Try.prog 18 S_s_LeftOut := fn_ok (Λ := Λ_s_LeftOut) tab0 σok_s_LeftOut Try.func18 (by kernel_rfl) (show Try.f18.body = some (bodyOf Try.f18) by kernel_rfl) [] rfl (by kernel_rfl) (by exact trivial) (by kernel_rfl)
  fun x y h => (show execFn Γ0 E0 σ_s_LeftOut Λ_s_LeftOut Try.f18 S_s_LeftOut x = s_LeftOut x by kernel_rfl).trans h

noncomputable def i_leftOut (x : Ty.T (.pair (.int .i64) .unit)) : Option (Ty.T (.pair (.int .i64) .unit)) :=
match (decide (x.1 < (3 : Int))) with
| true =>
 some ((0 : Int), ())
| false =>
 match (decide (x.1 < (8 : Int))) with
 | true =>
  some ((1 : Int), ())
 | false =>
  some ((2 : Int), ())
noncomputable def S_i_leftOut : Spec := ⟨(.pair (.int .i64) .unit), (.pair (.int .i64) .unit), .unit, rfl, i_leftOut⟩
noncomputable def σ_i_leftOut : FuncId → Option Spec := sig []
theorem σok_i_leftOut : ∀ f s, σ_i_leftOut f = some s → FnOK Try.prog f s := sig_ok (l := []) trivial
noncomputable def Λ_i_leftOut : Nat → Option LSpec := lkp (loopList (bodyOf Try.f63)) []
theorem ok_i_leftOut : FnOK Try.prog 63 S_i_leftOut := fn_ok (Λ := Λ_i_leftOut) tab0 σok_i_leftOut Try.func63 (by kernel_rfl) (show Try.f63.body = some (bodyOf Try.f63) by kernel_rfl) [] rfl (by kernel_rfl) (by exact trivial) (by kernel_rfl)
  fun x y h => (show execFn Γ0 E0 σ_i_leftOut Λ_i_leftOut Try.f63 S_i_leftOut x = i_leftOut x by kernel_rfl).trans h

noncomputable def i_LeftOut (x : Ty.T (.pair (.int .i64) .unit)) : Option (Ty.T (.pair (.int .i64) (.pair (.int .i64) .unit))) :=
match i_within (x.1, (1 : Int), (32 : Int), ()) with
| none => none
| some v1 =>
match (!v1.1) with
| true =>
 some ((0 : Int), (3 : Int), ())
| false =>
 match i_leftOut (x.1, ()) with
 | none => none
 | some v2 =>
 some (v2.1, (0 : Int), ())
noncomputable def S_i_LeftOut : Spec := ⟨(.pair (.int .i64) .unit), (.pair (.int .i64) (.pair (.int .i64) .unit)), .unit, rfl, i_LeftOut⟩
noncomputable def σ_i_LeftOut : FuncId → Option Spec := sig [(62, S_i_within), (63, S_i_leftOut)]
theorem σok_i_LeftOut : ∀ f s, σ_i_LeftOut f = some s → FnOK Try.prog f s := sig_ok (l := [(62, S_i_within), (63, S_i_leftOut)]) ⟨ok_i_within, ok_i_leftOut, trivial⟩
noncomputable def Λ_i_LeftOut : Nat → Option LSpec := lkp (loopList (bodyOf Try.f19)) []
theorem ok_i_LeftOut : FnOK Try.prog 19 S_i_LeftOut := fn_ok (Λ := Λ_i_LeftOut) tab0 σok_i_LeftOut Try.func19 (by kernel_rfl) (show Try.f19.body = some (bodyOf Try.f19) by kernel_rfl) [] rfl (by kernel_rfl) (by exact trivial) (by kernel_rfl)
  fun x y h => (show execFn Γ0 E0 σ_i_LeftOut Λ_i_LeftOut Try.f19 S_i_LeftOut x = i_LeftOut x by kernel_rfl).trans h

noncomputable def l_FnExactLeftOut (x : Ty.T (.pair (.int .i64) .unit)) : Option (Ty.T (.pair .bool .unit)) :=
match s_LeftOut (x.1, ()) with
| none => none
| some v1 =>
match i_LeftOut (x.1, ()) with
| none => none
| some v2 =>
match (v2.1 != v1.1) with
| true =>
 some (false, ())
| false =>
 match (v2.2.1 != v1.2.1) with
 | true =>
  some (false, ())
 | false =>
  some (true, ())
noncomputable def S_l_FnExactLeftOut : Spec := ⟨(.pair (.int .i64) .unit), (.pair .bool .unit), .unit, rfl, l_FnExactLeftOut⟩
noncomputable def σ_l_FnExactLeftOut : FuncId → Option Spec := sig [(18, S_s_LeftOut), (19, S_i_LeftOut)]
theorem σok_l_FnExactLeftOut : ∀ f s, σ_l_FnExactLeftOut f = some s → FnOK Try.prog f s := sig_ok (l := [(18, S_s_LeftOut), (19, S_i_LeftOut)]) ⟨ok_s_LeftOut, ok_i_LeftOut, trivial⟩
noncomputable def Λ_l_FnExactLeftOut : Nat → Option LSpec := lkp (loopList (bodyOf Try.f4)) []
theorem ok_l_FnExactLeftOut : FnOK Try.prog 4 S_l_FnExactLeftOut := fn_ok (Λ := Λ_l_FnExactLeftOut) tab0 σok_l_FnExactLeftOut Try.func4 (by kernel_rfl) (show Try.f4.body = some (bodyOf Try.f4) by kernel_rfl) [] rfl (by kernel_rfl) (by exact trivial) (by kernel_rfl)
  fun x y h => (show execFn Γ0 E0 σ_l_FnExactLeftOut Λ_l_FnExactLeftOut Try.f4 S_l_FnExactLeftOut x = l_FnExactLeftOut x by kernel_rfl).trans h

noncomputable def s_l05Node (x : Ty.T (.pair (.int .i64) .unit)) : Option (Ty.T (.pair .bool .unit)) :=
match s_l01In (x.1, (0 : Int), (31 : Int), ()) with
| none => none
| some v1 =>
some (v1.1, ())
noncomputable def S_s_l05Node : Spec := ⟨(.pair (.int .i64) .unit), (.pair .bool .unit), .unit, rfl, s_l05Node⟩
noncomputable def σ_s_l05Node : FuncId → Option Spec := sig [(60, S_s_l01In)]
theorem σok_s_l05Node : ∀ f s, σ_s_l05Node f = some s → FnOK Try.prog f s := sig_ok (l := [(60, S_s_l01In)]) ⟨ok_s_l01In, trivial⟩
noncomputable def Λ_s_l05Node : Nat → Option LSpec := lkp (loopList (bodyOf Try.f64)) []
theorem ok_s_l05Node : FnOK Try.prog 64 S_s_l05Node := fn_ok (Λ := Λ_s_l05Node) tab0 σok_s_l05Node Try.func64 (by kernel_rfl) (show Try.f64.body = some (bodyOf Try.f64) by kernel_rfl) [] rfl (by kernel_rfl) (by exact trivial) (by kernel_rfl)
  fun x y h => (show execFn Γ0 E0 σ_s_l05Node Λ_s_l05Node Try.f64 S_s_l05Node x = s_l05Node x by kernel_rfl).trans h

noncomputable def s_IsMark (x : Ty.T (.pair TMark .unit)) : Option (Ty.T (.pair .bool .unit)) :=
match s_IsState ((x.1.1.1, x.1.1.2.1, x.1.1.2.2.1, x.1.1.2.2.2.1, x.1.1.2.2.2.2.1, ()), ()) with
| none => none
| some v1 =>
match v1.1 with
| true =>
 match s_l05Node (x.1.2.1, ()) with
 | none => none
 | some v2 =>
 match v2.1 with
 | true =>
  match s_l01In (x.1.2.2.1, (0 : Int), (4 : Int), ()) with
  | none => none
  | some v3 =>
  some (v3.1, ())
 | false =>
  some (false, ())
| false =>
 some (false, ())
noncomputable def S_s_IsMark : Spec := ⟨(.pair TMark .unit), (.pair .bool .unit), .unit, rfl, s_IsMark⟩
noncomputable def σ_s_IsMark : FuncId → Option Spec := sig [(58, S_s_IsState), (60, S_s_l01In), (64, S_s_l05Node)]
theorem σok_s_IsMark : ∀ f s, σ_s_IsMark f = some s → FnOK Try.prog f s := sig_ok (l := [(58, S_s_IsState), (60, S_s_l01In), (64, S_s_l05Node)]) ⟨ok_s_IsState, ok_s_l01In, ok_s_l05Node, trivial⟩
noncomputable def Λ_s_IsMark : Nat → Option LSpec := lkp (loopList (bodyOf Try.f20)) []
theorem ok_s_IsMark : FnOK Try.prog 20 S_s_IsMark := fn_ok (Λ := Λ_s_IsMark) tab0 σok_s_IsMark Try.func20 (by kernel_rfl) (show Try.f20.body = some (bodyOf Try.f20) by kernel_rfl) [] rfl (by kernel_rfl) (by exact trivial) (by kernel_rfl)
  fun x y h => (show execFn Γ0 E0 σ_s_IsMark Λ_s_IsMark Try.f20 S_s_IsMark x = s_IsMark x by kernel_rfl).trans h

noncomputable def l_toMark (x : Ty.T (.pair TMark .unit)) : Option (Ty.T (.pair TMark .unit)) :=
match l_toState ((x.1.1.1, x.1.1.2.1, x.1.1.2.2.1, x.1.1.2.2.2.1, x.1.1.2.2.2.2.1, ()), ()) with
| none => none
| some v1 =>
some (((v1.1.1, v1.1.2.1, v1.1.2.2.1, v1.1.2.2.2.1, v1.1.2.2.2.2.1, ()), x.1.2.1, x.1.2.2.1, ()), ())
noncomputable def S_l_toMark : Spec := ⟨(.pair TMark .unit), (.pair TMark .unit), .unit, rfl, l_toMark⟩
noncomputable def σ_l_toMark : FuncId → Option Spec := sig [(16, S_l_toState)]
theorem σok_l_toMark : ∀ f s, σ_l_toMark f = some s → FnOK Try.prog f s := sig_ok (l := [(16, S_l_toState)]) ⟨ok_l_toState, trivial⟩
noncomputable def Λ_l_toMark : Nat → Option LSpec := lkp (loopList (bodyOf Try.f21)) []
theorem ok_l_toMark : FnOK Try.prog 21 S_l_toMark := fn_ok (Λ := Λ_l_toMark) tab0 σok_l_toMark Try.func21 (by kernel_rfl) (show Try.f21.body = some (bodyOf Try.f21) by kernel_rfl) [] rfl (by kernel_rfl) (by exact trivial) (by kernel_rfl)
  fun x y h => (show execFn Γ0 E0 σ_l_toMark Λ_l_toMark Try.f21 S_l_toMark x = l_toMark x by kernel_rfl).trans h

noncomputable def i_isNode (x : Ty.T (.pair (.int .i64) .unit)) : Option (Ty.T (.pair .bool .unit)) :=
match i_within (x.1, (0 : Int), (31 : Int), ()) with
| none => none
| some v1 =>
some (v1.1, ())
noncomputable def S_i_isNode : Spec := ⟨(.pair (.int .i64) .unit), (.pair .bool .unit), .unit, rfl, i_isNode⟩
noncomputable def σ_i_isNode : FuncId → Option Spec := sig [(62, S_i_within)]
theorem σok_i_isNode : ∀ f s, σ_i_isNode f = some s → FnOK Try.prog f s := sig_ok (l := [(62, S_i_within)]) ⟨ok_i_within, trivial⟩
noncomputable def Λ_i_isNode : Nat → Option LSpec := lkp (loopList (bodyOf Try.f65)) []
theorem ok_i_isNode : FnOK Try.prog 65 S_i_isNode := fn_ok (Λ := Λ_i_isNode) tab0 σok_i_isNode Try.func65 (by kernel_rfl) (show Try.f65.body = some (bodyOf Try.f65) by kernel_rfl) [] rfl (by kernel_rfl) (by exact trivial) (by kernel_rfl)
  fun x y h => (show execFn Γ0 E0 σ_i_isNode Λ_i_isNode Try.f65 S_i_isNode x = i_isNode x by kernel_rfl).trans h

noncomputable def i_IsMark (x : Ty.T (.pair TMark .unit)) : Option (Ty.T (.pair .bool .unit)) :=
match i_IsState ((x.1.1.1, x.1.1.2.1, x.1.1.2.2.1, x.1.1.2.2.2.1, x.1.1.2.2.2.2.1, ()), ()) with
| none => none
| some v1 =>
match v1.1 with
| true =>
 match i_isNode (x.1.2.1, ()) with
 | none => none
 | some v2 =>
 match v2.1 with
 | true =>
  match i_within (x.1.2.2.1, (0 : Int), (4 : Int), ()) with
  | none => none
  | some v3 =>
  some (v3.1, ())
 | false =>
  some (false, ())
| false =>
 some (false, ())
noncomputable def S_i_IsMark : Spec := ⟨(.pair TMark .unit), (.pair .bool .unit), .unit, rfl, i_IsMark⟩
noncomputable def σ_i_IsMark : FuncId → Option Spec := sig [(59, S_i_IsState), (62, S_i_within), (65, S_i_isNode)]
theorem σok_i_IsMark : ∀ f s, σ_i_IsMark f = some s → FnOK Try.prog f s := sig_ok (l := [(59, S_i_IsState), (62, S_i_within), (65, S_i_isNode)]) ⟨ok_i_IsState, ok_i_within, ok_i_isNode, trivial⟩
noncomputable def Λ_i_IsMark : Nat → Option LSpec := lkp (loopList (bodyOf Try.f22)) []
theorem ok_i_IsMark : FnOK Try.prog 22 S_i_IsMark := fn_ok (Λ := Λ_i_IsMark) tab0 σok_i_IsMark Try.func22 (by kernel_rfl) (show Try.f22.body = some (bodyOf Try.f22) by kernel_rfl) [] rfl (by kernel_rfl) (by exact trivial) (by kernel_rfl)
  fun x y h => (show execFn Γ0 E0 σ_i_IsMark Λ_i_IsMark Try.f22 S_i_IsMark x = i_IsMark x by kernel_rfl).trans h

noncomputable def l_FnExactIsMark (x : Ty.T (.pair TMark .unit)) : Option (Ty.T (.pair .bool .unit)) :=
match l_toMark (((x.1.1.1, x.1.1.2.1, x.1.1.2.2.1, x.1.1.2.2.2.1, x.1.1.2.2.2.2.1, ()), x.1.2.1, x.1.2.2.1, ()), ()) with
| none => none
| some v1 =>
match s_IsMark (v1.1, ()) with
| none => none
| some v2 =>
match l_toMark (((x.1.1.1, x.1.1.2.1, x.1.1.2.2.1, x.1.1.2.2.2.1, x.1.1.2.2.2.2.1, ()), x.1.2.1, x.1.2.2.1, ()), ()) with
| none => none
| some v3 =>
match i_IsMark (v3.1, ()) with
| none => none
| some v4 =>
match (v4.1 != v2.1) with
| true =>
 some (false, ())
| false =>
 some (true, ())
noncomputable def S_l_FnExactIsMark : Spec := ⟨(.pair TMark .unit), (.pair .bool .unit), .unit, rfl, l_FnExactIsMark⟩
noncomputable def σ_l_FnExactIsMark : FuncId → Option Spec := sig [(20, S_s_IsMark), (21, S_l_toMark), (22, S_i_IsMark)]
theorem σok_l_FnExactIsMark : ∀ f s, σ_l_FnExactIsMark f = some s → FnOK Try.prog f s := sig_ok (l := [(20, S_s_IsMark), (21, S_l_toMark), (22, S_i_IsMark)]) ⟨ok_s_IsMark, ok_l_toMark, ok_i_IsMark, trivial⟩
noncomputable def Λ_l_FnExactIsMark : Nat → Option LSpec := lkp (loopList (bodyOf Try.f5)) []
theorem ok_l_FnExactIsMark : FnOK Try.prog 5 S_l_FnExactIsMark := fn_ok (Λ := Λ_l_FnExactIsMark) tab0 σok_l_FnExactIsMark Try.func5 (by kernel_rfl) (show Try.f5.body = some (bodyOf Try.f5) by kernel_rfl) [] rfl (by kernel_rfl) (by exact trivial) (by kernel_rfl)
  fun x y h => (show execFn Γ0 E0 σ_l_FnExactIsMark Λ_l_FnExactIsMark Try.f5 S_l_FnExactIsMark x = l_FnExactIsMark x by kernel_rfl).trans h

noncomputable def b_s_l30All_2 (x : (Ty.T (.pair (.list (.int .i64)) (.pair (.int .i64) .unit)))) : Option ((Ty.T (.pair (.list (.int .i64)) (.pair (.int .i64) .unit))) ⊕ ((Ty.T .unit) ⊕ (Ty.T (.pair .bool .unit)))) :=
match (decide (x.2.1 < (x.1.length : Int))) with
| true =>
 onSome (idx x.1 x.2.1) fun v1 =>
 match s_l01In (v1, (0 : Int), (1000000000 : Int), ()) with
 | none => none
 | some v2 =>
 match (!v2.1) with
 | true =>
  some (.inr (.inr (false, ())))
 | false =>
  some (.inl (x.1, (IntKind.i64.wrap (x.2.1 + (1 : Int))), ()))
| false =>
 some (.inr (.inl (())))
noncomputable def s_l30All (x : Ty.T (.pair (.list (.int .i64)) .unit)) : Option (Ty.T (.pair .bool .unit)) :=
match loopL b_s_l30All_2 (x.1, (0 : Int), ()) with
| none => none
| some (.inl v3) =>
 some (true, ())
| some (.inr v4) =>
 some (v4.1, ())
noncomputable def S_s_l30All : Spec := ⟨(.pair (.list (.int .i64)) .unit), (.pair .bool .unit), .unit, rfl, s_l30All⟩
noncomputable def σ_s_l30All : FuncId → Option Spec := sig [(60, S_s_l01In)]
theorem σok_s_l30All : ∀ f s, σ_s_l30All f = some s → FnOK Try.prog f s := sig_ok (l := [(60, S_s_l01In)]) ⟨ok_s_l01In, trivial⟩
noncomputable def Λ_s_l30All : Nat → Option LSpec := lkp (loopList (bodyOf Try.f83)) [⟨[0, 3], (.pair (.list (.int .i64)) (.pair (.int .i64) .unit)), 0, [], .unit, [2], (.pair .bool .unit), loopL b_s_l30All_2⟩]
theorem lok_s_l30All_2 (x) : codeK Γ0 E0 σ_s_l30All Λ_s_l30All Try.f83.ntmps (nthLoop Try.f83 0) (mkF Try.f83.ntmps [0, 3] (.pair (.list (.int .i64)) (.pair (.int .i64) .unit)) x) (readK σ_s_l30All Try.f83.ntmps [0, 3] (.pair (.list (.int .i64)) (.pair (.int .i64) .unit)) 0 [] .unit [2] (.pair .bool .unit)) = b_s_l30All_2 x := by kernel_rfl
theorem ok_s_l30All : FnOK Try.prog 83 S_s_l30All := fn_ok (Λ := Λ_s_l30All) tab0 σok_s_l30All Try.func83 (by kernel_rfl) (show Try.f83.body = some (bodyOf Try.f83) by kernel_rfl) [⟨[0, 3], (.pair (.list (.int .i64)) (.pair (.int .i64) .unit)), 0, [], .unit, [2], (.pair .bool .unit), loopL b_s_l30All_2⟩] rfl (by kernel_rfl) (by exact ⟨loop_LOK lok_s_l30All_2, trivial⟩) (by kernel_rfl)
  fun x y h => (show execFn Γ0 E0 σ_s_l30All Λ_s_l30All Try.f83 S_s_l30All x = s_l30All x by kernel_rfl).trans h

noncomputable def s_l30Clocks (x : Ty.T (.pair (.list (.int .i64)) .unit)) : Option (Ty.T (.pair .bool .unit)) :=
match s_l01In ((x.1.length : Int), (1 : Int), (32 : Int), ()) with
| none => none
| some v1 =>
match v1.1 with
| true =>
 match s_l30All (x.1, ()) with
 | none => none
 | some v2 =>
 some (v2.1, ())
| false =>
 some (false, ())
noncomputable def S_s_l30Clocks : Spec := ⟨(.pair (.list (.int .i64)) .unit), (.pair .bool .unit), .unit, rfl, s_l30Clocks⟩
noncomputable def σ_s_l30Clocks : FuncId → Option Spec := sig [(60, S_s_l01In), (83, S_s_l30All)]
theorem σok_s_l30Clocks : ∀ f s, σ_s_l30Clocks f = some s → FnOK Try.prog f s := sig_ok (l := [(60, S_s_l01In), (83, S_s_l30All)]) ⟨ok_s_l01In, ok_s_l30All, trivial⟩
noncomputable def Λ_s_l30Clocks : Nat → Option LSpec := lkp (loopList (bodyOf Try.f66)) []
theorem ok_s_l30Clocks : FnOK Try.prog 66 S_s_l30Clocks := fn_ok (Λ := Λ_s_l30Clocks) tab0 σok_s_l30Clocks Try.func66 (by kernel_rfl) (show Try.f66.body = some (bodyOf Try.f66) by kernel_rfl) [] rfl (by kernel_rfl) (by exact trivial) (by kernel_rfl)
  fun x y h => (show execFn Γ0 E0 σ_s_l30Clocks Λ_s_l30Clocks Try.f66 S_s_l30Clocks x = s_l30Clocks x by kernel_rfl).trans h

noncomputable def b_s_l17Ends_3 (x : (Ty.T (.pair (.list (.int .i64)) (.pair (.int .i64) (.pair (.int .i64) (.pair (.int .i64) .unit)))))) : Option ((Ty.T (.pair (.list (.int .i64)) (.pair (.int .i64) (.pair (.int .i64) (.pair (.int .i64) .unit))))) ⊕ ((Ty.T (.pair (.int .i64) (.pair (.int .i64) .unit))) ⊕ (Ty.T .unit))) :=
match (decide (x.2.2.2.1 < (x.1.length : Int))) with
| true =>
 onSome (idx x.1 x.2.2.2.1) fun v3 =>
 onSome (idx x.1 x.2.2.2.1) fun v4 =>
 some (.inl (x.1, (if v3 < x.2.1 then v3 else x.2.1), (if v4 > x.2.2.1 then v4 else x.2.2.1), (IntKind.i64.wrap (x.2.2.2.1 + (1 : Int))), ()))
| false =>
 some (.inr (.inl (x.2.1, x.2.2.1, ())))
noncomputable def s_l17Ends (x : Ty.T (.pair (.list (.int .i64)) .unit)) : Option (Ty.T (.pair (.int .i64) (.pair (.int .i64) .unit))) :=
onSome (idx x.1 (0 : Int)) fun v1 =>
onSome (idx x.1 (0 : Int)) fun v2 =>
match loopL b_s_l17Ends_3 (x.1, v1, v2, (1 : Int), ()) with
| none => none
| some (.inl v5) =>
 some (v5.1, v5.2.1, ())
| some (.inr v7) =>
 none
noncomputable def S_s_l17Ends : Spec := ⟨(.pair (.list (.int .i64)) .unit), (.pair (.int .i64) (.pair (.int .i64) .unit)), .unit, rfl, s_l17Ends⟩
noncomputable def σ_s_l17Ends : FuncId → Option Spec := sig []
theorem σok_s_l17Ends : ∀ f s, σ_s_l17Ends f = some s → FnOK Try.prog f s := sig_ok (l := []) trivial
noncomputable def Λ_s_l17Ends : Nat → Option LSpec := lkp (loopList (bodyOf Try.f67)) [⟨[0, 4, 5, 6], (.pair (.list (.int .i64)) (.pair (.int .i64) (.pair (.int .i64) (.pair (.int .i64) .unit)))), 0, [4, 5], (.pair (.int .i64) (.pair (.int .i64) .unit)), [], .unit, loopL b_s_l17Ends_3⟩]
theorem lok_s_l17Ends_3 (x) : codeK Γ0 E0 σ_s_l17Ends Λ_s_l17Ends Try.f67.ntmps (nthLoop Try.f67 0) (mkF Try.f67.ntmps [0, 4, 5, 6] (.pair (.list (.int .i64)) (.pair (.int .i64) (.pair (.int .i64) (.pair (.int .i64) .unit)))) x) (readK σ_s_l17Ends Try.f67.ntmps [0, 4, 5, 6] (.pair (.list (.int .i64)) (.pair (.int .i64) (.pair (.int .i64) (.pair (.int .i64) .unit)))) 0 [4, 5] (.pair (.int .i64) (.pair (.int .i64) .unit)) [] .unit) = b_s_l17Ends_3 x := by kernel_rfl
theorem ok_s_l17Ends : FnOK Try.prog 67 S_s_l17Ends := fn_ok (Λ := Λ_s_l17Ends) tab0 σok_s_l17Ends Try.func67 (by kernel_rfl) (show Try.f67.body = some (bodyOf Try.f67) by kernel_rfl) [⟨[0, 4, 5, 6], (.pair (.list (.int .i64)) (.pair (.int .i64) (.pair (.int .i64) (.pair (.int .i64) .unit)))), 0, [4, 5], (.pair (.int .i64) (.pair (.int .i64) .unit)), [], .unit, loopL b_s_l17Ends_3⟩] rfl (by kernel_rfl) (by exact ⟨loop_LOK lok_s_l17Ends_3, trivial⟩) (by kernel_rfl)
  fun x y h => (show execFn Γ0 E0 σ_s_l17Ends Λ_s_l17Ends Try.f67 S_s_l17Ends x = s_l17Ends x by kernel_rfl).trans h

noncomputable def s_SpreadOf (x : Ty.T (.pair (.list (.int .i64)) .unit)) : Option (Ty.T (.pair (.int .i64) (.pair (.int .i64) .unit))) :=
match s_l30Clocks (x.1, ()) with
| none => none
| some v1 =>
match (!v1.1) with
| true =>
 some ((0 : Int), (1 : Int), ())
| false =>
 match s_l17Ends (x.1, ()) with
 | none => none
 | some v2 =>
 some ((IntKind.i64.wrap (v2.2.1 - v2.1)), (0 : Int), ())
noncomputable def S_s_SpreadOf : Spec := ⟨(.pair (.list (.int .i64)) .unit), (.pair (.int .i64) (.pair (.int .i64) .unit)), .unit, rfl, s_SpreadOf⟩
noncomputable def σ_s_SpreadOf : FuncId → Option Spec := sig [(66, S_s_l30Clocks), (67, S_s_l17Ends)]
theorem σok_s_SpreadOf : ∀ f s, σ_s_SpreadOf f = some s → FnOK Try.prog f s := sig_ok (l := [(66, S_s_l30Clocks), (67, S_s_l17Ends)]) ⟨ok_s_l30Clocks, ok_s_l17Ends, trivial⟩
noncomputable def Λ_s_SpreadOf : Nat → Option LSpec := lkp (loopList (bodyOf Try.f23)) []
theorem ok_s_SpreadOf : FnOK Try.prog 23 S_s_SpreadOf := fn_ok (Λ := Λ_s_SpreadOf) tab0 σok_s_SpreadOf Try.func23 (by kernel_rfl) (show Try.f23.body = some (bodyOf Try.f23) by kernel_rfl) [] rfl (by kernel_rfl) (by exact trivial) (by kernel_rfl)
  fun x y h => (show execFn Γ0 E0 σ_s_SpreadOf Λ_s_SpreadOf Try.f23 S_s_SpreadOf x = s_SpreadOf x by kernel_rfl).trans h

noncomputable def b_l_toInt64S_3 (x : (Ty.T (.pair (.list (.int .i64)) (.pair (.own 2 (.int .i64)) (.pair (.int .i64) .unit))))) : Option ((Ty.T (.pair (.list (.int .i64)) (.pair (.own 2 (.int .i64)) (.pair (.int .i64) .unit)))) ⊕ ((Ty.T (.pair (.own 2 (.int .i64)) .unit)) ⊕ (Ty.T .unit))) :=
match (decide (x.2.2.1 < (x.1.length : Int))) with
| true =>
 onSome (idx x.1 x.2.2.1) fun v1 =>
 onSome (idx x.2.1 x.2.2.1) fun _ =>
 match x.2.1[x.2.2.1.toNat]? with
 | none => none
 | some v3 =>
 some (.inl (x.1, (x.2.1.set x.2.2.1.toNat v1), (IntKind.i64.wrap (x.2.2.1 + (1 : Int))), ()))
| false =>
 some (.inr (.inl (x.2.1, ())))
noncomputable def l_toInt64S (x : Ty.T (.pair (.list (.int .i64)) .unit)) : Option (Ty.T (.pair (.own 2 (.int .i64)) .unit)) :=
if 0 ≤ (x.1.length : Int) ∧ (x.1.length : Int) ≤ (x.1.length : Int) then
 room ((x.1.length : Int).toNat) (
  match loopL b_l_toInt64S_3 (x.1, (List.replicate (x.1.length : Int).toNat (0 : Int)), (0 : Int), ()) with
  | none => none
  | some (.inl v4) =>
   some (v4.1, ())
  | some (.inr v6) =>
   none)
else none
noncomputable def S_l_toInt64S : Spec := ⟨(.pair (.list (.int .i64)) .unit), (.pair (.own 2 (.int .i64)) .unit), .unit, rfl, l_toInt64S⟩
noncomputable def σ_l_toInt64S : FuncId → Option Spec := sig []
theorem σok_l_toInt64S : ∀ f s, σ_l_toInt64S f = some s → FnOK Try.prog f s := sig_ok (l := []) trivial
noncomputable def Λ_l_toInt64S : Nat → Option LSpec := lkp (loopList (bodyOf Try.f24)) [⟨[0, 3, 4], (.pair (.list (.int .i64)) (.pair (.own 2 (.int .i64)) (.pair (.int .i64) .unit))), 0, [3], (.pair (.own 2 (.int .i64)) .unit), [], .unit, loopL b_l_toInt64S_3⟩]
theorem lok_l_toInt64S_3 (x) : codeK Γ0 E0 σ_l_toInt64S Λ_l_toInt64S Try.f24.ntmps (nthLoop Try.f24 0) (mkF Try.f24.ntmps [0, 3, 4] (.pair (.list (.int .i64)) (.pair (.own 2 (.int .i64)) (.pair (.int .i64) .unit))) x) (readK σ_l_toInt64S Try.f24.ntmps [0, 3, 4] (.pair (.list (.int .i64)) (.pair (.own 2 (.int .i64)) (.pair (.int .i64) .unit))) 0 [3] (.pair (.own 2 (.int .i64)) .unit) [] .unit) = b_l_toInt64S_3 x := by kernel_rfl
theorem ok_l_toInt64S : FnOK Try.prog 24 S_l_toInt64S := fn_ok (Λ := Λ_l_toInt64S) tab0 σok_l_toInt64S Try.func24 (by kernel_rfl) (show Try.f24.body = some (bodyOf Try.f24) by kernel_rfl) [⟨[0, 3, 4], (.pair (.list (.int .i64)) (.pair (.own 2 (.int .i64)) (.pair (.int .i64) .unit))), 0, [3], (.pair (.own 2 (.int .i64)) .unit), [], .unit, loopL b_l_toInt64S_3⟩] rfl (by kernel_rfl) (by exact ⟨loop_LOK lok_l_toInt64S_3, trivial⟩) (by kernel_rfl)
  fun x y h => (show execFn Γ0 E0 σ_l_toInt64S Λ_l_toInt64S Try.f24 S_l_toInt64S x = l_toInt64S x by kernel_rfl).trans h

noncomputable def b_i_allWithin_2 (x : (Ty.T (.pair (.int .i64) (.pair (.int .i64) (.pair (.list (.int .i64)) (.pair (.int .i64) (.pair (.int .i64) .unit))))))) : Option ((Ty.T (.pair (.int .i64) (.pair (.int .i64) (.pair (.list (.int .i64)) (.pair (.int .i64) (.pair (.int .i64) .unit)))))) ⊕ ((Ty.T .unit) ⊕ (Ty.T (.pair .bool .unit)))) :=
match (decide (x.2.2.2.2.1 < x.2.2.2.1)) with
| true =>
 onSome (idx x.2.2.1 x.2.2.2.2.1) fun v1 =>
 match (decide (v1 < x.1)) with
 | true =>
  some (.inr (.inr (false, ())))
 | false =>
  match (decide (v1 > x.2.1)) with
  | true =>
   some (.inr (.inr (false, ())))
  | false =>
   some (.inl (x.1, x.2.1, x.2.2.1, x.2.2.2.1, (IntKind.i64.wrap (x.2.2.2.2.1 + (1 : Int))), ()))
| false =>
 some (.inr (.inl (())))
noncomputable def i_allWithin (x : Ty.T (.pair (.list (.int .i64)) (.pair (.int .i64) (.pair (.int .i64) .unit)))) : Option (Ty.T (.pair .bool .unit)) :=
match loopL b_i_allWithin_2 (x.2.1, x.2.2.1, x.1, (x.1.length : Int), (0 : Int), ()) with
| none => none
| some (.inl v2) =>
 some (true, ())
| some (.inr v3) =>
 some (v3.1, ())
noncomputable def S_i_allWithin : Spec := ⟨(.pair (.list (.int .i64)) (.pair (.int .i64) (.pair (.int .i64) .unit))), (.pair .bool .unit), .unit, rfl, i_allWithin⟩
noncomputable def σ_i_allWithin : FuncId → Option Spec := sig []
theorem σok_i_allWithin : ∀ f s, σ_i_allWithin f = some s → FnOK Try.prog f s := sig_ok (l := []) trivial
noncomputable def Λ_i_allWithin : Nat → Option LSpec := lkp (loopList (bodyOf Try.f94)) [⟨[1, 2, 9, 10, 11], (.pair (.int .i64) (.pair (.int .i64) (.pair (.list (.int .i64)) (.pair (.int .i64) (.pair (.int .i64) .unit))))), 0, [], .unit, [6], (.pair .bool .unit), loopL b_i_allWithin_2⟩]
theorem lok_i_allWithin_2 (x) : codeK Γ0 E0 σ_i_allWithin Λ_i_allWithin Try.f94.ntmps (nthLoop Try.f94 0) (mkF Try.f94.ntmps [1, 2, 9, 10, 11] (.pair (.int .i64) (.pair (.int .i64) (.pair (.list (.int .i64)) (.pair (.int .i64) (.pair (.int .i64) .unit))))) x) (readK σ_i_allWithin Try.f94.ntmps [1, 2, 9, 10, 11] (.pair (.int .i64) (.pair (.int .i64) (.pair (.list (.int .i64)) (.pair (.int .i64) (.pair (.int .i64) .unit))))) 0 [] .unit [6] (.pair .bool .unit)) = b_i_allWithin_2 x := by kernel_rfl
theorem ok_i_allWithin : FnOK Try.prog 94 S_i_allWithin := fn_ok (Λ := Λ_i_allWithin) tab0 σok_i_allWithin Try.func94 (by kernel_rfl) (show Try.f94.body = some (bodyOf Try.f94) by kernel_rfl) [⟨[1, 2, 9, 10, 11], (.pair (.int .i64) (.pair (.int .i64) (.pair (.list (.int .i64)) (.pair (.int .i64) (.pair (.int .i64) .unit))))), 0, [], .unit, [6], (.pair .bool .unit), loopL b_i_allWithin_2⟩] rfl (by kernel_rfl) (by exact ⟨loop_LOK lok_i_allWithin_2, trivial⟩) (by kernel_rfl)
  fun x y h => (show execFn Γ0 E0 σ_i_allWithin Λ_i_allWithin Try.f94 S_i_allWithin x = i_allWithin x by kernel_rfl).trans h

noncomputable def i_areClocks (x : Ty.T (.pair (.list (.int .i64)) .unit)) : Option (Ty.T (.pair .bool .unit)) :=
match (decide ((x.1.length : Int) ≥ (1 : Int))) with
| true =>
 match (decide ((x.1.length : Int) ≤ (32 : Int))) with
 | true =>
  match i_allWithin (x.1, (0 : Int), (1000000000 : Int), ()) with
  | none => none
  | some v1 =>
  some (v1.1, ())
 | false =>
  some (false, ())
| false =>
 some (false, ())
noncomputable def S_i_areClocks : Spec := ⟨(.pair (.list (.int .i64)) .unit), (.pair .bool .unit), .unit, rfl, i_areClocks⟩
noncomputable def σ_i_areClocks : FuncId → Option Spec := sig [(94, S_i_allWithin)]
theorem σok_i_areClocks : ∀ f s, σ_i_areClocks f = some s → FnOK Try.prog f s := sig_ok (l := [(94, S_i_allWithin)]) ⟨ok_i_allWithin, trivial⟩
noncomputable def Λ_i_areClocks : Nat → Option LSpec := lkp (loopList (bodyOf Try.f68)) []
theorem ok_i_areClocks : FnOK Try.prog 68 S_i_areClocks := fn_ok (Λ := Λ_i_areClocks) tab0 σok_i_areClocks Try.func68 (by kernel_rfl) (show Try.f68.body = some (bodyOf Try.f68) by kernel_rfl) [] rfl (by kernel_rfl) (by exact trivial) (by kernel_rfl)
  fun x y h => (show execFn Γ0 E0 σ_i_areClocks Λ_i_areClocks Try.f68 S_i_areClocks x = i_areClocks x by kernel_rfl).trans h

noncomputable def b_slices_Max_int64_5 (x : (Ty.T (.pair (.list (.int .i64)) (.pair (.int .i64) (.pair (.int .i64) .unit))))) : Option ((Ty.T (.pair (.list (.int .i64)) (.pair (.int .i64) (.pair (.int .i64) .unit)))) ⊕ ((Ty.T (.pair (.int .i64) .unit)) ⊕ (Ty.T .unit))) :=
match (decide (x.2.2.1 < (x.1.length : Int))) with
| true =>
 onSome (idx x.1 x.2.2.1) fun v2 =>
 some (.inl (x.1, (if v2 > x.2.1 then v2 else x.2.1), (IntKind.i64.wrap (x.2.2.1 + (1 : Int))), ()))
| false =>
 some (.inr (.inl (x.2.1, ())))
noncomputable def slices_Max_int64 (x : Ty.T (.pair (.list (.int .i64)) .unit)) : Option (Ty.T (.pair (.int .i64) .unit)) :=
match (decide ((x.1.length : Int) < (1 : Int))) with
| true =>
 none
| false =>
 onSome (idx x.1 (0 : Int)) fun v1 =>
 match loopL b_slices_Max_int64_5 (x.1, v1, (1 : Int), ()) with
 | none => none
 | some (.inl v3) =>
  some (v3.1, ())
 | some (.inr v5) =>
  none
noncomputable def S_slices_Max_int64 : Spec := ⟨(.pair (.list (.int .i64)) .unit), (.pair (.int .i64) .unit), .unit, rfl, slices_Max_int64⟩
noncomputable def σ_slices_Max_int64 : FuncId → Option Spec := sig []
theorem σok_slices_Max_int64 : ∀ f s, σ_slices_Max_int64 f = some s → FnOK Try.prog f s := sig_ok (l := []) trivial
noncomputable def Λ_slices_Max_int64 : Nat → Option LSpec := lkp (loopList (bodyOf Try.f86)) [⟨[0, 3, 4], (.pair (.list (.int .i64)) (.pair (.int .i64) (.pair (.int .i64) .unit))), 0, [3], (.pair (.int .i64) .unit), [], .unit, loopL b_slices_Max_int64_5⟩]
theorem lok_slices_Max_int64_5 (x) : codeK Γ0 E0 σ_slices_Max_int64 Λ_slices_Max_int64 Try.f86.ntmps (nthLoop Try.f86 0) (mkF Try.f86.ntmps [0, 3, 4] (.pair (.list (.int .i64)) (.pair (.int .i64) (.pair (.int .i64) .unit))) x) (readK σ_slices_Max_int64 Try.f86.ntmps [0, 3, 4] (.pair (.list (.int .i64)) (.pair (.int .i64) (.pair (.int .i64) .unit))) 0 [3] (.pair (.int .i64) .unit) [] .unit) = b_slices_Max_int64_5 x := by kernel_rfl
theorem ok_slices_Max_int64 : FnOK Try.prog 86 S_slices_Max_int64 := fn_ok (Λ := Λ_slices_Max_int64) tab0 σok_slices_Max_int64 Try.func86 (by kernel_rfl) (show Try.f86.body = some (bodyOf Try.f86) by kernel_rfl) [⟨[0, 3, 4], (.pair (.list (.int .i64)) (.pair (.int .i64) (.pair (.int .i64) .unit))), 0, [3], (.pair (.int .i64) .unit), [], .unit, loopL b_slices_Max_int64_5⟩] rfl (by kernel_rfl) (by exact ⟨loop_LOK lok_slices_Max_int64_5, trivial⟩) (by kernel_rfl)
  fun x y h => (show execFn Γ0 E0 σ_slices_Max_int64 Λ_slices_Max_int64 Try.f86 S_slices_Max_int64 x = slices_Max_int64 x by kernel_rfl).trans h

noncomputable def b_slices_Min_int64_5 (x : (Ty.T (.pair (.list (.int .i64)) (.pair (.int .i64) (.pair (.int .i64) .unit))))) : Option ((Ty.T (.pair (.list (.int .i64)) (.pair (.int .i64) (.pair (.int .i64) .unit)))) ⊕ ((Ty.T (.pair (.int .i64) .unit)) ⊕ (Ty.T .unit))) :=
match (decide (x.2.2.1 < (x.1.length : Int))) with
| true =>
 onSome (idx x.1 x.2.2.1) fun v2 =>
 some (.inl (x.1, (if v2 < x.2.1 then v2 else x.2.1), (IntKind.i64.wrap (x.2.2.1 + (1 : Int))), ()))
| false =>
 some (.inr (.inl (x.2.1, ())))
noncomputable def slices_Min_int64 (x : Ty.T (.pair (.list (.int .i64)) .unit)) : Option (Ty.T (.pair (.int .i64) .unit)) :=
match (decide ((x.1.length : Int) < (1 : Int))) with
| true =>
 none
| false =>
 onSome (idx x.1 (0 : Int)) fun v1 =>
 match loopL b_slices_Min_int64_5 (x.1, v1, (1 : Int), ()) with
 | none => none
 | some (.inl v3) =>
  some (v3.1, ())
 | some (.inr v5) =>
  none
noncomputable def S_slices_Min_int64 : Spec := ⟨(.pair (.list (.int .i64)) .unit), (.pair (.int .i64) .unit), .unit, rfl, slices_Min_int64⟩
noncomputable def σ_slices_Min_int64 : FuncId → Option Spec := sig []
theorem σok_slices_Min_int64 : ∀ f s, σ_slices_Min_int64 f = some s → FnOK Try.prog f s := sig_ok (l := []) trivial
noncomputable def Λ_slices_Min_int64 : Nat → Option LSpec := lkp (loopList (bodyOf Try.f95)) [⟨[0, 3, 4], (.pair (.list (.int .i64)) (.pair (.int .i64) (.pair (.int .i64) .unit))), 0, [3], (.pair (.int .i64) .unit), [], .unit, loopL b_slices_Min_int64_5⟩]
theorem lok_slices_Min_int64_5 (x) : codeK Γ0 E0 σ_slices_Min_int64 Λ_slices_Min_int64 Try.f95.ntmps (nthLoop Try.f95 0) (mkF Try.f95.ntmps [0, 3, 4] (.pair (.list (.int .i64)) (.pair (.int .i64) (.pair (.int .i64) .unit))) x) (readK σ_slices_Min_int64 Try.f95.ntmps [0, 3, 4] (.pair (.list (.int .i64)) (.pair (.int .i64) (.pair (.int .i64) .unit))) 0 [3] (.pair (.int .i64) .unit) [] .unit) = b_slices_Min_int64_5 x := by kernel_rfl
theorem ok_slices_Min_int64 : FnOK Try.prog 95 S_slices_Min_int64 := fn_ok (Λ := Λ_slices_Min_int64) tab0 σok_slices_Min_int64 Try.func95 (by kernel_rfl) (show Try.f95.body = some (bodyOf Try.f95) by kernel_rfl) [⟨[0, 3, 4], (.pair (.list (.int .i64)) (.pair (.int .i64) (.pair (.int .i64) .unit))), 0, [3], (.pair (.int .i64) .unit), [], .unit, loopL b_slices_Min_int64_5⟩] rfl (by kernel_rfl) (by exact ⟨loop_LOK lok_slices_Min_int64_5, trivial⟩) (by kernel_rfl)
  fun x y h => (show execFn Γ0 E0 σ_slices_Min_int64 Λ_slices_Min_int64 Try.f95 S_slices_Min_int64 x = slices_Min_int64 x by kernel_rfl).trans h

noncomputable def i_spreadOf (x : Ty.T (.pair (.list (.int .i64)) .unit)) : Option (Ty.T (.pair (.int .i64) .unit)) :=
match slices_Max_int64 (x.1, ()) with
| none => none
| some v1 =>
match slices_Min_int64 (x.1, ()) with
| none => none
| some v2 =>
some ((IntKind.i64.wrap (v1.1 - v2.1)), ())
noncomputable def S_i_spreadOf : Spec := ⟨(.pair (.list (.int .i64)) .unit), (.pair (.int .i64) .unit), .unit, rfl, i_spreadOf⟩
noncomputable def σ_i_spreadOf : FuncId → Option Spec := sig [(86, S_slices_Max_int64), (95, S_slices_Min_int64)]
theorem σok_i_spreadOf : ∀ f s, σ_i_spreadOf f = some s → FnOK Try.prog f s := sig_ok (l := [(86, S_slices_Max_int64), (95, S_slices_Min_int64)]) ⟨ok_slices_Max_int64, ok_slices_Min_int64, trivial⟩
noncomputable def Λ_i_spreadOf : Nat → Option LSpec := lkp (loopList (bodyOf Try.f69)) []
theorem ok_i_spreadOf : FnOK Try.prog 69 S_i_spreadOf := fn_ok (Λ := Λ_i_spreadOf) tab0 σok_i_spreadOf Try.func69 (by kernel_rfl) (show Try.f69.body = some (bodyOf Try.f69) by kernel_rfl) [] rfl (by kernel_rfl) (by exact trivial) (by kernel_rfl)
  fun x y h => (show execFn Γ0 E0 σ_i_spreadOf Λ_i_spreadOf Try.f69 S_i_spreadOf x = i_spreadOf x by kernel_rfl).trans h

noncomputable def i_SpreadOf (x : Ty.T (.pair (.list (.int .i64)) .unit)) : Option (Ty.T (.pair (.int .i64) (.pair (.int .i64) .unit))) :=
match i_areClocks (x.1, ()) with
| none => none
| some v1 =>
match (!v1.1) with
| true =>
 some ((0 : Int), (1 : Int), ())
| false =>
 match i_spreadOf (x.1, ()) with
 | none => none
 | some v2 =>
 some (v2.1, (0 : Int), ())
noncomputable def S_i_SpreadOf : Spec := ⟨(.pair (.list (.int .i64)) .unit), (.pair (.int .i64) (.pair (.int .i64) .unit)), .unit, rfl, i_SpreadOf⟩
noncomputable def σ_i_SpreadOf : FuncId → Option Spec := sig [(68, S_i_areClocks), (69, S_i_spreadOf)]
theorem σok_i_SpreadOf : ∀ f s, σ_i_SpreadOf f = some s → FnOK Try.prog f s := sig_ok (l := [(68, S_i_areClocks), (69, S_i_spreadOf)]) ⟨ok_i_areClocks, ok_i_spreadOf, trivial⟩
noncomputable def Λ_i_SpreadOf : Nat → Option LSpec := lkp (loopList (bodyOf Try.f25)) []
theorem ok_i_SpreadOf : FnOK Try.prog 25 S_i_SpreadOf := fn_ok (Λ := Λ_i_SpreadOf) tab0 σok_i_SpreadOf Try.func25 (by kernel_rfl) (show Try.f25.body = some (bodyOf Try.f25) by kernel_rfl) [] rfl (by kernel_rfl) (by exact trivial) (by kernel_rfl)
  fun x y h => (show execFn Γ0 E0 σ_i_SpreadOf Λ_i_SpreadOf Try.f25 S_i_SpreadOf x = i_SpreadOf x by kernel_rfl).trans h

noncomputable def b_l_eqInt64S_4 (x : (Ty.T (.pair (.list (.int .i64)) (.pair (.list (.int .i64)) (.pair (.int .i64) .unit))))) : Option ((Ty.T (.pair (.list (.int .i64)) (.pair (.list (.int .i64)) (.pair (.int .i64) .unit)))) ⊕ ((Ty.T .unit) ⊕ (Ty.T (.pair .bool .unit)))) :=
match (decide (x.2.2.1 < (x.1.length : Int))) with
| true =>
 onSome (idx x.1 x.2.2.1) fun v1 =>
 onSome (idx x.2.1 x.2.2.1) fun v2 =>
 match (v1 != v2) with
 | true =>
  some (.inr (.inr (false, ())))
 | false =>
  some (.inl (x.1, x.2.1, (IntKind.i64.wrap (x.2.2.1 + (1 : Int))), ()))
| false =>
 some (.inr (.inl (())))
noncomputable def l_eqInt64S (x : Ty.T (.pair (.list (.int .i64)) (.pair (.list (.int .i64)) .unit))) : Option (Ty.T (.pair .bool .unit)) :=
match ((x.1.length : Int) != (x.2.1.length : Int)) with
| true =>
 some (false, ())
| false =>
 match loopL b_l_eqInt64S_4 (x.1, x.2.1, (0 : Int), ()) with
 | none => none
 | some (.inl v3) =>
  some (true, ())
 | some (.inr v4) =>
  some (v4.1, ())
noncomputable def S_l_eqInt64S : Spec := ⟨(.pair (.list (.int .i64)) (.pair (.list (.int .i64)) .unit)), (.pair .bool .unit), .unit, rfl, l_eqInt64S⟩
noncomputable def σ_l_eqInt64S : FuncId → Option Spec := sig []
theorem σok_l_eqInt64S : ∀ f s, σ_l_eqInt64S f = some s → FnOK Try.prog f s := sig_ok (l := []) trivial
noncomputable def Λ_l_eqInt64S : Nat → Option LSpec := lkp (loopList (bodyOf Try.f26)) [⟨[0, 1, 5], (.pair (.list (.int .i64)) (.pair (.list (.int .i64)) (.pair (.int .i64) .unit))), 0, [], .unit, [4], (.pair .bool .unit), loopL b_l_eqInt64S_4⟩]
theorem lok_l_eqInt64S_4 (x) : codeK Γ0 E0 σ_l_eqInt64S Λ_l_eqInt64S Try.f26.ntmps (nthLoop Try.f26 0) (mkF Try.f26.ntmps [0, 1, 5] (.pair (.list (.int .i64)) (.pair (.list (.int .i64)) (.pair (.int .i64) .unit))) x) (readK σ_l_eqInt64S Try.f26.ntmps [0, 1, 5] (.pair (.list (.int .i64)) (.pair (.list (.int .i64)) (.pair (.int .i64) .unit))) 0 [] .unit [4] (.pair .bool .unit)) = b_l_eqInt64S_4 x := by kernel_rfl
theorem ok_l_eqInt64S : FnOK Try.prog 26 S_l_eqInt64S := fn_ok (Λ := Λ_l_eqInt64S) tab0 σok_l_eqInt64S Try.func26 (by kernel_rfl) (show Try.f26.body = some (bodyOf Try.f26) by kernel_rfl) [⟨[0, 1, 5], (.pair (.list (.int .i64)) (.pair (.list (.int .i64)) (.pair (.int .i64) .unit))), 0, [], .unit, [4], (.pair .bool .unit), loopL b_l_eqInt64S_4⟩] rfl (by kernel_rfl) (by exact ⟨loop_LOK lok_l_eqInt64S_4, trivial⟩) (by kernel_rfl)
  fun x y h => (show execFn Γ0 E0 σ_l_eqInt64S Λ_l_eqInt64S Try.f26 S_l_eqInt64S x = l_eqInt64S x by kernel_rfl).trans h

noncomputable def l_FnExactSpreadOf (x : Ty.T (.pair (.list (.int .i64)) .unit)) : Option (Ty.T (.pair .bool .unit)) :=
match (decide ((x.1.length : Int) > (1048576 : Int))) with
| true =>
 some (true, ())
| false =>
 match l_toInt64S (x.1, ()) with
 | none => none
 | some v1 =>
 match s_SpreadOf (v1.1, ()) with
 | none => none
 | some v2 =>
 match l_toInt64S (x.1, ()) with
 | none => none
 | some v3 =>
 match i_SpreadOf (v3.1, ()) with
 | none => none
 | some v4 =>
 match (v4.1 != v2.1) with
 | true =>
  some (false, ())
 | false =>
  match (v4.2.1 != v2.2.1) with
  | true =>
   some (false, ())
  | false =>
   match l_toInt64S (x.1, ()) with
   | none => none
   | some v5 =>
   match l_eqInt64S (v3.1, v5.1, ()) with
   | none => none
   | some v6 =>
   match (!v6.1) with
   | true =>
    some (false, ())
   | false =>
    some (true, ())
noncomputable def S_l_FnExactSpreadOf : Spec := ⟨(.pair (.list (.int .i64)) .unit), (.pair .bool .unit), .unit, rfl, l_FnExactSpreadOf⟩
noncomputable def σ_l_FnExactSpreadOf : FuncId → Option Spec := sig [(23, S_s_SpreadOf), (24, S_l_toInt64S), (25, S_i_SpreadOf), (26, S_l_eqInt64S)]
theorem σok_l_FnExactSpreadOf : ∀ f s, σ_l_FnExactSpreadOf f = some s → FnOK Try.prog f s := sig_ok (l := [(23, S_s_SpreadOf), (24, S_l_toInt64S), (25, S_i_SpreadOf), (26, S_l_eqInt64S)]) ⟨ok_s_SpreadOf, ok_l_toInt64S, ok_i_SpreadOf, ok_l_eqInt64S, trivial⟩
noncomputable def Λ_l_FnExactSpreadOf : Nat → Option LSpec := lkp (loopList (bodyOf Try.f6)) []
theorem ok_l_FnExactSpreadOf : FnOK Try.prog 6 S_l_FnExactSpreadOf := fn_ok (Λ := Λ_l_FnExactSpreadOf) tab0 σok_l_FnExactSpreadOf Try.func6 (by kernel_rfl) (show Try.f6.body = some (bodyOf Try.f6) by kernel_rfl) [] rfl (by kernel_rfl) (by exact trivial) (by kernel_rfl)
  fun x y h => (show execFn Γ0 E0 σ_l_FnExactSpreadOf Λ_l_FnExactSpreadOf Try.f6 S_l_FnExactSpreadOf x = l_FnExactSpreadOf x by kernel_rfl).trans h

noncomputable def l_szStarterS (x : Ty.T (.pair (.list TStarter) (.pair (.int .i64) .unit))) : Option (Ty.T (.pair (.int .i64) .unit)) :=
match (decide ((IntKind.i64.wrap (x.2.1 - (x.1.length : Int))) < (0 : Int))) with
| true =>
 some ((-1 : Int), ())
| false =>
 some ((IntKind.i64.wrap (x.2.1 - (x.1.length : Int))), ())
noncomputable def S_l_szStarterS : Spec := ⟨(.pair (.list TStarter) (.pair (.int .i64) .unit)), (.pair (.int .i64) .unit), .unit, rfl, l_szStarterS⟩
noncomputable def σ_l_szStarterS : FuncId → Option Spec := sig []
theorem σok_l_szStarterS : ∀ f s, σ_l_szStarterS f = some s → FnOK Try.prog f s := sig_ok (l := []) trivial
noncomputable def Λ_l_szStarterS : Nat → Option LSpec := lkp (loopList (bodyOf Try.f27)) []
theorem ok_l_szStarterS : FnOK Try.prog 27 S_l_szStarterS := fn_ok (Λ := Λ_l_szStarterS) tab0 σok_l_szStarterS Try.func27 (by kernel_rfl) (show Try.f27.body = some (bodyOf Try.f27) by kernel_rfl) [] rfl (by kernel_rfl) (by exact trivial) (by kernel_rfl)
  fun x y h => (show execFn Γ0 E0 σ_l_szStarterS Λ_l_szStarterS Try.f27 S_l_szStarterS x = l_szStarterS x by kernel_rfl).trans h

noncomputable def b_s_AreStarters_8 (x : (Ty.T (.pair (.list TStarter) (.pair (.int .i64) (.pair (.box TStarter) (.pair (.int .i64) .unit)))))) : Option ((Ty.T (.pair (.list TStarter) (.pair (.int .i64) (.pair (.box TStarter) (.pair (.int .i64) .unit))))) ⊕ ((Ty.T (.pair (.list TStarter) (.pair (.int .i64) .unit))) ⊕ (Ty.T (.pair .bool .unit)))) :=
match (decide (x.2.2.2.1 < x.2.1)) with
| true =>
 onSome (idx x.1 x.2.2.2.1) fun v6 =>
 match (v6.1 == x.2.2.1.1) with
 | true =>
  some (.inr (.inr (false, ())))
 | false =>
  onSome (idx x.1 x.2.2.2.1) fun v7 =>
  match (v7.2.2.2.1 == x.2.2.1.2.2.2.1) with
  | true =>
   some (.inr (.inr (false, ())))
  | false =>
   some (.inl (x.1, x.2.1, (x.2.2.1.1, x.2.2.1.2.1, x.2.2.1.2.2.1, x.2.2.1.2.2.2.1, ()), (IntKind.i64.wrap (x.2.2.2.1 + (1 : Int))), ()))
| false =>
 some (.inr (.inl (x.1, x.2.1, ())))
noncomputable def b_s_AreStarters_2 (x : (Ty.T (.pair (.list TStarter) (.pair (.int .i64) .unit)))) : Option ((Ty.T (.pair (.list TStarter) (.pair (.int .i64) .unit))) ⊕ ((Ty.T (.pair (.list TStarter) .unit)) ⊕ (Ty.T (.pair .bool .unit)))) :=
match (decide (x.2.1 < (x.1.length : Int))) with
| true =>
 onSome (idx x.1 x.2.1) fun v1 =>
 match s_l05Node (v1.1, ()) with
 | none => none
 | some v2 =>
 match (!v2.1) with
 | true =>
  some (.inr (.inr (false, ())))
 | false =>
  match s_l01In (v1.2.1, (0 : Int), (100000 : Int), ()) with
  | none => none
  | some v3 =>
  match (!v3.1) with
  | true =>
   some (.inr (.inr (false, ())))
  | false =>
   match s_l01In (v1.2.2.1, (1 : Int), (100000 : Int), ()) with
   | none => none
   | some v4 =>
   match (!v4.1) with
   | true =>
    some (.inr (.inr (false, ())))
   | false =>
    match s_l01In (v1.2.2.2.1, (1 : Int), (100000 : Int), ()) with
    | none => none
    | some v5 =>
    match (!v5.1) with
    | true =>
     some (.inr (.inr (false, ())))
    | false =>
     match loopL b_s_AreStarters_8 (x.1, x.2.1, (v1.1, v1.2.1, v1.2.2.1, v1.2.2.2.1, ()), (0 : Int), ()) with
     | none => none
     | some (.inl v6) =>
      some (.inl (v6.1, (IntKind.i64.wrap (v6.2.1 + (1 : Int))), ()))
     | some (.inr v7) =>
      some (.inr (.inr (v7.1, ())))
| false =>
 some (.inr (.inl (x.1, ())))
noncomputable def s_AreStarters (x : Ty.T (.pair (.list TStarter) .unit)) : Option (Ty.T (.pair .bool .unit)) :=
match loopL b_s_AreStarters_2 (x.1, (0 : Int), ()) with
| none => none
| some (.inl v8) =>
 match s_l01In ((v8.1.length : Int), (1 : Int), (32 : Int), ()) with
 | none => none
 | some v10 =>
 some (v10.1, ())
| some (.inr v9) =>
 some (v9.1, ())
noncomputable def S_s_AreStarters : Spec := ⟨(.pair (.list TStarter) .unit), (.pair .bool .unit), .unit, rfl, s_AreStarters⟩
noncomputable def σ_s_AreStarters : FuncId → Option Spec := sig [(60, S_s_l01In), (64, S_s_l05Node)]
theorem σok_s_AreStarters : ∀ f s, σ_s_AreStarters f = some s → FnOK Try.prog f s := sig_ok (l := [(60, S_s_l01In), (64, S_s_l05Node)]) ⟨ok_s_l01In, ok_s_l05Node, trivial⟩
noncomputable def Λ_s_AreStarters : Nat → Option LSpec := lkp (loopList (bodyOf Try.f28)) [⟨[0, 3], (.pair (.list TStarter) (.pair (.int .i64) .unit)), 0, [0], (.pair (.list TStarter) .unit), [2], (.pair .bool .unit), loopL b_s_AreStarters_2⟩, ⟨[0, 3, 4, 5], (.pair (.list TStarter) (.pair (.int .i64) (.pair (.box TStarter) (.pair (.int .i64) .unit)))), 2, [0, 3], (.pair (.list TStarter) (.pair (.int .i64) .unit)), [2], (.pair .bool .unit), loopL b_s_AreStarters_8⟩]
theorem lok_s_AreStarters_2 (x) : codeK Γ0 E0 σ_s_AreStarters Λ_s_AreStarters Try.f28.ntmps (nthLoop Try.f28 0) (mkF Try.f28.ntmps [0, 3] (.pair (.list TStarter) (.pair (.int .i64) .unit)) x) (readK σ_s_AreStarters Try.f28.ntmps [0, 3] (.pair (.list TStarter) (.pair (.int .i64) .unit)) 0 [0] (.pair (.list TStarter) .unit) [2] (.pair .bool .unit)) = b_s_AreStarters_2 x := by kernel_rfl
theorem lok_s_AreStarters_8 (x) : codeK Γ0 E0 σ_s_AreStarters Λ_s_AreStarters Try.f28.ntmps (nthLoop Try.f28 1) (mkF Try.f28.ntmps [0, 3, 4, 5] (.pair (.list TStarter) (.pair (.int .i64) (.pair (.box TStarter) (.pair (.int .i64) .unit)))) x) (readK σ_s_AreStarters Try.f28.ntmps [0, 3, 4, 5] (.pair (.list TStarter) (.pair (.int .i64) (.pair (.box TStarter) (.pair (.int .i64) .unit)))) 2 [0, 3] (.pair (.list TStarter) (.pair (.int .i64) .unit)) [2] (.pair .bool .unit)) = b_s_AreStarters_8 x := by kernel_rfl
theorem ok_s_AreStarters : FnOK Try.prog 28 S_s_AreStarters := fn_ok (Λ := Λ_s_AreStarters) tab0 σok_s_AreStarters Try.func28 (by kernel_rfl) (show Try.f28.body = some (bodyOf Try.f28) by kernel_rfl) [⟨[0, 3], (.pair (.list TStarter) (.pair (.int .i64) .unit)), 0, [0], (.pair (.list TStarter) .unit), [2], (.pair .bool .unit), loopL b_s_AreStarters_2⟩, ⟨[0, 3, 4, 5], (.pair (.list TStarter) (.pair (.int .i64) (.pair (.box TStarter) (.pair (.int .i64) .unit)))), 2, [0, 3], (.pair (.list TStarter) (.pair (.int .i64) .unit)), [2], (.pair .bool .unit), loopL b_s_AreStarters_8⟩] rfl (by kernel_rfl) (by exact ⟨loop_LOK lok_s_AreStarters_2, loop_LOK lok_s_AreStarters_8, trivial⟩) (by kernel_rfl)
  fun x y h => (show execFn Γ0 E0 σ_s_AreStarters Λ_s_AreStarters Try.f28 S_s_AreStarters x = s_AreStarters x by kernel_rfl).trans h

noncomputable def l_toStarter (x : Ty.T (.pair TStarter .unit)) : Option (Ty.T (.pair TStarter .unit)) :=
some ((x.1.1, x.1.2.1, x.1.2.2.1, x.1.2.2.2.1, ()), ())
noncomputable def S_l_toStarter : Spec := ⟨(.pair TStarter .unit), (.pair TStarter .unit), .unit, rfl, l_toStarter⟩
noncomputable def σ_l_toStarter : FuncId → Option Spec := sig []
theorem σok_l_toStarter : ∀ f s, σ_l_toStarter f = some s → FnOK Try.prog f s := sig_ok (l := []) trivial
noncomputable def Λ_l_toStarter : Nat → Option LSpec := lkp (loopList (bodyOf Try.f70)) []
theorem ok_l_toStarter : FnOK Try.prog 70 S_l_toStarter := fn_ok (Λ := Λ_l_toStarter) tab0 σok_l_toStarter Try.func70 (by kernel_rfl) (show Try.f70.body = some (bodyOf Try.f70) by kernel_rfl) [] rfl (by kernel_rfl) (by exact trivial) (by kernel_rfl)
  fun x y h => (show execFn Γ0 E0 σ_l_toStarter Λ_l_toStarter Try.f70 S_l_toStarter x = l_toStarter x by kernel_rfl).trans h

noncomputable def b_l_toStarterS_3 (x : (Ty.T (.pair (.list TStarter) (.pair (.own 87 TStarter) (.pair (.int .i64) .unit))))) : Option ((Ty.T (.pair (.list TStarter) (.pair (.own 87 TStarter) (.pair (.int .i64) .unit)))) ⊕ ((Ty.T (.pair (.own 87 TStarter) .unit)) ⊕ (Ty.T .unit))) :=
match (decide (x.2.2.1 < (x.1.length : Int))) with
| true =>
 onSome (idx x.1 x.2.2.1) fun v1 =>
 match l_toStarter (v1, ()) with
 | none => none
 | some v2 =>
 onSome (idx x.2.1 x.2.2.1) fun _ =>
 match x.2.1[x.2.2.1.toNat]? with
 | none => none
 | some v4 =>
 some (.inl (x.1, (x.2.1.set x.2.2.1.toNat (v2.1.1, v2.1.2.1, v2.1.2.2.1, v2.1.2.2.2.1, ())), (IntKind.i64.wrap (x.2.2.1 + (1 : Int))), ()))
| false =>
 some (.inr (.inl (x.2.1, ())))
noncomputable def l_toStarterS (x : Ty.T (.pair (.list TStarter) .unit)) : Option (Ty.T (.pair (.own 87 TStarter) .unit)) :=
if 0 ≤ (x.1.length : Int) ∧ (x.1.length : Int) ≤ (x.1.length : Int) then
 room ((x.1.length : Int).toNat) (
  match loopL b_l_toStarterS_3 (x.1, (List.replicate (x.1.length : Int).toNat ((0 : Int), (0 : Int), (0 : Int), (0 : Int), ())), (0 : Int), ()) with
  | none => none
  | some (.inl v5) =>
   some (v5.1, ())
  | some (.inr v7) =>
   none)
else none
noncomputable def S_l_toStarterS : Spec := ⟨(.pair (.list TStarter) .unit), (.pair (.own 87 TStarter) .unit), .unit, rfl, l_toStarterS⟩
noncomputable def σ_l_toStarterS : FuncId → Option Spec := sig [(70, S_l_toStarter)]
theorem σok_l_toStarterS : ∀ f s, σ_l_toStarterS f = some s → FnOK Try.prog f s := sig_ok (l := [(70, S_l_toStarter)]) ⟨ok_l_toStarter, trivial⟩
noncomputable def Λ_l_toStarterS : Nat → Option LSpec := lkp (loopList (bodyOf Try.f29)) [⟨[0, 3, 4], (.pair (.list TStarter) (.pair (.own 87 TStarter) (.pair (.int .i64) .unit))), 0, [3], (.pair (.own 87 TStarter) .unit), [], .unit, loopL b_l_toStarterS_3⟩]
theorem lok_l_toStarterS_3 (x) : codeK Γ0 E0 σ_l_toStarterS Λ_l_toStarterS Try.f29.ntmps (nthLoop Try.f29 0) (mkF Try.f29.ntmps [0, 3, 4] (.pair (.list TStarter) (.pair (.own 87 TStarter) (.pair (.int .i64) .unit))) x) (readK σ_l_toStarterS Try.f29.ntmps [0, 3, 4] (.pair (.list TStarter) (.pair (.own 87 TStarter) (.pair (.int .i64) .unit))) 0 [3] (.pair (.own 87 TStarter) .unit) [] .unit) = b_l_toStarterS_3 x := by kernel_rfl
theorem ok_l_toStarterS : FnOK Try.prog 29 S_l_toStarterS := fn_ok (Λ := Λ_l_toStarterS) tab0 σok_l_toStarterS Try.func29 (by kernel_rfl) (show Try.f29.body = some (bodyOf Try.f29) by kernel_rfl) [⟨[0, 3, 4], (.pair (.list TStarter) (.pair (.own 87 TStarter) (.pair (.int .i64) .unit))), 0, [3], (.pair (.own 87 TStarter) .unit), [], .unit, loopL b_l_toStarterS_3⟩] rfl (by kernel_rfl) (by exact ⟨loop_LOK lok_l_toStarterS_3, trivial⟩) (by kernel_rfl)
  fun x y h => (show execFn Γ0 E0 σ_l_toStarterS Λ_l_toStarterS Try.f29 S_l_toStarterS x = l_toStarterS x by kernel_rfl).trans h

noncomputable def b_slices_IndexFunc_Starter_2 (x : (Ty.T (.pair (.list TStarter) (.pair (.fn (.pair TStarter .unit) (.pair .bool .unit)) (.pair (.int .i64) (.pair (.int .i64) .unit)))))) : Option ((Ty.T (.pair (.list TStarter) (.pair (.fn (.pair TStarter .unit) (.pair .bool .unit)) (.pair (.int .i64) (.pair (.int .i64) .unit))))) ⊕ ((Ty.T .unit) ⊕ (Ty.T (.pair (.int .i64) .unit)))) :=
match (decide (x.2.2.2.1 < x.2.2.1)) with
| true =>
 onSome (idx x.1 x.2.2.2.1) fun v1 =>
 match x.2.1 (v1, ()) with
 | none => none
 | some v2 =>
 match v2.1 with
 | true =>
  some (.inr (.inr (x.2.2.2.1, ())))
 | false =>
  some (.inl (x.1, x.2.1, x.2.2.1, (IntKind.i64.wrap (x.2.2.2.1 + (1 : Int))), ()))
| false =>
 some (.inr (.inl (())))
noncomputable def slices_IndexFunc_Starter (x : Ty.T (.pair (.list TStarter) (.pair (.fn (.pair TStarter .unit) (.pair .bool .unit)) .unit))) : Option (Ty.T (.pair (.int .i64) .unit)) :=
match loopL b_slices_IndexFunc_Starter_2 (x.1, x.2.1, (x.1.length : Int), (0 : Int), ()) with
| none => none
| some (.inl v3) =>
 some ((-1 : Int), ())
| some (.inr v4) =>
 some (v4.1, ())
noncomputable def S_slices_IndexFunc_Starter : Spec := ⟨(.pair (.list TStarter) (.pair (.fn (.pair TStarter .unit) (.pair .bool .unit)) .unit)), (.pair (.int .i64) .unit), .unit, rfl, slices_IndexFunc_Starter⟩
noncomputable def σ_slices_IndexFunc_Starter : FuncId → Option Spec := sig []
theorem σok_slices_IndexFunc_Starter : ∀ f s, σ_slices_IndexFunc_Starter f = some s → FnOK Try.prog f s := sig_ok (l := []) trivial
noncomputable def Λ_slices_IndexFunc_Starter : Nat → Option LSpec := lkp (loopList (bodyOf Try.f96)) [⟨[0, 1, 7, 8], (.pair (.list TStarter) (.pair (.fn (.pair TStarter .unit) (.pair .bool .unit)) (.pair (.int .i64) (.pair (.int .i64) .unit)))), 0, [], .unit, [4], (.pair (.int .i64) .unit), loopL b_slices_IndexFunc_Starter_2⟩]
theorem lok_slices_IndexFunc_Starter_2 (x) : codeK Γ0 E0 σ_slices_IndexFunc_Starter Λ_slices_IndexFunc_Starter Try.f96.ntmps (nthLoop Try.f96 0) (mkF Try.f96.ntmps [0, 1, 7, 8] (.pair (.list TStarter) (.pair (.fn (.pair TStarter .unit) (.pair .bool .unit)) (.pair (.int .i64) (.pair (.int .i64) .unit)))) x) (readK σ_slices_IndexFunc_Starter Try.f96.ntmps [0, 1, 7, 8] (.pair (.list TStarter) (.pair (.fn (.pair TStarter .unit) (.pair .bool .unit)) (.pair (.int .i64) (.pair (.int .i64) .unit)))) 0 [] .unit [4] (.pair (.int .i64) .unit)) = b_slices_IndexFunc_Starter_2 x := by kernel_rfl
theorem ok_slices_IndexFunc_Starter : FnOK Try.prog 96 S_slices_IndexFunc_Starter := fn_ok (Λ := Λ_slices_IndexFunc_Starter) tab0 σok_slices_IndexFunc_Starter Try.func96 (by kernel_rfl) (show Try.f96.body = some (bodyOf Try.f96) by kernel_rfl) [⟨[0, 1, 7, 8], (.pair (.list TStarter) (.pair (.fn (.pair TStarter .unit) (.pair .bool .unit)) (.pair (.int .i64) (.pair (.int .i64) .unit)))), 0, [], .unit, [4], (.pair (.int .i64) .unit), loopL b_slices_IndexFunc_Starter_2⟩] rfl (by kernel_rfl) (by exact ⟨loop_LOK lok_slices_IndexFunc_Starter_2, trivial⟩) (by kernel_rfl)
  fun x y h => (show execFn Γ0 E0 σ_slices_IndexFunc_Starter Λ_slices_IndexFunc_Starter Try.f96 S_slices_IndexFunc_Starter x = slices_IndexFunc_Starter x by kernel_rfl).trans h

noncomputable def slices_ContainsFunc_Starter (x : Ty.T (.pair (.list TStarter) (.pair (.fn (.pair TStarter .unit) (.pair .bool .unit)) .unit))) : Option (Ty.T (.pair .bool .unit)) :=
match slices_IndexFunc_Starter (x.1, x.2.1, ()) with
| none => none
| some v1 =>
some ((decide (v1.1 ≥ (0 : Int))), ())
noncomputable def S_slices_ContainsFunc_Starter : Spec := ⟨(.pair (.list TStarter) (.pair (.fn (.pair TStarter .unit) (.pair .bool .unit)) .unit)), (.pair .bool .unit), .unit, rfl, slices_ContainsFunc_Starter⟩
noncomputable def σ_slices_ContainsFunc_Starter : FuncId → Option Spec := sig [(96, S_slices_IndexFunc_Starter)]
theorem σok_slices_ContainsFunc_Starter : ∀ f s, σ_slices_ContainsFunc_Starter f = some s → FnOK Try.prog f s := sig_ok (l := [(96, S_slices_IndexFunc_Starter)]) ⟨ok_slices_IndexFunc_Starter, trivial⟩
noncomputable def Λ_slices_ContainsFunc_Starter : Nat → Option LSpec := lkp (loopList (bodyOf Try.f71)) []
theorem ok_slices_ContainsFunc_Starter : FnOK Try.prog 71 S_slices_ContainsFunc_Starter := fn_ok (Λ := Λ_slices_ContainsFunc_Starter) tab0 σok_slices_ContainsFunc_Starter Try.func71 (by kernel_rfl) (show Try.f71.body = some (bodyOf Try.f71) by kernel_rfl) [] rfl (by kernel_rfl) (by exact trivial) (by kernel_rfl)
  fun x y h => (show execFn Γ0 E0 σ_slices_ContainsFunc_Starter Λ_slices_ContainsFunc_Starter Try.f71 S_slices_ContainsFunc_Starter x = slices_ContainsFunc_Starter x by kernel_rfl).trans h

noncomputable def i_AreStarters_1 (x : Ty.T (.pair TStarter (.pair (.ptr TStarter) .unit))) : Option (Ty.T (.pair .bool .unit)) :=
match (x.1.1 == x.2.1.1) with
| true =>
 some (true, ())
| false =>
 some ((x.1.2.2.2.1 == x.2.1.2.2.2.1), ())
noncomputable def S_i_AreStarters_1 : Spec := ⟨(.pair TStarter (.pair (.ptr TStarter) .unit)), (.pair .bool .unit), .unit, rfl, i_AreStarters_1⟩
noncomputable def σ_i_AreStarters_1 : FuncId → Option Spec := sig []
theorem σok_i_AreStarters_1 : ∀ f s, σ_i_AreStarters_1 f = some s → FnOK Try.prog f s := sig_ok (l := []) trivial
noncomputable def Λ_i_AreStarters_1 : Nat → Option LSpec := lkp (loopList (bodyOf Try.f72)) []
theorem ok_i_AreStarters_1 : FnOK Try.prog 72 S_i_AreStarters_1 := fn_ok (Λ := Λ_i_AreStarters_1) tab0 σok_i_AreStarters_1 Try.func72 (by kernel_rfl) (show Try.f72.body = some (bodyOf Try.f72) by kernel_rfl) [] rfl (by kernel_rfl) (by exact trivial) (by kernel_rfl)
  fun x y h => (show execFn Γ0 E0 σ_i_AreStarters_1 Λ_i_AreStarters_1 Try.f72 S_i_AreStarters_1 x = i_AreStarters_1 x by kernel_rfl).trans h

noncomputable def b_i_AreStarters_2 (x : (Ty.T (.pair (.list TStarter) (.pair (.list TStarter) (.pair (.int .i64) (.pair (.int .i64) .unit)))))) : Option ((Ty.T (.pair (.list TStarter) (.pair (.list TStarter) (.pair (.int .i64) (.pair (.int .i64) .unit))))) ⊕ ((Ty.T (.pair (.list TStarter) .unit)) ⊕ (Ty.T (.pair .bool .unit)))) :=
match (decide (x.2.2.2.1 < x.2.2.1)) with
| true =>
 onSome (idx x.2.1 x.2.2.2.1) fun v1 =>
 match i_isNode (v1.1, ()) with
 | none => none
 | some v2 =>
 match (!v2.1) with
 | true =>
  some (.inr (.inr (false, ())))
 | false =>
  match i_within (v1.2.1, (0 : Int), (100000 : Int), ()) with
  | none => none
  | some v3 =>
  match (!v3.1) with
  | true =>
   some (.inr (.inr (false, ())))
  | false =>
   match i_within (v1.2.2.1, (1 : Int), (100000 : Int), ()) with
   | none => none
   | some v4 =>
   match (!v4.1) with
   | true =>
    some (.inr (.inr (false, ())))
   | false =>
    match i_within (v1.2.2.2.1, (1 : Int), (100000 : Int), ()) with
    | none => none
    | some v5 =>
    match (!v5.1) with
    | true =>
     some (.inr (.inr (false, ())))
    | false =>
     onSome (bounds x.1.length none (some (.dat (.int .i64) x.2.2.2.1))) fun v6 =>
     match slices_ContainsFunc_Starter ((List.drop v6.1 (List.take v6.2 x.1)), (fun x => i_AreStarters_1 (x.1, (v1.1, v1.2.1, v1.2.2.1, v1.2.2.2.1, ()), ())), ()) with
     | none => none
     | some v7 =>
     match v7.1 with
     | true =>
      some (.inr (.inr (false, ())))
     | false =>
      some (.inl (x.1, x.2.1, x.2.2.1, (IntKind.i64.wrap (x.2.2.2.1 + (1 : Int))), ()))
| false =>
 some (.inr (.inl (x.1, ())))
noncomputable def i_AreStarters (x : Ty.T (.pair (.list TStarter) .unit)) : Option (Ty.T (.pair .bool .unit)) :=
match loopL b_i_AreStarters_2 (x.1, x.1, (x.1.length : Int), (0 : Int), ()) with
| none => none
| some (.inl v8) =>
 match (decide ((v8.1.length : Int) ≥ (1 : Int))) with
 | true =>
  some ((decide ((v8.1.length : Int) ≤ (32 : Int))), ())
 | false =>
  some (false, ())
| some (.inr v9) =>
 some (v9.1, ())
noncomputable def S_i_AreStarters : Spec := ⟨(.pair (.list TStarter) .unit), (.pair .bool .unit), .unit, rfl, i_AreStarters⟩
noncomputable def σ_i_AreStarters : FuncId → Option Spec := sig [(62, S_i_within), (65, S_i_isNode), (71, S_slices_ContainsFunc_Starter), (72, S_i_AreStarters_1)]
theorem σok_i_AreStarters : ∀ f s, σ_i_AreStarters f = some s → FnOK Try.prog f s := sig_ok (l := [(62, S_i_within), (65, S_i_isNode), (71, S_slices_ContainsFunc_Starter), (72, S_i_AreStarters_1)]) ⟨ok_i_within, ok_i_isNode, ok_slices_ContainsFunc_Starter, ok_i_AreStarters_1, trivial⟩
noncomputable def Λ_i_AreStarters : Nat → Option LSpec := lkp (loopList (bodyOf Try.f30)) [⟨[0, 5, 6, 7], (.pair (.list TStarter) (.pair (.list TStarter) (.pair (.int .i64) (.pair (.int .i64) .unit)))), 0, [0], (.pair (.list TStarter) .unit), [2], (.pair .bool .unit), loopL b_i_AreStarters_2⟩]
theorem lok_i_AreStarters_2 (x) : codeK Γ0 E0 σ_i_AreStarters Λ_i_AreStarters Try.f30.ntmps (nthLoop Try.f30 0) (mkF Try.f30.ntmps [0, 5, 6, 7] (.pair (.list TStarter) (.pair (.list TStarter) (.pair (.int .i64) (.pair (.int .i64) .unit)))) x) (readK σ_i_AreStarters Try.f30.ntmps [0, 5, 6, 7] (.pair (.list TStarter) (.pair (.list TStarter) (.pair (.int .i64) (.pair (.int .i64) .unit)))) 0 [0] (.pair (.list TStarter) .unit) [2] (.pair .bool .unit)) = b_i_AreStarters_2 x := by kernel_rfl
theorem ok_i_AreStarters : FnOK Try.prog 30 S_i_AreStarters := fn_ok (Λ := Λ_i_AreStarters) tab0 σok_i_AreStarters Try.func30 (by kernel_rfl) (show Try.f30.body = some (bodyOf Try.f30) by kernel_rfl) [⟨[0, 5, 6, 7], (.pair (.list TStarter) (.pair (.list TStarter) (.pair (.int .i64) (.pair (.int .i64) .unit)))), 0, [0], (.pair (.list TStarter) .unit), [2], (.pair .bool .unit), loopL b_i_AreStarters_2⟩] rfl (by kernel_rfl) (by exact ⟨loop_LOK lok_i_AreStarters_2, trivial⟩) (by kernel_rfl)
  fun x y h => (show execFn Γ0 E0 σ_i_AreStarters Λ_i_AreStarters Try.f30 S_i_AreStarters x = i_AreStarters x by kernel_rfl).trans h

noncomputable def l_eqStarter (x : Ty.T (.pair TStarter (.pair TStarter .unit))) : Option (Ty.T (.pair .bool .unit)) :=
match (x.1.1 != x.2.1.1) with
| true =>
 some (false, ())
| false =>
 match (x.1.2.1 != x.2.1.2.1) with
 | true =>
  some (false, ())
 | false =>
  match (x.1.2.2.1 != x.2.1.2.2.1) with
  | true =>
   some (false, ())
  | false =>
   match (x.1.2.2.2.1 != x.2.1.2.2.2.1) with
   | true =>
    some (false, ())
   | false =>
    some (true, ())
noncomputable def S_l_eqStarter : Spec := ⟨(.pair TStarter (.pair TStarter .unit)), (.pair .bool .unit), .unit, rfl, l_eqStarter⟩
noncomputable def σ_l_eqStarter : FuncId → Option Spec := sig []
theorem σok_l_eqStarter : ∀ f s, σ_l_eqStarter f = some s → FnOK Try.prog f s := sig_ok (l := []) trivial
noncomputable def Λ_l_eqStarter : Nat → Option LSpec := lkp (loopList (bodyOf Try.f73)) []
theorem ok_l_eqStarter : FnOK Try.prog 73 S_l_eqStarter := fn_ok (Λ := Λ_l_eqStarter) tab0 σok_l_eqStarter Try.func73 (by kernel_rfl) (show Try.f73.body = some (bodyOf Try.f73) by kernel_rfl) [] rfl (by kernel_rfl) (by exact trivial) (by kernel_rfl)
  fun x y h => (show execFn Γ0 E0 σ_l_eqStarter Λ_l_eqStarter Try.f73 S_l_eqStarter x = l_eqStarter x by kernel_rfl).trans h

noncomputable def b_l_eqStarterS_4 (x : (Ty.T (.pair (.list TStarter) (.pair (.list TStarter) (.pair (.int .i64) .unit))))) : Option ((Ty.T (.pair (.list TStarter) (.pair (.list TStarter) (.pair (.int .i64) .unit)))) ⊕ ((Ty.T .unit) ⊕ (Ty.T (.pair .bool .unit)))) :=
match (decide (x.2.2.1 < (x.1.length : Int))) with
| true =>
 onSome (idx x.1 x.2.2.1) fun v1 =>
 onSome (idx x.2.1 x.2.2.1) fun v2 =>
 match l_eqStarter (v1, v2, ()) with
 | none => none
 | some v3 =>
 match (!v3.1) with
 | true =>
  some (.inr (.inr (false, ())))
 | false =>
  some (.inl (x.1, x.2.1, (IntKind.i64.wrap (x.2.2.1 + (1 : Int))), ()))
| false =>
 some (.inr (.inl (())))
noncomputable def l_eqStarterS (x : Ty.T (.pair (.list TStarter) (.pair (.list TStarter) .unit))) : Option (Ty.T (.pair .bool .unit)) :=
match ((x.1.length : Int) != (x.2.1.length : Int)) with
| true =>
 some (false, ())
| false =>
 match loopL b_l_eqStarterS_4 (x.1, x.2.1, (0 : Int), ()) with
 | none => none
 | some (.inl v4) =>
  some (true, ())
 | some (.inr v5) =>
  some (v5.1, ())
noncomputable def S_l_eqStarterS : Spec := ⟨(.pair (.list TStarter) (.pair (.list TStarter) .unit)), (.pair .bool .unit), .unit, rfl, l_eqStarterS⟩
noncomputable def σ_l_eqStarterS : FuncId → Option Spec := sig [(73, S_l_eqStarter)]
theorem σok_l_eqStarterS : ∀ f s, σ_l_eqStarterS f = some s → FnOK Try.prog f s := sig_ok (l := [(73, S_l_eqStarter)]) ⟨ok_l_eqStarter, trivial⟩
noncomputable def Λ_l_eqStarterS : Nat → Option LSpec := lkp (loopList (bodyOf Try.f31)) [⟨[0, 1, 5], (.pair (.list TStarter) (.pair (.list TStarter) (.pair (.int .i64) .unit))), 0, [], .unit, [4], (.pair .bool .unit), loopL b_l_eqStarterS_4⟩]
theorem lok_l_eqStarterS_4 (x) : codeK Γ0 E0 σ_l_eqStarterS Λ_l_eqStarterS Try.f31.ntmps (nthLoop Try.f31 0) (mkF Try.f31.ntmps [0, 1, 5] (.pair (.list TStarter) (.pair (.list TStarter) (.pair (.int .i64) .unit))) x) (readK σ_l_eqStarterS Try.f31.ntmps [0, 1, 5] (.pair (.list TStarter) (.pair (.list TStarter) (.pair (.int .i64) .unit))) 0 [] .unit [4] (.pair .bool .unit)) = b_l_eqStarterS_4 x := by kernel_rfl
theorem ok_l_eqStarterS : FnOK Try.prog 31 S_l_eqStarterS := fn_ok (Λ := Λ_l_eqStarterS) tab0 σok_l_eqStarterS Try.func31 (by kernel_rfl) (show Try.f31.body = some (bodyOf Try.f31) by kernel_rfl) [⟨[0, 1, 5], (.pair (.list TStarter) (.pair (.list TStarter) (.pair (.int .i64) .unit))), 0, [], .unit, [4], (.pair .bool .unit), loopL b_l_eqStarterS_4⟩] rfl (by kernel_rfl) (by exact ⟨loop_LOK lok_l_eqStarterS_4, trivial⟩) (by kernel_rfl)
  fun x y h => (show execFn Γ0 E0 σ_l_eqStarterS Λ_l_eqStarterS Try.f31 S_l_eqStarterS x = l_eqStarterS x by kernel_rfl).trans h

noncomputable def l_FnExactAreStarters (x : Ty.T (.pair (.list TStarter) .unit)) : Option (Ty.T (.pair .bool .unit)) :=
match l_szStarterS (x.1, (1048576 : Int), ()) with
| none => none
| some v1 =>
match (decide (v1.1 < (0 : Int))) with
| true =>
 some (true, ())
| false =>
 match l_toStarterS (x.1, ()) with
 | none => none
 | some v2 =>
 match s_AreStarters (v2.1, ()) with
 | none => none
 | some v3 =>
 match l_toStarterS (x.1, ()) with
 | none => none
 | some v4 =>
 match i_AreStarters (v4.1, ()) with
 | none => none
 | some v5 =>
 match (v5.1 != v3.1) with
 | true =>
  some (false, ())
 | false =>
  match l_toStarterS (x.1, ()) with
  | none => none
  | some v6 =>
  match l_eqStarterS (v4.1, v6.1, ()) with
  | none => none
  | some v7 =>
  match (!v7.1) with
  | true =>
   some (false, ())
  | false =>
   some (true, ())
noncomputable def S_l_FnExactAreStarters : Spec := ⟨(.pair (.list TStarter) .unit), (.pair .bool .unit), .unit, rfl, l_FnExactAreStarters⟩
noncomputable def σ_l_FnExactAreStarters : FuncId → Option Spec := sig [(27, S_l_szStarterS), (28, S_s_AreStarters), (29, S_l_toStarterS), (30, S_i_AreStarters), (31, S_l_eqStarterS)]
theorem σok_l_FnExactAreStarters : ∀ f s, σ_l_FnExactAreStarters f = some s → FnOK Try.prog f s := sig_ok (l := [(27, S_l_szStarterS), (28, S_s_AreStarters), (29, S_l_toStarterS), (30, S_i_AreStarters), (31, S_l_eqStarterS)]) ⟨ok_l_szStarterS, ok_s_AreStarters, ok_l_toStarterS, ok_i_AreStarters, ok_l_eqStarterS, trivial⟩
noncomputable def Λ_l_FnExactAreStarters : Nat → Option LSpec := lkp (loopList (bodyOf Try.f7)) []
theorem ok_l_FnExactAreStarters : FnOK Try.prog 7 S_l_FnExactAreStarters := fn_ok (Λ := Λ_l_FnExactAreStarters) tab0 σok_l_FnExactAreStarters Try.func7 (by kernel_rfl) (show Try.f7.body = some (bodyOf Try.f7) by kernel_rfl) [] rfl (by kernel_rfl) (by exact trivial) (by kernel_rfl)
  fun x y h => (show execFn Γ0 E0 σ_l_FnExactAreStarters Λ_l_FnExactAreStarters Try.f7 S_l_FnExactAreStarters x = l_FnExactAreStarters x by kernel_rfl).trans h

noncomputable def l_szMarkS (x : Ty.T (.pair (.list TMark) (.pair (.int .i64) .unit))) : Option (Ty.T (.pair (.int .i64) .unit)) :=
match (decide ((IntKind.i64.wrap (x.2.1 - (x.1.length : Int))) < (0 : Int))) with
| true =>
 some ((-1 : Int), ())
| false =>
 some ((IntKind.i64.wrap (x.2.1 - (x.1.length : Int))), ())
noncomputable def S_l_szMarkS : Spec := ⟨(.pair (.list TMark) (.pair (.int .i64) .unit)), (.pair (.int .i64) .unit), .unit, rfl, l_szMarkS⟩
noncomputable def σ_l_szMarkS : FuncId → Option Spec := sig []
theorem σok_l_szMarkS : ∀ f s, σ_l_szMarkS f = some s → FnOK Try.prog f s := sig_ok (l := []) trivial
noncomputable def Λ_l_szMarkS : Nat → Option LSpec := lkp (loopList (bodyOf Try.f32)) []
theorem ok_l_szMarkS : FnOK Try.prog 32 S_l_szMarkS := fn_ok (Λ := Λ_l_szMarkS) tab0 σok_l_szMarkS Try.func32 (by kernel_rfl) (show Try.f32.body = some (bodyOf Try.f32) by kernel_rfl) [] rfl (by kernel_rfl) (by exact trivial) (by kernel_rfl)
  fun x y h => (show execFn Γ0 E0 σ_l_szMarkS Λ_l_szMarkS Try.f32 S_l_szMarkS x = l_szMarkS x by kernel_rfl).trans h

noncomputable def b_s_l33List_2 (x : (Ty.T (.pair (.list TMark) (.pair (.int .i64) .unit)))) : Option ((Ty.T (.pair (.list TMark) (.pair (.int .i64) .unit))) ⊕ ((Ty.T (.pair (.list TMark) .unit)) ⊕ (Ty.T (.pair .bool .unit)))) :=
match (decide (x.2.1 < (x.1.length : Int))) with
| true =>
 onSome (idx x.1 x.2.1) fun v1 =>
 match s_IsMark (v1, ()) with
 | none => none
 | some v2 =>
 match (!v2.1) with
 | true =>
  some (.inr (.inr (false, ())))
 | false =>
  some (.inl (x.1, (IntKind.i64.wrap (x.2.1 + (1 : Int))), ()))
| false =>
 some (.inr (.inl (x.1, ())))
noncomputable def s_l33List (x : Ty.T (.pair (.list TMark) .unit)) : Option (Ty.T (.pair .bool .unit)) :=
match loopL b_s_l33List_2 (x.1, (0 : Int), ()) with
| none => none
| some (.inl v3) =>
 some ((decide ((v3.1.length : Int) ≤ (60 : Int))), ())
| some (.inr v4) =>
 some (v4.1, ())
noncomputable def S_s_l33List : Spec := ⟨(.pair (.list TMark) .unit), (.pair .bool .unit), .unit, rfl, s_l33List⟩
noncomputable def σ_s_l33List : FuncId → Option Spec := sig [(20, S_s_IsMark)]
theorem σok_s_l33List : ∀ f s, σ_s_l33List f = some s → FnOK Try.prog f s := sig_ok (l := [(20, S_s_IsMark)]) ⟨ok_s_IsMark, trivial⟩
noncomputable def Λ_s_l33List : Nat → Option LSpec := lkp (loopList (bodyOf Try.f74)) [⟨[0, 3], (.pair (.list TMark) (.pair (.int .i64) .unit)), 0, [0], (.pair (.list TMark) .unit), [2], (.pair .bool .unit), loopL b_s_l33List_2⟩]
theorem lok_s_l33List_2 (x) : codeK Γ0 E0 σ_s_l33List Λ_s_l33List Try.f74.ntmps (nthLoop Try.f74 0) (mkF Try.f74.ntmps [0, 3] (.pair (.list TMark) (.pair (.int .i64) .unit)) x) (readK σ_s_l33List Try.f74.ntmps [0, 3] (.pair (.list TMark) (.pair (.int .i64) .unit)) 0 [0] (.pair (.list TMark) .unit) [2] (.pair .bool .unit)) = b_s_l33List_2 x := by kernel_rfl
theorem ok_s_l33List : FnOK Try.prog 74 S_s_l33List := fn_ok (Λ := Λ_s_l33List) tab0 σok_s_l33List Try.func74 (by kernel_rfl) (show Try.f74.body = some (bodyOf Try.f74) by kernel_rfl) [⟨[0, 3], (.pair (.list TMark) (.pair (.int .i64) .unit)), 0, [0], (.pair (.list TMark) .unit), [2], (.pair .bool .unit), loopL b_s_l33List_2⟩] rfl (by kernel_rfl) (by exact ⟨loop_LOK lok_s_l33List_2, trivial⟩) (by kernel_rfl)
  fun x y h => (show execFn Γ0 E0 σ_s_l33List Λ_s_l33List Try.f74 S_s_l33List x = s_l33List x by kernel_rfl).trans h

noncomputable def b_s_FirstLoss_4 (x : (Ty.T (.pair (.list TMark) (.pair (.int .i64) .unit)))) : Option ((Ty.T (.pair (.list TMark) (.pair (.int .i64) .unit))) ⊕ ((Ty.T .unit) ⊕ (Ty.T (.pair (.int .i64) (.pair (.int .i64) .unit))))) :=
match (decide (x.2.1 < (x.1.length : Int))) with
| true =>
 onSome (idx x.1 x.2.1) fun v2 =>
 match (v2.2.2.1 != (3 : Int)) with
 | true =>
  some (.inr (.inr (x.2.1, (0 : Int), ())))
 | false =>
  some (.inl (x.1, (IntKind.i64.wrap (x.2.1 + (1 : Int))), ()))
| false =>
 some (.inr (.inl (())))
noncomputable def s_FirstLoss (x : Ty.T (.pair (.list TMark) .unit)) : Option (Ty.T (.pair (.int .i64) (.pair (.int .i64) .unit))) :=
match s_l33List (x.1, ()) with
| none => none
| some v1 =>
match (!v1.1) with
| true =>
 some ((0 : Int), (1 : Int), ())
| false =>
 match loopL b_s_FirstLoss_4 (x.1, (0 : Int), ()) with
 | none => none
 | some (.inl v3) =>
  some ((0 : Int), (4 : Int), ())
 | some (.inr v4) =>
  some (v4.1, v4.2.1, ())
noncomputable def S_s_FirstLoss : Spec := ⟨(.pair (.list TMark) .unit), (.pair (.int .i64) (.pair (.int .i64) .unit)), .unit, rfl, s_FirstLoss⟩
noncomputable def σ_s_FirstLoss : FuncId → Option Spec := sig [(74, S_s_l33List)]
theorem σok_s_FirstLoss : ∀ f s, σ_s_FirstLoss f = some s → FnOK Try.prog f s := sig_ok (l := [(74, S_s_l33List)]) ⟨ok_s_l33List, trivial⟩
noncomputable def Λ_s_FirstLoss : Nat → Option LSpec := lkp (loopList (bodyOf Try.f33)) [⟨[0, 4], (.pair (.list TMark) (.pair (.int .i64) .unit)), 0, [], .unit, [2, 3], (.pair (.int .i64) (.pair (.int .i64) .unit)), loopL b_s_FirstLoss_4⟩]
theorem lok_s_FirstLoss_4 (x) : codeK Γ0 E0 σ_s_FirstLoss Λ_s_FirstLoss Try.f33.ntmps (nthLoop Try.f33 0) (mkF Try.f33.ntmps [0, 4] (.pair (.list TMark) (.pair (.int .i64) .unit)) x) (readK σ_s_FirstLoss Try.f33.ntmps [0, 4] (.pair (.list TMark) (.pair (.int .i64) .unit)) 0 [] .unit [2, 3] (.pair (.int .i64) (.pair (.int .i64) .unit))) = b_s_FirstLoss_4 x := by kernel_rfl
theorem ok_s_FirstLoss : FnOK Try.prog 33 S_s_FirstLoss := fn_ok (Λ := Λ_s_FirstLoss) tab0 σok_s_FirstLoss Try.func33 (by kernel_rfl) (show Try.f33.body = some (bodyOf Try.f33) by kernel_rfl) [⟨[0, 4], (.pair (.list TMark) (.pair (.int .i64) .unit)), 0, [], .unit, [2, 3], (.pair (.int .i64) (.pair (.int .i64) .unit)), loopL b_s_FirstLoss_4⟩] rfl (by kernel_rfl) (by exact ⟨loop_LOK lok_s_FirstLoss_4, trivial⟩) (by kernel_rfl)
  fun x y h => (show execFn Γ0 E0 σ_s_FirstLoss Λ_s_FirstLoss Try.f33 S_s_FirstLoss x = s_FirstLoss x by kernel_rfl).trans h

noncomputable def b_l_toMarkS_3 (x : (Ty.T (.pair (.list TMark) (.pair (.own 35 TMark) (.pair (.int .i64) .unit))))) : Option ((Ty.T (.pair (.list TMark) (.pair (.own 35 TMark) (.pair (.int .i64) .unit)))) ⊕ ((Ty.T (.pair (.own 35 TMark) .unit)) ⊕ (Ty.T .unit))) :=
match (decide (x.2.2.1 < (x.1.length : Int))) with
| true =>
 onSome (idx x.1 x.2.2.1) fun v1 =>
 match l_toMark (v1, ()) with
 | none => none
 | some v2 =>
 onSome (idx x.2.1 x.2.2.1) fun _ =>
 match x.2.1[x.2.2.1.toNat]? with
 | none => none
 | some v4 =>
 some (.inl (x.1, (x.2.1.set x.2.2.1.toNat ((v2.1.1.1, v2.1.1.2.1, v2.1.1.2.2.1, v2.1.1.2.2.2.1, v2.1.1.2.2.2.2.1, ()), v2.1.2.1, v2.1.2.2.1, ())), (IntKind.i64.wrap (x.2.2.1 + (1 : Int))), ()))
| false =>
 some (.inr (.inl (x.2.1, ())))
noncomputable def l_toMarkS (x : Ty.T (.pair (.list TMark) .unit)) : Option (Ty.T (.pair (.own 35 TMark) .unit)) :=
if 0 ≤ (x.1.length : Int) ∧ (x.1.length : Int) ≤ (x.1.length : Int) then
 room ((x.1.length : Int).toNat) (
  match loopL b_l_toMarkS_3 (x.1, (List.replicate (x.1.length : Int).toNat (((0 : Int), (0 : Int), (0 : Int), (0 : Int), (0 : Int), ()), (0 : Int), (0 : Int), ())), (0 : Int), ()) with
  | none => none
  | some (.inl v5) =>
   some (v5.1, ())
  | some (.inr v7) =>
   none)
else none
noncomputable def S_l_toMarkS : Spec := ⟨(.pair (.list TMark) .unit), (.pair (.own 35 TMark) .unit), .unit, rfl, l_toMarkS⟩
noncomputable def σ_l_toMarkS : FuncId → Option Spec := sig [(21, S_l_toMark)]
theorem σok_l_toMarkS : ∀ f s, σ_l_toMarkS f = some s → FnOK Try.prog f s := sig_ok (l := [(21, S_l_toMark)]) ⟨ok_l_toMark, trivial⟩
noncomputable def Λ_l_toMarkS : Nat → Option LSpec := lkp (loopList (bodyOf Try.f34)) [⟨[0, 3, 4], (.pair (.list TMark) (.pair (.own 35 TMark) (.pair (.int .i64) .unit))), 0, [3], (.pair (.own 35 TMark) .unit), [], .unit, loopL b_l_toMarkS_3⟩]
theorem lok_l_toMarkS_3 (x) : codeK Γ0 E0 σ_l_toMarkS Λ_l_toMarkS Try.f34.ntmps (nthLoop Try.f34 0) (mkF Try.f34.ntmps [0, 3, 4] (.pair (.list TMark) (.pair (.own 35 TMark) (.pair (.int .i64) .unit))) x) (readK σ_l_toMarkS Try.f34.ntmps [0, 3, 4] (.pair (.list TMark) (.pair (.own 35 TMark) (.pair (.int .i64) .unit))) 0 [3] (.pair (.own 35 TMark) .unit) [] .unit) = b_l_toMarkS_3 x := by kernel_rfl
theorem ok_l_toMarkS : FnOK Try.prog 34 S_l_toMarkS := fn_ok (Λ := Λ_l_toMarkS) tab0 σok_l_toMarkS Try.func34 (by kernel_rfl) (show Try.f34.body = some (bodyOf Try.f34) by kernel_rfl) [⟨[0, 3, 4], (.pair (.list TMark) (.pair (.own 35 TMark) (.pair (.int .i64) .unit))), 0, [3], (.pair (.own 35 TMark) .unit), [], .unit, loopL b_l_toMarkS_3⟩] rfl (by kernel_rfl) (by exact ⟨loop_LOK lok_l_toMarkS_3, trivial⟩) (by kernel_rfl)
  fun x y h => (show execFn Γ0 E0 σ_l_toMarkS Λ_l_toMarkS Try.f34 S_l_toMarkS x = l_toMarkS x by kernel_rfl).trans h

noncomputable def b_slices_IndexFunc_Mark_2 (x : (Ty.T (.pair (.list TMark) (.pair (.fn (.pair TMark .unit) (.pair .bool .unit)) (.pair (.int .i64) (.pair (.int .i64) .unit)))))) : Option ((Ty.T (.pair (.list TMark) (.pair (.fn (.pair TMark .unit) (.pair .bool .unit)) (.pair (.int .i64) (.pair (.int .i64) .unit))))) ⊕ ((Ty.T .unit) ⊕ (Ty.T (.pair (.int .i64) .unit)))) :=
match (decide (x.2.2.2.1 < x.2.2.1)) with
| true =>
 onSome (idx x.1 x.2.2.2.1) fun v1 =>
 match x.2.1 (v1, ()) with
 | none => none
 | some v2 =>
 match v2.1 with
 | true =>
  some (.inr (.inr (x.2.2.2.1, ())))
 | false =>
  some (.inl (x.1, x.2.1, x.2.2.1, (IntKind.i64.wrap (x.2.2.2.1 + (1 : Int))), ()))
| false =>
 some (.inr (.inl (())))
noncomputable def slices_IndexFunc_Mark (x : Ty.T (.pair (.list TMark) (.pair (.fn (.pair TMark .unit) (.pair .bool .unit)) .unit))) : Option (Ty.T (.pair (.int .i64) .unit)) :=
match loopL b_slices_IndexFunc_Mark_2 (x.1, x.2.1, (x.1.length : Int), (0 : Int), ()) with
| none => none
| some (.inl v3) =>
 some ((-1 : Int), ())
| some (.inr v4) =>
 some (v4.1, ())
noncomputable def S_slices_IndexFunc_Mark : Spec := ⟨(.pair (.list TMark) (.pair (.fn (.pair TMark .unit) (.pair .bool .unit)) .unit)), (.pair (.int .i64) .unit), .unit, rfl, slices_IndexFunc_Mark⟩
noncomputable def σ_slices_IndexFunc_Mark : FuncId → Option Spec := sig []
theorem σok_slices_IndexFunc_Mark : ∀ f s, σ_slices_IndexFunc_Mark f = some s → FnOK Try.prog f s := sig_ok (l := []) trivial
noncomputable def Λ_slices_IndexFunc_Mark : Nat → Option LSpec := lkp (loopList (bodyOf Try.f76)) [⟨[0, 1, 7, 8], (.pair (.list TMark) (.pair (.fn (.pair TMark .unit) (.pair .bool .unit)) (.pair (.int .i64) (.pair (.int .i64) .unit)))), 0, [], .unit, [4], (.pair (.int .i64) .unit), loopL b_slices_IndexFunc_Mark_2⟩]
theorem lok_slices_IndexFunc_Mark_2 (x) : codeK Γ0 E0 σ_slices_IndexFunc_Mark Λ_slices_IndexFunc_Mark Try.f76.ntmps (nthLoop Try.f76 0) (mkF Try.f76.ntmps [0, 1, 7, 8] (.pair (.list TMark) (.pair (.fn (.pair TMark .unit) (.pair .bool .unit)) (.pair (.int .i64) (.pair (.int .i64) .unit)))) x) (readK σ_slices_IndexFunc_Mark Try.f76.ntmps [0, 1, 7, 8] (.pair (.list TMark) (.pair (.fn (.pair TMark .unit) (.pair .bool .unit)) (.pair (.int .i64) (.pair (.int .i64) .unit)))) 0 [] .unit [4] (.pair (.int .i64) .unit)) = b_slices_IndexFunc_Mark_2 x := by kernel_rfl
theorem ok_slices_IndexFunc_Mark : FnOK Try.prog 76 S_slices_IndexFunc_Mark := fn_ok (Λ := Λ_slices_IndexFunc_Mark) tab0 σok_slices_IndexFunc_Mark Try.func76 (by kernel_rfl) (show Try.f76.body = some (bodyOf Try.f76) by kernel_rfl) [⟨[0, 1, 7, 8], (.pair (.list TMark) (.pair (.fn (.pair TMark .unit) (.pair .bool .unit)) (.pair (.int .i64) (.pair (.int .i64) .unit)))), 0, [], .unit, [4], (.pair (.int .i64) .unit), loopL b_slices_IndexFunc_Mark_2⟩] rfl (by kernel_rfl) (by exact ⟨loop_LOK lok_slices_IndexFunc_Mark_2, trivial⟩) (by kernel_rfl)
  fun x y h => (show execFn Γ0 E0 σ_slices_IndexFunc_Mark Λ_slices_IndexFunc_Mark Try.f76 S_slices_IndexFunc_Mark x = slices_IndexFunc_Mark x by kernel_rfl).trans h

noncomputable def slices_ContainsFunc_Mark (x : Ty.T (.pair (.list TMark) (.pair (.fn (.pair TMark .unit) (.pair .bool .unit)) .unit))) : Option (Ty.T (.pair .bool .unit)) :=
match slices_IndexFunc_Mark (x.1, x.2.1, ()) with
| none => none
| some v1 =>
some ((decide (v1.1 ≥ (0 : Int))), ())
noncomputable def S_slices_ContainsFunc_Mark : Spec := ⟨(.pair (.list TMark) (.pair (.fn (.pair TMark .unit) (.pair .bool .unit)) .unit)), (.pair .bool .unit), .unit, rfl, slices_ContainsFunc_Mark⟩
noncomputable def σ_slices_ContainsFunc_Mark : FuncId → Option Spec := sig [(76, S_slices_IndexFunc_Mark)]
theorem σok_slices_ContainsFunc_Mark : ∀ f s, σ_slices_ContainsFunc_Mark f = some s → FnOK Try.prog f s := sig_ok (l := [(76, S_slices_IndexFunc_Mark)]) ⟨ok_slices_IndexFunc_Mark, trivial⟩
noncomputable def Λ_slices_ContainsFunc_Mark : Nat → Option LSpec := lkp (loopList (bodyOf Try.f97)) []
theorem ok_slices_ContainsFunc_Mark : FnOK Try.prog 97 S_slices_ContainsFunc_Mark := fn_ok (Λ := Λ_slices_ContainsFunc_Mark) tab0 σok_slices_ContainsFunc_Mark Try.func97 (by kernel_rfl) (show Try.f97.body = some (bodyOf Try.f97) by kernel_rfl) [] rfl (by kernel_rfl) (by exact trivial) (by kernel_rfl)
  fun x y h => (show execFn Γ0 E0 σ_slices_ContainsFunc_Mark Λ_slices_ContainsFunc_Mark Try.f97 S_slices_ContainsFunc_Mark x = slices_ContainsFunc_Mark x by kernel_rfl).trans h

noncomputable def i_isTrace_1 (x : Ty.T (.pair TMark .unit)) : Option (Ty.T (.pair .bool .unit)) :=
match i_IsMark (((x.1.1.1, x.1.1.2.1, x.1.1.2.2.1, x.1.1.2.2.2.1, x.1.1.2.2.2.2.1, ()), x.1.2.1, x.1.2.2.1, ()), ()) with
| none => none
| some v1 =>
some ((!v1.1), ())
noncomputable def S_i_isTrace_1 : Spec := ⟨(.pair TMark .unit), (.pair .bool .unit), .unit, rfl, i_isTrace_1⟩
noncomputable def σ_i_isTrace_1 : FuncId → Option Spec := sig [(22, S_i_IsMark)]
theorem σok_i_isTrace_1 : ∀ f s, σ_i_isTrace_1 f = some s → FnOK Try.prog f s := sig_ok (l := [(22, S_i_IsMark)]) ⟨ok_i_IsMark, trivial⟩
noncomputable def Λ_i_isTrace_1 : Nat → Option LSpec := lkp (loopList (bodyOf Try.f98)) []
theorem ok_i_isTrace_1 : FnOK Try.prog 98 S_i_isTrace_1 := fn_ok (Λ := Λ_i_isTrace_1) tab0 σok_i_isTrace_1 Try.func98 (by kernel_rfl) (show Try.f98.body = some (bodyOf Try.f98) by kernel_rfl) [] rfl (by kernel_rfl) (by exact trivial) (by kernel_rfl)
  fun x y h => (show execFn Γ0 E0 σ_i_isTrace_1 Λ_i_isTrace_1 Try.f98 S_i_isTrace_1 x = i_isTrace_1 x by kernel_rfl).trans h

noncomputable def i_isTrace (x : Ty.T (.pair (.list TMark) .unit)) : Option (Ty.T (.pair .bool .unit)) :=
match (decide ((x.1.length : Int) ≤ (60 : Int))) with
| true =>
 match slices_ContainsFunc_Mark (x.1, i_isTrace_1, ()) with
 | none => none
 | some v1 =>
 some ((!v1.1), ())
| false =>
 some (false, ())
noncomputable def S_i_isTrace : Spec := ⟨(.pair (.list TMark) .unit), (.pair .bool .unit), .unit, rfl, i_isTrace⟩
noncomputable def σ_i_isTrace : FuncId → Option Spec := sig [(97, S_slices_ContainsFunc_Mark), (98, S_i_isTrace_1)]
theorem σok_i_isTrace : ∀ f s, σ_i_isTrace f = some s → FnOK Try.prog f s := sig_ok (l := [(97, S_slices_ContainsFunc_Mark), (98, S_i_isTrace_1)]) ⟨ok_slices_ContainsFunc_Mark, ok_i_isTrace_1, trivial⟩
noncomputable def Λ_i_isTrace : Nat → Option LSpec := lkp (loopList (bodyOf Try.f75)) []
theorem ok_i_isTrace : FnOK Try.prog 75 S_i_isTrace := fn_ok (Λ := Λ_i_isTrace) tab0 σok_i_isTrace Try.func75 (by kernel_rfl) (show Try.f75.body = some (bodyOf Try.f75) by kernel_rfl) [] rfl (by kernel_rfl) (by exact trivial) (by kernel_rfl)
  fun x y h => (show execFn Γ0 E0 σ_i_isTrace Λ_i_isTrace Try.f75 S_i_isTrace x = i_isTrace x by kernel_rfl).trans h

noncomputable def i_FirstLoss_1 (x : Ty.T (.pair TMark .unit)) : Option (Ty.T (.pair .bool .unit)) :=
some ((x.1.2.2.1 != (3 : Int)), ())
noncomputable def S_i_FirstLoss_1 : Spec := ⟨(.pair TMark .unit), (.pair .bool .unit), .unit, rfl, i_FirstLoss_1⟩
noncomputable def σ_i_FirstLoss_1 : FuncId → Option Spec := sig []
theorem σok_i_FirstLoss_1 : ∀ f s, σ_i_FirstLoss_1 f = some s → FnOK Try.prog f s := sig_ok (l := []) trivial
noncomputable def Λ_i_FirstLoss_1 : Nat → Option LSpec := lkp (loopList (bodyOf Try.f77)) []
theorem ok_i_FirstLoss_1 : FnOK Try.prog 77 S_i_FirstLoss_1 := fn_ok (Λ := Λ_i_FirstLoss_1) tab0 σok_i_FirstLoss_1 Try.func77 (by kernel_rfl) (show Try.f77.body = some (bodyOf Try.f77) by kernel_rfl) [] rfl (by kernel_rfl) (by exact trivial) (by kernel_rfl)
  fun x y h => (show execFn Γ0 E0 σ_i_FirstLoss_1 Λ_i_FirstLoss_1 Try.f77 S_i_FirstLoss_1 x = i_FirstLoss_1 x by kernel_rfl).trans h

noncomputable def i_FirstLoss (x : Ty.T (.pair (.list TMark) .unit)) : Option (Ty.T (.pair (.int .i64) (.pair (.int .i64) .unit))) :=
match i_isTrace (x.1, ()) with
| none => none
| some v1 =>
match (!v1.1) with
| true =>
 some ((0 : Int), (1 : Int), ())
| false =>
 match slices_IndexFunc_Mark (x.1, i_FirstLoss_1, ()) with
 | none => none
 | some v2 =>
 match (decide (v2.1 < (0 : Int))) with
 | true =>
  some ((0 : Int), (4 : Int), ())
 | false =>
  some (v2.1, (0 : Int), ())
noncomputable def S_i_FirstLoss : Spec := ⟨(.pair (.list TMark) .unit), (.pair (.int .i64) (.pair (.int .i64) .unit)), .unit, rfl, i_FirstLoss⟩
noncomputable def σ_i_FirstLoss : FuncId → Option Spec := sig [(75, S_i_isTrace), (76, S_slices_IndexFunc_Mark), (77, S_i_FirstLoss_1)]
theorem σok_i_FirstLoss : ∀ f s, σ_i_FirstLoss f = some s → FnOK Try.prog f s := sig_ok (l := [(75, S_i_isTrace), (76, S_slices_IndexFunc_Mark), (77, S_i_FirstLoss_1)]) ⟨ok_i_isTrace, ok_slices_IndexFunc_Mark, ok_i_FirstLoss_1, trivial⟩
noncomputable def Λ_i_FirstLoss : Nat → Option LSpec := lkp (loopList (bodyOf Try.f35)) []
theorem ok_i_FirstLoss : FnOK Try.prog 35 S_i_FirstLoss := fn_ok (Λ := Λ_i_FirstLoss) tab0 σok_i_FirstLoss Try.func35 (by kernel_rfl) (show Try.f35.body = some (bodyOf Try.f35) by kernel_rfl) [] rfl (by kernel_rfl) (by exact trivial) (by kernel_rfl)
  fun x y h => (show execFn Γ0 E0 σ_i_FirstLoss Λ_i_FirstLoss Try.f35 S_i_FirstLoss x = i_FirstLoss x by kernel_rfl).trans h

noncomputable def l_eqState (x : Ty.T (.pair TState (.pair TState .unit))) : Option (Ty.T (.pair .bool .unit)) :=
match (x.1.1 != x.2.1.1) with
| true =>
 some (false, ())
| false =>
 match (x.1.2.1 != x.2.1.2.1) with
 | true =>
  some (false, ())
 | false =>
  match (x.1.2.2.1 != x.2.1.2.2.1) with
  | true =>
   some (false, ())
  | false =>
   match (x.1.2.2.2.1 != x.2.1.2.2.2.1) with
   | true =>
    some (false, ())
   | false =>
    match (x.1.2.2.2.2.1 != x.2.1.2.2.2.2.1) with
    | true =>
     some (false, ())
    | false =>
     some (true, ())
noncomputable def S_l_eqState : Spec := ⟨(.pair TState (.pair TState .unit)), (.pair .bool .unit), .unit, rfl, l_eqState⟩
noncomputable def σ_l_eqState : FuncId → Option Spec := sig []
theorem σok_l_eqState : ∀ f s, σ_l_eqState f = some s → FnOK Try.prog f s := sig_ok (l := []) trivial
noncomputable def Λ_l_eqState : Nat → Option LSpec := lkp (loopList (bodyOf Try.f99)) []
theorem ok_l_eqState : FnOK Try.prog 99 S_l_eqState := fn_ok (Λ := Λ_l_eqState) tab0 σok_l_eqState Try.func99 (by kernel_rfl) (show Try.f99.body = some (bodyOf Try.f99) by kernel_rfl) [] rfl (by kernel_rfl) (by exact trivial) (by kernel_rfl)
  fun x y h => (show execFn Γ0 E0 σ_l_eqState Λ_l_eqState Try.f99 S_l_eqState x = l_eqState x by kernel_rfl).trans h

noncomputable def l_eqMark (x : Ty.T (.pair TMark (.pair TMark .unit))) : Option (Ty.T (.pair .bool .unit)) :=
match l_eqState ((x.1.1.1, x.1.1.2.1, x.1.1.2.2.1, x.1.1.2.2.2.1, x.1.1.2.2.2.2.1, ()), (x.2.1.1.1, x.2.1.1.2.1, x.2.1.1.2.2.1, x.2.1.1.2.2.2.1, x.2.1.1.2.2.2.2.1, ()), ()) with
| none => none
| some v1 =>
match (!v1.1) with
| true =>
 some (false, ())
| false =>
 match (x.1.2.1 != x.2.1.2.1) with
 | true =>
  some (false, ())
 | false =>
  match (x.1.2.2.1 != x.2.1.2.2.1) with
  | true =>
   some (false, ())
  | false =>
   some (true, ())
noncomputable def S_l_eqMark : Spec := ⟨(.pair TMark (.pair TMark .unit)), (.pair .bool .unit), .unit, rfl, l_eqMark⟩
noncomputable def σ_l_eqMark : FuncId → Option Spec := sig [(99, S_l_eqState)]
theorem σok_l_eqMark : ∀ f s, σ_l_eqMark f = some s → FnOK Try.prog f s := sig_ok (l := [(99, S_l_eqState)]) ⟨ok_l_eqState, trivial⟩
noncomputable def Λ_l_eqMark : Nat → Option LSpec := lkp (loopList (bodyOf Try.f78)) []
theorem ok_l_eqMark : FnOK Try.prog 78 S_l_eqMark := fn_ok (Λ := Λ_l_eqMark) tab0 σok_l_eqMark Try.func78 (by kernel_rfl) (show Try.f78.body = some (bodyOf Try.f78) by kernel_rfl) [] rfl (by kernel_rfl) (by exact trivial) (by kernel_rfl)
  fun x y h => (show execFn Γ0 E0 σ_l_eqMark Λ_l_eqMark Try.f78 S_l_eqMark x = l_eqMark x by kernel_rfl).trans h

noncomputable def b_l_eqMarkS_4 (x : (Ty.T (.pair (.list TMark) (.pair (.list TMark) (.pair (.int .i64) .unit))))) : Option ((Ty.T (.pair (.list TMark) (.pair (.list TMark) (.pair (.int .i64) .unit)))) ⊕ ((Ty.T .unit) ⊕ (Ty.T (.pair .bool .unit)))) :=
match (decide (x.2.2.1 < (x.1.length : Int))) with
| true =>
 onSome (idx x.1 x.2.2.1) fun v1 =>
 onSome (idx x.2.1 x.2.2.1) fun v2 =>
 match l_eqMark (v1, v2, ()) with
 | none => none
 | some v3 =>
 match (!v3.1) with
 | true =>
  some (.inr (.inr (false, ())))
 | false =>
  some (.inl (x.1, x.2.1, (IntKind.i64.wrap (x.2.2.1 + (1 : Int))), ()))
| false =>
 some (.inr (.inl (())))
noncomputable def l_eqMarkS (x : Ty.T (.pair (.list TMark) (.pair (.list TMark) .unit))) : Option (Ty.T (.pair .bool .unit)) :=
match ((x.1.length : Int) != (x.2.1.length : Int)) with
| true =>
 some (false, ())
| false =>
 match loopL b_l_eqMarkS_4 (x.1, x.2.1, (0 : Int), ()) with
 | none => none
 | some (.inl v4) =>
  some (true, ())
 | some (.inr v5) =>
  some (v5.1, ())
noncomputable def S_l_eqMarkS : Spec := ⟨(.pair (.list TMark) (.pair (.list TMark) .unit)), (.pair .bool .unit), .unit, rfl, l_eqMarkS⟩
noncomputable def σ_l_eqMarkS : FuncId → Option Spec := sig [(78, S_l_eqMark)]
theorem σok_l_eqMarkS : ∀ f s, σ_l_eqMarkS f = some s → FnOK Try.prog f s := sig_ok (l := [(78, S_l_eqMark)]) ⟨ok_l_eqMark, trivial⟩
noncomputable def Λ_l_eqMarkS : Nat → Option LSpec := lkp (loopList (bodyOf Try.f36)) [⟨[0, 1, 5], (.pair (.list TMark) (.pair (.list TMark) (.pair (.int .i64) .unit))), 0, [], .unit, [4], (.pair .bool .unit), loopL b_l_eqMarkS_4⟩]
theorem lok_l_eqMarkS_4 (x) : codeK Γ0 E0 σ_l_eqMarkS Λ_l_eqMarkS Try.f36.ntmps (nthLoop Try.f36 0) (mkF Try.f36.ntmps [0, 1, 5] (.pair (.list TMark) (.pair (.list TMark) (.pair (.int .i64) .unit))) x) (readK σ_l_eqMarkS Try.f36.ntmps [0, 1, 5] (.pair (.list TMark) (.pair (.list TMark) (.pair (.int .i64) .unit))) 0 [] .unit [4] (.pair .bool .unit)) = b_l_eqMarkS_4 x := by kernel_rfl
theorem ok_l_eqMarkS : FnOK Try.prog 36 S_l_eqMarkS := fn_ok (Λ := Λ_l_eqMarkS) tab0 σok_l_eqMarkS Try.func36 (by kernel_rfl) (show Try.f36.body = some (bodyOf Try.f36) by kernel_rfl) [⟨[0, 1, 5], (.pair (.list TMark) (.pair (.list TMark) (.pair (.int .i64) .unit))), 0, [], .unit, [4], (.pair .bool .unit), loopL b_l_eqMarkS_4⟩] rfl (by kernel_rfl) (by exact ⟨loop_LOK lok_l_eqMarkS_4, trivial⟩) (by kernel_rfl)
  fun x y h => (show execFn Γ0 E0 σ_l_eqMarkS Λ_l_eqMarkS Try.f36 S_l_eqMarkS x = l_eqMarkS x by kernel_rfl).trans h

noncomputable def l_FnExactFirstLoss (x : Ty.T (.pair (.list TMark) .unit)) : Option (Ty.T (.pair .bool .unit)) :=
match l_szMarkS (x.1, (1048576 : Int), ()) with
| none => none
| some v1 =>
match (decide (v1.1 < (0 : Int))) with
| true =>
 some (true, ())
| false =>
 match l_toMarkS (x.1, ()) with
 | none => none
 | some v2 =>
 match s_FirstLoss (v2.1, ()) with
 | none => none
 | some v3 =>
 match l_toMarkS (x.1, ()) with
 | none => none
 | some v4 =>
 match i_FirstLoss (v4.1, ()) with
 | none => none
 | some v5 =>
 match (v5.1 != v3.1) with
 | true =>
  some (false, ())
 | false =>
  match (v5.2.1 != v3.2.1) with
  | true =>
   some (false, ())
  | false =>
   match l_toMarkS (x.1, ()) with
   | none => none
   | some v6 =>
   match l_eqMarkS (v4.1, v6.1, ()) with
   | none => none
   | some v7 =>
   match (!v7.1) with
   | true =>
    some (false, ())
   | false =>
    some (true, ())
noncomputable def S_l_FnExactFirstLoss : Spec := ⟨(.pair (.list TMark) .unit), (.pair .bool .unit), .unit, rfl, l_FnExactFirstLoss⟩
noncomputable def σ_l_FnExactFirstLoss : FuncId → Option Spec := sig [(32, S_l_szMarkS), (33, S_s_FirstLoss), (34, S_l_toMarkS), (35, S_i_FirstLoss), (36, S_l_eqMarkS)]
theorem σok_l_FnExactFirstLoss : ∀ f s, σ_l_FnExactFirstLoss f = some s → FnOK Try.prog f s := sig_ok (l := [(32, S_l_szMarkS), (33, S_s_FirstLoss), (34, S_l_toMarkS), (35, S_i_FirstLoss), (36, S_l_eqMarkS)]) ⟨ok_l_szMarkS, ok_s_FirstLoss, ok_l_toMarkS, ok_i_FirstLoss, ok_l_eqMarkS, trivial⟩
noncomputable def Λ_l_FnExactFirstLoss : Nat → Option LSpec := lkp (loopList (bodyOf Try.f8)) []
theorem ok_l_FnExactFirstLoss : FnOK Try.prog 8 S_l_FnExactFirstLoss := fn_ok (Λ := Λ_l_FnExactFirstLoss) tab0 σok_l_FnExactFirstLoss Try.func8 (by kernel_rfl) (show Try.f8.body = some (bodyOf Try.f8) by kernel_rfl) [] rfl (by kernel_rfl) (by exact trivial) (by kernel_rfl)
  fun x y h => (show execFn Γ0 E0 σ_l_FnExactFirstLoss Λ_l_FnExactFirstLoss Try.f8 S_l_FnExactFirstLoss x = l_FnExactFirstLoss x by kernel_rfl).trans h

noncomputable def s_QuietSteps (x : Ty.T (.pair (.int .i64) .unit)) : Option (Ty.T (.pair (.own 75 TStep) (.pair (.int .i64) .unit))) :=
match s_l01In (x.1, (0 : Int), (40 : Int), ()) with
| none => none
| some v1 =>
match (!v1.1) with
| true =>
 some ([], (3 : Int), ())
| false =>
 if 0 ≤ x.1 ∧ x.1 ≤ x.1 then
  room (x.1.toNat) (
   some ((List.replicate x.1.toNat ((0 : Int), (0 : Int), [], [], ())), (0 : Int), ()))
 else none
noncomputable def S_s_QuietSteps : Spec := ⟨(.pair (.int .i64) .unit), (.pair (.own 75 TStep) (.pair (.int .i64) .unit)), .unit, rfl, s_QuietSteps⟩
noncomputable def σ_s_QuietSteps : FuncId → Option Spec := sig [(60, S_s_l01In)]
theorem σok_s_QuietSteps : ∀ f s, σ_s_QuietSteps f = some s → FnOK Try.prog f s := sig_ok (l := [(60, S_s_l01In)]) ⟨ok_s_l01In, trivial⟩
noncomputable def Λ_s_QuietSteps : Nat → Option LSpec := lkp (loopList (bodyOf Try.f37)) []
theorem ok_s_QuietSteps : FnOK Try.prog 37 S_s_QuietSteps := fn_ok (Λ := Λ_s_QuietSteps) tab0 σok_s_QuietSteps Try.func37 (by kernel_rfl) (show Try.f37.body = some (bodyOf Try.f37) by kernel_rfl) [] rfl (by kernel_rfl) (by exact trivial) (by kernel_rfl)
  fun x y h => (show execFn Γ0 E0 σ_s_QuietSteps Λ_s_QuietSteps Try.f37 S_s_QuietSteps x = s_QuietSteps x by kernel_rfl).trans h

noncomputable def i_QuietSteps (x : Ty.T (.pair (.int .i64) .unit)) : Option (Ty.T (.pair (.own 75 TStep) (.pair (.int .i64) .unit))) :=
match i_within (x.1, (0 : Int), (40 : Int), ()) with
| none => none
| some v1 =>
match (!v1.1) with
| true =>
 some ([], (3 : Int), ())
| false =>
 if 0 ≤ x.1 ∧ x.1 ≤ x.1 then
  room (x.1.toNat) (
   some ((List.replicate x.1.toNat ((0 : Int), (0 : Int), [], [], ())), (0 : Int), ()))
 else none
noncomputable def S_i_QuietSteps : Spec := ⟨(.pair (.int .i64) .unit), (.pair (.own 75 TStep) (.pair (.int .i64) .unit)), .unit, rfl, i_QuietSteps⟩
noncomputable def σ_i_QuietSteps : FuncId → Option Spec := sig [(62, S_i_within)]
theorem σok_i_QuietSteps : ∀ f s, σ_i_QuietSteps f = some s → FnOK Try.prog f s := sig_ok (l := [(62, S_i_within)]) ⟨ok_i_within, trivial⟩
noncomputable def Λ_i_QuietSteps : Nat → Option LSpec := lkp (loopList (bodyOf Try.f38)) []
theorem ok_i_QuietSteps : FnOK Try.prog 38 S_i_QuietSteps := fn_ok (Λ := Λ_i_QuietSteps) tab0 σok_i_QuietSteps Try.func38 (by kernel_rfl) (show Try.f38.body = some (bodyOf Try.f38) by kernel_rfl) [] rfl (by kernel_rfl) (by exact trivial) (by kernel_rfl)
  fun x y h => (show execFn Γ0 E0 σ_i_QuietSteps Λ_i_QuietSteps Try.f38 S_i_QuietSteps x = i_QuietSteps x by kernel_rfl).trans h

noncomputable def l_eqFault (x : Ty.T (.pair TStarter (.pair TStarter .unit))) : Option (Ty.T (.pair .bool .unit)) :=
match (x.1.1 != x.2.1.1) with
| true =>
 some (false, ())
| false =>
 match (x.1.2.1 != x.2.1.2.1) with
 | true =>
  some (false, ())
 | false =>
  match (x.1.2.2.1 != x.2.1.2.2.1) with
  | true =>
   some (false, ())
  | false =>
   match (x.1.2.2.2.1 != x.2.1.2.2.2.1) with
   | true =>
    some (false, ())
   | false =>
    some (true, ())
noncomputable def S_l_eqFault : Spec := ⟨(.pair TStarter (.pair TStarter .unit)), (.pair .bool .unit), .unit, rfl, l_eqFault⟩
noncomputable def σ_l_eqFault : FuncId → Option Spec := sig []
theorem σok_l_eqFault : ∀ f s, σ_l_eqFault f = some s → FnOK Try.prog f s := sig_ok (l := []) trivial
noncomputable def Λ_l_eqFault : Nat → Option LSpec := lkp (loopList (bodyOf Try.f107)) []
theorem ok_l_eqFault : FnOK Try.prog 107 S_l_eqFault := fn_ok (Λ := Λ_l_eqFault) tab0 σok_l_eqFault Try.func107 (by kernel_rfl) (show Try.f107.body = some (bodyOf Try.f107) by kernel_rfl) [] rfl (by kernel_rfl) (by exact trivial) (by kernel_rfl)
  fun x y h => (show execFn Γ0 E0 σ_l_eqFault Λ_l_eqFault Try.f107 S_l_eqFault x = l_eqFault x by kernel_rfl).trans h

noncomputable def b_l_eqFaultS_4 (x : (Ty.T (.pair (.list TStarter) (.pair (.list TStarter) (.pair (.int .i64) .unit))))) : Option ((Ty.T (.pair (.list TStarter) (.pair (.list TStarter) (.pair (.int .i64) .unit)))) ⊕ ((Ty.T .unit) ⊕ (Ty.T (.pair .bool .unit)))) :=
match (decide (x.2.2.1 < (x.1.length : Int))) with
| true =>
 onSome (idx x.1 x.2.2.1) fun v1 =>
 onSome (idx x.2.1 x.2.2.1) fun v2 =>
 match l_eqFault (v1, v2, ()) with
 | none => none
 | some v3 =>
 match (!v3.1) with
 | true =>
  some (.inr (.inr (false, ())))
 | false =>
  some (.inl (x.1, x.2.1, (IntKind.i64.wrap (x.2.2.1 + (1 : Int))), ()))
| false =>
 some (.inr (.inl (())))
noncomputable def l_eqFaultS (x : Ty.T (.pair (.list TStarter) (.pair (.list TStarter) .unit))) : Option (Ty.T (.pair .bool .unit)) :=
match ((x.1.length : Int) != (x.2.1.length : Int)) with
| true =>
 some (false, ())
| false =>
 match loopL b_l_eqFaultS_4 (x.1, x.2.1, (0 : Int), ()) with
 | none => none
 | some (.inl v4) =>
  some (true, ())
 | some (.inr v5) =>
  some (v5.1, ())
noncomputable def S_l_eqFaultS : Spec := ⟨(.pair (.list TStarter) (.pair (.list TStarter) .unit)), (.pair .bool .unit), .unit, rfl, l_eqFaultS⟩
noncomputable def σ_l_eqFaultS : FuncId → Option Spec := sig [(107, S_l_eqFault)]
theorem σok_l_eqFaultS : ∀ f s, σ_l_eqFaultS f = some s → FnOK Try.prog f s := sig_ok (l := [(107, S_l_eqFault)]) ⟨ok_l_eqFault, trivial⟩
noncomputable def Λ_l_eqFaultS : Nat → Option LSpec := lkp (loopList (bodyOf Try.f91)) [⟨[0, 1, 5], (.pair (.list TStarter) (.pair (.list TStarter) (.pair (.int .i64) .unit))), 0, [], .unit, [4], (.pair .bool .unit), loopL b_l_eqFaultS_4⟩]
theorem lok_l_eqFaultS_4 (x) : codeK Γ0 E0 σ_l_eqFaultS Λ_l_eqFaultS Try.f91.ntmps (nthLoop Try.f91 0) (mkF Try.f91.ntmps [0, 1, 5] (.pair (.list TStarter) (.pair (.list TStarter) (.pair (.int .i64) .unit))) x) (readK σ_l_eqFaultS Try.f91.ntmps [0, 1, 5] (.pair (.list TStarter) (.pair (.list TStarter) (.pair (.int .i64) .unit))) 0 [] .unit [4] (.pair .bool .unit)) = b_l_eqFaultS_4 x := by kernel_rfl
theorem ok_l_eqFaultS : FnOK Try.prog 91 S_l_eqFaultS := fn_ok (Λ := Λ_l_eqFaultS) tab0 σok_l_eqFaultS Try.func91 (by kernel_rfl) (show Try.f91.body = some (bodyOf Try.f91) by kernel_rfl) [⟨[0, 1, 5], (.pair (.list TStarter) (.pair (.list TStarter) (.pair (.int .i64) .unit))), 0, [], .unit, [4], (.pair .bool .unit), loopL b_l_eqFaultS_4⟩] rfl (by kernel_rfl) (by exact ⟨loop_LOK lok_l_eqFaultS_4, trivial⟩) (by kernel_rfl)
  fun x y h => (show execFn Γ0 E0 σ_l_eqFaultS Λ_l_eqFaultS Try.f91 S_l_eqFaultS x = l_eqFaultS x by kernel_rfl).trans h

noncomputable def l_eqStep (x : Ty.T (.pair TStep (.pair TStep .unit))) : Option (Ty.T (.pair .bool .unit)) :=
match (x.1.1 != x.2.1.1) with
| true =>
 some (false, ())
| false =>
 match (x.1.2.1 != x.2.1.2.1) with
 | true =>
  some (false, ())
 | false =>
  match l_eqFaultS (x.1.2.2.1, x.2.1.2.2.1, ()) with
  | none => none
  | some v1 =>
  match (!v1.1) with
  | true =>
   some (false, ())
  | false =>
   match l_eqFaultS (x.1.2.2.2.1, x.2.1.2.2.2.1, ()) with
   | none => none
   | some v2 =>
   match (!v2.1) with
   | true =>
    some (false, ())
   | false =>
    some (true, ())
noncomputable def S_l_eqStep : Spec := ⟨(.pair TStep (.pair TStep .unit)), (.pair .bool .unit), .unit, rfl, l_eqStep⟩
noncomputable def σ_l_eqStep : FuncId → Option Spec := sig [(91, S_l_eqFaultS)]
theorem σok_l_eqStep : ∀ f s, σ_l_eqStep f = some s → FnOK Try.prog f s := sig_ok (l := [(91, S_l_eqFaultS)]) ⟨ok_l_eqFaultS, trivial⟩
noncomputable def Λ_l_eqStep : Nat → Option LSpec := lkp (loopList (bodyOf Try.f52)) []
theorem ok_l_eqStep : FnOK Try.prog 52 S_l_eqStep := fn_ok (Λ := Λ_l_eqStep) tab0 σok_l_eqStep Try.func52 (by kernel_rfl) (show Try.f52.body = some (bodyOf Try.f52) by kernel_rfl) [] rfl (by kernel_rfl) (by exact trivial) (by kernel_rfl)
  fun x y h => (show execFn Γ0 E0 σ_l_eqStep Λ_l_eqStep Try.f52 S_l_eqStep x = l_eqStep x by kernel_rfl).trans h

noncomputable def b_l_eqStepS_4 (x : (Ty.T (.pair (.list TStep) (.pair (.list TStep) (.pair (.int .i64) .unit))))) : Option ((Ty.T (.pair (.list TStep) (.pair (.list TStep) (.pair (.int .i64) .unit)))) ⊕ ((Ty.T .unit) ⊕ (Ty.T (.pair .bool .unit)))) :=
match (decide (x.2.2.1 < (x.1.length : Int))) with
| true =>
 onSome (idx x.1 x.2.2.1) fun v1 =>
 onSome (idx x.2.1 x.2.2.1) fun v2 =>
 match l_eqStep (v1, v2, ()) with
 | none => none
 | some v3 =>
 match (!v3.1) with
 | true =>
  some (.inr (.inr (false, ())))
 | false =>
  some (.inl (x.1, x.2.1, (IntKind.i64.wrap (x.2.2.1 + (1 : Int))), ()))
| false =>
 some (.inr (.inl (())))
noncomputable def l_eqStepS (x : Ty.T (.pair (.list TStep) (.pair (.list TStep) .unit))) : Option (Ty.T (.pair .bool .unit)) :=
match ((x.1.length : Int) != (x.2.1.length : Int)) with
| true =>
 some (false, ())
| false =>
 match loopL b_l_eqStepS_4 (x.1, x.2.1, (0 : Int), ()) with
 | none => none
 | some (.inl v4) =>
  some (true, ())
 | some (.inr v5) =>
  some (v5.1, ())
noncomputable def S_l_eqStepS : Spec := ⟨(.pair (.list TStep) (.pair (.list TStep) .unit)), (.pair .bool .unit), .unit, rfl, l_eqStepS⟩
noncomputable def σ_l_eqStepS : FuncId → Option Spec := sig [(52, S_l_eqStep)]
theorem σok_l_eqStepS : ∀ f s, σ_l_eqStepS f = some s → FnOK Try.prog f s := sig_ok (l := [(52, S_l_eqStep)]) ⟨ok_l_eqStep, trivial⟩
noncomputable def Λ_l_eqStepS : Nat → Option LSpec := lkp (loopList (bodyOf Try.f39)) [⟨[0, 1, 5], (.pair (.list TStep) (.pair (.list TStep) (.pair (.int .i64) .unit))), 0, [], .unit, [4], (.pair .bool .unit), loopL b_l_eqStepS_4⟩]
theorem lok_l_eqStepS_4 (x) : codeK Γ0 E0 σ_l_eqStepS Λ_l_eqStepS Try.f39.ntmps (nthLoop Try.f39 0) (mkF Try.f39.ntmps [0, 1, 5] (.pair (.list TStep) (.pair (.list TStep) (.pair (.int .i64) .unit))) x) (readK σ_l_eqStepS Try.f39.ntmps [0, 1, 5] (.pair (.list TStep) (.pair (.list TStep) (.pair (.int .i64) .unit))) 0 [] .unit [4] (.pair .bool .unit)) = b_l_eqStepS_4 x := by kernel_rfl
theorem ok_l_eqStepS : FnOK Try.prog 39 S_l_eqStepS := fn_ok (Λ := Λ_l_eqStepS) tab0 σok_l_eqStepS Try.func39 (by kernel_rfl) (show Try.f39.body = some (bodyOf Try.f39) by kernel_rfl) [⟨[0, 1, 5], (.pair (.list TStep) (.pair (.list TStep) (.pair (.int .i64) .unit))), 0, [], .unit, [4], (.pair .bool .unit), loopL b_l_eqStepS_4⟩] rfl (by kernel_rfl) (by exact ⟨loop_LOK lok_l_eqStepS_4, trivial⟩) (by kernel_rfl)
  fun x y h => (show execFn Γ0 E0 σ_l_eqStepS Λ_l_eqStepS Try.f39 S_l_eqStepS x = l_eqStepS x by kernel_rfl).trans h

noncomputable def b_l_markFaultS_2 (x : (Ty.T (.pair (.own 109 TStarter) (.pair (.int .i64) (.pair (.int .i64) .unit))))) : Option ((Ty.T (.pair (.own 109 TStarter) (.pair (.int .i64) (.pair (.int .i64) .unit)))) ⊕ ((Ty.T (.pair (.own 109 TStarter) (.pair (.int .i64) .unit))) ⊕ (Ty.T .unit))) :=
match (decide (x.2.2.1 < (x.1.length : Int))) with
| true =>
 onSome (idx x.1 x.2.2.1) fun _ =>
 match x.1[x.2.2.1.toNat]? with
 | none => none
 | some v2 =>
 onSome (idx (x.1.set x.2.2.1.toNat (x.2.1, v2.2.1, v2.2.2.1, v2.2.2.2.1, ())) x.2.2.1) fun _ =>
 match (x.1.set x.2.2.1.toNat (x.2.1, v2.2.1, v2.2.2.1, v2.2.2.2.1, ()))[x.2.2.1.toNat]? with
 | none => none
 | some v4 =>
 onSome (idx ((x.1.set x.2.2.1.toNat (x.2.1, v2.2.1, v2.2.2.1, v2.2.2.2.1, ())).set x.2.2.1.toNat (v4.1, (IntKind.i64.wrap (x.2.1 + (1 : Int))), v4.2.2.1, v4.2.2.2.1, ())) x.2.2.1) fun _ =>
 match ((x.1.set x.2.2.1.toNat (x.2.1, v2.2.1, v2.2.2.1, v2.2.2.2.1, ())).set x.2.2.1.toNat (v4.1, (IntKind.i64.wrap (x.2.1 + (1 : Int))), v4.2.2.1, v4.2.2.2.1, ()))[x.2.2.1.toNat]? with
 | none => none
 | some v6 =>
 onSome (idx (((x.1.set x.2.2.1.toNat (x.2.1, v2.2.1, v2.2.2.1, v2.2.2.2.1, ())).set x.2.2.1.toNat (v4.1, (IntKind.i64.wrap (x.2.1 + (1 : Int))), v4.2.2.1, v4.2.2.2.1, ())).set x.2.2.1.toNat (v6.1, v6.2.1, (IntKind.i64.wrap ((IntKind.i64.wrap (x.2.1 + (1 : Int))) + (1 : Int))), v6.2.2.2.1, ())) x.2.2.1) fun _ =>
 match (((x.1.set x.2.2.1.toNat (x.2.1, v2.2.1, v2.2.2.1, v2.2.2.2.1, ())).set x.2.2.1.toNat (v4.1, (IntKind.i64.wrap (x.2.1 + (1 : Int))), v4.2.2.1, v4.2.2.2.1, ())).set x.2.2.1.toNat (v6.1, v6.2.1, (IntKind.i64.wrap ((IntKind.i64.wrap (x.2.1 + (1 : Int))) + (1 : Int))), v6.2.2.2.1, ()))[x.2.2.1.toNat]? with
 | none => none
 | some v8 =>
 some (.inl (((((x.1.set x.2.2.1.toNat (x.2.1, v2.2.1, v2.2.2.1, v2.2.2.2.1, ())).set x.2.2.1.toNat (v4.1, (IntKind.i64.wrap (x.2.1 + (1 : Int))), v4.2.2.1, v4.2.2.2.1, ())).set x.2.2.1.toNat (v6.1, v6.2.1, (IntKind.i64.wrap ((IntKind.i64.wrap (x.2.1 + (1 : Int))) + (1 : Int))), v6.2.2.2.1, ())).set x.2.2.1.toNat (v8.1, v8.2.1, v8.2.2.1, (IntKind.i64.wrap ((IntKind.i64.wrap ((IntKind.i64.wrap (x.2.1 + (1 : Int))) + (1 : Int))) + (1 : Int))), ())), (IntKind.i64.wrap ((IntKind.i64.wrap ((IntKind.i64.wrap ((IntKind.i64.wrap (x.2.1 + (1 : Int))) + (1 : Int))) + (1 : Int))) + (1 : Int))), (IntKind.i64.wrap (x.2.2.1 + (1 : Int))), ()))
| false =>
 some (.inr (.inl (x.1, x.2.1, ())))
noncomputable def l_markFaultS (x : Ty.T (.pair (.own 109 TStarter) (.pair (.int .i64) .unit))) : Option (Ty.T (.pair (.int .i64) (.pair (.own 109 TStarter) .unit))) :=
match loopL b_l_markFaultS_2 (x.1, x.2.1, (0 : Int), ()) with
| none => none
| some (.inl v9) =>
 some (v9.2.1, v9.1, ())
| some (.inr v11) =>
 none
noncomputable def S_l_markFaultS : Spec := ⟨(.pair (.own 109 TStarter) (.pair (.int .i64) .unit)), (.pair (.int .i64) .unit), (.pair (.own 109 TStarter) .unit), rfl, l_markFaultS⟩
noncomputable def σ_l_markFaultS : FuncId → Option Spec := sig []
theorem σok_l_markFaultS : ∀ f s, σ_l_markFaultS f = some s → FnOK Try.prog f s := sig_ok (l := []) trivial
noncomputable def Λ_l_markFaultS : Nat → Option LSpec := lkp (loopList (bodyOf Try.f79)) [⟨[0, 1, 5], (.pair (.own 109 TStarter) (.pair (.int .i64) (.pair (.int .i64) .unit))), 0, [0, 1], (.pair (.own 109 TStarter) (.pair (.int .i64) .unit)), [], .unit, loopL b_l_markFaultS_2⟩]
theorem lok_l_markFaultS_2 (x) : codeK Γ0 E0 σ_l_markFaultS Λ_l_markFaultS Try.f79.ntmps (nthLoop Try.f79 0) (mkF Try.f79.ntmps [0, 1, 5] (.pair (.own 109 TStarter) (.pair (.int .i64) (.pair (.int .i64) .unit))) x) (readK σ_l_markFaultS Try.f79.ntmps [0, 1, 5] (.pair (.own 109 TStarter) (.pair (.int .i64) (.pair (.int .i64) .unit))) 0 [0, 1] (.pair (.own 109 TStarter) (.pair (.int .i64) .unit)) [] .unit) = b_l_markFaultS_2 x := by kernel_rfl
theorem ok_l_markFaultS : FnOK Try.prog 79 S_l_markFaultS := fn_ok (Λ := Λ_l_markFaultS) tab0 σok_l_markFaultS Try.func79 (by kernel_rfl) (show Try.f79.body = some (bodyOf Try.f79) by kernel_rfl) [⟨[0, 1, 5], (.pair (.own 109 TStarter) (.pair (.int .i64) (.pair (.int .i64) .unit))), 0, [0, 1], (.pair (.own 109 TStarter) (.pair (.int .i64) .unit)), [], .unit, loopL b_l_markFaultS_2⟩] rfl (by kernel_rfl) (by exact ⟨loop_LOK lok_l_markFaultS_2, trivial⟩) (by kernel_rfl)
  fun x y h => (show execFn Γ0 E0 σ_l_markFaultS Λ_l_markFaultS Try.f79 S_l_markFaultS x = l_markFaultS x by kernel_rfl).trans h

noncomputable def b_l_heldFaultS_2 (x : (Ty.T (.pair (.list TStarter) (.pair (.int .i64) (.pair (.int .i64) .unit))))) : Option ((Ty.T (.pair (.list TStarter) (.pair (.int .i64) (.pair (.int .i64) .unit)))) ⊕ ((Ty.T (.pair (.int .i64) .unit)) ⊕ (Ty.T (.pair (.int .i64) .unit)))) :=
match (decide (x.2.2.1 < (x.1.length : Int))) with
| true =>
 onSome (idx x.1 x.2.2.1) fun v1 =>
 match (v1.1 != x.2.1) with
 | true =>
  some (.inr (.inr ((-1 : Int), ())))
 | false =>
  onSome (idx x.1 x.2.2.1) fun v2 =>
  match (v2.2.1 != (IntKind.i64.wrap (x.2.1 + (1 : Int)))) with
  | true =>
   some (.inr (.inr ((-1 : Int), ())))
  | false =>
   onSome (idx x.1 x.2.2.1) fun v3 =>
   match (v3.2.2.1 != (IntKind.i64.wrap ((IntKind.i64.wrap (x.2.1 + (1 : Int))) + (1 : Int)))) with
   | true =>
    some (.inr (.inr ((-1 : Int), ())))
   | false =>
    onSome (idx x.1 x.2.2.1) fun v4 =>
    match (v4.2.2.2.1 != (IntKind.i64.wrap ((IntKind.i64.wrap ((IntKind.i64.wrap (x.2.1 + (1 : Int))) + (1 : Int))) + (1 : Int)))) with
    | true =>
     some (.inr (.inr ((-1 : Int), ())))
    | false =>
     some (.inl (x.1, (IntKind.i64.wrap ((IntKind.i64.wrap ((IntKind.i64.wrap ((IntKind.i64.wrap (x.2.1 + (1 : Int))) + (1 : Int))) + (1 : Int))) + (1 : Int))), (IntKind.i64.wrap (x.2.2.1 + (1 : Int))), ()))
| false =>
 some (.inr (.inl (x.2.1, ())))
noncomputable def l_heldFaultS (x : Ty.T (.pair (.list TStarter) (.pair (.int .i64) .unit))) : Option (Ty.T (.pair (.int .i64) .unit)) :=
match loopL b_l_heldFaultS_2 (x.1, x.2.1, (0 : Int), ()) with
| none => none
| some (.inl v5) =>
 some (v5.1, ())
| some (.inr v6) =>
 some (v6.1, ())
noncomputable def S_l_heldFaultS : Spec := ⟨(.pair (.list TStarter) (.pair (.int .i64) .unit)), (.pair (.int .i64) .unit), .unit, rfl, l_heldFaultS⟩
noncomputable def σ_l_heldFaultS : FuncId → Option Spec := sig []
theorem σok_l_heldFaultS : ∀ f s, σ_l_heldFaultS f = some s → FnOK Try.prog f s := sig_ok (l := []) trivial
noncomputable def Λ_l_heldFaultS : Nat → Option LSpec := lkp (loopList (bodyOf Try.f80)) [⟨[0, 1, 5], (.pair (.list TStarter) (.pair (.int .i64) (.pair (.int .i64) .unit))), 0, [1], (.pair (.int .i64) .unit), [4], (.pair (.int .i64) .unit), loopL b_l_heldFaultS_2⟩]
theorem lok_l_heldFaultS_2 (x) : codeK Γ0 E0 σ_l_heldFaultS Λ_l_heldFaultS Try.f80.ntmps (nthLoop Try.f80 0) (mkF Try.f80.ntmps [0, 1, 5] (.pair (.list TStarter) (.pair (.int .i64) (.pair (.int .i64) .unit))) x) (readK σ_l_heldFaultS Try.f80.ntmps [0, 1, 5] (.pair (.list TStarter) (.pair (.int .i64) (.pair (.int .i64) .unit))) 0 [1] (.pair (.int .i64) .unit) [4] (.pair (.int .i64) .unit)) = b_l_heldFaultS_2 x := by kernel_rfl
theorem ok_l_heldFaultS : FnOK Try.prog 80 S_l_heldFaultS := fn_ok (Λ := Λ_l_heldFaultS) tab0 σok_l_heldFaultS Try.func80 (by kernel_rfl) (show Try.f80.body = some (bodyOf Try.f80) by kernel_rfl) [⟨[0, 1, 5], (.pair (.list TStarter) (.pair (.int .i64) (.pair (.int .i64) .unit))), 0, [1], (.pair (.int .i64) .unit), [4], (.pair (.int .i64) .unit), loopL b_l_heldFaultS_2⟩] rfl (by kernel_rfl) (by exact ⟨loop_LOK lok_l_heldFaultS_2, trivial⟩) (by kernel_rfl)
  fun x y h => (show execFn Γ0 E0 σ_l_heldFaultS Λ_l_heldFaultS Try.f80 S_l_heldFaultS x = l_heldFaultS x by kernel_rfl).trans h

noncomputable def b_l_heldStepS_2 (x : (Ty.T (.pair (.list TStep) (.pair (.int .i64) (.pair (.int .i64) .unit))))) : Option ((Ty.T (.pair (.list TStep) (.pair (.int .i64) (.pair (.int .i64) .unit)))) ⊕ ((Ty.T (.pair (.int .i64) .unit)) ⊕ (Ty.T (.pair (.int .i64) .unit)))) :=
match (decide (x.2.2.1 < (x.1.length : Int))) with
| true =>
 onSome (idx x.1 x.2.2.1) fun v1 =>
 match (v1.1 != x.2.1) with
 | true =>
  some (.inr (.inr ((-1 : Int), ())))
 | false =>
  onSome (idx x.1 x.2.2.1) fun v2 =>
  match (v2.2.1 != (IntKind.i64.wrap (x.2.1 + (1 : Int)))) with
  | true =>
   some (.inr (.inr ((-1 : Int), ())))
  | false =>
   onSome (idx x.1 x.2.2.1) fun v3 =>
   match l_heldFaultS (v3.2.2.1, (IntKind.i64.wrap ((IntKind.i64.wrap (x.2.1 + (1 : Int))) + (1 : Int))), ()) with
   | none => none
   | some v4 =>
   match (decide (v4.1 < (0 : Int))) with
   | true =>
    some (.inr (.inr ((-1 : Int), ())))
   | false =>
    onSome (idx x.1 x.2.2.1) fun v5 =>
    match l_heldFaultS (v5.2.2.2.1, v4.1, ()) with
    | none => none
    | some v6 =>
    match (decide (v6.1 < (0 : Int))) with
    | true =>
     some (.inr (.inr ((-1 : Int), ())))
    | false =>
     some (.inl (x.1, v6.1, (IntKind.i64.wrap (x.2.2.1 + (1 : Int))), ()))
| false =>
 some (.inr (.inl (x.2.1, ())))
noncomputable def l_heldStepS (x : Ty.T (.pair (.list TStep) (.pair (.int .i64) .unit))) : Option (Ty.T (.pair (.int .i64) .unit)) :=
match loopL b_l_heldStepS_2 (x.1, x.2.1, (0 : Int), ()) with
| none => none
| some (.inl v7) =>
 some (v7.1, ())
| some (.inr v8) =>
 some (v8.1, ())
noncomputable def S_l_heldStepS : Spec := ⟨(.pair (.list TStep) (.pair (.int .i64) .unit)), (.pair (.int .i64) .unit), .unit, rfl, l_heldStepS⟩
noncomputable def σ_l_heldStepS : FuncId → Option Spec := sig [(80, S_l_heldFaultS)]
theorem σok_l_heldStepS : ∀ f s, σ_l_heldStepS f = some s → FnOK Try.prog f s := sig_ok (l := [(80, S_l_heldFaultS)]) ⟨ok_l_heldFaultS, trivial⟩
noncomputable def Λ_l_heldStepS : Nat → Option LSpec := lkp (loopList (bodyOf Try.f41)) [⟨[0, 1, 5], (.pair (.list TStep) (.pair (.int .i64) (.pair (.int .i64) .unit))), 0, [1], (.pair (.int .i64) .unit), [4], (.pair (.int .i64) .unit), loopL b_l_heldStepS_2⟩]
theorem lok_l_heldStepS_2 (x) : codeK Γ0 E0 σ_l_heldStepS Λ_l_heldStepS Try.f41.ntmps (nthLoop Try.f41 0) (mkF Try.f41.ntmps [0, 1, 5] (.pair (.list TStep) (.pair (.int .i64) (.pair (.int .i64) .unit))) x) (readK σ_l_heldStepS Try.f41.ntmps [0, 1, 5] (.pair (.list TStep) (.pair (.int .i64) (.pair (.int .i64) .unit))) 0 [1] (.pair (.int .i64) .unit) [4] (.pair (.int .i64) .unit)) = b_l_heldStepS_2 x := by kernel_rfl
theorem ok_l_heldStepS : FnOK Try.prog 41 S_l_heldStepS := fn_ok (Λ := Λ_l_heldStepS) tab0 σok_l_heldStepS Try.func41 (by kernel_rfl) (show Try.f41.body = some (bodyOf Try.f41) by kernel_rfl) [⟨[0, 1, 5], (.pair (.list TStep) (.pair (.int .i64) (.pair (.int .i64) .unit))), 0, [1], (.pair (.int .i64) .unit), [4], (.pair (.int .i64) .unit), loopL b_l_heldStepS_2⟩] rfl (by kernel_rfl) (by exact ⟨loop_LOK lok_l_heldStepS_2, trivial⟩) (by kernel_rfl)
  fun x y h => (show execFn Γ0 E0 σ_l_heldStepS Λ_l_heldStepS Try.f41 S_l_heldStepS x = l_heldStepS x by kernel_rfl).trans h

noncomputable def b_s_l30Code_4 (x : (Ty.T (.pair (.list (.int .i64)) (.pair (.list (.int .i64)) (.pair (.int .i64) (.pair (.int .i64) (.pair (.int .i64) .unit))))))) : Option ((Ty.T (.pair (.list (.int .i64)) (.pair (.list (.int .i64)) (.pair (.int .i64) (.pair (.int .i64) (.pair (.int .i64) .unit)))))) ⊕ ((Ty.T (.pair (.list (.int .i64)) (.pair (.list (.int .i64)) (.pair (.int .i64) (.pair (.int .i64) .unit))))) ⊕ (Ty.T (.pair (.int .i64) .unit)))) :=
match (decide (x.2.2.2.2.1 < (x.2.1.length : Int))) with
| true =>
 onSome (idx x.2.1 x.2.2.2.2.1) fun v2 =>
 match s_l01In (v2, (-1000 : Int), (1000 : Int), ()) with
 | none => none
 | some v3 =>
 match (!v3.1) with
 | true =>
  some (.inr (.inr ((2 : Int), ())))
 | false =>
  some (.inl (x.1, x.2.1, x.2.2.1, x.2.2.2.1, (IntKind.i64.wrap (x.2.2.2.2.1 + (1 : Int))), ()))
| false =>
 some (.inr (.inl (x.1, x.2.1, x.2.2.1, x.2.2.2.1, ())))
noncomputable def s_l30Code (x : Ty.T (.pair (.list (.int .i64)) (.pair (.list (.int .i64)) (.pair (.int .i64) (.pair (.int .i64) .unit))))) : Option (Ty.T (.pair (.int .i64) .unit)) :=
match s_l30Clocks (x.1, ()) with
| none => none
| some v1 =>
match (!v1.1) with
| true =>
 some ((1 : Int), ())
| false =>
 match loopL b_s_l30Code_4 (x.1, x.2.1, x.2.2.1, x.2.2.2.1, (0 : Int), ()) with
 | none => none
 | some (.inl v4) =>
  match ((v4.2.1.length : Int) != (v4.1.length : Int)) with
  | true =>
   some ((2 : Int), ())
  | false =>
   match s_l01In (v4.2.2.1, (0 : Int), (65535 : Int), ()) with
   | none => none
   | some v6 =>
   match (!v6.1) with
   | true =>
    some ((2 : Int), ())
   | false =>
    match s_l01In (v4.2.2.2.1, (0 : Int), (100 : Int), ()) with
    | none => none
    | some v7 =>
    match (!v7.1) with
    | true =>
     some ((2 : Int), ())
    | false =>
     some ((0 : Int), ())
 | some (.inr v5) =>
  some (v5.1, ())
noncomputable def S_s_l30Code : Spec := ⟨(.pair (.list (.int .i64)) (.pair (.list (.int .i64)) (.pair (.int .i64) (.pair (.int .i64) .unit)))), (.pair (.int .i64) .unit), .unit, rfl, s_l30Code⟩
noncomputable def σ_s_l30Code : FuncId → Option Spec := sig [(60, S_s_l01In), (66, S_s_l30Clocks)]
theorem σok_s_l30Code : ∀ f s, σ_s_l30Code f = some s → FnOK Try.prog f s := sig_ok (l := [(60, S_s_l01In), (66, S_s_l30Clocks)]) ⟨ok_s_l01In, ok_s_l30Clocks, trivial⟩
noncomputable def Λ_s_l30Code : Nat → Option LSpec := lkp (loopList (bodyOf Try.f81)) [⟨[0, 1, 2, 3, 9], (.pair (.list (.int .i64)) (.pair (.list (.int .i64)) (.pair (.int .i64) (.pair (.int .i64) (.pair (.int .i64) .unit))))), 0, [0, 1, 2, 3], (.pair (.list (.int .i64)) (.pair (.list (.int .i64)) (.pair (.int .i64) (.pair (.int .i64) .unit)))), [8], (.pair (.int .i64) .unit), loopL b_s_l30Code_4⟩]
theorem lok_s_l30Code_4 (x) : codeK Γ0 E0 σ_s_l30Code Λ_s_l30Code Try.f81.ntmps (nthLoop Try.f81 0) (mkF Try.f81.ntmps [0, 1, 2, 3, 9] (.pair (.list (.int .i64)) (.pair (.list (.int .i64)) (.pair (.int .i64) (.pair (.int .i64) (.pair (.int .i64) .unit))))) x) (readK σ_s_l30Code Try.f81.ntmps [0, 1, 2, 3, 9] (.pair (.list (.int .i64)) (.pair (.list (.int .i64)) (.pair (.int .i64) (.pair (.int .i64) (.pair (.int .i64) .unit))))) 0 [0, 1, 2, 3] (.pair (.list (.int .i64)) (.pair (.list (.int .i64)) (.pair (.int .i64) (.pair (.int .i64) .unit)))) [8] (.pair (.int .i64) .unit)) = b_s_l30Code_4 x := by kernel_rfl
theorem ok_s_l30Code : FnOK Try.prog 81 S_s_l30Code := fn_ok (Λ := Λ_s_l30Code) tab0 σok_s_l30Code Try.func81 (by kernel_rfl) (show Try.f81.body = some (bodyOf Try.f81) by kernel_rfl) [⟨[0, 1, 2, 3, 9], (.pair (.list (.int .i64)) (.pair (.list (.int .i64)) (.pair (.int .i64) (.pair (.int .i64) (.pair (.int .i64) .unit))))), 0, [0, 1, 2, 3], (.pair (.list (.int .i64)) (.pair (.list (.int .i64)) (.pair (.int .i64) (.pair (.int .i64) .unit)))), [8], (.pair (.int .i64) .unit), loopL b_s_l30Code_4⟩] rfl (by kernel_rfl) (by exact ⟨loop_LOK lok_s_l30Code_4, trivial⟩) (by kernel_rfl)
  fun x y h => (show execFn Γ0 E0 σ_s_l30Code Λ_s_l30Code Try.f81 S_s_l30Code x = s_l30Code x by kernel_rfl).trans h

noncomputable def s_l30Floor (x : Ty.T (.pair (.int .i64) (.pair (.int .i64) .unit))) : Option (Ty.T (.pair (.int .i64) .unit)) :=
if x.2.1 = 0 then none else
if x.2.1 = 0 then none else
match (decide ((Int.tmod x.1 x.2.1) < (0 : Int))) with
| true =>
 some ((IntKind.i64.wrap ((IntKind.i64.wrap (Int.tdiv x.1 x.2.1)) - (1 : Int))), ())
| false =>
 some ((IntKind.i64.wrap (Int.tdiv x.1 x.2.1)), ())
noncomputable def S_s_l30Floor : Spec := ⟨(.pair (.int .i64) (.pair (.int .i64) .unit)), (.pair (.int .i64) .unit), .unit, rfl, s_l30Floor⟩
noncomputable def σ_s_l30Floor : FuncId → Option Spec := sig []
theorem σok_s_l30Floor : ∀ f s, σ_s_l30Floor f = some s → FnOK Try.prog f s := sig_ok (l := []) trivial
noncomputable def Λ_s_l30Floor : Nat → Option LSpec := lkp (loopList (bodyOf Try.f100)) []
theorem ok_s_l30Floor : FnOK Try.prog 100 S_s_l30Floor := fn_ok (Λ := Λ_s_l30Floor) tab0 σok_s_l30Floor Try.func100 (by kernel_rfl) (show Try.f100.body = some (bodyOf Try.f100) by kernel_rfl) [] rfl (by kernel_rfl) (by exact trivial) (by kernel_rfl)
  fun x y h => (show execFn Γ0 E0 σ_s_l30Floor Λ_s_l30Floor Try.f100 S_s_l30Floor x = s_l30Floor x by kernel_rfl).trans h

noncomputable def b_s_l30Advance_3 (x : (Ty.T (.pair (.list (.int .i64)) (.pair (.list (.int .i64)) (.pair (.int .i64) (.pair (.own 2 (.int .i64)) (.pair (.int .i64) .unit))))))) : Option ((Ty.T (.pair (.list (.int .i64)) (.pair (.list (.int .i64)) (.pair (.int .i64) (.pair (.own 2 (.int .i64)) (.pair (.int .i64) .unit)))))) ⊕ ((Ty.T (.pair (.own 2 (.int .i64)) .unit)) ⊕ (Ty.T .unit))) :=
match (decide (x.2.2.2.2.1 < (x.1.length : Int))) with
| true =>
 onSome (idx x.1 x.2.2.2.2.1) fun v1 =>
 onSome (idx x.2.1 x.2.2.2.2.1) fun v2 =>
 match s_l30Floor ((IntKind.i64.wrap (x.2.2.1 * v2)), (1000000 : Int), ()) with
 | none => none
 | some v3 =>
 room (x.2.2.2.1.length + [(IntKind.i64.wrap ((IntKind.i64.wrap (v1 + x.2.2.1)) + v3.1))].length) (
  some (.inl (x.1, x.2.1, x.2.2.1, (x.2.2.2.1 ++ [(IntKind.i64.wrap ((IntKind.i64.wrap (v1 + x.2.2.1)) + v3.1))]), (IntKind.i64.wrap (x.2.2.2.2.1 + (1 : Int))), ())))
| false =>
 some (.inr (.inl (x.2.2.2.1, ())))
noncomputable def s_l30Advance (x : Ty.T (.pair (.list (.int .i64)) (.pair (.list (.int .i64)) (.pair (.int .i64) .unit)))) : Option (Ty.T (.pair (.own 2 (.int .i64)) .unit)) :=
match loopL b_s_l30Advance_3 (x.1, x.2.1, x.2.2.1, [], (0 : Int), ()) with
| none => none
| some (.inl v4) =>
 some (v4.1, ())
| some (.inr v6) =>
 none
noncomputable def S_s_l30Advance : Spec := ⟨(.pair (.list (.int .i64)) (.pair (.list (.int .i64)) (.pair (.int .i64) .unit))), (.pair (.own 2 (.int .i64)) .unit), .unit, rfl, s_l30Advance⟩
noncomputable def σ_s_l30Advance : FuncId → Option Spec := sig [(100, S_s_l30Floor)]
theorem σok_s_l30Advance : ∀ f s, σ_s_l30Advance f = some s → FnOK Try.prog f s := sig_ok (l := [(100, S_s_l30Floor)]) ⟨ok_s_l30Floor, trivial⟩
noncomputable def Λ_s_l30Advance : Nat → Option LSpec := lkp (loopList (bodyOf Try.f82)) [⟨[0, 1, 2, 7, 8], (.pair (.list (.int .i64)) (.pair (.list (.int .i64)) (.pair (.int .i64) (.pair (.own 2 (.int .i64)) (.pair (.int .i64) .unit))))), 0, [7], (.pair (.own 2 (.int .i64)) .unit), [], .unit, loopL b_s_l30Advance_3⟩]
theorem lok_s_l30Advance_3 (x) : codeK Γ0 E0 σ_s_l30Advance Λ_s_l30Advance Try.f82.ntmps (nthLoop Try.f82 0) (mkF Try.f82.ntmps [0, 1, 2, 7, 8] (.pair (.list (.int .i64)) (.pair (.list (.int .i64)) (.pair (.int .i64) (.pair (.own 2 (.int .i64)) (.pair (.int .i64) .unit))))) x) (readK σ_s_l30Advance Try.f82.ntmps [0, 1, 2, 7, 8] (.pair (.list (.int .i64)) (.pair (.list (.int .i64)) (.pair (.int .i64) (.pair (.own 2 (.int .i64)) (.pair (.int .i64) .unit))))) 0 [7] (.pair (.own 2 (.int .i64)) .unit) [] .unit) = b_s_l30Advance_3 x := by kernel_rfl
theorem ok_s_l30Advance : FnOK Try.prog 82 S_s_l30Advance := fn_ok (Λ := Λ_s_l30Advance) tab0 σok_s_l30Advance Try.func82 (by kernel_rfl) (show Try.f82.body = some (bodyOf Try.f82) by kernel_rfl) [⟨[0, 1, 2, 7, 8], (.pair (.list (.int .i64)) (.pair (.list (.int .i64)) (.pair (.int .i64) (.pair (.own 2 (.int .i64)) (.pair (.int .i64) .unit))))), 0, [7], (.pair (.own 2 (.int .i64)) .unit), [], .unit, loopL b_s_l30Advance_3⟩] rfl (by kernel_rfl) (by exact ⟨loop_LOK lok_s_l30Advance_3, trivial⟩) (by kernel_rfl)
  fun x y h => (show execFn Γ0 E0 σ_s_l30Advance Λ_s_l30Advance Try.f82 S_s_l30Advance x = s_l30Advance x by kernel_rfl).trans h

noncomputable def s_AdvanceClocks (x : Ty.T (.pair (.list (.int .i64)) (.pair (.list (.int .i64)) (.pair (.int .i64) .unit)))) : Option (Ty.T (.pair (.own 2 (.int .i64)) (.pair (.int .i64) .unit))) :=
match s_l30Code (x.1, x.2.1, x.2.2.1, (0 : Int), ()) with
| none => none
| some v1 =>
match (v1.1 != (0 : Int)) with
| true =>
 some ([], v1.1, ())
| false =>
 match s_l30Advance (x.1, x.2.1, x.2.2.1, ()) with
 | none => none
 | some v2 =>
 match s_l30All (v2.1, ()) with
 | none => none
 | some v3 =>
 match (!v3.1) with
 | true =>
  some ([], (3 : Int), ())
 | false =>
  some (v2.1, (0 : Int), ())
noncomputable def S_s_AdvanceClocks : Spec := ⟨(.pair (.list (.int .i64)) (.pair (.list (.int .i64)) (.pair (.int .i64) .unit))), (.pair (.own 2 (.int .i64)) (.pair (.int .i64) .unit)), .unit, rfl, s_AdvanceClocks⟩
noncomputable def σ_s_AdvanceClocks : FuncId → Option Spec := sig [(81, S_s_l30Code), (82, S_s_l30Advance), (83, S_s_l30All)]
theorem σok_s_AdvanceClocks : ∀ f s, σ_s_AdvanceClocks f = some s → FnOK Try.prog f s := sig_ok (l := [(81, S_s_l30Code), (82, S_s_l30Advance), (83, S_s_l30All)]) ⟨ok_s_l30Code, ok_s_l30Advance, ok_s_l30All, trivial⟩
noncomputable def Λ_s_AdvanceClocks : Nat → Option LSpec := lkp (loopList (bodyOf Try.f42)) []
theorem ok_s_AdvanceClocks : FnOK Try.prog 42 S_s_AdvanceClocks := fn_ok (Λ := Λ_s_AdvanceClocks) tab0 σok_s_AdvanceClocks Try.func42 (by kernel_rfl) (show Try.f42.body = some (bodyOf Try.f42) by kernel_rfl) [] rfl (by kernel_rfl) (by exact trivial) (by kernel_rfl)
  fun x y h => (show execFn Γ0 E0 σ_s_AdvanceClocks Λ_s_AdvanceClocks Try.f42 S_s_AdvanceClocks x = s_AdvanceClocks x by kernel_rfl).trans h

noncomputable def i_clocksCode (x : Ty.T (.pair (.list (.int .i64)) (.pair (.list (.int .i64)) (.pair (.int .i64) (.pair (.int .i64) .unit))))) : Option (Ty.T (.pair (.int .i64) .unit)) :=
match i_areClocks (x.1, ()) with
| none => none
| some v1 =>
match (!v1.1) with
| true =>
 some ((1 : Int), ())
| false =>
 match ((x.2.1.length : Int) != (x.1.length : Int)) with
 | true =>
  some ((2 : Int), ())
 | false =>
  match i_allWithin (x.2.1, (-1000 : Int), (1000 : Int), ()) with
  | none => none
  | some v2 =>
  match (!v2.1) with
  | true =>
   some ((2 : Int), ())
  | false =>
   match i_within (x.2.2.1, (0 : Int), (65535 : Int), ()) with
   | none => none
   | some v3 =>
   match (!v3.1) with
   | true =>
    some ((2 : Int), ())
   | false =>
    match i_within (x.2.2.2.1, (0 : Int), (100 : Int), ()) with
    | none => none
    | some v4 =>
    match (!v4.1) with
    | true =>
     some ((2 : Int), ())
    | false =>
     some ((0 : Int), ())
noncomputable def S_i_clocksCode : Spec := ⟨(.pair (.list (.int .i64)) (.pair (.list (.int .i64)) (.pair (.int .i64) (.pair (.int .i64) .unit)))), (.pair (.int .i64) .unit), .unit, rfl, i_clocksCode⟩
noncomputable def σ_i_clocksCode : FuncId → Option Spec := sig [(62, S_i_within), (68, S_i_areClocks), (94, S_i_allWithin)]
theorem σok_i_clocksCode : ∀ f s, σ_i_clocksCode f = some s → FnOK Try.prog f s := sig_ok (l := [(62, S_i_within), (68, S_i_areClocks), (94, S_i_allWithin)]) ⟨ok_i_within, ok_i_areClocks, ok_i_allWithin, trivial⟩
noncomputable def Λ_i_clocksCode : Nat → Option LSpec := lkp (loopList (bodyOf Try.f84)) []
theorem ok_i_clocksCode : FnOK Try.prog 84 S_i_clocksCode := fn_ok (Λ := Λ_i_clocksCode) tab0 σok_i_clocksCode Try.func84 (by kernel_rfl) (show Try.f84.body = some (bodyOf Try.f84) by kernel_rfl) [] rfl (by kernel_rfl) (by exact trivial) (by kernel_rfl)
  fun x y h => (show execFn Γ0 E0 σ_i_clocksCode Λ_i_clocksCode Try.f84 S_i_clocksCode x = i_clocksCode x by kernel_rfl).trans h

noncomputable def i_floorDivide (x : Ty.T (.pair (.int .i64) (.pair (.int .i64) .unit))) : Option (Ty.T (.pair (.int .i64) .unit)) :=
if x.2.1 = 0 then none else
if x.2.1 = 0 then none else
match (decide ((Int.tmod x.1 x.2.1) < (0 : Int))) with
| true =>
 some ((IntKind.i64.wrap ((IntKind.i64.wrap (Int.tdiv x.1 x.2.1)) - (1 : Int))), ())
| false =>
 some ((IntKind.i64.wrap (Int.tdiv x.1 x.2.1)), ())
noncomputable def S_i_floorDivide : Spec := ⟨(.pair (.int .i64) (.pair (.int .i64) .unit)), (.pair (.int .i64) .unit), .unit, rfl, i_floorDivide⟩
noncomputable def σ_i_floorDivide : FuncId → Option Spec := sig []
theorem σok_i_floorDivide : ∀ f s, σ_i_floorDivide f = some s → FnOK Try.prog f s := sig_ok (l := []) trivial
noncomputable def Λ_i_floorDivide : Nat → Option LSpec := lkp (loopList (bodyOf Try.f101)) []
theorem ok_i_floorDivide : FnOK Try.prog 101 S_i_floorDivide := fn_ok (Λ := Λ_i_floorDivide) tab0 σok_i_floorDivide Try.func101 (by kernel_rfl) (show Try.f101.body = some (bodyOf Try.f101) by kernel_rfl) [] rfl (by kernel_rfl) (by exact trivial) (by kernel_rfl)
  fun x y h => (show execFn Γ0 E0 σ_i_floorDivide Λ_i_floorDivide Try.f101 S_i_floorDivide x = i_floorDivide x by kernel_rfl).trans h

noncomputable def b_i_advance_3 (x : (Ty.T (.pair (.list (.int .i64)) (.pair (.int .i64) (.pair (.own 2 (.int .i64)) (.pair (.list (.int .i64)) (.pair (.int .i64) (.pair (.int .i64) .unit)))))))) : Option ((Ty.T (.pair (.list (.int .i64)) (.pair (.int .i64) (.pair (.own 2 (.int .i64)) (.pair (.list (.int .i64)) (.pair (.int .i64) (.pair (.int .i64) .unit))))))) ⊕ ((Ty.T (.pair (.own 2 (.int .i64)) .unit)) ⊕ (Ty.T .unit))) :=
match (decide (x.2.2.2.2.2.1 < x.2.2.2.2.1)) with
| true =>
 onSome (idx x.2.2.2.1 x.2.2.2.2.2.1) fun v1 =>
 onSome (idx x.1 x.2.2.2.2.2.1) fun v2 =>
 match i_floorDivide ((IntKind.i64.wrap (x.2.1 * v2)), (1000000 : Int), ()) with
 | none => none
 | some v3 =>
 room (x.2.2.1.length + [(IntKind.i64.wrap ((IntKind.i64.wrap (v1 + x.2.1)) + v3.1))].length) (
  some (.inl (x.1, x.2.1, (x.2.2.1 ++ [(IntKind.i64.wrap ((IntKind.i64.wrap (v1 + x.2.1)) + v3.1))]), x.2.2.2.1, x.2.2.2.2.1, (IntKind.i64.wrap (x.2.2.2.2.2.1 + (1 : Int))), ())))
| false =>
 some (.inr (.inl (x.2.2.1, ())))
noncomputable def i_advance (x : Ty.T (.pair (.list (.int .i64)) (.pair (.list (.int .i64)) (.pair (.int .i64) .unit)))) : Option (Ty.T (.pair (.own 2 (.int .i64)) .unit)) :=
match loopL b_i_advance_3 (x.2.1, x.2.2.1, [], x.1, (x.1.length : Int), (0 : Int), ()) with
| none => none
| some (.inl v4) =>
 some (v4.1, ())
| some (.inr v6) =>
 none
noncomputable def S_i_advance : Spec := ⟨(.pair (.list (.int .i64)) (.pair (.list (.int .i64)) (.pair (.int .i64) .unit))), (.pair (.own 2 (.int .i64)) .unit), .unit, rfl, i_advance⟩
noncomputable def σ_i_advance : FuncId → Option Spec := sig [(101, S_i_floorDivide)]
theorem σok_i_advance : ∀ f s, σ_i_advance f = some s → FnOK Try.prog f s := sig_ok (l := [(101, S_i_floorDivide)]) ⟨ok_i_floorDivide, trivial⟩
noncomputable def Λ_i_advance : Nat → Option LSpec := lkp (loopList (bodyOf Try.f85)) [⟨[1, 2, 7, 11, 12, 13], (.pair (.list (.int .i64)) (.pair (.int .i64) (.pair (.own 2 (.int .i64)) (.pair (.list (.int .i64)) (.pair (.int .i64) (.pair (.int .i64) .unit)))))), 0, [7], (.pair (.own 2 (.int .i64)) .unit), [], .unit, loopL b_i_advance_3⟩]
theorem lok_i_advance_3 (x) : codeK Γ0 E0 σ_i_advance Λ_i_advance Try.f85.ntmps (nthLoop Try.f85 0) (mkF Try.f85.ntmps [1, 2, 7, 11, 12, 13] (.pair (.list (.int .i64)) (.pair (.int .i64) (.pair (.own 2 (.int .i64)) (.pair (.list (.int .i64)) (.pair (.int .i64) (.pair (.int .i64) .unit)))))) x) (readK σ_i_advance Try.f85.ntmps [1, 2, 7, 11, 12, 13] (.pair (.list (.int .i64)) (.pair (.int .i64) (.pair (.own 2 (.int .i64)) (.pair (.list (.int .i64)) (.pair (.int .i64) (.pair (.int .i64) .unit)))))) 0 [7] (.pair (.own 2 (.int .i64)) .unit) [] .unit) = b_i_advance_3 x := by kernel_rfl
theorem ok_i_advance : FnOK Try.prog 85 S_i_advance := fn_ok (Λ := Λ_i_advance) tab0 σok_i_advance Try.func85 (by kernel_rfl) (show Try.f85.body = some (bodyOf Try.f85) by kernel_rfl) [⟨[1, 2, 7, 11, 12, 13], (.pair (.list (.int .i64)) (.pair (.int .i64) (.pair (.own 2 (.int .i64)) (.pair (.list (.int .i64)) (.pair (.int .i64) (.pair (.int .i64) .unit)))))), 0, [7], (.pair (.own 2 (.int .i64)) .unit), [], .unit, loopL b_i_advance_3⟩] rfl (by kernel_rfl) (by exact ⟨loop_LOK lok_i_advance_3, trivial⟩) (by kernel_rfl)
  fun x y h => (show execFn Γ0 E0 σ_i_advance Λ_i_advance Try.f85 S_i_advance x = i_advance x by kernel_rfl).trans h

noncomputable def i_AdvanceClocks (x : Ty.T (.pair (.list (.int .i64)) (.pair (.list (.int .i64)) (.pair (.int .i64) .unit)))) : Option (Ty.T (.pair (.own 2 (.int .i64)) (.pair (.int .i64) .unit))) :=
match i_clocksCode (x.1, x.2.1, x.2.2.1, (0 : Int), ()) with
| none => none
| some v1 =>
match (v1.1 != (0 : Int)) with
| true =>
 some ([], v1.1, ())
| false =>
 match i_advance (x.1, x.2.1, x.2.2.1, ()) with
 | none => none
 | some v2 =>
 match slices_Max_int64 (v2.1, ()) with
 | none => none
 | some v3 =>
 match (decide (v3.1 > (1000000000 : Int))) with
 | true =>
  some ([], (3 : Int), ())
 | false =>
  some (v2.1, (0 : Int), ())
noncomputable def S_i_AdvanceClocks : Spec := ⟨(.pair (.list (.int .i64)) (.pair (.list (.int .i64)) (.pair (.int .i64) .unit))), (.pair (.own 2 (.int .i64)) (.pair (.int .i64) .unit)), .unit, rfl, i_AdvanceClocks⟩
noncomputable def σ_i_AdvanceClocks : FuncId → Option Spec := sig [(84, S_i_clocksCode), (85, S_i_advance), (86, S_slices_Max_int64)]
theorem σok_i_AdvanceClocks : ∀ f s, σ_i_AdvanceClocks f = some s → FnOK Try.prog f s := sig_ok (l := [(84, S_i_clocksCode), (85, S_i_advance), (86, S_slices_Max_int64)]) ⟨ok_i_clocksCode, ok_i_advance, ok_slices_Max_int64, trivial⟩
noncomputable def Λ_i_AdvanceClocks : Nat → Option LSpec := lkp (loopList (bodyOf Try.f43)) []
theorem ok_i_AdvanceClocks : FnOK Try.prog 43 S_i_AdvanceClocks := fn_ok (Λ := Λ_i_AdvanceClocks) tab0 σok_i_AdvanceClocks Try.func43 (by kernel_rfl) (show Try.f43.body = some (bodyOf Try.f43) by kernel_rfl) [] rfl (by kernel_rfl) (by exact trivial) (by kernel_rfl)
  fun x y h => (show execFn Γ0 E0 σ_i_AdvanceClocks Λ_i_AdvanceClocks Try.f43 S_i_AdvanceClocks x = i_AdvanceClocks x by kernel_rfl).trans h

noncomputable def b_l_markInt64S_2 (x : (Ty.T (.pair (.own 2 (.int .i64)) (.pair (.int .i64) (.pair (.int .i64) .unit))))) : Option ((Ty.T (.pair (.own 2 (.int .i64)) (.pair (.int .i64) (.pair (.int .i64) .unit)))) ⊕ ((Ty.T (.pair (.own 2 (.int .i64)) (.pair (.int .i64) .unit))) ⊕ (Ty.T .unit))) :=
match (decide (x.2.2.1 < (x.1.length : Int))) with
| true =>
 onSome (idx x.1 x.2.2.1) fun _ =>
 match x.1[x.2.2.1.toNat]? with
 | none => none
 | some v2 =>
 some (.inl ((x.1.set x.2.2.1.toNat x.2.1), (IntKind.i64.wrap (x.2.1 + (1 : Int))), (IntKind.i64.wrap (x.2.2.1 + (1 : Int))), ()))
| false =>
 some (.inr (.inl (x.1, x.2.1, ())))
noncomputable def l_markInt64S (x : Ty.T (.pair (.own 2 (.int .i64)) (.pair (.int .i64) .unit))) : Option (Ty.T (.pair (.int .i64) (.pair (.own 2 (.int .i64)) .unit))) :=
match loopL b_l_markInt64S_2 (x.1, x.2.1, (0 : Int), ()) with
| none => none
| some (.inl v3) =>
 some (v3.2.1, v3.1, ())
| some (.inr v5) =>
 none
noncomputable def S_l_markInt64S : Spec := ⟨(.pair (.own 2 (.int .i64)) (.pair (.int .i64) .unit)), (.pair (.int .i64) .unit), (.pair (.own 2 (.int .i64)) .unit), rfl, l_markInt64S⟩
noncomputable def σ_l_markInt64S : FuncId → Option Spec := sig []
theorem σok_l_markInt64S : ∀ f s, σ_l_markInt64S f = some s → FnOK Try.prog f s := sig_ok (l := []) trivial
noncomputable def Λ_l_markInt64S : Nat → Option LSpec := lkp (loopList (bodyOf Try.f44)) [⟨[0, 1, 5], (.pair (.own 2 (.int .i64)) (.pair (.int .i64) (.pair (.int .i64) .unit))), 0, [0, 1], (.pair (.own 2 (.int .i64)) (.pair (.int .i64) .unit)), [], .unit, loopL b_l_markInt64S_2⟩]
theorem lok_l_markInt64S_2 (x) : codeK Γ0 E0 σ_l_markInt64S Λ_l_markInt64S Try.f44.ntmps (nthLoop Try.f44 0) (mkF Try.f44.ntmps [0, 1, 5] (.pair (.own 2 (.int .i64)) (.pair (.int .i64) (.pair (.int .i64) .unit))) x) (readK σ_l_markInt64S Try.f44.ntmps [0, 1, 5] (.pair (.own 2 (.int .i64)) (.pair (.int .i64) (.pair (.int .i64) .unit))) 0 [0, 1] (.pair (.own 2 (.int .i64)) (.pair (.int .i64) .unit)) [] .unit) = b_l_markInt64S_2 x := by kernel_rfl
theorem ok_l_markInt64S : FnOK Try.prog 44 S_l_markInt64S := fn_ok (Λ := Λ_l_markInt64S) tab0 σok_l_markInt64S Try.func44 (by kernel_rfl) (show Try.f44.body = some (bodyOf Try.f44) by kernel_rfl) [⟨[0, 1, 5], (.pair (.own 2 (.int .i64)) (.pair (.int .i64) (.pair (.int .i64) .unit))), 0, [0, 1], (.pair (.own 2 (.int .i64)) (.pair (.int .i64) .unit)), [], .unit, loopL b_l_markInt64S_2⟩] rfl (by kernel_rfl) (by exact ⟨loop_LOK lok_l_markInt64S_2, trivial⟩) (by kernel_rfl)
  fun x y h => (show execFn Γ0 E0 σ_l_markInt64S Λ_l_markInt64S Try.f44 S_l_markInt64S x = l_markInt64S x by kernel_rfl).trans h

noncomputable def b_l_heldInt64S_2 (x : (Ty.T (.pair (.list (.int .i64)) (.pair (.int .i64) (.pair (.int .i64) .unit))))) : Option ((Ty.T (.pair (.list (.int .i64)) (.pair (.int .i64) (.pair (.int .i64) .unit)))) ⊕ ((Ty.T (.pair (.int .i64) .unit)) ⊕ (Ty.T (.pair (.int .i64) .unit)))) :=
match (decide (x.2.2.1 < (x.1.length : Int))) with
| true =>
 onSome (idx x.1 x.2.2.1) fun v1 =>
 match (v1 != x.2.1) with
 | true =>
  some (.inr (.inr ((-1 : Int), ())))
 | false =>
  some (.inl (x.1, (IntKind.i64.wrap (x.2.1 + (1 : Int))), (IntKind.i64.wrap (x.2.2.1 + (1 : Int))), ()))
| false =>
 some (.inr (.inl (x.2.1, ())))
noncomputable def l_heldInt64S (x : Ty.T (.pair (.list (.int .i64)) (.pair (.int .i64) .unit))) : Option (Ty.T (.pair (.int .i64) .unit)) :=
match loopL b_l_heldInt64S_2 (x.1, x.2.1, (0 : Int), ()) with
| none => none
| some (.inl v2) =>
 some (v2.1, ())
| some (.inr v3) =>
 some (v3.1, ())
noncomputable def S_l_heldInt64S : Spec := ⟨(.pair (.list (.int .i64)) (.pair (.int .i64) .unit)), (.pair (.int .i64) .unit), .unit, rfl, l_heldInt64S⟩
noncomputable def σ_l_heldInt64S : FuncId → Option Spec := sig []
theorem σok_l_heldInt64S : ∀ f s, σ_l_heldInt64S f = some s → FnOK Try.prog f s := sig_ok (l := []) trivial
noncomputable def Λ_l_heldInt64S : Nat → Option LSpec := lkp (loopList (bodyOf Try.f45)) [⟨[0, 1, 5], (.pair (.list (.int .i64)) (.pair (.int .i64) (.pair (.int .i64) .unit))), 0, [1], (.pair (.int .i64) .unit), [4], (.pair (.int .i64) .unit), loopL b_l_heldInt64S_2⟩]
theorem lok_l_heldInt64S_2 (x) : codeK Γ0 E0 σ_l_heldInt64S Λ_l_heldInt64S Try.f45.ntmps (nthLoop Try.f45 0) (mkF Try.f45.ntmps [0, 1, 5] (.pair (.list (.int .i64)) (.pair (.int .i64) (.pair (.int .i64) .unit))) x) (readK σ_l_heldInt64S Try.f45.ntmps [0, 1, 5] (.pair (.list (.int .i64)) (.pair (.int .i64) (.pair (.int .i64) .unit))) 0 [1] (.pair (.int .i64) .unit) [4] (.pair (.int .i64) .unit)) = b_l_heldInt64S_2 x := by kernel_rfl
theorem ok_l_heldInt64S : FnOK Try.prog 45 S_l_heldInt64S := fn_ok (Λ := Λ_l_heldInt64S) tab0 σok_l_heldInt64S Try.func45 (by kernel_rfl) (show Try.f45.body = some (bodyOf Try.f45) by kernel_rfl) [⟨[0, 1, 5], (.pair (.list (.int .i64)) (.pair (.int .i64) (.pair (.int .i64) .unit))), 0, [1], (.pair (.int .i64) .unit), [4], (.pair (.int .i64) .unit), loopL b_l_heldInt64S_2⟩] rfl (by kernel_rfl) (by exact ⟨loop_LOK lok_l_heldInt64S_2, trivial⟩) (by kernel_rfl)
  fun x y h => (show execFn Γ0 E0 σ_l_heldInt64S Λ_l_heldInt64S Try.f45 S_l_heldInt64S x = l_heldInt64S x by kernel_rfl).trans h

noncomputable def l_FnExactAdvanceClocks (x : Ty.T (.pair (.list (.int .i64)) (.pair (.list (.int .i64)) (.pair (.int .i64) .unit)))) : Option (Ty.T (.pair .bool .unit)) :=
match (decide ((x.1.length : Int) > (1048576 : Int))) with
| true =>
 some (true, ())
| false =>
 match (decide ((x.2.1.length : Int) > (1048576 : Int))) with
 | true =>
  some (true, ())
 | false =>
  match l_toInt64S (x.1, ()) with
  | none => none
  | some v1 =>
  match l_toInt64S (x.2.1, ()) with
  | none => none
  | some v2 =>
  match s_AdvanceClocks (v1.1, v2.1, x.2.2.1, ()) with
  | none => none
  | some v3 =>
  match l_toInt64S (x.1, ()) with
  | none => none
  | some v4 =>
  match l_toInt64S (x.2.1, ()) with
  | none => none
  | some v5 =>
  match i_AdvanceClocks (v4.1, v5.1, x.2.2.1, ()) with
  | none => none
  | some v6 =>
  match l_eqInt64S (v6.1, v3.1, ()) with
  | none => none
  | some v7 =>
  match (!v7.1) with
  | true =>
   some (false, ())
  | false =>
   match (v6.2.1 != v3.2.1) with
   | true =>
    some (false, ())
   | false =>
    match l_toInt64S (x.1, ()) with
    | none => none
    | some v8 =>
    match l_eqInt64S (v4.1, v8.1, ()) with
    | none => none
    | some v9 =>
    match (!v9.1) with
    | true =>
     some (false, ())
    | false =>
     match l_toInt64S (x.2.1, ()) with
     | none => none
     | some v10 =>
     match l_eqInt64S (v5.1, v10.1, ()) with
     | none => none
     | some v11 =>
     match (!v11.1) with
     | true =>
      some (false, ())
     | false =>
      match l_markInt64S (v4.1, (1 : Int), ()) with
      | none => none
      | some v12 =>
      match l_markInt64S (v5.1, v12.1, ()) with
      | none => none
      | some v13 =>
      match (decide (v13.1 < (0 : Int))) with
      | true =>
       some (false, ())
      | false =>
       match l_eqInt64S (v6.1, v3.1, ()) with
       | none => none
       | some v14 =>
       match (!v14.1) with
       | true =>
        some (false, ())
       | false =>
        match (v6.2.1 != v3.2.1) with
        | true =>
         some (false, ())
        | false =>
         match l_markInt64S (v6.1, (1 : Int), ()) with
         | none => none
         | some v15 =>
         match l_heldInt64S (v15.2.1, (1 : Int), ()) with
         | none => none
         | some v16 =>
         match (decide (v16.1 < (0 : Int))) with
         | true =>
          some (false, ())
         | false =>
          match (v16.1 != v15.1) with
          | true =>
           some (false, ())
          | false =>
           match l_toInt64S (x.1, ()) with
           | none => none
           | some v17 =>
           match l_toInt64S (x.2.1, ()) with
           | none => none
           | some v18 =>
           match i_AdvanceClocks (v17.1, v18.1, x.2.2.1, ()) with
           | none => none
           | some v19 =>
           match l_eqInt64S (v19.1, v3.1, ()) with
           | none => none
           | some v20 =>
           match (!v20.1) with
           | true =>
            some (false, ())
           | false =>
            match (v19.2.1 != v3.2.1) with
            | true =>
             some (false, ())
            | false =>
             match l_heldInt64S (v15.2.1, (1 : Int), ()) with
             | none => none
             | some v21 =>
             match (decide (v21.1 < (0 : Int))) with
             | true =>
              some (false, ())
             | false =>
              match (v21.1 != v15.1) with
              | true =>
               some (false, ())
              | false =>
               some (true, ())
noncomputable def S_l_FnExactAdvanceClocks : Spec := ⟨(.pair (.list (.int .i64)) (.pair (.list (.int .i64)) (.pair (.int .i64) .unit))), (.pair .bool .unit), .unit, rfl, l_FnExactAdvanceClocks⟩
noncomputable def σ_l_FnExactAdvanceClocks : FuncId → Option Spec := sig [(24, S_l_toInt64S), (26, S_l_eqInt64S), (42, S_s_AdvanceClocks), (43, S_i_AdvanceClocks), (44, S_l_markInt64S), (45, S_l_heldInt64S)]
theorem σok_l_FnExactAdvanceClocks : ∀ f s, σ_l_FnExactAdvanceClocks f = some s → FnOK Try.prog f s := sig_ok (l := [(24, S_l_toInt64S), (26, S_l_eqInt64S), (42, S_s_AdvanceClocks), (43, S_i_AdvanceClocks), (44, S_l_markInt64S), (45, S_l_heldInt64S)]) ⟨ok_l_toInt64S, ok_l_eqInt64S, ok_s_AdvanceClocks, ok_i_AdvanceClocks, ok_l_markInt64S, ok_l_heldInt64S, trivial⟩
noncomputable def Λ_l_FnExactAdvanceClocks : Nat → Option LSpec := lkp (loopList (bodyOf Try.f10)) []
theorem ok_l_FnExactAdvanceClocks : FnOK Try.prog 10 S_l_FnExactAdvanceClocks := fn_ok (Λ := Λ_l_FnExactAdvanceClocks) tab0 σok_l_FnExactAdvanceClocks Try.func10 (by kernel_rfl) (show Try.f10.body = some (bodyOf Try.f10) by kernel_rfl) [] rfl (by kernel_rfl) (by exact trivial) (by kernel_rfl)
  fun x y h => (show execFn Γ0 E0 σ_l_FnExactAdvanceClocks Λ_l_FnExactAdvanceClocks Try.f10 S_l_FnExactAdvanceClocks x = l_FnExactAdvanceClocks x by kernel_rfl).trans h

noncomputable def b_s_LongestLoss_5 (x : (Ty.T (.pair (.list TMark) TStarter))) : Option ((Ty.T (.pair (.list TMark) TStarter)) ⊕ ((Ty.T (.pair (.int .i64) .unit)) ⊕ (Ty.T .unit))) :=
match (decide (x.2.2.2.2.1 < (x.1.length : Int))) with
| true =>
 onSome (idx x.1 x.2.2.2.2.1) fun v2 =>
 match (v2.2.1 != x.2.1) with
 | true =>
  some (.inl (x.1, x.2.1, x.2.2.1, x.2.2.2.1, (IntKind.i64.wrap (x.2.2.2.2.1 + (1 : Int))), ()))
 | false =>
  onSome (idx x.1 x.2.2.2.2.1) fun v3 =>
  match (v3.2.2.1 == (3 : Int)) with
  | true =>
   some (.inl (x.1, x.2.1, (if (0 : Int) > x.2.2.1 then (0 : Int) else x.2.2.1), (0 : Int), (IntKind.i64.wrap (x.2.2.2.2.1 + (1 : Int))), ()))
  | false =>
   some (.inl (x.1, x.2.1, (if (IntKind.i64.wrap (x.2.2.2.1 + (1 : Int))) > x.2.2.1 then (IntKind.i64.wrap (x.2.2.2.1 + (1 : Int))) else x.2.2.1), (IntKind.i64.wrap (x.2.2.2.1 + (1 : Int))), (IntKind.i64.wrap (x.2.2.2.2.1 + (1 : Int))), ()))
| false =>
 some (.inr (.inl (x.2.2.1, ())))
noncomputable def s_LongestLoss (x : Ty.T (.pair (.list TMark) (.pair (.int .i64) .unit))) : Option (Ty.T (.pair (.int .i64) (.pair (.int .i64) .unit))) :=
match s_l33List (x.1, ()) with
| none => none
| some v1 =>
match (!v1.1) with
| true =>
 some ((0 : Int), (1 : Int), ())
| false =>
 match loopL b_s_LongestLoss_5 (x.1, x.2.1, (0 : Int), (0 : Int), (0 : Int), ()) with
 | none => none
 | some (.inl v4) =>
  some (v4.1, (0 : Int), ())
 | some (.inr v6) =>
  none
noncomputable def S_s_LongestLoss : Spec := ⟨(.pair (.list TMark) (.pair (.int .i64) .unit)), (.pair (.int .i64) (.pair (.int .i64) .unit)), .unit, rfl, s_LongestLoss⟩
noncomputable def σ_s_LongestLoss : FuncId → Option Spec := sig [(74, S_s_l33List)]
theorem σok_s_LongestLoss : ∀ f s, σ_s_LongestLoss f = some s → FnOK Try.prog f s := sig_ok (l := [(74, S_s_l33List)]) ⟨ok_s_l33List, trivial⟩
noncomputable def Λ_s_LongestLoss : Nat → Option LSpec := lkp (loopList (bodyOf Try.f46)) [⟨[0, 1, 6, 7, 8], (.pair (.list TMark) TStarter), 0, [6], (.pair (.int .i64) .unit), [], .unit, loopL b_s_LongestLoss_5⟩]
theorem lok_s_LongestLoss_5 (x) : codeK Γ0 E0 σ_s_LongestLoss Λ_s_LongestLoss Try.f46.ntmps (nthLoop Try.f46 0) (mkF Try.f46.ntmps [0, 1, 6, 7, 8] (.pair (.list TMark) TStarter) x) (readK σ_s_LongestLoss Try.f46.ntmps [0, 1, 6, 7, 8] (.pair (.list TMark) TStarter) 0 [6] (.pair (.int .i64) .unit) [] .unit) = b_s_LongestLoss_5 x := by kernel_rfl
theorem ok_s_LongestLoss : FnOK Try.prog 46 S_s_LongestLoss := fn_ok (Λ := Λ_s_LongestLoss) tab0 σok_s_LongestLoss Try.func46 (by kernel_rfl) (show Try.f46.body = some (bodyOf Try.f46) by kernel_rfl) [⟨[0, 1, 6, 7, 8], (.pair (.list TMark) TStarter), 0, [6], (.pair (.int .i64) .unit), [], .unit, loopL b_s_LongestLoss_5⟩] rfl (by kernel_rfl) (by exact ⟨loop_LOK lok_s_LongestLoss_5, trivial⟩) (by kernel_rfl)
  fun x y h => (show execFn Γ0 E0 σ_s_LongestLoss Λ_s_LongestLoss Try.f46 S_s_LongestLoss x = s_LongestLoss x by kernel_rfl).trans h

noncomputable def b_i_LongestLoss_5 (x : (Ty.T (.pair (.int .i64) (.pair (.int .i64) (.pair (.int .i64) (.pair (.list TMark) (.pair (.int .i64) (.pair (.int .i64) .unit)))))))) : Option ((Ty.T (.pair (.int .i64) (.pair (.int .i64) (.pair (.int .i64) (.pair (.list TMark) (.pair (.int .i64) (.pair (.int .i64) .unit))))))) ⊕ ((Ty.T (.pair (.int .i64) .unit)) ⊕ (Ty.T .unit))) :=
match (decide (x.2.2.2.2.2.1 < x.2.2.2.2.1)) with
| true =>
 onSome (idx x.2.2.2.1 x.2.2.2.2.2.1) fun v2 =>
 match (v2.2.1 != x.1) with
 | true =>
  some (.inl (x.1, x.2.1, x.2.2.1, x.2.2.2.1, x.2.2.2.2.1, (IntKind.i64.wrap (x.2.2.2.2.2.1 + (1 : Int))), ()))
 | false =>
  match (v2.2.2.1 == (3 : Int)) with
  | true =>
   some (.inl (x.1, (if (0 : Int) > x.2.1 then (0 : Int) else x.2.1), (0 : Int), x.2.2.2.1, x.2.2.2.2.1, (IntKind.i64.wrap (x.2.2.2.2.2.1 + (1 : Int))), ()))
  | false =>
   some (.inl (x.1, (if (IntKind.i64.wrap (x.2.2.1 + (1 : Int))) > x.2.1 then (IntKind.i64.wrap (x.2.2.1 + (1 : Int))) else x.2.1), (IntKind.i64.wrap (x.2.2.1 + (1 : Int))), x.2.2.2.1, x.2.2.2.2.1, (IntKind.i64.wrap (x.2.2.2.2.2.1 + (1 : Int))), ()))
| false =>
 some (.inr (.inl (x.2.1, ())))
noncomputable def i_LongestLoss (x : Ty.T (.pair (.list TMark) (.pair (.int .i64) .unit))) : Option (Ty.T (.pair (.int .i64) (.pair (.int .i64) .unit))) :=
match i_isTrace (x.1, ()) with
| none => none
| some v1 =>
match (!v1.1) with
| true =>
 some ((0 : Int), (1 : Int), ())
| false =>
 match loopL b_i_LongestLoss_5 (x.2.1, (0 : Int), (0 : Int), x.1, (x.1.length : Int), (0 : Int), ()) with
 | none => none
 | some (.inl v3) =>
  some (v3.1, (0 : Int), ())
 | some (.inr v5) =>
  none
noncomputable def S_i_LongestLoss : Spec := ⟨(.pair (.list TMark) (.pair (.int .i64) .unit)), (.pair (.int .i64) (.pair (.int .i64) .unit)), .unit, rfl, i_LongestLoss⟩
noncomputable def σ_i_LongestLoss : FuncId → Option Spec := sig [(75, S_i_isTrace)]
theorem σok_i_LongestLoss : ∀ f s, σ_i_LongestLoss f = some s → FnOK Try.prog f s := sig_ok (l := [(75, S_i_isTrace)]) ⟨ok_i_isTrace, trivial⟩
noncomputable def Λ_i_LongestLoss : Nat → Option LSpec := lkp (loopList (bodyOf Try.f47)) [⟨[1, 6, 7, 13, 14, 15], (.pair (.int .i64) (.pair (.int .i64) (.pair (.int .i64) (.pair (.list TMark) (.pair (.int .i64) (.pair (.int .i64) .unit)))))), 0, [6], (.pair (.int .i64) .unit), [], .unit, loopL b_i_LongestLoss_5⟩]
theorem lok_i_LongestLoss_5 (x) : codeK Γ0 E0 σ_i_LongestLoss Λ_i_LongestLoss Try.f47.ntmps (nthLoop Try.f47 0) (mkF Try.f47.ntmps [1, 6, 7, 13, 14, 15] (.pair (.int .i64) (.pair (.int .i64) (.pair (.int .i64) (.pair (.list TMark) (.pair (.int .i64) (.pair (.int .i64) .unit)))))) x) (readK σ_i_LongestLoss Try.f47.ntmps [1, 6, 7, 13, 14, 15] (.pair (.int .i64) (.pair (.int .i64) (.pair (.int .i64) (.pair (.list TMark) (.pair (.int .i64) (.pair (.int .i64) .unit)))))) 0 [6] (.pair (.int .i64) .unit) [] .unit) = b_i_LongestLoss_5 x := by kernel_rfl
theorem ok_i_LongestLoss : FnOK Try.prog 47 S_i_LongestLoss := fn_ok (Λ := Λ_i_LongestLoss) tab0 σok_i_LongestLoss Try.func47 (by kernel_rfl) (show Try.f47.body = some (bodyOf Try.f47) by kernel_rfl) [⟨[1, 6, 7, 13, 14, 15], (.pair (.int .i64) (.pair (.int .i64) (.pair (.int .i64) (.pair (.list TMark) (.pair (.int .i64) (.pair (.int .i64) .unit)))))), 0, [6], (.pair (.int .i64) .unit), [], .unit, loopL b_i_LongestLoss_5⟩] rfl (by kernel_rfl) (by exact ⟨loop_LOK lok_i_LongestLoss_5, trivial⟩) (by kernel_rfl)
  fun x y h => (show execFn Γ0 E0 σ_i_LongestLoss Λ_i_LongestLoss Try.f47 S_i_LongestLoss x = i_LongestLoss x by kernel_rfl).trans h

noncomputable def l_FnExactLongestLoss (x : Ty.T (.pair (.list TMark) (.pair (.int .i64) .unit))) : Option (Ty.T (.pair .bool .unit)) :=
match l_szMarkS (x.1, (1048576 : Int), ()) with
| none => none
| some v1 =>
match (decide (v1.1 < (0 : Int))) with
| true =>
 some (true, ())
| false =>
 match l_toMarkS (x.1, ()) with
 | none => none
 | some v2 =>
 match s_LongestLoss (v2.1, x.2.1, ()) with
 | none => none
 | some v3 =>
 match l_toMarkS (x.1, ()) with
 | none => none
 | some v4 =>
 match i_LongestLoss (v4.1, x.2.1, ()) with
 | none => none
 | some v5 =>
 match (v5.1 != v3.1) with
 | true =>
  some (false, ())
 | false =>
  match (v5.2.1 != v3.2.1) with
  | true =>
   some (false, ())
  | false =>
   match l_toMarkS (x.1, ()) with
   | none => none
   | some v6 =>
   match l_eqMarkS (v4.1, v6.1, ()) with
   | none => none
   | some v7 =>
   match (!v7.1) with
   | true =>
    some (false, ())
   | false =>
    some (true, ())
noncomputable def S_l_FnExactLongestLoss : Spec := ⟨(.pair (.list TMark) (.pair (.int .i64) .unit)), (.pair .bool .unit), .unit, rfl, l_FnExactLongestLoss⟩
noncomputable def σ_l_FnExactLongestLoss : FuncId → Option Spec := sig [(32, S_l_szMarkS), (34, S_l_toMarkS), (36, S_l_eqMarkS), (46, S_s_LongestLoss), (47, S_i_LongestLoss)]
theorem σok_l_FnExactLongestLoss : ∀ f s, σ_l_FnExactLongestLoss f = some s → FnOK Try.prog f s := sig_ok (l := [(32, S_l_szMarkS), (34, S_l_toMarkS), (36, S_l_eqMarkS), (46, S_s_LongestLoss), (47, S_i_LongestLoss)]) ⟨ok_l_szMarkS, ok_l_toMarkS, ok_l_eqMarkS, ok_s_LongestLoss, ok_i_LongestLoss, trivial⟩
noncomputable def Λ_l_FnExactLongestLoss : Nat → Option LSpec := lkp (loopList (bodyOf Try.f11)) []
theorem ok_l_FnExactLongestLoss : FnOK Try.prog 11 S_l_FnExactLongestLoss := fn_ok (Λ := Λ_l_FnExactLongestLoss) tab0 σok_l_FnExactLongestLoss Try.func11 (by kernel_rfl) (show Try.f11.body = some (bodyOf Try.f11) by kernel_rfl) [] rfl (by kernel_rfl) (by exact trivial) (by kernel_rfl)
  fun x y h => (show execFn Γ0 E0 σ_l_FnExactLongestLoss Λ_l_FnExactLongestLoss Try.f11 S_l_FnExactLongestLoss x = l_FnExactLongestLoss x by kernel_rfl).trans h

noncomputable def l_szFaultS (x : Ty.T (.pair (.list TStarter) (.pair (.int .i64) .unit))) : Option (Ty.T (.pair (.int .i64) .unit)) :=
match (decide ((IntKind.i64.wrap (x.2.1 - (x.1.length : Int))) < (0 : Int))) with
| true =>
 some ((-1 : Int), ())
| false =>
 some ((IntKind.i64.wrap (x.2.1 - (x.1.length : Int))), ())
noncomputable def S_l_szFaultS : Spec := ⟨(.pair (.list TStarter) (.pair (.int .i64) .unit)), (.pair (.int .i64) .unit), .unit, rfl, l_szFaultS⟩
noncomputable def σ_l_szFaultS : FuncId → Option Spec := sig []
theorem σok_l_szFaultS : ∀ f s, σ_l_szFaultS f = some s → FnOK Try.prog f s := sig_ok (l := []) trivial
noncomputable def Λ_l_szFaultS : Nat → Option LSpec := lkp (loopList (bodyOf Try.f87)) []
theorem ok_l_szFaultS : FnOK Try.prog 87 S_l_szFaultS := fn_ok (Λ := Λ_l_szFaultS) tab0 σok_l_szFaultS Try.func87 (by kernel_rfl) (show Try.f87.body = some (bodyOf Try.f87) by kernel_rfl) [] rfl (by kernel_rfl) (by exact trivial) (by kernel_rfl)
  fun x y h => (show execFn Γ0 E0 σ_l_szFaultS Λ_l_szFaultS Try.f87 S_l_szFaultS x = l_szFaultS x by kernel_rfl).trans h

noncomputable def l_szStep (x : Ty.T (.pair TStep (.pair (.int .i64) .unit))) : Option (Ty.T (.pair (.int .i64) .unit)) :=
match l_szFaultS (x.1.2.2.1, x.2.1, ()) with
| none => none
| some v1 =>
match (decide (v1.1 < (0 : Int))) with
| true =>
 some ((-1 : Int), ())
| false =>
 match l_szFaultS (x.1.2.2.2.1, v1.1, ()) with
 | none => none
 | some v2 =>
 match (decide (v2.1 < (0 : Int))) with
 | true =>
  some ((-1 : Int), ())
 | false =>
  some (v2.1, ())
noncomputable def S_l_szStep : Spec := ⟨(.pair TStep (.pair (.int .i64) .unit)), (.pair (.int .i64) .unit), .unit, rfl, l_szStep⟩
noncomputable def σ_l_szStep : FuncId → Option Spec := sig [(87, S_l_szFaultS)]
theorem σok_l_szStep : ∀ f s, σ_l_szStep f = some s → FnOK Try.prog f s := sig_ok (l := [(87, S_l_szFaultS)]) ⟨ok_l_szFaultS, trivial⟩
noncomputable def Λ_l_szStep : Nat → Option LSpec := lkp (loopList (bodyOf Try.f48)) []
theorem ok_l_szStep : FnOK Try.prog 48 S_l_szStep := fn_ok (Λ := Λ_l_szStep) tab0 σok_l_szStep Try.func48 (by kernel_rfl) (show Try.f48.body = some (bodyOf Try.f48) by kernel_rfl) [] rfl (by kernel_rfl) (by exact trivial) (by kernel_rfl)
  fun x y h => (show execFn Γ0 E0 σ_l_szStep Λ_l_szStep Try.f48 S_l_szStep x = l_szStep x by kernel_rfl).trans h

noncomputable def s_l24Fields (x : Ty.T (.pair (.int .i64) .unit)) : Option (Ty.T (.pair .bool (.pair .bool .unit))) :=
match (x.1 == (2 : Int)) with
| true =>
 some (true, false, ())
| false =>
 match (x.1 == (3 : Int)) with
 | true =>
  some (true, false, ())
 | false =>
  match (x.1 == (4 : Int)) with
  | true =>
   some (true, true, ())
  | false =>
   match (x.1 == (6 : Int)) with
   | true =>
    some (true, true, ())
   | false =>
    some (false, false, ())
noncomputable def S_s_l24Fields : Spec := ⟨(.pair (.int .i64) .unit), (.pair .bool (.pair .bool .unit)), .unit, rfl, s_l24Fields⟩
noncomputable def σ_s_l24Fields : FuncId → Option Spec := sig []
theorem σok_s_l24Fields : ∀ f s, σ_s_l24Fields f = some s → FnOK Try.prog f s := sig_ok (l := []) trivial
noncomputable def Λ_s_l24Fields : Nat → Option LSpec := lkp (loopList (bodyOf Try.f108)) []
theorem ok_s_l24Fields : FnOK Try.prog 108 S_s_l24Fields := fn_ok (Λ := Λ_s_l24Fields) tab0 σok_s_l24Fields Try.func108 (by kernel_rfl) (show Try.f108.body = some (bodyOf Try.f108) by kernel_rfl) [] rfl (by kernel_rfl) (by exact trivial) (by kernel_rfl)
  fun x y h => (show execFn Γ0 E0 σ_s_l24Fields Λ_s_l24Fields Try.f108 S_s_l24Fields x = s_l24Fields x by kernel_rfl).trans h

noncomputable def s_IsFault (x : Ty.T (.pair TStarter .unit)) : Option (Ty.T (.pair .bool .unit)) :=
match s_l01In (x.1.1, (1 : Int), (6 : Int), ()) with
| none => none
| some v1 =>
match (!v1.1) with
| true =>
 some (false, ())
| false =>
 match s_l01In (x.1.2.1, (0 : Int), (8192 : Int), ()) with
 | none => none
 | some v2 =>
 match (!v2.1) with
 | true =>
  some (false, ())
 | false =>
  match s_l24Fields (x.1.1, ()) with
  | none => none
  | some v3 =>
  match v3.1 with
  | true =>
   match s_l01In (x.1.2.2.1, (1 : Int), (8192 : Int), ()) with
   | none => none
   | some v4 =>
   match (!v4.1) with
   | true =>
    some (false, ())
   | false =>
    match (!v3.1) with
    | true =>
     match (x.1.2.2.1 != (0 : Int)) with
     | true =>
      some (false, ())
     | false =>
      match s_l01In (x.1.2.2.2.1, (0 : Int), (1 : Int), ()) with
      | none => none
      | some v5 =>
      match v5.1 with
      | true =>
       match v3.2.1 with
       | true =>
        some (true, ())
       | false =>
        some ((x.1.2.2.2.1 == (0 : Int)), ())
      | false =>
       some (false, ())
    | false =>
     match s_l01In (x.1.2.2.2.1, (0 : Int), (1 : Int), ()) with
     | none => none
     | some v6 =>
     match v6.1 with
     | true =>
      match v3.2.1 with
      | true =>
       some (true, ())
      | false =>
       some ((x.1.2.2.2.1 == (0 : Int)), ())
     | false =>
      some (false, ())
  | false =>
   match (!v3.1) with
   | true =>
    match (x.1.2.2.1 != (0 : Int)) with
    | true =>
     some (false, ())
    | false =>
     match s_l01In (x.1.2.2.2.1, (0 : Int), (1 : Int), ()) with
     | none => none
     | some v7 =>
     match v7.1 with
     | true =>
      match v3.2.1 with
      | true =>
       some (true, ())
      | false =>
       some ((x.1.2.2.2.1 == (0 : Int)), ())
     | false =>
      some (false, ())
   | false =>
    match s_l01In (x.1.2.2.2.1, (0 : Int), (1 : Int), ()) with
    | none => none
    | some v8 =>
    match v8.1 with
    | true =>
     match v3.2.1 with
     | true =>
      some (true, ())
     | false =>
      some ((x.1.2.2.2.1 == (0 : Int)), ())
    | false =>
     some (false, ())
noncomputable def S_s_IsFault : Spec := ⟨(.pair TStarter .unit), (.pair .bool .unit), .unit, rfl, s_IsFault⟩
noncomputable def σ_s_IsFault : FuncId → Option Spec := sig [(60, S_s_l01In), (108, S_s_l24Fields)]
theorem σok_s_IsFault : ∀ f s, σ_s_IsFault f = some s → FnOK Try.prog f s := sig_ok (l := [(60, S_s_l01In), (108, S_s_l24Fields)]) ⟨ok_s_l01In, ok_s_l24Fields, trivial⟩
noncomputable def Λ_s_IsFault : Nat → Option LSpec := lkp (loopList (bodyOf Try.f102)) []
theorem ok_s_IsFault : FnOK Try.prog 102 S_s_IsFault := fn_ok (Λ := Λ_s_IsFault) tab0 σok_s_IsFault Try.func102 (by kernel_rfl) (show Try.f102.body = some (bodyOf Try.f102) by kernel_rfl) [] rfl (by kernel_rfl) (by exact trivial) (by kernel_rfl)
  fun x y h => (show execFn Γ0 E0 σ_s_IsFault Λ_s_IsFault Try.f102 S_s_IsFault x = s_IsFault x by kernel_rfl).trans h

noncomputable def b_s_IsScript_2 (x : (Ty.T (.pair (.list TStarter) (.pair (.int .i64) .unit)))) : Option ((Ty.T (.pair (.list TStarter) (.pair (.int .i64) .unit))) ⊕ ((Ty.T (.pair (.list TStarter) .unit)) ⊕ (Ty.T (.pair .bool .unit)))) :=
match (decide (x.2.1 < (x.1.length : Int))) with
| true =>
 onSome (idx x.1 x.2.1) fun v1 =>
 match s_IsFault (v1, ()) with
 | none => none
 | some v2 =>
 match (!v2.1) with
 | true =>
  some (.inr (.inr (false, ())))
 | false =>
  some (.inl (x.1, (IntKind.i64.wrap (x.2.1 + (1 : Int))), ()))
| false =>
 some (.inr (.inl (x.1, ())))
noncomputable def s_IsScript (x : Ty.T (.pair (.list TStarter) .unit)) : Option (Ty.T (.pair .bool .unit)) :=
match loopL b_s_IsScript_2 (x.1, (0 : Int), ()) with
| none => none
| some (.inl v3) =>
 some ((decide ((v3.1.length : Int) ≤ (30 : Int))), ())
| some (.inr v4) =>
 some (v4.1, ())
noncomputable def S_s_IsScript : Spec := ⟨(.pair (.list TStarter) .unit), (.pair .bool .unit), .unit, rfl, s_IsScript⟩
noncomputable def σ_s_IsScript : FuncId → Option Spec := sig [(102, S_s_IsFault)]
theorem σok_s_IsScript : ∀ f s, σ_s_IsScript f = some s → FnOK Try.prog f s := sig_ok (l := [(102, S_s_IsFault)]) ⟨ok_s_IsFault, trivial⟩
noncomputable def Λ_s_IsScript : Nat → Option LSpec := lkp (loopList (bodyOf Try.f88)) [⟨[0, 3], (.pair (.list TStarter) (.pair (.int .i64) .unit)), 0, [0], (.pair (.list TStarter) .unit), [2], (.pair .bool .unit), loopL b_s_IsScript_2⟩]
theorem lok_s_IsScript_2 (x) : codeK Γ0 E0 σ_s_IsScript Λ_s_IsScript Try.f88.ntmps (nthLoop Try.f88 0) (mkF Try.f88.ntmps [0, 3] (.pair (.list TStarter) (.pair (.int .i64) .unit)) x) (readK σ_s_IsScript Try.f88.ntmps [0, 3] (.pair (.list TStarter) (.pair (.int .i64) .unit)) 0 [0] (.pair (.list TStarter) .unit) [2] (.pair .bool .unit)) = b_s_IsScript_2 x := by kernel_rfl
theorem ok_s_IsScript : FnOK Try.prog 88 S_s_IsScript := fn_ok (Λ := Λ_s_IsScript) tab0 σok_s_IsScript Try.func88 (by kernel_rfl) (show Try.f88.body = some (bodyOf Try.f88) by kernel_rfl) [⟨[0, 3], (.pair (.list TStarter) (.pair (.int .i64) .unit)), 0, [0], (.pair (.list TStarter) .unit), [2], (.pair .bool .unit), loopL b_s_IsScript_2⟩] rfl (by kernel_rfl) (by exact ⟨loop_LOK lok_s_IsScript_2, trivial⟩) (by kernel_rfl)
  fun x y h => (show execFn Γ0 E0 σ_s_IsScript Λ_s_IsScript Try.f88 S_s_IsScript x = s_IsScript x by kernel_rfl).trans h

noncomputable def s_IsStep (x : Ty.T (.pair TStep .unit)) : Option (Ty.T (.pair .bool .unit)) :=
match s_l01In (x.1.1, (0 : Int), (255 : Int), ()) with
| none => none
| some v1 =>
match v1.1 with
| true =>
 match s_l01In (x.1.2.1, (0 : Int), (7 : Int), ()) with
 | none => none
 | some v2 =>
 match v2.1 with
 | true =>
  match s_IsScript (x.1.2.2.1, ()) with
  | none => none
  | some v3 =>
  match v3.1 with
  | true =>
   match s_IsScript (x.1.2.2.2.1, ()) with
   | none => none
   | some v4 =>
   some (v4.1, ())
  | false =>
   some (false, ())
 | false =>
  some (false, ())
| false =>
 some (false, ())
noncomputable def S_s_IsStep : Spec := ⟨(.pair TStep .unit), (.pair .bool .unit), .unit, rfl, s_IsStep⟩
noncomputable def σ_s_IsStep : FuncId → Option Spec := sig [(60, S_s_l01In), (88, S_s_IsScript)]
theorem σok_s_IsStep : ∀ f s, σ_s_IsStep f = some s → FnOK Try.prog f s := sig_ok (l := [(60, S_s_l01In), (88, S_s_IsScript)]) ⟨ok_s_l01In, ok_s_IsScript, trivial⟩
noncomputable def Λ_s_IsStep : Nat → Option LSpec := lkp (loopList (bodyOf Try.f49)) []
theorem ok_s_IsStep : FnOK Try.prog 49 S_s_IsStep := fn_ok (Λ := Λ_s_IsStep) tab0 σok_s_IsStep Try.func49 (by kernel_rfl) (show Try.f49.body = some (bodyOf Try.f49) by kernel_rfl) [] rfl (by kernel_rfl) (by exact trivial) (by kernel_rfl)
  fun x y h => (show execFn Γ0 E0 σ_s_IsStep Λ_s_IsStep Try.f49 S_s_IsStep x = s_IsStep x by kernel_rfl).trans h

noncomputable def l_toFault (x : Ty.T (.pair TStarter .unit)) : Option (Ty.T (.pair TStarter .unit)) :=
some ((x.1.1, x.1.2.1, x.1.2.2.1, x.1.2.2.2.1, ()), ())
noncomputable def S_l_toFault : Spec := ⟨(.pair TStarter .unit), (.pair TStarter .unit), .unit, rfl, l_toFault⟩
noncomputable def σ_l_toFault : FuncId → Option Spec := sig []
theorem σok_l_toFault : ∀ f s, σ_l_toFault f = some s → FnOK Try.prog f s := sig_ok (l := []) trivial
noncomputable def Λ_l_toFault : Nat → Option LSpec := lkp (loopList (bodyOf Try.f103)) []
theorem ok_l_toFault : FnOK Try.prog 103 S_l_toFault := fn_ok (Λ := Λ_l_toFault) tab0 σok_l_toFault Try.func103 (by kernel_rfl) (show Try.f103.body = some (bodyOf Try.f103) by kernel_rfl) [] rfl (by kernel_rfl) (by exact trivial) (by kernel_rfl)
  fun x y h => (show execFn Γ0 E0 σ_l_toFault Λ_l_toFault Try.f103 S_l_toFault x = l_toFault x by kernel_rfl).trans h

noncomputable def b_l_toFaultS_3 (x : (Ty.T (.pair (.list TStarter) (.pair (.own 109 TStarter) (.pair (.int .i64) .unit))))) : Option ((Ty.T (.pair (.list TStarter) (.pair (.own 109 TStarter) (.pair (.int .i64) .unit)))) ⊕ ((Ty.T (.pair (.own 109 TStarter) .unit)) ⊕ (Ty.T .unit))) :=
match (decide (x.2.2.1 < (x.1.length : Int))) with
| true =>
 onSome (idx x.1 x.2.2.1) fun v1 =>
 match l_toFault (v1, ()) with
 | none => none
 | some v2 =>
 onSome (idx x.2.1 x.2.2.1) fun _ =>
 match x.2.1[x.2.2.1.toNat]? with
 | none => none
 | some v4 =>
 some (.inl (x.1, (x.2.1.set x.2.2.1.toNat (v2.1.1, v2.1.2.1, v2.1.2.2.1, v2.1.2.2.2.1, ())), (IntKind.i64.wrap (x.2.2.1 + (1 : Int))), ()))
| false =>
 some (.inr (.inl (x.2.1, ())))
noncomputable def l_toFaultS (x : Ty.T (.pair (.list TStarter) .unit)) : Option (Ty.T (.pair (.own 109 TStarter) .unit)) :=
if 0 ≤ (x.1.length : Int) ∧ (x.1.length : Int) ≤ (x.1.length : Int) then
 room ((x.1.length : Int).toNat) (
  match loopL b_l_toFaultS_3 (x.1, (List.replicate (x.1.length : Int).toNat ((0 : Int), (0 : Int), (0 : Int), (0 : Int), ())), (0 : Int), ()) with
  | none => none
  | some (.inl v5) =>
   some (v5.1, ())
  | some (.inr v7) =>
   none)
else none
noncomputable def S_l_toFaultS : Spec := ⟨(.pair (.list TStarter) .unit), (.pair (.own 109 TStarter) .unit), .unit, rfl, l_toFaultS⟩
noncomputable def σ_l_toFaultS : FuncId → Option Spec := sig [(103, S_l_toFault)]
theorem σok_l_toFaultS : ∀ f s, σ_l_toFaultS f = some s → FnOK Try.prog f s := sig_ok (l := [(103, S_l_toFault)]) ⟨ok_l_toFault, trivial⟩
noncomputable def Λ_l_toFaultS : Nat → Option LSpec := lkp (loopList (bodyOf Try.f89)) [⟨[0, 3, 4], (.pair (.list TStarter) (.pair (.own 109 TStarter) (.pair (.int .i64) .unit))), 0, [3], (.pair (.own 109 TStarter) .unit), [], .unit, loopL b_l_toFaultS_3⟩]
theorem lok_l_toFaultS_3 (x) : codeK Γ0 E0 σ_l_toFaultS Λ_l_toFaultS Try.f89.ntmps (nthLoop Try.f89 0) (mkF Try.f89.ntmps [0, 3, 4] (.pair (.list TStarter) (.pair (.own 109 TStarter) (.pair (.int .i64) .unit))) x) (readK σ_l_toFaultS Try.f89.ntmps [0, 3, 4] (.pair (.list TStarter) (.pair (.own 109 TStarter) (.pair (.int .i64) .unit))) 0 [3] (.pair (.own 109 TStarter) .unit) [] .unit) = b_l_toFaultS_3 x := by kernel_rfl
theorem ok_l_toFaultS : FnOK Try.prog 89 S_l_toFaultS := fn_ok (Λ := Λ_l_toFaultS) tab0 σok_l_toFaultS Try.func89 (by kernel_rfl) (show Try.f89.body = some (bodyOf Try.f89) by kernel_rfl) [⟨[0, 3, 4], (.pair (.list TStarter) (.pair (.own 109 TStarter) (.pair (.int .i64) .unit))), 0, [3], (.pair (.own 109 TStarter) .unit), [], .unit, loopL b_l_toFaultS_3⟩] rfl (by kernel_rfl) (by exact ⟨loop_LOK lok_l_toFaultS_3, trivial⟩) (by kernel_rfl)
  fun x y h => (show execFn Γ0 E0 σ_l_toFaultS Λ_l_toFaultS Try.f89 S_l_toFaultS x = l_toFaultS x by kernel_rfl).trans h

noncomputable def l_toStep (x : Ty.T (.pair TStep .unit)) : Option (Ty.T (.pair TStep .unit)) :=
match l_toFaultS (x.1.2.2.1, ()) with
| none => none
| some v1 =>
match l_toFaultS (x.1.2.2.2.1, ()) with
| none => none
| some v2 =>
some ((x.1.1, x.1.2.1, v1.1, v2.1, ()), ())
noncomputable def S_l_toStep : Spec := ⟨(.pair TStep .unit), (.pair TStep .unit), .unit, rfl, l_toStep⟩
noncomputable def σ_l_toStep : FuncId → Option Spec := sig [(89, S_l_toFaultS)]
theorem σok_l_toStep : ∀ f s, σ_l_toStep f = some s → FnOK Try.prog f s := sig_ok (l := [(89, S_l_toFaultS)]) ⟨ok_l_toFaultS, trivial⟩
noncomputable def Λ_l_toStep : Nat → Option LSpec := lkp (loopList (bodyOf Try.f50)) []
theorem ok_l_toStep : FnOK Try.prog 50 S_l_toStep := fn_ok (Λ := Λ_l_toStep) tab0 σok_l_toStep Try.func50 (by kernel_rfl) (show Try.f50.body = some (bodyOf Try.f50) by kernel_rfl) [] rfl (by kernel_rfl) (by exact trivial) (by kernel_rfl)
  fun x y h => (show execFn Γ0 E0 σ_l_toStep Λ_l_toStep Try.f50 S_l_toStep x = l_toStep x by kernel_rfl).trans h

noncomputable def b_slices_IndexFunc_Fault_2 (x : (Ty.T (.pair (.list TStarter) (.pair (.fn (.pair TStarter .unit) (.pair .bool .unit)) (.pair (.int .i64) (.pair (.int .i64) .unit)))))) : Option ((Ty.T (.pair (.list TStarter) (.pair (.fn (.pair TStarter .unit) (.pair .bool .unit)) (.pair (.int .i64) (.pair (.int .i64) .unit))))) ⊕ ((Ty.T .unit) ⊕ (Ty.T (.pair (.int .i64) .unit)))) :=
match (decide (x.2.2.2.1 < x.2.2.1)) with
| true =>
 onSome (idx x.1 x.2.2.2.1) fun v1 =>
 match x.2.1 (v1, ()) with
 | none => none
 | some v2 =>
 match v2.1 with
 | true =>
  some (.inr (.inr (x.2.2.2.1, ())))
 | false =>
  some (.inl (x.1, x.2.1, x.2.2.1, (IntKind.i64.wrap (x.2.2.2.1 + (1 : Int))), ()))
| false =>
 some (.inr (.inl (())))
noncomputable def slices_IndexFunc_Fault (x : Ty.T (.pair (.list TStarter) (.pair (.fn (.pair TStarter .unit) (.pair .bool .unit)) .unit))) : Option (Ty.T (.pair (.int .i64) .unit)) :=
match loopL b_slices_IndexFunc_Fault_2 (x.1, x.2.1, (x.1.length : Int), (0 : Int), ()) with
| none => none
| some (.inl v3) =>
 some ((-1 : Int), ())
| some (.inr v4) =>
 some (v4.1, ())
noncomputable def S_slices_IndexFunc_Fault : Spec := ⟨(.pair (.list TStarter) (.pair (.fn (.pair TStarter .unit) (.pair .bool .unit)) .unit)), (.pair (.int .i64) .unit), .unit, rfl, slices_IndexFunc_Fault⟩
noncomputable def σ_slices_IndexFunc_Fault : FuncId → Option Spec := sig []
theorem σok_slices_IndexFunc_Fault : ∀ f s, σ_slices_IndexFunc_Fault f = some s → FnOK Try.prog f s := sig_ok (l := []) trivial
noncomputable def Λ_slices_IndexFunc_Fault : Nat → Option LSpec := lkp (loopList (bodyOf Try.f109)) [⟨[0, 1, 7, 8], (.pair (.list TStarter) (.pair (.fn (.pair TStarter .unit) (.pair .bool .unit)) (.pair (.int .i64) (.pair (.int .i64) .unit)))), 0, [], .unit, [4], (.pair (.int .i64) .unit), loopL b_slices_IndexFunc_Fault_2⟩]
theorem lok_slices_IndexFunc_Fault_2 (x) : codeK Γ0 E0 σ_slices_IndexFunc_Fault Λ_slices_IndexFunc_Fault Try.f109.ntmps (nthLoop Try.f109 0) (mkF Try.f109.ntmps [0, 1, 7, 8] (.pair (.list TStarter) (.pair (.fn (.pair TStarter .unit) (.pair .bool .unit)) (.pair (.int .i64) (.pair (.int .i64) .unit)))) x) (readK σ_slices_IndexFunc_Fault Try.f109.ntmps [0, 1, 7, 8] (.pair (.list TStarter) (.pair (.fn (.pair TStarter .unit) (.pair .bool .unit)) (.pair (.int .i64) (.pair (.int .i64) .unit)))) 0 [] .unit [4] (.pair (.int .i64) .unit)) = b_slices_IndexFunc_Fault_2 x := by kernel_rfl
theorem ok_slices_IndexFunc_Fault : FnOK Try.prog 109 S_slices_IndexFunc_Fault := fn_ok (Λ := Λ_slices_IndexFunc_Fault) tab0 σok_slices_IndexFunc_Fault Try.func109 (by kernel_rfl) (show Try.f109.body = some (bodyOf Try.f109) by kernel_rfl) [⟨[0, 1, 7, 8], (.pair (.list TStarter) (.pair (.fn (.pair TStarter .unit) (.pair .bool .unit)) (.pair (.int .i64) (.pair (.int .i64) .unit)))), 0, [], .unit, [4], (.pair (.int .i64) .unit), loopL b_slices_IndexFunc_Fault_2⟩] rfl (by kernel_rfl) (by exact ⟨loop_LOK lok_slices_IndexFunc_Fault_2, trivial⟩) (by kernel_rfl)
  fun x y h => (show execFn Γ0 E0 σ_slices_IndexFunc_Fault Λ_slices_IndexFunc_Fault Try.f109 S_slices_IndexFunc_Fault x = slices_IndexFunc_Fault x by kernel_rfl).trans h

noncomputable def slices_ContainsFunc_Fault (x : Ty.T (.pair (.list TStarter) (.pair (.fn (.pair TStarter .unit) (.pair .bool .unit)) .unit))) : Option (Ty.T (.pair .bool .unit)) :=
match slices_IndexFunc_Fault (x.1, x.2.1, ()) with
| none => none
| some v1 =>
some ((decide (v1.1 ≥ (0 : Int))), ())
noncomputable def S_slices_ContainsFunc_Fault : Spec := ⟨(.pair (.list TStarter) (.pair (.fn (.pair TStarter .unit) (.pair .bool .unit)) .unit)), (.pair .bool .unit), .unit, rfl, slices_ContainsFunc_Fault⟩
noncomputable def σ_slices_ContainsFunc_Fault : FuncId → Option Spec := sig [(109, S_slices_IndexFunc_Fault)]
theorem σok_slices_ContainsFunc_Fault : ∀ f s, σ_slices_ContainsFunc_Fault f = some s → FnOK Try.prog f s := sig_ok (l := [(109, S_slices_IndexFunc_Fault)]) ⟨ok_slices_IndexFunc_Fault, trivial⟩
noncomputable def Λ_slices_ContainsFunc_Fault : Nat → Option LSpec := lkp (loopList (bodyOf Try.f104)) []
theorem ok_slices_ContainsFunc_Fault : FnOK Try.prog 104 S_slices_ContainsFunc_Fault := fn_ok (Λ := Λ_slices_ContainsFunc_Fault) tab0 σok_slices_ContainsFunc_Fault Try.func104 (by kernel_rfl) (show Try.f104.body = some (bodyOf Try.f104) by kernel_rfl) [] rfl (by kernel_rfl) (by exact trivial) (by kernel_rfl)
  fun x y h => (show execFn Γ0 E0 σ_slices_ContainsFunc_Fault Λ_slices_ContainsFunc_Fault Try.f104 S_slices_ContainsFunc_Fault x = slices_ContainsFunc_Fault x by kernel_rfl).trans h

noncomputable def i_hasLength (x : Ty.T (.pair (.int .i64) .unit)) : Option (Ty.T (.pair .bool .unit)) :=
match (x.1 != (1 : Int)) with
| true =>
 some ((x.1 != (5 : Int)), ())
| false =>
 some (false, ())
noncomputable def S_i_hasLength : Spec := ⟨(.pair (.int .i64) .unit), (.pair .bool .unit), .unit, rfl, i_hasLength⟩
noncomputable def σ_i_hasLength : FuncId → Option Spec := sig []
theorem σok_i_hasLength : ∀ f s, σ_i_hasLength f = some s → FnOK Try.prog f s := sig_ok (l := []) trivial
noncomputable def Λ_i_hasLength : Nat → Option LSpec := lkp (loopList (bodyOf Try.f110)) []
theorem ok_i_hasLength : FnOK Try.prog 110 S_i_hasLength := fn_ok (Λ := Λ_i_hasLength) tab0 σok_i_hasLength Try.func110 (by kernel_rfl) (show Try.f110.body = some (bodyOf Try.f110) by kernel_rfl) [] rfl (by kernel_rfl) (by exact trivial) (by kernel_rfl)
  fun x y h => (show execFn Γ0 E0 σ_i_hasLength Λ_i_hasLength Try.f110 S_i_hasLength x = i_hasLength x by kernel_rfl).trans h

noncomputable def i_hasValue (x : Ty.T (.pair (.int .i64) .unit)) : Option (Ty.T (.pair .bool .unit)) :=
match (x.1 == (4 : Int)) with
| true =>
 some (true, ())
| false =>
 some ((x.1 == (6 : Int)), ())
noncomputable def S_i_hasValue : Spec := ⟨(.pair (.int .i64) .unit), (.pair .bool .unit), .unit, rfl, i_hasValue⟩
noncomputable def σ_i_hasValue : FuncId → Option Spec := sig []
theorem σok_i_hasValue : ∀ f s, σ_i_hasValue f = some s → FnOK Try.prog f s := sig_ok (l := []) trivial
noncomputable def Λ_i_hasValue : Nat → Option LSpec := lkp (loopList (bodyOf Try.f111)) []
theorem ok_i_hasValue : FnOK Try.prog 111 S_i_hasValue := fn_ok (Λ := Λ_i_hasValue) tab0 σok_i_hasValue Try.func111 (by kernel_rfl) (show Try.f111.body = some (bodyOf Try.f111) by kernel_rfl) [] rfl (by kernel_rfl) (by exact trivial) (by kernel_rfl)
  fun x y h => (show execFn Γ0 E0 σ_i_hasValue Λ_i_hasValue Try.f111 S_i_hasValue x = i_hasValue x by kernel_rfl).trans h

noncomputable def i_IsFault (x : Ty.T (.pair TStarter .unit)) : Option (Ty.T (.pair .bool .unit)) :=
match i_within (x.1.1, (1 : Int), (6 : Int), ()) with
| none => none
| some v1 =>
match (!v1.1) with
| true =>
 some (false, ())
| false =>
 match i_within (x.1.2.1, (0 : Int), (8192 : Int), ()) with
 | none => none
 | some v2 =>
 match (!v2.1) with
 | true =>
  some (false, ())
 | false =>
  match i_hasLength (x.1.1, ()) with
  | none => none
  | some v3 =>
  match v3.1 with
  | true =>
   match i_within (x.1.2.2.1, (1 : Int), (8192 : Int), ()) with
   | none => none
   | some v4 =>
   match i_hasValue (x.1.1, ()) with
   | none => none
   | some v5 =>
   match v5.1 with
   | true =>
    match i_within (x.1.2.2.2.1, (0 : Int), (1 : Int), ()) with
    | none => none
    | some v6 =>
    match v4.1 with
    | true =>
     some (v6.1, ())
    | false =>
     some (false, ())
   | false =>
    match v4.1 with
    | true =>
     some ((x.1.2.2.2.1 == (0 : Int)), ())
    | false =>
     some (false, ())
  | false =>
   match i_hasValue (x.1.1, ()) with
   | none => none
   | some v7 =>
   match v7.1 with
   | true =>
    match i_within (x.1.2.2.2.1, (0 : Int), (1 : Int), ()) with
    | none => none
    | some v8 =>
    match (x.1.2.2.1 == (0 : Int)) with
    | true =>
     some (v8.1, ())
    | false =>
     some (false, ())
   | false =>
    match (x.1.2.2.1 == (0 : Int)) with
    | true =>
     some ((x.1.2.2.2.1 == (0 : Int)), ())
    | false =>
     some (false, ())
noncomputable def S_i_IsFault : Spec := ⟨(.pair TStarter .unit), (.pair .bool .unit), .unit, rfl, i_IsFault⟩
noncomputable def σ_i_IsFault : FuncId → Option Spec := sig [(62, S_i_within), (110, S_i_hasLength), (111, S_i_hasValue)]
theorem σok_i_IsFault : ∀ f s, σ_i_IsFault f = some s → FnOK Try.prog f s := sig_ok (l := [(62, S_i_within), (110, S_i_hasLength), (111, S_i_hasValue)]) ⟨ok_i_within, ok_i_hasLength, ok_i_hasValue, trivial⟩
noncomputable def Λ_i_IsFault : Nat → Option LSpec := lkp (loopList (bodyOf Try.f106)) []
theorem ok_i_IsFault : FnOK Try.prog 106 S_i_IsFault := fn_ok (Λ := Λ_i_IsFault) tab0 σok_i_IsFault Try.func106 (by kernel_rfl) (show Try.f106.body = some (bodyOf Try.f106) by kernel_rfl) [] rfl (by kernel_rfl) (by exact trivial) (by kernel_rfl)
  fun x y h => (show execFn Γ0 E0 σ_i_IsFault Λ_i_IsFault Try.f106 S_i_IsFault x = i_IsFault x by kernel_rfl).trans h

noncomputable def i_IsScript_1 (x : Ty.T (.pair TStarter .unit)) : Option (Ty.T (.pair .bool .unit)) :=
match i_IsFault ((x.1.1, x.1.2.1, x.1.2.2.1, x.1.2.2.2.1, ()), ()) with
| none => none
| some v1 =>
some ((!v1.1), ())
noncomputable def S_i_IsScript_1 : Spec := ⟨(.pair TStarter .unit), (.pair .bool .unit), .unit, rfl, i_IsScript_1⟩
noncomputable def σ_i_IsScript_1 : FuncId → Option Spec := sig [(106, S_i_IsFault)]
theorem σok_i_IsScript_1 : ∀ f s, σ_i_IsScript_1 f = some s → FnOK Try.prog f s := sig_ok (l := [(106, S_i_IsFault)]) ⟨ok_i_IsFault, trivial⟩
noncomputable def Λ_i_IsScript_1 : Nat → Option LSpec := lkp (loopList (bodyOf Try.f105)) []
theorem ok_i_IsScript_1 : FnOK Try.prog 105 S_i_IsScript_1 := fn_ok (Λ := Λ_i_IsScript_1) tab0 σok_i_IsScript_1 Try.func105 (by kernel_rfl) (show Try.f105.body = some (bodyOf Try.f105) by kernel_rfl) [] rfl (by kernel_rfl) (by exact trivial) (by kernel_rfl)
  fun x y h => (show execFn Γ0 E0 σ_i_IsScript_1 Λ_i_IsScript_1 Try.f105 S_i_IsScript_1 x = i_IsScript_1 x by kernel_rfl).trans h

noncomputable def i_IsScript (x : Ty.T (.pair (.list TStarter) .unit)) : Option (Ty.T (.pair .bool .unit)) :=
match (decide ((x.1.length : Int) ≤ (30 : Int))) with
| true =>
 match slices_ContainsFunc_Fault (x.1, i_IsScript_1, ()) with
 | none => none
 | some v1 =>
 some ((!v1.1), ())
| false =>
 some (false, ())
noncomputable def S_i_IsScript : Spec := ⟨(.pair (.list TStarter) .unit), (.pair .bool .unit), .unit, rfl, i_IsScript⟩
noncomputable def σ_i_IsScript : FuncId → Option Spec := sig [(104, S_slices_ContainsFunc_Fault), (105, S_i_IsScript_1)]
theorem σok_i_IsScript : ∀ f s, σ_i_IsScript f = some s → FnOK Try.prog f s := sig_ok (l := [(104, S_slices_ContainsFunc_Fault), (105, S_i_IsScript_1)]) ⟨ok_slices_ContainsFunc_Fault, ok_i_IsScript_1, trivial⟩
noncomputable def Λ_i_IsScript : Nat → Option LSpec := lkp (loopList (bodyOf Try.f90)) []
theorem ok_i_IsScript : FnOK Try.prog 90 S_i_IsScript := fn_ok (Λ := Λ_i_IsScript) tab0 σok_i_IsScript Try.func90 (by kernel_rfl) (show Try.f90.body = some (bodyOf Try.f90) by kernel_rfl) [] rfl (by kernel_rfl) (by exact trivial) (by kernel_rfl)
  fun x y h => (show execFn Γ0 E0 σ_i_IsScript Λ_i_IsScript Try.f90 S_i_IsScript x = i_IsScript x by kernel_rfl).trans h

noncomputable def i_IsStep (x : Ty.T (.pair TStep .unit)) : Option (Ty.T (.pair .bool .unit)) :=
match i_within (x.1.1, (0 : Int), (255 : Int), ()) with
| none => none
| some v1 =>
match v1.1 with
| true =>
 match i_within (x.1.2.1, (0 : Int), (7 : Int), ()) with
 | none => none
 | some v2 =>
 match v2.1 with
 | true =>
  match i_IsScript (x.1.2.2.1, ()) with
  | none => none
  | some v3 =>
  match v3.1 with
  | true =>
   match i_IsScript (x.1.2.2.2.1, ()) with
   | none => none
   | some v4 =>
   some (v4.1, ())
  | false =>
   some (false, ())
 | false =>
  some (false, ())
| false =>
 some (false, ())
noncomputable def S_i_IsStep : Spec := ⟨(.pair TStep .unit), (.pair .bool .unit), .unit, rfl, i_IsStep⟩
noncomputable def σ_i_IsStep : FuncId → Option Spec := sig [(62, S_i_within), (90, S_i_IsScript)]
theorem σok_i_IsStep : ∀ f s, σ_i_IsStep f = some s → FnOK Try.prog f s := sig_ok (l := [(62, S_i_within), (90, S_i_IsScript)]) ⟨ok_i_within, ok_i_IsScript, trivial⟩
noncomputable def Λ_i_IsStep : Nat → Option LSpec := lkp (loopList (bodyOf Try.f51)) []
theorem ok_i_IsStep : FnOK Try.prog 51 S_i_IsStep := fn_ok (Λ := Λ_i_IsStep) tab0 σok_i_IsStep Try.func51 (by kernel_rfl) (show Try.f51.body = some (bodyOf Try.f51) by kernel_rfl) [] rfl (by kernel_rfl) (by exact trivial) (by kernel_rfl)
  fun x y h => (show execFn Γ0 E0 σ_i_IsStep Λ_i_IsStep Try.f51 S_i_IsStep x = i_IsStep x by kernel_rfl).trans h

noncomputable def l_FnExactIsStep (x : Ty.T (.pair TStep .unit)) : Option (Ty.T (.pair .bool .unit)) :=
match l_szStep ((x.1.1, x.1.2.1, x.1.2.2.1, x.1.2.2.2.1, ()), (1048576 : Int), ()) with
| none => none
| some v1 =>
match (decide (v1.1 < (0 : Int))) with
| true =>
 some (true, ())
| false =>
 match l_toStep ((x.1.1, x.1.2.1, x.1.2.2.1, x.1.2.2.2.1, ()), ()) with
 | none => none
 | some v2 =>
 match s_IsStep (v2.1, ()) with
 | none => none
 | some v3 =>
 match l_toStep ((x.1.1, x.1.2.1, x.1.2.2.1, x.1.2.2.2.1, ()), ()) with
 | none => none
 | some v4 =>
 match i_IsStep ((v4.1.1, v4.1.2.1, v4.1.2.2.1, v4.1.2.2.2.1, ()), ()) with
 | none => none
 | some v5 =>
 match (v5.1 != v3.1) with
 | true =>
  some (false, ())
 | false =>
  match l_toStep ((x.1.1, x.1.2.1, x.1.2.2.1, x.1.2.2.2.1, ()), ()) with
  | none => none
  | some v6 =>
  match l_eqStep ((v4.1.1, v4.1.2.1, v4.1.2.2.1, v4.1.2.2.2.1, ()), v6.1, ()) with
  | none => none
  | some v7 =>
  match (!v7.1) with
  | true =>
   some (false, ())
  | false =>
   some (true, ())
noncomputable def S_l_FnExactIsStep : Spec := ⟨(.pair TStep .unit), (.pair .bool .unit), .unit, rfl, l_FnExactIsStep⟩
noncomputable def σ_l_FnExactIsStep : FuncId → Option Spec := sig [(48, S_l_szStep), (49, S_s_IsStep), (50, S_l_toStep), (51, S_i_IsStep), (52, S_l_eqStep)]
theorem σok_l_FnExactIsStep : ∀ f s, σ_l_FnExactIsStep f = some s → FnOK Try.prog f s := sig_ok (l := [(48, S_l_szStep), (49, S_s_IsStep), (50, S_l_toStep), (51, S_i_IsStep), (52, S_l_eqStep)]) ⟨ok_l_szStep, ok_s_IsStep, ok_l_toStep, ok_i_IsStep, ok_l_eqStep, trivial⟩
noncomputable def Λ_l_FnExactIsStep : Nat → Option LSpec := lkp (loopList (bodyOf Try.f12)) []
theorem ok_l_FnExactIsStep : FnOK Try.prog 12 S_l_FnExactIsStep := fn_ok (Λ := Λ_l_FnExactIsStep) tab0 σok_l_FnExactIsStep Try.func12 (by kernel_rfl) (show Try.f12.body = some (bodyOf Try.f12) by kernel_rfl) [] rfl (by kernel_rfl) (by exact trivial) (by kernel_rfl)
  fun x y h => (show execFn Γ0 E0 σ_l_FnExactIsStep Λ_l_FnExactIsStep Try.f12 S_l_FnExactIsStep x = l_FnExactIsStep x by kernel_rfl).trans h

noncomputable def b_s_AvailabilityOf_5 (x : (Ty.T (.pair (.list TMark) TStarter))) : Option ((Ty.T (.pair (.list TMark) TStarter)) ⊕ ((Ty.T (.pair (.int .i64) (.pair (.int .i64) .unit))) ⊕ (Ty.T .unit))) :=
match (decide (x.2.2.2.2.1 < (x.1.length : Int))) with
| true =>
 onSome (idx x.1 x.2.2.2.2.1) fun v2 =>
 match (v2.2.1 == x.2.1) with
 | true =>
  onSome (idx x.1 x.2.2.2.2.1) fun v3 =>
  match (v3.2.2.1 == (3 : Int)) with
  | true =>
   some (.inl (x.1, x.2.1, (IntKind.i64.wrap (x.2.2.1 + (1 : Int))), (IntKind.i64.wrap (x.2.2.2.1 + (1 : Int))), (IntKind.i64.wrap (x.2.2.2.2.1 + (1 : Int))), ()))
  | false =>
   some (.inl (x.1, x.2.1, (IntKind.i64.wrap (x.2.2.1 + (1 : Int))), x.2.2.2.1, (IntKind.i64.wrap (x.2.2.2.2.1 + (1 : Int))), ()))
 | false =>
  some (.inl (x.1, x.2.1, x.2.2.1, x.2.2.2.1, (IntKind.i64.wrap (x.2.2.2.2.1 + (1 : Int))), ()))
| false =>
 some (.inr (.inl (x.2.2.1, x.2.2.2.1, ())))
noncomputable def s_AvailabilityOf (x : Ty.T (.pair (.list TMark) (.pair (.int .i64) .unit))) : Option (Ty.T (.pair (.int .i64) (.pair (.int .i64) .unit))) :=
match s_l33List (x.1, ()) with
| none => none
| some v1 =>
match (!v1.1) with
| true =>
 some ((0 : Int), (1 : Int), ())
| false =>
 match loopL b_s_AvailabilityOf_5 (x.1, x.2.1, (0 : Int), (0 : Int), (0 : Int), ()) with
 | none => none
 | some (.inl v4) =>
  match (v4.1 == (0 : Int)) with
  | true =>
   some ((0 : Int), (4 : Int), ())
  | false =>
   if v4.1 = 0 then none else
   some ((IntKind.i64.wrap (Int.tdiv (IntKind.i64.wrap ((1000 : Int) * v4.2.1)) v4.1)), (0 : Int), ())
 | some (.inr v6) =>
  none
noncomputable def S_s_AvailabilityOf : Spec := ⟨(.pair (.list TMark) (.pair (.int .i64) .unit)), (.pair (.int .i64) (.pair (.int .i64) .unit)), .unit, rfl, s_AvailabilityOf⟩
noncomputable def σ_s_AvailabilityOf : FuncId → Option Spec := sig [(74, S_s_l33List)]
theorem σok_s_AvailabilityOf : ∀ f s, σ_s_AvailabilityOf f = some s → FnOK Try.prog f s := sig_ok (l := [(74, S_s_l33List)]) ⟨ok_s_l33List, trivial⟩
noncomputable def Λ_s_AvailabilityOf : Nat → Option LSpec := lkp (loopList (bodyOf Try.f53)) [⟨[0, 1, 6, 7, 8], (.pair (.list TMark) TStarter), 0, [6, 7], (.pair (.int .i64) (.pair (.int .i64) .unit)), [], .unit, loopL b_s_AvailabilityOf_5⟩]
theorem lok_s_AvailabilityOf_5 (x) : codeK Γ0 E0 σ_s_AvailabilityOf Λ_s_AvailabilityOf Try.f53.ntmps (nthLoop Try.f53 0) (mkF Try.f53.ntmps [0, 1, 6, 7, 8] (.pair (.list TMark) TStarter) x) (readK σ_s_AvailabilityOf Try.f53.ntmps [0, 1, 6, 7, 8] (.pair (.list TMark) TStarter) 0 [6, 7] (.pair (.int .i64) (.pair (.int .i64) .unit)) [] .unit) = b_s_AvailabilityOf_5 x := by kernel_rfl
theorem ok_s_AvailabilityOf : FnOK Try.prog 53 S_s_AvailabilityOf := fn_ok (Λ := Λ_s_AvailabilityOf) tab0 σok_s_AvailabilityOf Try.func53 (by kernel_rfl) (show Try.f53.body = some (bodyOf Try.f53) by kernel_rfl) [⟨[0, 1, 6, 7, 8], (.pair (.list TMark) TStarter), 0, [6, 7], (.pair (.int .i64) (.pair (.int .i64) .unit)), [], .unit, loopL b_s_AvailabilityOf_5⟩] rfl (by kernel_rfl) (by exact ⟨loop_LOK lok_s_AvailabilityOf_5, trivial⟩) (by kernel_rfl)
  fun x y h => (show execFn Γ0 E0 σ_s_AvailabilityOf Λ_s_AvailabilityOf Try.f53 S_s_AvailabilityOf x = s_AvailabilityOf x by kernel_rfl).trans h

noncomputable def i_oneIf (x : Ty.T (.pair .bool .unit)) : Option (Ty.T (.pair (.int .i64) .unit)) :=
match x.1 with
| true =>
 some ((1 : Int), ())
| false =>
 some ((0 : Int), ())
noncomputable def S_i_oneIf : Spec := ⟨(.pair .bool .unit), (.pair (.int .i64) .unit), .unit, rfl, i_oneIf⟩
noncomputable def σ_i_oneIf : FuncId → Option Spec := sig []
theorem σok_i_oneIf : ∀ f s, σ_i_oneIf f = some s → FnOK Try.prog f s := sig_ok (l := []) trivial
noncomputable def Λ_i_oneIf : Nat → Option LSpec := lkp (loopList (bodyOf Try.f92)) []
theorem ok_i_oneIf : FnOK Try.prog 92 S_i_oneIf := fn_ok (Λ := Λ_i_oneIf) tab0 σok_i_oneIf Try.func92 (by kernel_rfl) (show Try.f92.body = some (bodyOf Try.f92) by kernel_rfl) [] rfl (by kernel_rfl) (by exact trivial) (by kernel_rfl)
  fun x y h => (show execFn Γ0 E0 σ_i_oneIf Λ_i_oneIf Try.f92 S_i_oneIf x = i_oneIf x by kernel_rfl).trans h

noncomputable def b_i_AvailabilityOf_5 (x : (Ty.T (.pair (.int .i64) (.pair (.int .i64) (.pair (.int .i64) (.pair (.list TMark) (.pair (.int .i64) (.pair (.int .i64) .unit)))))))) : Option ((Ty.T (.pair (.int .i64) (.pair (.int .i64) (.pair (.int .i64) (.pair (.list TMark) (.pair (.int .i64) (.pair (.int .i64) .unit))))))) ⊕ ((Ty.T (.pair (.int .i64) (.pair (.int .i64) .unit))) ⊕ (Ty.T .unit))) :=
match (decide (x.2.2.2.2.2.1 < x.2.2.2.2.1)) with
| true =>
 onSome (idx x.2.2.2.1 x.2.2.2.2.2.1) fun v2 =>
 match (v2.2.1 == x.1) with
 | true =>
  match i_oneIf ((v2.2.2.1 == (3 : Int)), ()) with
  | none => none
  | some v3 =>
  some (.inl (x.1, (IntKind.i64.wrap (x.2.1 + v3.1)), (IntKind.i64.wrap (x.2.2.1 + (1 : Int))), x.2.2.2.1, x.2.2.2.2.1, (IntKind.i64.wrap (x.2.2.2.2.2.1 + (1 : Int))), ()))
 | false =>
  some (.inl (x.1, x.2.1, x.2.2.1, x.2.2.2.1, x.2.2.2.2.1, (IntKind.i64.wrap (x.2.2.2.2.2.1 + (1 : Int))), ()))
| false =>
 some (.inr (.inl (x.2.1, x.2.2.1, ())))
noncomputable def i_AvailabilityOf (x : Ty.T (.pair (.list TMark) (.pair (.int .i64) .unit))) : Option (Ty.T (.pair (.int .i64) (.pair (.int .i64) .unit))) :=
match i_isTrace (x.1, ()) with
| none => none
| some v1 =>
match (!v1.1) with
| true =>
 some ((0 : Int), (1 : Int), ())
| false =>
 match loopL b_i_AvailabilityOf_5 (x.2.1, (0 : Int), (0 : Int), x.1, (x.1.length : Int), (0 : Int), ()) with
 | none => none
 | some (.inl v4) =>
  match (v4.2.1 == (0 : Int)) with
  | true =>
   some ((0 : Int), (4 : Int), ())
  | false =>
   if v4.2.1 = 0 then none else
   some ((IntKind.i64.wrap (Int.tdiv (IntKind.i64.wrap ((1000 : Int) * v4.1)) v4.2.1)), (0 : Int), ())
 | some (.inr v6) =>
  none
noncomputable def S_i_AvailabilityOf : Spec := ⟨(.pair (.list TMark) (.pair (.int .i64) .unit)), (.pair (.int .i64) (.pair (.int .i64) .unit)), .unit, rfl, i_AvailabilityOf⟩
noncomputable def σ_i_AvailabilityOf : FuncId → Option Spec := sig [(75, S_i_isTrace), (92, S_i_oneIf)]
theorem σok_i_AvailabilityOf : ∀ f s, σ_i_AvailabilityOf f = some s → FnOK Try.prog f s := sig_ok (l := [(75, S_i_isTrace), (92, S_i_oneIf)]) ⟨ok_i_isTrace, ok_i_oneIf, trivial⟩
noncomputable def Λ_i_AvailabilityOf : Nat → Option LSpec := lkp (loopList (bodyOf Try.f54)) [⟨[1, 6, 7, 13, 14, 15], (.pair (.int .i64) (.pair (.int .i64) (.pair (.int .i64) (.pair (.list TMark) (.pair (.int .i64) (.pair (.int .i64) .unit)))))), 0, [6, 7], (.pair (.int .i64) (.pair (.int .i64) .unit)), [], .unit, loopL b_i_AvailabilityOf_5⟩]
theorem lok_i_AvailabilityOf_5 (x) : codeK Γ0 E0 σ_i_AvailabilityOf Λ_i_AvailabilityOf Try.f54.ntmps (nthLoop Try.f54 0) (mkF Try.f54.ntmps [1, 6, 7, 13, 14, 15] (.pair (.int .i64) (.pair (.int .i64) (.pair (.int .i64) (.pair (.list TMark) (.pair (.int .i64) (.pair (.int .i64) .unit)))))) x) (readK σ_i_AvailabilityOf Try.f54.ntmps [1, 6, 7, 13, 14, 15] (.pair (.int .i64) (.pair (.int .i64) (.pair (.int .i64) (.pair (.list TMark) (.pair (.int .i64) (.pair (.int .i64) .unit)))))) 0 [6, 7] (.pair (.int .i64) (.pair (.int .i64) .unit)) [] .unit) = b_i_AvailabilityOf_5 x := by kernel_rfl
theorem ok_i_AvailabilityOf : FnOK Try.prog 54 S_i_AvailabilityOf := fn_ok (Λ := Λ_i_AvailabilityOf) tab0 σok_i_AvailabilityOf Try.func54 (by kernel_rfl) (show Try.f54.body = some (bodyOf Try.f54) by kernel_rfl) [⟨[1, 6, 7, 13, 14, 15], (.pair (.int .i64) (.pair (.int .i64) (.pair (.int .i64) (.pair (.list TMark) (.pair (.int .i64) (.pair (.int .i64) .unit)))))), 0, [6, 7], (.pair (.int .i64) (.pair (.int .i64) .unit)), [], .unit, loopL b_i_AvailabilityOf_5⟩] rfl (by kernel_rfl) (by exact ⟨loop_LOK lok_i_AvailabilityOf_5, trivial⟩) (by kernel_rfl)
  fun x y h => (show execFn Γ0 E0 σ_i_AvailabilityOf Λ_i_AvailabilityOf Try.f54 S_i_AvailabilityOf x = i_AvailabilityOf x by kernel_rfl).trans h

noncomputable def l_FnExactAvailabilityOf (x : Ty.T (.pair (.list TMark) (.pair (.int .i64) .unit))) : Option (Ty.T (.pair .bool .unit)) :=
match l_szMarkS (x.1, (1048576 : Int), ()) with
| none => none
| some v1 =>
match (decide (v1.1 < (0 : Int))) with
| true =>
 some (true, ())
| false =>
 match l_toMarkS (x.1, ()) with
 | none => none
 | some v2 =>
 match s_AvailabilityOf (v2.1, x.2.1, ()) with
 | none => none
 | some v3 =>
 match l_toMarkS (x.1, ()) with
 | none => none
 | some v4 =>
 match i_AvailabilityOf (v4.1, x.2.1, ()) with
 | none => none
 | some v5 =>
 match (v5.1 != v3.1) with
 | true =>
  some (false, ())
 | false =>
  match (v5.2.1 != v3.2.1) with
  | true =>
   some (false, ())
  | false =>
   match l_toMarkS (x.1, ()) with
   | none => none
   | some v6 =>
   match l_eqMarkS (v4.1, v6.1, ()) with
   | none => none
   | some v7 =>
   match (!v7.1) with
   | true =>
    some (false, ())
   | false =>
    some (true, ())
noncomputable def S_l_FnExactAvailabilityOf : Spec := ⟨(.pair (.list TMark) (.pair (.int .i64) .unit)), (.pair .bool .unit), .unit, rfl, l_FnExactAvailabilityOf⟩
noncomputable def σ_l_FnExactAvailabilityOf : FuncId → Option Spec := sig [(32, S_l_szMarkS), (34, S_l_toMarkS), (36, S_l_eqMarkS), (53, S_s_AvailabilityOf), (54, S_i_AvailabilityOf)]
theorem σok_l_FnExactAvailabilityOf : ∀ f s, σ_l_FnExactAvailabilityOf f = some s → FnOK Try.prog f s := sig_ok (l := [(32, S_l_szMarkS), (34, S_l_toMarkS), (36, S_l_eqMarkS), (53, S_s_AvailabilityOf), (54, S_i_AvailabilityOf)]) ⟨ok_l_szMarkS, ok_l_toMarkS, ok_l_eqMarkS, ok_s_AvailabilityOf, ok_i_AvailabilityOf, trivial⟩
noncomputable def Λ_l_FnExactAvailabilityOf : Nat → Option LSpec := lkp (loopList (bodyOf Try.f13)) []
theorem ok_l_FnExactAvailabilityOf : FnOK Try.prog 13 S_l_FnExactAvailabilityOf := fn_ok (Λ := Λ_l_FnExactAvailabilityOf) tab0 σok_l_FnExactAvailabilityOf Try.func13 (by kernel_rfl) (show Try.f13.body = some (bodyOf Try.f13) by kernel_rfl) [] rfl (by kernel_rfl) (by exact trivial) (by kernel_rfl)
  fun x y h => (show execFn Γ0 E0 σ_l_FnExactAvailabilityOf Λ_l_FnExactAvailabilityOf Try.f13 S_l_FnExactAvailabilityOf x = l_FnExactAvailabilityOf x by kernel_rfl).trans h

noncomputable def b_s_StatusCounts_5 (x : (Ty.T (.pair (.list TMark) (.pair (.own 2 (.int .i64)) (.pair (.int .i64) .unit))))) : Option ((Ty.T (.pair (.list TMark) (.pair (.own 2 (.int .i64)) (.pair (.int .i64) .unit)))) ⊕ ((Ty.T (.pair (.own 2 (.int .i64)) .unit)) ⊕ (Ty.T .unit))) :=
match (decide (x.2.2.1 < (x.1.length : Int))) with
| true =>
 onSome (idx x.1 x.2.2.1) fun v2 =>
 onSome (idx x.2.1 v2.2.2.1) fun _ =>
 match x.2.1[v2.2.2.1.toNat]? with
 | none => none
 | some v4 =>
 onSome (idx x.2.1 v2.2.2.1) fun _ =>
 match x.2.1[v2.2.2.1.toNat]? with
 | none => none
 | some v6 =>
 some (.inl (x.1, (x.2.1.set v2.2.2.1.toNat (IntKind.i64.wrap (v4 + (1 : Int)))), (IntKind.i64.wrap (x.2.2.1 + (1 : Int))), ()))
| false =>
 some (.inr (.inl (x.2.1, ())))
noncomputable def s_StatusCounts (x : Ty.T (.pair (.list TMark) .unit)) : Option (Ty.T (.pair (.own 2 (.int .i64)) (.pair (.int .i64) .unit))) :=
match s_l33List (x.1, ()) with
| none => none
| some v1 =>
match (!v1.1) with
| true =>
 some ([], (1 : Int), ())
| false =>
 if 0 ≤ (5 : Int) ∧ (5 : Int) ≤ (5 : Int) then
  room ((5 : Int).toNat) (
   match loopL b_s_StatusCounts_5 (x.1, (List.replicate (5 : Int).toNat (0 : Int)), (0 : Int), ()) with
   | none => none
   | some (.inl v7) =>
    some (v7.1, (0 : Int), ())
   | some (.inr v9) =>
    none)
 else none
noncomputable def S_s_StatusCounts : Spec := ⟨(.pair (.list TMark) .unit), (.pair (.own 2 (.int .i64)) (.pair (.int .i64) .unit)), .unit, rfl, s_StatusCounts⟩
noncomputable def σ_s_StatusCounts : FuncId → Option Spec := sig [(74, S_s_l33List)]
theorem σok_s_StatusCounts : ∀ f s, σ_s_StatusCounts f = some s → FnOK Try.prog f s := sig_ok (l := [(74, S_s_l33List)]) ⟨ok_s_l33List, trivial⟩
noncomputable def Λ_s_StatusCounts : Nat → Option LSpec := lkp (loopList (bodyOf Try.f55)) [⟨[0, 4, 5], (.pair (.list TMark) (.pair (.own 2 (.int .i64)) (.pair (.int .i64) .unit))), 0, [4], (.pair (.own 2 (.int .i64)) .unit), [], .unit, loopL b_s_StatusCounts_5⟩]
theorem lok_s_StatusCounts_5 (x) : codeK Γ0 E0 σ_s_StatusCounts Λ_s_StatusCounts Try.f55.ntmps (nthLoop Try.f55 0) (mkF Try.f55.ntmps [0, 4, 5] (.pair (.list TMark) (.pair (.own 2 (.int .i64)) (.pair (.int .i64) .unit))) x) (readK σ_s_StatusCounts Try.f55.ntmps [0, 4, 5] (.pair (.list TMark) (.pair (.own 2 (.int .i64)) (.pair (.int .i64) .unit))) 0 [4] (.pair (.own 2 (.int .i64)) .unit) [] .unit) = b_s_StatusCounts_5 x := by kernel_rfl
theorem ok_s_StatusCounts : FnOK Try.prog 55 S_s_StatusCounts := fn_ok (Λ := Λ_s_StatusCounts) tab0 σok_s_StatusCounts Try.func55 (by kernel_rfl) (show Try.f55.body = some (bodyOf Try.f55) by kernel_rfl) [⟨[0, 4, 5], (.pair (.list TMark) (.pair (.own 2 (.int .i64)) (.pair (.int .i64) .unit))), 0, [4], (.pair (.own 2 (.int .i64)) .unit), [], .unit, loopL b_s_StatusCounts_5⟩] rfl (by kernel_rfl) (by exact ⟨loop_LOK lok_s_StatusCounts_5, trivial⟩) (by kernel_rfl)
  fun x y h => (show execFn Γ0 E0 σ_s_StatusCounts Λ_s_StatusCounts Try.f55 S_s_StatusCounts x = s_StatusCounts x by kernel_rfl).trans h

noncomputable def b_i_StatusCounts_5 (x : (Ty.T (.pair (.own 2 (.int .i64)) (.pair (.list TMark) (.pair (.int .i64) (.pair (.int .i64) .unit)))))) : Option ((Ty.T (.pair (.own 2 (.int .i64)) (.pair (.list TMark) (.pair (.int .i64) (.pair (.int .i64) .unit))))) ⊕ ((Ty.T (.pair (.own 2 (.int .i64)) .unit)) ⊕ (Ty.T .unit))) :=
match (decide (x.2.2.2.1 < x.2.2.1)) with
| true =>
 onSome (idx x.2.1 x.2.2.2.1) fun v2 =>
 onSome (idx x.1 v2.2.2.1) fun _ =>
 match x.1[v2.2.2.1.toNat]? with
 | none => none
 | some v4 =>
 onSome (idx x.1 v2.2.2.1) fun _ =>
 match x.1[v2.2.2.1.toNat]? with
 | none => none
 | some v6 =>
 some (.inl ((x.1.set v2.2.2.1.toNat (IntKind.i64.wrap (v4 + (1 : Int)))), x.2.1, x.2.2.1, (IntKind.i64.wrap (x.2.2.2.1 + (1 : Int))), ()))
| false =>
 some (.inr (.inl (x.1, ())))
noncomputable def i_StatusCounts (x : Ty.T (.pair (.list TMark) .unit)) : Option (Ty.T (.pair (.own 2 (.int .i64)) (.pair (.int .i64) .unit))) :=
match i_isTrace (x.1, ()) with
| none => none
| some v1 =>
match (!v1.1) with
| true =>
 some ([], (1 : Int), ())
| false =>
 if 0 ≤ (5 : Int) ∧ (5 : Int) ≤ (5 : Int) then
  room ((5 : Int).toNat) (
   match loopL b_i_StatusCounts_5 ((List.replicate (5 : Int).toNat (0 : Int)), x.1, (x.1.length : Int), (0 : Int), ()) with
   | none => none
   | some (.inl v7) =>
    some (v7.1, (0 : Int), ())
   | some (.inr v9) =>
    none)
 else none
noncomputable def S_i_StatusCounts : Spec := ⟨(.pair (.list TMark) .unit), (.pair (.own 2 (.int .i64)) (.pair (.int .i64) .unit)), .unit, rfl, i_StatusCounts⟩
noncomputable def σ_i_StatusCounts : FuncId → Option Spec := sig [(75, S_i_isTrace)]
theorem σok_i_StatusCounts : ∀ f s, σ_i_StatusCounts f = some s → FnOK Try.prog f s := sig_ok (l := [(75, S_i_isTrace)]) ⟨ok_i_isTrace, trivial⟩
noncomputable def Λ_i_StatusCounts : Nat → Option LSpec := lkp (loopList (bodyOf Try.f56)) [⟨[4, 11, 12, 13], (.pair (.own 2 (.int .i64)) (.pair (.list TMark) (.pair (.int .i64) (.pair (.int .i64) .unit)))), 0, [4], (.pair (.own 2 (.int .i64)) .unit), [], .unit, loopL b_i_StatusCounts_5⟩]
theorem lok_i_StatusCounts_5 (x) : codeK Γ0 E0 σ_i_StatusCounts Λ_i_StatusCounts Try.f56.ntmps (nthLoop Try.f56 0) (mkF Try.f56.ntmps [4, 11, 12, 13] (.pair (.own 2 (.int .i64)) (.pair (.list TMark) (.pair (.int .i64) (.pair (.int .i64) .unit)))) x) (readK σ_i_StatusCounts Try.f56.ntmps [4, 11, 12, 13] (.pair (.own 2 (.int .i64)) (.pair (.list TMark) (.pair (.int .i64) (.pair (.int .i64) .unit)))) 0 [4] (.pair (.own 2 (.int .i64)) .unit) [] .unit) = b_i_StatusCounts_5 x := by kernel_rfl
theorem ok_i_StatusCounts : FnOK Try.prog 56 S_i_StatusCounts := fn_ok (Λ := Λ_i_StatusCounts) tab0 σok_i_StatusCounts Try.func56 (by kernel_rfl) (show Try.f56.body = some (bodyOf Try.f56) by kernel_rfl) [⟨[4, 11, 12, 13], (.pair (.own 2 (.int .i64)) (.pair (.list TMark) (.pair (.int .i64) (.pair (.int .i64) .unit)))), 0, [4], (.pair (.own 2 (.int .i64)) .unit), [], .unit, loopL b_i_StatusCounts_5⟩] rfl (by kernel_rfl) (by exact ⟨loop_LOK lok_i_StatusCounts_5, trivial⟩) (by kernel_rfl)
  fun x y h => (show execFn Γ0 E0 σ_i_StatusCounts Λ_i_StatusCounts Try.f56 S_i_StatusCounts x = i_StatusCounts x by kernel_rfl).trans h

noncomputable def b_l_markMarkS_2 (x : (Ty.T (.pair (.own 35 TMark) (.pair (.int .i64) (.pair (.int .i64) .unit))))) : Option ((Ty.T (.pair (.own 35 TMark) (.pair (.int .i64) (.pair (.int .i64) .unit)))) ⊕ ((Ty.T (.pair (.own 35 TMark) (.pair (.int .i64) .unit))) ⊕ (Ty.T .unit))) :=
match (decide (x.2.2.1 < (x.1.length : Int))) with
| true =>
 onSome (idx x.1 x.2.2.1) fun _ =>
 match x.1[x.2.2.1.toNat]? with
 | none => none
 | some v2 =>
 onSome (idx (x.1.set x.2.2.1.toNat ((x.2.1, v2.1.2.1, v2.1.2.2.1, v2.1.2.2.2.1, v2.1.2.2.2.2.1, ()), v2.2.1, v2.2.2.1, ())) x.2.2.1) fun _ =>
 match (x.1.set x.2.2.1.toNat ((x.2.1, v2.1.2.1, v2.1.2.2.1, v2.1.2.2.2.1, v2.1.2.2.2.2.1, ()), v2.2.1, v2.2.2.1, ()))[x.2.2.1.toNat]? with
 | none => none
 | some v4 =>
 onSome (idx ((x.1.set x.2.2.1.toNat ((x.2.1, v2.1.2.1, v2.1.2.2.1, v2.1.2.2.2.1, v2.1.2.2.2.2.1, ()), v2.2.1, v2.2.2.1, ())).set x.2.2.1.toNat ((v4.1.1, (IntKind.i64.wrap (x.2.1 + (1 : Int))), v4.1.2.2.1, v4.1.2.2.2.1, v4.1.2.2.2.2.1, ()), v4.2.1, v4.2.2.1, ())) x.2.2.1) fun _ =>
 match ((x.1.set x.2.2.1.toNat ((x.2.1, v2.1.2.1, v2.1.2.2.1, v2.1.2.2.2.1, v2.1.2.2.2.2.1, ()), v2.2.1, v2.2.2.1, ())).set x.2.2.1.toNat ((v4.1.1, (IntKind.i64.wrap (x.2.1 + (1 : Int))), v4.1.2.2.1, v4.1.2.2.2.1, v4.1.2.2.2.2.1, ()), v4.2.1, v4.2.2.1, ()))[x.2.2.1.toNat]? with
 | none => none
 | some v6 =>
 onSome (idx (((x.1.set x.2.2.1.toNat ((x.2.1, v2.1.2.1, v2.1.2.2.1, v2.1.2.2.2.1, v2.1.2.2.2.2.1, ()), v2.2.1, v2.2.2.1, ())).set x.2.2.1.toNat ((v4.1.1, (IntKind.i64.wrap (x.2.1 + (1 : Int))), v4.1.2.2.1, v4.1.2.2.2.1, v4.1.2.2.2.2.1, ()), v4.2.1, v4.2.2.1, ())).set x.2.2.1.toNat ((v6.1.1, v6.1.2.1, (IntKind.i64.wrap ((IntKind.i64.wrap (x.2.1 + (1 : Int))) + (1 : Int))), v6.1.2.2.2.1, v6.1.2.2.2.2.1, ()), v6.2.1, v6.2.2.1, ())) x.2.2.1) fun _ =>
 match (((x.1.set x.2.2.1.toNat ((x.2.1, v2.1.2.1, v2.1.2.2.1, v2.1.2.2.2.1, v2.1.2.2.2.2.1, ()), v2.2.1, v2.2.2.1, ())).set x.2.2.1.toNat ((v4.1.1, (IntKind.i64.wrap (x.2.1 + (1 : Int))), v4.1.2.2.1, v4.1.2.2.2.1, v4.1.2.2.2.2.1, ()), v4.2.1, v4.2.2.1, ())).set x.2.2.1.toNat ((v6.1.1, v6.1.2.1, (IntKind.i64.wrap ((IntKind.i64.wrap (x.2.1 + (1 : Int))) + (1 : Int))), v6.1.2.2.2.1, v6.1.2.2.2.2.1, ()), v6.2.1, v6.2.2.1, ()))[x.2.2.1.toNat]? with
 | none => none
 | some v8 =>
 onSome (idx ((((x.1.set x.2.2.1.toNat ((x.2.1, v2.1.2.1, v2.1.2.2.1, v2.1.2.2.2.1, v2.1.2.2.2.2.1, ()), v2.2.1, v2.2.2.1, ())).set x.2.2.1.toNat ((v4.1.1, (IntKind.i64.wrap (x.2.1 + (1 : Int))), v4.1.2.2.1, v4.1.2.2.2.1, v4.1.2.2.2.2.1, ()), v4.2.1, v4.2.2.1, ())).set x.2.2.1.toNat ((v6.1.1, v6.1.2.1, (IntKind.i64.wrap ((IntKind.i64.wrap (x.2.1 + (1 : Int))) + (1 : Int))), v6.1.2.2.2.1, v6.1.2.2.2.2.1, ()), v6.2.1, v6.2.2.1, ())).set x.2.2.1.toNat ((v8.1.1, v8.1.2.1, v8.1.2.2.1, (IntKind.i64.wrap ((IntKind.i64.wrap ((IntKind.i64.wrap (x.2.1 + (1 : Int))) + (1 : Int))) + (1 : Int))), v8.1.2.2.2.2.1, ()), v8.2.1, v8.2.2.1, ())) x.2.2.1) fun _ =>
 match ((((x.1.set x.2.2.1.toNat ((x.2.1, v2.1.2.1, v2.1.2.2.1, v2.1.2.2.2.1, v2.1.2.2.2.2.1, ()), v2.2.1, v2.2.2.1, ())).set x.2.2.1.toNat ((v4.1.1, (IntKind.i64.wrap (x.2.1 + (1 : Int))), v4.1.2.2.1, v4.1.2.2.2.1, v4.1.2.2.2.2.1, ()), v4.2.1, v4.2.2.1, ())).set x.2.2.1.toNat ((v6.1.1, v6.1.2.1, (IntKind.i64.wrap ((IntKind.i64.wrap (x.2.1 + (1 : Int))) + (1 : Int))), v6.1.2.2.2.1, v6.1.2.2.2.2.1, ()), v6.2.1, v6.2.2.1, ())).set x.2.2.1.toNat ((v8.1.1, v8.1.2.1, v8.1.2.2.1, (IntKind.i64.wrap ((IntKind.i64.wrap ((IntKind.i64.wrap (x.2.1 + (1 : Int))) + (1 : Int))) + (1 : Int))), v8.1.2.2.2.2.1, ()), v8.2.1, v8.2.2.1, ()))[x.2.2.1.toNat]? with
 | none => none
 | some v10 =>
 onSome (idx (((((x.1.set x.2.2.1.toNat ((x.2.1, v2.1.2.1, v2.1.2.2.1, v2.1.2.2.2.1, v2.1.2.2.2.2.1, ()), v2.2.1, v2.2.2.1, ())).set x.2.2.1.toNat ((v4.1.1, (IntKind.i64.wrap (x.2.1 + (1 : Int))), v4.1.2.2.1, v4.1.2.2.2.1, v4.1.2.2.2.2.1, ()), v4.2.1, v4.2.2.1, ())).set x.2.2.1.toNat ((v6.1.1, v6.1.2.1, (IntKind.i64.wrap ((IntKind.i64.wrap (x.2.1 + (1 : Int))) + (1 : Int))), v6.1.2.2.2.1, v6.1.2.2.2.2.1, ()), v6.2.1, v6.2.2.1, ())).set x.2.2.1.toNat ((v8.1.1, v8.1.2.1, v8.1.2.2.1, (IntKind.i64.wrap ((IntKind.i64.wrap ((IntKind.i64.wrap (x.2.1 + (1 : Int))) + (1 : Int))) + (1 : Int))), v8.1.2.2.2.2.1, ()), v8.2.1, v8.2.2.1, ())).set x.2.2.1.toNat ((v10.1.1, v10.1.2.1, v10.1.2.2.1, v10.1.2.2.2.1, (IntKind.i64.wrap ((IntKind.i64.wrap ((IntKind.i64.wrap ((IntKind.i64.wrap (x.2.1 + (1 : Int))) + (1 : Int))) + (1 : Int))) + (1 : Int))), ()), v10.2.1, v10.2.2.1, ())) x.2.2.1) fun _ =>
 match (((((x.1.set x.2.2.1.toNat ((x.2.1, v2.1.2.1, v2.1.2.2.1, v2.1.2.2.2.1, v2.1.2.2.2.2.1, ()), v2.2.1, v2.2.2.1, ())).set x.2.2.1.toNat ((v4.1.1, (IntKind.i64.wrap (x.2.1 + (1 : Int))), v4.1.2.2.1, v4.1.2.2.2.1, v4.1.2.2.2.2.1, ()), v4.2.1, v4.2.2.1, ())).set x.2.2.1.toNat ((v6.1.1, v6.1.2.1, (IntKind.i64.wrap ((IntKind.i64.wrap (x.2.1 + (1 : Int))) + (1 : Int))), v6.1.2.2.2.1, v6.1.2.2.2.2.1, ()), v6.2.1, v6.2.2.1, ())).set x.2.2.1.toNat ((v8.1.1, v8.1.2.1, v8.1.2.2.1, (IntKind.i64.wrap ((IntKind.i64.wrap ((IntKind.i64.wrap (x.2.1 + (1 : Int))) + (1 : Int))) + (1 : Int))), v8.1.2.2.2.2.1, ()), v8.2.1, v8.2.2.1, ())).set x.2.2.1.toNat ((v10.1.1, v10.1.2.1, v10.1.2.2.1, v10.1.2.2.2.1, (IntKind.i64.wrap ((IntKind.i64.wrap ((IntKind.i64.wrap ((IntKind.i64.wrap (x.2.1 + (1 : Int))) + (1 : Int))) + (1 : Int))) + (1 : Int))), ()), v10.2.1, v10.2.2.1, ()))[x.2.2.1.toNat]? with
 | none => none
 | some v12 =>
 onSome (idx ((((((x.1.set x.2.2.1.toNat ((x.2.1, v2.1.2.1, v2.1.2.2.1, v2.1.2.2.2.1, v2.1.2.2.2.2.1, ()), v2.2.1, v2.2.2.1, ())).set x.2.2.1.toNat ((v4.1.1, (IntKind.i64.wrap (x.2.1 + (1 : Int))), v4.1.2.2.1, v4.1.2.2.2.1, v4.1.2.2.2.2.1, ()), v4.2.1, v4.2.2.1, ())).set x.2.2.1.toNat ((v6.1.1, v6.1.2.1, (IntKind.i64.wrap ((IntKind.i64.wrap (x.2.1 + (1 : Int))) + (1 : Int))), v6.1.2.2.2.1, v6.1.2.2.2.2.1, ()), v6.2.1, v6.2.2.1, ())).set x.2.2.1.toNat ((v8.1.1, v8.1.2.1, v8.1.2.2.1, (IntKind.i64.wrap ((IntKind.i64.wrap ((IntKind.i64.wrap (x.2.1 + (1 : Int))) + (1 : Int))) + (1 : Int))), v8.1.2.2.2.2.1, ()), v8.2.1, v8.2.2.1, ())).set x.2.2.1.toNat ((v10.1.1, v10.1.2.1, v10.1.2.2.1, v10.1.2.2.2.1, (IntKind.i64.wrap ((IntKind.i64.wrap ((IntKind.i64.wrap ((IntKind.i64.wrap (x.2.1 + (1 : Int))) + (1 : Int))) + (1 : Int))) + (1 : Int))), ()), v10.2.1, v10.2.2.1, ())).set x.2.2.1.toNat ((v12.1.1, v12.1.2.1, v12.1.2.2.1, v12.1.2.2.2.1, v12.1.2.2.2.2.1, ()), (IntKind.i64.wrap ((IntKind.i64.wrap ((IntKind.i64.wrap ((IntKind.i64.wrap ((IntKind.i64.wrap (x.2.1 + (1 : Int))) + (1 : Int))) + (1 : Int))) + (1 : Int))) + (1 : Int))), v12.2.2.1, ())) x.2.2.1) fun _ =>
 match ((((((x.1.set x.2.2.1.toNat ((x.2.1, v2.1.2.1, v2.1.2.2.1, v2.1.2.2.2.1, v2.1.2.2.2.2.1, ()), v2.2.1, v2.2.2.1, ())).set x.2.2.1.toNat ((v4.1.1, (IntKind.i64.wrap (x.2.1 + (1 : Int))), v4.1.2.2.1, v4.1.2.2.2.1, v4.1.2.2.2.2.1, ()), v4.2.1, v4.2.2.1, ())).set x.2.2.1.toNat ((v6.1.1, v6.1.2.1, (IntKind.i64.wrap ((IntKind.i64.wrap (x.2.1 + (1 : Int))) + (1 : Int))), v6.1.2.2.2.1, v6.1.2.2.2.2.1, ()), v6.2.1, v6.2.2.1, ())).set x.2.2.1.toNat ((v8.1.1, v8.1.2.1, v8.1.2.2.1, (IntKind.i64.wrap ((IntKind.i64.wrap ((IntKind.i64.wrap (x.2.1 + (1 : Int))) + (1 : Int))) + (1 : Int))), v8.1.2.2.2.2.1, ()), v8.2.1, v8.2.2.1, ())).set x.2.2.1.toNat ((v10.1.1, v10.1.2.1, v10.1.2.2.1, v10.1.2.2.2.1, (IntKind.i64.wrap ((IntKind.i64.wrap ((IntKind.i64.wrap ((IntKind.i64.wrap (x.2.1 + (1 : Int))) + (1 : Int))) + (1 : Int))) + (1 : Int))), ()), v10.2.1, v10.2.2.1, ())).set x.2.2.1.toNat ((v12.1.1, v12.1.2.1, v12.1.2.2.1, v12.1.2.2.2.1, v12.1.2.2.2.2.1, ()), (IntKind.i64.wrap ((IntKind.i64.wrap ((IntKind.i64.wrap ((IntKind.i64.wrap ((IntKind.i64.wrap (x.2.1 + (1 : Int))) + (1 : Int))) + (1 : Int))) + (1 : Int))) + (1 : Int))), v12.2.2.1, ()))[x.2.2.1.toNat]? with
 | none => none
 | some v14 =>
 some (.inl ((((((((x.1.set x.2.2.1.toNat ((x.2.1, v2.1.2.1, v2.1.2.2.1, v2.1.2.2.2.1, v2.1.2.2.2.2.1, ()), v2.2.1, v2.2.2.1, ())).set x.2.2.1.toNat ((v4.1.1, (IntKind.i64.wrap (x.2.1 + (1 : Int))), v4.1.2.2.1, v4.1.2.2.2.1, v4.1.2.2.2.2.1, ()), v4.2.1, v4.2.2.1, ())).set x.2.2.1.toNat ((v6.1.1, v6.1.2.1, (IntKind.i64.wrap ((IntKind.i64.wrap (x.2.1 + (1 : Int))) + (1 : Int))), v6.1.2.2.2.1, v6.1.2.2.2.2.1, ()), v6.2.1, v6.2.2.1, ())).set x.2.2.1.toNat ((v8.1.1, v8.1.2.1, v8.1.2.2.1, (IntKind.i64.wrap ((IntKind.i64.wrap ((IntKind.i64.wrap (x.2.1 + (1 : Int))) + (1 : Int))) + (1 : Int))), v8.1.2.2.2.2.1, ()), v8.2.1, v8.2.2.1, ())).set x.2.2.1.toNat ((v10.1.1, v10.1.2.1, v10.1.2.2.1, v10.1.2.2.2.1, (IntKind.i64.wrap ((IntKind.i64.wrap ((IntKind.i64.wrap ((IntKind.i64.wrap (x.2.1 + (1 : Int))) + (1 : Int))) + (1 : Int))) + (1 : Int))), ()), v10.2.1, v10.2.2.1, ())).set x.2.2.1.toNat ((v12.1.1, v12.1.2.1, v12.1.2.2.1, v12.1.2.2.2.1, v12.1.2.2.2.2.1, ()), (IntKind.i64.wrap ((IntKind.i64.wrap ((IntKind.i64.wrap ((IntKind.i64.wrap ((IntKind.i64.wrap (x.2.1 + (1 : Int))) + (1 : Int))) + (1 : Int))) + (1 : Int))) + (1 : Int))), v12.2.2.1, ())).set x.2.2.1.toNat ((v14.1.1, v14.1.2.1, v14.1.2.2.1, v14.1.2.2.2.1, v14.1.2.2.2.2.1, ()), v14.2.1, (IntKind.i64.wrap ((IntKind.i64.wrap ((IntKind.i64.wrap ((IntKind.i64.wrap ((IntKind.i64.wrap ((IntKind.i64.wrap (x.2.1 + (1 : Int))) + (1 : Int))) + (1 : Int))) + (1 : Int))) + (1 : Int))) + (1 : Int))), ())), (IntKind.i64.wrap ((IntKind.i64.wrap ((IntKind.i64.wrap ((IntKind.i64.wrap ((IntKind.i64.wrap ((IntKind.i64.wrap ((IntKind.i64.wrap (x.2.1 + (1 : Int))) + (1 : Int))) + (1 : Int))) + (1 : Int))) + (1 : Int))) + (1 : Int))) + (1 : Int))), (IntKind.i64.wrap (x.2.2.1 + (1 : Int))), ()))
| false =>
 some (.inr (.inl (x.1, x.2.1, ())))
noncomputable def l_markMarkS (x : Ty.T (.pair (.own 35 TMark) (.pair (.int .i64) .unit))) : Option (Ty.T (.pair (.int .i64) (.pair (.own 35 TMark) .unit))) :=
match loopL b_l_markMarkS_2 (x.1, x.2.1, (0 : Int), ()) with
| none => none
| some (.inl v15) =>
 some (v15.2.1, v15.1, ())
| some (.inr v17) =>
 none
noncomputable def S_l_markMarkS : Spec := ⟨(.pair (.own 35 TMark) (.pair (.int .i64) .unit)), (.pair (.int .i64) .unit), (.pair (.own 35 TMark) .unit), rfl, l_markMarkS⟩
noncomputable def σ_l_markMarkS : FuncId → Option Spec := sig []
theorem σok_l_markMarkS : ∀ f s, σ_l_markMarkS f = some s → FnOK Try.prog f s := sig_ok (l := []) trivial
noncomputable def Λ_l_markMarkS : Nat → Option LSpec := lkp (loopList (bodyOf Try.f57)) [⟨[0, 1, 5], (.pair (.own 35 TMark) (.pair (.int .i64) (.pair (.int .i64) .unit))), 0, [0, 1], (.pair (.own 35 TMark) (.pair (.int .i64) .unit)), [], .unit, loopL b_l_markMarkS_2⟩]
theorem lok_l_markMarkS_2 (x) : codeK Γ0 E0 σ_l_markMarkS Λ_l_markMarkS Try.f57.ntmps (nthLoop Try.f57 0) (mkF Try.f57.ntmps [0, 1, 5] (.pair (.own 35 TMark) (.pair (.int .i64) (.pair (.int .i64) .unit))) x) (readK σ_l_markMarkS Try.f57.ntmps [0, 1, 5] (.pair (.own 35 TMark) (.pair (.int .i64) (.pair (.int .i64) .unit))) 0 [0, 1] (.pair (.own 35 TMark) (.pair (.int .i64) .unit)) [] .unit) = b_l_markMarkS_2 x := by kernel_rfl
theorem ok_l_markMarkS : FnOK Try.prog 57 S_l_markMarkS := fn_ok (Λ := Λ_l_markMarkS) tab0 σok_l_markMarkS Try.func57 (by kernel_rfl) (show Try.f57.body = some (bodyOf Try.f57) by kernel_rfl) [⟨[0, 1, 5], (.pair (.own 35 TMark) (.pair (.int .i64) (.pair (.int .i64) .unit))), 0, [0, 1], (.pair (.own 35 TMark) (.pair (.int .i64) .unit)), [], .unit, loopL b_l_markMarkS_2⟩] rfl (by kernel_rfl) (by exact ⟨loop_LOK lok_l_markMarkS_2, trivial⟩) (by kernel_rfl)
  fun x y h => (show execFn Γ0 E0 σ_l_markMarkS Λ_l_markMarkS Try.f57 S_l_markMarkS x = l_markMarkS x by kernel_rfl).trans h

noncomputable def l_FnExactStatusCounts (x : Ty.T (.pair (.list TMark) .unit)) : Option (Ty.T (.pair .bool .unit)) :=
match l_szMarkS (x.1, (1048576 : Int), ()) with
| none => none
| some v1 =>
match (decide (v1.1 < (0 : Int))) with
| true =>
 some (true, ())
| false =>
 match l_toMarkS (x.1, ()) with
 | none => none
 | some v2 =>
 match s_StatusCounts (v2.1, ()) with
 | none => none
 | some v3 =>
 match l_toMarkS (x.1, ()) with
 | none => none
 | some v4 =>
 match i_StatusCounts (v4.1, ()) with
 | none => none
 | some v5 =>
 match l_eqInt64S (v5.1, v3.1, ()) with
 | none => none
 | some v6 =>
 match (!v6.1) with
 | true =>
  some (false, ())
 | false =>
  match (v5.2.1 != v3.2.1) with
  | true =>
   some (false, ())
  | false =>
   match l_toMarkS (x.1, ()) with
   | none => none
   | some v7 =>
   match l_eqMarkS (v4.1, v7.1, ()) with
   | none => none
   | some v8 =>
   match (!v8.1) with
   | true =>
    some (false, ())
   | false =>
    match l_markMarkS (v4.1, (1 : Int), ()) with
    | none => none
    | some v9 =>
    match (decide (v9.1 < (0 : Int))) with
    | true =>
     some (false, ())
    | false =>
     match l_eqInt64S (v5.1, v3.1, ()) with
     | none => none
     | some v10 =>
     match (!v10.1) with
     | true =>
      some (false, ())
     | false =>
      match (v5.2.1 != v3.2.1) with
      | true =>
       some (false, ())
      | false =>
       match l_markInt64S (v5.1, (1 : Int), ()) with
       | none => none
       | some v11 =>
       match l_heldInt64S (v11.2.1, (1 : Int), ()) with
       | none => none
       | some v12 =>
       match (decide (v12.1 < (0 : Int))) with
       | true =>
        some (false, ())
       | false =>
        match (v12.1 != v11.1) with
        | true =>
         some (false, ())
        | false =>
         match l_toMarkS (x.1, ()) with
         | none => none
         | some v13 =>
         match i_StatusCounts (v13.1, ()) with
         | none => none
         | some v14 =>
         match l_eqInt64S (v14.1, v3.1, ()) with
         | none => none
         | some v15 =>
         match (!v15.1) with
         | true =>
          some (false, ())
         | false =>
          match (v14.2.1 != v3.2.1) with
          | true =>
           some (false, ())
          | false =>
           match l_heldInt64S (v11.2.1, (1 : Int), ()) with
           | none => none
           | some v16 =>
           match (decide (v16.1 < (0 : Int))) with
           | true =>
            some (false, ())
           | false =>
            match (v16.1 != v11.1) with
            | true =>
             some (false, ())
            | false =>
             some (true, ())
noncomputable def S_l_FnExactStatusCounts : Spec := ⟨(.pair (.list TMark) .unit), (.pair .bool .unit), .unit, rfl, l_FnExactStatusCounts⟩
noncomputable def σ_l_FnExactStatusCounts : FuncId → Option Spec := sig [(26, S_l_eqInt64S), (32, S_l_szMarkS), (34, S_l_toMarkS), (36, S_l_eqMarkS), (44, S_l_markInt64S), (45, S_l_heldInt64S), (55, S_s_StatusCounts), (56, S_i_StatusCounts), (57, S_l_markMarkS)]
theorem σok_l_FnExactStatusCounts : ∀ f s, σ_l_FnExactStatusCounts f = some s → FnOK Try.prog f s := sig_ok (l := [(26, S_l_eqInt64S), (32, S_l_szMarkS), (34, S_l_toMarkS), (36, S_l_eqMarkS), (44, S_l_markInt64S), (45, S_l_heldInt64S), (55, S_s_StatusCounts), (56, S_i_StatusCounts), (57, S_l_markMarkS)]) ⟨ok_l_eqInt64S, ok_l_szMarkS, ok_l_toMarkS, ok_l_eqMarkS, ok_l_markInt64S, ok_l_heldInt64S, ok_s_StatusCounts, ok_i_StatusCounts, ok_l_markMarkS, trivial⟩
noncomputable def Λ_l_FnExactStatusCounts : Nat → Option LSpec := lkp (loopList (bodyOf Try.f14)) []
theorem ok_l_FnExactStatusCounts : FnOK Try.prog 14 S_l_FnExactStatusCounts := fn_ok (Λ := Λ_l_FnExactStatusCounts) tab0 σok_l_FnExactStatusCounts Try.func14 (by kernel_rfl) (show Try.f14.body = some (bodyOf Try.f14) by kernel_rfl) [] rfl (by kernel_rfl) (by exact trivial) (by kernel_rfl)
  fun x y h => (show execFn Γ0 E0 σ_l_FnExactStatusCounts Λ_l_FnExactStatusCounts Try.f14 S_l_FnExactStatusCounts x = l_FnExactStatusCounts x by kernel_rfl).trans h

end Go.Proofs.Yteldmddnmhmecaa
