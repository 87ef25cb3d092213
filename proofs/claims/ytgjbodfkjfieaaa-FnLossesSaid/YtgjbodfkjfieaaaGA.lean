/- What the functions of the claim do, on data; written by the program gen.py. -/
import Derived.Test.YtgjbodfkjfieaaaLoop
import Derived.Test.YtgjbodfkjfieaaaProg
import Derived.KernelRfl
namespace Go.Proofs.Ytgjbodfkjfieaaa
open Go.RowKit
set_option linter.unusedVariables false

def bodyOf (f : Func) : Code := match f.body with | some c => c | none => .skip
def nthLoop (f : Func) (i : Nat) : Code := (loopList (bodyOf f)).getD i .skip
abbrev TerrorAddressString : Ty := (.pair .str (.pair (.int .u64) .unit))
abbrev TState : Ty := (.pair (.int .i64) (.pair (.int .i64) (.pair (.int .i64) (.pair (.int .i64) (.pair (.int .i64) .unit)))))
abbrev TMark : Ty := (.pair TState (.pair (.int .i64) (.pair (.int .i64) .unit)))
abbrev TStarter : Ty := (.pair (.int .i64) (.pair (.int .i64) (.pair (.int .i64) (.pair (.int .i64) .unit))))
abbrev TFrame : Ty := (.pair (.int .i64) (.pair (.int .i64) (.pair TState (.pair (.list (.int .i64)) .unit))))
abbrev TVerdict : Ty := (.pair (.int .i64) (.pair TFrame .unit))
abbrev Tl01Source : Ty := (.pair (.list (.int .u8)) (.pair (.int .i64) (.pair (.int .i64) .unit)))
abbrev TboundsError : Ty := (.pair (.int .i64) (.pair (.int .i64) (.pair .bool (.pair (.int .u8) .unit))))
def Γ0 : Tab := [(2, (.int .i64)), (3, (.int .i64)), (4, .bool), (5, (.int .u8)), (22, (.list TStarter)), (24, (.list TStarter)), (31, (.list (.int .i64))), (39, (.list (.int .u8))), (41, (.list TMark)), (49, TState), (51, TMark), (57, TStarter), (59, (.list TVerdict)), (62, (.list TVerdict)), (67, TFrame), (69, TVerdict), (76, TState), (78, TFrame), (80, TVerdict), (86, TStarter), (93, (.list (.int .i64))), (120, (.list (.list TStarter))), (124, Tl01Source), (140, (.int .u64))]
def E0 : Elems := [(22, 86), (24, 57), (31, 2), (39, 5), (41, 51), (59, 80), (62, 69), (93, 3), (120, 24)]
theorem tab0 : tabB Try.prog Γ0 E0 = true := by kernel_rfl

noncomputable def l_szStarterS (x : Ty.T (.pair (.list TStarter) (.pair (.int .i64) .unit))) : Option (Ty.T (.pair (.int .i64) .unit)) :=
match (decide ((IntKind.i64.wrap (x.2.1 - (x.1.length : Int))) < (0 : Int))) with
| true =>
 some ((-1 : Int), ())
| false =>
 some ((IntKind.i64.wrap (x.2.1 - (x.1.length : Int))), ())
noncomputable def S_l_szStarterS : Spec := ⟨(.pair (.list TStarter) (.pair (.int .i64) .unit)), (.pair (.int .i64) .unit), .unit, rfl, l_szStarterS⟩
noncomputable def σ_l_szStarterS : FuncId → Option Spec := sig []
theorem σok_l_szStarterS : ∀ f s, σ_l_szStarterS f = some s → FnOK Try.prog f s := sig_ok (l := []) trivial
noncomputable def Λ_l_szStarterS : Nat → Option LSpec := lkp (loopList (bodyOf Try.f15)) []
theorem ok_l_szStarterS : FnOK Try.prog 15 S_l_szStarterS := fn_ok (Λ := Λ_l_szStarterS) tab0 σok_l_szStarterS Try.func15 (by kernel_rfl) (show Try.f15.body = some (bodyOf Try.f15) by kernel_rfl) [] rfl (by kernel_rfl) (by exact trivial) (by kernel_rfl)
  fun x y h => (show execFn Γ0 E0 σ_l_szStarterS Λ_l_szStarterS Try.f15 S_l_szStarterS x = l_szStarterS x by kernel_rfl).trans h

noncomputable def s_l01In (x : Ty.T (.pair (.int .i64) (.pair (.int .i64) (.pair (.int .i64) .unit)))) : Option (Ty.T (.pair .bool .unit)) :=
match (decide (x.1 ≥ x.2.1)) with
| true =>
 some ((decide (x.1 ≤ x.2.2.1)), ())
| false =>
 some (false, ())
noncomputable def S_s_l01In : Spec := ⟨(.pair (.int .i64) (.pair (.int .i64) (.pair (.int .i64) .unit))), (.pair .bool .unit), .unit, rfl, s_l01In⟩
noncomputable def σ_s_l01In : FuncId → Option Spec := sig []
theorem σok_s_l01In : ∀ f s, σ_s_l01In f = some s → FnOK Try.prog f s := sig_ok (l := []) trivial
noncomputable def Λ_s_l01In : Nat → Option LSpec := lkp (loopList (bodyOf Try.f86)) []
theorem ok_s_l01In : FnOK Try.prog 86 S_s_l01In := fn_ok (Λ := Λ_s_l01In) tab0 σok_s_l01In Try.func86 (by kernel_rfl) (show Try.f86.body = some (bodyOf Try.f86) by kernel_rfl) [] rfl (by kernel_rfl) (by exact trivial) (by kernel_rfl)
  fun x y h => (show execFn Γ0 E0 σ_s_l01In Λ_s_l01In Try.f86 S_s_l01In x = s_l01In x by kernel_rfl).trans h

noncomputable def s_l05Node (x : Ty.T (.pair (.int .i64) .unit)) : Option (Ty.T (.pair .bool .unit)) :=
match s_l01In (x.1, (0 : Int), (31 : Int), ()) with
| none => none
| some v1 =>
some (v1.1, ())
noncomputable def S_s_l05Node : Spec := ⟨(.pair (.int .i64) .unit), (.pair .bool .unit), .unit, rfl, s_l05Node⟩
noncomputable def σ_s_l05Node : FuncId → Option Spec := sig [(86, S_s_l01In)]
theorem σok_s_l05Node : ∀ f s, σ_s_l05Node f = some s → FnOK Try.prog f s := sig_ok (l := [(86, S_s_l01In)]) ⟨ok_s_l01In, trivial⟩
noncomputable def Λ_s_l05Node : Nat → Option LSpec := lkp (loopList (bodyOf Try.f94)) []
theorem ok_s_l05Node : FnOK Try.prog 94 S_s_l05Node := fn_ok (Λ := Λ_s_l05Node) tab0 σok_s_l05Node Try.func94 (by kernel_rfl) (show Try.f94.body = some (bodyOf Try.f94) by kernel_rfl) [] rfl (by kernel_rfl) (by exact trivial) (by kernel_rfl)
  fun x y h => (show execFn Γ0 E0 σ_s_l05Node Λ_s_l05Node Try.f94 S_s_l05Node x = s_l05Node x by kernel_rfl).trans h

noncomputable def b_s_AreStarters_8 (x : (Ty.T (.pair (.list TStarter) (.pair (.int .i64) (.pair (.box TStarter) (.pair (.int .i64) .unit)))))) : Option ((Ty.T (.pair (.list TStarter) (.pair (.int .i64) (.pair (.box TStarter) (.pair (.int .i64) .unit))))) ⊕ ((Ty.T (.pair (.list TStarter) (.pair (.int .i64) .unit))) ⊕ (Ty.T (.pair .bool .unit)))) :=
match (decide (x.2.2.2.1 < x.2.1)) with
| true =>
 onSome (idx x.1 x.2.2.2.1) fun v6 =>
 match (v6.1 == x.2.2.1.1) with
 | true =>
  some (.inr (.inr (false, ())))
 | false =>
  onSome (idx x.1 x.2.2.2.1) fun v7 =>
  match (v7.2.2.2.1 == x.2.2.1.2.2.2.1) with
  | true =>
   some (.inr (.inr (false, ())))
  | false =>
   some (.inl (x.1, x.2.1, (x.2.2.1.1, x.2.2.1.2.1, x.2.2.1.2.2.1, x.2.2.1.2.2.2.1, ()), (IntKind.i64.wrap (x.2.2.2.1 + (1 : Int))), ()))
| false =>
 some (.inr (.inl (x.1, x.2.1, ())))
noncomputable def b_s_AreStarters_2 (x : (Ty.T (.pair (.list TStarter) (.pair (.int .i64) .unit)))) : Option ((Ty.T (.pair (.list TStarter) (.pair (.int .i64) .unit))) ⊕ ((Ty.T (.pair (.list TStarter) .unit)) ⊕ (Ty.T (.pair .bool .unit)))) :=
match (decide (x.2.1 < (x.1.length : Int))) with
| true =>
 onSome (idx x.1 x.2.1) fun v1 =>
 match s_l05Node (v1.1, ()) with
 | none => none
 | some v2 =>
 match (!v2.1) with
 | true =>
  some (.inr (.inr (false, ())))
 | false =>
  match s_l01In (v1.2.1, (0 : Int), (100000 : Int), ()) with
  | none => none
  | some v3 =>
  match (!v3.1) with
  | true =>
   some (.inr (.inr (false, ())))
  | false =>
   match s_l01In (v1.2.2.1, (1 : Int), (100000 : Int), ()) with
   | none => none
   | some v4 =>
   match (!v4.1) with
   | true =>
    some (.inr (.inr (false, ())))
   | false =>
    match s_l01In (v1.2.2.2.1, (1 : Int), (100000 : Int), ()) with
    | none => none
    | some v5 =>
    match (!v5.1) with
    | true =>
     some (.inr (.inr (false, ())))
    | false =>
     match loopL b_s_AreStarters_8 (x.1, x.2.1, (v1.1, v1.2.1, v1.2.2.1, v1.2.2.2.1, ()), (0 : Int), ()) with
     | none => none
     | some (.inl v6) =>
      some (.inl (v6.1, (IntKind.i64.wrap (v6.2.1 + (1 : Int))), ()))
     | some (.inr v7) =>
      some (.inr (.inr (v7.1, ())))
| false =>
 some (.inr (.inl (x.1, ())))
noncomputable def s_AreStarters (x : Ty.T (.pair (.list TStarter) .unit)) : Option (Ty.T (.pair .bool .unit)) :=
match loopL b_s_AreStarters_2 (x.1, (0 : Int), ()) with
| none => none
| some (.inl v8) =>
 match s_l01In ((v8.1.length : Int), (1 : Int), (32 : Int), ()) with
 | none => none
 | some v10 =>
 some (v10.1, ())
| some (.inr v9) =>
 some (v9.1, ())
noncomputable def S_s_AreStarters : Spec := ⟨(.pair (.list TStarter) .unit), (.pair .bool .unit), .unit, rfl, s_AreStarters⟩
noncomputable def σ_s_AreStarters : FuncId → Option Spec := sig [(86, S_s_l01In), (94, S_s_l05Node)]
theorem σok_s_AreStarters : ∀ f s, σ_s_AreStarters f = some s → FnOK Try.prog f s := sig_ok (l := [(86, S_s_l01In), (94, S_s_l05Node)]) ⟨ok_s_l01In, ok_s_l05Node, trivial⟩
noncomputable def Λ_s_AreStarters : Nat → Option LSpec := lkp (loopList (bodyOf Try.f45)) [⟨[0, 3], (.pair (.list TStarter) (.pair (.int .i64) .unit)), 0, [0], (.pair (.list TStarter) .unit), [2], (.pair .bool .unit), loopL b_s_AreStarters_2⟩, ⟨[0, 3, 4, 5], (.pair (.list TStarter) (.pair (.int .i64) (.pair (.box TStarter) (.pair (.int .i64) .unit)))), 2, [0, 3], (.pair (.list TStarter) (.pair (.int .i64) .unit)), [2], (.pair .bool .unit), loopL b_s_AreStarters_8⟩]
theorem lok_s_AreStarters_2 (x) : codeK Γ0 E0 σ_s_AreStarters Λ_s_AreStarters Try.f45.ntmps (nthLoop Try.f45 0) (mkF Try.f45.ntmps [0, 3] (.pair (.list TStarter) (.pair (.int .i64) .unit)) x) (readK σ_s_AreStarters Try.f45.ntmps [0, 3] (.pair (.list TStarter) (.pair (.int .i64) .unit)) 0 [0] (.pair (.list TStarter) .unit) [2] (.pair .bool .unit)) = b_s_AreStarters_2 x := by kernel_rfl
theorem lok_s_AreStarters_8 (x) : codeK Γ0 E0 σ_s_AreStarters Λ_s_AreStarters Try.f45.ntmps (nthLoop Try.f45 1) (mkF Try.f45.ntmps [0, 3, 4, 5] (.pair (.list TStarter) (.pair (.int .i64) (.pair (.box TStarter) (.pair (.int .i64) .unit)))) x) (readK σ_s_AreStarters Try.f45.ntmps [0, 3, 4, 5] (.pair (.list TStarter) (.pair (.int .i64) (.pair (.box TStarter) (.pair (.int .i64) .unit)))) 2 [0, 3] (.pair (.list TStarter) (.pair (.int .i64) .unit)) [2] (.pair .bool .unit)) = b_s_AreStarters_8 x := by kernel_rfl
theorem ok_s_AreStarters : FnOK Try.prog 45 S_s_AreStarters := fn_ok (Λ := Λ_s_AreStarters) tab0 σok_s_AreStarters Try.func45 (by kernel_rfl) (show Try.f45.body = some (bodyOf Try.f45) by kernel_rfl) [⟨[0, 3], (.pair (.list TStarter) (.pair (.int .i64) .unit)), 0, [0], (.pair (.list TStarter) .unit), [2], (.pair .bool .unit), loopL b_s_AreStarters_2⟩, ⟨[0, 3, 4, 5], (.pair (.list TStarter) (.pair (.int .i64) (.pair (.box TStarter) (.pair (.int .i64) .unit)))), 2, [0, 3], (.pair (.list TStarter) (.pair (.int .i64) .unit)), [2], (.pair .bool .unit), loopL b_s_AreStarters_8⟩] rfl (by kernel_rfl) (by exact ⟨loop_LOK lok_s_AreStarters_2, loop_LOK lok_s_AreStarters_8, trivial⟩) (by kernel_rfl)
  fun x y h => (show execFn Γ0 E0 σ_s_AreStarters Λ_s_AreStarters Try.f45 S_s_AreStarters x = s_AreStarters x by kernel_rfl).trans h

noncomputable def b_s_WithoutStarter_5 (x : (Ty.T (.pair (.list TStarter) (.pair (.int .i64) (.pair (.own 57 TStarter) (.pair (.int .i64) .unit)))))) : Option ((Ty.T (.pair (.list TStarter) (.pair (.int .i64) (.pair (.own 57 TStarter) (.pair (.int .i64) .unit))))) ⊕ ((Ty.T (.pair (.list TStarter) (.pair (.own 57 TStarter) .unit))) ⊕ (Ty.T .unit))) :=
match (decide (x.2.2.2.1 < (x.1.length : Int))) with
| true =>
 onSome (idx x.1 x.2.2.2.1) fun v2 =>
 match (v2.1 != x.2.1) with
 | true =>
  onSome (idx x.1 x.2.2.2.1) fun v3 =>
  room (x.2.2.1.length + [v3].length) (
   some (.inl (x.1, x.2.1, (x.2.2.1 ++ [v3]), (IntKind.i64.wrap (x.2.2.2.1 + (1 : Int))), ())))
 | false =>
  some (.inl (x.1, x.2.1, x.2.2.1, (IntKind.i64.wrap (x.2.2.2.1 + (1 : Int))), ()))
| false =>
 some (.inr (.inl (x.1, x.2.2.1, ())))
noncomputable def s_WithoutStarter (x : Ty.T (.pair (.list TStarter) (.pair (.int .i64) .unit))) : Option (Ty.T (.pair (.own 57 TStarter) (.pair (.int .i64) .unit))) :=
match s_AreStarters (x.1, ()) with
| none => none
| some v1 =>
match (!v1.1) with
| true =>
 some ([], (1 : Int), ())
| false =>
 match loopL b_s_WithoutStarter_5 (x.1, x.2.1, [], (0 : Int), ()) with
 | none => none
 | some (.inl v4) =>
  match ((v4.2.1.length : Int) == (v4.1.length : Int)) with
  | true =>
   some ([], (4 : Int), ())
  | false =>
   match ((v4.2.1.length : Int) == (0 : Int)) with
   | true =>
    some ([], (5 : Int), ())
   | false =>
    some (v4.2.1, (0 : Int), ())
 | some (.inr v6) =>
  none
noncomputable def S_s_WithoutStarter : Spec := ⟨(.pair (.list TStarter) (.pair (.int .i64) .unit)), (.pair (.own 57 TStarter) (.pair (.int .i64) .unit)), .unit, rfl, s_WithoutStarter⟩
noncomputable def σ_s_WithoutStarter : FuncId → Option Spec := sig [(45, S_s_AreStarters)]
theorem σok_s_WithoutStarter : ∀ f s, σ_s_WithoutStarter f = some s → FnOK Try.prog f s := sig_ok (l := [(45, S_s_AreStarters)]) ⟨ok_s_AreStarters, trivial⟩
noncomputable def Λ_s_WithoutStarter : Nat → Option LSpec := lkp (loopList (bodyOf Try.f16)) [⟨[0, 1, 6, 7], (.pair (.list TStarter) (.pair (.int .i64) (.pair (.own 57 TStarter) (.pair (.int .i64) .unit)))), 0, [0, 6], (.pair (.list TStarter) (.pair (.own 57 TStarter) .unit)), [], .unit, loopL b_s_WithoutStarter_5⟩]
theorem lok_s_WithoutStarter_5 (x) : codeK Γ0 E0 σ_s_WithoutStarter Λ_s_WithoutStarter Try.f16.ntmps (nthLoop Try.f16 0) (mkF Try.f16.ntmps [0, 1, 6, 7] (.pair (.list TStarter) (.pair (.int .i64) (.pair (.own 57 TStarter) (.pair (.int .i64) .unit)))) x) (readK σ_s_WithoutStarter Try.f16.ntmps [0, 1, 6, 7] (.pair (.list TStarter) (.pair (.int .i64) (.pair (.own 57 TStarter) (.pair (.int .i64) .unit)))) 0 [0, 6] (.pair (.list TStarter) (.pair (.own 57 TStarter) .unit)) [] .unit) = b_s_WithoutStarter_5 x := by kernel_rfl
theorem ok_s_WithoutStarter : FnOK Try.prog 16 S_s_WithoutStarter := fn_ok (Λ := Λ_s_WithoutStarter) tab0 σok_s_WithoutStarter Try.func16 (by kernel_rfl) (show Try.f16.body = some (bodyOf Try.f16) by kernel_rfl) [⟨[0, 1, 6, 7], (.pair (.list TStarter) (.pair (.int .i64) (.pair (.own 57 TStarter) (.pair (.int .i64) .unit)))), 0, [0, 6], (.pair (.list TStarter) (.pair (.own 57 TStarter) .unit)), [], .unit, loopL b_s_WithoutStarter_5⟩] rfl (by kernel_rfl) (by exact ⟨loop_LOK lok_s_WithoutStarter_5, trivial⟩) (by kernel_rfl)
  fun x y h => (show execFn Γ0 E0 σ_s_WithoutStarter Λ_s_WithoutStarter Try.f16 S_s_WithoutStarter x = s_WithoutStarter x by kernel_rfl).trans h

noncomputable def l_toStarter (x : Ty.T (.pair TStarter .unit)) : Option (Ty.T (.pair TStarter .unit)) :=
some ((x.1.1, x.1.2.1, x.1.2.2.1, x.1.2.2.2.1, ()), ())
noncomputable def S_l_toStarter : Spec := ⟨(.pair TStarter .unit), (.pair TStarter .unit), .unit, rfl, l_toStarter⟩
noncomputable def σ_l_toStarter : FuncId → Option Spec := sig []
theorem σok_l_toStarter : ∀ f s, σ_l_toStarter f = some s → FnOK Try.prog f s := sig_ok (l := []) trivial
noncomputable def Λ_l_toStarter : Nat → Option LSpec := lkp (loopList (bodyOf Try.f67)) []
theorem ok_l_toStarter : FnOK Try.prog 67 S_l_toStarter := fn_ok (Λ := Λ_l_toStarter) tab0 σok_l_toStarter Try.func67 (by kernel_rfl) (show Try.f67.body = some (bodyOf Try.f67) by kernel_rfl) [] rfl (by kernel_rfl) (by exact trivial) (by kernel_rfl)
  fun x y h => (show execFn Γ0 E0 σ_l_toStarter Λ_l_toStarter Try.f67 S_l_toStarter x = l_toStarter x by kernel_rfl).trans h

noncomputable def b_l_toStarterS_3 (x : (Ty.T (.pair (.list TStarter) (.pair (.own 57 TStarter) (.pair (.int .i64) .unit))))) : Option ((Ty.T (.pair (.list TStarter) (.pair (.own 57 TStarter) (.pair (.int .i64) .unit)))) ⊕ ((Ty.T (.pair (.own 57 TStarter) .unit)) ⊕ (Ty.T .unit))) :=
match (decide (x.2.2.1 < (x.1.length : Int))) with
| true =>
 onSome (idx x.1 x.2.2.1) fun v1 =>
 match l_toStarter (v1, ()) with
 | none => none
 | some v2 =>
 onSome (idx x.2.1 x.2.2.1) fun _ =>
 match x.2.1[x.2.2.1.toNat]? with
 | none => none
 | some v4 =>
 some (.inl (x.1, (x.2.1.set x.2.2.1.toNat (v2.1.1, v2.1.2.1, v2.1.2.2.1, v2.1.2.2.2.1, ())), (IntKind.i64.wrap (x.2.2.1 + (1 : Int))), ()))
| false =>
 some (.inr (.inl (x.2.1, ())))
noncomputable def l_toStarterS (x : Ty.T (.pair (.list TStarter) .unit)) : Option (Ty.T (.pair (.own 57 TStarter) .unit)) :=
if 0 ≤ (x.1.length : Int) ∧ (x.1.length : Int) ≤ (x.1.length : Int) then
 room ((x.1.length : Int).toNat) (
  match loopL b_l_toStarterS_3 (x.1, (List.replicate (x.1.length : Int).toNat ((0 : Int), (0 : Int), (0 : Int), (0 : Int), ())), (0 : Int), ()) with
  | none => none
  | some (.inl v5) =>
   some (v5.1, ())
  | some (.inr v7) =>
   none)
else none
noncomputable def S_l_toStarterS : Spec := ⟨(.pair (.list TStarter) .unit), (.pair (.own 57 TStarter) .unit), .unit, rfl, l_toStarterS⟩
noncomputable def σ_l_toStarterS : FuncId → Option Spec := sig [(67, S_l_toStarter)]
theorem σok_l_toStarterS : ∀ f s, σ_l_toStarterS f = some s → FnOK Try.prog f s := sig_ok (l := [(67, S_l_toStarter)]) ⟨ok_l_toStarter, trivial⟩
noncomputable def Λ_l_toStarterS : Nat → Option LSpec := lkp (loopList (bodyOf Try.f17)) [⟨[0, 3, 4], (.pair (.list TStarter) (.pair (.own 57 TStarter) (.pair (.int .i64) .unit))), 0, [3], (.pair (.own 57 TStarter) .unit), [], .unit, loopL b_l_toStarterS_3⟩]
theorem lok_l_toStarterS_3 (x) : codeK Γ0 E0 σ_l_toStarterS Λ_l_toStarterS Try.f17.ntmps (nthLoop Try.f17 0) (mkF Try.f17.ntmps [0, 3, 4] (.pair (.list TStarter) (.pair (.own 57 TStarter) (.pair (.int .i64) .unit))) x) (readK σ_l_toStarterS Try.f17.ntmps [0, 3, 4] (.pair (.list TStarter) (.pair (.own 57 TStarter) (.pair (.int .i64) .unit))) 0 [3] (.pair (.own 57 TStarter) .unit) [] .unit) = b_l_toStarterS_3 x := by kernel_rfl
theorem ok_l_toStarterS : FnOK Try.prog 17 S_l_toStarterS := fn_ok (Λ := Λ_l_toStarterS) tab0 σok_l_toStarterS Try.func17 (by kernel_rfl) (show Try.f17.body = some (bodyOf Try.f17) by kernel_rfl) [⟨[0, 3, 4], (.pair (.list TStarter) (.pair (.own 57 TStarter) (.pair (.int .i64) .unit))), 0, [3], (.pair (.own 57 TStarter) .unit), [], .unit, loopL b_l_toStarterS_3⟩] rfl (by kernel_rfl) (by exact ⟨loop_LOK lok_l_toStarterS_3, trivial⟩) (by kernel_rfl)
  fun x y h => (show execFn Γ0 E0 σ_l_toStarterS Λ_l_toStarterS Try.f17 S_l_toStarterS x = l_toStarterS x by kernel_rfl).trans h

noncomputable def i_within (x : Ty.T (.pair (.int .i64) (.pair (.int .i64) (.pair (.int .i64) .unit)))) : Option (Ty.T (.pair .bool .unit)) :=
match (decide (x.1 ≥ x.2.1)) with
| true =>
 some ((decide (x.1 ≤ x.2.2.1)), ())
| false =>
 some (false, ())
noncomputable def S_i_within : Spec := ⟨(.pair (.int .i64) (.pair (.int .i64) (.pair (.int .i64) .unit))), (.pair .bool .unit), .unit, rfl, i_within⟩
noncomputable def σ_i_within : FuncId → Option Spec := sig []
theorem σok_i_within : ∀ f s, σ_i_within f = some s → FnOK Try.prog f s := sig_ok (l := []) trivial
noncomputable def Λ_i_within : Nat → Option LSpec := lkp (loopList (bodyOf Try.f88)) []
theorem ok_i_within : FnOK Try.prog 88 S_i_within := fn_ok (Λ := Λ_i_within) tab0 σok_i_within Try.func88 (by kernel_rfl) (show Try.f88.body = some (bodyOf Try.f88) by kernel_rfl) [] rfl (by kernel_rfl) (by exact trivial) (by kernel_rfl)
  fun x y h => (show execFn Γ0 E0 σ_i_within Λ_i_within Try.f88 S_i_within x = i_within x by kernel_rfl).trans h

noncomputable def i_isNode (x : Ty.T (.pair (.int .i64) .unit)) : Option (Ty.T (.pair .bool .unit)) :=
match i_within (x.1, (0 : Int), (31 : Int), ()) with
| none => none
| some v1 =>
some (v1.1, ())
noncomputable def S_i_isNode : Spec := ⟨(.pair (.int .i64) .unit), (.pair .bool .unit), .unit, rfl, i_isNode⟩
noncomputable def σ_i_isNode : FuncId → Option Spec := sig [(88, S_i_within)]
theorem σok_i_isNode : ∀ f s, σ_i_isNode f = some s → FnOK Try.prog f s := sig_ok (l := [(88, S_i_within)]) ⟨ok_i_within, trivial⟩
noncomputable def Λ_i_isNode : Nat → Option LSpec := lkp (loopList (bodyOf Try.f91)) []
theorem ok_i_isNode : FnOK Try.prog 91 S_i_isNode := fn_ok (Λ := Λ_i_isNode) tab0 σok_i_isNode Try.func91 (by kernel_rfl) (show Try.f91.body = some (bodyOf Try.f91) by kernel_rfl) [] rfl (by kernel_rfl) (by exact trivial) (by kernel_rfl)
  fun x y h => (show execFn Γ0 E0 σ_i_isNode Λ_i_isNode Try.f91 S_i_isNode x = i_isNode x by kernel_rfl).trans h

noncomputable def b_slices_IndexFunc_Starter_2 (x : (Ty.T (.pair (.list TStarter) (.pair (.fn (.pair TStarter .unit) (.pair .bool .unit)) (.pair (.int .i64) (.pair (.int .i64) .unit)))))) : Option ((Ty.T (.pair (.list TStarter) (.pair (.fn (.pair TStarter .unit) (.pair .bool .unit)) (.pair (.int .i64) (.pair (.int .i64) .unit))))) ⊕ ((Ty.T .unit) ⊕ (Ty.T (.pair (.int .i64) .unit)))) :=
match (decide (x.2.2.2.1 < x.2.2.1)) with
| true =>
 onSome (idx x.1 x.2.2.2.1) fun v1 =>
 match x.2.1 (v1, ()) with
 | none => none
 | some v2 =>
 match v2.1 with
 | true =>
  some (.inr (.inr (x.2.2.2.1, ())))
 | false =>
  some (.inl (x.1, x.2.1, x.2.2.1, (IntKind.i64.wrap (x.2.2.2.1 + (1 : Int))), ()))
| false =>
 some (.inr (.inl (())))
noncomputable def slices_IndexFunc_Starter (x : Ty.T (.pair (.list TStarter) (.pair (.fn (.pair TStarter .unit) (.pair .bool .unit)) .unit))) : Option (Ty.T (.pair (.int .i64) .unit)) :=
match loopL b_slices_IndexFunc_Starter_2 (x.1, x.2.1, (x.1.length : Int), (0 : Int), ()) with
| none => none
| some (.inl v3) =>
 some ((-1 : Int), ())
| some (.inr v4) =>
 some (v4.1, ())
noncomputable def S_slices_IndexFunc_Starter : Spec := ⟨(.pair (.list TStarter) (.pair (.fn (.pair TStarter .unit) (.pair .bool .unit)) .unit)), (.pair (.int .i64) .unit), .unit, rfl, slices_IndexFunc_Starter⟩
noncomputable def σ_slices_IndexFunc_Starter : FuncId → Option Spec := sig []
theorem σok_slices_IndexFunc_Starter : ∀ f s, σ_slices_IndexFunc_Starter f = some s → FnOK Try.prog f s := sig_ok (l := []) trivial
noncomputable def Λ_slices_IndexFunc_Starter : Nat → Option LSpec := lkp (loopList (bodyOf Try.f68)) [⟨[0, 1, 7, 8], (.pair (.list TStarter) (.pair (.fn (.pair TStarter .unit) (.pair .bool .unit)) (.pair (.int .i64) (.pair (.int .i64) .unit)))), 0, [], .unit, [4], (.pair (.int .i64) .unit), loopL b_slices_IndexFunc_Starter_2⟩]
theorem lok_slices_IndexFunc_Starter_2 (x) : codeK Γ0 E0 σ_slices_IndexFunc_Starter Λ_slices_IndexFunc_Starter Try.f68.ntmps (nthLoop Try.f68 0) (mkF Try.f68.ntmps [0, 1, 7, 8] (.pair (.list TStarter) (.pair (.fn (.pair TStarter .unit) (.pair .bool .unit)) (.pair (.int .i64) (.pair (.int .i64) .unit)))) x) (readK σ_slices_IndexFunc_Starter Try.f68.ntmps [0, 1, 7, 8] (.pair (.list TStarter) (.pair (.fn (.pair TStarter .unit) (.pair .bool .unit)) (.pair (.int .i64) (.pair (.int .i64) .unit)))) 0 [] .unit [4] (.pair (.int .i64) .unit)) = b_slices_IndexFunc_Starter_2 x := by kernel_rfl
theorem ok_slices_IndexFunc_Starter : FnOK Try.prog 68 S_slices_IndexFunc_Starter := fn_ok (Λ := Λ_slices_IndexFunc_Starter) tab0 σok_slices_IndexFunc_Starter Try.func68 (by kernel_rfl) (show Try.f68.body = some (bodyOf Try.f68) by kernel_rfl) [⟨[0, 1, 7, 8], (.pair (.list TStarter) (.pair (.fn (.pair TStarter .unit) (.pair .bool .unit)) (.pair (.int .i64) (.pair (.int .i64) .unit)))), 0, [], .unit, [4], (.pair (.int .i64) .unit), loopL b_slices_IndexFunc_Starter_2⟩] rfl (by kernel_rfl) (by exact ⟨loop_LOK lok_slices_IndexFunc_Starter_2, trivial⟩) (by kernel_rfl)
  fun x y h => (show execFn Γ0 E0 σ_slices_IndexFunc_Starter Λ_slices_IndexFunc_Starter Try.f68 S_slices_IndexFunc_Starter x = slices_IndexFunc_Starter x by kernel_rfl).trans h

noncomputable def slices_ContainsFunc_Starter (x : Ty.T (.pair (.list TStarter) (.pair (.fn (.pair TStarter .unit) (.pair .bool .unit)) .unit))) : Option (Ty.T (.pair .bool .unit)) :=
match slices_IndexFunc_Starter (x.1, x.2.1, ()) with
| none => none
| some v1 =>
some ((decide (v1.1 ≥ (0 : Int))), ())
noncomputable def S_slices_ContainsFunc_Starter : Spec := ⟨(.pair (.list TStarter) (.pair (.fn (.pair TStarter .unit) (.pair .bool .unit)) .unit)), (.pair .bool .unit), .unit, rfl, slices_ContainsFunc_Starter⟩
noncomputable def σ_slices_ContainsFunc_Starter : FuncId → Option Spec := sig [(68, S_slices_IndexFunc_Starter)]
theorem σok_slices_ContainsFunc_Starter : ∀ f s, σ_slices_ContainsFunc_Starter f = some s → FnOK Try.prog f s := sig_ok (l := [(68, S_slices_IndexFunc_Starter)]) ⟨ok_slices_IndexFunc_Starter, trivial⟩
noncomputable def Λ_slices_ContainsFunc_Starter : Nat → Option LSpec := lkp (loopList (bodyOf Try.f92)) []
theorem ok_slices_ContainsFunc_Starter : FnOK Try.prog 92 S_slices_ContainsFunc_Starter := fn_ok (Λ := Λ_slices_ContainsFunc_Starter) tab0 σok_slices_ContainsFunc_Starter Try.func92 (by kernel_rfl) (show Try.f92.body = some (bodyOf Try.f92) by kernel_rfl) [] rfl (by kernel_rfl) (by exact trivial) (by kernel_rfl)
  fun x y h => (show execFn Γ0 E0 σ_slices_ContainsFunc_Starter Λ_slices_ContainsFunc_Starter Try.f92 S_slices_ContainsFunc_Starter x = slices_ContainsFunc_Starter x by kernel_rfl).trans h

noncomputable def i_AreStarters_1 (x : Ty.T (.pair TStarter (.pair (.ptr TStarter) .unit))) : Option (Ty.T (.pair .bool .unit)) :=
match (x.1.1 == x.2.1.1) with
| true =>
 some (true, ())
| false =>
 some ((x.1.2.2.2.1 == x.2.1.2.2.2.1), ())
noncomputable def S_i_AreStarters_1 : Spec := ⟨(.pair TStarter (.pair (.ptr TStarter) .unit)), (.pair .bool .unit), .unit, rfl, i_AreStarters_1⟩
noncomputable def σ_i_AreStarters_1 : FuncId → Option Spec := sig []
theorem σok_i_AreStarters_1 : ∀ f s, σ_i_AreStarters_1 f = some s → FnOK Try.prog f s := sig_ok (l := []) trivial
noncomputable def Λ_i_AreStarters_1 : Nat → Option LSpec := lkp (loopList (bodyOf Try.f93)) []
theorem ok_i_AreStarters_1 : FnOK Try.prog 93 S_i_AreStarters_1 := fn_ok (Λ := Λ_i_AreStarters_1) tab0 σok_i_AreStarters_1 Try.func93 (by kernel_rfl) (show Try.f93.body = some (bodyOf Try.f93) by kernel_rfl) [] rfl (by kernel_rfl) (by exact trivial) (by kernel_rfl)
  fun x y h => (show execFn Γ0 E0 σ_i_AreStarters_1 Λ_i_AreStarters_1 Try.f93 S_i_AreStarters_1 x = i_AreStarters_1 x by kernel_rfl).trans h

noncomputable def b_i_AreStarters_2 (x : (Ty.T (.pair (.list TStarter) (.pair (.list TStarter) (.pair (.int .i64) (.pair (.int .i64) .unit)))))) : Option ((Ty.T (.pair (.list TStarter) (.pair (.list TStarter) (.pair (.int .i64) (.pair (.int .i64) .unit))))) ⊕ ((Ty.T (.pair (.list TStarter) .unit)) ⊕ (Ty.T (.pair .bool .unit)))) :=
match (decide (x.2.2.2.1 < x.2.2.1)) with
| true =>
 onSome (idx x.2.1 x.2.2.2.1) fun v1 =>
 match i_isNode (v1.1, ()) with
 | none => none
 | some v2 =>
 match (!v2.1) with
 | true =>
  some (.inr (.inr (false, ())))
 | false =>
  match i_within (v1.2.1, (0 : Int), (100000 : Int), ()) with
  | none => none
  | some v3 =>
  match (!v3.1) with
  | true =>
   some (.inr (.inr (false, ())))
  | false =>
   match i_within (v1.2.2.1, (1 : Int), (100000 : Int), ()) with
   | none => none
   | some v4 =>
   match (!v4.1) with
   | true =>
    some (.inr (.inr (false, ())))
   | false =>
    match i_within (v1.2.2.2.1, (1 : Int), (100000 : Int), ()) with
    | none => none
    | some v5 =>
    match (!v5.1) with
    | true =>
     some (.inr (.inr (false, ())))
    | false =>
     onSome (bounds x.1.length none (some (.dat (.int .i64) x.2.2.2.1))) fun v6 =>
     match slices_ContainsFunc_Starter ((List.drop v6.1 (List.take v6.2 x.1)), (fun z => i_AreStarters_1 (z.1, (v1.1, v1.2.1, v1.2.2.1, v1.2.2.2.1, ()), ())), ()) with
     | none => none
     | some v7 =>
     match v7.1 with
     | true =>
      some (.inr (.inr (false, ())))
     | false =>
      some (.inl (x.1, x.2.1, x.2.2.1, (IntKind.i64.wrap (x.2.2.2.1 + (1 : Int))), ()))
| false =>
 some (.inr (.inl (x.1, ())))
noncomputable def i_AreStarters (x : Ty.T (.pair (.list TStarter) .unit)) : Option (Ty.T (.pair .bool .unit)) :=
match loopL b_i_AreStarters_2 (x.1, x.1, (x.1.length : Int), (0 : Int), ()) with
| none => none
| some (.inl v8) =>
 match (decide ((v8.1.length : Int) ≥ (1 : Int))) with
 | true =>
  some ((decide ((v8.1.length : Int) ≤ (32 : Int))), ())
 | false =>
  some (false, ())
| some (.inr v9) =>
 some (v9.1, ())
noncomputable def S_i_AreStarters : Spec := ⟨(.pair (.list TStarter) .unit), (.pair .bool .unit), .unit, rfl, i_AreStarters⟩
noncomputable def σ_i_AreStarters : FuncId → Option Spec := sig [(88, S_i_within), (91, S_i_isNode), (92, S_slices_ContainsFunc_Starter), (93, S_i_AreStarters_1)]
theorem σok_i_AreStarters : ∀ f s, σ_i_AreStarters f = some s → FnOK Try.prog f s := sig_ok (l := [(88, S_i_within), (91, S_i_isNode), (92, S_slices_ContainsFunc_Starter), (93, S_i_AreStarters_1)]) ⟨ok_i_within, ok_i_isNode, ok_slices_ContainsFunc_Starter, ok_i_AreStarters_1, trivial⟩
noncomputable def Λ_i_AreStarters : Nat → Option LSpec := lkp (loopList (bodyOf Try.f44)) [⟨[0, 5, 6, 7], (.pair (.list TStarter) (.pair (.list TStarter) (.pair (.int .i64) (.pair (.int .i64) .unit)))), 0, [0], (.pair (.list TStarter) .unit), [2], (.pair .bool .unit), loopL b_i_AreStarters_2⟩]
theorem lok_i_AreStarters_2 (x) : codeK Γ0 E0 σ_i_AreStarters Λ_i_AreStarters Try.f44.ntmps (nthLoop Try.f44 0) (mkF Try.f44.ntmps [0, 5, 6, 7] (.pair (.list TStarter) (.pair (.list TStarter) (.pair (.int .i64) (.pair (.int .i64) .unit)))) x) (readK σ_i_AreStarters Try.f44.ntmps [0, 5, 6, 7] (.pair (.list TStarter) (.pair (.list TStarter) (.pair (.int .i64) (.pair (.int .i64) .unit)))) 0 [0] (.pair (.list TStarter) .unit) [2] (.pair .bool .unit)) = b_i_AreStarters_2 x := by kernel_rfl
theorem ok_i_AreStarters : FnOK Try.prog 44 S_i_AreStarters := fn_ok (Λ := Λ_i_AreStarters) tab0 σok_i_AreStarters Try.func44 (by kernel_rfl) (show Try.f44.body = some (bodyOf Try.f44) by kernel_rfl) [⟨[0, 5, 6, 7], (.pair (.list TStarter) (.pair (.list TStarter) (.pair (.int .i64) (.pair (.int .i64) .unit)))), 0, [0], (.pair (.list TStarter) .unit), [2], (.pair .bool .unit), loopL b_i_AreStarters_2⟩] rfl (by kernel_rfl) (by exact ⟨loop_LOK lok_i_AreStarters_2, trivial⟩) (by kernel_rfl)
  fun x y h => (show execFn Γ0 E0 σ_i_AreStarters Λ_i_AreStarters Try.f44 S_i_AreStarters x = i_AreStarters x by kernel_rfl).trans h

noncomputable def i_WithoutStarter_1 (x : Ty.T (.pair TStarter (.pair (.ptr (.int .i64)) .unit))) : Option (Ty.T (.pair .bool .unit)) :=
some ((x.1.1 == x.2.1), ())
noncomputable def S_i_WithoutStarter_1 : Spec := ⟨(.pair TStarter (.pair (.ptr (.int .i64)) .unit)), (.pair .bool .unit), .unit, rfl, i_WithoutStarter_1⟩
noncomputable def σ_i_WithoutStarter_1 : FuncId → Option Spec := sig []
theorem σok_i_WithoutStarter_1 : ∀ f s, σ_i_WithoutStarter_1 f = some s → FnOK Try.prog f s := sig_ok (l := []) trivial
noncomputable def Λ_i_WithoutStarter_1 : Nat → Option LSpec := lkp (loopList (bodyOf Try.f69)) []
theorem ok_i_WithoutStarter_1 : FnOK Try.prog 69 S_i_WithoutStarter_1 := fn_ok (Λ := Λ_i_WithoutStarter_1) tab0 σok_i_WithoutStarter_1 Try.func69 (by kernel_rfl) (show Try.f69.body = some (bodyOf Try.f69) by kernel_rfl) [] rfl (by kernel_rfl) (by exact trivial) (by kernel_rfl)
  fun x y h => (show execFn Γ0 E0 σ_i_WithoutStarter_1 Λ_i_WithoutStarter_1 Try.f69 S_i_WithoutStarter_1 x = i_WithoutStarter_1 x by kernel_rfl).trans h

noncomputable def l_eqStarter (x : Ty.T (.pair TStarter (.pair TStarter .unit))) : Option (Ty.T (.pair .bool .unit)) :=
match (x.1.1 != x.2.1.1) with
| true =>
 some (false, ())
| false =>
 match (x.1.2.1 != x.2.1.2.1) with
 | true =>
  some (false, ())
 | false =>
  match (x.1.2.2.1 != x.2.1.2.2.1) with
  | true =>
   some (false, ())
  | false =>
   match (x.1.2.2.2.1 != x.2.1.2.2.2.1) with
   | true =>
    some (false, ())
   | false =>
    some (true, ())
noncomputable def S_l_eqStarter : Spec := ⟨(.pair TStarter (.pair TStarter .unit)), (.pair .bool .unit), .unit, rfl, l_eqStarter⟩
noncomputable def σ_l_eqStarter : FuncId → Option Spec := sig []
theorem σok_l_eqStarter : ∀ f s, σ_l_eqStarter f = some s → FnOK Try.prog f s := sig_ok (l := []) trivial
noncomputable def Λ_l_eqStarter : Nat → Option LSpec := lkp (loopList (bodyOf Try.f71)) []
theorem ok_l_eqStarter : FnOK Try.prog 71 S_l_eqStarter := fn_ok (Λ := Λ_l_eqStarter) tab0 σok_l_eqStarter Try.func71 (by kernel_rfl) (show Try.f71.body = some (bodyOf Try.f71) by kernel_rfl) [] rfl (by kernel_rfl) (by exact trivial) (by kernel_rfl)
  fun x y h => (show execFn Γ0 E0 σ_l_eqStarter Λ_l_eqStarter Try.f71 S_l_eqStarter x = l_eqStarter x by kernel_rfl).trans h

noncomputable def b_l_eqStarterS_4 (x : (Ty.T (.pair (.list TStarter) (.pair (.list TStarter) (.pair (.int .i64) .unit))))) : Option ((Ty.T (.pair (.list TStarter) (.pair (.list TStarter) (.pair (.int .i64) .unit)))) ⊕ ((Ty.T .unit) ⊕ (Ty.T (.pair .bool .unit)))) :=
match (decide (x.2.2.1 < (x.1.length : Int))) with
| true =>
 onSome (idx x.1 x.2.2.1) fun v1 =>
 onSome (idx x.2.1 x.2.2.1) fun v2 =>
 match l_eqStarter (v1, v2, ()) with
 | none => none
 | some v3 =>
 match (!v3.1) with
 | true =>
  some (.inr (.inr (false, ())))
 | false =>
  some (.inl (x.1, x.2.1, (IntKind.i64.wrap (x.2.2.1 + (1 : Int))), ()))
| false =>
 some (.inr (.inl (())))
noncomputable def l_eqStarterS (x : Ty.T (.pair (.list TStarter) (.pair (.list TStarter) .unit))) : Option (Ty.T (.pair .bool .unit)) :=
match ((x.1.length : Int) != (x.2.1.length : Int)) with
| true =>
 some (false, ())
| false =>
 match loopL b_l_eqStarterS_4 (x.1, x.2.1, (0 : Int), ()) with
 | none => none
 | some (.inl v4) =>
  some (true, ())
 | some (.inr v5) =>
  some (v5.1, ())
noncomputable def S_l_eqStarterS : Spec := ⟨(.pair (.list TStarter) (.pair (.list TStarter) .unit)), (.pair .bool .unit), .unit, rfl, l_eqStarterS⟩
noncomputable def σ_l_eqStarterS : FuncId → Option Spec := sig [(71, S_l_eqStarter)]
theorem σok_l_eqStarterS : ∀ f s, σ_l_eqStarterS f = some s → FnOK Try.prog f s := sig_ok (l := [(71, S_l_eqStarter)]) ⟨ok_l_eqStarter, trivial⟩
noncomputable def Λ_l_eqStarterS : Nat → Option LSpec := lkp (loopList (bodyOf Try.f19)) [⟨[0, 1, 5], (.pair (.list TStarter) (.pair (.list TStarter) (.pair (.int .i64) .unit))), 0, [], .unit, [4], (.pair .bool .unit), loopL b_l_eqStarterS_4⟩]
theorem lok_l_eqStarterS_4 (x) : codeK Γ0 E0 σ_l_eqStarterS Λ_l_eqStarterS Try.f19.ntmps (nthLoop Try.f19 0) (mkF Try.f19.ntmps [0, 1, 5] (.pair (.list TStarter) (.pair (.list TStarter) (.pair (.int .i64) .unit))) x) (readK σ_l_eqStarterS Try.f19.ntmps [0, 1, 5] (.pair (.list TStarter) (.pair (.list TStarter) (.pair (.int .i64) .unit))) 0 [] .unit [4] (.pair .bool .unit)) = b_l_eqStarterS_4 x := by kernel_rfl
theorem ok_l_eqStarterS : FnOK Try.prog 19 S_l_eqStarterS := fn_ok (Λ := Λ_l_eqStarterS) tab0 σok_l_eqStarterS Try.func19 (by kernel_rfl) (show Try.f19.body = some (bodyOf Try.f19) by kernel_rfl) [⟨[0, 1, 5], (.pair (.list TStarter) (.pair (.list TStarter) (.pair (.int .i64) .unit))), 0, [], .unit, [4], (.pair .bool .unit), loopL b_l_eqStarterS_4⟩] rfl (by kernel_rfl) (by exact ⟨loop_LOK lok_l_eqStarterS_4, trivial⟩) (by kernel_rfl)
  fun x y h => (show execFn Γ0 E0 σ_l_eqStarterS Λ_l_eqStarterS Try.f19 S_l_eqStarterS x = l_eqStarterS x by kernel_rfl).trans h

noncomputable def b_l_markStarterS_2 (x : (Ty.T (.pair (.own 57 TStarter) (.pair (.int .i64) (.pair (.int .i64) .unit))))) : Option ((Ty.T (.pair (.own 57 TStarter) (.pair (.int .i64) (.pair (.int .i64) .unit)))) ⊕ ((Ty.T (.pair (.own 57 TStarter) (.pair (.int .i64) .unit))) ⊕ (Ty.T .unit))) :=
match (decide (x.2.2.1 < (x.1.length : Int))) with
| true =>
 onSome (idx x.1 x.2.2.1) fun _ =>
 match x.1[x.2.2.1.toNat]? with
 | none => none
 | some v2 =>
 onSome (idx (x.1.set x.2.2.1.toNat (x.2.1, v2.2.1, v2.2.2.1, v2.2.2.2.1, ())) x.2.2.1) fun _ =>
 match (x.1.set x.2.2.1.toNat (x.2.1, v2.2.1, v2.2.2.1, v2.2.2.2.1, ()))[x.2.2.1.toNat]? with
 | none => none
 | some v4 =>
 onSome (idx ((x.1.set x.2.2.1.toNat (x.2.1, v2.2.1, v2.2.2.1, v2.2.2.2.1, ())).set x.2.2.1.toNat (v4.1, (IntKind.i64.wrap (x.2.1 + (1 : Int))), v4.2.2.1, v4.2.2.2.1, ())) x.2.2.1) fun _ =>
 match ((x.1.set x.2.2.1.toNat (x.2.1, v2.2.1, v2.2.2.1, v2.2.2.2.1, ())).set x.2.2.1.toNat (v4.1, (IntKind.i64.wrap (x.2.1 + (1 : Int))), v4.2.2.1, v4.2.2.2.1, ()))[x.2.2.1.toNat]? with
 | none => none
 | some v6 =>
 onSome (idx (((x.1.set x.2.2.1.toNat (x.2.1, v2.2.1, v2.2.2.1, v2.2.2.2.1, ())).set x.2.2.1.toNat (v4.1, (IntKind.i64.wrap (x.2.1 + (1 : Int))), v4.2.2.1, v4.2.2.2.1, ())).set x.2.2.1.toNat (v6.1, v6.2.1, (IntKind.i64.wrap ((IntKind.i64.wrap (x.2.1 + (1 : Int))) + (1 : Int))), v6.2.2.2.1, ())) x.2.2.1) fun _ =>
 match (((x.1.set x.2.2.1.toNat (x.2.1, v2.2.1, v2.2.2.1, v2.2.2.2.1, ())).set x.2.2.1.toNat (v4.1, (IntKind.i64.wrap (x.2.1 + (1 : Int))), v4.2.2.1, v4.2.2.2.1, ())).set x.2.2.1.toNat (v6.1, v6.2.1, (IntKind.i64.wrap ((IntKind.i64.wrap (x.2.1 + (1 : Int))) + (1 : Int))), v6.2.2.2.1, ()))[x.2.2.1.toNat]? with
 | none => none
 | some v8 =>
 some (.inl (((((x.1.set x.2.2.1.toNat (x.2.1, v2.2.1, v2.2.2.1, v2.2.2.2.1, ())).set x.2.2.1.toNat (v4.1, (IntKind.i64.wrap (x.2.1 + (1 : Int))), v4.2.2.1, v4.2.2.2.1, ())).set x.2.2.1.toNat (v6.1, v6.2.1, (IntKind.i64.wrap ((IntKind.i64.wrap (x.2.1 + (1 : Int))) + (1 : Int))), v6.2.2.2.1, ())).set x.2.2.1.toNat (v8.1, v8.2.1, v8.2.2.1, (IntKind.i64.wrap ((IntKind.i64.wrap ((IntKind.i64.wrap (x.2.1 + (1 : Int))) + (1 : Int))) + (1 : Int))), ())), (IntKind.i64.wrap ((IntKind.i64.wrap ((IntKind.i64.wrap ((IntKind.i64.wrap (x.2.1 + (1 : Int))) + (1 : Int))) + (1 : Int))) + (1 : Int))), (IntKind.i64.wrap (x.2.2.1 + (1 : Int))), ()))
| false =>
 some (.inr (.inl (x.1, x.2.1, ())))
noncomputable def l_markStarterS (x : Ty.T (.pair (.own 57 TStarter) (.pair (.int .i64) .unit))) : Option (Ty.T (.pair (.int .i64) (.pair (.own 57 TStarter) .unit))) :=
match loopL b_l_markStarterS_2 (x.1, x.2.1, (0 : Int), ()) with
| none => none
| some (.inl v9) =>
 some (v9.2.1, v9.1, ())
| some (.inr v11) =>
 none
noncomputable def S_l_markStarterS : Spec := ⟨(.pair (.own 57 TStarter) (.pair (.int .i64) .unit)), (.pair (.int .i64) .unit), (.pair (.own 57 TStarter) .unit), rfl, l_markStarterS⟩
noncomputable def σ_l_markStarterS : FuncId → Option Spec := sig []
theorem σok_l_markStarterS : ∀ f s, σ_l_markStarterS f = some s → FnOK Try.prog f s := sig_ok (l := []) trivial
noncomputable def Λ_l_markStarterS : Nat → Option LSpec := lkp (loopList (bodyOf Try.f20)) [⟨[0, 1, 5], (.pair (.own 57 TStarter) (.pair (.int .i64) (.pair (.int .i64) .unit))), 0, [0, 1], (.pair (.own 57 TStarter) (.pair (.int .i64) .unit)), [], .unit, loopL b_l_markStarterS_2⟩]
theorem lok_l_markStarterS_2 (x) : codeK Γ0 E0 σ_l_markStarterS Λ_l_markStarterS Try.f20.ntmps (nthLoop Try.f20 0) (mkF Try.f20.ntmps [0, 1, 5] (.pair (.own 57 TStarter) (.pair (.int .i64) (.pair (.int .i64) .unit))) x) (readK σ_l_markStarterS Try.f20.ntmps [0, 1, 5] (.pair (.own 57 TStarter) (.pair (.int .i64) (.pair (.int .i64) .unit))) 0 [0, 1] (.pair (.own 57 TStarter) (.pair (.int .i64) .unit)) [] .unit) = b_l_markStarterS_2 x := by kernel_rfl
theorem ok_l_markStarterS : FnOK Try.prog 20 S_l_markStarterS := fn_ok (Λ := Λ_l_markStarterS) tab0 σok_l_markStarterS Try.func20 (by kernel_rfl) (show Try.f20.body = some (bodyOf Try.f20) by kernel_rfl) [⟨[0, 1, 5], (.pair (.own 57 TStarter) (.pair (.int .i64) (.pair (.int .i64) .unit))), 0, [0, 1], (.pair (.own 57 TStarter) (.pair (.int .i64) .unit)), [], .unit, loopL b_l_markStarterS_2⟩] rfl (by kernel_rfl) (by exact ⟨loop_LOK lok_l_markStarterS_2, trivial⟩) (by kernel_rfl)
  fun x y h => (show execFn Γ0 E0 σ_l_markStarterS Λ_l_markStarterS Try.f20 S_l_markStarterS x = l_markStarterS x by kernel_rfl).trans h

noncomputable def b_l_heldStarterS_2 (x : (Ty.T (.pair (.list TStarter) (.pair (.int .i64) (.pair (.int .i64) .unit))))) : Option ((Ty.T (.pair (.list TStarter) (.pair (.int .i64) (.pair (.int .i64) .unit)))) ⊕ ((Ty.T (.pair (.int .i64) .unit)) ⊕ (Ty.T (.pair (.int .i64) .unit)))) :=
match (decide (x.2.2.1 < (x.1.length : Int))) with
| true =>
 onSome (idx x.1 x.2.2.1) fun v1 =>
 match (v1.1 != x.2.1) with
 | true =>
  some (.inr (.inr ((-1 : Int), ())))
 | false =>
  onSome (idx x.1 x.2.2.1) fun v2 =>
  match (v2.2.1 != (IntKind.i64.wrap (x.2.1 + (1 : Int)))) with
  | true =>
   some (.inr (.inr ((-1 : Int), ())))
  | false =>
   onSome (idx x.1 x.2.2.1) fun v3 =>
   match (v3.2.2.1 != (IntKind.i64.wrap ((IntKind.i64.wrap (x.2.1 + (1 : Int))) + (1 : Int)))) with
   | true =>
    some (.inr (.inr ((-1 : Int), ())))
   | false =>
    onSome (idx x.1 x.2.2.1) fun v4 =>
    match (v4.2.2.2.1 != (IntKind.i64.wrap ((IntKind.i64.wrap ((IntKind.i64.wrap (x.2.1 + (1 : Int))) + (1 : Int))) + (1 : Int)))) with
    | true =>
     some (.inr (.inr ((-1 : Int), ())))
    | false =>
     some (.inl (x.1, (IntKind.i64.wrap ((IntKind.i64.wrap ((IntKind.i64.wrap ((IntKind.i64.wrap (x.2.1 + (1 : Int))) + (1 : Int))) + (1 : Int))) + (1 : Int))), (IntKind.i64.wrap (x.2.2.1 + (1 : Int))), ()))
| false =>
 some (.inr (.inl (x.2.1, ())))
noncomputable def l_heldStarterS (x : Ty.T (.pair (.list TStarter) (.pair (.int .i64) .unit))) : Option (Ty.T (.pair (.int .i64) .unit)) :=
match loopL b_l_heldStarterS_2 (x.1, x.2.1, (0 : Int), ()) with
| none => none
| some (.inl v5) =>
 some (v5.1, ())
| some (.inr v6) =>
 some (v6.1, ())
noncomputable def S_l_heldStarterS : Spec := ⟨(.pair (.list TStarter) (.pair (.int .i64) .unit)), (.pair (.int .i64) .unit), .unit, rfl, l_heldStarterS⟩
noncomputable def σ_l_heldStarterS : FuncId → Option Spec := sig []
theorem σok_l_heldStarterS : ∀ f s, σ_l_heldStarterS f = some s → FnOK Try.prog f s := sig_ok (l := []) trivial
noncomputable def Λ_l_heldStarterS : Nat → Option LSpec := lkp (loopList (bodyOf Try.f21)) [⟨[0, 1, 5], (.pair (.list TStarter) (.pair (.int .i64) (.pair (.int .i64) .unit))), 0, [1], (.pair (.int .i64) .unit), [4], (.pair (.int .i64) .unit), loopL b_l_heldStarterS_2⟩]
theorem lok_l_heldStarterS_2 (x) : codeK Γ0 E0 σ_l_heldStarterS Λ_l_heldStarterS Try.f21.ntmps (nthLoop Try.f21 0) (mkF Try.f21.ntmps [0, 1, 5] (.pair (.list TStarter) (.pair (.int .i64) (.pair (.int .i64) .unit))) x) (readK σ_l_heldStarterS Try.f21.ntmps [0, 1, 5] (.pair (.list TStarter) (.pair (.int .i64) (.pair (.int .i64) .unit))) 0 [1] (.pair (.int .i64) .unit) [4] (.pair (.int .i64) .unit)) = b_l_heldStarterS_2 x := by kernel_rfl
theorem ok_l_heldStarterS : FnOK Try.prog 21 S_l_heldStarterS := fn_ok (Λ := Λ_l_heldStarterS) tab0 σok_l_heldStarterS Try.func21 (by kernel_rfl) (show Try.f21.body = some (bodyOf Try.f21) by kernel_rfl) [⟨[0, 1, 5], (.pair (.list TStarter) (.pair (.int .i64) (.pair (.int .i64) .unit))), 0, [1], (.pair (.int .i64) .unit), [4], (.pair (.int .i64) .unit), loopL b_l_heldStarterS_2⟩] rfl (by kernel_rfl) (by exact ⟨loop_LOK lok_l_heldStarterS_2, trivial⟩) (by kernel_rfl)
  fun x y h => (show execFn Γ0 E0 σ_l_heldStarterS Λ_l_heldStarterS Try.f21 S_l_heldStarterS x = l_heldStarterS x by kernel_rfl).trans h

noncomputable def b_s_l17Ends_3 (x : (Ty.T (.pair (.list (.int .i64)) (.pair (.int .i64) (.pair (.int .i64) (.pair (.int .i64) .unit)))))) : Option ((Ty.T (.pair (.list (.int .i64)) (.pair (.int .i64) (.pair (.int .i64) (.pair (.int .i64) .unit))))) ⊕ ((Ty.T (.pair (.int .i64) (.pair (.int .i64) .unit))) ⊕ (Ty.T .unit))) :=
match (decide (x.2.2.2.1 < (x.1.length : Int))) with
| true =>
 onSome (idx x.1 x.2.2.2.1) fun v3 =>
 onSome (idx x.1 x.2.2.2.1) fun v4 =>
 some (.inl (x.1, (if v3 < x.2.1 then v3 else x.2.1), (if v4 > x.2.2.1 then v4 else x.2.2.1), (IntKind.i64.wrap (x.2.2.2.1 + (1 : Int))), ()))
| false =>
 some (.inr (.inl (x.2.1, x.2.2.1, ())))
noncomputable def s_l17Ends (x : Ty.T (.pair (.list (.int .i64)) .unit)) : Option (Ty.T (.pair (.int .i64) (.pair (.int .i64) .unit))) :=
onSome (idx x.1 (0 : Int)) fun v1 =>
onSome (idx x.1 (0 : Int)) fun v2 =>
match loopL b_s_l17Ends_3 (x.1, v1, v2, (1 : Int), ()) with
| none => none
| some (.inl v5) =>
 some (v5.1, v5.2.1, ())
| some (.inr v7) =>
 none
noncomputable def S_s_l17Ends : Spec := ⟨(.pair (.list (.int .i64)) .unit), (.pair (.int .i64) (.pair (.int .i64) .unit)), .unit, rfl, s_l17Ends⟩
noncomputable def σ_s_l17Ends : FuncId → Option Spec := sig []
theorem σok_s_l17Ends : ∀ f s, σ_s_l17Ends f = some s → FnOK Try.prog f s := sig_ok (l := []) trivial
noncomputable def Λ_s_l17Ends : Nat → Option LSpec := lkp (loopList (bodyOf Try.f115)) [⟨[0, 4, 5, 6], (.pair (.list (.int .i64)) (.pair (.int .i64) (.pair (.int .i64) (.pair (.int .i64) .unit)))), 0, [4, 5], (.pair (.int .i64) (.pair (.int .i64) .unit)), [], .unit, loopL b_s_l17Ends_3⟩]
theorem lok_s_l17Ends_3 (x) : codeK Γ0 E0 σ_s_l17Ends Λ_s_l17Ends Try.f115.ntmps (nthLoop Try.f115 0) (mkF Try.f115.ntmps [0, 4, 5, 6] (.pair (.list (.int .i64)) (.pair (.int .i64) (.pair (.int .i64) (.pair (.int .i64) .unit)))) x) (readK σ_s_l17Ends Try.f115.ntmps [0, 4, 5, 6] (.pair (.list (.int .i64)) (.pair (.int .i64) (.pair (.int .i64) (.pair (.int .i64) .unit)))) 0 [4, 5] (.pair (.int .i64) (.pair (.int .i64) .unit)) [] .unit) = b_s_l17Ends_3 x := by kernel_rfl
theorem ok_s_l17Ends : FnOK Try.prog 115 S_s_l17Ends := fn_ok (Λ := Λ_s_l17Ends) tab0 σok_s_l17Ends Try.func115 (by kernel_rfl) (show Try.f115.body = some (bodyOf Try.f115) by kernel_rfl) [⟨[0, 4, 5, 6], (.pair (.list (.int .i64)) (.pair (.int .i64) (.pair (.int .i64) (.pair (.int .i64) .unit)))), 0, [4, 5], (.pair (.int .i64) (.pair (.int .i64) .unit)), [], .unit, loopL b_s_l17Ends_3⟩] rfl (by kernel_rfl) (by exact ⟨loop_LOK lok_s_l17Ends_3, trivial⟩) (by kernel_rfl)
  fun x y h => (show execFn Γ0 E0 σ_s_l17Ends Λ_s_l17Ends Try.f115 S_s_l17Ends x = s_l17Ends x by kernel_rfl).trans h

noncomputable def b_s_l31First_4 (x : (Ty.T (.pair (.list (.int .i64)) (.pair (.int .i64) (.pair (.own 2 (.int .i64)) (.pair (.int .i64) .unit)))))) : Option ((Ty.T (.pair (.list (.int .i64)) (.pair (.int .i64) (.pair (.own 2 (.int .i64)) (.pair (.int .i64) .unit))))) ⊕ ((Ty.T (.pair (.own 2 (.int .i64)) .unit)) ⊕ (Ty.T .unit))) :=
match (decide (x.2.2.2.1 < (x.1.length : Int))) with
| true =>
 onSome (idx x.1 x.2.2.2.1) fun v2 =>
 match (v2 == x.2.1) with
 | true =>
  room (x.2.2.1.length + [x.2.2.2.1].length) (
   some (.inl (x.1, x.2.1, (x.2.2.1 ++ [x.2.2.2.1]), (IntKind.i64.wrap (x.2.2.2.1 + (1 : Int))), ())))
 | false =>
  some (.inl (x.1, x.2.1, x.2.2.1, (IntKind.i64.wrap (x.2.2.2.1 + (1 : Int))), ()))
| false =>
 some (.inr (.inl (x.2.2.1, ())))
noncomputable def s_l31First (x : Ty.T (.pair (.list (.int .i64)) .unit)) : Option (Ty.T (.pair (.own 2 (.int .i64)) .unit)) :=
match s_l17Ends (x.1, ()) with
| none => none
| some v1 =>
match loopL b_s_l31First_4 (x.1, v1.1, [], (0 : Int), ()) with
| none => none
| some (.inl v3) =>
 some (v3.1, ())
| some (.inr v5) =>
 none
noncomputable def S_s_l31First : Spec := ⟨(.pair (.list (.int .i64)) .unit), (.pair (.own 2 (.int .i64)) .unit), .unit, rfl, s_l31First⟩
noncomputable def σ_s_l31First : FuncId → Option Spec := sig [(115, S_s_l17Ends)]
theorem σok_s_l31First : ∀ f s, σ_s_l31First f = some s → FnOK Try.prog f s := sig_ok (l := [(115, S_s_l17Ends)]) ⟨ok_s_l17Ends, trivial⟩
noncomputable def Λ_s_l31First : Nat → Option LSpec := lkp (loopList (bodyOf Try.f72)) [⟨[0, 3, 5, 6], (.pair (.list (.int .i64)) (.pair (.int .i64) (.pair (.own 2 (.int .i64)) (.pair (.int .i64) .unit)))), 0, [5], (.pair (.own 2 (.int .i64)) .unit), [], .unit, loopL b_s_l31First_4⟩]
theorem lok_s_l31First_4 (x) : codeK Γ0 E0 σ_s_l31First Λ_s_l31First Try.f72.ntmps (nthLoop Try.f72 0) (mkF Try.f72.ntmps [0, 3, 5, 6] (.pair (.list (.int .i64)) (.pair (.int .i64) (.pair (.own 2 (.int .i64)) (.pair (.int .i64) .unit)))) x) (readK σ_s_l31First Try.f72.ntmps [0, 3, 5, 6] (.pair (.list (.int .i64)) (.pair (.int .i64) (.pair (.own 2 (.int .i64)) (.pair (.int .i64) .unit)))) 0 [5] (.pair (.own 2 (.int .i64)) .unit) [] .unit) = b_s_l31First_4 x := by kernel_rfl
theorem ok_s_l31First : FnOK Try.prog 72 S_s_l31First := fn_ok (Λ := Λ_s_l31First) tab0 σok_s_l31First Try.func72 (by kernel_rfl) (show Try.f72.body = some (bodyOf Try.f72) by kernel_rfl) [⟨[0, 3, 5, 6], (.pair (.list (.int .i64)) (.pair (.int .i64) (.pair (.own 2 (.int .i64)) (.pair (.int .i64) .unit)))), 0, [5], (.pair (.own 2 (.int .i64)) .unit), [], .unit, loopL b_s_l31First_4⟩] rfl (by kernel_rfl) (by exact ⟨loop_LOK lok_s_l31First_4, trivial⟩) (by kernel_rfl)
  fun x y h => (show execFn Γ0 E0 σ_s_l31First Λ_s_l31First Try.f72 S_s_l31First x = s_l31First x by kernel_rfl).trans h

noncomputable def b_s_l31Due_3 (x : (Ty.T (.pair (.list TStarter) (.pair (.own 2 (.int .i64)) (.pair (.int .i64) .unit))))) : Option ((Ty.T (.pair (.list TStarter) (.pair (.own 2 (.int .i64)) (.pair (.int .i64) .unit)))) ⊕ ((Ty.T (.pair (.own 2 (.int .i64)) .unit)) ⊕ (Ty.T .unit))) :=
match (decide (x.2.2.1 < (x.1.length : Int))) with
| true =>
 onSome (idx x.1 x.2.2.1) fun v1 =>
 onSome (idx x.1 x.2.2.1) fun v2 =>
 room (x.2.1.length + [(IntKind.i64.wrap (v1.2.1 + v2.2.2.1))].length) (
  some (.inl (x.1, (x.2.1 ++ [(IntKind.i64.wrap (v1.2.1 + v2.2.2.1))]), (IntKind.i64.wrap (x.2.2.1 + (1 : Int))), ())))
| false =>
 some (.inr (.inl (x.2.1, ())))
noncomputable def s_l31Due (x : Ty.T (.pair (.list TStarter) .unit)) : Option (Ty.T (.pair (.own 2 (.int .i64)) .unit)) :=
match loopL b_s_l31Due_3 (x.1, [], (0 : Int), ()) with
| none => none
| some (.inl v3) =>
 some (v3.1, ())
| some (.inr v5) =>
 none
noncomputable def S_s_l31Due : Spec := ⟨(.pair (.list TStarter) .unit), (.pair (.own 2 (.int .i64)) .unit), .unit, rfl, s_l31Due⟩
noncomputable def σ_s_l31Due : FuncId → Option Spec := sig []
theorem σok_s_l31Due : ∀ f s, σ_s_l31Due f = some s → FnOK Try.prog f s := sig_ok (l := []) trivial
noncomputable def Λ_s_l31Due : Nat → Option LSpec := lkp (loopList (bodyOf Try.f73)) [⟨[0, 3, 4], (.pair (.list TStarter) (.pair (.own 2 (.int .i64)) (.pair (.int .i64) .unit))), 0, [3], (.pair (.own 2 (.int .i64)) .unit), [], .unit, loopL b_s_l31Due_3⟩]
theorem lok_s_l31Due_3 (x) : codeK Γ0 E0 σ_s_l31Due Λ_s_l31Due Try.f73.ntmps (nthLoop Try.f73 0) (mkF Try.f73.ntmps [0, 3, 4] (.pair (.list TStarter) (.pair (.own 2 (.int .i64)) (.pair (.int .i64) .unit))) x) (readK σ_s_l31Due Try.f73.ntmps [0, 3, 4] (.pair (.list TStarter) (.pair (.own 2 (.int .i64)) (.pair (.int .i64) .unit))) 0 [3] (.pair (.own 2 (.int .i64)) .unit) [] .unit) = b_s_l31Due_3 x := by kernel_rfl
theorem ok_s_l31Due : FnOK Try.prog 73 S_s_l31Due := fn_ok (Λ := Λ_s_l31Due) tab0 σok_s_l31Due Try.func73 (by kernel_rfl) (show Try.f73.body = some (bodyOf Try.f73) by kernel_rfl) [⟨[0, 3, 4], (.pair (.list TStarter) (.pair (.own 2 (.int .i64)) (.pair (.int .i64) .unit))), 0, [3], (.pair (.own 2 (.int .i64)) .unit), [], .unit, loopL b_s_l31Due_3⟩] rfl (by kernel_rfl) (by exact ⟨loop_LOK lok_s_l31Due_3, trivial⟩) (by kernel_rfl)
  fun x y h => (show execFn Γ0 E0 σ_s_l31Due Λ_s_l31Due Try.f73 S_s_l31Due x = s_l31Due x by kernel_rfl).trans h

noncomputable def b_s_FirstStart_6 (x : (Ty.T (.pair (.list TStarter) (.pair (.own 2 (.int .i64)) (.pair (.own 2 (.int .i64)) (.pair (.int .i64) .unit)))))) : Option ((Ty.T (.pair (.list TStarter) (.pair (.own 2 (.int .i64)) (.pair (.own 2 (.int .i64)) (.pair (.int .i64) .unit))))) ⊕ ((Ty.T (.pair (.own 2 (.int .i64)) .unit)) ⊕ (Ty.T .unit))) :=
match (decide (x.2.2.2.1 < (x.2.1.length : Int))) with
| true =>
 onSome (idx x.2.1 x.2.2.2.1) fun _ =>
 match x.2.1[x.2.2.2.1.toNat]? with
 | none => none
 | some v5 =>
 onSome (idx x.1 v5) fun v6 =>
 room (x.2.2.1.length + [v6.1].length) (
  some (.inl (x.1, x.2.1, (x.2.2.1 ++ [v6.1]), (IntKind.i64.wrap (x.2.2.2.1 + (1 : Int))), ())))
| false =>
 some (.inr (.inl (x.2.2.1, ())))
noncomputable def s_FirstStart (x : Ty.T (.pair (.list TStarter) .unit)) : Option (Ty.T (.pair (.own 2 (.int .i64)) (.pair (.int .i64) .unit))) :=
match s_AreStarters (x.1, ()) with
| none => none
| some v1 =>
match (!v1.1) with
| true =>
 some ([], (1 : Int), ())
| false =>
 match s_l31Due (x.1, ()) with
 | none => none
 | some v2 =>
 match s_l31First (v2.1, ()) with
 | none => none
 | some v3 =>
 match loopL b_s_FirstStart_6 (x.1, v3.1, [], (0 : Int), ()) with
 | none => none
 | some (.inl v7) =>
  some (v7.1, (0 : Int), ())
 | some (.inr v9) =>
  none
noncomputable def S_s_FirstStart : Spec := ⟨(.pair (.list TStarter) .unit), (.pair (.own 2 (.int .i64)) (.pair (.int .i64) .unit)), .unit, rfl, s_FirstStart⟩
noncomputable def σ_s_FirstStart : FuncId → Option Spec := sig [(45, S_s_AreStarters), (72, S_s_l31First), (73, S_s_l31Due)]
theorem σok_s_FirstStart : ∀ f s, σ_s_FirstStart f = some s → FnOK Try.prog f s := sig_ok (l := [(45, S_s_AreStarters), (72, S_s_l31First), (73, S_s_l31Due)]) ⟨ok_s_AreStarters, ok_s_l31First, ok_s_l31Due, trivial⟩
noncomputable def Λ_s_FirstStart : Nat → Option LSpec := lkp (loopList (bodyOf Try.f22)) [⟨[0, 4, 5, 6], (.pair (.list TStarter) (.pair (.own 2 (.int .i64)) (.pair (.own 2 (.int .i64)) (.pair (.int .i64) .unit)))), 0, [5], (.pair (.own 2 (.int .i64)) .unit), [], .unit, loopL b_s_FirstStart_6⟩]
theorem lok_s_FirstStart_6 (x) : codeK Γ0 E0 σ_s_FirstStart Λ_s_FirstStart Try.f22.ntmps (nthLoop Try.f22 0) (mkF Try.f22.ntmps [0, 4, 5, 6] (.pair (.list TStarter) (.pair (.own 2 (.int .i64)) (.pair (.own 2 (.int .i64)) (.pair (.int .i64) .unit)))) x) (readK σ_s_FirstStart Try.f22.ntmps [0, 4, 5, 6] (.pair (.list TStarter) (.pair (.own 2 (.int .i64)) (.pair (.own 2 (.int .i64)) (.pair (.int .i64) .unit)))) 0 [5] (.pair (.own 2 (.int .i64)) .unit) [] .unit) = b_s_FirstStart_6 x := by kernel_rfl
theorem ok_s_FirstStart : FnOK Try.prog 22 S_s_FirstStart := fn_ok (Λ := Λ_s_FirstStart) tab0 σok_s_FirstStart Try.func22 (by kernel_rfl) (show Try.f22.body = some (bodyOf Try.f22) by kernel_rfl) [⟨[0, 4, 5, 6], (.pair (.list TStarter) (.pair (.own 2 (.int .i64)) (.pair (.own 2 (.int .i64)) (.pair (.int .i64) .unit)))), 0, [5], (.pair (.own 2 (.int .i64)) .unit), [], .unit, loopL b_s_FirstStart_6⟩] rfl (by kernel_rfl) (by exact ⟨loop_LOK lok_s_FirstStart_6, trivial⟩) (by kernel_rfl)
  fun x y h => (show execFn Γ0 E0 σ_s_FirstStart Λ_s_FirstStart Try.f22 S_s_FirstStart x = s_FirstStart x by kernel_rfl).trans h

noncomputable def b_slices_Min_int64_5 (x : (Ty.T (.pair (.list (.int .i64)) (.pair (.int .i64) (.pair (.int .i64) .unit))))) : Option ((Ty.T (.pair (.list (.int .i64)) (.pair (.int .i64) (.pair (.int .i64) .unit)))) ⊕ ((Ty.T (.pair (.int .i64) .unit)) ⊕ (Ty.T .unit))) :=
match (decide (x.2.2.1 < (x.1.length : Int))) with
| true =>
 onSome (idx x.1 x.2.2.1) fun v2 =>
 some (.inl (x.1, (if v2 < x.2.1 then v2 else x.2.1), (IntKind.i64.wrap (x.2.2.1 + (1 : Int))), ()))
| false =>
 some (.inr (.inl (x.2.1, ())))
noncomputable def slices_Min_int64 (x : Ty.T (.pair (.list (.int .i64)) .unit)) : Option (Ty.T (.pair (.int .i64) .unit)) :=
match (decide ((x.1.length : Int) < (1 : Int))) with
| true =>
 none
| false =>
 onSome (idx x.1 (0 : Int)) fun v1 =>
 match loopL b_slices_Min_int64_5 (x.1, v1, (1 : Int), ()) with
 | none => none
 | some (.inl v3) =>
  some (v3.1, ())
 | some (.inr v5) =>
  none
noncomputable def S_slices_Min_int64 : Spec := ⟨(.pair (.list (.int .i64)) .unit), (.pair (.int .i64) .unit), .unit, rfl, slices_Min_int64⟩
noncomputable def σ_slices_Min_int64 : FuncId → Option Spec := sig []
theorem σok_slices_Min_int64 : ∀ f s, σ_slices_Min_int64 f = some s → FnOK Try.prog f s := sig_ok (l := []) trivial
noncomputable def Λ_slices_Min_int64 : Nat → Option LSpec := lkp (loopList (bodyOf Try.f116)) [⟨[0, 3, 4], (.pair (.list (.int .i64)) (.pair (.int .i64) (.pair (.int .i64) .unit))), 0, [3], (.pair (.int .i64) .unit), [], .unit, loopL b_slices_Min_int64_5⟩]
theorem lok_slices_Min_int64_5 (x) : codeK Γ0 E0 σ_slices_Min_int64 Λ_slices_Min_int64 Try.f116.ntmps (nthLoop Try.f116 0) (mkF Try.f116.ntmps [0, 3, 4] (.pair (.list (.int .i64)) (.pair (.int .i64) (.pair (.int .i64) .unit))) x) (readK σ_slices_Min_int64 Try.f116.ntmps [0, 3, 4] (.pair (.list (.int .i64)) (.pair (.int .i64) (.pair (.int .i64) .unit))) 0 [3] (.pair (.int .i64) .unit) [] .unit) = b_slices_Min_int64_5 x := by kernel_rfl
theorem ok_slices_Min_int64 : FnOK Try.prog 116 S_slices_Min_int64 := fn_ok (Λ := Λ_slices_Min_int64) tab0 σok_slices_Min_int64 Try.func116 (by kernel_rfl) (show Try.f116.body = some (bodyOf Try.f116) by kernel_rfl) [⟨[0, 3, 4], (.pair (.list (.int .i64)) (.pair (.int .i64) (.pair (.int .i64) .unit))), 0, [3], (.pair (.int .i64) .unit), [], .unit, loopL b_slices_Min_int64_5⟩] rfl (by kernel_rfl) (by exact ⟨loop_LOK lok_slices_Min_int64_5, trivial⟩) (by kernel_rfl)
  fun x y h => (show execFn Γ0 E0 σ_slices_Min_int64 Λ_slices_Min_int64 Try.f116 S_slices_Min_int64 x = slices_Min_int64 x by kernel_rfl).trans h

noncomputable def b_i_leastDue_3 (x : (Ty.T (.pair (.list (.int .i64)) (.pair (.own 3 (.int .i64)) (.pair (.list (.int .i64)) (.pair (.int .i64) (.pair (.int .i64) .unit))))))) : Option ((Ty.T (.pair (.list (.int .i64)) (.pair (.own 3 (.int .i64)) (.pair (.list (.int .i64)) (.pair (.int .i64) (.pair (.int .i64) .unit)))))) ⊕ ((Ty.T (.pair (.own 3 (.int .i64)) .unit)) ⊕ (Ty.T .unit))) :=
match (decide (x.2.2.2.2.1 < x.2.2.2.1)) with
| true =>
 onSome (idx x.2.2.1 x.2.2.2.2.1) fun v1 =>
 match slices_Min_int64 (x.1, ()) with
 | none => none
 | some v2 =>
 match (v1 == v2.1) with
 | true =>
  room (x.2.1.length + [x.2.2.2.2.1].length) (
   some (.inl (x.1, (x.2.1 ++ [x.2.2.2.2.1]), x.2.2.1, x.2.2.2.1, (IntKind.i64.wrap (x.2.2.2.2.1 + (1 : Int))), ())))
 | false =>
  some (.inl (x.1, x.2.1, x.2.2.1, x.2.2.2.1, (IntKind.i64.wrap (x.2.2.2.2.1 + (1 : Int))), ()))
| false =>
 some (.inr (.inl (x.2.1, ())))
noncomputable def i_leastDue (x : Ty.T (.pair (.list (.int .i64)) .unit)) : Option (Ty.T (.pair (.own 3 (.int .i64)) .unit)) :=
match loopL b_i_leastDue_3 (x.1, [], x.1, (x.1.length : Int), (0 : Int), ()) with
| none => none
| some (.inl v3) =>
 some (v3.1, ())
| some (.inr v5) =>
 none
noncomputable def S_i_leastDue : Spec := ⟨(.pair (.list (.int .i64)) .unit), (.pair (.own 3 (.int .i64)) .unit), .unit, rfl, i_leastDue⟩
noncomputable def σ_i_leastDue : FuncId → Option Spec := sig [(116, S_slices_Min_int64)]
theorem σok_i_leastDue : ∀ f s, σ_i_leastDue f = some s → FnOK Try.prog f s := sig_ok (l := [(116, S_slices_Min_int64)]) ⟨ok_slices_Min_int64, trivial⟩
noncomputable def Λ_i_leastDue : Nat → Option LSpec := lkp (loopList (bodyOf Try.f74)) [⟨[0, 3, 7, 8, 9], (.pair (.list (.int .i64)) (.pair (.own 3 (.int .i64)) (.pair (.list (.int .i64)) (.pair (.int .i64) (.pair (.int .i64) .unit))))), 0, [3], (.pair (.own 3 (.int .i64)) .unit), [], .unit, loopL b_i_leastDue_3⟩]
theorem lok_i_leastDue_3 (x) : codeK Γ0 E0 σ_i_leastDue Λ_i_leastDue Try.f74.ntmps (nthLoop Try.f74 0) (mkF Try.f74.ntmps [0, 3, 7, 8, 9] (.pair (.list (.int .i64)) (.pair (.own 3 (.int .i64)) (.pair (.list (.int .i64)) (.pair (.int .i64) (.pair (.int .i64) .unit))))) x) (readK σ_i_leastDue Try.f74.ntmps [0, 3, 7, 8, 9] (.pair (.list (.int .i64)) (.pair (.own 3 (.int .i64)) (.pair (.list (.int .i64)) (.pair (.int .i64) (.pair (.int .i64) .unit))))) 0 [3] (.pair (.own 3 (.int .i64)) .unit) [] .unit) = b_i_leastDue_3 x := by kernel_rfl
theorem ok_i_leastDue : FnOK Try.prog 74 S_i_leastDue := fn_ok (Λ := Λ_i_leastDue) tab0 σok_i_leastDue Try.func74 (by kernel_rfl) (show Try.f74.body = some (bodyOf Try.f74) by kernel_rfl) [⟨[0, 3, 7, 8, 9], (.pair (.list (.int .i64)) (.pair (.own 3 (.int .i64)) (.pair (.list (.int .i64)) (.pair (.int .i64) (.pair (.int .i64) .unit))))), 0, [3], (.pair (.own 3 (.int .i64)) .unit), [], .unit, loopL b_i_leastDue_3⟩] rfl (by kernel_rfl) (by exact ⟨loop_LOK lok_i_leastDue_3, trivial⟩) (by kernel_rfl)
  fun x y h => (show execFn Γ0 E0 σ_i_leastDue Λ_i_leastDue Try.f74 S_i_leastDue x = i_leastDue x by kernel_rfl).trans h

noncomputable def b_i_firstDue_3 (x : (Ty.T (.pair (.own 2 (.int .i64)) (.pair (.list TStarter) (.pair (.int .i64) (.pair (.int .i64) .unit)))))) : Option ((Ty.T (.pair (.own 2 (.int .i64)) (.pair (.list TStarter) (.pair (.int .i64) (.pair (.int .i64) .unit))))) ⊕ ((Ty.T (.pair (.own 2 (.int .i64)) .unit)) ⊕ (Ty.T .unit))) :=
match (decide (x.2.2.2.1 < x.2.2.1)) with
| true =>
 onSome (idx x.2.1 x.2.2.2.1) fun v1 =>
 room (x.1.length + [(IntKind.i64.wrap (v1.2.1 + v1.2.2.1))].length) (
  some (.inl ((x.1 ++ [(IntKind.i64.wrap (v1.2.1 + v1.2.2.1))]), x.2.1, x.2.2.1, (IntKind.i64.wrap (x.2.2.2.1 + (1 : Int))), ())))
| false =>
 some (.inr (.inl (x.1, ())))
noncomputable def i_firstDue (x : Ty.T (.pair (.list TStarter) .unit)) : Option (Ty.T (.pair (.own 2 (.int .i64)) .unit)) :=
match loopL b_i_firstDue_3 ([], x.1, (x.1.length : Int), (0 : Int), ()) with
| none => none
| some (.inl v2) =>
 some (v2.1, ())
| some (.inr v4) =>
 none
noncomputable def S_i_firstDue : Spec := ⟨(.pair (.list TStarter) .unit), (.pair (.own 2 (.int .i64)) .unit), .unit, rfl, i_firstDue⟩
noncomputable def σ_i_firstDue : FuncId → Option Spec := sig []
theorem σok_i_firstDue : ∀ f s, σ_i_firstDue f = some s → FnOK Try.prog f s := sig_ok (l := []) trivial
noncomputable def Λ_i_firstDue : Nat → Option LSpec := lkp (loopList (bodyOf Try.f75)) [⟨[3, 7, 8, 9], (.pair (.own 2 (.int .i64)) (.pair (.list TStarter) (.pair (.int .i64) (.pair (.int .i64) .unit)))), 0, [3], (.pair (.own 2 (.int .i64)) .unit), [], .unit, loopL b_i_firstDue_3⟩]
theorem lok_i_firstDue_3 (x) : codeK Γ0 E0 σ_i_firstDue Λ_i_firstDue Try.f75.ntmps (nthLoop Try.f75 0) (mkF Try.f75.ntmps [3, 7, 8, 9] (.pair (.own 2 (.int .i64)) (.pair (.list TStarter) (.pair (.int .i64) (.pair (.int .i64) .unit)))) x) (readK σ_i_firstDue Try.f75.ntmps [3, 7, 8, 9] (.pair (.own 2 (.int .i64)) (.pair (.list TStarter) (.pair (.int .i64) (.pair (.int .i64) .unit)))) 0 [3] (.pair (.own 2 (.int .i64)) .unit) [] .unit) = b_i_firstDue_3 x := by kernel_rfl
theorem ok_i_firstDue : FnOK Try.prog 75 S_i_firstDue := fn_ok (Λ := Λ_i_firstDue) tab0 σok_i_firstDue Try.func75 (by kernel_rfl) (show Try.f75.body = some (bodyOf Try.f75) by kernel_rfl) [⟨[3, 7, 8, 9], (.pair (.own 2 (.int .i64)) (.pair (.list TStarter) (.pair (.int .i64) (.pair (.int .i64) .unit)))), 0, [3], (.pair (.own 2 (.int .i64)) .unit), [], .unit, loopL b_i_firstDue_3⟩] rfl (by kernel_rfl) (by exact ⟨loop_LOK lok_i_firstDue_3, trivial⟩) (by kernel_rfl)
  fun x y h => (show execFn Γ0 E0 σ_i_firstDue Λ_i_firstDue Try.f75 S_i_firstDue x = i_firstDue x by kernel_rfl).trans h

noncomputable def b_i_FirstStart_5 (x : (Ty.T (.pair (.list TStarter) (.pair (.own 2 (.int .i64)) (.pair (.own 3 (.int .i64)) (.pair (.int .i64) (.pair (.int .i64) .unit))))))) : Option ((Ty.T (.pair (.list TStarter) (.pair (.own 2 (.int .i64)) (.pair (.own 3 (.int .i64)) (.pair (.int .i64) (.pair (.int .i64) .unit)))))) ⊕ ((Ty.T (.pair (.own 2 (.int .i64)) .unit)) ⊕ (Ty.T .unit))) :=
match (decide (x.2.2.2.2.1 < x.2.2.2.1)) with
| true =>
 onSome (idx x.2.2.1 x.2.2.2.2.1) fun _ =>
 match x.2.2.1[x.2.2.2.2.1.toNat]? with
 | none => none
 | some v5 =>
 onSome (idx x.1 v5) fun v6 =>
 room (x.2.1.length + [v6.1].length) (
  some (.inl (x.1, (x.2.1 ++ [v6.1]), x.2.2.1, x.2.2.2.1, (IntKind.i64.wrap (x.2.2.2.2.1 + (1 : Int))), ())))
| false =>
 some (.inr (.inl (x.2.1, ())))
noncomputable def i_FirstStart (x : Ty.T (.pair (.list TStarter) .unit)) : Option (Ty.T (.pair (.own 2 (.int .i64)) (.pair (.int .i64) .unit))) :=
match i_AreStarters (x.1, ()) with
| none => none
| some v1 =>
match (!v1.1) with
| true =>
 some ([], (1 : Int), ())
| false =>
 match i_firstDue (x.1, ()) with
 | none => none
 | some v2 =>
 match i_leastDue (v2.1, ()) with
 | none => none
 | some v3 =>
 match loopL b_i_FirstStart_5 (x.1, [], v3.1, (v3.1.length : Int), (0 : Int), ()) with
 | none => none
 | some (.inl v7) =>
  some (v7.1, (0 : Int), ())
 | some (.inr v9) =>
  none
noncomputable def S_i_FirstStart : Spec := ⟨(.pair (.list TStarter) .unit), (.pair (.own 2 (.int .i64)) (.pair (.int .i64) .unit)), .unit, rfl, i_FirstStart⟩
noncomputable def σ_i_FirstStart : FuncId → Option Spec := sig [(44, S_i_AreStarters), (74, S_i_leastDue), (75, S_i_firstDue)]
theorem σok_i_FirstStart : ∀ f s, σ_i_FirstStart f = some s → FnOK Try.prog f s := sig_ok (l := [(44, S_i_AreStarters), (74, S_i_leastDue), (75, S_i_firstDue)]) ⟨ok_i_AreStarters, ok_i_leastDue, ok_i_firstDue, trivial⟩
noncomputable def Λ_i_FirstStart : Nat → Option LSpec := lkp (loopList (bodyOf Try.f23)) [⟨[0, 4, 13, 14, 15], (.pair (.list TStarter) (.pair (.own 2 (.int .i64)) (.pair (.own 3 (.int .i64)) (.pair (.int .i64) (.pair (.int .i64) .unit))))), 0, [4], (.pair (.own 2 (.int .i64)) .unit), [], .unit, loopL b_i_FirstStart_5⟩]
theorem lok_i_FirstStart_5 (x) : codeK Γ0 E0 σ_i_FirstStart Λ_i_FirstStart Try.f23.ntmps (nthLoop Try.f23 0) (mkF Try.f23.ntmps [0, 4, 13, 14, 15] (.pair (.list TStarter) (.pair (.own 2 (.int .i64)) (.pair (.own 3 (.int .i64)) (.pair (.int .i64) (.pair (.int .i64) .unit))))) x) (readK σ_i_FirstStart Try.f23.ntmps [0, 4, 13, 14, 15] (.pair (.list TStarter) (.pair (.own 2 (.int .i64)) (.pair (.own 3 (.int .i64)) (.pair (.int .i64) (.pair (.int .i64) .unit))))) 0 [4] (.pair (.own 2 (.int .i64)) .unit) [] .unit) = b_i_FirstStart_5 x := by kernel_rfl
theorem ok_i_FirstStart : FnOK Try.prog 23 S_i_FirstStart := fn_ok (Λ := Λ_i_FirstStart) tab0 σok_i_FirstStart Try.func23 (by kernel_rfl) (show Try.f23.body = some (bodyOf Try.f23) by kernel_rfl) [⟨[0, 4, 13, 14, 15], (.pair (.list TStarter) (.pair (.own 2 (.int .i64)) (.pair (.own 3 (.int .i64)) (.pair (.int .i64) (.pair (.int .i64) .unit))))), 0, [4], (.pair (.own 2 (.int .i64)) .unit), [], .unit, loopL b_i_FirstStart_5⟩] rfl (by kernel_rfl) (by exact ⟨loop_LOK lok_i_FirstStart_5, trivial⟩) (by kernel_rfl)
  fun x y h => (show execFn Γ0 E0 σ_i_FirstStart Λ_i_FirstStart Try.f23 S_i_FirstStart x = i_FirstStart x by kernel_rfl).trans h

noncomputable def b_l_eqInt64S_4 (x : (Ty.T (.pair (.list (.int .i64)) (.pair (.list (.int .i64)) (.pair (.int .i64) .unit))))) : Option ((Ty.T (.pair (.list (.int .i64)) (.pair (.list (.int .i64)) (.pair (.int .i64) .unit)))) ⊕ ((Ty.T .unit) ⊕ (Ty.T (.pair .bool .unit)))) :=
match (decide (x.2.2.1 < (x.1.length : Int))) with
| true =>
 onSome (idx x.1 x.2.2.1) fun v1 =>
 onSome (idx x.2.1 x.2.2.1) fun v2 =>
 match (v1 != v2) with
 | true =>
  some (.inr (.inr (false, ())))
 | false =>
  some (.inl (x.1, x.2.1, (IntKind.i64.wrap (x.2.2.1 + (1 : Int))), ()))
| false =>
 some (.inr (.inl (())))
noncomputable def l_eqInt64S (x : Ty.T (.pair (.list (.int .i64)) (.pair (.list (.int .i64)) .unit))) : Option (Ty.T (.pair .bool .unit)) :=
match ((x.1.length : Int) != (x.2.1.length : Int)) with
| true =>
 some (false, ())
| false =>
 match loopL b_l_eqInt64S_4 (x.1, x.2.1, (0 : Int), ()) with
 | none => none
 | some (.inl v3) =>
  some (true, ())
 | some (.inr v4) =>
  some (v4.1, ())
noncomputable def S_l_eqInt64S : Spec := ⟨(.pair (.list (.int .i64)) (.pair (.list (.int .i64)) .unit)), (.pair .bool .unit), .unit, rfl, l_eqInt64S⟩
noncomputable def σ_l_eqInt64S : FuncId → Option Spec := sig []
theorem σok_l_eqInt64S : ∀ f s, σ_l_eqInt64S f = some s → FnOK Try.prog f s := sig_ok (l := []) trivial
noncomputable def Λ_l_eqInt64S : Nat → Option LSpec := lkp (loopList (bodyOf Try.f24)) [⟨[0, 1, 5], (.pair (.list (.int .i64)) (.pair (.list (.int .i64)) (.pair (.int .i64) .unit))), 0, [], .unit, [4], (.pair .bool .unit), loopL b_l_eqInt64S_4⟩]
theorem lok_l_eqInt64S_4 (x) : codeK Γ0 E0 σ_l_eqInt64S Λ_l_eqInt64S Try.f24.ntmps (nthLoop Try.f24 0) (mkF Try.f24.ntmps [0, 1, 5] (.pair (.list (.int .i64)) (.pair (.list (.int .i64)) (.pair (.int .i64) .unit))) x) (readK σ_l_eqInt64S Try.f24.ntmps [0, 1, 5] (.pair (.list (.int .i64)) (.pair (.list (.int .i64)) (.pair (.int .i64) .unit))) 0 [] .unit [4] (.pair .bool .unit)) = b_l_eqInt64S_4 x := by kernel_rfl
theorem ok_l_eqInt64S : FnOK Try.prog 24 S_l_eqInt64S := fn_ok (Λ := Λ_l_eqInt64S) tab0 σok_l_eqInt64S Try.func24 (by kernel_rfl) (show Try.f24.body = some (bodyOf Try.f24) by kernel_rfl) [⟨[0, 1, 5], (.pair (.list (.int .i64)) (.pair (.list (.int .i64)) (.pair (.int .i64) .unit))), 0, [], .unit, [4], (.pair .bool .unit), loopL b_l_eqInt64S_4⟩] rfl (by kernel_rfl) (by exact ⟨loop_LOK lok_l_eqInt64S_4, trivial⟩) (by kernel_rfl)
  fun x y h => (show execFn Γ0 E0 σ_l_eqInt64S Λ_l_eqInt64S Try.f24 S_l_eqInt64S x = l_eqInt64S x by kernel_rfl).trans h

noncomputable def b_l_markInt64S_2 (x : (Ty.T (.pair (.own 2 (.int .i64)) (.pair (.int .i64) (.pair (.int .i64) .unit))))) : Option ((Ty.T (.pair (.own 2 (.int .i64)) (.pair (.int .i64) (.pair (.int .i64) .unit)))) ⊕ ((Ty.T (.pair (.own 2 (.int .i64)) (.pair (.int .i64) .unit))) ⊕ (Ty.T .unit))) :=
match (decide (x.2.2.1 < (x.1.length : Int))) with
| true =>
 onSome (idx x.1 x.2.2.1) fun _ =>
 match x.1[x.2.2.1.toNat]? with
 | none => none
 | some v2 =>
 some (.inl ((x.1.set x.2.2.1.toNat x.2.1), (IntKind.i64.wrap (x.2.1 + (1 : Int))), (IntKind.i64.wrap (x.2.2.1 + (1 : Int))), ()))
| false =>
 some (.inr (.inl (x.1, x.2.1, ())))
noncomputable def l_markInt64S (x : Ty.T (.pair (.own 2 (.int .i64)) (.pair (.int .i64) .unit))) : Option (Ty.T (.pair (.int .i64) (.pair (.own 2 (.int .i64)) .unit))) :=
match loopL b_l_markInt64S_2 (x.1, x.2.1, (0 : Int), ()) with
| none => none
| some (.inl v3) =>
 some (v3.2.1, v3.1, ())
| some (.inr v5) =>
 none
noncomputable def S_l_markInt64S : Spec := ⟨(.pair (.own 2 (.int .i64)) (.pair (.int .i64) .unit)), (.pair (.int .i64) .unit), (.pair (.own 2 (.int .i64)) .unit), rfl, l_markInt64S⟩
noncomputable def σ_l_markInt64S : FuncId → Option Spec := sig []
theorem σok_l_markInt64S : ∀ f s, σ_l_markInt64S f = some s → FnOK Try.prog f s := sig_ok (l := []) trivial
noncomputable def Λ_l_markInt64S : Nat → Option LSpec := lkp (loopList (bodyOf Try.f25)) [⟨[0, 1, 5], (.pair (.own 2 (.int .i64)) (.pair (.int .i64) (.pair (.int .i64) .unit))), 0, [0, 1], (.pair (.own 2 (.int .i64)) (.pair (.int .i64) .unit)), [], .unit, loopL b_l_markInt64S_2⟩]
theorem lok_l_markInt64S_2 (x) : codeK Γ0 E0 σ_l_markInt64S Λ_l_markInt64S Try.f25.ntmps (nthLoop Try.f25 0) (mkF Try.f25.ntmps [0, 1, 5] (.pair (.own 2 (.int .i64)) (.pair (.int .i64) (.pair (.int .i64) .unit))) x) (readK σ_l_markInt64S Try.f25.ntmps [0, 1, 5] (.pair (.own 2 (.int .i64)) (.pair (.int .i64) (.pair (.int .i64) .unit))) 0 [0, 1] (.pair (.own 2 (.int .i64)) (.pair (.int .i64) .unit)) [] .unit) = b_l_markInt64S_2 x := by kernel_rfl
theorem ok_l_markInt64S : FnOK Try.prog 25 S_l_markInt64S := fn_ok (Λ := Λ_l_markInt64S) tab0 σok_l_markInt64S Try.func25 (by kernel_rfl) (show Try.f25.body = some (bodyOf Try.f25) by kernel_rfl) [⟨[0, 1, 5], (.pair (.own 2 (.int .i64)) (.pair (.int .i64) (.pair (.int .i64) .unit))), 0, [0, 1], (.pair (.own 2 (.int .i64)) (.pair (.int .i64) .unit)), [], .unit, loopL b_l_markInt64S_2⟩] rfl (by kernel_rfl) (by exact ⟨loop_LOK lok_l_markInt64S_2, trivial⟩) (by kernel_rfl)
  fun x y h => (show execFn Γ0 E0 σ_l_markInt64S Λ_l_markInt64S Try.f25 S_l_markInt64S x = l_markInt64S x by kernel_rfl).trans h

noncomputable def b_l_heldInt64S_2 (x : (Ty.T (.pair (.list (.int .i64)) (.pair (.int .i64) (.pair (.int .i64) .unit))))) : Option ((Ty.T (.pair (.list (.int .i64)) (.pair (.int .i64) (.pair (.int .i64) .unit)))) ⊕ ((Ty.T (.pair (.int .i64) .unit)) ⊕ (Ty.T (.pair (.int .i64) .unit)))) :=
match (decide (x.2.2.1 < (x.1.length : Int))) with
| true =>
 onSome (idx x.1 x.2.2.1) fun v1 =>
 match (v1 != x.2.1) with
 | true =>
  some (.inr (.inr ((-1 : Int), ())))
 | false =>
  some (.inl (x.1, (IntKind.i64.wrap (x.2.1 + (1 : Int))), (IntKind.i64.wrap (x.2.2.1 + (1 : Int))), ()))
| false =>
 some (.inr (.inl (x.2.1, ())))
noncomputable def l_heldInt64S (x : Ty.T (.pair (.list (.int .i64)) (.pair (.int .i64) .unit))) : Option (Ty.T (.pair (.int .i64) .unit)) :=
match loopL b_l_heldInt64S_2 (x.1, x.2.1, (0 : Int), ()) with
| none => none
| some (.inl v2) =>
 some (v2.1, ())
| some (.inr v3) =>
 some (v3.1, ())
noncomputable def S_l_heldInt64S : Spec := ⟨(.pair (.list (.int .i64)) (.pair (.int .i64) .unit)), (.pair (.int .i64) .unit), .unit, rfl, l_heldInt64S⟩
noncomputable def σ_l_heldInt64S : FuncId → Option Spec := sig []
theorem σok_l_heldInt64S : ∀ f s, σ_l_heldInt64S f = some s → FnOK Try.prog f s := sig_ok (l := []) trivial
noncomputable def Λ_l_heldInt64S : Nat → Option LSpec := lkp (loopList (bodyOf Try.f26)) [⟨[0, 1, 5], (.pair (.list (.int .i64)) (.pair (.int .i64) (.pair (.int .i64) .unit))), 0, [1], (.pair (.int .i64) .unit), [4], (.pair (.int .i64) .unit), loopL b_l_heldInt64S_2⟩]
theorem lok_l_heldInt64S_2 (x) : codeK Γ0 E0 σ_l_heldInt64S Λ_l_heldInt64S Try.f26.ntmps (nthLoop Try.f26 0) (mkF Try.f26.ntmps [0, 1, 5] (.pair (.list (.int .i64)) (.pair (.int .i64) (.pair (.int .i64) .unit))) x) (readK σ_l_heldInt64S Try.f26.ntmps [0, 1, 5] (.pair (.list (.int .i64)) (.pair (.int .i64) (.pair (.int .i64) .unit))) 0 [1] (.pair (.int .i64) .unit) [4] (.pair (.int .i64) .unit)) = b_l_heldInt64S_2 x := by kernel_rfl
theorem ok_l_heldInt64S : FnOK Try.prog 26 S_l_heldInt64S := fn_ok (Λ := Λ_l_heldInt64S) tab0 σok_l_heldInt64S Try.func26 (by kernel_rfl) (show Try.f26.body = some (bodyOf Try.f26) by kernel_rfl) [⟨[0, 1, 5], (.pair (.list (.int .i64)) (.pair (.int .i64) (.pair (.int .i64) .unit))), 0, [1], (.pair (.int .i64) .unit), [4], (.pair (.int .i64) .unit), loopL b_l_heldInt64S_2⟩] rfl (by kernel_rfl) (by exact ⟨loop_LOK lok_l_heldInt64S_2, trivial⟩) (by kernel_rfl)
  fun x y h => (show execFn Γ0 E0 σ_l_heldInt64S Λ_l_heldInt64S Try.f26 S_l_heldInt64S x = l_heldInt64S x by kernel_rfl).trans h

noncomputable def l_FnExactFirstStart (x : Ty.T (.pair (.list TStarter) .unit)) : Option (Ty.T (.pair .bool .unit)) :=
match l_szStarterS (x.1, (1048576 : Int), ()) with
| none => none
| some v1 =>
match (decide (v1.1 < (0 : Int))) with
| true =>
 some (true, ())
| false =>
 match l_toStarterS (x.1, ()) with
 | none => none
 | some v2 =>
 match s_FirstStart (v2.1, ()) with
 | none => none
 | some v3 =>
 match l_toStarterS (x.1, ()) with
 | none => none
 | some v4 =>
 match i_FirstStart (v4.1, ()) with
 | none => none
 | some v5 =>
 match l_eqInt64S (v5.1, v3.1, ()) with
 | none => none
 | some v6 =>
 match (!v6.1) with
 | true =>
  some (false, ())
 | false =>
  match (v5.2.1 != v3.2.1) with
  | true =>
   some (false, ())
  | false =>
   match l_toStarterS (x.1, ()) with
   | none => none
   | some v7 =>
   match l_eqStarterS (v4.1, v7.1, ()) with
   | none => none
   | some v8 =>
   match (!v8.1) with
   | true =>
    some (false, ())
   | false =>
    match l_markStarterS (v4.1, (1 : Int), ()) with
    | none => none
    | some v9 =>
    match (decide (v9.1 < (0 : Int))) with
    | true =>
     some (false, ())
    | false =>
     match l_eqInt64S (v5.1, v3.1, ()) with
     | none => none
     | some v10 =>
     match (!v10.1) with
     | true =>
      some (false, ())
     | false =>
      match (v5.2.1 != v3.2.1) with
      | true =>
       some (false, ())
      | false =>
       match l_markInt64S (v5.1, (1 : Int), ()) with
       | none => none
       | some v11 =>
       match l_heldInt64S (v11.2.1, (1 : Int), ()) with
       | none => none
       | some v12 =>
       match (decide (v12.1 < (0 : Int))) with
       | true =>
        some (false, ())
       | false =>
        match (v12.1 != v11.1) with
        | true =>
         some (false, ())
        | false =>
         match l_toStarterS (x.1, ()) with
         | none => none
         | some v13 =>
         match i_FirstStart (v13.1, ()) with
         | none => none
         | some v14 =>
         match l_eqInt64S (v14.1, v3.1, ()) with
         | none => none
         | some v15 =>
         match (!v15.1) with
         | true =>
          some (false, ())
         | false =>
          match (v14.2.1 != v3.2.1) with
          | true =>
           some (false, ())
          | false =>
           match l_heldInt64S (v11.2.1, (1 : Int), ()) with
           | none => none
           | some v16 =>
           match (decide (v16.1 < (0 : Int))) with
           | true =>
            some (false, ())
           | false =>
            match (v16.1 != v11.1) with
            | true =>
             some (false, ())
            | false =>
             some (true, ())
noncomputable def S_l_FnExactFirstStart : Spec := ⟨(.pair (.list TStarter) .unit), (.pair .bool .unit), .unit, rfl, l_FnExactFirstStart⟩
noncomputable def σ_l_FnExactFirstStart : FuncId → Option Spec := sig [(15, S_l_szStarterS), (17, S_l_toStarterS), (19, S_l_eqStarterS), (20, S_l_markStarterS), (22, S_s_FirstStart), (23, S_i_FirstStart), (24, S_l_eqInt64S), (25, S_l_markInt64S), (26, S_l_heldInt64S)]
theorem σok_l_FnExactFirstStart : ∀ f s, σ_l_FnExactFirstStart f = some s → FnOK Try.prog f s := sig_ok (l := [(15, S_l_szStarterS), (17, S_l_toStarterS), (19, S_l_eqStarterS), (20, S_l_markStarterS), (22, S_s_FirstStart), (23, S_i_FirstStart), (24, S_l_eqInt64S), (25, S_l_markInt64S), (26, S_l_heldInt64S)]) ⟨ok_l_szStarterS, ok_l_toStarterS, ok_l_eqStarterS, ok_l_markStarterS, ok_s_FirstStart, ok_i_FirstStart, ok_l_eqInt64S, ok_l_markInt64S, ok_l_heldInt64S, trivial⟩
noncomputable def Λ_l_FnExactFirstStart : Nat → Option LSpec := lkp (loopList (bodyOf Try.f4)) []
theorem ok_l_FnExactFirstStart : FnOK Try.prog 4 S_l_FnExactFirstStart := fn_ok (Λ := Λ_l_FnExactFirstStart) tab0 σok_l_FnExactFirstStart Try.func4 (by kernel_rfl) (show Try.f4.body = some (bodyOf Try.f4) by kernel_rfl) [] rfl (by kernel_rfl) (by exact trivial) (by kernel_rfl)
  fun x y h => (show execFn Γ0 E0 σ_l_FnExactFirstStart Λ_l_FnExactFirstStart Try.f4 S_l_FnExactFirstStart x = l_FnExactFirstStart x by kernel_rfl).trans h

noncomputable def b_s_l01Has_2 (x : (Ty.T (.pair (.list (.int .i64)) (.pair (.int .i64) (.pair (.int .i64) .unit))))) : Option ((Ty.T (.pair (.list (.int .i64)) (.pair (.int .i64) (.pair (.int .i64) .unit)))) ⊕ ((Ty.T .unit) ⊕ (Ty.T (.pair .bool .unit)))) :=
match (decide (x.2.2.1 < (x.1.length : Int))) with
| true =>
 onSome (idx x.1 x.2.2.1) fun v1 =>
 match (v1 == x.2.1) with
 | true =>
  some (.inr (.inr (true, ())))
 | false =>
  some (.inl (x.1, x.2.1, (IntKind.i64.wrap (x.2.2.1 + (1 : Int))), ()))
| false =>
 some (.inr (.inl (())))
noncomputable def s_l01Has (x : Ty.T (.pair (.list (.int .i64)) (.pair (.int .i64) .unit))) : Option (Ty.T (.pair .bool .unit)) :=
match loopL b_s_l01Has_2 (x.1, x.2.1, (0 : Int), ()) with
| none => none
| some (.inl v2) =>
 some (false, ())
| some (.inr v3) =>
 some (v3.1, ())
noncomputable def S_s_l01Has : Spec := ⟨(.pair (.list (.int .i64)) (.pair (.int .i64) .unit)), (.pair .bool .unit), .unit, rfl, s_l01Has⟩
noncomputable def σ_s_l01Has : FuncId → Option Spec := sig []
theorem σok_s_l01Has : ∀ f s, σ_s_l01Has f = some s → FnOK Try.prog f s := sig_ok (l := []) trivial
noncomputable def Λ_s_l01Has : Nat → Option LSpec := lkp (loopList (bodyOf Try.f122)) [⟨[0, 1, 5], (.pair (.list (.int .i64)) (.pair (.int .i64) (.pair (.int .i64) .unit))), 0, [], .unit, [4], (.pair .bool .unit), loopL b_s_l01Has_2⟩]
theorem lok_s_l01Has_2 (x) : codeK Γ0 E0 σ_s_l01Has Λ_s_l01Has Try.f122.ntmps (nthLoop Try.f122 0) (mkF Try.f122.ntmps [0, 1, 5] (.pair (.list (.int .i64)) (.pair (.int .i64) (.pair (.int .i64) .unit))) x) (readK σ_s_l01Has Try.f122.ntmps [0, 1, 5] (.pair (.list (.int .i64)) (.pair (.int .i64) (.pair (.int .i64) .unit))) 0 [] .unit [4] (.pair .bool .unit)) = b_s_l01Has_2 x := by kernel_rfl
theorem ok_s_l01Has : FnOK Try.prog 122 S_s_l01Has := fn_ok (Λ := Λ_s_l01Has) tab0 σok_s_l01Has Try.func122 (by kernel_rfl) (show Try.f122.body = some (bodyOf Try.f122) by kernel_rfl) [⟨[0, 1, 5], (.pair (.list (.int .i64)) (.pair (.int .i64) (.pair (.int .i64) .unit))), 0, [], .unit, [4], (.pair .bool .unit), loopL b_s_l01Has_2⟩] rfl (by kernel_rfl) (by exact ⟨loop_LOK lok_s_l01Has_2, trivial⟩) (by kernel_rfl)
  fun x y h => (show execFn Γ0 E0 σ_s_l01Has Λ_s_l01Has Try.f122 S_s_l01Has x = s_l01Has x by kernel_rfl).trans h

noncomputable def b_s_l31Collide_5 (x : (Ty.T (.pair (.list TStarter) (.pair (.list (.int .i64)) (.pair (.own 2 (.int .i64)) (.pair (.int .i64) (.pair (.own 2 (.int .i64)) (.pair (.int .i64) .unit)))))))) : Option ((Ty.T (.pair (.list TStarter) (.pair (.list (.int .i64)) (.pair (.own 2 (.int .i64)) (.pair (.int .i64) (.pair (.own 2 (.int .i64)) (.pair (.int .i64) .unit))))))) ⊕ ((Ty.T (.pair (.own 2 (.int .i64)) .unit)) ⊕ (Ty.T .unit))) :=
match (decide (x.2.2.2.2.2.1 < (x.2.1.length : Int))) with
| true =>
 match s_l01Has (x.2.2.1, x.2.2.2.2.2.1, ()) with
 | none => none
 | some v5 =>
 match v5.1 with
 | true =>
  onSome (idx x.1 x.2.2.2.2.2.1) fun v6 =>
  room (x.2.2.2.2.1.length + [(IntKind.i64.wrap (x.2.2.2.1 + v6.2.2.2.1))].length) (
   some (.inl (x.1, x.2.1, x.2.2.1, x.2.2.2.1, (x.2.2.2.2.1 ++ [(IntKind.i64.wrap (x.2.2.2.1 + v6.2.2.2.1))]), (IntKind.i64.wrap (x.2.2.2.2.2.1 + (1 : Int))), ())))
 | false =>
  onSome (idx x.1 x.2.2.2.2.2.1) fun v7 =>
  match (decide (v7.2.1 ≤ x.2.2.2.1)) with
  | true =>
   onSome (idx x.1 x.2.2.2.2.2.1) fun v8 =>
   room (x.2.2.2.2.1.length + [(IntKind.i64.wrap (x.2.2.2.1 + v8.2.2.1))].length) (
    some (.inl (x.1, x.2.1, x.2.2.1, x.2.2.2.1, (x.2.2.2.2.1 ++ [(IntKind.i64.wrap (x.2.2.2.1 + v8.2.2.1))]), (IntKind.i64.wrap (x.2.2.2.2.2.1 + (1 : Int))), ())))
  | false =>
   onSome (idx x.2.1 x.2.2.2.2.2.1) fun v9 =>
   room (x.2.2.2.2.1.length + [v9].length) (
    some (.inl (x.1, x.2.1, x.2.2.1, x.2.2.2.1, (x.2.2.2.2.1 ++ [v9]), (IntKind.i64.wrap (x.2.2.2.2.2.1 + (1 : Int))), ())))
| false =>
 some (.inr (.inl (x.2.2.2.2.1, ())))
noncomputable def s_l31Collide (x : Ty.T (.pair (.list TStarter) (.pair (.list (.int .i64)) .unit))) : Option (Ty.T (.pair (.own 2 (.int .i64)) .unit)) :=
match s_l31First (x.2.1, ()) with
| none => none
| some v1 =>
onSome (idx v1.1 (0 : Int)) fun _ =>
match v1.1[(0 : Int).toNat]? with
| none => none
| some v3 =>
onSome (idx x.2.1 v3) fun v4 =>
match loopL b_s_l31Collide_5 (x.1, x.2.1, v1.1, v4, [], (0 : Int), ()) with
| none => none
| some (.inl v10) =>
 some (v10.1, ())
| some (.inr v12) =>
 none
noncomputable def S_s_l31Collide : Spec := ⟨(.pair (.list TStarter) (.pair (.list (.int .i64)) .unit)), (.pair (.own 2 (.int .i64)) .unit), .unit, rfl, s_l31Collide⟩
noncomputable def σ_s_l31Collide : FuncId → Option Spec := sig [(72, S_s_l31First), (122, S_s_l01Has)]
theorem σok_s_l31Collide : ∀ f s, σ_s_l31Collide f = some s → FnOK Try.prog f s := sig_ok (l := [(72, S_s_l31First), (122, S_s_l01Has)]) ⟨ok_s_l31First, ok_s_l01Has, trivial⟩
noncomputable def Λ_s_l31Collide : Nat → Option LSpec := lkp (loopList (bodyOf Try.f87)) [⟨[0, 1, 5, 6, 7, 8], (.pair (.list TStarter) (.pair (.list (.int .i64)) (.pair (.own 2 (.int .i64)) (.pair (.int .i64) (.pair (.own 2 (.int .i64)) (.pair (.int .i64) .unit)))))), 0, [7], (.pair (.own 2 (.int .i64)) .unit), [], .unit, loopL b_s_l31Collide_5⟩]
theorem lok_s_l31Collide_5 (x) : codeK Γ0 E0 σ_s_l31Collide Λ_s_l31Collide Try.f87.ntmps (nthLoop Try.f87 0) (mkF Try.f87.ntmps [0, 1, 5, 6, 7, 8] (.pair (.list TStarter) (.pair (.list (.int .i64)) (.pair (.own 2 (.int .i64)) (.pair (.int .i64) (.pair (.own 2 (.int .i64)) (.pair (.int .i64) .unit)))))) x) (readK σ_s_l31Collide Try.f87.ntmps [0, 1, 5, 6, 7, 8] (.pair (.list TStarter) (.pair (.list (.int .i64)) (.pair (.own 2 (.int .i64)) (.pair (.int .i64) (.pair (.own 2 (.int .i64)) (.pair (.int .i64) .unit)))))) 0 [7] (.pair (.own 2 (.int .i64)) .unit) [] .unit) = b_s_l31Collide_5 x := by kernel_rfl
theorem ok_s_l31Collide : FnOK Try.prog 87 S_s_l31Collide := fn_ok (Λ := Λ_s_l31Collide) tab0 σok_s_l31Collide Try.func87 (by kernel_rfl) (show Try.f87.body = some (bodyOf Try.f87) by kernel_rfl) [⟨[0, 1, 5, 6, 7, 8], (.pair (.list TStarter) (.pair (.list (.int .i64)) (.pair (.own 2 (.int .i64)) (.pair (.int .i64) (.pair (.own 2 (.int .i64)) (.pair (.int .i64) .unit)))))), 0, [7], (.pair (.own 2 (.int .i64)) .unit), [], .unit, loopL b_s_l31Collide_5⟩] rfl (by kernel_rfl) (by exact ⟨loop_LOK lok_s_l31Collide_5, trivial⟩) (by kernel_rfl)
  fun x y h => (show execFn Γ0 E0 σ_s_l31Collide Λ_s_l31Collide Try.f87 S_s_l31Collide x = s_l31Collide x by kernel_rfl).trans h

noncomputable def b_s_l31Leader_3 (x : (Ty.T (.pair (.list TStarter) (.pair (.own 2 (.int .i64)) (.pair (.int .i64) .unit))))) : Option ((Ty.T (.pair (.list TStarter) (.pair (.own 2 (.int .i64)) (.pair (.int .i64) .unit)))) ⊕ ((Ty.T .unit) ⊕ (Ty.T (.pair (.int .i64) (.pair (.int .i64) (.pair (.int .i64) .unit)))))) :=
match (decide (x.2.2.1 ≤ (50 : Int))) with
| true =>
 match s_l31First (x.2.1, ()) with
 | none => none
 | some v2 =>
 match ((v2.1.length : Int) == (1 : Int)) with
 | true =>
  onSome (idx v2.1 (0 : Int)) fun _ =>
  match v2.1[(0 : Int).toNat]? with
  | none => none
  | some v4 =>
  onSome (idx v2.1 (0 : Int)) fun _ =>
  match v2.1[(0 : Int).toNat]? with
  | none => none
  | some v6 =>
  onSome (idx x.2.1 v6) fun _ =>
  match x.2.1[v6.toNat]? with
  | none => none
  | some v8 =>
  some (.inr (.inr (v4, v8, x.2.2.1, ())))
 | false =>
  match s_l31Collide (x.1, x.2.1, ()) with
  | none => none
  | some v9 =>
  some (.inl (x.1, v9.1, (IntKind.i64.wrap (x.2.2.1 + (1 : Int))), ()))
| false =>
 some (.inr (.inl (())))
noncomputable def s_l31Leader (x : Ty.T (.pair (.list TStarter) .unit)) : Option (Ty.T (.pair (.int .i64) (.pair (.int .i64) (.pair (.int .i64) .unit)))) :=
match s_l31Due (x.1, ()) with
| none => none
| some v1 =>
match loopL b_s_l31Leader_3 (x.1, v1.1, (0 : Int), ()) with
| none => none
| some (.inl v10) =>
 some ((-1 : Int), (0 : Int), (0 : Int), ())
| some (.inr v11) =>
 some (v11.1, v11.2.1, v11.2.2.1, ())
noncomputable def S_s_l31Leader : Spec := ⟨(.pair (.list TStarter) .unit), (.pair (.int .i64) (.pair (.int .i64) (.pair (.int .i64) .unit))), .unit, rfl, s_l31Leader⟩
noncomputable def σ_s_l31Leader : FuncId → Option Spec := sig [(72, S_s_l31First), (73, S_s_l31Due), (87, S_s_l31Collide)]
theorem σok_s_l31Leader : ∀ f s, σ_s_l31Leader f = some s → FnOK Try.prog f s := sig_ok (l := [(72, S_s_l31First), (73, S_s_l31Due), (87, S_s_l31Collide)]) ⟨ok_s_l31First, ok_s_l31Due, ok_s_l31Collide, trivial⟩
noncomputable def Λ_s_l31Leader : Nat → Option LSpec := lkp (loopList (bodyOf Try.f76)) [⟨[0, 5, 6], (.pair (.list TStarter) (.pair (.own 2 (.int .i64)) (.pair (.int .i64) .unit))), 0, [], .unit, [2, 3, 4], (.pair (.int .i64) (.pair (.int .i64) (.pair (.int .i64) .unit))), loopL b_s_l31Leader_3⟩]
theorem lok_s_l31Leader_3 (x) : codeK Γ0 E0 σ_s_l31Leader Λ_s_l31Leader Try.f76.ntmps (nthLoop Try.f76 0) (mkF Try.f76.ntmps [0, 5, 6] (.pair (.list TStarter) (.pair (.own 2 (.int .i64)) (.pair (.int .i64) .unit))) x) (readK σ_s_l31Leader Try.f76.ntmps [0, 5, 6] (.pair (.list TStarter) (.pair (.own 2 (.int .i64)) (.pair (.int .i64) .unit))) 0 [] .unit [2, 3, 4] (.pair (.int .i64) (.pair (.int .i64) (.pair (.int .i64) .unit)))) = b_s_l31Leader_3 x := by kernel_rfl
theorem ok_s_l31Leader : FnOK Try.prog 76 S_s_l31Leader := fn_ok (Λ := Λ_s_l31Leader) tab0 σok_s_l31Leader Try.func76 (by kernel_rfl) (show Try.f76.body = some (bodyOf Try.f76) by kernel_rfl) [⟨[0, 5, 6], (.pair (.list TStarter) (.pair (.own 2 (.int .i64)) (.pair (.int .i64) .unit))), 0, [], .unit, [2, 3, 4], (.pair (.int .i64) (.pair (.int .i64) (.pair (.int .i64) .unit))), loopL b_s_l31Leader_3⟩] rfl (by kernel_rfl) (by exact ⟨loop_LOK lok_s_l31Leader_3, trivial⟩) (by kernel_rfl)
  fun x y h => (show execFn Γ0 E0 σ_s_l31Leader Λ_s_l31Leader Try.f76 S_s_l31Leader x = s_l31Leader x by kernel_rfl).trans h

noncomputable def s_LeaderOf (x : Ty.T (.pair (.list TStarter) .unit)) : Option (Ty.T TStarter) :=
match s_AreStarters (x.1, ()) with
| none => none
| some v1 =>
match (!v1.1) with
| true =>
 some ((0 : Int), (0 : Int), (0 : Int), (1 : Int), ())
| false =>
 match s_l31Leader (x.1, ()) with
 | none => none
 | some v2 =>
 match (decide (v2.1 < (0 : Int))) with
 | true =>
  some ((0 : Int), (0 : Int), (0 : Int), (3 : Int), ())
 | false =>
  onSome (idx x.1 v2.1) fun v3 =>
  some (v3.1, v2.2.1, v2.2.2.1, (0 : Int), ())
noncomputable def S_s_LeaderOf : Spec := ⟨(.pair (.list TStarter) .unit), TStarter, .unit, rfl, s_LeaderOf⟩
noncomputable def σ_s_LeaderOf : FuncId → Option Spec := sig [(45, S_s_AreStarters), (76, S_s_l31Leader)]
theorem σok_s_LeaderOf : ∀ f s, σ_s_LeaderOf f = some s → FnOK Try.prog f s := sig_ok (l := [(45, S_s_AreStarters), (76, S_s_l31Leader)]) ⟨ok_s_AreStarters, ok_s_l31Leader, trivial⟩
noncomputable def Λ_s_LeaderOf : Nat → Option LSpec := lkp (loopList (bodyOf Try.f27)) []
theorem ok_s_LeaderOf : FnOK Try.prog 27 S_s_LeaderOf := fn_ok (Λ := Λ_s_LeaderOf) tab0 σok_s_LeaderOf Try.func27 (by kernel_rfl) (show Try.f27.body = some (bodyOf Try.f27) by kernel_rfl) [] rfl (by kernel_rfl) (by exact trivial) (by kernel_rfl)
  fun x y h => (show execFn Γ0 E0 σ_s_LeaderOf Λ_s_LeaderOf Try.f27 S_s_LeaderOf x = s_LeaderOf x by kernel_rfl).trans h

noncomputable def slices_Clone_int64 (x : Ty.T (.pair (.list (.int .i64)) .unit)) : Option (Ty.T (.pair (.own 2 (.int .i64)) .unit)) :=
nilK x.1 fun v1 =>
match v1 with
| true =>
 some ([], ())
| false =>
 room (([] : List (Ty.T (.int .i64))).length + x.1.length) (
  some ((([] : List (Ty.T (.int .i64))) ++ x.1), ()))
noncomputable def S_slices_Clone_int64 : Spec := ⟨(.pair (.list (.int .i64)) .unit), (.pair (.own 2 (.int .i64)) .unit), .unit, rfl, slices_Clone_int64⟩
noncomputable def σ_slices_Clone_int64 : FuncId → Option Spec := sig []
theorem σok_slices_Clone_int64 : ∀ f s, σ_slices_Clone_int64 f = some s → FnOK Try.prog f s := sig_ok (l := []) trivial
noncomputable def Λ_slices_Clone_int64 : Nat → Option LSpec := lkp (loopList (bodyOf Try.f123)) []
theorem ok_slices_Clone_int64 : FnOK Try.prog 123 S_slices_Clone_int64 := fn_ok (Λ := Λ_slices_Clone_int64) tab0 σok_slices_Clone_int64 Try.func123 (by kernel_rfl) (show Try.f123.body = some (bodyOf Try.f123) by kernel_rfl) [] rfl (by kernel_rfl) (by exact trivial) (by kernel_rfl)
  fun x y h => (show execFn Γ0 E0 σ_slices_Clone_int64 Λ_slices_Clone_int64 Try.f123 S_slices_Clone_int64 x = slices_Clone_int64 x by kernel_rfl).trans h

noncomputable def b_i_collide_3 (x : (Ty.T (.pair (.list (.int .i64)) (.pair (.int .i64) (.pair (.own 2 (.int .i64)) (.pair (.list TStarter) (.pair (.int .i64) (.pair (.int .i64) .unit)))))))) : Option ((Ty.T (.pair (.list (.int .i64)) (.pair (.int .i64) (.pair (.own 2 (.int .i64)) (.pair (.list TStarter) (.pair (.int .i64) (.pair (.int .i64) .unit))))))) ⊕ ((Ty.T (.pair (.own 2 (.int .i64)) .unit)) ⊕ (Ty.T .unit))) :=
match (decide (x.2.2.2.2.2.1 < x.2.2.2.2.1)) with
| true =>
 onSome (idx x.2.2.2.1 x.2.2.2.2.2.1) fun v3 =>
 onSome (idx x.1 x.2.2.2.2.2.1) fun v4 =>
 match (v4 == x.2.1) with
 | true =>
  onSome (idx x.2.2.1 x.2.2.2.2.2.1) fun _ =>
  match x.2.2.1[x.2.2.2.2.2.1.toNat]? with
  | none => none
  | some v6 =>
  some (.inl (x.1, x.2.1, (x.2.2.1.set x.2.2.2.2.2.1.toNat (IntKind.i64.wrap (x.2.1 + v3.2.2.2.1))), x.2.2.2.1, x.2.2.2.2.1, (IntKind.i64.wrap (x.2.2.2.2.2.1 + (1 : Int))), ()))
 | false =>
  match (decide (v3.2.1 ≤ x.2.1)) with
  | true =>
   onSome (idx x.2.2.1 x.2.2.2.2.2.1) fun _ =>
   match x.2.2.1[x.2.2.2.2.2.1.toNat]? with
   | none => none
   | some v8 =>
   some (.inl (x.1, x.2.1, (x.2.2.1.set x.2.2.2.2.2.1.toNat (IntKind.i64.wrap (x.2.1 + v3.2.2.1))), x.2.2.2.1, x.2.2.2.2.1, (IntKind.i64.wrap (x.2.2.2.2.2.1 + (1 : Int))), ()))
  | false =>
   some (.inl (x.1, x.2.1, x.2.2.1, x.2.2.2.1, x.2.2.2.2.1, (IntKind.i64.wrap (x.2.2.2.2.2.1 + (1 : Int))), ()))
| false =>
 some (.inr (.inl (x.2.2.1, ())))
noncomputable def i_collide (x : Ty.T (.pair (.list TStarter) (.pair (.list (.int .i64)) .unit))) : Option (Ty.T (.pair (.own 2 (.int .i64)) .unit)) :=
match slices_Min_int64 (x.2.1, ()) with
| none => none
| some v1 =>
match slices_Clone_int64 (x.2.1, ()) with
| none => none
| some v2 =>
match loopL b_i_collide_3 (x.2.1, v1.1, v2.1, x.1, (x.1.length : Int), (0 : Int), ()) with
| none => none
| some (.inl v9) =>
 some (v9.1, ())
| some (.inr v11) =>
 none
noncomputable def S_i_collide : Spec := ⟨(.pair (.list TStarter) (.pair (.list (.int .i64)) .unit)), (.pair (.own 2 (.int .i64)) .unit), .unit, rfl, i_collide⟩
noncomputable def σ_i_collide : FuncId → Option Spec := sig [(116, S_slices_Min_int64), (123, S_slices_Clone_int64)]
theorem σok_i_collide : ∀ f s, σ_i_collide f = some s → FnOK Try.prog f s := sig_ok (l := [(116, S_slices_Min_int64), (123, S_slices_Clone_int64)]) ⟨ok_slices_Min_int64, ok_slices_Clone_int64, trivial⟩
noncomputable def Λ_i_collide : Nat → Option LSpec := lkp (loopList (bodyOf Try.f89)) [⟨[1, 5, 6, 13, 14, 15], (.pair (.list (.int .i64)) (.pair (.int .i64) (.pair (.own 2 (.int .i64)) (.pair (.list TStarter) (.pair (.int .i64) (.pair (.int .i64) .unit)))))), 0, [6], (.pair (.own 2 (.int .i64)) .unit), [], .unit, loopL b_i_collide_3⟩]
theorem lok_i_collide_3 (x) : codeK Γ0 E0 σ_i_collide Λ_i_collide Try.f89.ntmps (nthLoop Try.f89 0) (mkF Try.f89.ntmps [1, 5, 6, 13, 14, 15] (.pair (.list (.int .i64)) (.pair (.int .i64) (.pair (.own 2 (.int .i64)) (.pair (.list TStarter) (.pair (.int .i64) (.pair (.int .i64) .unit)))))) x) (readK σ_i_collide Try.f89.ntmps [1, 5, 6, 13, 14, 15] (.pair (.list (.int .i64)) (.pair (.int .i64) (.pair (.own 2 (.int .i64)) (.pair (.list TStarter) (.pair (.int .i64) (.pair (.int .i64) .unit)))))) 0 [6] (.pair (.own 2 (.int .i64)) .unit) [] .unit) = b_i_collide_3 x := by kernel_rfl
theorem ok_i_collide : FnOK Try.prog 89 S_i_collide := fn_ok (Λ := Λ_i_collide) tab0 σok_i_collide Try.func89 (by kernel_rfl) (show Try.f89.body = some (bodyOf Try.f89) by kernel_rfl) [⟨[1, 5, 6, 13, 14, 15], (.pair (.list (.int .i64)) (.pair (.int .i64) (.pair (.own 2 (.int .i64)) (.pair (.list TStarter) (.pair (.int .i64) (.pair (.int .i64) .unit)))))), 0, [6], (.pair (.own 2 (.int .i64)) .unit), [], .unit, loopL b_i_collide_3⟩] rfl (by kernel_rfl) (by exact ⟨loop_LOK lok_i_collide_3, trivial⟩) (by kernel_rfl)
  fun x y h => (show execFn Γ0 E0 σ_i_collide Λ_i_collide Try.f89 S_i_collide x = i_collide x by kernel_rfl).trans h

noncomputable def b_i_startup_3 (x : (Ty.T (.pair (.list TStarter) (.pair (.own 2 (.int .i64)) (.pair (.int .i64) .unit))))) : Option ((Ty.T (.pair (.list TStarter) (.pair (.own 2 (.int .i64)) (.pair (.int .i64) .unit)))) ⊕ ((Ty.T .unit) ⊕ (Ty.T (.pair (.int .i64) (.pair (.int .i64) (.pair (.int .i64) (.pair .bool .unit))))))) :=
match (decide (x.2.2.1 < (51 : Int))) with
| true =>
 match i_leastDue (x.2.1, ()) with
 | none => none
 | some v2 =>
 match ((v2.1.length : Int) == (1 : Int)) with
 | true =>
  onSome (idx v2.1 (0 : Int)) fun _ =>
  match v2.1[(0 : Int).toNat]? with
  | none => none
  | some v4 =>
  onSome (idx v2.1 (0 : Int)) fun _ =>
  match v2.1[(0 : Int).toNat]? with
  | none => none
  | some v6 =>
  onSome (idx x.2.1 v6) fun _ =>
  match x.2.1[v6.toNat]? with
  | none => none
  | some v8 =>
  some (.inr (.inr (v4, v8, x.2.2.1, true, ())))
 | false =>
  match i_collide (x.1, x.2.1, ()) with
  | none => none
  | some v9 =>
  some (.inl (x.1, v9.1, (IntKind.i64.wrap (x.2.2.1 + (1 : Int))), ()))
| false =>
 some (.inr (.inl (())))
noncomputable def i_startup (x : Ty.T (.pair (.list TStarter) .unit)) : Option (Ty.T (.pair (.int .i64) (.pair (.int .i64) (.pair (.int .i64) (.pair .bool .unit))))) :=
match i_firstDue (x.1, ()) with
| none => none
| some v1 =>
match loopL b_i_startup_3 (x.1, v1.1, (0 : Int), ()) with
| none => none
| some (.inl v10) =>
 some ((0 : Int), (0 : Int), (0 : Int), false, ())
| some (.inr v11) =>
 some (v11.1, v11.2.1, v11.2.2.1, v11.2.2.2.1, ())
noncomputable def S_i_startup : Spec := ⟨(.pair (.list TStarter) .unit), (.pair (.int .i64) (.pair (.int .i64) (.pair (.int .i64) (.pair .bool .unit)))), .unit, rfl, i_startup⟩
noncomputable def σ_i_startup : FuncId → Option Spec := sig [(74, S_i_leastDue), (75, S_i_firstDue), (89, S_i_collide)]
theorem σok_i_startup : ∀ f s, σ_i_startup f = some s → FnOK Try.prog f s := sig_ok (l := [(74, S_i_leastDue), (75, S_i_firstDue), (89, S_i_collide)]) ⟨ok_i_leastDue, ok_i_firstDue, ok_i_collide, trivial⟩
noncomputable def Λ_i_startup : Nat → Option LSpec := lkp (loopList (bodyOf Try.f77)) [⟨[0, 6, 11], (.pair (.list TStarter) (.pair (.own 2 (.int .i64)) (.pair (.int .i64) .unit))), 0, [], .unit, [2, 3, 4, 5], (.pair (.int .i64) (.pair (.int .i64) (.pair (.int .i64) (.pair .bool .unit)))), loopL b_i_startup_3⟩]
theorem lok_i_startup_3 (x) : codeK Γ0 E0 σ_i_startup Λ_i_startup Try.f77.ntmps (nthLoop Try.f77 0) (mkF Try.f77.ntmps [0, 6, 11] (.pair (.list TStarter) (.pair (.own 2 (.int .i64)) (.pair (.int .i64) .unit))) x) (readK σ_i_startup Try.f77.ntmps [0, 6, 11] (.pair (.list TStarter) (.pair (.own 2 (.int .i64)) (.pair (.int .i64) .unit))) 0 [] .unit [2, 3, 4, 5] (.pair (.int .i64) (.pair (.int .i64) (.pair (.int .i64) (.pair .bool .unit))))) = b_i_startup_3 x := by kernel_rfl
theorem ok_i_startup : FnOK Try.prog 77 S_i_startup := fn_ok (Λ := Λ_i_startup) tab0 σok_i_startup Try.func77 (by kernel_rfl) (show Try.f77.body = some (bodyOf Try.f77) by kernel_rfl) [⟨[0, 6, 11], (.pair (.list TStarter) (.pair (.own 2 (.int .i64)) (.pair (.int .i64) .unit))), 0, [], .unit, [2, 3, 4, 5], (.pair (.int .i64) (.pair (.int .i64) (.pair (.int .i64) (.pair .bool .unit)))), loopL b_i_startup_3⟩] rfl (by kernel_rfl) (by exact ⟨loop_LOK lok_i_startup_3, trivial⟩) (by kernel_rfl)
  fun x y h => (show execFn Γ0 E0 σ_i_startup Λ_i_startup Try.f77 S_i_startup x = i_startup x by kernel_rfl).trans h

noncomputable def i_LeaderOf (x : Ty.T (.pair (.list TStarter) .unit)) : Option (Ty.T TStarter) :=
match i_AreStarters (x.1, ()) with
| none => none
| some v1 =>
match (!v1.1) with
| true =>
 some ((0 : Int), (0 : Int), (0 : Int), (1 : Int), ())
| false =>
 match i_startup (x.1, ()) with
 | none => none
 | some v2 =>
 match (!v2.2.2.2.1) with
 | true =>
  some ((0 : Int), (0 : Int), (0 : Int), (3 : Int), ())
 | false =>
  onSome (idx x.1 v2.1) fun v3 =>
  some (v3.1, v2.2.1, v2.2.2.1, (0 : Int), ())
noncomputable def S_i_LeaderOf : Spec := ⟨(.pair (.list TStarter) .unit), TStarter, .unit, rfl, i_LeaderOf⟩
noncomputable def σ_i_LeaderOf : FuncId → Option Spec := sig [(44, S_i_AreStarters), (77, S_i_startup)]
theorem σok_i_LeaderOf : ∀ f s, σ_i_LeaderOf f = some s → FnOK Try.prog f s := sig_ok (l := [(44, S_i_AreStarters), (77, S_i_startup)]) ⟨ok_i_AreStarters, ok_i_startup, trivial⟩
noncomputable def Λ_i_LeaderOf : Nat → Option LSpec := lkp (loopList (bodyOf Try.f28)) []
theorem ok_i_LeaderOf : FnOK Try.prog 28 S_i_LeaderOf := fn_ok (Λ := Λ_i_LeaderOf) tab0 σok_i_LeaderOf Try.func28 (by kernel_rfl) (show Try.f28.body = some (bodyOf Try.f28) by kernel_rfl) [] rfl (by kernel_rfl) (by exact trivial) (by kernel_rfl)
  fun x y h => (show execFn Γ0 E0 σ_i_LeaderOf Λ_i_LeaderOf Try.f28 S_i_LeaderOf x = i_LeaderOf x by kernel_rfl).trans h

noncomputable def l_FnExactLeaderOf (x : Ty.T (.pair (.list TStarter) .unit)) : Option (Ty.T (.pair .bool .unit)) :=
match l_szStarterS (x.1, (1048576 : Int), ()) with
| none => none
| some v1 =>
match (decide (v1.1 < (0 : Int))) with
| true =>
 some (true, ())
| false =>
 match l_toStarterS (x.1, ()) with
 | none => none
 | some v2 =>
 match s_LeaderOf (v2.1, ()) with
 | none => none
 | some v3 =>
 match l_toStarterS (x.1, ()) with
 | none => none
 | some v4 =>
 match i_LeaderOf (v4.1, ()) with
 | none => none
 | some v5 =>
 match (v5.1 != v3.1) with
 | true =>
  some (false, ())
 | false =>
  match (v5.2.1 != v3.2.1) with
  | true =>
   some (false, ())
  | false =>
   match (v5.2.2.1 != v3.2.2.1) with
   | true =>
    some (false, ())
   | false =>
    match (v5.2.2.2.1 != v3.2.2.2.1) with
    | true =>
     some (false, ())
    | false =>
     match l_toStarterS (x.1, ()) with
     | none => none
     | some v6 =>
     match l_eqStarterS (v4.1, v6.1, ()) with
     | none => none
     | some v7 =>
     match (!v7.1) with
     | true =>
      some (false, ())
     | false =>
      some (true, ())
noncomputable def S_l_FnExactLeaderOf : Spec := ⟨(.pair (.list TStarter) .unit), (.pair .bool .unit), .unit, rfl, l_FnExactLeaderOf⟩
noncomputable def σ_l_FnExactLeaderOf : FuncId → Option Spec := sig [(15, S_l_szStarterS), (17, S_l_toStarterS), (19, S_l_eqStarterS), (27, S_s_LeaderOf), (28, S_i_LeaderOf)]
theorem σok_l_FnExactLeaderOf : ∀ f s, σ_l_FnExactLeaderOf f = some s → FnOK Try.prog f s := sig_ok (l := [(15, S_l_szStarterS), (17, S_l_toStarterS), (19, S_l_eqStarterS), (27, S_s_LeaderOf), (28, S_i_LeaderOf)]) ⟨ok_l_szStarterS, ok_l_toStarterS, ok_l_eqStarterS, ok_s_LeaderOf, ok_i_LeaderOf, trivial⟩
noncomputable def Λ_l_FnExactLeaderOf : Nat → Option LSpec := lkp (loopList (bodyOf Try.f5)) []
theorem ok_l_FnExactLeaderOf : FnOK Try.prog 5 S_l_FnExactLeaderOf := fn_ok (Λ := Λ_l_FnExactLeaderOf) tab0 σok_l_FnExactLeaderOf Try.func5 (by kernel_rfl) (show Try.f5.body = some (bodyOf Try.f5) by kernel_rfl) [] rfl (by kernel_rfl) (by exact trivial) (by kernel_rfl)
  fun x y h => (show execFn Γ0 E0 σ_l_FnExactLeaderOf Λ_l_FnExactLeaderOf Try.f5 S_l_FnExactLeaderOf x = l_FnExactLeaderOf x by kernel_rfl).trans h

noncomputable def l_big (x : Ty.T (.pair (.list (.int .u8)) .unit)) : Option (Ty.T (.pair .bool .unit)) :=
some ((decide ((x.1.length : Int) > (4096 : Int))), ())
noncomputable def S_l_big : Spec := ⟨(.pair (.list (.int .u8)) .unit), (.pair .bool .unit), .unit, rfl, l_big⟩
noncomputable def σ_l_big : FuncId → Option Spec := sig []
theorem σok_l_big : ∀ f s, σ_l_big f = some s → FnOK Try.prog f s := sig_ok (l := []) trivial
noncomputable def Λ_l_big : Nat → Option LSpec := lkp (loopList (bodyOf Try.f29)) []
theorem ok_l_big : FnOK Try.prog 29 S_l_big := fn_ok (Λ := Λ_l_big) tab0 σok_l_big Try.func29 (by kernel_rfl) (show Try.f29.body = some (bodyOf Try.f29) by kernel_rfl) [] rfl (by kernel_rfl) (by exact trivial) (by kernel_rfl)
  fun x y h => (show execFn Γ0 E0 σ_l_big Λ_l_big Try.f29 S_l_big x = l_big x by kernel_rfl).trans h

noncomputable def b_s_l01From_3 (x : (Ty.T (.pair (.list (.int .u8)) (.pair (.box Tl01Source) (.pair (.int .i64) .unit))))) : Option ((Ty.T (.pair (.list (.int .u8)) (.pair (.box Tl01Source) (.pair (.int .i64) .unit)))) ⊕ ((Ty.T (.pair (.box Tl01Source) .unit)) ⊕ (Ty.T .unit))) :=
match (decide (x.2.2.1 < (x.1.length : Int))) with
| true =>
 match (decide (x.2.2.1 < (64 : Int))) with
 | true =>
  onSome (idx x.1 x.2.2.1) fun v1 =>
  some (.inl (x.1, (x.2.1.1, x.2.1.2.1, (Int.tmod (IntKind.i64.wrap ((IntKind.i64.wrap (x.2.1.2.2.1 * (53 : Int))) + (IntKind.i64.wrap v1))) (2147483647 : Int)), ()), (IntKind.i64.wrap (x.2.2.1 + (1 : Int))), ()))
 | false =>
  some (.inr (.inl ((x.2.1.1, x.2.1.2.1, x.2.1.2.2.1, ()), ())))
| false =>
 some (.inr (.inl ((x.2.1.1, x.2.1.2.1, x.2.1.2.2.1, ()), ())))
noncomputable def s_l01From (x : Ty.T (.pair (.list (.int .u8)) .unit)) : Option (Ty.T (.pair (.box Tl01Source) .unit)) :=
match loopL b_s_l01From_3 (x.1, (x.1, (0 : Int), (40009 : Int), ()), (0 : Int), ()) with
| none => none
| some (.inl v2) =>
 some ((v2.1.1, v2.1.2.1, v2.1.2.2.1, ()), ())
| some (.inr v4) =>
 none
noncomputable def S_s_l01From : Spec := ⟨(.pair (.list (.int .u8)) .unit), (.pair (.box Tl01Source) .unit), .unit, rfl, s_l01From⟩
noncomputable def σ_s_l01From : FuncId → Option Spec := sig []
theorem σok_s_l01From : ∀ f s, σ_s_l01From f = some s → FnOK Try.prog f s := sig_ok (l := []) trivial
noncomputable def Λ_s_l01From : Nat → Option LSpec := lkp (loopList (bodyOf Try.f78)) [⟨[0, 3, 4], (.pair (.list (.int .u8)) (.pair (.box Tl01Source) (.pair (.int .i64) .unit))), 0, [3], (.pair (.box Tl01Source) .unit), [], .unit, loopL b_s_l01From_3⟩]
theorem lok_s_l01From_3 (x) : codeK Γ0 E0 σ_s_l01From Λ_s_l01From Try.f78.ntmps (nthLoop Try.f78 0) (mkF Try.f78.ntmps [0, 3, 4] (.pair (.list (.int .u8)) (.pair (.box Tl01Source) (.pair (.int .i64) .unit))) x) (readK σ_s_l01From Try.f78.ntmps [0, 3, 4] (.pair (.list (.int .u8)) (.pair (.box Tl01Source) (.pair (.int .i64) .unit))) 0 [3] (.pair (.box Tl01Source) .unit) [] .unit) = b_s_l01From_3 x := by kernel_rfl
theorem ok_s_l01From : FnOK Try.prog 78 S_s_l01From := fn_ok (Λ := Λ_s_l01From) tab0 σok_s_l01From Try.func78 (by kernel_rfl) (show Try.f78.body = some (bodyOf Try.f78) by kernel_rfl) [⟨[0, 3, 4], (.pair (.list (.int .u8)) (.pair (.box Tl01Source) (.pair (.int .i64) .unit))), 0, [3], (.pair (.box Tl01Source) .unit), [], .unit, loopL b_s_l01From_3⟩] rfl (by kernel_rfl) (by exact ⟨loop_LOK lok_s_l01From_3, trivial⟩) (by kernel_rfl)
  fun x y h => (show execFn Γ0 E0 σ_s_l01From Λ_s_l01From Try.f78 S_s_l01From x = s_l01From x by kernel_rfl).trans h

noncomputable def s_l01Next (x : Ty.T (.pair (.box Tl01Source) (.pair (.int .i64) .unit))) : Option (Ty.T (.pair (.int .i64) (.pair (.box Tl01Source) .unit))) :=
match (decide (x.2.1 ≤ (1 : Int))) with
| true =>
 some ((0 : Int), (x.1.1, x.1.2.1, x.1.2.2.1, ()), ())
| false =>
 match (decide (x.1.2.1 < (x.1.1.length : Int))) with
 | true =>
  onSome (idx x.1.1 x.1.2.1) fun v1 =>
  match (decide (x.2.1 ≤ (256 : Int))) with
  | true =>
   match ((Int.tmod (IntKind.i64.wrap (x.1.2.1 + (1 : Int))) (2 : Int)) == (0 : Int)) with
   | true =>
    onSome (idx x.1.1 (IntKind.i64.wrap ((IntKind.i64.wrap (x.1.2.1 + (1 : Int))) - (1 : Int)))) fun v2 =>
    if x.2.1 = 0 then none else
    some ((Int.tmod (IntKind.i64.wrap v2) x.2.1), (x.1.1, (IntKind.i64.wrap (x.1.2.1 + (1 : Int))), (Int.tmod (IntKind.i64.wrap ((IntKind.i64.wrap (x.1.2.2.1 * (48271 : Int))) + (17 : Int))) (2147483647 : Int)), ()), ())
   | false =>
    if x.2.1 = 0 then none else
    some ((Int.tmod (IntKind.i64.wrap ((IntKind.i64.wrap (Int.tdiv (Int.tmod (IntKind.i64.wrap ((IntKind.i64.wrap (x.1.2.2.1 * (48271 : Int))) + (17 : Int))) (2147483647 : Int)) (23 : Int))) + (IntKind.i64.wrap v1))) x.2.1), (x.1.1, (IntKind.i64.wrap (x.1.2.1 + (1 : Int))), (Int.tmod (IntKind.i64.wrap ((IntKind.i64.wrap (x.1.2.2.1 * (48271 : Int))) + (17 : Int))) (2147483647 : Int)), ()), ())
  | false =>
   if x.2.1 = 0 then none else
   some ((Int.tmod (IntKind.i64.wrap ((IntKind.i64.wrap (Int.tdiv (Int.tmod (IntKind.i64.wrap ((IntKind.i64.wrap (x.1.2.2.1 * (48271 : Int))) + (17 : Int))) (2147483647 : Int)) (23 : Int))) + (IntKind.i64.wrap v1))) x.2.1), (x.1.1, (IntKind.i64.wrap (x.1.2.1 + (1 : Int))), (Int.tmod (IntKind.i64.wrap ((IntKind.i64.wrap (x.1.2.2.1 * (48271 : Int))) + (17 : Int))) (2147483647 : Int)), ()), ())
 | false =>
  if x.2.1 = 0 then none else
  some ((Int.tmod (IntKind.i64.wrap (Int.tdiv (Int.tmod (IntKind.i64.wrap ((IntKind.i64.wrap (x.1.2.2.1 * (48271 : Int))) + (17 : Int))) (2147483647 : Int)) (23 : Int))) x.2.1), (x.1.1, x.1.2.1, (Int.tmod (IntKind.i64.wrap ((IntKind.i64.wrap (x.1.2.2.1 * (48271 : Int))) + (17 : Int))) (2147483647 : Int)), ()), ())
noncomputable def S_s_l01Next : Spec := ⟨(.pair (.box Tl01Source) (.pair (.int .i64) .unit)), (.pair (.int .i64) .unit), (.pair (.box Tl01Source) .unit), rfl, s_l01Next⟩
noncomputable def σ_s_l01Next : FuncId → Option Spec := sig []
theorem σok_s_l01Next : ∀ f s, σ_s_l01Next f = some s → FnOK Try.prog f s := sig_ok (l := []) trivial
noncomputable def Λ_s_l01Next : Nat → Option LSpec := lkp (loopList (bodyOf Try.f80)) []
theorem ok_s_l01Next : FnOK Try.prog 80 S_s_l01Next := fn_ok (Λ := Λ_s_l01Next) tab0 σok_s_l01Next Try.func80 (by kernel_rfl) (show Try.f80.body = some (bodyOf Try.f80) by kernel_rfl) [] rfl (by kernel_rfl) (by exact trivial) (by kernel_rfl)
  fun x y h => (show execFn Γ0 E0 σ_s_l01Next Λ_s_l01Next Try.f80 S_s_l01Next x = s_l01Next x by kernel_rfl).trans h

noncomputable def s_l04Draw (x : Ty.T (.pair (.box Tl01Source) .unit)) : Option (Ty.T (.pair TState (.pair (.box Tl01Source) .unit))) :=
match s_l01Next ((x.1.1, x.1.2.1, x.1.2.2.1, ()), (200 : Int), ()) with
| none => none
| some v1 =>
match s_l01Next ((v1.2.1.1, v1.2.1.2.1, v1.2.1.2.2.1, ()), (3 : Int), ()) with
| none => none
| some v2 =>
match s_l01Next ((v2.2.1.1, v2.2.1.2.1, v2.2.1.2.2.1, ()), (3 : Int), ()) with
| none => none
| some v3 =>
match s_l01Next ((v3.2.1.1, v3.2.1.2.1, v3.2.1.2.2.1, ()), (6 : Int), ()) with
| none => none
| some v4 =>
match s_l01Next ((v4.2.1.1, v4.2.1.2.1, v4.2.1.2.2.1, ()), (256 : Int), ()) with
| none => none
| some v5 =>
match s_l01Next ((v5.2.1.1, v5.2.1.2.1, v5.2.1.2.2.1, ()), (8 : Int), ()) with
| none => none
| some v6 =>
match (v6.1 == (0 : Int)) with
| true =>
 match s_l01Next ((v6.2.1.1, v6.2.1.2.1, v6.2.1.2.2.1, ()), (9 : Int), ()) with
 | none => none
 | some v7 =>
 match s_l01Next ((v7.2.1.1, v7.2.1.2.1, v7.2.1.2.2.1, ()), (16 : Int), ()) with
 | none => none
 | some v8 =>
 match s_l01Next ((v8.2.1.1, v8.2.1.2.1, v8.2.1.2.2.1, ()), (16 : Int), ()) with
 | none => none
 | some v9 =>
 match s_l01Next ((v9.2.1.1, v9.2.1.2.1, v9.2.1.2.2.1, ()), (256 : Int), ()) with
 | none => none
 | some v10 =>
 match s_l01Next ((v10.2.1.1, v10.2.1.2.1, v10.2.1.2.2.1, ()), (99 : Int), ()) with
 | none => none
 | some v11 =>
 some (((IntKind.i64.wrap ((65535 : Int) - v7.1)), v8.1, v9.1, v10.1, (IntKind.i64.wrap ((4294967295 : Int) - v11.1)), ()), (v11.2.1.1, v11.2.1.2.1, v11.2.1.2.2.1, ()), ())
| false =>
 some ((v1.1, v2.1, v3.1, v4.1, v5.1, ()), (v6.2.1.1, v6.2.1.2.1, v6.2.1.2.2.1, ()), ())
noncomputable def S_s_l04Draw : Spec := ⟨(.pair (.box Tl01Source) .unit), (.pair TState .unit), (.pair (.box Tl01Source) .unit), rfl, s_l04Draw⟩
noncomputable def σ_s_l04Draw : FuncId → Option Spec := sig [(80, S_s_l01Next)]
theorem σok_s_l04Draw : ∀ f s, σ_s_l04Draw f = some s → FnOK Try.prog f s := sig_ok (l := [(80, S_s_l01Next)]) ⟨ok_s_l01Next, trivial⟩
noncomputable def Λ_s_l04Draw : Nat → Option LSpec := lkp (loopList (bodyOf Try.f139)) []
theorem ok_s_l04Draw : FnOK Try.prog 139 S_s_l04Draw := fn_ok (Λ := Λ_s_l04Draw) tab0 σok_s_l04Draw Try.func139 (by kernel_rfl) (show Try.f139.body = some (bodyOf Try.f139) by kernel_rfl) [] rfl (by kernel_rfl) (by exact trivial) (by kernel_rfl)
  fun x y h => (show execFn Γ0 E0 σ_s_l04Draw Λ_s_l04Draw Try.f139 S_s_l04Draw x = s_l04Draw x by kernel_rfl).trans h

noncomputable def s_l04DrawAny (x : Ty.T (.pair (.box Tl01Source) .unit)) : Option (Ty.T (.pair TState (.pair (.box Tl01Source) .unit))) :=
match s_l04Draw ((x.1.1, x.1.2.1, x.1.2.2.1, ()), ()) with
| none => none
| some v1 =>
match s_l01Next ((v1.2.1.1, v1.2.1.2.1, v1.2.1.2.2.1, ()), (30 : Int), ()) with
| none => none
| some v2 =>
match (v2.1 == (0 : Int)) with
| true =>
 match s_l01Next ((v2.2.1.1, v2.2.1.2.1, v2.2.1.2.2.1, ()), (3 : Int), ()) with
 | none => none
 | some v3 =>
 onSome (idx [(-1 : Int), (65535 : Int), (65536 : Int)] v3.1) fun _ =>
 match [(-1 : Int), (65535 : Int), (65536 : Int)][v3.1.toNat]? with
 | none => none
 | some v5 =>
 some ((v5, v1.1.2.1, v1.1.2.2.1, v1.1.2.2.2.1, v1.1.2.2.2.2.1, ()), (v3.2.1.1, v3.2.1.2.1, v3.2.1.2.2.1, ()), ())
| false =>
 match (v2.1 == (1 : Int)) with
 | true =>
  match s_l01Next ((v2.2.1.1, v2.2.1.2.1, v2.2.1.2.2.1, ()), (2 : Int), ()) with
  | none => none
  | some v6 =>
  onSome (idx [(-1 : Int), (16 : Int)] v6.1) fun _ =>
  match [(-1 : Int), (16 : Int)][v6.1.toNat]? with
  | none => none
  | some v8 =>
  some ((v1.1.1, v8, v1.1.2.2.1, v1.1.2.2.2.1, v1.1.2.2.2.2.1, ()), (v6.2.1.1, v6.2.1.2.1, v6.2.1.2.2.1, ()), ())
 | false =>
  match (v2.1 == (2 : Int)) with
  | true =>
   match s_l01Next ((v2.2.1.1, v2.2.1.2.1, v2.2.1.2.2.1, ()), (2 : Int), ()) with
   | none => none
   | some v9 =>
   onSome (idx [(-1 : Int), (16 : Int)] v9.1) fun _ =>
   match [(-1 : Int), (16 : Int)][v9.1.toNat]? with
   | none => none
   | some v11 =>
   some ((v1.1.1, v1.1.2.1, v11, v1.1.2.2.2.1, v1.1.2.2.2.2.1, ()), (v9.2.1.1, v9.2.1.2.1, v9.2.1.2.2.1, ()), ())
  | false =>
   match (v2.1 == (3 : Int)) with
   | true =>
    match s_l01Next ((v2.2.1.1, v2.2.1.2.1, v2.2.1.2.2.1, ()), (2 : Int), ()) with
    | none => none
    | some v12 =>
    onSome (idx [(-1 : Int), (256 : Int)] v12.1) fun _ =>
    match [(-1 : Int), (256 : Int)][v12.1.toNat]? with
    | none => none
    | some v14 =>
    some ((v1.1.1, v1.1.2.1, v1.1.2.2.1, v14, v1.1.2.2.2.2.1, ()), (v12.2.1.1, v12.2.1.2.1, v12.2.1.2.2.1, ()), ())
   | false =>
    match (v2.1 == (4 : Int)) with
    | true =>
     match s_l01Next ((v2.2.1.1, v2.2.1.2.1, v2.2.1.2.2.1, ()), (2 : Int), ()) with
     | none => none
     | some v15 =>
     onSome (idx [(-1 : Int), (4294967296 : Int)] v15.1) fun _ =>
     match [(-1 : Int), (4294967296 : Int)][v15.1.toNat]? with
     | none => none
     | some v17 =>
     some ((v1.1.1, v1.1.2.1, v1.1.2.2.1, v1.1.2.2.2.1, v17, ()), (v15.2.1.1, v15.2.1.2.1, v15.2.1.2.2.1, ()), ())
    | false =>
     some ((v1.1.1, v1.1.2.1, v1.1.2.2.1, v1.1.2.2.2.1, v1.1.2.2.2.2.1, ()), (v2.2.1.1, v2.2.1.2.1, v2.2.1.2.2.1, ()), ())
noncomputable def S_s_l04DrawAny : Spec := ⟨(.pair (.box Tl01Source) .unit), (.pair TState .unit), (.pair (.box Tl01Source) .unit), rfl, s_l04DrawAny⟩
noncomputable def σ_s_l04DrawAny : FuncId → Option Spec := sig [(80, S_s_l01Next), (139, S_s_l04Draw)]
theorem σok_s_l04DrawAny : ∀ f s, σ_s_l04DrawAny f = some s → FnOK Try.prog f s := sig_ok (l := [(80, S_s_l01Next), (139, S_s_l04Draw)]) ⟨ok_s_l01Next, ok_s_l04Draw, trivial⟩
noncomputable def Λ_s_l04DrawAny : Nat → Option LSpec := lkp (loopList (bodyOf Try.f140)) []
theorem ok_s_l04DrawAny : FnOK Try.prog 140 S_s_l04DrawAny := fn_ok (Λ := Λ_s_l04DrawAny) tab0 σok_s_l04DrawAny Try.func140 (by kernel_rfl) (show Try.f140.body = some (bodyOf Try.f140) by kernel_rfl) [] rfl (by kernel_rfl) (by exact trivial) (by kernel_rfl)
  fun x y h => (show execFn Γ0 E0 σ_s_l04DrawAny Λ_s_l04DrawAny Try.f140 S_s_l04DrawAny x = s_l04DrawAny x by kernel_rfl).trans h

noncomputable def s_l33DrawOne (x : Ty.T (.pair (.box Tl01Source) .unit)) : Option (Ty.T (.pair TMark (.pair (.box Tl01Source) .unit))) :=
match s_l04Draw ((x.1.1, x.1.2.1, x.1.2.2.1, ()), ()) with
| none => none
| some v1 =>
match s_l01Next ((v1.2.1.1, v1.2.1.2.1, v1.2.1.2.2.1, ()), (3 : Int), ()) with
| none => none
| some v2 =>
match s_l01Next ((v2.2.1.1, v2.2.1.2.1, v2.2.1.2.2.1, ()), (5 : Int), ()) with
| none => none
| some v3 =>
match s_l01Next ((v3.2.1.1, v3.2.1.2.1, v3.2.1.2.2.1, ()), (4 : Int), ()) with
| none => none
| some v4 =>
onSome (idx [(3 : Int), (3 : Int), (3 : Int), v3.1] v4.1) fun _ =>
match [(3 : Int), (3 : Int), (3 : Int), v3.1][v4.1.toNat]? with
| none => none
| some v6 =>
match s_l01Next ((v4.2.1.1, v4.2.1.2.1, v4.2.1.2.2.1, ()), (80 : Int), ()) with
| none => none
| some v7 =>
match (v7.1 == (0 : Int)) with
| true =>
 match s_l04DrawAny ((v7.2.1.1, v7.2.1.2.1, v7.2.1.2.2.1, ()), ()) with
 | none => none
 | some v8 =>
 some (((v8.1.1, v8.1.2.1, v8.1.2.2.1, v8.1.2.2.2.1, v8.1.2.2.2.2.1, ()), v2.1, v6, ()), (v8.2.1.1, v8.2.1.2.1, v8.2.1.2.2.1, ()), ())
| false =>
 match (v7.1 == (1 : Int)) with
 | true =>
  match s_l01Next ((v7.2.1.1, v7.2.1.2.1, v7.2.1.2.2.1, ()), (2 : Int), ()) with
  | none => none
  | some v9 =>
  onSome (idx [(-1 : Int), (32 : Int)] v9.1) fun _ =>
  match [(-1 : Int), (32 : Int)][v9.1.toNat]? with
  | none => none
  | some v11 =>
  some (((v1.1.1, v1.1.2.1, v1.1.2.2.1, v1.1.2.2.2.1, v1.1.2.2.2.2.1, ()), v11, v6, ()), (v9.2.1.1, v9.2.1.2.1, v9.2.1.2.2.1, ()), ())
 | false =>
  match (v7.1 == (2 : Int)) with
  | true =>
   match s_l01Next ((v7.2.1.1, v7.2.1.2.1, v7.2.1.2.2.1, ()), (2 : Int), ()) with
   | none => none
   | some v12 =>
   onSome (idx [(-1 : Int), (5 : Int)] v12.1) fun _ =>
   match [(-1 : Int), (5 : Int)][v12.1.toNat]? with
   | none => none
   | some v14 =>
   some (((v1.1.1, v1.1.2.1, v1.1.2.2.1, v1.1.2.2.2.1, v1.1.2.2.2.2.1, ()), v2.1, v14, ()), (v12.2.1.1, v12.2.1.2.1, v12.2.1.2.2.1, ()), ())
  | false =>
   some (((v1.1.1, v1.1.2.1, v1.1.2.2.1, v1.1.2.2.2.1, v1.1.2.2.2.2.1, ()), v2.1, v6, ()), (v7.2.1.1, v7.2.1.2.1, v7.2.1.2.2.1, ()), ())
noncomputable def S_s_l33DrawOne : Spec := ⟨(.pair (.box Tl01Source) .unit), (.pair TMark .unit), (.pair (.box Tl01Source) .unit), rfl, s_l33DrawOne⟩
noncomputable def σ_s_l33DrawOne : FuncId → Option Spec := sig [(80, S_s_l01Next), (139, S_s_l04Draw), (140, S_s_l04DrawAny)]
theorem σok_s_l33DrawOne : ∀ f s, σ_s_l33DrawOne f = some s → FnOK Try.prog f s := sig_ok (l := [(80, S_s_l01Next), (139, S_s_l04Draw), (140, S_s_l04DrawAny)]) ⟨ok_s_l01Next, ok_s_l04Draw, ok_s_l04DrawAny, trivial⟩
noncomputable def Λ_s_l33DrawOne : Nat → Option LSpec := lkp (loopList (bodyOf Try.f117)) []
theorem ok_s_l33DrawOne : FnOK Try.prog 117 S_s_l33DrawOne := fn_ok (Λ := Λ_s_l33DrawOne) tab0 σok_s_l33DrawOne Try.func117 (by kernel_rfl) (show Try.f117.body = some (bodyOf Try.f117) by kernel_rfl) [] rfl (by kernel_rfl) (by exact trivial) (by kernel_rfl)
  fun x y h => (show execFn Γ0 E0 σ_s_l33DrawOne Λ_s_l33DrawOne Try.f117 S_s_l33DrawOne x = s_l33DrawOne x by kernel_rfl).trans h

noncomputable def b_s_l33Draw_3 (x : (Ty.T (.pair (.box Tl01Source) (.pair (.own 51 TMark) (.pair (.int .i64) .unit))))) : Option ((Ty.T (.pair (.box Tl01Source) (.pair (.own 51 TMark) (.pair (.int .i64) .unit)))) ⊕ ((Ty.T (.pair (.box Tl01Source) (.pair (.own 51 TMark) .unit))) ⊕ (Ty.T .unit))) :=
match (decide (x.2.2.1 > (0 : Int))) with
| true =>
 match s_l33DrawOne ((x.1.1, x.1.2.1, x.1.2.2.1, ()), ()) with
 | none => none
 | some v2 =>
 room (x.2.1.length + [v2.1].length) (
  some (.inl ((v2.2.1.1, v2.2.1.2.1, v2.2.1.2.2.1, ()), (x.2.1 ++ [v2.1]), (IntKind.i64.wrap (x.2.2.1 - (1 : Int))), ())))
| false =>
 some (.inr (.inl ((x.1.1, x.1.2.1, x.1.2.2.1, ()), x.2.1, ())))
noncomputable def s_l33Draw (x : Ty.T (.pair (.box Tl01Source) .unit)) : Option (Ty.T (.pair (.own 51 TMark) (.pair (.box Tl01Source) .unit))) :=
match s_l01Next ((x.1.1, x.1.2.1, x.1.2.2.1, ()), (10 : Int), ()) with
| none => none
| some v1 =>
match loopL b_s_l33Draw_3 ((v1.2.1.1, v1.2.1.2.1, v1.2.1.2.2.1, ()), [], v1.1, ()) with
| none => none
| some (.inl v3) =>
 match s_l01Next ((v3.1.1, v3.1.2.1, v3.1.2.2.1, ()), (60 : Int), ()) with
 | none => none
 | some v5 =>
 match (v5.1 == (0 : Int)) with
 | true =>
  match s_l01Next ((v5.2.1.1, v5.2.1.2.1, v5.2.1.2.2.1, ()), (2 : Int), ()) with
  | none => none
  | some v6 =>
  if 0 ≤ (IntKind.i64.wrap ((60 : Int) + v6.1)) ∧ (IntKind.i64.wrap ((60 : Int) + v6.1)) ≤ (IntKind.i64.wrap ((60 : Int) + v6.1)) then
   room ((IntKind.i64.wrap ((60 : Int) + v6.1)).toNat) (
    some ((List.replicate (IntKind.i64.wrap ((60 : Int) + v6.1)).toNat (((0 : Int), (0 : Int), (0 : Int), (0 : Int), (0 : Int), ()), (0 : Int), (0 : Int), ())), (v6.2.1.1, v6.2.1.2.1, v6.2.1.2.2.1, ()), ()))
  else none
 | false =>
  some (v3.2.1, (v5.2.1.1, v5.2.1.2.1, v5.2.1.2.2.1, ()), ())
| some (.inr v7) =>
 none
noncomputable def S_s_l33Draw : Spec := ⟨(.pair (.box Tl01Source) .unit), (.pair (.own 51 TMark) .unit), (.pair (.box Tl01Source) .unit), rfl, s_l33Draw⟩
noncomputable def σ_s_l33Draw : FuncId → Option Spec := sig [(80, S_s_l01Next), (117, S_s_l33DrawOne)]
theorem σok_s_l33Draw : ∀ f s, σ_s_l33Draw f = some s → FnOK Try.prog f s := sig_ok (l := [(80, S_s_l01Next), (117, S_s_l33DrawOne)]) ⟨ok_s_l01Next, ok_s_l33DrawOne, trivial⟩
noncomputable def Λ_s_l33Draw : Nat → Option LSpec := lkp (loopList (bodyOf Try.f79)) [⟨[0, 3, 4], (.pair (.box Tl01Source) (.pair (.own 51 TMark) (.pair (.int .i64) .unit))), 0, [0, 3], (.pair (.box Tl01Source) (.pair (.own 51 TMark) .unit)), [], .unit, loopL b_s_l33Draw_3⟩]
theorem lok_s_l33Draw_3 (x) : codeK Γ0 E0 σ_s_l33Draw Λ_s_l33Draw Try.f79.ntmps (nthLoop Try.f79 0) (mkF Try.f79.ntmps [0, 3, 4] (.pair (.box Tl01Source) (.pair (.own 51 TMark) (.pair (.int .i64) .unit))) x) (readK σ_s_l33Draw Try.f79.ntmps [0, 3, 4] (.pair (.box Tl01Source) (.pair (.own 51 TMark) (.pair (.int .i64) .unit))) 0 [0, 3] (.pair (.box Tl01Source) (.pair (.own 51 TMark) .unit)) [] .unit) = b_s_l33Draw_3 x := by kernel_rfl
theorem ok_s_l33Draw : FnOK Try.prog 79 S_s_l33Draw := fn_ok (Λ := Λ_s_l33Draw) tab0 σok_s_l33Draw Try.func79 (by kernel_rfl) (show Try.f79.body = some (bodyOf Try.f79) by kernel_rfl) [⟨[0, 3, 4], (.pair (.box Tl01Source) (.pair (.own 51 TMark) (.pair (.int .i64) .unit))), 0, [0, 3], (.pair (.box Tl01Source) (.pair (.own 51 TMark) .unit)), [], .unit, loopL b_s_l33Draw_3⟩] rfl (by kernel_rfl) (by exact ⟨loop_LOK lok_s_l33Draw_3, trivial⟩) (by kernel_rfl)
  fun x y h => (show execFn Γ0 E0 σ_s_l33Draw Λ_s_l33Draw Try.f79 S_s_l33Draw x = s_l33Draw x by kernel_rfl).trans h

noncomputable def s_DrawAvailabilityOf (x : Ty.T (.pair (.list (.int .u8)) .unit)) : Option (Ty.T (.pair (.own 51 TMark) (.pair (.int .i64) .unit))) :=
match s_l01From (x.1, ()) with
| none => none
| some v1 =>
match s_l33Draw ((v1.1.1, v1.1.2.1, v1.1.2.2.1, ()), ()) with
| none => none
| some v2 =>
match s_l01Next ((v2.2.1.1, v2.2.1.2.1, v2.2.1.2.2.1, ()), (4 : Int), ()) with
| none => none
| some v3 =>
match s_l01Next ((v3.2.1.1, v3.2.1.2.1, v3.2.1.2.2.1, ()), (20 : Int), ()) with
| none => none
| some v4 =>
some (v2.1, (IntKind.i64.wrap (v3.1 - (IntKind.i64.wrap (Int.tdiv v4.1 (19 : Int))))), ())
noncomputable def S_s_DrawAvailabilityOf : Spec := ⟨(.pair (.list (.int .u8)) .unit), (.pair (.own 51 TMark) (.pair (.int .i64) .unit)), .unit, rfl, s_DrawAvailabilityOf⟩
noncomputable def σ_s_DrawAvailabilityOf : FuncId → Option Spec := sig [(78, S_s_l01From), (79, S_s_l33Draw), (80, S_s_l01Next)]
theorem σok_s_DrawAvailabilityOf : ∀ f s, σ_s_DrawAvailabilityOf f = some s → FnOK Try.prog f s := sig_ok (l := [(78, S_s_l01From), (79, S_s_l33Draw), (80, S_s_l01Next)]) ⟨ok_s_l01From, ok_s_l33Draw, ok_s_l01Next, trivial⟩
noncomputable def Λ_s_DrawAvailabilityOf : Nat → Option LSpec := lkp (loopList (bodyOf Try.f30)) []
theorem ok_s_DrawAvailabilityOf : FnOK Try.prog 30 S_s_DrawAvailabilityOf := fn_ok (Λ := Λ_s_DrawAvailabilityOf) tab0 σok_s_DrawAvailabilityOf Try.func30 (by kernel_rfl) (show Try.f30.body = some (bodyOf Try.f30) by kernel_rfl) [] rfl (by kernel_rfl) (by exact trivial) (by kernel_rfl)
  fun x y h => (show execFn Γ0 E0 σ_s_DrawAvailabilityOf Λ_s_DrawAvailabilityOf Try.f30 S_s_DrawAvailabilityOf x = s_DrawAvailabilityOf x by kernel_rfl).trans h

noncomputable def b_slices_IndexFunc_Mark_2 (x : (Ty.T (.pair (.list TMark) (.pair (.fn (.pair TMark .unit) (.pair .bool .unit)) (.pair (.int .i64) (.pair (.int .i64) .unit)))))) : Option ((Ty.T (.pair (.list TMark) (.pair (.fn (.pair TMark .unit) (.pair .bool .unit)) (.pair (.int .i64) (.pair (.int .i64) .unit))))) ⊕ ((Ty.T .unit) ⊕ (Ty.T (.pair (.int .i64) .unit)))) :=
match (decide (x.2.2.2.1 < x.2.2.1)) with
| true =>
 onSome (idx x.1 x.2.2.2.1) fun v1 =>
 match x.2.1 (v1, ()) with
 | none => none
 | some v2 =>
 match v2.1 with
 | true =>
  some (.inr (.inr (x.2.2.2.1, ())))
 | false =>
  some (.inl (x.1, x.2.1, x.2.2.1, (IntKind.i64.wrap (x.2.2.2.1 + (1 : Int))), ()))
| false =>
 some (.inr (.inl (())))
noncomputable def slices_IndexFunc_Mark (x : Ty.T (.pair (.list TMark) (.pair (.fn (.pair TMark .unit) (.pair .bool .unit)) .unit))) : Option (Ty.T (.pair (.int .i64) .unit)) :=
match loopL b_slices_IndexFunc_Mark_2 (x.1, x.2.1, (x.1.length : Int), (0 : Int), ()) with
| none => none
| some (.inl v3) =>
 some ((-1 : Int), ())
| some (.inr v4) =>
 some (v4.1, ())
noncomputable def S_slices_IndexFunc_Mark : Spec := ⟨(.pair (.list TMark) (.pair (.fn (.pair TMark .unit) (.pair .bool .unit)) .unit)), (.pair (.int .i64) .unit), .unit, rfl, slices_IndexFunc_Mark⟩
noncomputable def σ_slices_IndexFunc_Mark : FuncId → Option Spec := sig []
theorem σok_slices_IndexFunc_Mark : ∀ f s, σ_slices_IndexFunc_Mark f = some s → FnOK Try.prog f s := sig_ok (l := []) trivial
noncomputable def Λ_slices_IndexFunc_Mark : Nat → Option LSpec := lkp (loopList (bodyOf Try.f84)) [⟨[0, 1, 7, 8], (.pair (.list TMark) (.pair (.fn (.pair TMark .unit) (.pair .bool .unit)) (.pair (.int .i64) (.pair (.int .i64) .unit)))), 0, [], .unit, [4], (.pair (.int .i64) .unit), loopL b_slices_IndexFunc_Mark_2⟩]
theorem lok_slices_IndexFunc_Mark_2 (x) : codeK Γ0 E0 σ_slices_IndexFunc_Mark Λ_slices_IndexFunc_Mark Try.f84.ntmps (nthLoop Try.f84 0) (mkF Try.f84.ntmps [0, 1, 7, 8] (.pair (.list TMark) (.pair (.fn (.pair TMark .unit) (.pair .bool .unit)) (.pair (.int .i64) (.pair (.int .i64) .unit)))) x) (readK σ_slices_IndexFunc_Mark Try.f84.ntmps [0, 1, 7, 8] (.pair (.list TMark) (.pair (.fn (.pair TMark .unit) (.pair .bool .unit)) (.pair (.int .i64) (.pair (.int .i64) .unit)))) 0 [] .unit [4] (.pair (.int .i64) .unit)) = b_slices_IndexFunc_Mark_2 x := by kernel_rfl
theorem ok_slices_IndexFunc_Mark : FnOK Try.prog 84 S_slices_IndexFunc_Mark := fn_ok (Λ := Λ_slices_IndexFunc_Mark) tab0 σok_slices_IndexFunc_Mark Try.func84 (by kernel_rfl) (show Try.f84.body = some (bodyOf Try.f84) by kernel_rfl) [⟨[0, 1, 7, 8], (.pair (.list TMark) (.pair (.fn (.pair TMark .unit) (.pair .bool .unit)) (.pair (.int .i64) (.pair (.int .i64) .unit)))), 0, [], .unit, [4], (.pair (.int .i64) .unit), loopL b_slices_IndexFunc_Mark_2⟩] rfl (by kernel_rfl) (by exact ⟨loop_LOK lok_slices_IndexFunc_Mark_2, trivial⟩) (by kernel_rfl)
  fun x y h => (show execFn Γ0 E0 σ_slices_IndexFunc_Mark Λ_slices_IndexFunc_Mark Try.f84 S_slices_IndexFunc_Mark x = slices_IndexFunc_Mark x by kernel_rfl).trans h

noncomputable def slices_ContainsFunc_Mark (x : Ty.T (.pair (.list TMark) (.pair (.fn (.pair TMark .unit) (.pair .bool .unit)) .unit))) : Option (Ty.T (.pair .bool .unit)) :=
match slices_IndexFunc_Mark (x.1, x.2.1, ()) with
| none => none
| some v1 =>
some ((decide (v1.1 ≥ (0 : Int))), ())
noncomputable def S_slices_ContainsFunc_Mark : Spec := ⟨(.pair (.list TMark) (.pair (.fn (.pair TMark .unit) (.pair .bool .unit)) .unit)), (.pair .bool .unit), .unit, rfl, slices_ContainsFunc_Mark⟩
noncomputable def σ_slices_ContainsFunc_Mark : FuncId → Option Spec := sig [(84, S_slices_IndexFunc_Mark)]
theorem σok_slices_ContainsFunc_Mark : ∀ f s, σ_slices_ContainsFunc_Mark f = some s → FnOK Try.prog f s := sig_ok (l := [(84, S_slices_IndexFunc_Mark)]) ⟨ok_slices_IndexFunc_Mark, trivial⟩
noncomputable def Λ_slices_ContainsFunc_Mark : Nat → Option LSpec := lkp (loopList (bodyOf Try.f118)) []
theorem ok_slices_ContainsFunc_Mark : FnOK Try.prog 118 S_slices_ContainsFunc_Mark := fn_ok (Λ := Λ_slices_ContainsFunc_Mark) tab0 σok_slices_ContainsFunc_Mark Try.func118 (by kernel_rfl) (show Try.f118.body = some (bodyOf Try.f118) by kernel_rfl) [] rfl (by kernel_rfl) (by exact trivial) (by kernel_rfl)
  fun x y h => (show execFn Γ0 E0 σ_slices_ContainsFunc_Mark Λ_slices_ContainsFunc_Mark Try.f118 S_slices_ContainsFunc_Mark x = slices_ContainsFunc_Mark x by kernel_rfl).trans h

noncomputable def i_isVector (x : Ty.T (.pair (.int .i64) .unit)) : Option (Ty.T (.pair .bool .unit)) :=
match i_within (x.1, (0 : Int), (4294967295 : Int), ()) with
| none => none
| some v1 =>
some (v1.1, ())
noncomputable def S_i_isVector : Spec := ⟨(.pair (.int .i64) .unit), (.pair .bool .unit), .unit, rfl, i_isVector⟩
noncomputable def σ_i_isVector : FuncId → Option Spec := sig [(88, S_i_within)]
theorem σok_i_isVector : ∀ f s, σ_i_isVector f = some s → FnOK Try.prog f s := sig_ok (l := [(88, S_i_within)]) ⟨ok_i_within, trivial⟩
noncomputable def Λ_i_isVector : Nat → Option LSpec := lkp (loopList (bodyOf Try.f150)) []
theorem ok_i_isVector : FnOK Try.prog 150 S_i_isVector := fn_ok (Λ := Λ_i_isVector) tab0 σok_i_isVector Try.func150 (by kernel_rfl) (show Try.f150.body = some (bodyOf Try.f150) by kernel_rfl) [] rfl (by kernel_rfl) (by exact trivial) (by kernel_rfl)
  fun x y h => (show execFn Γ0 E0 σ_i_isVector Λ_i_isVector Try.f150 S_i_isVector x = i_isVector x by kernel_rfl).trans h

noncomputable def i_IsState (x : Ty.T (.pair TState .unit)) : Option (Ty.T (.pair .bool .unit)) :=
match i_within (x.1.1, (0 : Int), (65535 : Int), ()) with
| none => none
| some v1 =>
match v1.1 with
| true =>
 match i_within (x.1.2.1, (0 : Int), (15 : Int), ()) with
 | none => none
 | some v2 =>
 match v2.1 with
 | true =>
  match i_within (x.1.2.2.1, (0 : Int), (15 : Int), ()) with
  | none => none
  | some v3 =>
  match v3.1 with
  | true =>
   match i_within (x.1.2.2.2.1, (0 : Int), (255 : Int), ()) with
   | none => none
   | some v4 =>
   match v4.1 with
   | true =>
    match i_isVector (x.1.2.2.2.2.1, ()) with
    | none => none
    | some v5 =>
    some (v5.1, ())
   | false =>
    some (false, ())
  | false =>
   some (false, ())
 | false =>
  some (false, ())
| false =>
 some (false, ())
noncomputable def S_i_IsState : Spec := ⟨(.pair TState .unit), (.pair .bool .unit), .unit, rfl, i_IsState⟩
noncomputable def σ_i_IsState : FuncId → Option Spec := sig [(88, S_i_within), (150, S_i_isVector)]
theorem σok_i_IsState : ∀ f s, σ_i_IsState f = some s → FnOK Try.prog f s := sig_ok (l := [(88, S_i_within), (150, S_i_isVector)]) ⟨ok_i_within, ok_i_isVector, trivial⟩
noncomputable def Λ_i_IsState : Nat → Option LSpec := lkp (loopList (bodyOf Try.f133)) []
theorem ok_i_IsState : FnOK Try.prog 133 S_i_IsState := fn_ok (Λ := Λ_i_IsState) tab0 σok_i_IsState Try.func133 (by kernel_rfl) (show Try.f133.body = some (bodyOf Try.f133) by kernel_rfl) [] rfl (by kernel_rfl) (by exact trivial) (by kernel_rfl)
  fun x y h => (show execFn Γ0 E0 σ_i_IsState Λ_i_IsState Try.f133 S_i_IsState x = i_IsState x by kernel_rfl).trans h

noncomputable def i_IsMark (x : Ty.T (.pair TMark .unit)) : Option (Ty.T (.pair .bool .unit)) :=
match i_IsState ((x.1.1.1, x.1.1.2.1, x.1.1.2.2.1, x.1.1.2.2.2.1, x.1.1.2.2.2.2.1, ()), ()) with
| none => none
| some v1 =>
match v1.1 with
| true =>
 match i_isNode (x.1.2.1, ()) with
 | none => none
 | some v2 =>
 match v2.1 with
 | true =>
  match i_within (x.1.2.2.1, (0 : Int), (4 : Int), ()) with
  | none => none
  | some v3 =>
  some (v3.1, ())
 | false =>
  some (false, ())
| false =>
 some (false, ())
noncomputable def S_i_IsMark : Spec := ⟨(.pair TMark .unit), (.pair .bool .unit), .unit, rfl, i_IsMark⟩
noncomputable def σ_i_IsMark : FuncId → Option Spec := sig [(88, S_i_within), (91, S_i_isNode), (133, S_i_IsState)]
theorem σok_i_IsMark : ∀ f s, σ_i_IsMark f = some s → FnOK Try.prog f s := sig_ok (l := [(88, S_i_within), (91, S_i_isNode), (133, S_i_IsState)]) ⟨ok_i_within, ok_i_isNode, ok_i_IsState, trivial⟩
noncomputable def Λ_i_IsMark : Nat → Option LSpec := lkp (loopList (bodyOf Try.f120)) []
theorem ok_i_IsMark : FnOK Try.prog 120 S_i_IsMark := fn_ok (Λ := Λ_i_IsMark) tab0 σok_i_IsMark Try.func120 (by kernel_rfl) (show Try.f120.body = some (bodyOf Try.f120) by kernel_rfl) [] rfl (by kernel_rfl) (by exact trivial) (by kernel_rfl)
  fun x y h => (show execFn Γ0 E0 σ_i_IsMark Λ_i_IsMark Try.f120 S_i_IsMark x = i_IsMark x by kernel_rfl).trans h

noncomputable def i_isTrace_1 (x : Ty.T (.pair TMark .unit)) : Option (Ty.T (.pair .bool .unit)) :=
match i_IsMark (((x.1.1.1, x.1.1.2.1, x.1.1.2.2.1, x.1.1.2.2.2.1, x.1.1.2.2.2.2.1, ()), x.1.2.1, x.1.2.2.1, ()), ()) with
| none => none
| some v1 =>
some ((!v1.1), ())
noncomputable def S_i_isTrace_1 : Spec := ⟨(.pair TMark .unit), (.pair .bool .unit), .unit, rfl, i_isTrace_1⟩
noncomputable def σ_i_isTrace_1 : FuncId → Option Spec := sig [(120, S_i_IsMark)]
theorem σok_i_isTrace_1 : ∀ f s, σ_i_isTrace_1 f = some s → FnOK Try.prog f s := sig_ok (l := [(120, S_i_IsMark)]) ⟨ok_i_IsMark, trivial⟩
noncomputable def Λ_i_isTrace_1 : Nat → Option LSpec := lkp (loopList (bodyOf Try.f119)) []
theorem ok_i_isTrace_1 : FnOK Try.prog 119 S_i_isTrace_1 := fn_ok (Λ := Λ_i_isTrace_1) tab0 σok_i_isTrace_1 Try.func119 (by kernel_rfl) (show Try.f119.body = some (bodyOf Try.f119) by kernel_rfl) [] rfl (by kernel_rfl) (by exact trivial) (by kernel_rfl)
  fun x y h => (show execFn Γ0 E0 σ_i_isTrace_1 Λ_i_isTrace_1 Try.f119 S_i_isTrace_1 x = i_isTrace_1 x by kernel_rfl).trans h

noncomputable def i_isTrace (x : Ty.T (.pair (.list TMark) .unit)) : Option (Ty.T (.pair .bool .unit)) :=
match (decide ((x.1.length : Int) ≤ (60 : Int))) with
| true =>
 match slices_ContainsFunc_Mark (x.1, i_isTrace_1, ()) with
 | none => none
 | some v1 =>
 some ((!v1.1), ())
| false =>
 some (false, ())
noncomputable def S_i_isTrace : Spec := ⟨(.pair (.list TMark) .unit), (.pair .bool .unit), .unit, rfl, i_isTrace⟩
noncomputable def σ_i_isTrace : FuncId → Option Spec := sig [(118, S_slices_ContainsFunc_Mark), (119, S_i_isTrace_1)]
theorem σok_i_isTrace : ∀ f s, σ_i_isTrace f = some s → FnOK Try.prog f s := sig_ok (l := [(118, S_slices_ContainsFunc_Mark), (119, S_i_isTrace_1)]) ⟨ok_slices_ContainsFunc_Mark, ok_i_isTrace_1, trivial⟩
noncomputable def Λ_i_isTrace : Nat → Option LSpec := lkp (loopList (bodyOf Try.f81)) []
theorem ok_i_isTrace : FnOK Try.prog 81 S_i_isTrace := fn_ok (Λ := Λ_i_isTrace) tab0 σok_i_isTrace Try.func81 (by kernel_rfl) (show Try.f81.body = some (bodyOf Try.f81) by kernel_rfl) [] rfl (by kernel_rfl) (by exact trivial) (by kernel_rfl)
  fun x y h => (show execFn Γ0 E0 σ_i_isTrace Λ_i_isTrace Try.f81 S_i_isTrace x = i_isTrace x by kernel_rfl).trans h

noncomputable def i_oneIf (x : Ty.T (.pair .bool .unit)) : Option (Ty.T (.pair (.int .i64) .unit)) :=
match x.1 with
| true =>
 some ((1 : Int), ())
| false =>
 some ((0 : Int), ())
noncomputable def S_i_oneIf : Spec := ⟨(.pair .bool .unit), (.pair (.int .i64) .unit), .unit, rfl, i_oneIf⟩
noncomputable def σ_i_oneIf : FuncId → Option Spec := sig []
theorem σok_i_oneIf : ∀ f s, σ_i_oneIf f = some s → FnOK Try.prog f s := sig_ok (l := []) trivial
noncomputable def Λ_i_oneIf : Nat → Option LSpec := lkp (loopList (bodyOf Try.f82)) []
theorem ok_i_oneIf : FnOK Try.prog 82 S_i_oneIf := fn_ok (Λ := Λ_i_oneIf) tab0 σok_i_oneIf Try.func82 (by kernel_rfl) (show Try.f82.body = some (bodyOf Try.f82) by kernel_rfl) [] rfl (by kernel_rfl) (by exact trivial) (by kernel_rfl)
  fun x y h => (show execFn Γ0 E0 σ_i_oneIf Λ_i_oneIf Try.f82 S_i_oneIf x = i_oneIf x by kernel_rfl).trans h

noncomputable def b_i_AvailabilityOf_5 (x : (Ty.T (.pair (.int .i64) (.pair (.int .i64) (.pair (.int .i64) (.pair (.list TMark) (.pair (.int .i64) (.pair (.int .i64) .unit)))))))) : Option ((Ty.T (.pair (.int .i64) (.pair (.int .i64) (.pair (.int .i64) (.pair (.list TMark) (.pair (.int .i64) (.pair (.int .i64) .unit))))))) ⊕ ((Ty.T (.pair (.int .i64) (.pair (.int .i64) .unit))) ⊕ (Ty.T .unit))) :=
match (decide (x.2.2.2.2.2.1 < x.2.2.2.2.1)) with
| true =>
 onSome (idx x.2.2.2.1 x.2.2.2.2.2.1) fun v2 =>
 match (v2.2.1 == x.1) with
 | true =>
  match i_oneIf ((v2.2.2.1 == (3 : Int)), ()) with
  | none => none
  | some v3 =>
  some (.inl (x.1, (IntKind.i64.wrap (x.2.1 + v3.1)), (IntKind.i64.wrap (x.2.2.1 + (1 : Int))), x.2.2.2.1, x.2.2.2.2.1, (IntKind.i64.wrap (x.2.2.2.2.2.1 + (1 : Int))), ()))
 | false =>
  some (.inl (x.1, x.2.1, x.2.2.1, x.2.2.2.1, x.2.2.2.2.1, (IntKind.i64.wrap (x.2.2.2.2.2.1 + (1 : Int))), ()))
| false =>
 some (.inr (.inl (x.2.1, x.2.2.1, ())))
noncomputable def i_AvailabilityOf (x : Ty.T (.pair (.list TMark) (.pair (.int .i64) .unit))) : Option (Ty.T (.pair (.int .i64) (.pair (.int .i64) .unit))) :=
match i_isTrace (x.1, ()) with
| none => none
| some v1 =>
match (!v1.1) with
| true =>
 some ((0 : Int), (1 : Int), ())
| false =>
 match loopL b_i_AvailabilityOf_5 (x.2.1, (0 : Int), (0 : Int), x.1, (x.1.length : Int), (0 : Int), ()) with
 | none => none
 | some (.inl v4) =>
  match (v4.2.1 == (0 : Int)) with
  | true =>
   some ((0 : Int), (4 : Int), ())
  | false =>
   if v4.2.1 = 0 then none else
   some ((IntKind.i64.wrap (Int.tdiv (IntKind.i64.wrap ((1000 : Int) * v4.1)) v4.2.1)), (0 : Int), ())
 | some (.inr v6) =>
  none
noncomputable def S_i_AvailabilityOf : Spec := ⟨(.pair (.list TMark) (.pair (.int .i64) .unit)), (.pair (.int .i64) (.pair (.int .i64) .unit)), .unit, rfl, i_AvailabilityOf⟩
noncomputable def σ_i_AvailabilityOf : FuncId → Option Spec := sig [(81, S_i_isTrace), (82, S_i_oneIf)]
theorem σok_i_AvailabilityOf : ∀ f s, σ_i_AvailabilityOf f = some s → FnOK Try.prog f s := sig_ok (l := [(81, S_i_isTrace), (82, S_i_oneIf)]) ⟨ok_i_isTrace, ok_i_oneIf, trivial⟩
noncomputable def Λ_i_AvailabilityOf : Nat → Option LSpec := lkp (loopList (bodyOf Try.f31)) [⟨[1, 6, 7, 13, 14, 15], (.pair (.int .i64) (.pair (.int .i64) (.pair (.int .i64) (.pair (.list TMark) (.pair (.int .i64) (.pair (.int .i64) .unit)))))), 0, [6, 7], (.pair (.int .i64) (.pair (.int .i64) .unit)), [], .unit, loopL b_i_AvailabilityOf_5⟩]
theorem lok_i_AvailabilityOf_5 (x) : codeK Γ0 E0 σ_i_AvailabilityOf Λ_i_AvailabilityOf Try.f31.ntmps (nthLoop Try.f31 0) (mkF Try.f31.ntmps [1, 6, 7, 13, 14, 15] (.pair (.int .i64) (.pair (.int .i64) (.pair (.int .i64) (.pair (.list TMark) (.pair (.int .i64) (.pair (.int .i64) .unit)))))) x) (readK σ_i_AvailabilityOf Try.f31.ntmps [1, 6, 7, 13, 14, 15] (.pair (.int .i64) (.pair (.int .i64) (.pair (.int .i64) (.pair (.list TMark) (.pair (.int .i64) (.pair (.int .i64) .unit)))))) 0 [6, 7] (.pair (.int .i64) (.pair (.int .i64) .unit)) [] .unit) = b_i_AvailabilityOf_5 x := by kernel_rfl
theorem ok_i_AvailabilityOf : FnOK Try.prog 31 S_i_AvailabilityOf := fn_ok (Λ := Λ_i_AvailabilityOf) tab0 σok_i_AvailabilityOf Try.func31 (by kernel_rfl) (show Try.f31.body = some (bodyOf Try.f31) by kernel_rfl) [⟨[1, 6, 7, 13, 14, 15], (.pair (.int .i64) (.pair (.int .i64) (.pair (.int .i64) (.pair (.list TMark) (.pair (.int .i64) (.pair (.int .i64) .unit)))))), 0, [6, 7], (.pair (.int .i64) (.pair (.int .i64) .unit)), [], .unit, loopL b_i_AvailabilityOf_5⟩] rfl (by kernel_rfl) (by exact ⟨loop_LOK lok_i_AvailabilityOf_5, trivial⟩) (by kernel_rfl)
  fun x y h => (show execFn Γ0 E0 σ_i_AvailabilityOf Λ_i_AvailabilityOf Try.f31 S_i_AvailabilityOf x = i_AvailabilityOf x by kernel_rfl).trans h

noncomputable def s_IsState (x : Ty.T (.pair TState .unit)) : Option (Ty.T (.pair .bool .unit)) :=
match s_l01In (x.1.1, (0 : Int), (65535 : Int), ()) with
| none => none
| some v1 =>
match v1.1 with
| true =>
 match s_l01In (x.1.2.1, (0 : Int), (15 : Int), ()) with
 | none => none
 | some v2 =>
 match v2.1 with
 | true =>
  match s_l01In (x.1.2.2.1, (0 : Int), (15 : Int), ()) with
  | none => none
  | some v3 =>
  match v3.1 with
  | true =>
   match s_l01In (x.1.2.2.2.1, (0 : Int), (255 : Int), ()) with
   | none => none
   | some v4 =>
   match v4.1 with
   | true =>
    match s_l01In (x.1.2.2.2.2.1, (0 : Int), (4294967295 : Int), ()) with
    | none => none
    | some v5 =>
    some (v5.1, ())
   | false =>
    some (false, ())
  | false =>
   some (false, ())
 | false =>
  some (false, ())
| false =>
 some (false, ())
noncomputable def S_s_IsState : Spec := ⟨(.pair TState .unit), (.pair .bool .unit), .unit, rfl, s_IsState⟩
noncomputable def σ_s_IsState : FuncId → Option Spec := sig [(86, S_s_l01In)]
theorem σok_s_IsState : ∀ f s, σ_s_IsState f = some s → FnOK Try.prog f s := sig_ok (l := [(86, S_s_l01In)]) ⟨ok_s_l01In, trivial⟩
noncomputable def Λ_s_IsState : Nat → Option LSpec := lkp (loopList (bodyOf Try.f141)) []
theorem ok_s_IsState : FnOK Try.prog 141 S_s_IsState := fn_ok (Λ := Λ_s_IsState) tab0 σok_s_IsState Try.func141 (by kernel_rfl) (show Try.f141.body = some (bodyOf Try.f141) by kernel_rfl) [] rfl (by kernel_rfl) (by exact trivial) (by kernel_rfl)
  fun x y h => (show execFn Γ0 E0 σ_s_IsState Λ_s_IsState Try.f141 S_s_IsState x = s_IsState x by kernel_rfl).trans h

noncomputable def s_IsMark (x : Ty.T (.pair TMark .unit)) : Option (Ty.T (.pair .bool .unit)) :=
match s_IsState ((x.1.1.1, x.1.1.2.1, x.1.1.2.2.1, x.1.1.2.2.2.1, x.1.1.2.2.2.2.1, ()), ()) with
| none => none
| some v1 =>
match v1.1 with
| true =>
 match s_l05Node (x.1.2.1, ()) with
 | none => none
 | some v2 =>
 match v2.1 with
 | true =>
  match s_l01In (x.1.2.2.1, (0 : Int), (4 : Int), ()) with
  | none => none
  | some v3 =>
  some (v3.1, ())
 | false =>
  some (false, ())
| false =>
 some (false, ())
noncomputable def S_s_IsMark : Spec := ⟨(.pair TMark .unit), (.pair .bool .unit), .unit, rfl, s_IsMark⟩
noncomputable def σ_s_IsMark : FuncId → Option Spec := sig [(86, S_s_l01In), (94, S_s_l05Node), (141, S_s_IsState)]
theorem σok_s_IsMark : ∀ f s, σ_s_IsMark f = some s → FnOK Try.prog f s := sig_ok (l := [(86, S_s_l01In), (94, S_s_l05Node), (141, S_s_IsState)]) ⟨ok_s_l01In, ok_s_l05Node, ok_s_IsState, trivial⟩
noncomputable def Λ_s_IsMark : Nat → Option LSpec := lkp (loopList (bodyOf Try.f121)) []
theorem ok_s_IsMark : FnOK Try.prog 121 S_s_IsMark := fn_ok (Λ := Λ_s_IsMark) tab0 σok_s_IsMark Try.func121 (by kernel_rfl) (show Try.f121.body = some (bodyOf Try.f121) by kernel_rfl) [] rfl (by kernel_rfl) (by exact trivial) (by kernel_rfl)
  fun x y h => (show execFn Γ0 E0 σ_s_IsMark Λ_s_IsMark Try.f121 S_s_IsMark x = s_IsMark x by kernel_rfl).trans h

noncomputable def b_s_l33List_2 (x : (Ty.T (.pair (.list TMark) (.pair (.int .i64) .unit)))) : Option ((Ty.T (.pair (.list TMark) (.pair (.int .i64) .unit))) ⊕ ((Ty.T (.pair (.list TMark) .unit)) ⊕ (Ty.T (.pair .bool .unit)))) :=
match (decide (x.2.1 < (x.1.length : Int))) with
| true =>
 onSome (idx x.1 x.2.1) fun v1 =>
 match s_IsMark (v1, ()) with
 | none => none
 | some v2 =>
 match (!v2.1) with
 | true =>
  some (.inr (.inr (false, ())))
 | false =>
  some (.inl (x.1, (IntKind.i64.wrap (x.2.1 + (1 : Int))), ()))
| false =>
 some (.inr (.inl (x.1, ())))
noncomputable def s_l33List (x : Ty.T (.pair (.list TMark) .unit)) : Option (Ty.T (.pair .bool .unit)) :=
match loopL b_s_l33List_2 (x.1, (0 : Int), ()) with
| none => none
| some (.inl v3) =>
 some ((decide ((v3.1.length : Int) ≤ (60 : Int))), ())
| some (.inr v4) =>
 some (v4.1, ())
noncomputable def S_s_l33List : Spec := ⟨(.pair (.list TMark) .unit), (.pair .bool .unit), .unit, rfl, s_l33List⟩
noncomputable def σ_s_l33List : FuncId → Option Spec := sig [(121, S_s_IsMark)]
theorem σok_s_l33List : ∀ f s, σ_s_l33List f = some s → FnOK Try.prog f s := sig_ok (l := [(121, S_s_IsMark)]) ⟨ok_s_IsMark, trivial⟩
noncomputable def Λ_s_l33List : Nat → Option LSpec := lkp (loopList (bodyOf Try.f83)) [⟨[0, 3], (.pair (.list TMark) (.pair (.int .i64) .unit)), 0, [0], (.pair (.list TMark) .unit), [2], (.pair .bool .unit), loopL b_s_l33List_2⟩]
theorem lok_s_l33List_2 (x) : codeK Γ0 E0 σ_s_l33List Λ_s_l33List Try.f83.ntmps (nthLoop Try.f83 0) (mkF Try.f83.ntmps [0, 3] (.pair (.list TMark) (.pair (.int .i64) .unit)) x) (readK σ_s_l33List Try.f83.ntmps [0, 3] (.pair (.list TMark) (.pair (.int .i64) .unit)) 0 [0] (.pair (.list TMark) .unit) [2] (.pair .bool .unit)) = b_s_l33List_2 x := by kernel_rfl
theorem ok_s_l33List : FnOK Try.prog 83 S_s_l33List := fn_ok (Λ := Λ_s_l33List) tab0 σok_s_l33List Try.func83 (by kernel_rfl) (show Try.f83.body = some (bodyOf Try.f83) by kernel_rfl) [⟨[0, 3], (.pair (.list TMark) (.pair (.int .i64) .unit)), 0, [0], (.pair (.list TMark) .unit), [2], (.pair .bool .unit), loopL b_s_l33List_2⟩] rfl (by kernel_rfl) (by exact ⟨loop_LOK lok_s_l33List_2, trivial⟩) (by kernel_rfl)
  fun x y h => (show execFn Γ0 E0 σ_s_l33List Λ_s_l33List Try.f83 S_s_l33List x = s_l33List x by kernel_rfl).trans h

noncomputable def b_s_AvailabilityOf_5 (x : (Ty.T (.pair (.list TMark) TStarter))) : Option ((Ty.T (.pair (.list TMark) TStarter)) ⊕ ((Ty.T (.pair (.int .i64) (.pair (.int .i64) .unit))) ⊕ (Ty.T .unit))) :=
match (decide (x.2.2.2.2.1 < (x.1.length : Int))) with
| true =>
 onSome (idx x.1 x.2.2.2.2.1) fun v2 =>
 match (v2.2.1 == x.2.1) with
 | true =>
  onSome (idx x.1 x.2.2.2.2.1) fun v3 =>
  match (v3.2.2.1 == (3 : Int)) with
  | true =>
   some (.inl (x.1, x.2.1, (IntKind.i64.wrap (x.2.2.1 + (1 : Int))), (IntKind.i64.wrap (x.2.2.2.1 + (1 : Int))), (IntKind.i64.wrap (x.2.2.2.2.1 + (1 : Int))), ()))
  | false =>
   some (.inl (x.1, x.2.1, (IntKind.i64.wrap (x.2.2.1 + (1 : Int))), x.2.2.2.1, (IntKind.i64.wrap (x.2.2.2.2.1 + (1 : Int))), ()))
 | false =>
  some (.inl (x.1, x.2.1, x.2.2.1, x.2.2.2.1, (IntKind.i64.wrap (x.2.2.2.2.1 + (1 : Int))), ()))
| false =>
 some (.inr (.inl (x.2.2.1, x.2.2.2.1, ())))
noncomputable def s_AvailabilityOf (x : Ty.T (.pair (.list TMark) (.pair (.int .i64) .unit))) : Option (Ty.T (.pair (.int .i64) (.pair (.int .i64) .unit))) :=
match s_l33List (x.1, ()) with
| none => none
| some v1 =>
match (!v1.1) with
| true =>
 some ((0 : Int), (1 : Int), ())
| false =>
 match loopL b_s_AvailabilityOf_5 (x.1, x.2.1, (0 : Int), (0 : Int), (0 : Int), ()) with
 | none => none
 | some (.inl v4) =>
  match (v4.1 == (0 : Int)) with
  | true =>
   some ((0 : Int), (4 : Int), ())
  | false =>
   if v4.1 = 0 then none else
   some ((IntKind.i64.wrap (Int.tdiv (IntKind.i64.wrap ((1000 : Int) * v4.2.1)) v4.1)), (0 : Int), ())
 | some (.inr v6) =>
  none
noncomputable def S_s_AvailabilityOf : Spec := ⟨(.pair (.list TMark) (.pair (.int .i64) .unit)), (.pair (.int .i64) (.pair (.int .i64) .unit)), .unit, rfl, s_AvailabilityOf⟩
noncomputable def σ_s_AvailabilityOf : FuncId → Option Spec := sig [(83, S_s_l33List)]
theorem σok_s_AvailabilityOf : ∀ f s, σ_s_AvailabilityOf f = some s → FnOK Try.prog f s := sig_ok (l := [(83, S_s_l33List)]) ⟨ok_s_l33List, trivial⟩
noncomputable def Λ_s_AvailabilityOf : Nat → Option LSpec := lkp (loopList (bodyOf Try.f32)) [⟨[0, 1, 6, 7, 8], (.pair (.list TMark) TStarter), 0, [6, 7], (.pair (.int .i64) (.pair (.int .i64) .unit)), [], .unit, loopL b_s_AvailabilityOf_5⟩]
theorem lok_s_AvailabilityOf_5 (x) : codeK Γ0 E0 σ_s_AvailabilityOf Λ_s_AvailabilityOf Try.f32.ntmps (nthLoop Try.f32 0) (mkF Try.f32.ntmps [0, 1, 6, 7, 8] (.pair (.list TMark) TStarter) x) (readK σ_s_AvailabilityOf Try.f32.ntmps [0, 1, 6, 7, 8] (.pair (.list TMark) TStarter) 0 [6, 7] (.pair (.int .i64) (.pair (.int .i64) .unit)) [] .unit) = b_s_AvailabilityOf_5 x := by kernel_rfl
theorem ok_s_AvailabilityOf : FnOK Try.prog 32 S_s_AvailabilityOf := fn_ok (Λ := Λ_s_AvailabilityOf) tab0 σok_s_AvailabilityOf Try.func32 (by kernel_rfl) (show Try.f32.body = some (bodyOf Try.f32) by kernel_rfl) [⟨[0, 1, 6, 7, 8], (.pair (.list TMark) TStarter), 0, [6, 7], (.pair (.int .i64) (.pair (.int .i64) .unit)), [], .unit, loopL b_s_AvailabilityOf_5⟩] rfl (by kernel_rfl) (by exact ⟨loop_LOK lok_s_AvailabilityOf_5, trivial⟩) (by kernel_rfl)
  fun x y h => (show execFn Γ0 E0 σ_s_AvailabilityOf Λ_s_AvailabilityOf Try.f32 S_s_AvailabilityOf x = s_AvailabilityOf x by kernel_rfl).trans h

noncomputable def b_i_LongestLoss_5 (x : (Ty.T (.pair (.int .i64) (.pair (.int .i64) (.pair (.int .i64) (.pair (.list TMark) (.pair (.int .i64) (.pair (.int .i64) .unit)))))))) : Option ((Ty.T (.pair (.int .i64) (.pair (.int .i64) (.pair (.int .i64) (.pair (.list TMark) (.pair (.int .i64) (.pair (.int .i64) .unit))))))) ⊕ ((Ty.T (.pair (.int .i64) .unit)) ⊕ (Ty.T .unit))) :=
match (decide (x.2.2.2.2.2.1 < x.2.2.2.2.1)) with
| true =>
 onSome (idx x.2.2.2.1 x.2.2.2.2.2.1) fun v2 =>
 match (v2.2.1 != x.1) with
 | true =>
  some (.inl (x.1, x.2.1, x.2.2.1, x.2.2.2.1, x.2.2.2.2.1, (IntKind.i64.wrap (x.2.2.2.2.2.1 + (1 : Int))), ()))
 | false =>
  match (v2.2.2.1 == (3 : Int)) with
  | true =>
   some (.inl (x.1, (if (0 : Int) > x.2.1 then (0 : Int) else x.2.1), (0 : Int), x.2.2.2.1, x.2.2.2.2.1, (IntKind.i64.wrap (x.2.2.2.2.2.1 + (1 : Int))), ()))
  | false =>
   some (.inl (x.1, (if (IntKind.i64.wrap (x.2.2.1 + (1 : Int))) > x.2.1 then (IntKind.i64.wrap (x.2.2.1 + (1 : Int))) else x.2.1), (IntKind.i64.wrap (x.2.2.1 + (1 : Int))), x.2.2.2.1, x.2.2.2.2.1, (IntKind.i64.wrap (x.2.2.2.2.2.1 + (1 : Int))), ()))
| false =>
 some (.inr (.inl (x.2.1, ())))
noncomputable def i_LongestLoss (x : Ty.T (.pair (.list TMark) (.pair (.int .i64) .unit))) : Option (Ty.T (.pair (.int .i64) (.pair (.int .i64) .unit))) :=
match i_isTrace (x.1, ()) with
| none => none
| some v1 =>
match (!v1.1) with
| true =>
 some ((0 : Int), (1 : Int), ())
| false =>
 match loopL b_i_LongestLoss_5 (x.2.1, (0 : Int), (0 : Int), x.1, (x.1.length : Int), (0 : Int), ()) with
 | none => none
 | some (.inl v3) =>
  some (v3.1, (0 : Int), ())
 | some (.inr v5) =>
  none
noncomputable def S_i_LongestLoss : Spec := ⟨(.pair (.list TMark) (.pair (.int .i64) .unit)), (.pair (.int .i64) (.pair (.int .i64) .unit)), .unit, rfl, i_LongestLoss⟩
noncomputable def σ_i_LongestLoss : FuncId → Option Spec := sig [(81, S_i_isTrace)]
theorem σok_i_LongestLoss : ∀ f s, σ_i_LongestLoss f = some s → FnOK Try.prog f s := sig_ok (l := [(81, S_i_isTrace)]) ⟨ok_i_isTrace, trivial⟩
noncomputable def Λ_i_LongestLoss : Nat → Option LSpec := lkp (loopList (bodyOf Try.f33)) [⟨[1, 6, 7, 13, 14, 15], (.pair (.int .i64) (.pair (.int .i64) (.pair (.int .i64) (.pair (.list TMark) (.pair (.int .i64) (.pair (.int .i64) .unit)))))), 0, [6], (.pair (.int .i64) .unit), [], .unit, loopL b_i_LongestLoss_5⟩]
theorem lok_i_LongestLoss_5 (x) : codeK Γ0 E0 σ_i_LongestLoss Λ_i_LongestLoss Try.f33.ntmps (nthLoop Try.f33 0) (mkF Try.f33.ntmps [1, 6, 7, 13, 14, 15] (.pair (.int .i64) (.pair (.int .i64) (.pair (.int .i64) (.pair (.list TMark) (.pair (.int .i64) (.pair (.int .i64) .unit)))))) x) (readK σ_i_LongestLoss Try.f33.ntmps [1, 6, 7, 13, 14, 15] (.pair (.int .i64) (.pair (.int .i64) (.pair (.int .i64) (.pair (.list TMark) (.pair (.int .i64) (.pair (.int .i64) .unit)))))) 0 [6] (.pair (.int .i64) .unit) [] .unit) = b_i_LongestLoss_5 x := by kernel_rfl
theorem ok_i_LongestLoss : FnOK Try.prog 33 S_i_LongestLoss := fn_ok (Λ := Λ_i_LongestLoss) tab0 σok_i_LongestLoss Try.func33 (by kernel_rfl) (show Try.f33.body = some (bodyOf Try.f33) by kernel_rfl) [⟨[1, 6, 7, 13, 14, 15], (.pair (.int .i64) (.pair (.int .i64) (.pair (.int .i64) (.pair (.list TMark) (.pair (.int .i64) (.pair (.int .i64) .unit)))))), 0, [6], (.pair (.int .i64) .unit), [], .unit, loopL b_i_LongestLoss_5⟩] rfl (by kernel_rfl) (by exact ⟨loop_LOK lok_i_LongestLoss_5, trivial⟩) (by kernel_rfl)
  fun x y h => (show execFn Γ0 E0 σ_i_LongestLoss Λ_i_LongestLoss Try.f33 S_i_LongestLoss x = i_LongestLoss x by kernel_rfl).trans h

noncomputable def b_s_LongestLoss_5 (x : (Ty.T (.pair (.list TMark) TStarter))) : Option ((Ty.T (.pair (.list TMark) TStarter)) ⊕ ((Ty.T (.pair (.int .i64) .unit)) ⊕ (Ty.T .unit))) :=
match (decide (x.2.2.2.2.1 < (x.1.length : Int))) with
| true =>
 onSome (idx x.1 x.2.2.2.2.1) fun v2 =>
 match (v2.2.1 != x.2.1) with
 | true =>
  some (.inl (x.1, x.2.1, x.2.2.1, x.2.2.2.1, (IntKind.i64.wrap (x.2.2.2.2.1 + (1 : Int))), ()))
 | false =>
  onSome (idx x.1 x.2.2.2.2.1) fun v3 =>
  match (v3.2.2.1 == (3 : Int)) with
  | true =>
   some (.inl (x.1, x.2.1, (if (0 : Int) > x.2.2.1 then (0 : Int) else x.2.2.1), (0 : Int), (IntKind.i64.wrap (x.2.2.2.2.1 + (1 : Int))), ()))
  | false =>
   some (.inl (x.1, x.2.1, (if (IntKind.i64.wrap (x.2.2.2.1 + (1 : Int))) > x.2.2.1 then (IntKind.i64.wrap (x.2.2.2.1 + (1 : Int))) else x.2.2.1), (IntKind.i64.wrap (x.2.2.2.1 + (1 : Int))), (IntKind.i64.wrap (x.2.2.2.2.1 + (1 : Int))), ()))
| false =>
 some (.inr (.inl (x.2.2.1, ())))
noncomputable def s_LongestLoss (x : Ty.T (.pair (.list TMark) (.pair (.int .i64) .unit))) : Option (Ty.T (.pair (.int .i64) (.pair (.int .i64) .unit))) :=
match s_l33List (x.1, ()) with
| none => none
| some v1 =>
match (!v1.1) with
| true =>
 some ((0 : Int), (1 : Int), ())
| false =>
 match loopL b_s_LongestLoss_5 (x.1, x.2.1, (0 : Int), (0 : Int), (0 : Int), ()) with
 | none => none
 | some (.inl v4) =>
  some (v4.1, (0 : Int), ())
 | some (.inr v6) =>
  none
noncomputable def S_s_LongestLoss : Spec := ⟨(.pair (.list TMark) (.pair (.int .i64) .unit)), (.pair (.int .i64) (.pair (.int .i64) .unit)), .unit, rfl, s_LongestLoss⟩
noncomputable def σ_s_LongestLoss : FuncId → Option Spec := sig [(83, S_s_l33List)]
theorem σok_s_LongestLoss : ∀ f s, σ_s_LongestLoss f = some s → FnOK Try.prog f s := sig_ok (l := [(83, S_s_l33List)]) ⟨ok_s_l33List, trivial⟩
noncomputable def Λ_s_LongestLoss : Nat → Option LSpec := lkp (loopList (bodyOf Try.f34)) [⟨[0, 1, 6, 7, 8], (.pair (.list TMark) TStarter), 0, [6], (.pair (.int .i64) .unit), [], .unit, loopL b_s_LongestLoss_5⟩]
theorem lok_s_LongestLoss_5 (x) : codeK Γ0 E0 σ_s_LongestLoss Λ_s_LongestLoss Try.f34.ntmps (nthLoop Try.f34 0) (mkF Try.f34.ntmps [0, 1, 6, 7, 8] (.pair (.list TMark) TStarter) x) (readK σ_s_LongestLoss Try.f34.ntmps [0, 1, 6, 7, 8] (.pair (.list TMark) TStarter) 0 [6] (.pair (.int .i64) .unit) [] .unit) = b_s_LongestLoss_5 x := by kernel_rfl
theorem ok_s_LongestLoss : FnOK Try.prog 34 S_s_LongestLoss := fn_ok (Λ := Λ_s_LongestLoss) tab0 σok_s_LongestLoss Try.func34 (by kernel_rfl) (show Try.f34.body = some (bodyOf Try.f34) by kernel_rfl) [⟨[0, 1, 6, 7, 8], (.pair (.list TMark) TStarter), 0, [6], (.pair (.int .i64) .unit), [], .unit, loopL b_s_LongestLoss_5⟩] rfl (by kernel_rfl) (by exact ⟨loop_LOK lok_s_LongestLoss_5, trivial⟩) (by kernel_rfl)
  fun x y h => (show execFn Γ0 E0 σ_s_LongestLoss Λ_s_LongestLoss Try.f34 S_s_LongestLoss x = s_LongestLoss x by kernel_rfl).trans h

noncomputable def i_FirstLoss_1 (x : Ty.T (.pair TMark .unit)) : Option (Ty.T (.pair .bool .unit)) :=
some ((x.1.2.2.1 != (3 : Int)), ())
noncomputable def S_i_FirstLoss_1 : Spec := ⟨(.pair TMark .unit), (.pair .bool .unit), .unit, rfl, i_FirstLoss_1⟩
noncomputable def σ_i_FirstLoss_1 : FuncId → Option Spec := sig []
theorem σok_i_FirstLoss_1 : ∀ f s, σ_i_FirstLoss_1 f = some s → FnOK Try.prog f s := sig_ok (l := []) trivial
noncomputable def Λ_i_FirstLoss_1 : Nat → Option LSpec := lkp (loopList (bodyOf Try.f85)) []
theorem ok_i_FirstLoss_1 : FnOK Try.prog 85 S_i_FirstLoss_1 := fn_ok (Λ := Λ_i_FirstLoss_1) tab0 σok_i_FirstLoss_1 Try.func85 (by kernel_rfl) (show Try.f85.body = some (bodyOf Try.f85) by kernel_rfl) [] rfl (by kernel_rfl) (by exact trivial) (by kernel_rfl)
  fun x y h => (show execFn Γ0 E0 σ_i_FirstLoss_1 Λ_i_FirstLoss_1 Try.f85 S_i_FirstLoss_1 x = i_FirstLoss_1 x by kernel_rfl).trans h

noncomputable def i_FirstLoss (x : Ty.T (.pair (.list TMark) .unit)) : Option (Ty.T (.pair (.int .i64) (.pair (.int .i64) .unit))) :=
match i_isTrace (x.1, ()) with
| none => none
| some v1 =>
match (!v1.1) with
| true =>
 some ((0 : Int), (1 : Int), ())
| false =>
 match slices_IndexFunc_Mark (x.1, i_FirstLoss_1, ()) with
 | none => none
 | some v2 =>
 match (decide (v2.1 < (0 : Int))) with
 | true =>
  some ((0 : Int), (4 : Int), ())
 | false =>
  some (v2.1, (0 : Int), ())
noncomputable def S_i_FirstLoss : Spec := ⟨(.pair (.list TMark) .unit), (.pair (.int .i64) (.pair (.int .i64) .unit)), .unit, rfl, i_FirstLoss⟩
noncomputable def σ_i_FirstLoss : FuncId → Option Spec := sig [(81, S_i_isTrace), (84, S_slices_IndexFunc_Mark), (85, S_i_FirstLoss_1)]
theorem σok_i_FirstLoss : ∀ f s, σ_i_FirstLoss f = some s → FnOK Try.prog f s := sig_ok (l := [(81, S_i_isTrace), (84, S_slices_IndexFunc_Mark), (85, S_i_FirstLoss_1)]) ⟨ok_i_isTrace, ok_slices_IndexFunc_Mark, ok_i_FirstLoss_1, trivial⟩
noncomputable def Λ_i_FirstLoss : Nat → Option LSpec := lkp (loopList (bodyOf Try.f35)) []
theorem ok_i_FirstLoss : FnOK Try.prog 35 S_i_FirstLoss := fn_ok (Λ := Λ_i_FirstLoss) tab0 σok_i_FirstLoss Try.func35 (by kernel_rfl) (show Try.f35.body = some (bodyOf Try.f35) by kernel_rfl) [] rfl (by kernel_rfl) (by exact trivial) (by kernel_rfl)
  fun x y h => (show execFn Γ0 E0 σ_i_FirstLoss Λ_i_FirstLoss Try.f35 S_i_FirstLoss x = i_FirstLoss x by kernel_rfl).trans h

noncomputable def b_s_FirstLoss_4 (x : (Ty.T (.pair (.list TMark) (.pair (.int .i64) .unit)))) : Option ((Ty.T (.pair (.list TMark) (.pair (.int .i64) .unit))) ⊕ ((Ty.T .unit) ⊕ (Ty.T (.pair (.int .i64) (.pair (.int .i64) .unit))))) :=
match (decide (x.2.1 < (x.1.length : Int))) with
| true =>
 onSome (idx x.1 x.2.1) fun v2 =>
 match (v2.2.2.1 != (3 : Int)) with
 | true =>
  some (.inr (.inr (x.2.1, (0 : Int), ())))
 | false =>
  some (.inl (x.1, (IntKind.i64.wrap (x.2.1 + (1 : Int))), ()))
| false =>
 some (.inr (.inl (())))
noncomputable def s_FirstLoss (x : Ty.T (.pair (.list TMark) .unit)) : Option (Ty.T (.pair (.int .i64) (.pair (.int .i64) .unit))) :=
match s_l33List (x.1, ()) with
| none => none
| some v1 =>
match (!v1.1) with
| true =>
 some ((0 : Int), (1 : Int), ())
| false =>
 match loopL b_s_FirstLoss_4 (x.1, (0 : Int), ()) with
 | none => none
 | some (.inl v3) =>
  some ((0 : Int), (4 : Int), ())
 | some (.inr v4) =>
  some (v4.1, v4.2.1, ())
noncomputable def S_s_FirstLoss : Spec := ⟨(.pair (.list TMark) .unit), (.pair (.int .i64) (.pair (.int .i64) .unit)), .unit, rfl, s_FirstLoss⟩
noncomputable def σ_s_FirstLoss : FuncId → Option Spec := sig [(83, S_s_l33List)]
theorem σok_s_FirstLoss : ∀ f s, σ_s_FirstLoss f = some s → FnOK Try.prog f s := sig_ok (l := [(83, S_s_l33List)]) ⟨ok_s_l33List, trivial⟩
noncomputable def Λ_s_FirstLoss : Nat → Option LSpec := lkp (loopList (bodyOf Try.f36)) [⟨[0, 4], (.pair (.list TMark) (.pair (.int .i64) .unit)), 0, [], .unit, [2, 3], (.pair (.int .i64) (.pair (.int .i64) .unit)), loopL b_s_FirstLoss_4⟩]
theorem lok_s_FirstLoss_4 (x) : codeK Γ0 E0 σ_s_FirstLoss Λ_s_FirstLoss Try.f36.ntmps (nthLoop Try.f36 0) (mkF Try.f36.ntmps [0, 4] (.pair (.list TMark) (.pair (.int .i64) .unit)) x) (readK σ_s_FirstLoss Try.f36.ntmps [0, 4] (.pair (.list TMark) (.pair (.int .i64) .unit)) 0 [] .unit [2, 3] (.pair (.int .i64) (.pair (.int .i64) .unit))) = b_s_FirstLoss_4 x := by kernel_rfl
theorem ok_s_FirstLoss : FnOK Try.prog 36 S_s_FirstLoss := fn_ok (Λ := Λ_s_FirstLoss) tab0 σok_s_FirstLoss Try.func36 (by kernel_rfl) (show Try.f36.body = some (bodyOf Try.f36) by kernel_rfl) [⟨[0, 4], (.pair (.list TMark) (.pair (.int .i64) .unit)), 0, [], .unit, [2, 3], (.pair (.int .i64) (.pair (.int .i64) .unit)), loopL b_s_FirstLoss_4⟩] rfl (by kernel_rfl) (by exact ⟨loop_LOK lok_s_FirstLoss_4, trivial⟩) (by kernel_rfl)
  fun x y h => (show execFn Γ0 E0 σ_s_FirstLoss Λ_s_FirstLoss Try.f36 S_s_FirstLoss x = s_FirstLoss x by kernel_rfl).trans h

noncomputable def b_i_StatusCounts_5 (x : (Ty.T (.pair (.own 2 (.int .i64)) (.pair (.list TMark) (.pair (.int .i64) (.pair (.int .i64) .unit)))))) : Option ((Ty.T (.pair (.own 2 (.int .i64)) (.pair (.list TMark) (.pair (.int .i64) (.pair (.int .i64) .unit))))) ⊕ ((Ty.T (.pair (.own 2 (.int .i64)) .unit)) ⊕ (Ty.T .unit))) :=
match (decide (x.2.2.2.1 < x.2.2.1)) with
| true =>
 onSome (idx x.2.1 x.2.2.2.1) fun v2 =>
 onSome (idx x.1 v2.2.2.1) fun _ =>
 match x.1[v2.2.2.1.toNat]? with
 | none => none
 | some v4 =>
 onSome (idx x.1 v2.2.2.1) fun _ =>
 match x.1[v2.2.2.1.toNat]? with
 | none => none
 | some v6 =>
 some (.inl ((x.1.set v2.2.2.1.toNat (IntKind.i64.wrap (v4 + (1 : Int)))), x.2.1, x.2.2.1, (IntKind.i64.wrap (x.2.2.2.1 + (1 : Int))), ()))
| false =>
 some (.inr (.inl (x.1, ())))
noncomputable def i_StatusCounts (x : Ty.T (.pair (.list TMark) .unit)) : Option (Ty.T (.pair (.own 2 (.int .i64)) (.pair (.int .i64) .unit))) :=
match i_isTrace (x.1, ()) with
| none => none
| some v1 =>
match (!v1.1) with
| true =>
 some ([], (1 : Int), ())
| false =>
 if 0 ≤ (5 : Int) ∧ (5 : Int) ≤ (5 : Int) then
  room ((5 : Int).toNat) (
   match loopL b_i_StatusCounts_5 ((List.replicate (5 : Int).toNat (0 : Int)), x.1, (x.1.length : Int), (0 : Int), ()) with
   | none => none
   | some (.inl v7) =>
    some (v7.1, (0 : Int), ())
   | some (.inr v9) =>
    none)
 else none
noncomputable def S_i_StatusCounts : Spec := ⟨(.pair (.list TMark) .unit), (.pair (.own 2 (.int .i64)) (.pair (.int .i64) .unit)), .unit, rfl, i_StatusCounts⟩
noncomputable def σ_i_StatusCounts : FuncId → Option Spec := sig [(81, S_i_isTrace)]
theorem σok_i_StatusCounts : ∀ f s, σ_i_StatusCounts f = some s → FnOK Try.prog f s := sig_ok (l := [(81, S_i_isTrace)]) ⟨ok_i_isTrace, trivial⟩
noncomputable def Λ_i_StatusCounts : Nat → Option LSpec := lkp (loopList (bodyOf Try.f37)) [⟨[4, 11, 12, 13], (.pair (.own 2 (.int .i64)) (.pair (.list TMark) (.pair (.int .i64) (.pair (.int .i64) .unit)))), 0, [4], (.pair (.own 2 (.int .i64)) .unit), [], .unit, loopL b_i_StatusCounts_5⟩]
theorem lok_i_StatusCounts_5 (x) : codeK Γ0 E0 σ_i_StatusCounts Λ_i_StatusCounts Try.f37.ntmps (nthLoop Try.f37 0) (mkF Try.f37.ntmps [4, 11, 12, 13] (.pair (.own 2 (.int .i64)) (.pair (.list TMark) (.pair (.int .i64) (.pair (.int .i64) .unit)))) x) (readK σ_i_StatusCounts Try.f37.ntmps [4, 11, 12, 13] (.pair (.own 2 (.int .i64)) (.pair (.list TMark) (.pair (.int .i64) (.pair (.int .i64) .unit)))) 0 [4] (.pair (.own 2 (.int .i64)) .unit) [] .unit) = b_i_StatusCounts_5 x := by kernel_rfl
theorem ok_i_StatusCounts : FnOK Try.prog 37 S_i_StatusCounts := fn_ok (Λ := Λ_i_StatusCounts) tab0 σok_i_StatusCounts Try.func37 (by kernel_rfl) (show Try.f37.body = some (bodyOf Try.f37) by kernel_rfl) [⟨[4, 11, 12, 13], (.pair (.own 2 (.int .i64)) (.pair (.list TMark) (.pair (.int .i64) (.pair (.int .i64) .unit)))), 0, [4], (.pair (.own 2 (.int .i64)) .unit), [], .unit, loopL b_i_StatusCounts_5⟩] rfl (by kernel_rfl) (by exact ⟨loop_LOK lok_i_StatusCounts_5, trivial⟩) (by kernel_rfl)
  fun x y h => (show execFn Γ0 E0 σ_i_StatusCounts Λ_i_StatusCounts Try.f37 S_i_StatusCounts x = i_StatusCounts x by kernel_rfl).trans h

noncomputable def b_s_StatusCounts_5 (x : (Ty.T (.pair (.list TMark) (.pair (.own 2 (.int .i64)) (.pair (.int .i64) .unit))))) : Option ((Ty.T (.pair (.list TMark) (.pair (.own 2 (.int .i64)) (.pair (.int .i64) .unit)))) ⊕ ((Ty.T (.pair (.own 2 (.int .i64)) .unit)) ⊕ (Ty.T .unit))) :=
match (decide (x.2.2.1 < (x.1.length : Int))) with
| true =>
 onSome (idx x.1 x.2.2.1) fun v2 =>
 onSome (idx x.2.1 v2.2.2.1) fun _ =>
 match x.2.1[v2.2.2.1.toNat]? with
 | none => none
 | some v4 =>
 onSome (idx x.2.1 v2.2.2.1) fun _ =>
 match x.2.1[v2.2.2.1.toNat]? with
 | none => none
 | some v6 =>
 some (.inl (x.1, (x.2.1.set v2.2.2.1.toNat (IntKind.i64.wrap (v4 + (1 : Int)))), (IntKind.i64.wrap (x.2.2.1 + (1 : Int))), ()))
| false =>
 some (.inr (.inl (x.2.1, ())))
noncomputable def s_StatusCounts (x : Ty.T (.pair (.list TMark) .unit)) : Option (Ty.T (.pair (.own 2 (.int .i64)) (.pair (.int .i64) .unit))) :=
match s_l33List (x.1, ()) with
| none => none
| some v1 =>
match (!v1.1) with
| true =>
 some ([], (1 : Int), ())
| false =>
 if 0 ≤ (5 : Int) ∧ (5 : Int) ≤ (5 : Int) then
  room ((5 : Int).toNat) (
   match loopL b_s_StatusCounts_5 (x.1, (List.replicate (5 : Int).toNat (0 : Int)), (0 : Int), ()) with
   | none => none
   | some (.inl v7) =>
    some (v7.1, (0 : Int), ())
   | some (.inr v9) =>
    none)
 else none
noncomputable def S_s_StatusCounts : Spec := ⟨(.pair (.list TMark) .unit), (.pair (.own 2 (.int .i64)) (.pair (.int .i64) .unit)), .unit, rfl, s_StatusCounts⟩
noncomputable def σ_s_StatusCounts : FuncId → Option Spec := sig [(83, S_s_l33List)]
theorem σok_s_StatusCounts : ∀ f s, σ_s_StatusCounts f = some s → FnOK Try.prog f s := sig_ok (l := [(83, S_s_l33List)]) ⟨ok_s_l33List, trivial⟩
noncomputable def Λ_s_StatusCounts : Nat → Option LSpec := lkp (loopList (bodyOf Try.f38)) [⟨[0, 4, 5], (.pair (.list TMark) (.pair (.own 2 (.int .i64)) (.pair (.int .i64) .unit))), 0, [4], (.pair (.own 2 (.int .i64)) .unit), [], .unit, loopL b_s_StatusCounts_5⟩]
theorem lok_s_StatusCounts_5 (x) : codeK Γ0 E0 σ_s_StatusCounts Λ_s_StatusCounts Try.f38.ntmps (nthLoop Try.f38 0) (mkF Try.f38.ntmps [0, 4, 5] (.pair (.list TMark) (.pair (.own 2 (.int .i64)) (.pair (.int .i64) .unit))) x) (readK σ_s_StatusCounts Try.f38.ntmps [0, 4, 5] (.pair (.list TMark) (.pair (.own 2 (.int .i64)) (.pair (.int .i64) .unit))) 0 [4] (.pair (.own 2 (.int .i64)) .unit) [] .unit) = b_s_StatusCounts_5 x := by kernel_rfl
theorem ok_s_StatusCounts : FnOK Try.prog 38 S_s_StatusCounts := fn_ok (Λ := Λ_s_StatusCounts) tab0 σok_s_StatusCounts Try.func38 (by kernel_rfl) (show Try.f38.body = some (bodyOf Try.f38) by kernel_rfl) [⟨[0, 4, 5], (.pair (.list TMark) (.pair (.own 2 (.int .i64)) (.pair (.int .i64) .unit))), 0, [4], (.pair (.own 2 (.int .i64)) .unit), [], .unit, loopL b_s_StatusCounts_5⟩] rfl (by kernel_rfl) (by exact ⟨loop_LOK lok_s_StatusCounts_5, trivial⟩) (by kernel_rfl)
  fun x y h => (show execFn Γ0 E0 σ_s_StatusCounts Λ_s_StatusCounts Try.f38 S_s_StatusCounts x = s_StatusCounts x by kernel_rfl).trans h

noncomputable def b_l_likeInts_4 (x : (Ty.T (.pair (.list (.int .i64)) (.pair (.list (.int .i64)) (.pair (.int .i64) .unit))))) : Option ((Ty.T (.pair (.list (.int .i64)) (.pair (.list (.int .i64)) (.pair (.int .i64) .unit)))) ⊕ ((Ty.T .unit) ⊕ (Ty.T (.pair .bool .unit)))) :=
match (decide (x.2.2.1 < (x.1.length : Int))) with
| true =>
 onSome (idx x.1 x.2.2.1) fun v1 =>
 onSome (idx x.2.1 x.2.2.1) fun v2 =>
 match (v1 != v2) with
 | true =>
  some (.inr (.inr (false, ())))
 | false =>
  some (.inl (x.1, x.2.1, (IntKind.i64.wrap (x.2.2.1 + (1 : Int))), ()))
| false =>
 some (.inr (.inl (())))
noncomputable def l_likeInts (x : Ty.T (.pair (.list (.int .i64)) (.pair (.list (.int .i64)) .unit))) : Option (Ty.T (.pair .bool .unit)) :=
match ((x.1.length : Int) != (x.2.1.length : Int)) with
| true =>
 some (false, ())
| false =>
 match loopL b_l_likeInts_4 (x.1, x.2.1, (0 : Int), ()) with
 | none => none
 | some (.inl v3) =>
  some (true, ())
 | some (.inr v4) =>
  some (v4.1, ())
noncomputable def S_l_likeInts : Spec := ⟨(.pair (.list (.int .i64)) (.pair (.list (.int .i64)) .unit)), (.pair .bool .unit), .unit, rfl, l_likeInts⟩
noncomputable def σ_l_likeInts : FuncId → Option Spec := sig []
theorem σok_l_likeInts : ∀ f s, σ_l_likeInts f = some s → FnOK Try.prog f s := sig_ok (l := []) trivial
noncomputable def Λ_l_likeInts : Nat → Option LSpec := lkp (loopList (bodyOf Try.f39)) [⟨[0, 1, 5], (.pair (.list (.int .i64)) (.pair (.list (.int .i64)) (.pair (.int .i64) .unit))), 0, [], .unit, [4], (.pair .bool .unit), loopL b_l_likeInts_4⟩]
theorem lok_l_likeInts_4 (x) : codeK Γ0 E0 σ_l_likeInts Λ_l_likeInts Try.f39.ntmps (nthLoop Try.f39 0) (mkF Try.f39.ntmps [0, 1, 5] (.pair (.list (.int .i64)) (.pair (.list (.int .i64)) (.pair (.int .i64) .unit))) x) (readK σ_l_likeInts Try.f39.ntmps [0, 1, 5] (.pair (.list (.int .i64)) (.pair (.list (.int .i64)) (.pair (.int .i64) .unit))) 0 [] .unit [4] (.pair .bool .unit)) = b_l_likeInts_4 x := by kernel_rfl
theorem ok_l_likeInts : FnOK Try.prog 39 S_l_likeInts := fn_ok (Λ := Λ_l_likeInts) tab0 σok_l_likeInts Try.func39 (by kernel_rfl) (show Try.f39.body = some (bodyOf Try.f39) by kernel_rfl) [⟨[0, 1, 5], (.pair (.list (.int .i64)) (.pair (.list (.int .i64)) (.pair (.int .i64) .unit))), 0, [], .unit, [4], (.pair .bool .unit), loopL b_l_likeInts_4⟩] rfl (by kernel_rfl) (by exact ⟨loop_LOK lok_l_likeInts_4, trivial⟩) (by kernel_rfl)
  fun x y h => (show execFn Γ0 E0 σ_l_likeInts Λ_l_likeInts Try.f39 S_l_likeInts x = l_likeInts x by kernel_rfl).trans h

noncomputable def b_l_sum_3 (x : (Ty.T (.pair (.list (.int .i64)) (.pair (.int .i64) (.pair (.int .i64) .unit))))) : Option ((Ty.T (.pair (.list (.int .i64)) (.pair (.int .i64) (.pair (.int .i64) .unit)))) ⊕ ((Ty.T (.pair (.int .i64) .unit)) ⊕ (Ty.T .unit))) :=
match (decide (x.2.2.1 < (x.1.length : Int))) with
| true =>
 onSome (idx x.1 x.2.2.1) fun v1 =>
 some (.inl (x.1, (IntKind.i64.wrap (x.2.1 + v1)), (IntKind.i64.wrap (x.2.2.1 + (1 : Int))), ()))
| false =>
 some (.inr (.inl (x.2.1, ())))
noncomputable def l_sum (x : Ty.T (.pair (.list (.int .i64)) .unit)) : Option (Ty.T (.pair (.int .i64) .unit)) :=
match loopL b_l_sum_3 (x.1, (0 : Int), (0 : Int), ()) with
| none => none
| some (.inl v2) =>
 some (v2.1, ())
| some (.inr v4) =>
 none
noncomputable def S_l_sum : Spec := ⟨(.pair (.list (.int .i64)) .unit), (.pair (.int .i64) .unit), .unit, rfl, l_sum⟩
noncomputable def σ_l_sum : FuncId → Option Spec := sig []
theorem σok_l_sum : ∀ f s, σ_l_sum f = some s → FnOK Try.prog f s := sig_ok (l := []) trivial
noncomputable def Λ_l_sum : Nat → Option LSpec := lkp (loopList (bodyOf Try.f40)) [⟨[0, 3, 4], (.pair (.list (.int .i64)) (.pair (.int .i64) (.pair (.int .i64) .unit))), 0, [3], (.pair (.int .i64) .unit), [], .unit, loopL b_l_sum_3⟩]
theorem lok_l_sum_3 (x) : codeK Γ0 E0 σ_l_sum Λ_l_sum Try.f40.ntmps (nthLoop Try.f40 0) (mkF Try.f40.ntmps [0, 3, 4] (.pair (.list (.int .i64)) (.pair (.int .i64) (.pair (.int .i64) .unit))) x) (readK σ_l_sum Try.f40.ntmps [0, 3, 4] (.pair (.list (.int .i64)) (.pair (.int .i64) (.pair (.int .i64) .unit))) 0 [3] (.pair (.int .i64) .unit) [] .unit) = b_l_sum_3 x := by kernel_rfl
theorem ok_l_sum : FnOK Try.prog 40 S_l_sum := fn_ok (Λ := Λ_l_sum) tab0 σok_l_sum Try.func40 (by kernel_rfl) (show Try.f40.body = some (bodyOf Try.f40) by kernel_rfl) [⟨[0, 3, 4], (.pair (.list (.int .i64)) (.pair (.int .i64) (.pair (.int .i64) .unit))), 0, [3], (.pair (.int .i64) .unit), [], .unit, loopL b_l_sum_3⟩] rfl (by kernel_rfl) (by exact ⟨loop_LOK lok_l_sum_3, trivial⟩) (by kernel_rfl)
  fun x y h => (show execFn Γ0 E0 σ_l_sum Λ_l_sum Try.f40 S_l_sum x = l_sum x by kernel_rfl).trans h

noncomputable def l_FnLosses (x : Ty.T (.pair (.list (.int .u8)) .unit)) : Option (Ty.T (.pair .bool .unit)) :=
match l_big (x.1, ()) with
| none => none
| some v1 =>
match v1.1 with
| true =>
 some (true, ())
| false =>
 match s_DrawAvailabilityOf (x.1, ()) with
 | none => none
 | some v2 =>
 match i_AvailabilityOf (v2.1, v2.2.1, ()) with
 | none => none
 | some v3 =>
 match s_AvailabilityOf (v2.1, v2.2.1, ()) with
 | none => none
 | some v4 =>
 match i_LongestLoss (v2.1, v2.2.1, ()) with
 | none => none
 | some v5 =>
 match s_LongestLoss (v2.1, v2.2.1, ()) with
 | none => none
 | some v6 =>
 match i_FirstLoss (v2.1, ()) with
 | none => none
 | some v7 =>
 match s_FirstLoss (v2.1, ()) with
 | none => none
 | some v8 =>
 match i_StatusCounts (v2.1, ()) with
 | none => none
 | some v9 =>
 match s_StatusCounts (v2.1, ()) with
 | none => none
 | some v10 =>
 match (v3.2.1 != v4.2.1) with
 | true =>
  some (false, ())
 | false =>
  match (v3.1 != v4.1) with
  | true =>
   some (false, ())
  | false =>
   match (v5.2.1 != v6.2.1) with
   | true =>
    some (false, ())
   | false =>
    match (v5.1 != v6.1) with
    | true =>
     some (false, ())
    | false =>
     match (v7.2.1 != v8.2.1) with
     | true =>
      some (false, ())
     | false =>
      match (v7.1 != v8.1) with
      | true =>
       some (false, ())
      | false =>
       match (v9.2.1 != v10.2.1) with
       | true =>
        some (false, ())
       | false =>
        match l_likeInts (v9.1, v10.1, ()) with
        | none => none
        | some v11 =>
        match (!v11.1) with
        | true =>
         some (false, ())
        | false =>
         match (v7.2.1 == (0 : Int)) with
         | true =>
          onSome (idx v2.1 v8.1) fun _ =>
          match v2.1[v8.1.toNat]? with
          | none => none
          | some v13 =>
          match (v13.2.2.1 == (3 : Int)) with
          | true =>
           some (false, ())
          | false =>
           match (v10.2.1 == (0 : Int)) with
           | true =>
            match l_sum (v9.1, ()) with
            | none => none
            | some v14 =>
            match (v14.1 != (v2.1.length : Int)) with
            | true =>
             some (false, ())
            | false =>
             match (v3.2.1 != (0 : Int)) with
             | true =>
              some (true, ())
             | false =>
              some (((v5.1 == (0 : Int)) == (v3.1 == (1000 : Int))), ())
           | false =>
            match (v3.2.1 != (0 : Int)) with
            | true =>
             some (true, ())
            | false =>
             some (((v5.1 == (0 : Int)) == (v3.1 == (1000 : Int))), ())
         | false =>
          match (v10.2.1 == (0 : Int)) with
          | true =>
           match l_sum (v9.1, ()) with
           | none => none
           | some v15 =>
           match (v15.1 != (v2.1.length : Int)) with
           | true =>
            some (false, ())
           | false =>
            match (v3.2.1 != (0 : Int)) with
            | true =>
             some (true, ())
            | false =>
             some (((v5.1 == (0 : Int)) == (v3.1 == (1000 : Int))), ())
          | false =>
           match (v3.2.1 != (0 : Int)) with
           | true =>
            some (true, ())
           | false =>
            some (((v5.1 == (0 : Int)) == (v3.1 == (1000 : Int))), ())
noncomputable def S_l_FnLosses : Spec := ⟨(.pair (.list (.int .u8)) .unit), (.pair .bool .unit), .unit, rfl, l_FnLosses⟩
noncomputable def σ_l_FnLosses : FuncId → Option Spec := sig [(29, S_l_big), (30, S_s_DrawAvailabilityOf), (31, S_i_AvailabilityOf), (32, S_s_AvailabilityOf), (33, S_i_LongestLoss), (34, S_s_LongestLoss), (35, S_i_FirstLoss), (36, S_s_FirstLoss), (37, S_i_StatusCounts), (38, S_s_StatusCounts), (39, S_l_likeInts), (40, S_l_sum)]
theorem σok_l_FnLosses : ∀ f s, σ_l_FnLosses f = some s → FnOK Try.prog f s := sig_ok (l := [(29, S_l_big), (30, S_s_DrawAvailabilityOf), (31, S_i_AvailabilityOf), (32, S_s_AvailabilityOf), (33, S_i_LongestLoss), (34, S_s_LongestLoss), (35, S_i_FirstLoss), (36, S_s_FirstLoss), (37, S_i_StatusCounts), (38, S_s_StatusCounts), (39, S_l_likeInts), (40, S_l_sum)]) ⟨ok_l_big, ok_s_DrawAvailabilityOf, ok_i_AvailabilityOf, ok_s_AvailabilityOf, ok_i_LongestLoss, ok_s_LongestLoss, ok_i_FirstLoss, ok_s_FirstLoss, ok_i_StatusCounts, ok_s_StatusCounts, ok_l_likeInts, ok_l_sum, trivial⟩
noncomputable def Λ_l_FnLosses : Nat → Option LSpec := lkp (loopList (bodyOf Try.f6)) []
theorem ok_l_FnLosses : FnOK Try.prog 6 S_l_FnLosses := fn_ok (Λ := Λ_l_FnLosses) tab0 σok_l_FnLosses Try.func6 (by kernel_rfl) (show Try.f6.body = some (bodyOf Try.f6) by kernel_rfl) [] rfl (by kernel_rfl) (by exact trivial) (by kernel_rfl)
  fun x y h => (show execFn Γ0 E0 σ_l_FnLosses Λ_l_FnLosses Try.f6 S_l_FnLosses x = l_FnLosses x by kernel_rfl).trans h

noncomputable def b_s_DueTimes_6 (x : (Ty.T (.pair (.list TStarter) (.pair (.int .i64) (.pair (.own 2 (.int .i64)) .unit))))) : Option ((Ty.T (.pair (.list TStarter) (.pair (.int .i64) (.pair (.own 2 (.int .i64)) .unit)))) ⊕ ((Ty.T (.pair (.own 2 (.int .i64)) .unit)) ⊕ (Ty.T (.pair (.own 2 (.int .i64)) (.pair (.int .i64) .unit))))) :=
match (decide (x.2.1 > (0 : Int))) with
| true =>
 match s_l31First (x.2.2.1, ()) with
 | none => none
 | some v4 =>
 match ((v4.1.length : Int) == (1 : Int)) with
 | true =>
  some (.inr (.inr ([], (4 : Int), ())))
 | false =>
  match s_l31Collide (x.1, x.2.2.1, ()) with
  | none => none
  | some v5 =>
  some (.inl (x.1, (IntKind.i64.wrap (x.2.1 - (1 : Int))), v5.1, ()))
| false =>
 some (.inr (.inl (x.2.2.1, ())))
noncomputable def s_DueTimes (x : Ty.T (.pair (.list TStarter) (.pair (.int .i64) .unit))) : Option (Ty.T (.pair (.own 2 (.int .i64)) (.pair (.int .i64) .unit))) :=
match s_AreStarters (x.1, ()) with
| none => none
| some v1 =>
match (!v1.1) with
| true =>
 some ([], (1 : Int), ())
| false =>
 match s_l01In (x.2.1, (0 : Int), (50 : Int), ()) with
 | none => none
 | some v2 =>
 match (!v2.1) with
 | true =>
  some ([], (2 : Int), ())
 | false =>
  match s_l31Due (x.1, ()) with
  | none => none
  | some v3 =>
  match loopL b_s_DueTimes_6 (x.1, x.2.1, v3.1, ()) with
  | none => none
  | some (.inl v6) =>
   some (v6.1, (0 : Int), ())
  | some (.inr v7) =>
   some (v7.1, v7.2.1, ())
noncomputable def S_s_DueTimes : Spec := ⟨(.pair (.list TStarter) (.pair (.int .i64) .unit)), (.pair (.own 2 (.int .i64)) (.pair (.int .i64) .unit)), .unit, rfl, s_DueTimes⟩
noncomputable def σ_s_DueTimes : FuncId → Option Spec := sig [(45, S_s_AreStarters), (72, S_s_l31First), (73, S_s_l31Due), (86, S_s_l01In), (87, S_s_l31Collide)]
theorem σok_s_DueTimes : ∀ f s, σ_s_DueTimes f = some s → FnOK Try.prog f s := sig_ok (l := [(45, S_s_AreStarters), (72, S_s_l31First), (73, S_s_l31Due), (86, S_s_l01In), (87, S_s_l31Collide)]) ⟨ok_s_AreStarters, ok_s_l31First, ok_s_l31Due, ok_s_l01In, ok_s_l31Collide, trivial⟩
noncomputable def Λ_s_DueTimes : Nat → Option LSpec := lkp (loopList (bodyOf Try.f41)) [⟨[0, 1, 6], (.pair (.list TStarter) (.pair (.int .i64) (.pair (.own 2 (.int .i64)) .unit))), 0, [6], (.pair (.own 2 (.int .i64)) .unit), [4, 5], (.pair (.own 2 (.int .i64)) (.pair (.int .i64) .unit)), loopL b_s_DueTimes_6⟩]
theorem lok_s_DueTimes_6 (x) : codeK Γ0 E0 σ_s_DueTimes Λ_s_DueTimes Try.f41.ntmps (nthLoop Try.f41 0) (mkF Try.f41.ntmps [0, 1, 6] (.pair (.list TStarter) (.pair (.int .i64) (.pair (.own 2 (.int .i64)) .unit))) x) (readK σ_s_DueTimes Try.f41.ntmps [0, 1, 6] (.pair (.list TStarter) (.pair (.int .i64) (.pair (.own 2 (.int .i64)) .unit))) 0 [6] (.pair (.own 2 (.int .i64)) .unit) [4, 5] (.pair (.own 2 (.int .i64)) (.pair (.int .i64) .unit))) = b_s_DueTimes_6 x := by kernel_rfl
theorem ok_s_DueTimes : FnOK Try.prog 41 S_s_DueTimes := fn_ok (Λ := Λ_s_DueTimes) tab0 σok_s_DueTimes Try.func41 (by kernel_rfl) (show Try.f41.body = some (bodyOf Try.f41) by kernel_rfl) [⟨[0, 1, 6], (.pair (.list TStarter) (.pair (.int .i64) (.pair (.own 2 (.int .i64)) .unit))), 0, [6], (.pair (.own 2 (.int .i64)) .unit), [4, 5], (.pair (.own 2 (.int .i64)) (.pair (.int .i64) .unit)), loopL b_s_DueTimes_6⟩] rfl (by kernel_rfl) (by exact ⟨loop_LOK lok_s_DueTimes_6, trivial⟩) (by kernel_rfl)
  fun x y h => (show execFn Γ0 E0 σ_s_DueTimes Λ_s_DueTimes Try.f41 S_s_DueTimes x = s_DueTimes x by kernel_rfl).trans h

noncomputable def b_i_DueTimes_7 (x : (Ty.T (.pair (.list TStarter) (.pair (.own 2 (.int .i64)) (.pair (.int .i64) (.pair (.int .i64) .unit)))))) : Option ((Ty.T (.pair (.list TStarter) (.pair (.own 2 (.int .i64)) (.pair (.int .i64) (.pair (.int .i64) .unit))))) ⊕ ((Ty.T (.pair (.own 2 (.int .i64)) .unit)) ⊕ (Ty.T (.pair (.own 2 (.int .i64)) (.pair (.int .i64) .unit))))) :=
match (decide (x.2.2.2.1 < x.2.2.1)) with
| true =>
 match i_leastDue (x.2.1, ()) with
 | none => none
 | some v4 =>
 match ((v4.1.length : Int) == (1 : Int)) with
 | true =>
  some (.inr (.inr ([], (4 : Int), ())))
 | false =>
  match i_collide (x.1, x.2.1, ()) with
  | none => none
  | some v5 =>
  some (.inl (x.1, v5.1, x.2.2.1, (IntKind.i64.wrap (x.2.2.2.1 + (1 : Int))), ()))
| false =>
 some (.inr (.inl (x.2.1, ())))
noncomputable def i_DueTimes (x : Ty.T (.pair (.list TStarter) (.pair (.int .i64) .unit))) : Option (Ty.T (.pair (.own 2 (.int .i64)) (.pair (.int .i64) .unit))) :=
match i_AreStarters (x.1, ()) with
| none => none
| some v1 =>
match (!v1.1) with
| true =>
 some ([], (1 : Int), ())
| false =>
 match i_within (x.2.1, (0 : Int), (50 : Int), ()) with
 | none => none
 | some v2 =>
 match (!v2.1) with
 | true =>
  some ([], (2 : Int), ())
 | false =>
  match i_firstDue (x.1, ()) with
  | none => none
  | some v3 =>
  match loopL b_i_DueTimes_7 (x.1, v3.1, x.2.1, (0 : Int), ()) with
  | none => none
  | some (.inl v6) =>
   some (v6.1, (0 : Int), ())
  | some (.inr v7) =>
   some (v7.1, v7.2.1, ())
noncomputable def S_i_DueTimes : Spec := ⟨(.pair (.list TStarter) (.pair (.int .i64) .unit)), (.pair (.own 2 (.int .i64)) (.pair (.int .i64) .unit)), .unit, rfl, i_DueTimes⟩
noncomputable def σ_i_DueTimes : FuncId → Option Spec := sig [(44, S_i_AreStarters), (74, S_i_leastDue), (75, S_i_firstDue), (88, S_i_within), (89, S_i_collide)]
theorem σok_i_DueTimes : ∀ f s, σ_i_DueTimes f = some s → FnOK Try.prog f s := sig_ok (l := [(44, S_i_AreStarters), (74, S_i_leastDue), (75, S_i_firstDue), (88, S_i_within), (89, S_i_collide)]) ⟨ok_i_AreStarters, ok_i_leastDue, ok_i_firstDue, ok_i_within, ok_i_collide, trivial⟩
noncomputable def Λ_i_DueTimes : Nat → Option LSpec := lkp (loopList (bodyOf Try.f42)) [⟨[0, 6, 15, 16], (.pair (.list TStarter) (.pair (.own 2 (.int .i64)) (.pair (.int .i64) (.pair (.int .i64) .unit)))), 0, [6], (.pair (.own 2 (.int .i64)) .unit), [4, 5], (.pair (.own 2 (.int .i64)) (.pair (.int .i64) .unit)), loopL b_i_DueTimes_7⟩]
theorem lok_i_DueTimes_7 (x) : codeK Γ0 E0 σ_i_DueTimes Λ_i_DueTimes Try.f42.ntmps (nthLoop Try.f42 0) (mkF Try.f42.ntmps [0, 6, 15, 16] (.pair (.list TStarter) (.pair (.own 2 (.int .i64)) (.pair (.int .i64) (.pair (.int .i64) .unit)))) x) (readK σ_i_DueTimes Try.f42.ntmps [0, 6, 15, 16] (.pair (.list TStarter) (.pair (.own 2 (.int .i64)) (.pair (.int .i64) (.pair (.int .i64) .unit)))) 0 [6] (.pair (.own 2 (.int .i64)) .unit) [4, 5] (.pair (.own 2 (.int .i64)) (.pair (.int .i64) .unit))) = b_i_DueTimes_7 x := by kernel_rfl
theorem ok_i_DueTimes : FnOK Try.prog 42 S_i_DueTimes := fn_ok (Λ := Λ_i_DueTimes) tab0 σok_i_DueTimes Try.func42 (by kernel_rfl) (show Try.f42.body = some (bodyOf Try.f42) by kernel_rfl) [⟨[0, 6, 15, 16], (.pair (.list TStarter) (.pair (.own 2 (.int .i64)) (.pair (.int .i64) (.pair (.int .i64) .unit)))), 0, [6], (.pair (.own 2 (.int .i64)) .unit), [4, 5], (.pair (.own 2 (.int .i64)) (.pair (.int .i64) .unit)), loopL b_i_DueTimes_7⟩] rfl (by kernel_rfl) (by exact ⟨loop_LOK lok_i_DueTimes_7, trivial⟩) (by kernel_rfl)
  fun x y h => (show execFn Γ0 E0 σ_i_DueTimes Λ_i_DueTimes Try.f42 S_i_DueTimes x = i_DueTimes x by kernel_rfl).trans h

noncomputable def l_FnExactDueTimes (x : Ty.T (.pair (.list TStarter) (.pair (.int .i64) .unit))) : Option (Ty.T (.pair .bool .unit)) :=
match l_szStarterS (x.1, (1048576 : Int), ()) with
| none => none
| some v1 =>
match (decide (v1.1 < (0 : Int))) with
| true =>
 some (true, ())
| false =>
 match l_toStarterS (x.1, ()) with
 | none => none
 | some v2 =>
 match s_DueTimes (v2.1, x.2.1, ()) with
 | none => none
 | some v3 =>
 match l_toStarterS (x.1, ()) with
 | none => none
 | some v4 =>
 match i_DueTimes (v4.1, x.2.1, ()) with
 | none => none
 | some v5 =>
 match l_eqInt64S (v5.1, v3.1, ()) with
 | none => none
 | some v6 =>
 match (!v6.1) with
 | true =>
  some (false, ())
 | false =>
  match (v5.2.1 != v3.2.1) with
  | true =>
   some (false, ())
  | false =>
   match l_toStarterS (x.1, ()) with
   | none => none
   | some v7 =>
   match l_eqStarterS (v4.1, v7.1, ()) with
   | none => none
   | some v8 =>
   match (!v8.1) with
   | true =>
    some (false, ())
   | false =>
    match l_markStarterS (v4.1, (1 : Int), ()) with
    | none => none
    | some v9 =>
    match (decide (v9.1 < (0 : Int))) with
    | true =>
     some (false, ())
    | false =>
     match l_eqInt64S (v5.1, v3.1, ()) with
     | none => none
     | some v10 =>
     match (!v10.1) with
     | true =>
      some (false, ())
     | false =>
      match (v5.2.1 != v3.2.1) with
      | true =>
       some (false, ())
      | false =>
       match l_markInt64S (v5.1, (1 : Int), ()) with
       | none => none
       | some v11 =>
       match l_heldInt64S (v11.2.1, (1 : Int), ()) with
       | none => none
       | some v12 =>
       match (decide (v12.1 < (0 : Int))) with
       | true =>
        some (false, ())
       | false =>
        match (v12.1 != v11.1) with
        | true =>
         some (false, ())
        | false =>
         match l_toStarterS (x.1, ()) with
         | none => none
         | some v13 =>
         match i_DueTimes (v13.1, x.2.1, ()) with
         | none => none
         | some v14 =>
         match l_eqInt64S (v14.1, v3.1, ()) with
         | none => none
         | some v15 =>
         match (!v15.1) with
         | true =>
          some (false, ())
         | false =>
          match (v14.2.1 != v3.2.1) with
          | true =>
           some (false, ())
          | false =>
           match l_heldInt64S (v11.2.1, (1 : Int), ()) with
           | none => none
           | some v16 =>
           match (decide (v16.1 < (0 : Int))) with
           | true =>
            some (false, ())
           | false =>
            match (v16.1 != v11.1) with
            | true =>
             some (false, ())
            | false =>
             some (true, ())
noncomputable def S_l_FnExactDueTimes : Spec := ⟨(.pair (.list TStarter) (.pair (.int .i64) .unit)), (.pair .bool .unit), .unit, rfl, l_FnExactDueTimes⟩
noncomputable def σ_l_FnExactDueTimes : FuncId → Option Spec := sig [(15, S_l_szStarterS), (17, S_l_toStarterS), (19, S_l_eqStarterS), (20, S_l_markStarterS), (24, S_l_eqInt64S), (25, S_l_markInt64S), (26, S_l_heldInt64S), (41, S_s_DueTimes), (42, S_i_DueTimes)]
theorem σok_l_FnExactDueTimes : ∀ f s, σ_l_FnExactDueTimes f = some s → FnOK Try.prog f s := sig_ok (l := [(15, S_l_szStarterS), (17, S_l_toStarterS), (19, S_l_eqStarterS), (20, S_l_markStarterS), (24, S_l_eqInt64S), (25, S_l_markInt64S), (26, S_l_heldInt64S), (41, S_s_DueTimes), (42, S_i_DueTimes)]) ⟨ok_l_szStarterS, ok_l_toStarterS, ok_l_eqStarterS, ok_l_markStarterS, ok_l_eqInt64S, ok_l_markInt64S, ok_l_heldInt64S, ok_s_DueTimes, ok_i_DueTimes, trivial⟩
noncomputable def Λ_l_FnExactDueTimes : Nat → Option LSpec := lkp (loopList (bodyOf Try.f7)) []
theorem ok_l_FnExactDueTimes : FnOK Try.prog 7 S_l_FnExactDueTimes := fn_ok (Λ := Λ_l_FnExactDueTimes) tab0 σok_l_FnExactDueTimes Try.func7 (by kernel_rfl) (show Try.f7.body = some (bodyOf Try.f7) by kernel_rfl) [] rfl (by kernel_rfl) (by exact trivial) (by kernel_rfl)
  fun x y h => (show execFn Γ0 E0 σ_l_FnExactDueTimes Λ_l_FnExactDueTimes Try.f7 S_l_FnExactDueTimes x = l_FnExactDueTimes x by kernel_rfl).trans h

noncomputable def b_s_l31Draw_4 (x : (Ty.T (.pair (.box Tl01Source) (.pair (.own 57 TStarter) (.pair (.int .i64) (.pair (.int .i64) .unit)))))) : Option ((Ty.T (.pair (.box Tl01Source) (.pair (.own 57 TStarter) (.pair (.int .i64) (.pair (.int .i64) .unit))))) ⊕ ((Ty.T (.pair (.box Tl01Source) (.pair (.own 57 TStarter) .unit))) ⊕ (Ty.T .unit))) :=
match (decide (x.2.2.2.1 > (0 : Int))) with
| true =>
 match s_l01Next ((x.1.1, x.1.2.1, x.1.2.2.1, ()), (3 : Int), ()) with
 | none => none
 | some v2 =>
 match s_l01Next ((v2.2.1.1, v2.2.1.2.1, v2.2.1.2.2.1, ()), (4 : Int), ()) with
 | none => none
 | some v3 =>
 match s_l01Next ((v3.2.1.1, v3.2.1.2.1, v3.2.1.2.2.1, ()), (6 : Int), ()) with
 | none => none
 | some v4 =>
 match s_l01Next ((v4.2.1.1, v4.2.1.2.1, v4.2.1.2.2.1, ()), (2 : Int), ()) with
 | none => none
 | some v5 =>
 match (v5.1 == (0 : Int)) with
 | true =>
  match s_l01Next ((v5.2.1.1, v5.2.1.2.1, v5.2.1.2.2.1, ()), (2 : Int), ()) with
  | none => none
  | some v6 =>
  room (x.2.1.length + [((IntKind.i64.wrap ((x.2.1.length : Int) + (IntKind.i64.wrap ((IntKind.i64.wrap ((2 : Int) * v6.1)) * (x.2.1.length : Int))))), v3.1, (IntKind.i64.wrap ((6 : Int) - v3.1)), (IntKind.i64.wrap ((IntKind.i64.wrap (x.2.2.1 + (1 : Int))) + v2.1)), ())].length) (
   some (.inl ((v6.2.1.1, v6.2.1.2.1, v6.2.1.2.2.1, ()), (x.2.1 ++ [((IntKind.i64.wrap ((x.2.1.length : Int) + (IntKind.i64.wrap ((IntKind.i64.wrap ((2 : Int) * v6.1)) * (x.2.1.length : Int))))), v3.1, (IntKind.i64.wrap ((6 : Int) - v3.1)), (IntKind.i64.wrap ((IntKind.i64.wrap (x.2.2.1 + (1 : Int))) + v2.1)), ())]), (IntKind.i64.wrap ((IntKind.i64.wrap (x.2.2.1 + (1 : Int))) + v2.1)), (IntKind.i64.wrap (x.2.2.2.1 - (1 : Int))), ())))
 | false =>
  match s_l01Next ((v5.2.1.1, v5.2.1.2.1, v5.2.1.2.2.1, ()), (2 : Int), ()) with
  | none => none
  | some v7 =>
  room (x.2.1.length + [((IntKind.i64.wrap ((x.2.1.length : Int) + (IntKind.i64.wrap ((IntKind.i64.wrap ((2 : Int) * v7.1)) * (x.2.1.length : Int))))), v3.1, (IntKind.i64.wrap ((1 : Int) + v4.1)), (IntKind.i64.wrap ((IntKind.i64.wrap (x.2.2.1 + (1 : Int))) + v2.1)), ())].length) (
   some (.inl ((v7.2.1.1, v7.2.1.2.1, v7.2.1.2.2.1, ()), (x.2.1 ++ [((IntKind.i64.wrap ((x.2.1.length : Int) + (IntKind.i64.wrap ((IntKind.i64.wrap ((2 : Int) * v7.1)) * (x.2.1.length : Int))))), v3.1, (IntKind.i64.wrap ((1 : Int) + v4.1)), (IntKind.i64.wrap ((IntKind.i64.wrap (x.2.2.1 + (1 : Int))) + v2.1)), ())]), (IntKind.i64.wrap ((IntKind.i64.wrap (x.2.2.1 + (1 : Int))) + v2.1)), (IntKind.i64.wrap (x.2.2.2.1 - (1 : Int))), ())))
| false =>
 some (.inr (.inl ((x.1.1, x.1.2.1, x.1.2.2.1, ()), x.2.1, ())))
noncomputable def s_l31Draw (x : Ty.T (.pair (.box Tl01Source) .unit)) : Option (Ty.T (.pair (.own 57 TStarter) (.pair (.box Tl01Source) .unit))) :=
match s_l01Next ((x.1.1, x.1.2.1, x.1.2.2.1, ()), (6 : Int), ()) with
| none => none
| some v1 =>
match loopL b_s_l31Draw_4 ((v1.2.1.1, v1.2.1.2.1, v1.2.1.2.2.1, ()), [], (0 : Int), (IntKind.i64.wrap ((1 : Int) + v1.1)), ()) with
| none => none
| some (.inl v8) =>
 match s_l01Next ((v8.1.1, v8.1.2.1, v8.1.2.2.1, ()), (v8.2.1.length : Int), ()) with
 | none => none
 | some v10 =>
 match s_l01Next ((v10.2.1.1, v10.2.1.2.1, v10.2.1.2.2.1, ()), (24 : Int), ()) with
 | none => none
 | some v11 =>
 match (v11.1 == (0 : Int)) with
 | true =>
  match s_l01Next ((v11.2.1.1, v11.2.1.2.1, v11.2.1.2.2.1, ()), (3 : Int), ()) with
  | none => none
  | some v12 =>
  onSome (idx [(-1 : Int), (31 : Int), (32 : Int)] v12.1) fun _ =>
  match [(-1 : Int), (31 : Int), (32 : Int)][v12.1.toNat]? with
  | none => none
  | some v14 =>
  onSome (idx v8.2.1 v10.1) fun _ =>
  match v8.2.1[v10.1.toNat]? with
  | none => none
  | some v16 =>
  some ((v8.2.1.set v10.1.toNat (v14, v16.2.1, v16.2.2.1, v16.2.2.2.1, ())), (v12.2.1.1, v12.2.1.2.1, v12.2.1.2.2.1, ()), ())
 | false =>
  match (v11.1 == (1 : Int)) with
  | true =>
   match s_l01Next ((v11.2.1.1, v11.2.1.2.1, v11.2.1.2.2.1, ()), (3 : Int), ()) with
   | none => none
   | some v17 =>
   onSome (idx [(-1 : Int), (100000 : Int), (100001 : Int)] v17.1) fun _ =>
   match [(-1 : Int), (100000 : Int), (100001 : Int)][v17.1.toNat]? with
   | none => none
   | some v19 =>
   onSome (idx v8.2.1 v10.1) fun _ =>
   match v8.2.1[v10.1.toNat]? with
   | none => none
   | some v21 =>
   some ((v8.2.1.set v10.1.toNat (v21.1, v19, v21.2.2.1, v21.2.2.2.1, ())), (v17.2.1.1, v17.2.1.2.1, v17.2.1.2.2.1, ()), ())
  | false =>
   match (v11.1 == (2 : Int)) with
   | true =>
    match s_l01Next ((v11.2.1.1, v11.2.1.2.1, v11.2.1.2.2.1, ()), (3 : Int), ()) with
    | none => none
    | some v22 =>
    onSome (idx [(0 : Int), (100000 : Int), (100001 : Int)] v22.1) fun _ =>
    match [(0 : Int), (100000 : Int), (100001 : Int)][v22.1.toNat]? with
    | none => none
    | some v24 =>
    onSome (idx v8.2.1 v10.1) fun _ =>
    match v8.2.1[v10.1.toNat]? with
    | none => none
    | some v26 =>
    some ((v8.2.1.set v10.1.toNat (v26.1, v26.2.1, v24, v26.2.2.2.1, ())), (v22.2.1.1, v22.2.1.2.1, v22.2.1.2.2.1, ()), ())
   | false =>
    match (v11.1 == (3 : Int)) with
    | true =>
     match s_l01Next ((v11.2.1.1, v11.2.1.2.1, v11.2.1.2.2.1, ()), (3 : Int), ()) with
     | none => none
     | some v27 =>
     onSome (idx [(0 : Int), (1 : Int), (100001 : Int)] v27.1) fun _ =>
     match [(0 : Int), (1 : Int), (100001 : Int)][v27.1.toNat]? with
     | none => none
     | some v29 =>
     onSome (idx v8.2.1 v10.1) fun _ =>
     match v8.2.1[v10.1.toNat]? with
     | none => none
     | some v31 =>
     some ((v8.2.1.set v10.1.toNat (v31.1, v31.2.1, v31.2.2.1, v29, ())), (v27.2.1.1, v27.2.1.2.1, v27.2.1.2.2.1, ()), ())
    | false =>
     match (v11.1 == (4 : Int)) with
     | true =>
      some ([], (v11.2.1.1, v11.2.1.2.1, v11.2.1.2.2.1, ()), ())
     | false =>
      match (v11.1 == (5 : Int)) with
      | true =>
       match s_l01Next ((v11.2.1.1, v11.2.1.2.1, v11.2.1.2.2.1, ()), (2 : Int), ()) with
       | none => none
       | some v32 =>
       match s_l01Next ((v32.2.1.1, v32.2.1.2.1, v32.2.1.2.2.1, ()), (4 : Int), ()) with
       | none => none
       | some v33 =>
       some ([((0 : Int), (0 : Int), (4 : Int), (2 : Int), ()), ((1 : Int), (2 : Int), (2 : Int), (IntKind.i64.wrap ((5 : Int) + v32.1)), ()), ((2 : Int), (3 : Int), (IntKind.i64.wrap ((2 : Int) + (IntKind.i64.wrap (Int.tdiv v33.1 (3 : Int))))), (4 : Int), ())], (v33.2.1.1, v33.2.1.2.1, v33.2.1.2.2.1, ()), ())
      | false =>
       some (v8.2.1, (v11.2.1.1, v11.2.1.2.1, v11.2.1.2.2.1, ()), ())
| some (.inr v34) =>
 none
noncomputable def S_s_l31Draw : Spec := ⟨(.pair (.box Tl01Source) .unit), (.pair (.own 57 TStarter) .unit), (.pair (.box Tl01Source) .unit), rfl, s_l31Draw⟩
noncomputable def σ_s_l31Draw : FuncId → Option Spec := sig [(80, S_s_l01Next)]
theorem σok_s_l31Draw : ∀ f s, σ_s_l31Draw f = some s → FnOK Try.prog f s := sig_ok (l := [(80, S_s_l01Next)]) ⟨ok_s_l01Next, trivial⟩
noncomputable def Λ_s_l31Draw : Nat → Option LSpec := lkp (loopList (bodyOf Try.f90)) [⟨[0, 3, 4, 5], (.pair (.box Tl01Source) (.pair (.own 57 TStarter) (.pair (.int .i64) (.pair (.int .i64) .unit)))), 0, [0, 3], (.pair (.box Tl01Source) (.pair (.own 57 TStarter) .unit)), [], .unit, loopL b_s_l31Draw_4⟩]
theorem lok_s_l31Draw_4 (x) : codeK Γ0 E0 σ_s_l31Draw Λ_s_l31Draw Try.f90.ntmps (nthLoop Try.f90 0) (mkF Try.f90.ntmps [0, 3, 4, 5] (.pair (.box Tl01Source) (.pair (.own 57 TStarter) (.pair (.int .i64) (.pair (.int .i64) .unit)))) x) (readK σ_s_l31Draw Try.f90.ntmps [0, 3, 4, 5] (.pair (.box Tl01Source) (.pair (.own 57 TStarter) (.pair (.int .i64) (.pair (.int .i64) .unit)))) 0 [0, 3] (.pair (.box Tl01Source) (.pair (.own 57 TStarter) .unit)) [] .unit) = b_s_l31Draw_4 x := by kernel_rfl
theorem ok_s_l31Draw : FnOK Try.prog 90 S_s_l31Draw := fn_ok (Λ := Λ_s_l31Draw) tab0 σok_s_l31Draw Try.func90 (by kernel_rfl) (show Try.f90.body = some (bodyOf Try.f90) by kernel_rfl) [⟨[0, 3, 4, 5], (.pair (.box Tl01Source) (.pair (.own 57 TStarter) (.pair (.int .i64) (.pair (.int .i64) .unit)))), 0, [0, 3], (.pair (.box Tl01Source) (.pair (.own 57 TStarter) .unit)), [], .unit, loopL b_s_l31Draw_4⟩] rfl (by kernel_rfl) (by exact ⟨loop_LOK lok_s_l31Draw_4, trivial⟩) (by kernel_rfl)
  fun x y h => (show execFn Γ0 E0 σ_s_l31Draw Λ_s_l31Draw Try.f90 S_s_l31Draw x = s_l31Draw x by kernel_rfl).trans h

noncomputable def s_DrawLeaderOf (x : Ty.T (.pair (.list (.int .u8)) .unit)) : Option (Ty.T (.pair (.own 57 TStarter) .unit)) :=
match s_l01From (x.1, ()) with
| none => none
| some v1 =>
match s_l31Draw ((v1.1.1, v1.1.2.1, v1.1.2.2.1, ()), ()) with
| none => none
| some v2 =>
some (v2.1, ())
noncomputable def S_s_DrawLeaderOf : Spec := ⟨(.pair (.list (.int .u8)) .unit), (.pair (.own 57 TStarter) .unit), .unit, rfl, s_DrawLeaderOf⟩
noncomputable def σ_s_DrawLeaderOf : FuncId → Option Spec := sig [(78, S_s_l01From), (90, S_s_l31Draw)]
theorem σok_s_DrawLeaderOf : ∀ f s, σ_s_DrawLeaderOf f = some s → FnOK Try.prog f s := sig_ok (l := [(78, S_s_l01From), (90, S_s_l31Draw)]) ⟨ok_s_l01From, ok_s_l31Draw, trivial⟩
noncomputable def Λ_s_DrawLeaderOf : Nat → Option LSpec := lkp (loopList (bodyOf Try.f43)) []
theorem ok_s_DrawLeaderOf : FnOK Try.prog 43 S_s_DrawLeaderOf := fn_ok (Λ := Λ_s_DrawLeaderOf) tab0 σok_s_DrawLeaderOf Try.func43 (by kernel_rfl) (show Try.f43.body = some (bodyOf Try.f43) by kernel_rfl) [] rfl (by kernel_rfl) (by exact trivial) (by kernel_rfl)
  fun x y h => (show execFn Γ0 E0 σ_s_DrawLeaderOf Λ_s_DrawLeaderOf Try.f43 S_s_DrawLeaderOf x = s_DrawLeaderOf x by kernel_rfl).trans h

noncomputable def b_i_JoinTimes_10 (x : (Ty.T (.pair (.int .i64) (.pair (.int .i64) (.pair (.int .i64) (.pair (.own 2 (.int .i64)) (.pair (.list TStarter) (.pair (.int .i64) (.pair (.int .i64) .unit))))))))) : Option ((Ty.T (.pair (.int .i64) (.pair (.int .i64) (.pair (.int .i64) (.pair (.own 2 (.int .i64)) (.pair (.list TStarter) (.pair (.int .i64) (.pair (.int .i64) .unit)))))))) ⊕ ((Ty.T (.pair (.own 2 (.int .i64)) .unit)) ⊕ (Ty.T .unit))) :=
match (decide (x.2.2.2.2.2.2.1 < x.2.2.2.2.2.1)) with
| true =>
 onSome (idx x.2.2.2.2.1 x.2.2.2.2.2.2.1) fun v4 =>
 match (x.2.2.2.2.2.2.1 == x.2.1) with
 | true =>
  room (x.2.2.2.1.length + [x.2.2.1].length) (
   some (.inl (x.1, x.2.1, x.2.2.1, (x.2.2.2.1 ++ [x.2.2.1]), x.2.2.2.2.1, x.2.2.2.2.2.1, (IntKind.i64.wrap (x.2.2.2.2.2.2.1 + (1 : Int))), ())))
 | false =>
  match (decide (v4.2.1 ≤ x.2.2.1)) with
  | true =>
   room (x.2.2.2.1.length + [(IntKind.i64.wrap (x.2.2.1 + x.1))].length) (
    some (.inl (x.1, x.2.1, x.2.2.1, (x.2.2.2.1 ++ [(IntKind.i64.wrap (x.2.2.1 + x.1))]), x.2.2.2.2.1, x.2.2.2.2.2.1, (IntKind.i64.wrap (x.2.2.2.2.2.2.1 + (1 : Int))), ())))
  | false =>
   if x.1 = 0 then none else
   room (x.2.2.2.1.length + [(IntKind.i64.wrap ((IntKind.i64.wrap (x.2.2.1 + (IntKind.i64.wrap ((IntKind.i64.wrap (Int.tdiv (IntKind.i64.wrap ((IntKind.i64.wrap ((IntKind.i64.wrap (v4.2.1 - x.2.2.1)) + x.1)) - (1 : Int))) x.1)) * x.1)))) + x.1))].length) (
    some (.inl (x.1, x.2.1, x.2.2.1, (x.2.2.2.1 ++ [(IntKind.i64.wrap ((IntKind.i64.wrap (x.2.2.1 + (IntKind.i64.wrap ((IntKind.i64.wrap (Int.tdiv (IntKind.i64.wrap ((IntKind.i64.wrap ((IntKind.i64.wrap (v4.2.1 - x.2.2.1)) + x.1)) - (1 : Int))) x.1)) * x.1)))) + x.1))]), x.2.2.2.2.1, x.2.2.2.2.2.1, (IntKind.i64.wrap (x.2.2.2.2.2.2.1 + (1 : Int))), ())))
| false =>
 some (.inr (.inl (x.2.2.2.1, ())))
noncomputable def i_JoinTimes (x : Ty.T (.pair (.list TStarter) (.pair (.int .i64) .unit))) : Option (Ty.T (.pair (.own 2 (.int .i64)) (.pair (.int .i64) .unit))) :=
match i_AreStarters (x.1, ()) with
| none => none
| some v1 =>
match (!v1.1) with
| true =>
 some ([], (1 : Int), ())
| false =>
 match i_within (x.2.1, (1 : Int), (100000 : Int), ()) with
 | none => none
 | some v2 =>
 match (!v2.1) with
 | true =>
  some ([], (2 : Int), ())
 | false =>
  match i_startup (x.1, ()) with
  | none => none
  | some v3 =>
  match (!v3.2.2.2.1) with
  | true =>
   some ([], (3 : Int), ())
  | false =>
   match loopL b_i_JoinTimes_10 (x.2.1, v3.1, v3.2.1, [], x.1, (x.1.length : Int), (0 : Int), ()) with
   | none => none
   | some (.inl v5) =>
    some (v5.1, (0 : Int), ())
   | some (.inr v7) =>
    none
noncomputable def S_i_JoinTimes : Spec := ⟨(.pair (.list TStarter) (.pair (.int .i64) .unit)), (.pair (.own 2 (.int .i64)) (.pair (.int .i64) .unit)), .unit, rfl, i_JoinTimes⟩
noncomputable def σ_i_JoinTimes : FuncId → Option Spec := sig [(44, S_i_AreStarters), (77, S_i_startup), (88, S_i_within)]
theorem σok_i_JoinTimes : ∀ f s, σ_i_JoinTimes f = some s → FnOK Try.prog f s := sig_ok (l := [(44, S_i_AreStarters), (77, S_i_startup), (88, S_i_within)]) ⟨ok_i_AreStarters, ok_i_startup, ok_i_within, trivial⟩
noncomputable def Λ_i_JoinTimes : Nat → Option LSpec := lkp (loopList (bodyOf Try.f46)) [⟨[1, 6, 7, 10, 29, 30, 31], (.pair (.int .i64) (.pair (.int .i64) (.pair (.int .i64) (.pair (.own 2 (.int .i64)) (.pair (.list TStarter) (.pair (.int .i64) (.pair (.int .i64) .unit))))))), 0, [10], (.pair (.own 2 (.int .i64)) .unit), [], .unit, loopL b_i_JoinTimes_10⟩]
theorem lok_i_JoinTimes_10 (x) : codeK Γ0 E0 σ_i_JoinTimes Λ_i_JoinTimes Try.f46.ntmps (nthLoop Try.f46 0) (mkF Try.f46.ntmps [1, 6, 7, 10, 29, 30, 31] (.pair (.int .i64) (.pair (.int .i64) (.pair (.int .i64) (.pair (.own 2 (.int .i64)) (.pair (.list TStarter) (.pair (.int .i64) (.pair (.int .i64) .unit))))))) x) (readK σ_i_JoinTimes Try.f46.ntmps [1, 6, 7, 10, 29, 30, 31] (.pair (.int .i64) (.pair (.int .i64) (.pair (.int .i64) (.pair (.own 2 (.int .i64)) (.pair (.list TStarter) (.pair (.int .i64) (.pair (.int .i64) .unit))))))) 0 [10] (.pair (.own 2 (.int .i64)) .unit) [] .unit) = b_i_JoinTimes_10 x := by kernel_rfl
theorem ok_i_JoinTimes : FnOK Try.prog 46 S_i_JoinTimes := fn_ok (Λ := Λ_i_JoinTimes) tab0 σok_i_JoinTimes Try.func46 (by kernel_rfl) (show Try.f46.body = some (bodyOf Try.f46) by kernel_rfl) [⟨[1, 6, 7, 10, 29, 30, 31], (.pair (.int .i64) (.pair (.int .i64) (.pair (.int .i64) (.pair (.own 2 (.int .i64)) (.pair (.list TStarter) (.pair (.int .i64) (.pair (.int .i64) .unit))))))), 0, [10], (.pair (.own 2 (.int .i64)) .unit), [], .unit, loopL b_i_JoinTimes_10⟩] rfl (by kernel_rfl) (by exact ⟨loop_LOK lok_i_JoinTimes_10, trivial⟩) (by kernel_rfl)
  fun x y h => (show execFn Γ0 E0 σ_i_JoinTimes Λ_i_JoinTimes Try.f46 S_i_JoinTimes x = i_JoinTimes x by kernel_rfl).trans h

noncomputable def b_l_FnLeaders_15 (x : (Ty.T (.pair (.own 57 TStarter) (.pair (.int .i64) (.pair (.int .i64) (.pair (.int .i64) (.pair (.own 2 (.int .i64)) (.pair (.own 2 (.int .i64)) (.pair (.int .i64) .unit))))))))) : Option ((Ty.T (.pair (.own 57 TStarter) (.pair (.int .i64) (.pair (.int .i64) (.pair (.int .i64) (.pair (.own 2 (.int .i64)) (.pair (.own 2 (.int .i64)) (.pair (.int .i64) .unit)))))))) ⊕ ((Ty.T (.pair (.own 57 TStarter) (.pair (.int .i64) .unit))) ⊕ (Ty.T (.pair .bool .unit)))) :=
match (decide (x.2.2.2.2.2.2.1 < (x.1.length : Int))) with
| true =>
 onSome (idx x.1 x.2.2.2.2.2.2.1) fun _ =>
 match x.1[x.2.2.2.2.2.2.1.toNat]? with
 | none => none
 | some v10 =>
 match (v10.1 == x.2.1) with
 | true =>
  onSome (idx x.2.2.2.2.1 x.2.2.2.2.2.2.1) fun _ =>
  match x.2.2.2.2.1[x.2.2.2.2.2.2.1.toNat]? with
  | none => none
  | some v12 =>
  match (v12 != x.2.2.1) with
  | true =>
   some (.inr (.inr (false, ())))
  | false =>
   onSome (idx x.2.2.2.2.2.1 x.2.2.2.2.2.2.1) fun _ =>
   match x.2.2.2.2.2.1[x.2.2.2.2.2.2.1.toNat]? with
   | none => none
   | some v14 =>
   match (v14 != x.2.2.1) with
   | true =>
    some (.inr (.inr (false, ())))
   | false =>
    match (!(v10.1 == x.2.1)) with
    | true =>
     onSome (idx x.2.2.2.2.1 x.2.2.2.2.2.2.1) fun _ =>
     match x.2.2.2.2.1[x.2.2.2.2.2.2.1.toNat]? with
     | none => none
     | some v16 =>
     match (decide (v16 ≤ x.2.2.1)) with
     | true =>
      some (.inr (.inr (false, ())))
     | false =>
      onSome (idx x.2.2.2.2.2.1 x.2.2.2.2.2.2.1) fun _ =>
      match x.2.2.2.2.2.1[x.2.2.2.2.2.2.1.toNat]? with
      | none => none
      | some v18 =>
      match (decide (v18 ≤ x.2.2.1)) with
      | true =>
       some (.inr (.inr (false, ())))
      | false =>
       some (.inl (x.1, x.2.1, x.2.2.1, x.2.2.2.1, x.2.2.2.2.1, x.2.2.2.2.2.1, (IntKind.i64.wrap (x.2.2.2.2.2.2.1 + (1 : Int))), ()))
    | false =>
     some (.inl (x.1, x.2.1, x.2.2.1, x.2.2.2.1, x.2.2.2.2.1, x.2.2.2.2.2.1, (IntKind.i64.wrap (x.2.2.2.2.2.2.1 + (1 : Int))), ()))
 | false =>
  match (!(v10.1 == x.2.1)) with
  | true =>
   onSome (idx x.2.2.2.2.1 x.2.2.2.2.2.2.1) fun _ =>
   match x.2.2.2.2.1[x.2.2.2.2.2.2.1.toNat]? with
   | none => none
   | some v20 =>
   match (decide (v20 ≤ x.2.2.1)) with
   | true =>
    some (.inr (.inr (false, ())))
   | false =>
    onSome (idx x.2.2.2.2.2.1 x.2.2.2.2.2.2.1) fun _ =>
    match x.2.2.2.2.2.1[x.2.2.2.2.2.2.1.toNat]? with
    | none => none
    | some v22 =>
    match (decide (v22 ≤ x.2.2.1)) with
    | true =>
     some (.inr (.inr (false, ())))
    | false =>
     some (.inl (x.1, x.2.1, x.2.2.1, x.2.2.2.1, x.2.2.2.2.1, x.2.2.2.2.2.1, (IntKind.i64.wrap (x.2.2.2.2.2.2.1 + (1 : Int))), ()))
  | false =>
   some (.inl (x.1, x.2.1, x.2.2.1, x.2.2.2.1, x.2.2.2.2.1, x.2.2.2.2.2.1, (IntKind.i64.wrap (x.2.2.2.2.2.2.1 + (1 : Int))), ()))
| false =>
 some (.inr (.inl (x.1, x.2.2.2.1, ())))
noncomputable def l_FnLeaders (x : Ty.T (.pair (.list (.int .u8)) .unit)) : Option (Ty.T (.pair .bool .unit)) :=
match l_big (x.1, ()) with
| none => none
| some v1 =>
match v1.1 with
| true =>
 some (true, ())
| false =>
 match s_DrawLeaderOf (x.1, ()) with
 | none => none
 | some v2 =>
 match i_LeaderOf (v2.1, ()) with
 | none => none
 | some v3 =>
 match s_LeaderOf (v2.1, ()) with
 | none => none
 | some v4 =>
 match (v3.2.2.2.1 != v4.2.2.2.1) with
 | true =>
  some (false, ())
 | false =>
  match (v3.1 != v4.1) with
  | true =>
   some (false, ())
  | false =>
   match (v3.2.1 != v4.2.1) with
   | true =>
    some (false, ())
   | false =>
    match (v3.2.2.1 != v4.2.2.1) with
    | true =>
     some (false, ())
    | false =>
     match i_AreStarters (v2.1, ()) with
     | none => none
     | some v5 =>
     match s_AreStarters (v2.1, ()) with
     | none => none
     | some v6 =>
     match (v5.1 != v6.1) with
     | true =>
      some (false, ())
     | false =>
      match (v3.2.2.2.1 != (0 : Int)) with
      | true =>
       some (true, ())
      | false =>
       match i_DueTimes (v2.1, v3.2.2.1, ()) with
       | none => none
       | some v7 =>
       match i_JoinTimes (v2.1, (5 : Int), ()) with
       | none => none
       | some v8 =>
       match (v7.2.1 != (0 : Int)) with
       | true =>
        some (false, ())
       | false =>
        match (v8.2.1 != (0 : Int)) with
        | true =>
         some (false, ())
        | false =>
         match ((v7.1.length : Int) != (v2.1.length : Int)) with
         | true =>
          some (false, ())
         | false =>
          match ((v8.1.length : Int) != (v2.1.length : Int)) with
          | true =>
           some (false, ())
          | false =>
           match loopL b_l_FnLeaders_15 (v2.1, v3.1, v3.2.1, v3.2.2.1, v7.1, v8.1, (0 : Int), ()) with
           | none => none
           | some (.inl v23) =>
            match i_DueTimes (v23.1, (IntKind.i64.wrap (v23.2.1 + (1 : Int))), ()) with
            | none => none
            | some v25 =>
            match (v25.2.1 == (4 : Int)) with
            | true =>
             some (true, ())
            | false =>
             some ((v23.2.1 == (50 : Int)), ())
           | some (.inr v24) =>
            some (v24.1, ())
noncomputable def S_l_FnLeaders : Spec := ⟨(.pair (.list (.int .u8)) .unit), (.pair .bool .unit), .unit, rfl, l_FnLeaders⟩
noncomputable def σ_l_FnLeaders : FuncId → Option Spec := sig [(27, S_s_LeaderOf), (28, S_i_LeaderOf), (29, S_l_big), (42, S_i_DueTimes), (43, S_s_DrawLeaderOf), (44, S_i_AreStarters), (45, S_s_AreStarters), (46, S_i_JoinTimes)]
theorem σok_l_FnLeaders : ∀ f s, σ_l_FnLeaders f = some s → FnOK Try.prog f s := sig_ok (l := [(27, S_s_LeaderOf), (28, S_i_LeaderOf), (29, S_l_big), (42, S_i_DueTimes), (43, S_s_DrawLeaderOf), (44, S_i_AreStarters), (45, S_s_AreStarters), (46, S_i_JoinTimes)]) ⟨ok_s_LeaderOf, ok_i_LeaderOf, ok_l_big, ok_i_DueTimes, ok_s_DrawLeaderOf, ok_i_AreStarters, ok_s_AreStarters, ok_i_JoinTimes, trivial⟩
noncomputable def Λ_l_FnLeaders : Nat → Option LSpec := lkp (loopList (bodyOf Try.f8)) [⟨[3, 4, 5, 6, 12, 14, 16], (.pair (.own 57 TStarter) (.pair (.int .i64) (.pair (.int .i64) (.pair (.int .i64) (.pair (.own 2 (.int .i64)) (.pair (.own 2 (.int .i64)) (.pair (.int .i64) .unit))))))), 0, [3, 6], (.pair (.own 57 TStarter) (.pair (.int .i64) .unit)), [2], (.pair .bool .unit), loopL b_l_FnLeaders_15⟩]
theorem lok_l_FnLeaders_15 (x) : codeK Γ0 E0 σ_l_FnLeaders Λ_l_FnLeaders Try.f8.ntmps (nthLoop Try.f8 0) (mkF Try.f8.ntmps [3, 4, 5, 6, 12, 14, 16] (.pair (.own 57 TStarter) (.pair (.int .i64) (.pair (.int .i64) (.pair (.int .i64) (.pair (.own 2 (.int .i64)) (.pair (.own 2 (.int .i64)) (.pair (.int .i64) .unit))))))) x) (readK σ_l_FnLeaders Try.f8.ntmps [3, 4, 5, 6, 12, 14, 16] (.pair (.own 57 TStarter) (.pair (.int .i64) (.pair (.int .i64) (.pair (.int .i64) (.pair (.own 2 (.int .i64)) (.pair (.own 2 (.int .i64)) (.pair (.int .i64) .unit))))))) 0 [3, 6] (.pair (.own 57 TStarter) (.pair (.int .i64) .unit)) [2] (.pair .bool .unit)) = b_l_FnLeaders_15 x := by kernel_rfl
theorem ok_l_FnLeaders : FnOK Try.prog 8 S_l_FnLeaders := fn_ok (Λ := Λ_l_FnLeaders) tab0 σok_l_FnLeaders Try.func8 (by kernel_rfl) (show Try.f8.body = some (bodyOf Try.f8) by kernel_rfl) [⟨[3, 4, 5, 6, 12, 14, 16], (.pair (.own 57 TStarter) (.pair (.int .i64) (.pair (.int .i64) (.pair (.int .i64) (.pair (.own 2 (.int .i64)) (.pair (.own 2 (.int .i64)) (.pair (.int .i64) .unit))))))), 0, [3, 6], (.pair (.own 57 TStarter) (.pair (.int .i64) .unit)), [2], (.pair .bool .unit), loopL b_l_FnLeaders_15⟩] rfl (by kernel_rfl) (by exact ⟨loop_LOK lok_l_FnLeaders_15, trivial⟩) (by kernel_rfl)
  fun x y h => (show execFn Γ0 E0 σ_l_FnLeaders Λ_l_FnLeaders Try.f8 S_l_FnLeaders x = l_FnLeaders x by kernel_rfl).trans h

noncomputable def s_DrawFirstStart (x : Ty.T (.pair (.list (.int .u8)) .unit)) : Option (Ty.T (.pair (.own 57 TStarter) .unit)) :=
match s_l01From (x.1, ()) with
| none => none
| some v1 =>
match s_l31Draw ((v1.1.1, v1.1.2.1, v1.1.2.2.1, ()), ()) with
| none => none
| some v2 =>
some (v2.1, ())
noncomputable def S_s_DrawFirstStart : Spec := ⟨(.pair (.list (.int .u8)) .unit), (.pair (.own 57 TStarter) .unit), .unit, rfl, s_DrawFirstStart⟩
noncomputable def σ_s_DrawFirstStart : FuncId → Option Spec := sig [(78, S_s_l01From), (90, S_s_l31Draw)]
theorem σok_s_DrawFirstStart : ∀ f s, σ_s_DrawFirstStart f = some s → FnOK Try.prog f s := sig_ok (l := [(78, S_s_l01From), (90, S_s_l31Draw)]) ⟨ok_s_l01From, ok_s_l31Draw, trivial⟩
noncomputable def Λ_s_DrawFirstStart : Nat → Option LSpec := lkp (loopList (bodyOf Try.f47)) []
theorem ok_s_DrawFirstStart : FnOK Try.prog 47 S_s_DrawFirstStart := fn_ok (Λ := Λ_s_DrawFirstStart) tab0 σok_s_DrawFirstStart Try.func47 (by kernel_rfl) (show Try.f47.body = some (bodyOf Try.f47) by kernel_rfl) [] rfl (by kernel_rfl) (by exact trivial) (by kernel_rfl)
  fun x y h => (show execFn Γ0 E0 σ_s_DrawFirstStart Λ_s_DrawFirstStart Try.f47 S_s_DrawFirstStart x = s_DrawFirstStart x by kernel_rfl).trans h

noncomputable def s_DrawWithoutStarter (x : Ty.T (.pair (.list (.int .u8)) .unit)) : Option (Ty.T (.pair (.own 57 TStarter) (.pair (.int .i64) .unit))) :=
match s_l01From (x.1, ()) with
| none => none
| some v1 =>
match s_l31Draw ((v1.1.1, v1.1.2.1, v1.1.2.2.1, ()), ()) with
| none => none
| some v2 =>
match s_l01Next ((v2.2.1.1, v2.2.1.2.1, v2.2.1.2.2.1, ()), (6 : Int), ()) with
| none => none
| some v3 =>
some (v2.1, v3.1, ())
noncomputable def S_s_DrawWithoutStarter : Spec := ⟨(.pair (.list (.int .u8)) .unit), (.pair (.own 57 TStarter) (.pair (.int .i64) .unit)), .unit, rfl, s_DrawWithoutStarter⟩
noncomputable def σ_s_DrawWithoutStarter : FuncId → Option Spec := sig [(78, S_s_l01From), (80, S_s_l01Next), (90, S_s_l31Draw)]
theorem σok_s_DrawWithoutStarter : ∀ f s, σ_s_DrawWithoutStarter f = some s → FnOK Try.prog f s := sig_ok (l := [(78, S_s_l01From), (80, S_s_l01Next), (90, S_s_l31Draw)]) ⟨ok_s_l01From, ok_s_l01Next, ok_s_l31Draw, trivial⟩
noncomputable def Λ_s_DrawWithoutStarter : Nat → Option LSpec := lkp (loopList (bodyOf Try.f48)) []
theorem ok_s_DrawWithoutStarter : FnOK Try.prog 48 S_s_DrawWithoutStarter := fn_ok (Λ := Λ_s_DrawWithoutStarter) tab0 σok_s_DrawWithoutStarter Try.func48 (by kernel_rfl) (show Try.f48.body = some (bodyOf Try.f48) by kernel_rfl) [] rfl (by kernel_rfl) (by exact trivial) (by kernel_rfl)
  fun x y h => (show execFn Γ0 E0 σ_s_DrawWithoutStarter Λ_s_DrawWithoutStarter Try.f48 S_s_DrawWithoutStarter x = s_DrawWithoutStarter x by kernel_rfl).trans h

noncomputable def b_s_JoinTimes_10 (x : (Ty.T (.pair (.list TStarter) (.pair (.int .i64) (.pair (.int .i64) (.pair (.int .i64) (.pair (.own 2 (.int .i64)) (.pair (.int .i64) .unit)))))))) : Option ((Ty.T (.pair (.list TStarter) (.pair (.int .i64) (.pair (.int .i64) (.pair (.int .i64) (.pair (.own 2 (.int .i64)) (.pair (.int .i64) .unit))))))) ⊕ ((Ty.T (.pair (.own 2 (.int .i64)) .unit)) ⊕ (Ty.T .unit))) :=
match (decide (x.2.2.2.2.2.1 < (x.1.length : Int))) with
| true =>
 match (x.2.2.2.2.2.1 == x.2.2.1) with
 | true =>
  room (x.2.2.2.2.1.length + [x.2.2.2.1].length) (
   some (.inl (x.1, x.2.1, x.2.2.1, x.2.2.2.1, (x.2.2.2.2.1 ++ [x.2.2.2.1]), (IntKind.i64.wrap (x.2.2.2.2.2.1 + (1 : Int))), ())))
 | false =>
  onSome (idx x.1 x.2.2.2.2.2.1) fun v4 =>
  match (decide (v4.2.1 ≤ x.2.2.2.1)) with
  | true =>
   room (x.2.2.2.2.1.length + [(IntKind.i64.wrap (x.2.2.2.1 + x.2.1))].length) (
    some (.inl (x.1, x.2.1, x.2.2.1, x.2.2.2.1, (x.2.2.2.2.1 ++ [(IntKind.i64.wrap (x.2.2.2.1 + x.2.1))]), (IntKind.i64.wrap (x.2.2.2.2.2.1 + (1 : Int))), ())))
  | false =>
   onSome (idx x.1 x.2.2.2.2.2.1) fun v5 =>
   if x.2.1 = 0 then none else
   room (x.2.2.2.2.1.length + [(IntKind.i64.wrap (x.2.2.2.1 + (IntKind.i64.wrap ((IntKind.i64.wrap ((IntKind.i64.wrap (Int.tdiv (IntKind.i64.wrap ((IntKind.i64.wrap ((IntKind.i64.wrap (v5.2.1 - x.2.2.2.1)) + x.2.1)) - (1 : Int))) x.2.1)) + (1 : Int))) * x.2.1))))].length) (
    some (.inl (x.1, x.2.1, x.2.2.1, x.2.2.2.1, (x.2.2.2.2.1 ++ [(IntKind.i64.wrap (x.2.2.2.1 + (IntKind.i64.wrap ((IntKind.i64.wrap ((IntKind.i64.wrap (Int.tdiv (IntKind.i64.wrap ((IntKind.i64.wrap ((IntKind.i64.wrap (v5.2.1 - x.2.2.2.1)) + x.2.1)) - (1 : Int))) x.2.1)) + (1 : Int))) * x.2.1))))]), (IntKind.i64.wrap (x.2.2.2.2.2.1 + (1 : Int))), ())))
| false =>
 some (.inr (.inl (x.2.2.2.2.1, ())))
noncomputable def s_JoinTimes (x : Ty.T (.pair (.list TStarter) (.pair (.int .i64) .unit))) : Option (Ty.T (.pair (.own 2 (.int .i64)) (.pair (.int .i64) .unit))) :=
match s_AreStarters (x.1, ()) with
| none => none
| some v1 =>
match (!v1.1) with
| true =>
 some ([], (1 : Int), ())
| false =>
 match s_l01In (x.2.1, (1 : Int), (100000 : Int), ()) with
 | none => none
 | some v2 =>
 match (!v2.1) with
 | true =>
  some ([], (2 : Int), ())
 | false =>
  match s_l31Leader (x.1, ()) with
  | none => none
  | some v3 =>
  match (decide (v3.1 < (0 : Int))) with
  | true =>
   some ([], (3 : Int), ())
  | false =>
   match loopL b_s_JoinTimes_10 (x.1, x.2.1, v3.1, v3.2.1, [], (0 : Int), ()) with
   | none => none
   | some (.inl v6) =>
    some (v6.1, (0 : Int), ())
   | some (.inr v8) =>
    none
noncomputable def S_s_JoinTimes : Spec := ⟨(.pair (.list TStarter) (.pair (.int .i64) .unit)), (.pair (.own 2 (.int .i64)) (.pair (.int .i64) .unit)), .unit, rfl, s_JoinTimes⟩
noncomputable def σ_s_JoinTimes : FuncId → Option Spec := sig [(45, S_s_AreStarters), (76, S_s_l31Leader), (86, S_s_l01In)]
theorem σok_s_JoinTimes : ∀ f s, σ_s_JoinTimes f = some s → FnOK Try.prog f s := sig_ok (l := [(45, S_s_AreStarters), (76, S_s_l31Leader), (86, S_s_l01In)]) ⟨ok_s_AreStarters, ok_s_l31Leader, ok_s_l01In, trivial⟩
noncomputable def Λ_s_JoinTimes : Nat → Option LSpec := lkp (loopList (bodyOf Try.f49)) [⟨[0, 1, 6, 7, 9, 10], (.pair (.list TStarter) (.pair (.int .i64) (.pair (.int .i64) (.pair (.int .i64) (.pair (.own 2 (.int .i64)) (.pair (.int .i64) .unit)))))), 0, [9], (.pair (.own 2 (.int .i64)) .unit), [], .unit, loopL b_s_JoinTimes_10⟩]
theorem lok_s_JoinTimes_10 (x) : codeK Γ0 E0 σ_s_JoinTimes Λ_s_JoinTimes Try.f49.ntmps (nthLoop Try.f49 0) (mkF Try.f49.ntmps [0, 1, 6, 7, 9, 10] (.pair (.list TStarter) (.pair (.int .i64) (.pair (.int .i64) (.pair (.int .i64) (.pair (.own 2 (.int .i64)) (.pair (.int .i64) .unit)))))) x) (readK σ_s_JoinTimes Try.f49.ntmps [0, 1, 6, 7, 9, 10] (.pair (.list TStarter) (.pair (.int .i64) (.pair (.int .i64) (.pair (.int .i64) (.pair (.own 2 (.int .i64)) (.pair (.int .i64) .unit)))))) 0 [9] (.pair (.own 2 (.int .i64)) .unit) [] .unit) = b_s_JoinTimes_10 x := by kernel_rfl
theorem ok_s_JoinTimes : FnOK Try.prog 49 S_s_JoinTimes := fn_ok (Λ := Λ_s_JoinTimes) tab0 σok_s_JoinTimes Try.func49 (by kernel_rfl) (show Try.f49.body = some (bodyOf Try.f49) by kernel_rfl) [⟨[0, 1, 6, 7, 9, 10], (.pair (.list TStarter) (.pair (.int .i64) (.pair (.int .i64) (.pair (.int .i64) (.pair (.own 2 (.int .i64)) (.pair (.int .i64) .unit)))))), 0, [9], (.pair (.own 2 (.int .i64)) .unit), [], .unit, loopL b_s_JoinTimes_10⟩] rfl (by kernel_rfl) (by exact ⟨loop_LOK lok_s_JoinTimes_10, trivial⟩) (by kernel_rfl)
  fun x y h => (show execFn Γ0 E0 σ_s_JoinTimes Λ_s_JoinTimes Try.f49 S_s_JoinTimes x = s_JoinTimes x by kernel_rfl).trans h

noncomputable def l_FnExactJoinTimes (x : Ty.T (.pair (.list TStarter) (.pair (.int .i64) .unit))) : Option (Ty.T (.pair .bool .unit)) :=
match l_szStarterS (x.1, (1048576 : Int), ()) with
| none => none
| some v1 =>
match (decide (v1.1 < (0 : Int))) with
| true =>
 some (true, ())
| false =>
 match l_toStarterS (x.1, ()) with
 | none => none
 | some v2 =>
 match s_JoinTimes (v2.1, x.2.1, ()) with
 | none => none
 | some v3 =>
 match l_toStarterS (x.1, ()) with
 | none => none
 | some v4 =>
 match i_JoinTimes (v4.1, x.2.1, ()) with
 | none => none
 | some v5 =>
 match l_eqInt64S (v5.1, v3.1, ()) with
 | none => none
 | some v6 =>
 match (!v6.1) with
 | true =>
  some (false, ())
 | false =>
  match (v5.2.1 != v3.2.1) with
  | true =>
   some (false, ())
  | false =>
   match l_toStarterS (x.1, ()) with
   | none => none
   | some v7 =>
   match l_eqStarterS (v4.1, v7.1, ()) with
   | none => none
   | some v8 =>
   match (!v8.1) with
   | true =>
    some (false, ())
   | false =>
    match l_markStarterS (v4.1, (1 : Int), ()) with
    | none => none
    | some v9 =>
    match (decide (v9.1 < (0 : Int))) with
    | true =>
     some (false, ())
    | false =>
     match l_eqInt64S (v5.1, v3.1, ()) with
     | none => none
     | some v10 =>
     match (!v10.1) with
     | true =>
      some (false, ())
     | false =>
      match (v5.2.1 != v3.2.1) with
      | true =>
       some (false, ())
      | false =>
       match l_markInt64S (v5.1, (1 : Int), ()) with
       | none => none
       | some v11 =>
       match l_heldInt64S (v11.2.1, (1 : Int), ()) with
       | none => none
       | some v12 =>
       match (decide (v12.1 < (0 : Int))) with
       | true =>
        some (false, ())
       | false =>
        match (v12.1 != v11.1) with
        | true =>
         some (false, ())
        | false =>
         match l_toStarterS (x.1, ()) with
         | none => none
         | some v13 =>
         match i_JoinTimes (v13.1, x.2.1, ()) with
         | none => none
         | some v14 =>
         match l_eqInt64S (v14.1, v3.1, ()) with
         | none => none
         | some v15 =>
         match (!v15.1) with
         | true =>
          some (false, ())
         | false =>
          match (v14.2.1 != v3.2.1) with
          | true =>
           some (false, ())
          | false =>
           match l_heldInt64S (v11.2.1, (1 : Int), ()) with
           | none => none
           | some v16 =>
           match (decide (v16.1 < (0 : Int))) with
           | true =>
            some (false, ())
           | false =>
            match (v16.1 != v11.1) with
            | true =>
             some (false, ())
            | false =>
             some (true, ())
noncomputable def S_l_FnExactJoinTimes : Spec := ⟨(.pair (.list TStarter) (.pair (.int .i64) .unit)), (.pair .bool .unit), .unit, rfl, l_FnExactJoinTimes⟩
noncomputable def σ_l_FnExactJoinTimes : FuncId → Option Spec := sig [(15, S_l_szStarterS), (17, S_l_toStarterS), (19, S_l_eqStarterS), (20, S_l_markStarterS), (24, S_l_eqInt64S), (25, S_l_markInt64S), (26, S_l_heldInt64S), (46, S_i_JoinTimes), (49, S_s_JoinTimes)]
theorem σok_l_FnExactJoinTimes : ∀ f s, σ_l_FnExactJoinTimes f = some s → FnOK Try.prog f s := sig_ok (l := [(15, S_l_szStarterS), (17, S_l_toStarterS), (19, S_l_eqStarterS), (20, S_l_markStarterS), (24, S_l_eqInt64S), (25, S_l_markInt64S), (26, S_l_heldInt64S), (46, S_i_JoinTimes), (49, S_s_JoinTimes)]) ⟨ok_l_szStarterS, ok_l_toStarterS, ok_l_eqStarterS, ok_l_markStarterS, ok_l_eqInt64S, ok_l_markInt64S, ok_l_heldInt64S, ok_i_JoinTimes, ok_s_JoinTimes, trivial⟩
noncomputable def Λ_l_FnExactJoinTimes : Nat → Option LSpec := lkp (loopList (bodyOf Try.f10)) []
theorem ok_l_FnExactJoinTimes : FnOK Try.prog 10 S_l_FnExactJoinTimes := fn_ok (Λ := Λ_l_FnExactJoinTimes) tab0 σok_l_FnExactJoinTimes Try.func10 (by kernel_rfl) (show Try.f10.body = some (bodyOf Try.f10) by kernel_rfl) [] rfl (by kernel_rfl) (by exact trivial) (by kernel_rfl)
  fun x y h => (show execFn Γ0 E0 σ_l_FnExactJoinTimes Λ_l_FnExactJoinTimes Try.f10 S_l_FnExactJoinTimes x = l_FnExactJoinTimes x by kernel_rfl).trans h

noncomputable def l_szInt64S (x : Ty.T (.pair (.list (.int .i64)) (.pair (.int .i64) .unit))) : Option (Ty.T (.pair (.int .i64) .unit)) :=
match (decide ((IntKind.i64.wrap (x.2.1 - (x.1.length : Int))) < (0 : Int))) with
| true =>
 some ((-1 : Int), ())
| false =>
 some ((IntKind.i64.wrap (x.2.1 - (x.1.length : Int))), ())
noncomputable def S_l_szInt64S : Spec := ⟨(.pair (.list (.int .i64)) (.pair (.int .i64) .unit)), (.pair (.int .i64) .unit), .unit, rfl, l_szInt64S⟩
noncomputable def σ_l_szInt64S : FuncId → Option Spec := sig []
theorem σok_l_szInt64S : ∀ f s, σ_l_szInt64S f = some s → FnOK Try.prog f s := sig_ok (l := []) trivial
noncomputable def Λ_l_szInt64S : Nat → Option LSpec := lkp (loopList (bodyOf Try.f135)) []
theorem ok_l_szInt64S : FnOK Try.prog 135 S_l_szInt64S := fn_ok (Λ := Λ_l_szInt64S) tab0 σok_l_szInt64S Try.func135 (by kernel_rfl) (show Try.f135.body = some (bodyOf Try.f135) by kernel_rfl) [] rfl (by kernel_rfl) (by exact trivial) (by kernel_rfl)
  fun x y h => (show execFn Γ0 E0 σ_l_szInt64S Λ_l_szInt64S Try.f135 S_l_szInt64S x = l_szInt64S x by kernel_rfl).trans h

noncomputable def l_szFrame (x : Ty.T (.pair TFrame (.pair (.int .i64) .unit))) : Option (Ty.T (.pair (.int .i64) .unit)) :=
match l_szInt64S (x.1.2.2.2.1, x.2.1, ()) with
| none => none
| some v1 =>
match (decide (v1.1 < (0 : Int))) with
| true =>
 some ((-1 : Int), ())
| false =>
 some (v1.1, ())
noncomputable def S_l_szFrame : Spec := ⟨(.pair TFrame (.pair (.int .i64) .unit)), (.pair (.int .i64) .unit), .unit, rfl, l_szFrame⟩
noncomputable def σ_l_szFrame : FuncId → Option Spec := sig [(135, S_l_szInt64S)]
theorem σok_l_szFrame : ∀ f s, σ_l_szFrame f = some s → FnOK Try.prog f s := sig_ok (l := [(135, S_l_szInt64S)]) ⟨ok_l_szInt64S, trivial⟩
noncomputable def Λ_l_szFrame : Nat → Option LSpec := lkp (loopList (bodyOf Try.f109)) []
theorem ok_l_szFrame : FnOK Try.prog 109 S_l_szFrame := fn_ok (Λ := Λ_l_szFrame) tab0 σok_l_szFrame Try.func109 (by kernel_rfl) (show Try.f109.body = some (bodyOf Try.f109) by kernel_rfl) [] rfl (by kernel_rfl) (by exact trivial) (by kernel_rfl)
  fun x y h => (show execFn Γ0 E0 σ_l_szFrame Λ_l_szFrame Try.f109 S_l_szFrame x = l_szFrame x by kernel_rfl).trans h

noncomputable def l_szVerdict (x : Ty.T (.pair TVerdict (.pair (.int .i64) .unit))) : Option (Ty.T (.pair (.int .i64) .unit)) :=
match l_szFrame ((x.1.2.1.1, x.1.2.1.2.1, (x.1.2.1.2.2.1.1, x.1.2.1.2.2.1.2.1, x.1.2.1.2.2.1.2.2.1, x.1.2.1.2.2.1.2.2.2.1, x.1.2.1.2.2.1.2.2.2.2.1, ()), x.1.2.1.2.2.2.1, ()), x.2.1, ()) with
| none => none
| some v1 =>
match (decide (v1.1 < (0 : Int))) with
| true =>
 some ((-1 : Int), ())
| false =>
 some (v1.1, ())
noncomputable def S_l_szVerdict : Spec := ⟨(.pair TVerdict (.pair (.int .i64) .unit)), (.pair (.int .i64) .unit), .unit, rfl, l_szVerdict⟩
noncomputable def σ_l_szVerdict : FuncId → Option Spec := sig [(109, S_l_szFrame)]
theorem σok_l_szVerdict : ∀ f s, σ_l_szVerdict f = some s → FnOK Try.prog f s := sig_ok (l := [(109, S_l_szFrame)]) ⟨ok_l_szFrame, trivial⟩
noncomputable def Λ_l_szVerdict : Nat → Option LSpec := lkp (loopList (bodyOf Try.f62)) []
theorem ok_l_szVerdict : FnOK Try.prog 62 S_l_szVerdict := fn_ok (Λ := Λ_l_szVerdict) tab0 σok_l_szVerdict Try.func62 (by kernel_rfl) (show Try.f62.body = some (bodyOf Try.f62) by kernel_rfl) [] rfl (by kernel_rfl) (by exact trivial) (by kernel_rfl)
  fun x y h => (show execFn Γ0 E0 σ_l_szVerdict Λ_l_szVerdict Try.f62 S_l_szVerdict x = l_szVerdict x by kernel_rfl).trans h

noncomputable def b_l_szVerdictS_5 (x : (Ty.T (.pair (.list TVerdict) (.pair (.int .i64) (.pair (.int .i64) .unit))))) : Option ((Ty.T (.pair (.list TVerdict) (.pair (.int .i64) (.pair (.int .i64) .unit)))) ⊕ ((Ty.T (.pair (.int .i64) .unit)) ⊕ (Ty.T (.pair (.int .i64) .unit)))) :=
match (decide (x.2.2.1 < (x.1.length : Int))) with
| true =>
 onSome (idx x.1 x.2.2.1) fun v1 =>
 match l_szVerdict (v1, x.2.1, ()) with
 | none => none
 | some v2 =>
 match (decide (v2.1 < (0 : Int))) with
 | true =>
  some (.inr (.inr ((-1 : Int), ())))
 | false =>
  some (.inl (x.1, v2.1, (IntKind.i64.wrap (x.2.2.1 + (1 : Int))), ()))
| false =>
 some (.inr (.inl (x.2.1, ())))
noncomputable def l_szVerdictS (x : Ty.T (.pair (.list TVerdict) (.pair (.int .i64) .unit))) : Option (Ty.T (.pair (.int .i64) .unit)) :=
match (decide ((IntKind.i64.wrap (x.2.1 - (x.1.length : Int))) < (0 : Int))) with
| true =>
 some ((-1 : Int), ())
| false =>
 match loopL b_l_szVerdictS_5 (x.1, (IntKind.i64.wrap (x.2.1 - (x.1.length : Int))), (0 : Int), ()) with
 | none => none
 | some (.inl v3) =>
  some (v3.1, ())
 | some (.inr v4) =>
  some (v4.1, ())
noncomputable def S_l_szVerdictS : Spec := ⟨(.pair (.list TVerdict) (.pair (.int .i64) .unit)), (.pair (.int .i64) .unit), .unit, rfl, l_szVerdictS⟩
noncomputable def σ_l_szVerdictS : FuncId → Option Spec := sig [(62, S_l_szVerdict)]
theorem σok_l_szVerdictS : ∀ f s, σ_l_szVerdictS f = some s → FnOK Try.prog f s := sig_ok (l := [(62, S_l_szVerdict)]) ⟨ok_l_szVerdict, trivial⟩
noncomputable def Λ_l_szVerdictS : Nat → Option LSpec := lkp (loopList (bodyOf Try.f50)) [⟨[0, 1, 5], (.pair (.list TVerdict) (.pair (.int .i64) (.pair (.int .i64) .unit))), 0, [1], (.pair (.int .i64) .unit), [4], (.pair (.int .i64) .unit), loopL b_l_szVerdictS_5⟩]
theorem lok_l_szVerdictS_5 (x) : codeK Γ0 E0 σ_l_szVerdictS Λ_l_szVerdictS Try.f50.ntmps (nthLoop Try.f50 0) (mkF Try.f50.ntmps [0, 1, 5] (.pair (.list TVerdict) (.pair (.int .i64) (.pair (.int .i64) .unit))) x) (readK σ_l_szVerdictS Try.f50.ntmps [0, 1, 5] (.pair (.list TVerdict) (.pair (.int .i64) (.pair (.int .i64) .unit))) 0 [1] (.pair (.int .i64) .unit) [4] (.pair (.int .i64) .unit)) = b_l_szVerdictS_5 x := by kernel_rfl
theorem ok_l_szVerdictS : FnOK Try.prog 50 S_l_szVerdictS := fn_ok (Λ := Λ_l_szVerdictS) tab0 σok_l_szVerdictS Try.func50 (by kernel_rfl) (show Try.f50.body = some (bodyOf Try.f50) by kernel_rfl) [⟨[0, 1, 5], (.pair (.list TVerdict) (.pair (.int .i64) (.pair (.int .i64) .unit))), 0, [1], (.pair (.int .i64) .unit), [4], (.pair (.int .i64) .unit), loopL b_l_szVerdictS_5⟩] rfl (by kernel_rfl) (by exact ⟨loop_LOK lok_l_szVerdictS_5, trivial⟩) (by kernel_rfl)
  fun x y h => (show execFn Γ0 E0 σ_l_szVerdictS Λ_l_szVerdictS Try.f50 S_l_szVerdictS x = l_szVerdictS x by kernel_rfl).trans h

noncomputable def s_l06Kind (x : Ty.T (.pair (.int .i64) .unit)) : Option (Ty.T (.pair .bool .unit)) :=
match s_l01In (x.1, (0 : Int), (3 : Int), ()) with
| none => none
| some v1 =>
some (v1.1, ())
noncomputable def S_s_l06Kind : Spec := ⟨(.pair (.int .i64) .unit), (.pair .bool .unit), .unit, rfl, s_l06Kind⟩
noncomputable def σ_s_l06Kind : FuncId → Option Spec := sig [(86, S_s_l01In)]
theorem σok_s_l06Kind : ∀ f s, σ_s_l06Kind f = some s → FnOK Try.prog f s := sig_ok (l := [(86, S_s_l01In)]) ⟨ok_s_l01In, trivial⟩
noncomputable def Λ_s_l06Kind : Nat → Option LSpec := lkp (loopList (bodyOf Try.f142)) []
theorem ok_s_l06Kind : FnOK Try.prog 142 S_s_l06Kind := fn_ok (Λ := Λ_s_l06Kind) tab0 σok_s_l06Kind Try.func142 (by kernel_rfl) (show Try.f142.body = some (bodyOf Try.f142) by kernel_rfl) [] rfl (by kernel_rfl) (by exact trivial) (by kernel_rfl)
  fun x y h => (show execFn Γ0 E0 σ_s_l06Kind Λ_s_l06Kind Try.f142 S_s_l06Kind x = s_l06Kind x by kernel_rfl).trans h

noncomputable def s_l06Size (x : Ty.T (.pair (.int .i64) (.pair (.int .i64) .unit))) : Option (Ty.T (.pair .bool .unit)) :=
match (x.1 == (0 : Int)) with
| true =>
 match s_l01In (x.2.1, (0 : Int), (32 : Int), ()) with
 | none => none
 | some v1 =>
 some (v1.1, ())
| false =>
 match (x.1 == (2 : Int)) with
 | true =>
  match s_l01In (x.2.1, (1 : Int), (32 : Int), ()) with
  | none => none
  | some v2 =>
  some (v2.1, ())
 | false =>
  some ((x.2.1 == (0 : Int)), ())
noncomputable def S_s_l06Size : Spec := ⟨(.pair (.int .i64) (.pair (.int .i64) .unit)), (.pair .bool .unit), .unit, rfl, s_l06Size⟩
noncomputable def σ_s_l06Size : FuncId → Option Spec := sig [(86, S_s_l01In)]
theorem σok_s_l06Size : ∀ f s, σ_s_l06Size f = some s → FnOK Try.prog f s := sig_ok (l := [(86, S_s_l01In)]) ⟨ok_s_l01In, trivial⟩
noncomputable def Λ_s_l06Size : Nat → Option LSpec := lkp (loopList (bodyOf Try.f143)) []
theorem ok_s_l06Size : FnOK Try.prog 143 S_s_l06Size := fn_ok (Λ := Λ_s_l06Size) tab0 σok_s_l06Size Try.func143 (by kernel_rfl) (show Try.f143.body = some (bodyOf Try.f143) by kernel_rfl) [] rfl (by kernel_rfl) (by exact trivial) (by kernel_rfl)
  fun x y h => (show execFn Γ0 E0 σ_s_l06Size Λ_s_l06Size Try.f143 S_s_l06Size x = s_l06Size x by kernel_rfl).trans h

noncomputable def b_s_l01All_4 (x : (Ty.T (.pair (.list (.int .i64)) (.pair (.int .i64) (.pair (.int .i64) .unit))))) : Option ((Ty.T (.pair (.list (.int .i64)) (.pair (.int .i64) (.pair (.int .i64) .unit)))) ⊕ ((Ty.T .unit) ⊕ (Ty.T (.pair .bool .unit)))) :=
match (decide (x.2.2.1 < (x.1.length : Int))) with
| true =>
 onSome (idx x.1 x.2.2.1) fun v1 =>
 match s_l01In (v1, (0 : Int), x.2.1, ()) with
 | none => none
 | some v2 =>
 match (!v2.1) with
 | true =>
  some (.inr (.inr (false, ())))
 | false =>
  some (.inl (x.1, x.2.1, (IntKind.i64.wrap (x.2.2.1 + (1 : Int))), ()))
| false =>
 some (.inr (.inl (())))
noncomputable def s_l01All (x : Ty.T (.pair (.list (.int .i64)) (.pair (.int .i64) (.pair (.int .i64) .unit)))) : Option (Ty.T (.pair .bool .unit)) :=
match (decide ((x.1.length : Int) > x.2.1)) with
| true =>
 some (false, ())
| false =>
 match loopL b_s_l01All_4 (x.1, x.2.2.1, (0 : Int), ()) with
 | none => none
 | some (.inl v3) =>
  some (true, ())
 | some (.inr v4) =>
  some (v4.1, ())
noncomputable def S_s_l01All : Spec := ⟨(.pair (.list (.int .i64)) (.pair (.int .i64) (.pair (.int .i64) .unit))), (.pair .bool .unit), .unit, rfl, s_l01All⟩
noncomputable def σ_s_l01All : FuncId → Option Spec := sig [(86, S_s_l01In)]
theorem σok_s_l01All : ∀ f s, σ_s_l01All f = some s → FnOK Try.prog f s := sig_ok (l := [(86, S_s_l01In)]) ⟨ok_s_l01In, trivial⟩
noncomputable def Λ_s_l01All : Nat → Option LSpec := lkp (loopList (bodyOf Try.f151)) [⟨[0, 2, 7], (.pair (.list (.int .i64)) (.pair (.int .i64) (.pair (.int .i64) .unit))), 0, [], .unit, [6], (.pair .bool .unit), loopL b_s_l01All_4⟩]
theorem lok_s_l01All_4 (x) : codeK Γ0 E0 σ_s_l01All Λ_s_l01All Try.f151.ntmps (nthLoop Try.f151 0) (mkF Try.f151.ntmps [0, 2, 7] (.pair (.list (.int .i64)) (.pair (.int .i64) (.pair (.int .i64) .unit))) x) (readK σ_s_l01All Try.f151.ntmps [0, 2, 7] (.pair (.list (.int .i64)) (.pair (.int .i64) (.pair (.int .i64) .unit))) 0 [] .unit [6] (.pair .bool .unit)) = b_s_l01All_4 x := by kernel_rfl
theorem ok_s_l01All : FnOK Try.prog 151 S_s_l01All := fn_ok (Λ := Λ_s_l01All) tab0 σok_s_l01All Try.func151 (by kernel_rfl) (show Try.f151.body = some (bodyOf Try.f151) by kernel_rfl) [⟨[0, 2, 7], (.pair (.list (.int .i64)) (.pair (.int .i64) (.pair (.int .i64) .unit))), 0, [], .unit, [6], (.pair .bool .unit), loopL b_s_l01All_4⟩] rfl (by kernel_rfl) (by exact ⟨loop_LOK lok_s_l01All_4, trivial⟩) (by kernel_rfl)
  fun x y h => (show execFn Γ0 E0 σ_s_l01All Λ_s_l01All Try.f151 S_s_l01All x = s_l01All x by kernel_rfl).trans h

noncomputable def s_IsBytes (x : Ty.T (.pair (.list (.int .i64)) .unit)) : Option (Ty.T (.pair .bool .unit)) :=
match s_l01All (x.1, (1024 : Int), (255 : Int), ()) with
| none => none
| some v1 =>
some (v1.1, ())
noncomputable def S_s_IsBytes : Spec := ⟨(.pair (.list (.int .i64)) .unit), (.pair .bool .unit), .unit, rfl, s_IsBytes⟩
noncomputable def σ_s_IsBytes : FuncId → Option Spec := sig [(151, S_s_l01All)]
theorem σok_s_IsBytes : ∀ f s, σ_s_IsBytes f = some s → FnOK Try.prog f s := sig_ok (l := [(151, S_s_l01All)]) ⟨ok_s_l01All, trivial⟩
noncomputable def Λ_s_IsBytes : Nat → Option LSpec := lkp (loopList (bodyOf Try.f144)) []
theorem ok_s_IsBytes : FnOK Try.prog 144 S_s_IsBytes := fn_ok (Λ := Λ_s_IsBytes) tab0 σok_s_IsBytes Try.func144 (by kernel_rfl) (show Try.f144.body = some (bodyOf Try.f144) by kernel_rfl) [] rfl (by kernel_rfl) (by exact trivial) (by kernel_rfl)
  fun x y h => (show execFn Γ0 E0 σ_s_IsBytes Λ_s_IsBytes Try.f144 S_s_IsBytes x = s_IsBytes x by kernel_rfl).trans h

noncomputable def b_s_l05Vector_2 (x : (Ty.T (.pair (.list (.int .i64)) (.pair (.int .i64) .unit)))) : Option ((Ty.T (.pair (.list (.int .i64)) (.pair (.int .i64) .unit))) ⊕ ((Ty.T .unit) ⊕ (Ty.T (.pair .bool .unit)))) :=
match (decide (x.2.1 < (x.1.length : Int))) with
| true =>
 onSome (idx x.1 x.2.1) fun v1 =>
 match s_l01In (v1, (0 : Int), (4294967295 : Int), ()) with
 | none => none
 | some v2 =>
 match (!v2.1) with
 | true =>
  some (.inr (.inr (false, ())))
 | false =>
  some (.inl (x.1, (IntKind.i64.wrap (x.2.1 + (1 : Int))), ()))
| false =>
 some (.inr (.inl (())))
noncomputable def s_l05Vector (x : Ty.T (.pair (.list (.int .i64)) .unit)) : Option (Ty.T (.pair .bool .unit)) :=
match loopL b_s_l05Vector_2 (x.1, (0 : Int), ()) with
| none => none
| some (.inl v3) =>
 some (true, ())
| some (.inr v4) =>
 some (v4.1, ())
noncomputable def S_s_l05Vector : Spec := ⟨(.pair (.list (.int .i64)) .unit), (.pair .bool .unit), .unit, rfl, s_l05Vector⟩
noncomputable def σ_s_l05Vector : FuncId → Option Spec := sig [(86, S_s_l01In)]
theorem σok_s_l05Vector : ∀ f s, σ_s_l05Vector f = some s → FnOK Try.prog f s := sig_ok (l := [(86, S_s_l01In)]) ⟨ok_s_l01In, trivial⟩
noncomputable def Λ_s_l05Vector : Nat → Option LSpec := lkp (loopList (bodyOf Try.f152)) [⟨[0, 3], (.pair (.list (.int .i64)) (.pair (.int .i64) .unit)), 0, [], .unit, [2], (.pair .bool .unit), loopL b_s_l05Vector_2⟩]
theorem lok_s_l05Vector_2 (x) : codeK Γ0 E0 σ_s_l05Vector Λ_s_l05Vector Try.f152.ntmps (nthLoop Try.f152 0) (mkF Try.f152.ntmps [0, 3] (.pair (.list (.int .i64)) (.pair (.int .i64) .unit)) x) (readK σ_s_l05Vector Try.f152.ntmps [0, 3] (.pair (.list (.int .i64)) (.pair (.int .i64) .unit)) 0 [] .unit [2] (.pair .bool .unit)) = b_s_l05Vector_2 x := by kernel_rfl
theorem ok_s_l05Vector : FnOK Try.prog 152 S_s_l05Vector := fn_ok (Λ := Λ_s_l05Vector) tab0 σok_s_l05Vector Try.func152 (by kernel_rfl) (show Try.f152.body = some (bodyOf Try.f152) by kernel_rfl) [⟨[0, 3], (.pair (.list (.int .i64)) (.pair (.int .i64) .unit)), 0, [], .unit, [2], (.pair .bool .unit), loopL b_s_l05Vector_2⟩] rfl (by kernel_rfl) (by exact ⟨loop_LOK lok_s_l05Vector_2, trivial⟩) (by kernel_rfl)
  fun x y h => (show execFn Γ0 E0 σ_s_l05Vector Λ_s_l05Vector Try.f152 S_s_l05Vector x = s_l05Vector x by kernel_rfl).trans h

noncomputable def s_l05Has (x : Ty.T (.pair (.int .i64) (.pair (.int .i64) .unit))) : Option (Ty.T (.pair .bool .unit)) :=
if (IntKind.u64.wrap x.2.1) < 0 then none else
some (((bits BinOp.and .i64 (Int.fdiv x.1 (2 ^ min (IntKind.u64.wrap x.2.1).toNat IntKind.i64.bits)) (1 : Int)) == (1 : Int)), ())
noncomputable def S_s_l05Has : Spec := ⟨(.pair (.int .i64) (.pair (.int .i64) .unit)), (.pair .bool .unit), .unit, rfl, s_l05Has⟩
noncomputable def σ_s_l05Has : FuncId → Option Spec := sig []
theorem σok_s_l05Has : ∀ f s, σ_s_l05Has f = some s → FnOK Try.prog f s := sig_ok (l := []) trivial
noncomputable def Λ_s_l05Has : Nat → Option LSpec := lkp (loopList (bodyOf Try.f153)) []
theorem ok_s_l05Has : FnOK Try.prog 153 S_s_l05Has := fn_ok (Λ := Λ_s_l05Has) tab0 σok_s_l05Has Try.func153 (by kernel_rfl) (show Try.f153.body = some (bodyOf Try.f153) by kernel_rfl) [] rfl (by kernel_rfl) (by exact trivial) (by kernel_rfl)
  fun x y h => (show execFn Γ0 E0 σ_s_l05Has Λ_s_l05Has Try.f153 S_s_l05Has x = s_l05Has x by kernel_rfl).trans h

noncomputable def b_s_MembersOf_5 (x : (Ty.T (.pair (.int .i64) (.pair (.own 2 (.int .i64)) (.pair (.int .i64) .unit))))) : Option ((Ty.T (.pair (.int .i64) (.pair (.own 2 (.int .i64)) (.pair (.int .i64) .unit)))) ⊕ ((Ty.T (.pair (.own 2 (.int .i64)) .unit)) ⊕ (Ty.T .unit))) :=
match (decide (x.2.2.1 < (32 : Int))) with
| true =>
 match s_l05Has (x.1, x.2.2.1, ()) with
 | none => none
 | some v2 =>
 match v2.1 with
 | true =>
  room (x.2.1.length + [x.2.2.1].length) (
   some (.inl (x.1, (x.2.1 ++ [x.2.2.1]), (IntKind.i64.wrap (x.2.2.1 + (1 : Int))), ())))
 | false =>
  some (.inl (x.1, x.2.1, (IntKind.i64.wrap (x.2.2.1 + (1 : Int))), ()))
| false =>
 some (.inr (.inl (x.2.1, ())))
noncomputable def s_MembersOf (x : Ty.T (.pair (.int .i64) .unit)) : Option (Ty.T (.pair (.own 2 (.int .i64)) (.pair (.int .i64) .unit))) :=
match s_l05Vector ([x.1], ()) with
| none => none
| some v1 =>
match (!v1.1) with
| true =>
 some ([], (2 : Int), ())
| false =>
 match loopL b_s_MembersOf_5 (x.1, [], (0 : Int), ()) with
 | none => none
 | some (.inl v3) =>
  some (v3.1, (0 : Int), ())
 | some (.inr v5) =>
  none
noncomputable def S_s_MembersOf : Spec := ⟨(.pair (.int .i64) .unit), (.pair (.own 2 (.int .i64)) (.pair (.int .i64) .unit)), .unit, rfl, s_MembersOf⟩
noncomputable def σ_s_MembersOf : FuncId → Option Spec := sig [(152, S_s_l05Vector), (153, S_s_l05Has)]
theorem σok_s_MembersOf : ∀ f s, σ_s_MembersOf f = some s → FnOK Try.prog f s := sig_ok (l := [(152, S_s_l05Vector), (153, S_s_l05Has)]) ⟨ok_s_l05Vector, ok_s_l05Has, trivial⟩
noncomputable def Λ_s_MembersOf : Nat → Option LSpec := lkp (loopList (bodyOf Try.f145)) [⟨[0, 4, 5], (.pair (.int .i64) (.pair (.own 2 (.int .i64)) (.pair (.int .i64) .unit))), 0, [4], (.pair (.own 2 (.int .i64)) .unit), [], .unit, loopL b_s_MembersOf_5⟩]
theorem lok_s_MembersOf_5 (x) : codeK Γ0 E0 σ_s_MembersOf Λ_s_MembersOf Try.f145.ntmps (nthLoop Try.f145 0) (mkF Try.f145.ntmps [0, 4, 5] (.pair (.int .i64) (.pair (.own 2 (.int .i64)) (.pair (.int .i64) .unit))) x) (readK σ_s_MembersOf Try.f145.ntmps [0, 4, 5] (.pair (.int .i64) (.pair (.own 2 (.int .i64)) (.pair (.int .i64) .unit))) 0 [4] (.pair (.own 2 (.int .i64)) .unit) [] .unit) = b_s_MembersOf_5 x := by kernel_rfl
theorem ok_s_MembersOf : FnOK Try.prog 145 S_s_MembersOf := fn_ok (Λ := Λ_s_MembersOf) tab0 σok_s_MembersOf Try.func145 (by kernel_rfl) (show Try.f145.body = some (bodyOf Try.f145) by kernel_rfl) [⟨[0, 4, 5], (.pair (.int .i64) (.pair (.own 2 (.int .i64)) (.pair (.int .i64) .unit))), 0, [4], (.pair (.own 2 (.int .i64)) .unit), [], .unit, loopL b_s_MembersOf_5⟩] rfl (by kernel_rfl) (by exact ⟨loop_LOK lok_s_MembersOf_5, trivial⟩) (by kernel_rfl)
  fun x y h => (show execFn Γ0 E0 σ_s_MembersOf Λ_s_MembersOf Try.f145 S_s_MembersOf x = s_MembersOf x by kernel_rfl).trans h

end Go.Proofs.Ytgjbodfkjfieaaa
