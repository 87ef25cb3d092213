/- What the functions of the claim do, on data; written by the program gen.py. -/
import Derived.Test.YtoppfeehgkpjkaaGA
namespace Go.Proofs.Ytoppfeehgkpjkaa
open Go.RowKit
set_option linter.unusedVariables false

noncomputable def b_s_l30All_2 (x : (Ty.T (.pair (.list (.int .i64)) (.pair (.int .i64) .unit)))) : Option ((Ty.T (.pair (.list (.int .i64)) (.pair (.int .i64) .unit))) ⊕ ((Ty.T .unit) ⊕ (Ty.T (.pair .bool .unit)))) :=
match (decide (x.2.1 < (x.1.length : Int))) with
| true =>
 onSome (idx x.1 x.2.1) fun v1 =>
 match s_l01In (v1, (0 : Int), (1000000000 : Int), ()) with
 | none => none
 | some v2 =>
 match (!v2.1) with
 | true =>
  some (.inr (.inr (false, ())))
 | false =>
  some (.inl (x.1, (IntKind.i64.wrap (x.2.1 + (1 : Int))), ()))
| false =>
 some (.inr (.inl (())))
noncomputable def s_l30All (x : Ty.T (.pair (.list (.int .i64)) .unit)) : Option (Ty.T (.pair .bool .unit)) :=
match loopL b_s_l30All_2 (x.1, (0 : Int), ()) with
| none => none
| some (.inl v3) =>
 some (true, ())
| some (.inr v4) =>
 some (v4.1, ())
noncomputable def S_s_l30All : Spec := ⟨(.pair (.list (.int .i64)) .unit), (.pair .bool .unit), .unit, rfl, s_l30All⟩
noncomputable def σ_s_l30All : FuncId → Option Spec := sig [(40, S_s_l01In)]
theorem σok_s_l30All : ∀ f s, σ_s_l30All f = some s → FnOK Try.prog f s := sig_ok (l := [(40, S_s_l01In)]) ⟨ok_s_l01In, trivial⟩
noncomputable def Λ_s_l30All : Nat → Option LSpec := lkp (loopList (bodyOf Try.f49)) [⟨[0, 3], (.pair (.list (.int .i64)) (.pair (.int .i64) .unit)), 0, [], .unit, [2], (.pair .bool .unit), loopL b_s_l30All_2⟩]
theorem lok_s_l30All_2 (x) : codeK Γ0 E0 σ_s_l30All Λ_s_l30All Try.f49.ntmps (nthLoop Try.f49 0) (mkF Try.f49.ntmps [0, 3] (.pair (.list (.int .i64)) (.pair (.int .i64) .unit)) x) (readK σ_s_l30All Try.f49.ntmps [0, 3] (.pair (.list (.int .i64)) (.pair (.int .i64) .unit)) 0 [] .unit [2] (.pair .bool .unit)) = b_s_l30All_2 x := by kernel_rfl
theorem ok_s_l30All : FnOK Try.prog 49 S_s_l30All := fn_ok (Λ := Λ_s_l30All) tab0 σok_s_l30All Try.func49 (by kernel_rfl) (show Try.f49.body = some (bodyOf Try.f49) by kernel_rfl) [⟨[0, 3], (.pair (.list (.int .i64)) (.pair (.int .i64) .unit)), 0, [], .unit, [2], (.pair .bool .unit), loopL b_s_l30All_2⟩] rfl (by kernel_rfl) (by exact ⟨loop_LOK (lok_s_l30All_2), trivial⟩) (by kernel_rfl)
  fun x y h => (show execFn Γ0 E0 σ_s_l30All Λ_s_l30All Try.f49 S_s_l30All x = s_l30All x by kernel_rfl).trans h

noncomputable def s_l30Clocks (x : Ty.T (.pair (.list (.int .i64)) .unit)) : Option (Ty.T (.pair .bool .unit)) :=
match s_l01In ((x.1.length : Int), (1 : Int), (32 : Int), ()) with
| none => none
| some v1 =>
match v1.1 with
| true =>
 match s_l30All (x.1, ()) with
 | none => none
 | some v2 =>
 some (v2.1, ())
| false =>
 some (false, ())
noncomputable def S_s_l30Clocks : Spec := ⟨(.pair (.list (.int .i64)) .unit), (.pair .bool .unit), .unit, rfl, s_l30Clocks⟩
noncomputable def σ_s_l30Clocks : FuncId → Option Spec := sig [(40, S_s_l01In), (49, S_s_l30All)]
theorem σok_s_l30Clocks : ∀ f s, σ_s_l30Clocks f = some s → FnOK Try.prog f s := sig_ok (l := [(40, S_s_l01In), (49, S_s_l30All)]) ⟨ok_s_l01In, ok_s_l30All, trivial⟩
noncomputable def Λ_s_l30Clocks : Nat → Option LSpec := lkp (loopList (bodyOf Try.f45)) []
theorem ok_s_l30Clocks : FnOK Try.prog 45 S_s_l30Clocks := fn_ok (Λ := Λ_s_l30Clocks) tab0 σok_s_l30Clocks Try.func45 (by kernel_rfl) (show Try.f45.body = some (bodyOf Try.f45) by kernel_rfl) [] rfl (by kernel_rfl) (by exact trivial) (by kernel_rfl)
  fun x y h => (show execFn Γ0 E0 σ_s_l30Clocks Λ_s_l30Clocks Try.f45 S_s_l30Clocks x = s_l30Clocks x by kernel_rfl).trans h

noncomputable def b_s_l30Correct_7 (x : (Ty.T (.pair (.list (.int .i64)) (.pair (.int .i64) (.pair (.list (.int .i64)) (.pair (.own 2 (.int .i64)) (.pair (.int .i64) (.pair (.own 2 (.int .i64)) (.pair (.int .i64) .unit))))))))) : Option ((Ty.T (.pair (.list (.int .i64)) (.pair (.int .i64) (.pair (.list (.int .i64)) (.pair (.own 2 (.int .i64)) (.pair (.int .i64) (.pair (.own 2 (.int .i64)) (.pair (.int .i64) .unit)))))))) ⊕ ((Ty.T (.pair (.list (.int .i64)) (.pair (.int .i64) (.pair (.list (.int .i64)) (.pair (.own 2 (.int .i64)) (.pair (.int .i64) (.pair (.own 2 (.int .i64)) .unit))))))) ⊕ (Ty.T .unit))) :=
match (decide (x.2.2.2.2.2.2.1 < (x.1.length : Int))) with
| true =>
 onSome (idx x.1 x.2.2.2.2.2.2.1) fun v1 =>
 match (x.2.2.2.2.2.2.1 == x.2.1) with
 | true =>
  onSome (idx x.2.2.1 x.2.2.2.2.1) fun v2 =>
  onSome (idx x.1 x.2.2.2.2.1) fun v3 =>
  room (x.2.2.2.2.2.1.length + [(IntKind.i64.wrap (v2 - v3))].length) (
   some (.inl (x.1, x.2.1, x.2.2.1, x.2.2.2.1, x.2.2.2.2.1, (x.2.2.2.2.2.1 ++ [(IntKind.i64.wrap (v2 - v3))]), (IntKind.i64.wrap (x.2.2.2.2.2.2.1 + (1 : Int))), ())))
 | false =>
  onSome (idx x.1 x.2.2.2.2.1) fun v4 =>
  room (x.2.2.2.2.2.1.length + [(IntKind.i64.wrap (v1 - v4))].length) (
   some (.inl (x.1, x.2.1, x.2.2.1, x.2.2.2.1, x.2.2.2.2.1, (x.2.2.2.2.2.1 ++ [(IntKind.i64.wrap (v1 - v4))]), (IntKind.i64.wrap (x.2.2.2.2.2.2.1 + (1 : Int))), ())))
| false =>
 some (.inr (.inl (x.1, x.2.1, x.2.2.1, x.2.2.2.1, x.2.2.2.2.1, x.2.2.2.2.2.1, ())))
noncomputable def b_s_l30Correct_3 (x : (Ty.T (.pair (.list (.int .i64)) (.pair (.int .i64) (.pair (.list (.int .i64)) (.pair (.own 2 (.int .i64)) (.pair (.int .i64) .unit))))))) : Option ((Ty.T (.pair (.list (.int .i64)) (.pair (.int .i64) (.pair (.list (.int .i64)) (.pair (.own 2 (.int .i64)) (.pair (.int .i64) .unit)))))) ⊕ ((Ty.T (.pair (.own 2 (.int .i64)) .unit)) ⊕ (Ty.T .unit))) :=
match (decide (x.2.2.2.2.1 < (x.1.length : Int))) with
| true =>
 match loopL b_s_l30Correct_7 (x.1, x.2.1, x.2.2.1, x.2.2.2.1, x.2.2.2.2.1, [], (0 : Int), ()) with
 | none => none
 | some (.inl v1) =>
  onSome (idx v1.1 v1.2.2.2.2.1) fun v3 =>
  match s_l30Mean (v1.2.2.2.2.2.1, ()) with
  | none => none
  | some v4 =>
  room (v1.2.2.2.1.length + [(IntKind.i64.wrap (v3 + v4.1))].length) (
   some (.inl (v1.1, v1.2.1, v1.2.2.1, (v1.2.2.2.1 ++ [(IntKind.i64.wrap (v3 + v4.1))]), (IntKind.i64.wrap (v1.2.2.2.2.1 + (1 : Int))), ())))
 | some (.inr v5) =>
  some (.inr (.inr (())))
| false =>
 some (.inr (.inl (x.2.2.2.1, ())))
noncomputable def s_l30Correct (x : Ty.T (.pair (.list (.int .i64)) (.pair (.int .i64) (.pair (.list (.int .i64)) .unit)))) : Option (Ty.T (.pair (.own 2 (.int .i64)) .unit)) :=
match loopL b_s_l30Correct_3 (x.1, x.2.1, x.2.2.1, [], (0 : Int), ()) with
| none => none
| some (.inl v6) =>
 some (v6.1, ())
| some (.inr v8) =>
 none
noncomputable def S_s_l30Correct : Spec := ⟨(.pair (.list (.int .i64)) (.pair (.int .i64) (.pair (.list (.int .i64)) .unit))), (.pair (.own 2 (.int .i64)) .unit), .unit, rfl, s_l30Correct⟩
noncomputable def σ_s_l30Correct : FuncId → Option Spec := sig [(41, S_s_l30Mean)]
theorem σok_s_l30Correct : ∀ f s, σ_s_l30Correct f = some s → FnOK Try.prog f s := sig_ok (l := [(41, S_s_l30Mean)]) ⟨ok_s_l30Mean, trivial⟩
noncomputable def Λ_s_l30Correct : Nat → Option LSpec := lkp (loopList (bodyOf Try.f46)) [⟨[0, 1, 2, 7, 8], (.pair (.list (.int .i64)) (.pair (.int .i64) (.pair (.list (.int .i64)) (.pair (.own 2 (.int .i64)) (.pair (.int .i64) .unit))))), 0, [7], (.pair (.own 2 (.int .i64)) .unit), [], .unit, loopL b_s_l30Correct_3⟩, ⟨[0, 1, 2, 7, 8, 9, 10], (.pair (.list (.int .i64)) (.pair (.int .i64) (.pair (.list (.int .i64)) (.pair (.own 2 (.int .i64)) (.pair (.int .i64) (.pair (.own 2 (.int .i64)) (.pair (.int .i64) .unit))))))), 2, [0, 1, 2, 7, 8, 9], (.pair (.list (.int .i64)) (.pair (.int .i64) (.pair (.list (.int .i64)) (.pair (.own 2 (.int .i64)) (.pair (.int .i64) (.pair (.own 2 (.int .i64)) .unit)))))), [], .unit, loopL b_s_l30Correct_7⟩]
theorem lok_s_l30Correct_3 (x) : codeK Γ0 E0 σ_s_l30Correct Λ_s_l30Correct Try.f46.ntmps (nthLoop Try.f46 0) (mkF Try.f46.ntmps [0, 1, 2, 7, 8] (.pair (.list (.int .i64)) (.pair (.int .i64) (.pair (.list (.int .i64)) (.pair (.own 2 (.int .i64)) (.pair (.int .i64) .unit))))) x) (readK σ_s_l30Correct Try.f46.ntmps [0, 1, 2, 7, 8] (.pair (.list (.int .i64)) (.pair (.int .i64) (.pair (.list (.int .i64)) (.pair (.own 2 (.int .i64)) (.pair (.int .i64) .unit))))) 0 [7] (.pair (.own 2 (.int .i64)) .unit) [] .unit) = b_s_l30Correct_3 x := by kernel_rfl
theorem lok_s_l30Correct_7 (x) : codeK Γ0 E0 σ_s_l30Correct Λ_s_l30Correct Try.f46.ntmps (nthLoop Try.f46 1) (mkF Try.f46.ntmps [0, 1, 2, 7, 8, 9, 10] (.pair (.list (.int .i64)) (.pair (.int .i64) (.pair (.list (.int .i64)) (.pair (.own 2 (.int .i64)) (.pair (.int .i64) (.pair (.own 2 (.int .i64)) (.pair (.int .i64) .unit))))))) x) (readK σ_s_l30Correct Try.f46.ntmps [0, 1, 2, 7, 8, 9, 10] (.pair (.list (.int .i64)) (.pair (.int .i64) (.pair (.list (.int .i64)) (.pair (.own 2 (.int .i64)) (.pair (.int .i64) (.pair (.own 2 (.int .i64)) (.pair (.int .i64) .unit))))))) 2 [0, 1, 2, 7, 8, 9] (.pair (.list (.int .i64)) (.pair (.int .i64) (.pair (.list (.int .i64)) (.pair (.own 2 (.int .i64)) (.pair (.int .i64) (.pair (.own 2 (.int .i64)) .unit)))))) [] .unit) = b_s_l30Correct_7 x := by kernel_rfl
theorem ok_s_l30Correct : FnOK Try.prog 46 S_s_l30Correct := fn_ok (Λ := Λ_s_l30Correct) tab0 σok_s_l30Correct Try.func46 (by kernel_rfl) (show Try.f46.body = some (bodyOf Try.f46) by kernel_rfl) [⟨[0, 1, 2, 7, 8], (.pair (.list (.int .i64)) (.pair (.int .i64) (.pair (.list (.int .i64)) (.pair (.own 2 (.int .i64)) (.pair (.int .i64) .unit))))), 0, [7], (.pair (.own 2 (.int .i64)) .unit), [], .unit, loopL b_s_l30Correct_3⟩, ⟨[0, 1, 2, 7, 8, 9, 10], (.pair (.list (.int .i64)) (.pair (.int .i64) (.pair (.list (.int .i64)) (.pair (.own 2 (.int .i64)) (.pair (.int .i64) (.pair (.own 2 (.int .i64)) (.pair (.int .i64) .unit))))))), 2, [0, 1, 2, 7, 8, 9], (.pair (.list (.int .i64)) (.pair (.int .i64) (.pair (.list (.int .i64)) (.pair (.own 2 (.int .i64)) (.pair (.int .i64) (.pair (.own 2 (.int .i64)) .unit)))))), [], .unit, loopL b_s_l30Correct_7⟩] rfl (by kernel_rfl) (by exact ⟨loop_LOK (lok_s_l30Correct_3), loop_LOK (lok_s_l30Correct_7), trivial⟩) (by kernel_rfl)
  fun x y h => (show execFn Γ0 E0 σ_s_l30Correct Λ_s_l30Correct Try.f46 S_s_l30Correct x = s_l30Correct x by kernel_rfl).trans h

noncomputable def s_CorrectClocks (x : Ty.T (.pair (.list (.int .i64)) .unit)) : Option (Ty.T (.pair (.own 2 (.int .i64)) (.pair (.int .i64) .unit))) :=
match s_l30Clocks (x.1, ()) with
| none => none
| some v1 =>
match (!v1.1) with
| true =>
 some ([], (1 : Int), ())
| false =>
 match s_l30Correct (x.1, (-1 : Int), [], ()) with
 | none => none
 | some v2 =>
 some (v2.1, (0 : Int), ())
noncomputable def S_s_CorrectClocks : Spec := ⟨(.pair (.list (.int .i64)) .unit), (.pair (.own 2 (.int .i64)) (.pair (.int .i64) .unit)), .unit, rfl, s_CorrectClocks⟩
noncomputable def σ_s_CorrectClocks : FuncId → Option Spec := sig [(45, S_s_l30Clocks), (46, S_s_l30Correct)]
theorem σok_s_CorrectClocks : ∀ f s, σ_s_CorrectClocks f = some s → FnOK Try.prog f s := sig_ok (l := [(45, S_s_l30Clocks), (46, S_s_l30Correct)]) ⟨ok_s_l30Clocks, ok_s_l30Correct, trivial⟩
noncomputable def Λ_s_CorrectClocks : Nat → Option LSpec := lkp (loopList (bodyOf Try.f17)) []
theorem ok_s_CorrectClocks : FnOK Try.prog 17 S_s_CorrectClocks := fn_ok (Λ := Λ_s_CorrectClocks) tab0 σok_s_CorrectClocks Try.func17 (by kernel_rfl) (show Try.f17.body = some (bodyOf Try.f17) by kernel_rfl) [] rfl (by kernel_rfl) (by exact trivial) (by kernel_rfl)
  fun x y h => (show execFn Γ0 E0 σ_s_CorrectClocks Λ_s_CorrectClocks Try.f17 S_s_CorrectClocks x = s_CorrectClocks x by kernel_rfl).trans h

noncomputable def b_l_toInt64S_3 (x : (Ty.T (.pair (.list (.int .i64)) (.pair (.own 2 (.int .i64)) (.pair (.int .i64) .unit))))) : Option ((Ty.T (.pair (.list (.int .i64)) (.pair (.own 2 (.int .i64)) (.pair (.int .i64) .unit)))) ⊕ ((Ty.T (.pair (.own 2 (.int .i64)) .unit)) ⊕ (Ty.T .unit))) :=
match (decide (x.2.2.1 < (x.1.length : Int))) with
| true =>
 onSome (idx x.1 x.2.2.1) fun v1 =>
 onSome (idx x.2.1 x.2.2.1) fun _ =>
 match x.2.1[x.2.2.1.toNat]? with
 | none => none
 | some v3 =>
 some (.inl (x.1, (x.2.1.set x.2.2.1.toNat v1), (IntKind.i64.wrap (x.2.2.1 + (1 : Int))), ()))
| false =>
 some (.inr (.inl (x.2.1, ())))
noncomputable def l_toInt64S (x : Ty.T (.pair (.list (.int .i64)) .unit)) : Option (Ty.T (.pair (.own 2 (.int .i64)) .unit)) :=
if 0 ≤ (x.1.length : Int) ∧ (x.1.length : Int) ≤ (x.1.length : Int) then
 room ((x.1.length : Int).toNat) (
  match loopL b_l_toInt64S_3 (x.1, (List.replicate (x.1.length : Int).toNat (0 : Int)), (0 : Int), ()) with
  | none => none
  | some (.inl v4) =>
   some (v4.1, ())
  | some (.inr v6) =>
   none)
else none
noncomputable def S_l_toInt64S : Spec := ⟨(.pair (.list (.int .i64)) .unit), (.pair (.own 2 (.int .i64)) .unit), .unit, rfl, l_toInt64S⟩
noncomputable def σ_l_toInt64S : FuncId → Option Spec := sig []
theorem σok_l_toInt64S : ∀ f s, σ_l_toInt64S f = some s → FnOK Try.prog f s := sig_ok (l := []) trivial
noncomputable def Λ_l_toInt64S : Nat → Option LSpec := lkp (loopList (bodyOf Try.f18)) [⟨[0, 3, 4], (.pair (.list (.int .i64)) (.pair (.own 2 (.int .i64)) (.pair (.int .i64) .unit))), 0, [3], (.pair (.own 2 (.int .i64)) .unit), [], .unit, loopL b_l_toInt64S_3⟩]
theorem lok_l_toInt64S_3 (x) : codeK Γ0 E0 σ_l_toInt64S Λ_l_toInt64S Try.f18.ntmps (nthLoop Try.f18 0) (mkF Try.f18.ntmps [0, 3, 4] (.pair (.list (.int .i64)) (.pair (.own 2 (.int .i64)) (.pair (.int .i64) .unit))) x) (readK σ_l_toInt64S Try.f18.ntmps [0, 3, 4] (.pair (.list (.int .i64)) (.pair (.own 2 (.int .i64)) (.pair (.int .i64) .unit))) 0 [3] (.pair (.own 2 (.int .i64)) .unit) [] .unit) = b_l_toInt64S_3 x := by kernel_rfl
theorem ok_l_toInt64S : FnOK Try.prog 18 S_l_toInt64S := fn_ok (Λ := Λ_l_toInt64S) tab0 σok_l_toInt64S Try.func18 (by kernel_rfl) (show Try.f18.body = some (bodyOf Try.f18) by kernel_rfl) [⟨[0, 3, 4], (.pair (.list (.int .i64)) (.pair (.own 2 (.int .i64)) (.pair (.int .i64) .unit))), 0, [3], (.pair (.own 2 (.int .i64)) .unit), [], .unit, loopL b_l_toInt64S_3⟩] rfl (by kernel_rfl) (by exact ⟨loop_LOK (lok_l_toInt64S_3), trivial⟩) (by kernel_rfl)
  fun x y h => (show execFn Γ0 E0 σ_l_toInt64S Λ_l_toInt64S Try.f18 S_l_toInt64S x = l_toInt64S x by kernel_rfl).trans h

noncomputable def i_areClocks (x : Ty.T (.pair (.list (.int .i64)) .unit)) : Option (Ty.T (.pair .bool .unit)) :=
match (decide ((x.1.length : Int) ≥ (1 : Int))) with
| true =>
 match (decide ((x.1.length : Int) ≤ (32 : Int))) with
 | true =>
  match i_allWithin (x.1, (0 : Int), (1000000000 : Int), ()) with
  | none => none
  | some v1 =>
  some (v1.1, ())
 | false =>
  some (false, ())
| false =>
 some (false, ())
noncomputable def S_i_areClocks : Spec := ⟨(.pair (.list (.int .i64)) .unit), (.pair .bool .unit), .unit, rfl, i_areClocks⟩
noncomputable def σ_i_areClocks : FuncId → Option Spec := sig [(38, S_i_allWithin)]
theorem σok_i_areClocks : ∀ f s, σ_i_areClocks f = some s → FnOK Try.prog f s := sig_ok (l := [(38, S_i_allWithin)]) ⟨ok_i_allWithin, trivial⟩
noncomputable def Λ_i_areClocks : Nat → Option LSpec := lkp (loopList (bodyOf Try.f47)) []
theorem ok_i_areClocks : FnOK Try.prog 47 S_i_areClocks := fn_ok (Λ := Λ_i_areClocks) tab0 σok_i_areClocks Try.func47 (by kernel_rfl) (show Try.f47.body = some (bodyOf Try.f47) by kernel_rfl) [] rfl (by kernel_rfl) (by exact trivial) (by kernel_rfl)
  fun x y h => (show execFn Γ0 E0 σ_i_areClocks Λ_i_areClocks Try.f47 S_i_areClocks x = i_areClocks x by kernel_rfl).trans h

noncomputable def b_i_corrected_3 (x : (Ty.T (.pair (.int .i64) (.pair (.own 2 (.int .i64)) (.pair (.list (.int .i64)) (.pair (.int .i64) (.pair (.int .i64) .unit))))))) : Option ((Ty.T (.pair (.int .i64) (.pair (.own 2 (.int .i64)) (.pair (.list (.int .i64)) (.pair (.int .i64) (.pair (.int .i64) .unit)))))) ⊕ ((Ty.T (.pair (.int .i64) (.pair (.own 2 (.int .i64)) .unit))) ⊕ (Ty.T .unit))) :=
match (decide (x.2.2.2.2.1 < x.2.2.2.1)) with
| true =>
 onSome (idx x.2.2.1 x.2.2.2.2.1) fun v1 =>
 room (x.2.1.length + [(IntKind.i64.wrap (v1 - x.1))].length) (
  some (.inl (x.1, (x.2.1 ++ [(IntKind.i64.wrap (v1 - x.1))]), x.2.2.1, x.2.2.2.1, (IntKind.i64.wrap (x.2.2.2.2.1 + (1 : Int))), ())))
| false =>
 some (.inr (.inl (x.1, x.2.1, ())))
noncomputable def i_corrected (x : Ty.T (.pair (.int .i64) (.pair (.list (.int .i64)) .unit))) : Option (Ty.T (.pair (.int .i64) .unit)) :=
match loopL b_i_corrected_3 (x.1, [], x.2.1, (x.2.1.length : Int), (0 : Int), ()) with
| none => none
| some (.inl v2) =>
 match i_toleratedMean (v2.2.1, ()) with
 | none => none
 | some v4 =>
 some ((IntKind.i64.wrap (v2.1 + v4.1)), ())
| some (.inr v5) =>
 none
noncomputable def S_i_corrected : Spec := ⟨(.pair (.int .i64) (.pair (.list (.int .i64)) .unit)), (.pair (.int .i64) .unit), .unit, rfl, i_corrected⟩
noncomputable def σ_i_corrected : FuncId → Option Spec := sig [(39, S_i_toleratedMean)]
theorem σok_i_corrected : ∀ f s, σ_i_corrected f = some s → FnOK Try.prog f s := sig_ok (l := [(39, S_i_toleratedMean)]) ⟨ok_i_toleratedMean, trivial⟩
noncomputable def Λ_i_corrected : Nat → Option LSpec := lkp (loopList (bodyOf Try.f51)) [⟨[0, 5, 9, 10, 11], (.pair (.int .i64) (.pair (.own 2 (.int .i64)) (.pair (.list (.int .i64)) (.pair (.int .i64) (.pair (.int .i64) .unit))))), 0, [0, 5], (.pair (.int .i64) (.pair (.own 2 (.int .i64)) .unit)), [], .unit, loopL b_i_corrected_3⟩]
theorem lok_i_corrected_3 (x) : codeK Γ0 E0 σ_i_corrected Λ_i_corrected Try.f51.ntmps (nthLoop Try.f51 0) (mkF Try.f51.ntmps [0, 5, 9, 10, 11] (.pair (.int .i64) (.pair (.own 2 (.int .i64)) (.pair (.list (.int .i64)) (.pair (.int .i64) (.pair (.int .i64) .unit))))) x) (readK σ_i_corrected Try.f51.ntmps [0, 5, 9, 10, 11] (.pair (.int .i64) (.pair (.own 2 (.int .i64)) (.pair (.list (.int .i64)) (.pair (.int .i64) (.pair (.int .i64) .unit))))) 0 [0, 5] (.pair (.int .i64) (.pair (.own 2 (.int .i64)) .unit)) [] .unit) = b_i_corrected_3 x := by kernel_rfl
theorem ok_i_corrected : FnOK Try.prog 51 S_i_corrected := fn_ok (Λ := Λ_i_corrected) tab0 σok_i_corrected Try.func51 (by kernel_rfl) (show Try.f51.body = some (bodyOf Try.f51) by kernel_rfl) [⟨[0, 5, 9, 10, 11], (.pair (.int .i64) (.pair (.own 2 (.int .i64)) (.pair (.list (.int .i64)) (.pair (.int .i64) (.pair (.int .i64) .unit))))), 0, [0, 5], (.pair (.int .i64) (.pair (.own 2 (.int .i64)) .unit)), [], .unit, loopL b_i_corrected_3⟩] rfl (by kernel_rfl) (by exact ⟨loop_LOK (lok_i_corrected_3), trivial⟩) (by kernel_rfl)
  fun x y h => (show execFn Γ0 E0 σ_i_corrected Λ_i_corrected Try.f51 S_i_corrected x = i_corrected x by kernel_rfl).trans h

noncomputable def b_i_correct_3 (x : (Ty.T (.pair (.list (.int .i64)) (.pair (.own 2 (.int .i64)) (.pair (.list (.int .i64)) (.pair (.int .i64) (.pair (.int .i64) .unit))))))) : Option ((Ty.T (.pair (.list (.int .i64)) (.pair (.own 2 (.int .i64)) (.pair (.list (.int .i64)) (.pair (.int .i64) (.pair (.int .i64) .unit)))))) ⊕ ((Ty.T (.pair (.own 2 (.int .i64)) .unit)) ⊕ (Ty.T .unit))) :=
match (decide (x.2.2.2.2.1 < x.2.2.2.1)) with
| true =>
 onSome (idx x.2.2.1 x.2.2.2.2.1) fun v1 =>
 match i_corrected (v1, x.1, ()) with
 | none => none
 | some v2 =>
 room (x.2.1.length + [v2.1].length) (
  some (.inl (x.1, (x.2.1 ++ [v2.1]), x.2.2.1, x.2.2.2.1, (IntKind.i64.wrap (x.2.2.2.2.1 + (1 : Int))), ())))
| false =>
 some (.inr (.inl (x.2.1, ())))
noncomputable def i_correct (x : Ty.T (.pair (.list (.int .i64)) .unit)) : Option (Ty.T (.pair (.own 2 (.int .i64)) .unit)) :=
match loopL b_i_correct_3 (x.1, [], x.1, (x.1.length : Int), (0 : Int), ()) with
| none => none
| some (.inl v3) =>
 some (v3.1, ())
| some (.inr v5) =>
 none
noncomputable def S_i_correct : Spec := ⟨(.pair (.list (.int .i64)) .unit), (.pair (.own 2 (.int .i64)) .unit), .unit, rfl, i_correct⟩
noncomputable def σ_i_correct : FuncId → Option Spec := sig [(51, S_i_corrected)]
theorem σok_i_correct : ∀ f s, σ_i_correct f = some s → FnOK Try.prog f s := sig_ok (l := [(51, S_i_corrected)]) ⟨ok_i_corrected, trivial⟩
noncomputable def Λ_i_correct : Nat → Option LSpec := lkp (loopList (bodyOf Try.f48)) [⟨[0, 3, 7, 8, 9], (.pair (.list (.int .i64)) (.pair (.own 2 (.int .i64)) (.pair (.list (.int .i64)) (.pair (.int .i64) (.pair (.int .i64) .unit))))), 0, [3], (.pair (.own 2 (.int .i64)) .unit), [], .unit, loopL b_i_correct_3⟩]
theorem lok_i_correct_3 (x) : codeK Γ0 E0 σ_i_correct Λ_i_correct Try.f48.ntmps (nthLoop Try.f48 0) (mkF Try.f48.ntmps [0, 3, 7, 8, 9] (.pair (.list (.int .i64)) (.pair (.own 2 (.int .i64)) (.pair (.list (.int .i64)) (.pair (.int .i64) (.pair (.int .i64) .unit))))) x) (readK σ_i_correct Try.f48.ntmps [0, 3, 7, 8, 9] (.pair (.list (.int .i64)) (.pair (.own 2 (.int .i64)) (.pair (.list (.int .i64)) (.pair (.int .i64) (.pair (.int .i64) .unit))))) 0 [3] (.pair (.own 2 (.int .i64)) .unit) [] .unit) = b_i_correct_3 x := by kernel_rfl
theorem ok_i_correct : FnOK Try.prog 48 S_i_correct := fn_ok (Λ := Λ_i_correct) tab0 σok_i_correct Try.func48 (by kernel_rfl) (show Try.f48.body = some (bodyOf Try.f48) by kernel_rfl) [⟨[0, 3, 7, 8, 9], (.pair (.list (.int .i64)) (.pair (.own 2 (.int .i64)) (.pair (.list (.int .i64)) (.pair (.int .i64) (.pair (.int .i64) .unit))))), 0, [3], (.pair (.own 2 (.int .i64)) .unit), [], .unit, loopL b_i_correct_3⟩] rfl (by kernel_rfl) (by exact ⟨loop_LOK (lok_i_correct_3), trivial⟩) (by kernel_rfl)
  fun x y h => (show execFn Γ0 E0 σ_i_correct Λ_i_correct Try.f48 S_i_correct x = i_correct x by kernel_rfl).trans h

noncomputable def i_CorrectClocks (x : Ty.T (.pair (.list (.int .i64)) .unit)) : Option (Ty.T (.pair (.own 2 (.int .i64)) (.pair (.int .i64) .unit))) :=
match i_areClocks (x.1, ()) with
| none => none
| some v1 =>
match (!v1.1) with
| true =>
 some ([], (1 : Int), ())
| false =>
 match i_correct (x.1, ()) with
 | none => none
 | some v2 =>
 some (v2.1, (0 : Int), ())
noncomputable def S_i_CorrectClocks : Spec := ⟨(.pair (.list (.int .i64)) .unit), (.pair (.own 2 (.int .i64)) (.pair (.int .i64) .unit)), .unit, rfl, i_CorrectClocks⟩
noncomputable def σ_i_CorrectClocks : FuncId → Option Spec := sig [(47, S_i_areClocks), (48, S_i_correct)]
theorem σok_i_CorrectClocks : ∀ f s, σ_i_CorrectClocks f = some s → FnOK Try.prog f s := sig_ok (l := [(47, S_i_areClocks), (48, S_i_correct)]) ⟨ok_i_areClocks, ok_i_correct, trivial⟩
noncomputable def Λ_i_CorrectClocks : Nat → Option LSpec := lkp (loopList (bodyOf Try.f19)) []
theorem ok_i_CorrectClocks : FnOK Try.prog 19 S_i_CorrectClocks := fn_ok (Λ := Λ_i_CorrectClocks) tab0 σok_i_CorrectClocks Try.func19 (by kernel_rfl) (show Try.f19.body = some (bodyOf Try.f19) by kernel_rfl) [] rfl (by kernel_rfl) (by exact trivial) (by kernel_rfl)
  fun x y h => (show execFn Γ0 E0 σ_i_CorrectClocks Λ_i_CorrectClocks Try.f19 S_i_CorrectClocks x = i_CorrectClocks x by kernel_rfl).trans h

noncomputable def b_l_eqInt64S_4 (x : (Ty.T (.pair (.list (.int .i64)) (.pair (.list (.int .i64)) (.pair (.int .i64) .unit))))) : Option ((Ty.T (.pair (.list (.int .i64)) (.pair (.list (.int .i64)) (.pair (.int .i64) .unit)))) ⊕ ((Ty.T .unit) ⊕ (Ty.T (.pair .bool .unit)))) :=
match (decide (x.2.2.1 < (x.1.length : Int))) with
| true =>
 onSome (idx x.1 x.2.2.1) fun v1 =>
 onSome (idx x.2.1 x.2.2.1) fun v2 =>
 match (v1 != v2) with
 | true =>
  some (.inr (.inr (false, ())))
 | false =>
  some (.inl (x.1, x.2.1, (IntKind.i64.wrap (x.2.2.1 + (1 : Int))), ()))
| false =>
 some (.inr (.inl (())))
noncomputable def l_eqInt64S (x : Ty.T (.pair (.list (.int .i64)) (.pair (.list (.int .i64)) .unit))) : Option (Ty.T (.pair .bool .unit)) :=
match ((x.1.length : Int) != (x.2.1.length : Int)) with
| true =>
 some (false, ())
| false =>
 match loopL b_l_eqInt64S_4 (x.1, x.2.1, (0 : Int), ()) with
 | none => none
 | some (.inl v3) =>
  some (true, ())
 | some (.inr v4) =>
  some (v4.1, ())
noncomputable def S_l_eqInt64S : Spec := ⟨(.pair (.list (.int .i64)) (.pair (.list (.int .i64)) .unit)), (.pair .bool .unit), .unit, rfl, l_eqInt64S⟩
noncomputable def σ_l_eqInt64S : FuncId → Option Spec := sig []
theorem σok_l_eqInt64S : ∀ f s, σ_l_eqInt64S f = some s → FnOK Try.prog f s := sig_ok (l := []) trivial
noncomputable def Λ_l_eqInt64S : Nat → Option LSpec := lkp (loopList (bodyOf Try.f20)) [⟨[0, 1, 5], (.pair (.list (.int .i64)) (.pair (.list (.int .i64)) (.pair (.int .i64) .unit))), 0, [], .unit, [4], (.pair .bool .unit), loopL b_l_eqInt64S_4⟩]
theorem lok_l_eqInt64S_4 (x) : codeK Γ0 E0 σ_l_eqInt64S Λ_l_eqInt64S Try.f20.ntmps (nthLoop Try.f20 0) (mkF Try.f20.ntmps [0, 1, 5] (.pair (.list (.int .i64)) (.pair (.list (.int .i64)) (.pair (.int .i64) .unit))) x) (readK σ_l_eqInt64S Try.f20.ntmps [0, 1, 5] (.pair (.list (.int .i64)) (.pair (.list (.int .i64)) (.pair (.int .i64) .unit))) 0 [] .unit [4] (.pair .bool .unit)) = b_l_eqInt64S_4 x := by kernel_rfl
theorem ok_l_eqInt64S : FnOK Try.prog 20 S_l_eqInt64S := fn_ok (Λ := Λ_l_eqInt64S) tab0 σok_l_eqInt64S Try.func20 (by kernel_rfl) (show Try.f20.body = some (bodyOf Try.f20) by kernel_rfl) [⟨[0, 1, 5], (.pair (.list (.int .i64)) (.pair (.list (.int .i64)) (.pair (.int .i64) .unit))), 0, [], .unit, [4], (.pair .bool .unit), loopL b_l_eqInt64S_4⟩] rfl (by kernel_rfl) (by exact ⟨loop_LOK (lok_l_eqInt64S_4), trivial⟩) (by kernel_rfl)
  fun x y h => (show execFn Γ0 E0 σ_l_eqInt64S Λ_l_eqInt64S Try.f20 S_l_eqInt64S x = l_eqInt64S x by kernel_rfl).trans h

noncomputable def b_l_markInt64S_2 (x : (Ty.T (.pair (.own 2 (.int .i64)) (.pair (.int .i64) (.pair (.int .i64) .unit))))) : Option ((Ty.T (.pair (.own 2 (.int .i64)) (.pair (.int .i64) (.pair (.int .i64) .unit)))) ⊕ ((Ty.T (.pair (.own 2 (.int .i64)) (.pair (.int .i64) .unit))) ⊕ (Ty.T .unit))) :=
match (decide (x.2.2.1 < (x.1.length : Int))) with
| true =>
 onSome (idx x.1 x.2.2.1) fun _ =>
 match x.1[x.2.2.1.toNat]? with
 | none => none
 | some v2 =>
 some (.inl ((x.1.set x.2.2.1.toNat x.2.1), (IntKind.i64.wrap (x.2.1 + (1 : Int))), (IntKind.i64.wrap (x.2.2.1 + (1 : Int))), ()))
| false =>
 some (.inr (.inl (x.1, x.2.1, ())))
noncomputable def l_markInt64S (x : Ty.T (.pair (.own 2 (.int .i64)) (.pair (.int .i64) .unit))) : Option (Ty.T (.pair (.int .i64) (.pair (.own 2 (.int .i64)) .unit))) :=
match loopL b_l_markInt64S_2 (x.1, x.2.1, (0 : Int), ()) with
| none => none
| some (.inl v3) =>
 some (v3.2.1, v3.1, ())
| some (.inr v5) =>
 none
noncomputable def S_l_markInt64S : Spec := ⟨(.pair (.own 2 (.int .i64)) (.pair (.int .i64) .unit)), (.pair (.int .i64) .unit), (.pair (.own 2 (.int .i64)) .unit), rfl, l_markInt64S⟩
noncomputable def σ_l_markInt64S : FuncId → Option Spec := sig []
theorem σok_l_markInt64S : ∀ f s, σ_l_markInt64S f = some s → FnOK Try.prog f s := sig_ok (l := []) trivial
noncomputable def Λ_l_markInt64S : Nat → Option LSpec := lkp (loopList (bodyOf Try.f21)) [⟨[0, 1, 5], (.pair (.own 2 (.int .i64)) (.pair (.int .i64) (.pair (.int .i64) .unit))), 0, [0, 1], (.pair (.own 2 (.int .i64)) (.pair (.int .i64) .unit)), [], .unit, loopL b_l_markInt64S_2⟩]
theorem lok_l_markInt64S_2 (x) : codeK Γ0 E0 σ_l_markInt64S Λ_l_markInt64S Try.f21.ntmps (nthLoop Try.f21 0) (mkF Try.f21.ntmps [0, 1, 5] (.pair (.own 2 (.int .i64)) (.pair (.int .i64) (.pair (.int .i64) .unit))) x) (readK σ_l_markInt64S Try.f21.ntmps [0, 1, 5] (.pair (.own 2 (.int .i64)) (.pair (.int .i64) (.pair (.int .i64) .unit))) 0 [0, 1] (.pair (.own 2 (.int .i64)) (.pair (.int .i64) .unit)) [] .unit) = b_l_markInt64S_2 x := by kernel_rfl
theorem ok_l_markInt64S : FnOK Try.prog 21 S_l_markInt64S := fn_ok (Λ := Λ_l_markInt64S) tab0 σok_l_markInt64S Try.func21 (by kernel_rfl) (show Try.f21.body = some (bodyOf Try.f21) by kernel_rfl) [⟨[0, 1, 5], (.pair (.own 2 (.int .i64)) (.pair (.int .i64) (.pair (.int .i64) .unit))), 0, [0, 1], (.pair (.own 2 (.int .i64)) (.pair (.int .i64) .unit)), [], .unit, loopL b_l_markInt64S_2⟩] rfl (by kernel_rfl) (by exact ⟨loop_LOK (lok_l_markInt64S_2), trivial⟩) (by kernel_rfl)
  fun x y h => (show execFn Γ0 E0 σ_l_markInt64S Λ_l_markInt64S Try.f21 S_l_markInt64S x = l_markInt64S x by kernel_rfl).trans h

noncomputable def b_l_heldInt64S_2 (x : (Ty.T (.pair (.list (.int .i64)) (.pair (.int .i64) (.pair (.int .i64) .unit))))) : Option ((Ty.T (.pair (.list (.int .i64)) (.pair (.int .i64) (.pair (.int .i64) .unit)))) ⊕ ((Ty.T (.pair (.int .i64) .unit)) ⊕ (Ty.T (.pair (.int .i64) .unit)))) :=
match (decide (x.2.2.1 < (x.1.length : Int))) with
| true =>
 onSome (idx x.1 x.2.2.1) fun v1 =>
 match (v1 != x.2.1) with
 | true =>
  some (.inr (.inr ((-1 : Int), ())))
 | false =>
  some (.inl (x.1, (IntKind.i64.wrap (x.2.1 + (1 : Int))), (IntKind.i64.wrap (x.2.2.1 + (1 : Int))), ()))
| false =>
 some (.inr (.inl (x.2.1, ())))
noncomputable def l_heldInt64S (x : Ty.T (.pair (.list (.int .i64)) (.pair (.int .i64) .unit))) : Option (Ty.T (.pair (.int .i64) .unit)) :=
match loopL b_l_heldInt64S_2 (x.1, x.2.1, (0 : Int), ()) with
| none => none
| some (.inl v2) =>
 some (v2.1, ())
| some (.inr v3) =>
 some (v3.1, ())
noncomputable def S_l_heldInt64S : Spec := ⟨(.pair (.list (.int .i64)) (.pair (.int .i64) .unit)), (.pair (.int .i64) .unit), .unit, rfl, l_heldInt64S⟩
noncomputable def σ_l_heldInt64S : FuncId → Option Spec := sig []
theorem σok_l_heldInt64S : ∀ f s, σ_l_heldInt64S f = some s → FnOK Try.prog f s := sig_ok (l := []) trivial
noncomputable def Λ_l_heldInt64S : Nat → Option LSpec := lkp (loopList (bodyOf Try.f22)) [⟨[0, 1, 5], (.pair (.list (.int .i64)) (.pair (.int .i64) (.pair (.int .i64) .unit))), 0, [1], (.pair (.int .i64) .unit), [4], (.pair (.int .i64) .unit), loopL b_l_heldInt64S_2⟩]
theorem lok_l_heldInt64S_2 (x) : codeK Γ0 E0 σ_l_heldInt64S Λ_l_heldInt64S Try.f22.ntmps (nthLoop Try.f22 0) (mkF Try.f22.ntmps [0, 1, 5] (.pair (.list (.int .i64)) (.pair (.int .i64) (.pair (.int .i64) .unit))) x) (readK σ_l_heldInt64S Try.f22.ntmps [0, 1, 5] (.pair (.list (.int .i64)) (.pair (.int .i64) (.pair (.int .i64) .unit))) 0 [1] (.pair (.int .i64) .unit) [4] (.pair (.int .i64) .unit)) = b_l_heldInt64S_2 x := by kernel_rfl
theorem ok_l_heldInt64S : FnOK Try.prog 22 S_l_heldInt64S := fn_ok (Λ := Λ_l_heldInt64S) tab0 σok_l_heldInt64S Try.func22 (by kernel_rfl) (show Try.f22.body = some (bodyOf Try.f22) by kernel_rfl) [⟨[0, 1, 5], (.pair (.list (.int .i64)) (.pair (.int .i64) (.pair (.int .i64) .unit))), 0, [1], (.pair (.int .i64) .unit), [4], (.pair (.int .i64) .unit), loopL b_l_heldInt64S_2⟩] rfl (by kernel_rfl) (by exact ⟨loop_LOK (lok_l_heldInt64S_2), trivial⟩) (by kernel_rfl)
  fun x y h => (show execFn Γ0 E0 σ_l_heldInt64S Λ_l_heldInt64S Try.f22 S_l_heldInt64S x = l_heldInt64S x by kernel_rfl).trans h

noncomputable def l_FnExactCorrectClocks (x : Ty.T (.pair (.list (.int .i64)) .unit)) : Option (Ty.T (.pair .bool .unit)) :=
match (decide ((x.1.length : Int) > (1048576 : Int))) with
| true =>
 some (true, ())
| false =>
 match l_toInt64S (x.1, ()) with
 | none => none
 | some v1 =>
 match s_CorrectClocks (v1.1, ()) with
 | none => none
 | some v2 =>
 match l_toInt64S (x.1, ()) with
 | none => none
 | some v3 =>
 match i_CorrectClocks (v3.1, ()) with
 | none => none
 | some v4 =>
 match l_eqInt64S (v4.1, v2.1, ()) with
 | none => none
 | some v5 =>
 match (!v5.1) with
 | true =>
  some (false, ())
 | false =>
  match (v4.2.1 != v2.2.1) with
  | true =>
   some (false, ())
  | false =>
   match l_toInt64S (x.1, ()) with
   | none => none
   | some v6 =>
   match l_eqInt64S (v3.1, v6.1, ()) with
   | none => none
   | some v7 =>
   match (!v7.1) with
   | true =>
    some (false, ())
   | false =>
    match l_markInt64S (v3.1, (1 : Int), ()) with
    | none => none
    | some v8 =>
    match (decide (v8.1 < (0 : Int))) with
    | true =>
     some (false, ())
    | false =>
     match l_eqInt64S (v4.1, v2.1, ()) with
     | none => none
     | some v9 =>
     match (!v9.1) with
     | true =>
      some (false, ())
     | false =>
      match (v4.2.1 != v2.2.1) with
      | true =>
       some (false, ())
      | false =>
       match l_markInt64S (v4.1, (1 : Int), ()) with
       | none => none
       | some v10 =>
       match l_heldInt64S (v10.2.1, (1 : Int), ()) with
       | none => none
       | some v11 =>
       match (decide (v11.1 < (0 : Int))) with
       | true =>
        some (false, ())
       | false =>
        match (v11.1 != v10.1) with
        | true =>
         some (false, ())
        | false =>
         match l_toInt64S (x.1, ()) with
         | none => none
         | some v12 =>
         match i_CorrectClocks (v12.1, ()) with
         | none => none
         | some v13 =>
         match l_eqInt64S (v13.1, v2.1, ()) with
         | none => none
         | some v14 =>
         match (!v14.1) with
         | true =>
          some (false, ())
         | false =>
          match (v13.2.1 != v2.2.1) with
          | true =>
           some (false, ())
          | false =>
           match l_heldInt64S (v10.2.1, (1 : Int), ()) with
           | none => none
           | some v15 =>
           match (decide (v15.1 < (0 : Int))) with
           | true =>
            some (false, ())
           | false =>
            match (v15.1 != v10.1) with
            | true =>
             some (false, ())
            | false =>
             some (true, ())
noncomputable def S_l_FnExactCorrectClocks : Spec := ⟨(.pair (.list (.int .i64)) .unit), (.pair .bool .unit), .unit, rfl, l_FnExactCorrectClocks⟩
noncomputable def σ_l_FnExactCorrectClocks : FuncId → Option Spec := sig [(17, S_s_CorrectClocks), (18, S_l_toInt64S), (19, S_i_CorrectClocks), (20, S_l_eqInt64S), (21, S_l_markInt64S), (22, S_l_heldInt64S)]
theorem σok_l_FnExactCorrectClocks : ∀ f s, σ_l_FnExactCorrectClocks f = some s → FnOK Try.prog f s := sig_ok (l := [(17, S_s_CorrectClocks), (18, S_l_toInt64S), (19, S_i_CorrectClocks), (20, S_l_eqInt64S), (21, S_l_markInt64S), (22, S_l_heldInt64S)]) ⟨ok_s_CorrectClocks, ok_l_toInt64S, ok_i_CorrectClocks, ok_l_eqInt64S, ok_l_markInt64S, ok_l_heldInt64S, trivial⟩
noncomputable def Λ_l_FnExactCorrectClocks : Nat → Option LSpec := lkp (loopList (bodyOf Try.f4)) []
theorem ok_l_FnExactCorrectClocks : FnOK Try.prog 4 S_l_FnExactCorrectClocks := fn_ok (Λ := Λ_l_FnExactCorrectClocks) tab0 σok_l_FnExactCorrectClocks Try.func4 (by kernel_rfl) (show Try.f4.body = some (bodyOf Try.f4) by kernel_rfl) [] rfl (by kernel_rfl) (by exact trivial) (by kernel_rfl)
  fun x y h => (show execFn Γ0 E0 σ_l_FnExactCorrectClocks Λ_l_FnExactCorrectClocks Try.f4 S_l_FnExactCorrectClocks x = l_FnExactCorrectClocks x by kernel_rfl).trans h

noncomputable def s_CorrectAround (x : Ty.T (.pair (.list (.int .i64)) (.pair (.int .i64) (.pair (.list (.int .i64)) .unit)))) : Option (Ty.T (.pair (.own 2 (.int .i64)) (.pair (.int .i64) .unit))) :=
match s_l30Clocks (x.1, ()) with
| none => none
| some v1 =>
match (!v1.1) with
| true =>
 some ([], (1 : Int), ())
| false =>
 match s_l01In (x.2.1, (0 : Int), (IntKind.i64.wrap ((x.1.length : Int) - (1 : Int))), ()) with
 | none => none
 | some v2 =>
 match (!v2.1) with
 | true =>
  some ([], (4 : Int), ())
 | false =>
  match ((x.2.2.1.length : Int) != (x.1.length : Int)) with
  | true =>
   some ([], (3 : Int), ())
  | false =>
   match s_l30All (x.2.2.1, ()) with
   | none => none
   | some v3 =>
   match (!v3.1) with
   | true =>
    some ([], (3 : Int), ())
   | false =>
    match s_l30Correct (x.1, x.2.1, x.2.2.1, ()) with
    | none => none
    | some v4 =>
    some (v4.1, (0 : Int), ())
noncomputable def S_s_CorrectAround : Spec := ⟨(.pair (.list (.int .i64)) (.pair (.int .i64) (.pair (.list (.int .i64)) .unit))), (.pair (.own 2 (.int .i64)) (.pair (.int .i64) .unit)), .unit, rfl, s_CorrectAround⟩
noncomputable def σ_s_CorrectAround : FuncId → Option Spec := sig [(40, S_s_l01In), (45, S_s_l30Clocks), (46, S_s_l30Correct), (49, S_s_l30All)]
theorem σok_s_CorrectAround : ∀ f s, σ_s_CorrectAround f = some s → FnOK Try.prog f s := sig_ok (l := [(40, S_s_l01In), (45, S_s_l30Clocks), (46, S_s_l30Correct), (49, S_s_l30All)]) ⟨ok_s_l01In, ok_s_l30Clocks, ok_s_l30Correct, ok_s_l30All, trivial⟩
noncomputable def Λ_s_CorrectAround : Nat → Option LSpec := lkp (loopList (bodyOf Try.f23)) []
theorem ok_s_CorrectAround : FnOK Try.prog 23 S_s_CorrectAround := fn_ok (Λ := Λ_s_CorrectAround) tab0 σok_s_CorrectAround Try.func23 (by kernel_rfl) (show Try.f23.body = some (bodyOf Try.f23) by kernel_rfl) [] rfl (by kernel_rfl) (by exact trivial) (by kernel_rfl)
  fun x y h => (show execFn Γ0 E0 σ_s_CorrectAround Λ_s_CorrectAround Try.f23 S_s_CorrectAround x = s_CorrectAround x by kernel_rfl).trans h

noncomputable def b_i_CorrectAround_9 (x : (Ty.T (.pair (.list (.int .i64)) (.pair (.int .i64) (.pair (.list (.int .i64)) (.pair (.own 2 (.int .i64)) (.pair (.list (.int .i64)) (.pair (.int .i64) (.pair (.int .i64) .unit))))))))) : Option ((Ty.T (.pair (.list (.int .i64)) (.pair (.int .i64) (.pair (.list (.int .i64)) (.pair (.own 2 (.int .i64)) (.pair (.list (.int .i64)) (.pair (.int .i64) (.pair (.int .i64) .unit)))))))) ⊕ ((Ty.T (.pair (.own 2 (.int .i64)) .unit)) ⊕ (Ty.T .unit))) :=
match (decide (x.2.2.2.2.2.2.1 < x.2.2.2.2.2.1)) with
| true =>
 onSome (idx x.2.2.2.2.1 x.2.2.2.2.2.2.1) fun v4 =>
 match slices_Clone_int64 (x.1, ()) with
 | none => none
 | some v5 =>
 onSome (idx x.2.2.1 x.2.2.2.2.2.2.1) fun v6 =>
 onSome (idx v5.1 x.2.1) fun _ =>
 match v5.1[x.2.1.toNat]? with
 | none => none
 | some v8 =>
 match i_corrected (v4, (v5.1.set x.2.1.toNat v6), ()) with
 | none => none
 | some v9 =>
 room (x.2.2.2.1.length + [v9.1].length) (
  some (.inl (x.1, x.2.1, x.2.2.1, (x.2.2.2.1 ++ [v9.1]), x.2.2.2.2.1, x.2.2.2.2.2.1, (IntKind.i64.wrap (x.2.2.2.2.2.2.1 + (1 : Int))), ())))
| false =>
 some (.inr (.inl (x.2.2.2.1, ())))
noncomputable def i_CorrectAround (x : Ty.T (.pair (.list (.int .i64)) (.pair (.int .i64) (.pair (.list (.int .i64)) .unit)))) : Option (Ty.T (.pair (.own 2 (.int .i64)) (.pair (.int .i64) .unit))) :=
match i_areClocks (x.1, ()) with
| none => none
| some v1 =>
match (!v1.1) with
| true =>
 some ([], (1 : Int), ())
| false =>
 match i_within (x.2.1, (0 : Int), (IntKind.i64.wrap ((x.1.length : Int) - (1 : Int))), ()) with
 | none => none
 | some v2 =>
 match (!v2.1) with
 | true =>
  some ([], (4 : Int), ())
 | false =>
  match ((x.2.2.1.length : Int) != (x.1.length : Int)) with
  | true =>
   some ([], (3 : Int), ())
  | false =>
   match i_allWithin (x.2.2.1, (0 : Int), (1000000000 : Int), ()) with
   | none => none
   | some v3 =>
   match (!v3.1) with
   | true =>
    some ([], (3 : Int), ())
   | false =>
    match loopL b_i_CorrectAround_9 (x.1, x.2.1, x.2.2.1, [], x.1, (x.1.length : Int), (0 : Int), ()) with
    | none => none
    | some (.inl v10) =>
     some (v10.1, (0 : Int), ())
    | some (.inr v12) =>
     none
noncomputable def S_i_CorrectAround : Spec := ⟨(.pair (.list (.int .i64)) (.pair (.int .i64) (.pair (.list (.int .i64)) .unit))), (.pair (.own 2 (.int .i64)) (.pair (.int .i64) .unit)), .unit, rfl, i_CorrectAround⟩
noncomputable def σ_i_CorrectAround : FuncId → Option Spec := sig [(38, S_i_allWithin), (42, S_i_within), (47, S_i_areClocks), (50, S_slices_Clone_int64), (51, S_i_corrected)]
theorem σok_i_CorrectAround : ∀ f s, σ_i_CorrectAround f = some s → FnOK Try.prog f s := sig_ok (l := [(38, S_i_allWithin), (42, S_i_within), (47, S_i_areClocks), (50, S_slices_Clone_int64), (51, S_i_corrected)]) ⟨ok_i_allWithin, ok_i_within, ok_i_areClocks, ok_slices_Clone_int64, ok_i_corrected, trivial⟩
noncomputable def Λ_i_CorrectAround : Nat → Option LSpec := lkp (loopList (bodyOf Try.f24)) [⟨[0, 1, 2, 8, 32, 33, 34], (.pair (.list (.int .i64)) (.pair (.int .i64) (.pair (.list (.int .i64)) (.pair (.own 2 (.int .i64)) (.pair (.list (.int .i64)) (.pair (.int .i64) (.pair (.int .i64) .unit))))))), 0, [8], (.pair (.own 2 (.int .i64)) .unit), [], .unit, loopL b_i_CorrectAround_9⟩]
theorem lok_i_CorrectAround_9 (x) : codeK Γ0 E0 σ_i_CorrectAround Λ_i_CorrectAround Try.f24.ntmps (nthLoop Try.f24 0) (mkF Try.f24.ntmps [0, 1, 2, 8, 32, 33, 34] (.pair (.list (.int .i64)) (.pair (.int .i64) (.pair (.list (.int .i64)) (.pair (.own 2 (.int .i64)) (.pair (.list (.int .i64)) (.pair (.int .i64) (.pair (.int .i64) .unit))))))) x) (readK σ_i_CorrectAround Try.f24.ntmps [0, 1, 2, 8, 32, 33, 34] (.pair (.list (.int .i64)) (.pair (.int .i64) (.pair (.list (.int .i64)) (.pair (.own 2 (.int .i64)) (.pair (.list (.int .i64)) (.pair (.int .i64) (.pair (.int .i64) .unit))))))) 0 [8] (.pair (.own 2 (.int .i64)) .unit) [] .unit) = b_i_CorrectAround_9 x := by kernel_rfl
theorem ok_i_CorrectAround : FnOK Try.prog 24 S_i_CorrectAround := fn_ok (Λ := Λ_i_CorrectAround) tab0 σok_i_CorrectAround Try.func24 (by kernel_rfl) (show Try.f24.body = some (bodyOf Try.f24) by kernel_rfl) [⟨[0, 1, 2, 8, 32, 33, 34], (.pair (.list (.int .i64)) (.pair (.int .i64) (.pair (.list (.int .i64)) (.pair (.own 2 (.int .i64)) (.pair (.list (.int .i64)) (.pair (.int .i64) (.pair (.int .i64) .unit))))))), 0, [8], (.pair (.own 2 (.int .i64)) .unit), [], .unit, loopL b_i_CorrectAround_9⟩] rfl (by kernel_rfl) (by exact ⟨loop_LOK (lok_i_CorrectAround_9), trivial⟩) (by kernel_rfl)
  fun x y h => (show execFn Γ0 E0 σ_i_CorrectAround Λ_i_CorrectAround Try.f24 S_i_CorrectAround x = i_CorrectAround x by kernel_rfl).trans h

noncomputable def l_FnExactCorrectAround (x : Ty.T (.pair (.list (.int .i64)) (.pair (.int .i64) (.pair (.list (.int .i64)) .unit)))) : Option (Ty.T (.pair .bool .unit)) :=
match (decide ((x.1.length : Int) > (1048576 : Int))) with
| true =>
 some (true, ())
| false =>
 match (decide ((x.2.2.1.length : Int) > (1048576 : Int))) with
 | true =>
  some (true, ())
 | false =>
  match l_toInt64S (x.1, ()) with
  | none => none
  | some v1 =>
  match l_toInt64S (x.2.2.1, ()) with
  | none => none
  | some v2 =>
  match s_CorrectAround (v1.1, x.2.1, v2.1, ()) with
  | none => none
  | some v3 =>
  match l_toInt64S (x.1, ()) with
  | none => none
  | some v4 =>
  match l_toInt64S (x.2.2.1, ()) with
  | none => none
  | some v5 =>
  match i_CorrectAround (v4.1, x.2.1, v5.1, ()) with
  | none => none
  | some v6 =>
  match l_eqInt64S (v6.1, v3.1, ()) with
  | none => none
  | some v7 =>
  match (!v7.1) with
  | true =>
   some (false, ())
  | false =>
   match (v6.2.1 != v3.2.1) with
   | true =>
    some (false, ())
   | false =>
    match l_toInt64S (x.1, ()) with
    | none => none
    | some v8 =>
    match l_eqInt64S (v4.1, v8.1, ()) with
    | none => none
    | some v9 =>
    match (!v9.1) with
    | true =>
     some (false, ())
    | false =>
     match l_toInt64S (x.2.2.1, ()) with
     | none => none
     | some v10 =>
     match l_eqInt64S (v5.1, v10.1, ()) with
     | none => none
     | some v11 =>
     match (!v11.1) with
     | true =>
      some (false, ())
     | false =>
      match l_markInt64S (v4.1, (1 : Int), ()) with
      | none => none
      | some v12 =>
      match l_markInt64S (v5.1, v12.1, ()) with
      | none => none
      | some v13 =>
      match (decide (v13.1 < (0 : Int))) with
      | true =>
       some (false, ())
      | false =>
       match l_eqInt64S (v6.1, v3.1, ()) with
       | none => none
       | some v14 =>
       match (!v14.1) with
       | true =>
        some (false, ())
       | false =>
        match (v6.2.1 != v3.2.1) with
        | true =>
         some (false, ())
        | false =>
         match l_markInt64S (v6.1, (1 : Int), ()) with
         | none => none
         | some v15 =>
         match l_heldInt64S (v15.2.1, (1 : Int), ()) with
         | none => none
         | some v16 =>
         match (decide (v16.1 < (0 : Int))) with
         | true =>
          some (false, ())
         | false =>
          match (v16.1 != v15.1) with
          | true =>
           some (false, ())
          | false =>
           match l_toInt64S (x.1, ()) with
           | none => none
           | some v17 =>
           match l_toInt64S (x.2.2.1, ()) with
           | none => none
           | some v18 =>
           match i_CorrectAround (v17.1, x.2.1, v18.1, ()) with
           | none => none
           | some v19 =>
           match l_eqInt64S (v19.1, v3.1, ()) with
           | none => none
           | some v20 =>
           match (!v20.1) with
           | true =>
            some (false, ())
           | false =>
            match (v19.2.1 != v3.2.1) with
            | true =>
             some (false, ())
            | false =>
             match l_heldInt64S (v15.2.1, (1 : Int), ()) with
             | none => none
             | some v21 =>
             match (decide (v21.1 < (0 : Int))) with
             | true =>
              some (false, ())
             | false =>
              match (v21.1 != v15.1) with
              | true =>
               some (false, ())
              | false =>
               some (true, ())
noncomputable def S_l_FnExactCorrectAround : Spec := ⟨(.pair (.list (.int .i64)) (.pair (.int .i64) (.pair (.list (.int .i64)) .unit))), (.pair .bool .unit), .unit, rfl, l_FnExactCorrectAround⟩
noncomputable def σ_l_FnExactCorrectAround : FuncId → Option Spec := sig [(18, S_l_toInt64S), (20, S_l_eqInt64S), (21, S_l_markInt64S), (22, S_l_heldInt64S), (23, S_s_CorrectAround), (24, S_i_CorrectAround)]
theorem σok_l_FnExactCorrectAround : ∀ f s, σ_l_FnExactCorrectAround f = some s → FnOK Try.prog f s := sig_ok (l := [(18, S_l_toInt64S), (20, S_l_eqInt64S), (21, S_l_markInt64S), (22, S_l_heldInt64S), (23, S_s_CorrectAround), (24, S_i_CorrectAround)]) ⟨ok_l_toInt64S, ok_l_eqInt64S, ok_l_markInt64S, ok_l_heldInt64S, ok_s_CorrectAround, ok_i_CorrectAround, trivial⟩
noncomputable def Λ_l_FnExactCorrectAround : Nat → Option LSpec := lkp (loopList (bodyOf Try.f5)) []
theorem ok_l_FnExactCorrectAround : FnOK Try.prog 5 S_l_FnExactCorrectAround := fn_ok (Λ := Λ_l_FnExactCorrectAround) tab0 σok_l_FnExactCorrectAround Try.func5 (by kernel_rfl) (show Try.f5.body = some (bodyOf Try.f5) by kernel_rfl) [] rfl (by kernel_rfl) (by exact trivial) (by kernel_rfl)
  fun x y h => (show execFn Γ0 E0 σ_l_FnExactCorrectAround Λ_l_FnExactCorrectAround Try.f5 S_l_FnExactCorrectAround x = l_FnExactCorrectAround x by kernel_rfl).trans h

noncomputable def b_s_l30Draw_4 (x : (Ty.T (.pair (.box Tl01Source) (.pair (.own 2 (.int .i64)) (.pair (.int .i64) (.pair (.int .i64) .unit)))))) : Option ((Ty.T (.pair (.box Tl01Source) (.pair (.own 2 (.int .i64)) (.pair (.int .i64) (.pair (.int .i64) .unit))))) ⊕ ((Ty.T (.pair (.box Tl01Source) (.pair (.own 2 (.int .i64)) .unit))) ⊕ (Ty.T .unit))) :=
match (decide (x.2.2.2.1 > (0 : Int))) with
| true =>
 match s_l01Next ((x.1.1, x.1.2.1, x.1.2.2.1, ()), (40 : Int), ()) with
 | none => none
 | some v3 =>
 room (x.2.1.length + [(IntKind.i64.wrap (x.2.2.1 + v3.1))].length) (
  some (.inl ((v3.2.1.1, v3.2.1.2.1, v3.2.1.2.2.1, ()), (x.2.1 ++ [(IntKind.i64.wrap (x.2.2.1 + v3.1))]), x.2.2.1, (IntKind.i64.wrap (x.2.2.2.1 - (1 : Int))), ())))
| false =>
 some (.inr (.inl ((x.1.1, x.1.2.1, x.1.2.2.1, ()), x.2.1, ())))
noncomputable def s_l30Draw (x : Ty.T (.pair (.box Tl01Source) .unit)) : Option (Ty.T (.pair (.own 2 (.int .i64)) (.pair (.box Tl01Source) .unit))) :=
match s_l01Next ((x.1.1, x.1.2.1, x.1.2.2.1, ()), (1000 : Int), ()) with
| none => none
| some v1 =>
match s_l01Next ((v1.2.1.1, v1.2.1.2.1, v1.2.1.2.2.1, ()), (10 : Int), ()) with
| none => none
| some v2 =>
match loopL b_s_l30Draw_4 ((v2.2.1.1, v2.2.1.2.1, v2.2.1.2.2.1, ()), [], v1.1, (IntKind.i64.wrap ((1 : Int) + v2.1)), ()) with
| none => none
| some (.inl v4) =>
 match s_l01Next ((v4.1.1, v4.1.2.1, v4.1.2.2.1, ()), (30 : Int), ()) with
 | none => none
 | some v6 =>
 match (v6.1 == (0 : Int)) with
 | true =>
  match s_l01Next ((v6.2.1.1, v6.2.1.2.1, v6.2.1.2.2.1, ()), (3 : Int), ()) with
  | none => none
  | some v7 =>
  onSome (idx [(-1 : Int), (1000000000 : Int), (1000000001 : Int)] v7.1) fun _ =>
  match [(-1 : Int), (1000000000 : Int), (1000000001 : Int)][v7.1.toNat]? with
  | none => none
  | some v9 =>
  onSome (idx v4.2.1 (0 : Int)) fun _ =>
  match v4.2.1[(0 : Int).toNat]? with
  | none => none
  | some v11 =>
  some ((v4.2.1.set ((0 : Int).toNat) v9), (v7.2.1.1, v7.2.1.2.1, v7.2.1.2.2.1, ()), ())
 | false =>
  match (v6.1 == (1 : Int)) with
  | true =>
   match s_l01Next ((v6.2.1.1, v6.2.1.2.1, v6.2.1.2.2.1, ()), (2 : Int), ()) with
   | none => none
   | some v12 =>
   if 0 ≤ (IntKind.i64.wrap ((32 : Int) + v12.1)) ∧ (IntKind.i64.wrap ((32 : Int) + v12.1)) ≤ (IntKind.i64.wrap ((32 : Int) + v12.1)) then
    room ((IntKind.i64.wrap ((32 : Int) + v12.1)).toNat) (
     some ((List.replicate (IntKind.i64.wrap ((32 : Int) + v12.1)).toNat (0 : Int)), (v12.2.1.1, v12.2.1.2.1, v12.2.1.2.2.1, ()), ()))
   else none
  | false =>
   match (v6.1 == (2 : Int)) with
   | true =>
    some ([], (v6.2.1.1, v6.2.1.2.1, v6.2.1.2.2.1, ()), ())
   | false =>
    some (v4.2.1, (v6.2.1.1, v6.2.1.2.1, v6.2.1.2.2.1, ()), ())
| some (.inr v13) =>
 none
noncomputable def S_s_l30Draw : Spec := ⟨(.pair (.box Tl01Source) .unit), (.pair (.own 2 (.int .i64)) .unit), (.pair (.box Tl01Source) .unit), rfl, s_l30Draw⟩
noncomputable def σ_s_l30Draw : FuncId → Option Spec := sig [(37, S_s_l01Next)]
theorem σok_s_l30Draw : ∀ f s, σ_s_l30Draw f = some s → FnOK Try.prog f s := sig_ok (l := [(37, S_s_l01Next)]) ⟨ok_s_l01Next, trivial⟩
noncomputable def Λ_s_l30Draw : Nat → Option LSpec := lkp (loopList (bodyOf Try.f52)) [⟨[0, 3, 4, 5], (.pair (.box Tl01Source) (.pair (.own 2 (.int .i64)) (.pair (.int .i64) (.pair (.int .i64) .unit)))), 0, [0, 3], (.pair (.box Tl01Source) (.pair (.own 2 (.int .i64)) .unit)), [], .unit, loopL b_s_l30Draw_4⟩]
theorem lok_s_l30Draw_4 (x) : codeK Γ0 E0 σ_s_l30Draw Λ_s_l30Draw Try.f52.ntmps (nthLoop Try.f52 0) (mkF Try.f52.ntmps [0, 3, 4, 5] (.pair (.box Tl01Source) (.pair (.own 2 (.int .i64)) (.pair (.int .i64) (.pair (.int .i64) .unit)))) x) (readK σ_s_l30Draw Try.f52.ntmps [0, 3, 4, 5] (.pair (.box Tl01Source) (.pair (.own 2 (.int .i64)) (.pair (.int .i64) (.pair (.int .i64) .unit)))) 0 [0, 3] (.pair (.box Tl01Source) (.pair (.own 2 (.int .i64)) .unit)) [] .unit) = b_s_l30Draw_4 x := by kernel_rfl
theorem ok_s_l30Draw : FnOK Try.prog 52 S_s_l30Draw := fn_ok (Λ := Λ_s_l30Draw) tab0 σok_s_l30Draw Try.func52 (by kernel_rfl) (show Try.f52.body = some (bodyOf Try.f52) by kernel_rfl) [⟨[0, 3, 4, 5], (.pair (.box Tl01Source) (.pair (.own 2 (.int .i64)) (.pair (.int .i64) (.pair (.int .i64) .unit)))), 0, [0, 3], (.pair (.box Tl01Source) (.pair (.own 2 (.int .i64)) .unit)), [], .unit, loopL b_s_l30Draw_4⟩] rfl (by kernel_rfl) (by exact ⟨loop_LOK (lok_s_l30Draw_4), trivial⟩) (by kernel_rfl)
  fun x y h => (show execFn Γ0 E0 σ_s_l30Draw Λ_s_l30Draw Try.f52 S_s_l30Draw x = s_l30Draw x by kernel_rfl).trans h

noncomputable def b_s_DrawCorrectAround_5 (x : (Ty.T (.pair (.box Tl01Source) (.pair (.own 2 (.int .i64)) (.pair (.own 2 (.int .i64)) (.pair (.int .i64) .unit)))))) : Option ((Ty.T (.pair (.box Tl01Source) (.pair (.own 2 (.int .i64)) (.pair (.own 2 (.int .i64)) (.pair (.int .i64) .unit))))) ⊕ ((Ty.T (.pair (.box Tl01Source) (.pair (.own 2 (.int .i64)) (.pair (.own 2 (.int .i64)) .unit)))) ⊕ (Ty.T .unit))) :=
match (decide (x.2.2.2.1 < (x.2.1.length : Int))) with
| true =>
 match s_l01Next ((x.1.1, x.1.2.1, x.1.2.2.1, ()), (2000 : Int), ()) with
 | none => none
 | some v3 =>
 room (x.2.2.1.length + [v3.1].length) (
  some (.inl ((v3.2.1.1, v3.2.1.2.1, v3.2.1.2.2.1, ()), x.2.1, (x.2.2.1 ++ [v3.1]), (IntKind.i64.wrap (x.2.2.2.1 + (1 : Int))), ())))
| false =>
 some (.inr (.inl ((x.1.1, x.1.2.1, x.1.2.2.1, ()), x.2.1, x.2.2.1, ())))
noncomputable def s_DrawCorrectAround (x : Ty.T (.pair (.list (.int .u8)) .unit)) : Option (Ty.T (.pair (.own 2 (.int .i64)) (.pair (.int .i64) (.pair (.own 2 (.int .i64)) .unit)))) :=
match s_l01From (x.1, ()) with
| none => none
| some v1 =>
match s_l30Draw ((v1.1.1, v1.1.2.1, v1.1.2.2.1, ()), ()) with
| none => none
| some v2 =>
match loopL b_s_DrawCorrectAround_5 ((v2.2.1.1, v2.2.1.2.1, v2.2.1.2.2.1, ()), v2.1, [], (0 : Int), ()) with
| none => none
| some (.inl v4) =>
 match s_l01Next ((v4.1.1, v4.1.2.1, v4.1.2.2.1, ()), (20 : Int), ()) with
 | none => none
 | some v6 =>
 match (v6.1 == (0 : Int)) with
 | true =>
  room (v4.2.2.1.length + [(0 : Int)].length) (
   match s_l01Next ((v6.2.1.1, v6.2.1.2.1, v6.2.1.2.2.1, ()), (v4.2.1.length : Int), ()) with
   | none => none
   | some v7 =>
   match s_l01Next ((v7.2.1.1, v7.2.1.2.1, v7.2.1.2.2.1, ()), (20 : Int), ()) with
   | none => none
   | some v8 =>
   some (v4.2.1, (IntKind.i64.wrap (v7.1 + (IntKind.i64.wrap ((IntKind.i64.wrap (Int.tdiv v8.1 (19 : Int))) * (v4.2.1.length : Int))))), (v4.2.2.1 ++ [(0 : Int)]), ()))
 | false =>
  match (v6.1 == (1 : Int)) with
  | true =>
   match (decide ((v4.2.2.1.length : Int) > (0 : Int))) with
   | true =>
    match s_l01Next ((v6.2.1.1, v6.2.1.2.1, v6.2.1.2.2.1, ()), (3 : Int), ()) with
    | none => none
    | some v9 =>
    onSome (idx [(-1 : Int), (1000000000 : Int), (1000000001 : Int)] v9.1) fun _ =>
    match [(-1 : Int), (1000000000 : Int), (1000000001 : Int)][v9.1.toNat]? with
    | none => none
    | some v11 =>
    onSome (idx v4.2.2.1 (0 : Int)) fun _ =>
    match v4.2.2.1[(0 : Int).toNat]? with
    | none => none
    | some v13 =>
    match s_l01Next ((v9.2.1.1, v9.2.1.2.1, v9.2.1.2.2.1, ()), (v4.2.1.length : Int), ()) with
    | none => none
    | some v14 =>
    match s_l01Next ((v14.2.1.1, v14.2.1.2.1, v14.2.1.2.2.1, ()), (20 : Int), ()) with
    | none => none
    | some v15 =>
    some (v4.2.1, (IntKind.i64.wrap (v14.1 + (IntKind.i64.wrap ((IntKind.i64.wrap (Int.tdiv v15.1 (19 : Int))) * (v4.2.1.length : Int))))), (v4.2.2.1.set ((0 : Int).toNat) v11), ())
   | false =>
    match s_l01Next ((v6.2.1.1, v6.2.1.2.1, v6.2.1.2.2.1, ()), (v4.2.1.length : Int), ()) with
    | none => none
    | some v16 =>
    match s_l01Next ((v16.2.1.1, v16.2.1.2.1, v16.2.1.2.2.1, ()), (20 : Int), ()) with
    | none => none
    | some v17 =>
    some (v4.2.1, (IntKind.i64.wrap (v16.1 + (IntKind.i64.wrap ((IntKind.i64.wrap (Int.tdiv v17.1 (19 : Int))) * (v4.2.1.length : Int))))), v4.2.2.1, ())
  | false =>
   match s_l01Next ((v6.2.1.1, v6.2.1.2.1, v6.2.1.2.2.1, ()), (v4.2.1.length : Int), ()) with
   | none => none
   | some v18 =>
   match s_l01Next ((v18.2.1.1, v18.2.1.2.1, v18.2.1.2.2.1, ()), (20 : Int), ()) with
   | none => none
   | some v19 =>
   some (v4.2.1, (IntKind.i64.wrap (v18.1 + (IntKind.i64.wrap ((IntKind.i64.wrap (Int.tdiv v19.1 (19 : Int))) * (v4.2.1.length : Int))))), v4.2.2.1, ())
| some (.inr v20) =>
 none
noncomputable def S_s_DrawCorrectAround : Spec := ⟨(.pair (.list (.int .u8)) .unit), (.pair (.own 2 (.int .i64)) (.pair (.int .i64) (.pair (.own 2 (.int .i64)) .unit))), .unit, rfl, s_DrawCorrectAround⟩
noncomputable def σ_s_DrawCorrectAround : FuncId → Option Spec := sig [(36, S_s_l01From), (37, S_s_l01Next), (52, S_s_l30Draw)]
theorem σok_s_DrawCorrectAround : ∀ f s, σ_s_DrawCorrectAround f = some s → FnOK Try.prog f s := sig_ok (l := [(36, S_s_l01From), (37, S_s_l01Next), (52, S_s_l30Draw)]) ⟨ok_s_l01From, ok_s_l01Next, ok_s_l30Draw, trivial⟩
noncomputable def Λ_s_DrawCorrectAround : Nat → Option LSpec := lkp (loopList (bodyOf Try.f25)) [⟨[5, 6, 7, 8], (.pair (.box Tl01Source) (.pair (.own 2 (.int .i64)) (.pair (.own 2 (.int .i64)) (.pair (.int .i64) .unit)))), 0, [5, 6, 7], (.pair (.box Tl01Source) (.pair (.own 2 (.int .i64)) (.pair (.own 2 (.int .i64)) .unit))), [], .unit, loopL b_s_DrawCorrectAround_5⟩]
theorem lok_s_DrawCorrectAround_5 (x) : codeK Γ0 E0 σ_s_DrawCorrectAround Λ_s_DrawCorrectAround Try.f25.ntmps (nthLoop Try.f25 0) (mkF Try.f25.ntmps [5, 6, 7, 8] (.pair (.box Tl01Source) (.pair (.own 2 (.int .i64)) (.pair (.own 2 (.int .i64)) (.pair (.int .i64) .unit)))) x) (readK σ_s_DrawCorrectAround Try.f25.ntmps [5, 6, 7, 8] (.pair (.box Tl01Source) (.pair (.own 2 (.int .i64)) (.pair (.own 2 (.int .i64)) (.pair (.int .i64) .unit)))) 0 [5, 6, 7] (.pair (.box Tl01Source) (.pair (.own 2 (.int .i64)) (.pair (.own 2 (.int .i64)) .unit))) [] .unit) = b_s_DrawCorrectAround_5 x := by kernel_rfl
theorem ok_s_DrawCorrectAround : FnOK Try.prog 25 S_s_DrawCorrectAround := fn_ok (Λ := Λ_s_DrawCorrectAround) tab0 σok_s_DrawCorrectAround Try.func25 (by kernel_rfl) (show Try.f25.body = some (bodyOf Try.f25) by kernel_rfl) [⟨[5, 6, 7, 8], (.pair (.box Tl01Source) (.pair (.own 2 (.int .i64)) (.pair (.own 2 (.int .i64)) (.pair (.int .i64) .unit)))), 0, [5, 6, 7], (.pair (.box Tl01Source) (.pair (.own 2 (.int .i64)) (.pair (.own 2 (.int .i64)) .unit))), [], .unit, loopL b_s_DrawCorrectAround_5⟩] rfl (by kernel_rfl) (by exact ⟨loop_LOK (lok_s_DrawCorrectAround_5), trivial⟩) (by kernel_rfl)
  fun x y h => (show execFn Γ0 E0 σ_s_DrawCorrectAround Λ_s_DrawCorrectAround Try.f25 S_s_DrawCorrectAround x = s_DrawCorrectAround x by kernel_rfl).trans h

noncomputable def b_l_likeInts_4 (x : (Ty.T (.pair (.list (.int .i64)) (.pair (.list (.int .i64)) (.pair (.int .i64) .unit))))) : Option ((Ty.T (.pair (.list (.int .i64)) (.pair (.list (.int .i64)) (.pair (.int .i64) .unit)))) ⊕ ((Ty.T .unit) ⊕ (Ty.T (.pair .bool .unit)))) :=
match (decide (x.2.2.1 < (x.1.length : Int))) with
| true =>
 onSome (idx x.1 x.2.2.1) fun v1 =>
 onSome (idx x.2.1 x.2.2.1) fun v2 =>
 match (v1 != v2) with
 | true =>
  some (.inr (.inr (false, ())))
 | false =>
  some (.inl (x.1, x.2.1, (IntKind.i64.wrap (x.2.2.1 + (1 : Int))), ()))
| false =>
 some (.inr (.inl (())))
noncomputable def l_likeInts (x : Ty.T (.pair (.list (.int .i64)) (.pair (.list (.int .i64)) .unit))) : Option (Ty.T (.pair .bool .unit)) :=
match ((x.1.length : Int) != (x.2.1.length : Int)) with
| true =>
 some (false, ())
| false =>
 match loopL b_l_likeInts_4 (x.1, x.2.1, (0 : Int), ()) with
 | none => none
 | some (.inl v3) =>
  some (true, ())
 | some (.inr v4) =>
  some (v4.1, ())
noncomputable def S_l_likeInts : Spec := ⟨(.pair (.list (.int .i64)) (.pair (.list (.int .i64)) .unit)), (.pair .bool .unit), .unit, rfl, l_likeInts⟩
noncomputable def σ_l_likeInts : FuncId → Option Spec := sig []
theorem σok_l_likeInts : ∀ f s, σ_l_likeInts f = some s → FnOK Try.prog f s := sig_ok (l := []) trivial
noncomputable def Λ_l_likeInts : Nat → Option LSpec := lkp (loopList (bodyOf Try.f26)) [⟨[0, 1, 5], (.pair (.list (.int .i64)) (.pair (.list (.int .i64)) (.pair (.int .i64) .unit))), 0, [], .unit, [4], (.pair .bool .unit), loopL b_l_likeInts_4⟩]
theorem lok_l_likeInts_4 (x) : codeK Γ0 E0 σ_l_likeInts Λ_l_likeInts Try.f26.ntmps (nthLoop Try.f26 0) (mkF Try.f26.ntmps [0, 1, 5] (.pair (.list (.int .i64)) (.pair (.list (.int .i64)) (.pair (.int .i64) .unit))) x) (readK σ_l_likeInts Try.f26.ntmps [0, 1, 5] (.pair (.list (.int .i64)) (.pair (.list (.int .i64)) (.pair (.int .i64) .unit))) 0 [] .unit [4] (.pair .bool .unit)) = b_l_likeInts_4 x := by kernel_rfl
theorem ok_l_likeInts : FnOK Try.prog 26 S_l_likeInts := fn_ok (Λ := Λ_l_likeInts) tab0 σok_l_likeInts Try.func26 (by kernel_rfl) (show Try.f26.body = some (bodyOf Try.f26) by kernel_rfl) [⟨[0, 1, 5], (.pair (.list (.int .i64)) (.pair (.list (.int .i64)) (.pair (.int .i64) .unit))), 0, [], .unit, [4], (.pair .bool .unit), loopL b_l_likeInts_4⟩] rfl (by kernel_rfl) (by exact ⟨loop_LOK (lok_l_likeInts_4), trivial⟩) (by kernel_rfl)
  fun x y h => (show execFn Γ0 E0 σ_l_likeInts Λ_l_likeInts Try.f26 S_l_likeInts x = l_likeInts x by kernel_rfl).trans h

noncomputable def b_l_FnFaultyClocks_12 (x : (Ty.T (.pair (.own 2 (.int .i64)) (.pair (.int .i64) (.pair (.own 2 (.int .i64)) (.pair (.int .i64) (.pair (.int .i64) (.pair (.int .i64) .unit)))))))) : Option ((Ty.T (.pair (.own 2 (.int .i64)) (.pair (.int .i64) (.pair (.own 2 (.int .i64)) (.pair (.int .i64) (.pair (.int .i64) (.pair (.int .i64) .unit))))))) ⊕ ((Ty.T (.pair (.own 2 (.int .i64)) (.pair (.int .i64) (.pair (.int .i64) .unit)))) ⊕ (Ty.T .unit))) :=
match (decide (x.2.2.2.2.2.1 < (x.1.length : Int))) with
| true =>
 match (x.2.2.2.2.2.1 != x.2.1) with
 | true =>
  onSome (idx x.1 x.2.2.2.2.2.1) fun _ =>
  match x.1[x.2.2.2.2.2.1.toNat]? with
  | none => none
  | some v7 =>
  onSome (idx x.1 x.2.2.2.2.2.1) fun _ =>
  match x.1[x.2.2.2.2.2.1.toNat]? with
  | none => none
  | some v9 =>
  some (.inl (x.1, x.2.1, x.2.2.1, (if v7 < x.2.2.2.1 then v7 else x.2.2.2.1), (if v9 > x.2.2.2.2.1 then v9 else x.2.2.2.2.1), (IntKind.i64.wrap (x.2.2.2.2.2.1 + (1 : Int))), ()))
 | false =>
  some (.inl (x.1, x.2.1, x.2.2.1, x.2.2.2.1, x.2.2.2.2.1, (IntKind.i64.wrap (x.2.2.2.2.2.1 + (1 : Int))), ()))
| false =>
 some (.inr (.inl (x.2.2.1, x.2.2.2.1, x.2.2.2.2.1, ())))
noncomputable def b_l_FnFaultyClocks_18 (x : (Ty.T (.pair (.own 2 (.int .i64)) (.pair (.int .i64) (.pair (.int .i64) (.pair (.int .i64) .unit)))))) : Option ((Ty.T (.pair (.own 2 (.int .i64)) (.pair (.int .i64) (.pair (.int .i64) (.pair (.int .i64) .unit))))) ⊕ ((Ty.T .unit) ⊕ (Ty.T (.pair .bool .unit)))) :=
match (decide (x.2.2.2.1 < (x.1.length : Int))) with
| true =>
 onSome (idx x.1 x.2.2.2.1) fun _ =>
 match x.1[x.2.2.2.1.toNat]? with
 | none => none
 | some v13 =>
 match (decide (v13 < x.2.1)) with
 | true =>
  some (.inr (.inr (false, ())))
 | false =>
  onSome (idx x.1 x.2.2.2.1) fun _ =>
  match x.1[x.2.2.2.1.toNat]? with
  | none => none
  | some v15 =>
  match (decide (v15 > x.2.2.1)) with
  | true =>
   some (.inr (.inr (false, ())))
  | false =>
   some (.inl (x.1, x.2.1, x.2.2.1, (IntKind.i64.wrap (x.2.2.2.1 + (1 : Int))), ()))
| false =>
 some (.inr (.inl (())))
noncomputable def l_FnFaultyClocks (x : Ty.T (.pair (.list (.int .u8)) .unit)) : Option (Ty.T (.pair .bool .unit)) :=
match l_big (x.1, ()) with
| none => none
| some v1 =>
match v1.1 with
| true =>
 some (true, ())
| false =>
 match s_DrawCorrectAround (x.1, ()) with
 | none => none
 | some v2 =>
 match i_CorrectAround (v2.1, v2.2.1, v2.2.2.1, ()) with
 | none => none
 | some v3 =>
 match s_CorrectAround (v2.1, v2.2.1, v2.2.2.1, ()) with
 | none => none
 | some v4 =>
 match (v3.2.1 != v4.2.1) with
 | true =>
  some (false, ())
 | false =>
  match l_likeInts (v3.1, v4.1, ()) with
  | none => none
  | some v5 =>
  match (!v5.1) with
  | true =>
   some (false, ())
  | false =>
   match (v3.2.1 != (0 : Int)) with
   | true =>
    some (true, ())
   | false =>
    match (decide ((v2.1.length : Int) < (3 : Int))) with
    | true =>
     some (true, ())
    | false =>
     match loopL b_l_FnFaultyClocks_12 (v2.1, v2.2.1, v3.1, (1000000000 : Int), (0 : Int), (0 : Int), ()) with
     | none => none
     | some (.inl v10) =>
      match loopL b_l_FnFaultyClocks_18 (v10.1, v10.2.1, v10.2.2.1, (0 : Int), ()) with
      | none => none
      | some (.inl v16) =>
       some (true, ())
      | some (.inr v17) =>
       some (v17.1, ())
     | some (.inr v18) =>
      none
noncomputable def S_l_FnFaultyClocks : Spec := ⟨(.pair (.list (.int .u8)) .unit), (.pair .bool .unit), .unit, rfl, l_FnFaultyClocks⟩
noncomputable def σ_l_FnFaultyClocks : FuncId → Option Spec := sig [(10, S_l_big), (23, S_s_CorrectAround), (24, S_i_CorrectAround), (25, S_s_DrawCorrectAround), (26, S_l_likeInts)]
theorem σok_l_FnFaultyClocks : ∀ f s, σ_l_FnFaultyClocks f = some s → FnOK Try.prog f s := sig_ok (l := [(10, S_l_big), (23, S_s_CorrectAround), (24, S_i_CorrectAround), (25, S_s_DrawCorrectAround), (26, S_l_likeInts)]) ⟨ok_l_big, ok_s_CorrectAround, ok_i_CorrectAround, ok_s_DrawCorrectAround, ok_l_likeInts, trivial⟩
noncomputable def Λ_l_FnFaultyClocks : Nat → Option LSpec := lkp (loopList (bodyOf Try.f6)) [⟨[3, 4, 6, 10, 11, 12], (.pair (.own 2 (.int .i64)) (.pair (.int .i64) (.pair (.own 2 (.int .i64)) (.pair (.int .i64) (.pair (.int .i64) (.pair (.int .i64) .unit)))))), 0, [6, 10, 11], (.pair (.own 2 (.int .i64)) (.pair (.int .i64) (.pair (.int .i64) .unit))), [], .unit, loopL b_l_FnFaultyClocks_12⟩, ⟨[6, 10, 11, 13], (.pair (.own 2 (.int .i64)) (.pair (.int .i64) (.pair (.int .i64) (.pair (.int .i64) .unit)))), 2, [], .unit, [2], (.pair .bool .unit), loopL b_l_FnFaultyClocks_18⟩]
theorem lok_l_FnFaultyClocks_12 (x) : codeK Γ0 E0 σ_l_FnFaultyClocks Λ_l_FnFaultyClocks Try.f6.ntmps (nthLoop Try.f6 0) (mkF Try.f6.ntmps [3, 4, 6, 10, 11, 12] (.pair (.own 2 (.int .i64)) (.pair (.int .i64) (.pair (.own 2 (.int .i64)) (.pair (.int .i64) (.pair (.int .i64) (.pair (.int .i64) .unit)))))) x) (readK σ_l_FnFaultyClocks Try.f6.ntmps [3, 4, 6, 10, 11, 12] (.pair (.own 2 (.int .i64)) (.pair (.int .i64) (.pair (.own 2 (.int .i64)) (.pair (.int .i64) (.pair (.int .i64) (.pair (.int .i64) .unit)))))) 0 [6, 10, 11] (.pair (.own 2 (.int .i64)) (.pair (.int .i64) (.pair (.int .i64) .unit))) [] .unit) = b_l_FnFaultyClocks_12 x := by kernel_rfl
theorem lok_l_FnFaultyClocks_18 (x) : codeK Γ0 E0 σ_l_FnFaultyClocks Λ_l_FnFaultyClocks Try.f6.ntmps (nthLoop Try.f6 1) (mkF Try.f6.ntmps [6, 10, 11, 13] (.pair (.own 2 (.int .i64)) (.pair (.int .i64) (.pair (.int .i64) (.pair (.int .i64) .unit)))) x) (readK σ_l_FnFaultyClocks Try.f6.ntmps [6, 10, 11, 13] (.pair (.own 2 (.int .i64)) (.pair (.int .i64) (.pair (.int .i64) (.pair (.int .i64) .unit)))) 2 [] .unit [2] (.pair .bool .unit)) = b_l_FnFaultyClocks_18 x := by kernel_rfl
theorem ok_l_FnFaultyClocks : FnOK Try.prog 6 S_l_FnFaultyClocks := fn_ok (Λ := Λ_l_FnFaultyClocks) tab0 σok_l_FnFaultyClocks Try.func6 (by kernel_rfl) (show Try.f6.body = some (bodyOf Try.f6) by kernel_rfl) [⟨[3, 4, 6, 10, 11, 12], (.pair (.own 2 (.int .i64)) (.pair (.int .i64) (.pair (.own 2 (.int .i64)) (.pair (.int .i64) (.pair (.int .i64) (.pair (.int .i64) .unit)))))), 0, [6, 10, 11], (.pair (.own 2 (.int .i64)) (.pair (.int .i64) (.pair (.int .i64) .unit))), [], .unit, loopL b_l_FnFaultyClocks_12⟩, ⟨[6, 10, 11, 13], (.pair (.own 2 (.int .i64)) (.pair (.int .i64) (.pair (.int .i64) (.pair (.int .i64) .unit)))), 2, [], .unit, [2], (.pair .bool .unit), loopL b_l_FnFaultyClocks_18⟩] rfl (by kernel_rfl) (by exact ⟨loop_LOK (lok_l_FnFaultyClocks_12), loop_LOK (lok_l_FnFaultyClocks_18), trivial⟩) (by kernel_rfl)
  fun x y h => (show execFn Γ0 E0 σ_l_FnFaultyClocks Λ_l_FnFaultyClocks Try.f6 S_l_FnFaultyClocks x = l_FnFaultyClocks x by kernel_rfl).trans h

noncomputable def s_DrawCorrectClocks (x : Ty.T (.pair (.list (.int .u8)) .unit)) : Option (Ty.T (.pair (.own 2 (.int .i64)) .unit)) :=
match s_l01From (x.1, ()) with
| none => none
| some v1 =>
match s_l30Draw ((v1.1.1, v1.1.2.1, v1.1.2.2.1, ()), ()) with
| none => none
| some v2 =>
some (v2.1, ())
noncomputable def S_s_DrawCorrectClocks : Spec := ⟨(.pair (.list (.int .u8)) .unit), (.pair (.own 2 (.int .i64)) .unit), .unit, rfl, s_DrawCorrectClocks⟩
noncomputable def σ_s_DrawCorrectClocks : FuncId → Option Spec := sig [(36, S_s_l01From), (52, S_s_l30Draw)]
theorem σok_s_DrawCorrectClocks : ∀ f s, σ_s_DrawCorrectClocks f = some s → FnOK Try.prog f s := sig_ok (l := [(36, S_s_l01From), (52, S_s_l30Draw)]) ⟨ok_s_l01From, ok_s_l30Draw, trivial⟩
noncomputable def Λ_s_DrawCorrectClocks : Nat → Option LSpec := lkp (loopList (bodyOf Try.f27)) []
theorem ok_s_DrawCorrectClocks : FnOK Try.prog 27 S_s_DrawCorrectClocks := fn_ok (Λ := Λ_s_DrawCorrectClocks) tab0 σok_s_DrawCorrectClocks Try.func27 (by kernel_rfl) (show Try.f27.body = some (bodyOf Try.f27) by kernel_rfl) [] rfl (by kernel_rfl) (by exact trivial) (by kernel_rfl)
  fun x y h => (show execFn Γ0 E0 σ_s_DrawCorrectClocks Λ_s_DrawCorrectClocks Try.f27 S_s_DrawCorrectClocks x = s_DrawCorrectClocks x by kernel_rfl).trans h

noncomputable def b_slices_Max_int64_5 (x : (Ty.T (.pair (.list (.int .i64)) (.pair (.int .i64) (.pair (.int .i64) .unit))))) : Option ((Ty.T (.pair (.list (.int .i64)) (.pair (.int .i64) (.pair (.int .i64) .unit)))) ⊕ ((Ty.T (.pair (.int .i64) .unit)) ⊕ (Ty.T .unit))) :=
match (decide (x.2.2.1 < (x.1.length : Int))) with
| true =>
 onSome (idx x.1 x.2.2.1) fun v2 =>
 some (.inl (x.1, (if v2 > x.2.1 then v2 else x.2.1), (IntKind.i64.wrap (x.2.2.1 + (1 : Int))), ()))
| false =>
 some (.inr (.inl (x.2.1, ())))
noncomputable def slices_Max_int64 (x : Ty.T (.pair (.list (.int .i64)) .unit)) : Option (Ty.T (.pair (.int .i64) .unit)) :=
match (decide ((x.1.length : Int) < (1 : Int))) with
| true =>
 none
| false =>
 onSome (idx x.1 (0 : Int)) fun v1 =>
 match loopL b_slices_Max_int64_5 (x.1, v1, (1 : Int), ()) with
 | none => none
 | some (.inl v3) =>
  some (v3.1, ())
 | some (.inr v5) =>
  none
noncomputable def S_slices_Max_int64 : Spec := ⟨(.pair (.list (.int .i64)) .unit), (.pair (.int .i64) .unit), .unit, rfl, slices_Max_int64⟩
noncomputable def σ_slices_Max_int64 : FuncId → Option Spec := sig []
theorem σok_slices_Max_int64 : ∀ f s, σ_slices_Max_int64 f = some s → FnOK Try.prog f s := sig_ok (l := []) trivial
noncomputable def Λ_slices_Max_int64 : Nat → Option LSpec := lkp (loopList (bodyOf Try.f60)) [⟨[0, 3, 4], (.pair (.list (.int .i64)) (.pair (.int .i64) (.pair (.int .i64) .unit))), 0, [3], (.pair (.int .i64) .unit), [], .unit, loopL b_slices_Max_int64_5⟩]
theorem lok_slices_Max_int64_5 (x) : codeK Γ0 E0 σ_slices_Max_int64 Λ_slices_Max_int64 Try.f60.ntmps (nthLoop Try.f60 0) (mkF Try.f60.ntmps [0, 3, 4] (.pair (.list (.int .i64)) (.pair (.int .i64) (.pair (.int .i64) .unit))) x) (readK σ_slices_Max_int64 Try.f60.ntmps [0, 3, 4] (.pair (.list (.int .i64)) (.pair (.int .i64) (.pair (.int .i64) .unit))) 0 [3] (.pair (.int .i64) .unit) [] .unit) = b_slices_Max_int64_5 x := by kernel_rfl
theorem ok_slices_Max_int64 : FnOK Try.prog 60 S_slices_Max_int64 := fn_ok (Λ := Λ_slices_Max_int64) tab0 σok_slices_Max_int64 Try.func60 (by kernel_rfl) (show Try.f60.body = some (bodyOf Try.f60) by kernel_rfl) [⟨[0, 3, 4], (.pair (.list (.int .i64)) (.pair (.int .i64) (.pair (.int .i64) .unit))), 0, [3], (.pair (.int .i64) .unit), [], .unit, loopL b_slices_Max_int64_5⟩] rfl (by kernel_rfl) (by exact ⟨loop_LOK (lok_slices_Max_int64_5), trivial⟩) (by kernel_rfl)
  fun x y h => (show execFn Γ0 E0 σ_slices_Max_int64 Λ_slices_Max_int64 Try.f60 S_slices_Max_int64 x = slices_Max_int64 x by kernel_rfl).trans h

noncomputable def b_slices_Min_int64_5 (x : (Ty.T (.pair (.list (.int .i64)) (.pair (.int .i64) (.pair (.int .i64) .unit))))) : Option ((Ty.T (.pair (.list (.int .i64)) (.pair (.int .i64) (.pair (.int .i64) .unit)))) ⊕ ((Ty.T (.pair (.int .i64) .unit)) ⊕ (Ty.T .unit))) :=
match (decide (x.2.2.1 < (x.1.length : Int))) with
| true =>
 onSome (idx x.1 x.2.2.1) fun v2 =>
 some (.inl (x.1, (if v2 < x.2.1 then v2 else x.2.1), (IntKind.i64.wrap (x.2.2.1 + (1 : Int))), ()))
| false =>
 some (.inr (.inl (x.2.1, ())))
noncomputable def slices_Min_int64 (x : Ty.T (.pair (.list (.int .i64)) .unit)) : Option (Ty.T (.pair (.int .i64) .unit)) :=
match (decide ((x.1.length : Int) < (1 : Int))) with
| true =>
 none
| false =>
 onSome (idx x.1 (0 : Int)) fun v1 =>
 match loopL b_slices_Min_int64_5 (x.1, v1, (1 : Int), ()) with
 | none => none
 | some (.inl v3) =>
  some (v3.1, ())
 | some (.inr v5) =>
  none
noncomputable def S_slices_Min_int64 : Spec := ⟨(.pair (.list (.int .i64)) .unit), (.pair (.int .i64) .unit), .unit, rfl, slices_Min_int64⟩
noncomputable def σ_slices_Min_int64 : FuncId → Option Spec := sig []
theorem σok_slices_Min_int64 : ∀ f s, σ_slices_Min_int64 f = some s → FnOK Try.prog f s := sig_ok (l := []) trivial
noncomputable def Λ_slices_Min_int64 : Nat → Option LSpec := lkp (loopList (bodyOf Try.f66)) [⟨[0, 3, 4], (.pair (.list (.int .i64)) (.pair (.int .i64) (.pair (.int .i64) .unit))), 0, [3], (.pair (.int .i64) .unit), [], .unit, loopL b_slices_Min_int64_5⟩]
theorem lok_slices_Min_int64_5 (x) : codeK Γ0 E0 σ_slices_Min_int64 Λ_slices_Min_int64 Try.f66.ntmps (nthLoop Try.f66 0) (mkF Try.f66.ntmps [0, 3, 4] (.pair (.list (.int .i64)) (.pair (.int .i64) (.pair (.int .i64) .unit))) x) (readK σ_slices_Min_int64 Try.f66.ntmps [0, 3, 4] (.pair (.list (.int .i64)) (.pair (.int .i64) (.pair (.int .i64) .unit))) 0 [3] (.pair (.int .i64) .unit) [] .unit) = b_slices_Min_int64_5 x := by kernel_rfl
theorem ok_slices_Min_int64 : FnOK Try.prog 66 S_slices_Min_int64 := fn_ok (Λ := Λ_slices_Min_int64) tab0 σok_slices_Min_int64 Try.func66 (by kernel_rfl) (show Try.f66.body = some (bodyOf Try.f66) by kernel_rfl) [⟨[0, 3, 4], (.pair (.list (.int .i64)) (.pair (.int .i64) (.pair (.int .i64) .unit))), 0, [3], (.pair (.int .i64) .unit), [], .unit, loopL b_slices_Min_int64_5⟩] rfl (by kernel_rfl) (by exact ⟨loop_LOK (lok_slices_Min_int64_5), trivial⟩) (by kernel_rfl)
  fun x y h => (show execFn Γ0 E0 σ_slices_Min_int64 Λ_slices_Min_int64 Try.f66 S_slices_Min_int64 x = slices_Min_int64 x by kernel_rfl).trans h

noncomputable def i_spreadOf (x : Ty.T (.pair (.list (.int .i64)) .unit)) : Option (Ty.T (.pair (.int .i64) .unit)) :=
match slices_Max_int64 (x.1, ()) with
| none => none
| some v1 =>
match slices_Min_int64 (x.1, ()) with
| none => none
| some v2 =>
some ((IntKind.i64.wrap (v1.1 - v2.1)), ())
noncomputable def S_i_spreadOf : Spec := ⟨(.pair (.list (.int .i64)) .unit), (.pair (.int .i64) .unit), .unit, rfl, i_spreadOf⟩
noncomputable def σ_i_spreadOf : FuncId → Option Spec := sig [(60, S_slices_Max_int64), (66, S_slices_Min_int64)]
theorem σok_i_spreadOf : ∀ f s, σ_i_spreadOf f = some s → FnOK Try.prog f s := sig_ok (l := [(60, S_slices_Max_int64), (66, S_slices_Min_int64)]) ⟨ok_slices_Max_int64, ok_slices_Min_int64, trivial⟩
noncomputable def Λ_i_spreadOf : Nat → Option LSpec := lkp (loopList (bodyOf Try.f53)) []
theorem ok_i_spreadOf : FnOK Try.prog 53 S_i_spreadOf := fn_ok (Λ := Λ_i_spreadOf) tab0 σok_i_spreadOf Try.func53 (by kernel_rfl) (show Try.f53.body = some (bodyOf Try.f53) by kernel_rfl) [] rfl (by kernel_rfl) (by exact trivial) (by kernel_rfl)
  fun x y h => (show execFn Γ0 E0 σ_i_spreadOf Λ_i_spreadOf Try.f53 S_i_spreadOf x = i_spreadOf x by kernel_rfl).trans h

noncomputable def i_SpreadOf (x : Ty.T (.pair (.list (.int .i64)) .unit)) : Option (Ty.T (.pair (.int .i64) (.pair (.int .i64) .unit))) :=
match i_areClocks (x.1, ()) with
| none => none
| some v1 =>
match (!v1.1) with
| true =>
 some ((0 : Int), (1 : Int), ())
| false =>
 match i_spreadOf (x.1, ()) with
 | none => none
 | some v2 =>
 some (v2.1, (0 : Int), ())
noncomputable def S_i_SpreadOf : Spec := ⟨(.pair (.list (.int .i64)) .unit), (.pair (.int .i64) (.pair (.int .i64) .unit)), .unit, rfl, i_SpreadOf⟩
noncomputable def σ_i_SpreadOf : FuncId → Option Spec := sig [(47, S_i_areClocks), (53, S_i_spreadOf)]
theorem σok_i_SpreadOf : ∀ f s, σ_i_SpreadOf f = some s → FnOK Try.prog f s := sig_ok (l := [(47, S_i_areClocks), (53, S_i_spreadOf)]) ⟨ok_i_areClocks, ok_i_spreadOf, trivial⟩
noncomputable def Λ_i_SpreadOf : Nat → Option LSpec := lkp (loopList (bodyOf Try.f28)) []
theorem ok_i_SpreadOf : FnOK Try.prog 28 S_i_SpreadOf := fn_ok (Λ := Λ_i_SpreadOf) tab0 σok_i_SpreadOf Try.func28 (by kernel_rfl) (show Try.f28.body = some (bodyOf Try.f28) by kernel_rfl) [] rfl (by kernel_rfl) (by exact trivial) (by kernel_rfl)
  fun x y h => (show execFn Γ0 E0 σ_i_SpreadOf Λ_i_SpreadOf Try.f28 S_i_SpreadOf x = i_SpreadOf x by kernel_rfl).trans h

noncomputable def b_s_l17Ends_3 (x : (Ty.T (.pair (.list (.int .i64)) (.pair (.int .i64) (.pair (.int .i64) (.pair (.int .i64) .unit)))))) : Option ((Ty.T (.pair (.list (.int .i64)) (.pair (.int .i64) (.pair (.int .i64) (.pair (.int .i64) .unit))))) ⊕ ((Ty.T (.pair (.int .i64) (.pair (.int .i64) .unit))) ⊕ (Ty.T .unit))) :=
match (decide (x.2.2.2.1 < (x.1.length : Int))) with
| true =>
 onSome (idx x.1 x.2.2.2.1) fun v3 =>
 onSome (idx x.1 x.2.2.2.1) fun v4 =>
 some (.inl (x.1, (if v3 < x.2.1 then v3 else x.2.1), (if v4 > x.2.2.1 then v4 else x.2.2.1), (IntKind.i64.wrap (x.2.2.2.1 + (1 : Int))), ()))
| false =>
 some (.inr (.inl (x.2.1, x.2.2.1, ())))
noncomputable def s_l17Ends (x : Ty.T (.pair (.list (.int .i64)) .unit)) : Option (Ty.T (.pair (.int .i64) (.pair (.int .i64) .unit))) :=
onSome (idx x.1 (0 : Int)) fun v1 =>
onSome (idx x.1 (0 : Int)) fun v2 =>
match loopL b_s_l17Ends_3 (x.1, v1, v2, (1 : Int), ()) with
| none => none
| some (.inl v5) =>
 some (v5.1, v5.2.1, ())
| some (.inr v7) =>
 none
noncomputable def S_s_l17Ends : Spec := ⟨(.pair (.list (.int .i64)) .unit), (.pair (.int .i64) (.pair (.int .i64) .unit)), .unit, rfl, s_l17Ends⟩
noncomputable def σ_s_l17Ends : FuncId → Option Spec := sig []
theorem σok_s_l17Ends : ∀ f s, σ_s_l17Ends f = some s → FnOK Try.prog f s := sig_ok (l := []) trivial
noncomputable def Λ_s_l17Ends : Nat → Option LSpec := lkp (loopList (bodyOf Try.f54)) [⟨[0, 4, 5, 6], (.pair (.list (.int .i64)) (.pair (.int .i64) (.pair (.int .i64) (.pair (.int .i64) .unit)))), 0, [4, 5], (.pair (.int .i64) (.pair (.int .i64) .unit)), [], .unit, loopL b_s_l17Ends_3⟩]
theorem lok_s_l17Ends_3 (x) : codeK Γ0 E0 σ_s_l17Ends Λ_s_l17Ends Try.f54.ntmps (nthLoop Try.f54 0) (mkF Try.f54.ntmps [0, 4, 5, 6] (.pair (.list (.int .i64)) (.pair (.int .i64) (.pair (.int .i64) (.pair (.int .i64) .unit)))) x) (readK σ_s_l17Ends Try.f54.ntmps [0, 4, 5, 6] (.pair (.list (.int .i64)) (.pair (.int .i64) (.pair (.int .i64) (.pair (.int .i64) .unit)))) 0 [4, 5] (.pair (.int .i64) (.pair (.int .i64) .unit)) [] .unit) = b_s_l17Ends_3 x := by kernel_rfl
theorem ok_s_l17Ends : FnOK Try.prog 54 S_s_l17Ends := fn_ok (Λ := Λ_s_l17Ends) tab0 σok_s_l17Ends Try.func54 (by kernel_rfl) (show Try.f54.body = some (bodyOf Try.f54) by kernel_rfl) [⟨[0, 4, 5, 6], (.pair (.list (.int .i64)) (.pair (.int .i64) (.pair (.int .i64) (.pair (.int .i64) .unit)))), 0, [4, 5], (.pair (.int .i64) (.pair (.int .i64) .unit)), [], .unit, loopL b_s_l17Ends_3⟩] rfl (by kernel_rfl) (by exact ⟨loop_LOK (lok_s_l17Ends_3), trivial⟩) (by kernel_rfl)
  fun x y h => (show execFn Γ0 E0 σ_s_l17Ends Λ_s_l17Ends Try.f54 S_s_l17Ends x = s_l17Ends x by kernel_rfl).trans h

noncomputable def s_SpreadOf (x : Ty.T (.pair (.list (.int .i64)) .unit)) : Option (Ty.T (.pair (.int .i64) (.pair (.int .i64) .unit))) :=
match s_l30Clocks (x.1, ()) with
| none => none
| some v1 =>
match (!v1.1) with
| true =>
 some ((0 : Int), (1 : Int), ())
| false =>
 match s_l17Ends (x.1, ()) with
 | none => none
 | some v2 =>
 some ((IntKind.i64.wrap (v2.2.1 - v2.1)), (0 : Int), ())
noncomputable def S_s_SpreadOf : Spec := ⟨(.pair (.list (.int .i64)) .unit), (.pair (.int .i64) (.pair (.int .i64) .unit)), .unit, rfl, s_SpreadOf⟩
noncomputable def σ_s_SpreadOf : FuncId → Option Spec := sig [(45, S_s_l30Clocks), (54, S_s_l17Ends)]
theorem σok_s_SpreadOf : ∀ f s, σ_s_SpreadOf f = some s → FnOK Try.prog f s := sig_ok (l := [(45, S_s_l30Clocks), (54, S_s_l17Ends)]) ⟨ok_s_l30Clocks, ok_s_l17Ends, trivial⟩
noncomputable def Λ_s_SpreadOf : Nat → Option LSpec := lkp (loopList (bodyOf Try.f29)) []
theorem ok_s_SpreadOf : FnOK Try.prog 29 S_s_SpreadOf := fn_ok (Λ := Λ_s_SpreadOf) tab0 σok_s_SpreadOf Try.func29 (by kernel_rfl) (show Try.f29.body = some (bodyOf Try.f29) by kernel_rfl) [] rfl (by kernel_rfl) (by exact trivial) (by kernel_rfl)
  fun x y h => (show execFn Γ0 E0 σ_s_SpreadOf Λ_s_SpreadOf Try.f29 S_s_SpreadOf x = s_SpreadOf x by kernel_rfl).trans h

noncomputable def b_l_FnCorrectedClocks_15 (x : (Ty.T (.pair (.own 2 (.int .i64)) (.pair (.own 2 (.int .i64)) (.pair (.int .i64) (.pair (.int .i64) (.pair (.int .i64) (.pair (.int .i64) (.pair (.int .i64) (.pair (.int .i64) .unit)))))))))) : Option ((Ty.T (.pair (.own 2 (.int .i64)) (.pair (.own 2 (.int .i64)) (.pair (.int .i64) (.pair (.int .i64) (.pair (.int .i64) (.pair (.int .i64) (.pair (.int .i64) (.pair (.int .i64) .unit))))))))) ⊕ ((Ty.T (.pair (.own 2 (.int .i64)) (.pair (.int .i64) (.pair (.int .i64) (.pair (.int .i64) (.pair (.int .i64) (.pair (.int .i64) .unit))))))) ⊕ (Ty.T .unit))) :=
match (decide (x.2.2.2.2.2.2.2.1 < (x.1.length : Int))) with
| true =>
 onSome (idx x.1 x.2.2.2.2.2.2.2.1) fun _ =>
 match x.1[x.2.2.2.2.2.2.2.1.toNat]? with
 | none => none
 | some v14 =>
 onSome (idx x.1 x.2.2.2.2.2.2.2.1) fun _ =>
 match x.1[x.2.2.2.2.2.2.2.1.toNat]? with
 | none => none
 | some v16 =>
 some (.inl (x.1, x.2.1, x.2.2.1, x.2.2.2.1, x.2.2.2.2.1, (if v14 < x.2.2.2.2.2.1 then v14 else x.2.2.2.2.2.1), (if v16 > x.2.2.2.2.2.2.1 then v16 else x.2.2.2.2.2.2.1), (IntKind.i64.wrap (x.2.2.2.2.2.2.2.1 + (1 : Int))), ()))
| false =>
 some (.inr (.inl (x.2.1, x.2.2.1, x.2.2.2.1, x.2.2.2.2.1, x.2.2.2.2.2.1, x.2.2.2.2.2.2.1, ())))
noncomputable def l_FnCorrectedClocks (x : Ty.T (.pair (.list (.int .u8)) .unit)) : Option (Ty.T (.pair .bool .unit)) :=
match l_big (x.1, ()) with
| none => none
| some v1 =>
match v1.1 with
| true =>
 some (true, ())
| false =>
 match s_DrawCorrectClocks (x.1, ()) with
 | none => none
 | some v2 =>
 match i_CorrectClocks (v2.1, ()) with
 | none => none
 | some v3 =>
 match s_CorrectClocks (v2.1, ()) with
 | none => none
 | some v4 =>
 match i_SpreadOf (v2.1, ()) with
 | none => none
 | some v5 =>
 match s_SpreadOf (v2.1, ()) with
 | none => none
 | some v6 =>
 match (v3.2.1 != v4.2.1) with
 | true =>
  some (false, ())
 | false =>
  match l_likeInts (v3.1, v4.1, ()) with
  | none => none
  | some v7 =>
  match (!v7.1) with
  | true =>
   some (false, ())
  | false =>
   match (v5.2.1 != v6.2.1) with
   | true =>
    some (false, ())
   | false =>
    match (v5.1 != v6.1) with
    | true =>
     some (false, ())
    | false =>
     match (v3.2.1 != (0 : Int)) with
     | true =>
      some (true, ())
     | false =>
      match i_SpreadOf (v3.1, ()) with
      | none => none
      | some v8 =>
      onSome (idx v2.1 (0 : Int)) fun _ =>
      match v2.1[(0 : Int).toNat]? with
      | none => none
      | some v10 =>
      onSome (idx v2.1 (0 : Int)) fun _ =>
      match v2.1[(0 : Int).toNat]? with
      | none => none
      | some v12 =>
      match loopL b_l_FnCorrectedClocks_15 (v2.1, v3.1, v5.1, v8.1, v8.2.1, v10, v12, (0 : Int), ()) with
      | none => none
      | some (.inl v17) =>
       match (v17.2.2.2.1 == (0 : Int)) with
       | true =>
        match (v17.2.2.1 == (0 : Int)) with
        | true =>
         onSome (idx v17.1 (0 : Int)) fun _ =>
         match v17.1[(0 : Int).toNat]? with
         | none => none
         | some v20 =>
         match (decide (v20 ≥ v17.2.2.2.2.1)) with
         | true =>
          onSome (idx v17.1 (0 : Int)) fun _ =>
          match v17.1[(0 : Int).toNat]? with
          | none => none
          | some v22 =>
          match (decide (v22 ≤ v17.2.2.2.2.2.1)) with
          | true =>
           some (((IntKind.i64.wrap (v17.2.2.2.2.2.1 - v17.2.2.2.2.1)) == v17.2.1), ())
          | false =>
           some (false, ())
         | false =>
          some (false, ())
        | false =>
         some (false, ())
       | false =>
        some (false, ())
      | some (.inr v23) =>
       none
noncomputable def S_l_FnCorrectedClocks : Spec := ⟨(.pair (.list (.int .u8)) .unit), (.pair .bool .unit), .unit, rfl, l_FnCorrectedClocks⟩
noncomputable def σ_l_FnCorrectedClocks : FuncId → Option Spec := sig [(10, S_l_big), (17, S_s_CorrectClocks), (19, S_i_CorrectClocks), (26, S_l_likeInts), (27, S_s_DrawCorrectClocks), (28, S_i_SpreadOf), (29, S_s_SpreadOf)]
theorem σok_l_FnCorrectedClocks : ∀ f s, σ_l_FnCorrectedClocks f = some s → FnOK Try.prog f s := sig_ok (l := [(10, S_l_big), (17, S_s_CorrectClocks), (19, S_i_CorrectClocks), (26, S_l_likeInts), (27, S_s_DrawCorrectClocks), (28, S_i_SpreadOf), (29, S_s_SpreadOf)]) ⟨ok_l_big, ok_s_CorrectClocks, ok_i_CorrectClocks, ok_l_likeInts, ok_s_DrawCorrectClocks, ok_i_SpreadOf, ok_s_SpreadOf, trivial⟩
noncomputable def Λ_l_FnCorrectedClocks : Nat → Option LSpec := lkp (loopList (bodyOf Try.f7)) [⟨[3, 4, 8, 12, 13, 14, 15, 16], (.pair (.own 2 (.int .i64)) (.pair (.own 2 (.int .i64)) (.pair (.int .i64) (.pair (.int .i64) (.pair (.int .i64) (.pair (.int .i64) (.pair (.int .i64) (.pair (.int .i64) .unit)))))))), 0, [4, 8, 12, 13, 14, 15], (.pair (.own 2 (.int .i64)) (.pair (.int .i64) (.pair (.int .i64) (.pair (.int .i64) (.pair (.int .i64) (.pair (.int .i64) .unit)))))), [], .unit, loopL b_l_FnCorrectedClocks_15⟩]
theorem lok_l_FnCorrectedClocks_15 (x) : codeK Γ0 E0 σ_l_FnCorrectedClocks Λ_l_FnCorrectedClocks Try.f7.ntmps (nthLoop Try.f7 0) (mkF Try.f7.ntmps [3, 4, 8, 12, 13, 14, 15, 16] (.pair (.own 2 (.int .i64)) (.pair (.own 2 (.int .i64)) (.pair (.int .i64) (.pair (.int .i64) (.pair (.int .i64) (.pair (.int .i64) (.pair (.int .i64) (.pair (.int .i64) .unit)))))))) x) (readK σ_l_FnCorrectedClocks Try.f7.ntmps [3, 4, 8, 12, 13, 14, 15, 16] (.pair (.own 2 (.int .i64)) (.pair (.own 2 (.int .i64)) (.pair (.int .i64) (.pair (.int .i64) (.pair (.int .i64) (.pair (.int .i64) (.pair (.int .i64) (.pair (.int .i64) .unit)))))))) 0 [4, 8, 12, 13, 14, 15] (.pair (.own 2 (.int .i64)) (.pair (.int .i64) (.pair (.int .i64) (.pair (.int .i64) (.pair (.int .i64) (.pair (.int .i64) .unit)))))) [] .unit) = b_l_FnCorrectedClocks_15 x := by kernel_rfl
theorem ok_l_FnCorrectedClocks : FnOK Try.prog 7 S_l_FnCorrectedClocks := fn_ok (Λ := Λ_l_FnCorrectedClocks) tab0 σok_l_FnCorrectedClocks Try.func7 (by kernel_rfl) (show Try.f7.body = some (bodyOf Try.f7) by kernel_rfl) [⟨[3, 4, 8, 12, 13, 14, 15, 16], (.pair (.own 2 (.int .i64)) (.pair (.own 2 (.int .i64)) (.pair (.int .i64) (.pair (.int .i64) (.pair (.int .i64) (.pair (.int .i64) (.pair (.int .i64) (.pair (.int .i64) .unit)))))))), 0, [4, 8, 12, 13, 14, 15], (.pair (.own 2 (.int .i64)) (.pair (.int .i64) (.pair (.int .i64) (.pair (.int .i64) (.pair (.int .i64) (.pair (.int .i64) .unit)))))), [], .unit, loopL b_l_FnCorrectedClocks_15⟩] rfl (by kernel_rfl) (by exact ⟨loop_LOK (lok_l_FnCorrectedClocks_15), trivial⟩) (by kernel_rfl)
  fun x y h => (show execFn Γ0 E0 σ_l_FnCorrectedClocks Λ_l_FnCorrectedClocks Try.f7 S_l_FnCorrectedClocks x = l_FnCorrectedClocks x by kernel_rfl).trans h

noncomputable def b_s_l30Code_4 (x : (Ty.T (.pair (.list (.int .i64)) (.pair (.list (.int .i64)) (.pair (.int .i64) (.pair (.int .i64) (.pair (.int .i64) .unit))))))) : Option ((Ty.T (.pair (.list (.int .i64)) (.pair (.list (.int .i64)) (.pair (.int .i64) (.pair (.int .i64) (.pair (.int .i64) .unit)))))) ⊕ ((Ty.T (.pair (.list (.int .i64)) (.pair (.list (.int .i64)) (.pair (.int .i64) (.pair (.int .i64) .unit))))) ⊕ (Ty.T (.pair (.int .i64) .unit)))) :=
match (decide (x.2.2.2.2.1 < (x.2.1.length : Int))) with
| true =>
 onSome (idx x.2.1 x.2.2.2.2.1) fun v2 =>
 match s_l01In (v2, (-1000 : Int), (1000 : Int), ()) with
 | none => none
 | some v3 =>
 match (!v3.1) with
 | true =>
  some (.inr (.inr ((2 : Int), ())))
 | false =>
  some (.inl (x.1, x.2.1, x.2.2.1, x.2.2.2.1, (IntKind.i64.wrap (x.2.2.2.2.1 + (1 : Int))), ()))
| false =>
 some (.inr (.inl (x.1, x.2.1, x.2.2.1, x.2.2.2.1, ())))
noncomputable def s_l30Code (x : Ty.T (.pair (.list (.int .i64)) (.pair (.list (.int .i64)) (.pair (.int .i64) (.pair (.int .i64) .unit))))) : Option (Ty.T (.pair (.int .i64) .unit)) :=
match s_l30Clocks (x.1, ()) with
| none => none
| some v1 =>
match (!v1.1) with
| true =>
 some ((1 : Int), ())
| false =>
 match loopL b_s_l30Code_4 (x.1, x.2.1, x.2.2.1, x.2.2.2.1, (0 : Int), ()) with
 | none => none
 | some (.inl v4) =>
  match ((v4.2.1.length : Int) != (v4.1.length : Int)) with
  | true =>
   some ((2 : Int), ())
  | false =>
   match s_l01In (v4.2.2.1, (0 : Int), (65535 : Int), ()) with
   | none => none
   | some v6 =>
   match (!v6.1) with
   | true =>
    some ((2 : Int), ())
   | false =>
    match s_l01In (v4.2.2.2.1, (0 : Int), (100 : Int), ()) with
    | none => none
    | some v7 =>
    match (!v7.1) with
    | true =>
     some ((2 : Int), ())
    | false =>
     some ((0 : Int), ())
 | some (.inr v5) =>
  some (v5.1, ())
noncomputable def S_s_l30Code : Spec := ⟨(.pair (.list (.int .i64)) (.pair (.list (.int .i64)) (.pair (.int .i64) (.pair (.int .i64) .unit)))), (.pair (.int .i64) .unit), .unit, rfl, s_l30Code⟩
noncomputable def σ_s_l30Code : FuncId → Option Spec := sig [(40, S_s_l01In), (45, S_s_l30Clocks)]
theorem σok_s_l30Code : ∀ f s, σ_s_l30Code f = some s → FnOK Try.prog f s := sig_ok (l := [(40, S_s_l01In), (45, S_s_l30Clocks)]) ⟨ok_s_l01In, ok_s_l30Clocks, trivial⟩
noncomputable def Λ_s_l30Code : Nat → Option LSpec := lkp (loopList (bodyOf Try.f55)) [⟨[0, 1, 2, 3, 9], (.pair (.list (.int .i64)) (.pair (.list (.int .i64)) (.pair (.int .i64) (.pair (.int .i64) (.pair (.int .i64) .unit))))), 0, [0, 1, 2, 3], (.pair (.list (.int .i64)) (.pair (.list (.int .i64)) (.pair (.int .i64) (.pair (.int .i64) .unit)))), [8], (.pair (.int .i64) .unit), loopL b_s_l30Code_4⟩]
theorem lok_s_l30Code_4 (x) : codeK Γ0 E0 σ_s_l30Code Λ_s_l30Code Try.f55.ntmps (nthLoop Try.f55 0) (mkF Try.f55.ntmps [0, 1, 2, 3, 9] (.pair (.list (.int .i64)) (.pair (.list (.int .i64)) (.pair (.int .i64) (.pair (.int .i64) (.pair (.int .i64) .unit))))) x) (readK σ_s_l30Code Try.f55.ntmps [0, 1, 2, 3, 9] (.pair (.list (.int .i64)) (.pair (.list (.int .i64)) (.pair (.int .i64) (.pair (.int .i64) (.pair (.int .i64) .unit))))) 0 [0, 1, 2, 3] (.pair (.list (.int .i64)) (.pair (.list (.int .i64)) (.pair (.int .i64) (.pair (.int .i64) .unit)))) [8] (.pair (.int .i64) .unit)) = b_s_l30Code_4 x := by kernel_rfl
theorem ok_s_l30Code : FnOK Try.prog 55 S_s_l30Code := fn_ok (Λ := Λ_s_l30Code) tab0 σok_s_l30Code Try.func55 (by kernel_rfl) (show Try.f55.body = some (bodyOf Try.f55) by kernel_rfl) [⟨[0, 1, 2, 3, 9], (.pair (.list (.int .i64)) (.pair (.list (.int .i64)) (.pair (.int .i64) (.pair (.int .i64) (.pair (.int .i64) .unit))))), 0, [0, 1, 2, 3], (.pair (.list (.int .i64)) (.pair (.list (.int .i64)) (.pair (.int .i64) (.pair (.int .i64) .unit)))), [8], (.pair (.int .i64) .unit), loopL b_s_l30Code_4⟩] rfl (by kernel_rfl) (by exact ⟨loop_LOK (lok_s_l30Code_4), trivial⟩) (by kernel_rfl)
  fun x y h => (show execFn Γ0 E0 σ_s_l30Code Λ_s_l30Code Try.f55 S_s_l30Code x = s_l30Code x by kernel_rfl).trans h

noncomputable def s_l01Own (x : Ty.T (.pair (.list (.int .i64)) .unit)) : Option (Ty.T (.pair (.own 2 (.int .i64)) .unit)) :=
room (([] : List (Ty.T (.int .i64))).length + x.1.length) (
 some ((([] : List (Ty.T (.int .i64))) ++ x.1), ()))
noncomputable def S_s_l01Own : Spec := ⟨(.pair (.list (.int .i64)) .unit), (.pair (.own 2 (.int .i64)) .unit), .unit, rfl, s_l01Own⟩
noncomputable def σ_s_l01Own : FuncId → Option Spec := sig []
theorem σok_s_l01Own : ∀ f s, σ_s_l01Own f = some s → FnOK Try.prog f s := sig_ok (l := []) trivial
noncomputable def Λ_s_l01Own : Nat → Option LSpec := lkp (loopList (bodyOf Try.f56)) []
theorem ok_s_l01Own : FnOK Try.prog 56 S_s_l01Own := fn_ok (Λ := Λ_s_l01Own) tab0 σok_s_l01Own Try.func56 (by kernel_rfl) (show Try.f56.body = some (bodyOf Try.f56) by kernel_rfl) [] rfl (by kernel_rfl) (by exact trivial) (by kernel_rfl)
  fun x y h => (show execFn Γ0 E0 σ_s_l01Own Λ_s_l01Own Try.f56 S_s_l01Own x = s_l01Own x by kernel_rfl).trans h

noncomputable def b_s_l30Advance_3 (x : (Ty.T (.pair (.list (.int .i64)) (.pair (.list (.int .i64)) (.pair (.int .i64) (.pair (.own 2 (.int .i64)) (.pair (.int .i64) .unit))))))) : Option ((Ty.T (.pair (.list (.int .i64)) (.pair (.list (.int .i64)) (.pair (.int .i64) (.pair (.own 2 (.int .i64)) (.pair (.int .i64) .unit)))))) ⊕ ((Ty.T (.pair (.own 2 (.int .i64)) .unit)) ⊕ (Ty.T .unit))) :=
match (decide (x.2.2.2.2.1 < (x.1.length : Int))) with
| true =>
 onSome (idx x.1 x.2.2.2.2.1) fun v1 =>
 onSome (idx x.2.1 x.2.2.2.2.1) fun v2 =>
 match s_l30Floor ((IntKind.i64.wrap (x.2.2.1 * v2)), (1000000 : Int), ()) with
 | none => none
 | some v3 =>
 room (x.2.2.2.1.length + [(IntKind.i64.wrap ((IntKind.i64.wrap (v1 + x.2.2.1)) + v3.1))].length) (
  some (.inl (x.1, x.2.1, x.2.2.1, (x.2.2.2.1 ++ [(IntKind.i64.wrap ((IntKind.i64.wrap (v1 + x.2.2.1)) + v3.1))]), (IntKind.i64.wrap (x.2.2.2.2.1 + (1 : Int))), ())))
| false =>
 some (.inr (.inl (x.2.2.2.1, ())))
noncomputable def s_l30Advance (x : Ty.T (.pair (.list (.int .i64)) (.pair (.list (.int .i64)) (.pair (.int .i64) .unit)))) : Option (Ty.T (.pair (.own 2 (.int .i64)) .unit)) :=
match loopL b_s_l30Advance_3 (x.1, x.2.1, x.2.2.1, [], (0 : Int), ()) with
| none => none
| some (.inl v4) =>
 some (v4.1, ())
| some (.inr v6) =>
 none
noncomputable def S_s_l30Advance : Spec := ⟨(.pair (.list (.int .i64)) (.pair (.list (.int .i64)) (.pair (.int .i64) .unit))), (.pair (.own 2 (.int .i64)) .unit), .unit, rfl, s_l30Advance⟩
noncomputable def σ_s_l30Advance : FuncId → Option Spec := sig [(65, S_s_l30Floor)]
theorem σok_s_l30Advance : ∀ f s, σ_s_l30Advance f = some s → FnOK Try.prog f s := sig_ok (l := [(65, S_s_l30Floor)]) ⟨ok_s_l30Floor, trivial⟩
noncomputable def Λ_s_l30Advance : Nat → Option LSpec := lkp (loopList (bodyOf Try.f57)) [⟨[0, 1, 2, 7, 8], (.pair (.list (.int .i64)) (.pair (.list (.int .i64)) (.pair (.int .i64) (.pair (.own 2 (.int .i64)) (.pair (.int .i64) .unit))))), 0, [7], (.pair (.own 2 (.int .i64)) .unit), [], .unit, loopL b_s_l30Advance_3⟩]
theorem lok_s_l30Advance_3 (x) : codeK Γ0 E0 σ_s_l30Advance Λ_s_l30Advance Try.f57.ntmps (nthLoop Try.f57 0) (mkF Try.f57.ntmps [0, 1, 2, 7, 8] (.pair (.list (.int .i64)) (.pair (.list (.int .i64)) (.pair (.int .i64) (.pair (.own 2 (.int .i64)) (.pair (.int .i64) .unit))))) x) (readK σ_s_l30Advance Try.f57.ntmps [0, 1, 2, 7, 8] (.pair (.list (.int .i64)) (.pair (.list (.int .i64)) (.pair (.int .i64) (.pair (.own 2 (.int .i64)) (.pair (.int .i64) .unit))))) 0 [7] (.pair (.own 2 (.int .i64)) .unit) [] .unit) = b_s_l30Advance_3 x := by kernel_rfl
theorem ok_s_l30Advance : FnOK Try.prog 57 S_s_l30Advance := fn_ok (Λ := Λ_s_l30Advance) tab0 σok_s_l30Advance Try.func57 (by kernel_rfl) (show Try.f57.body = some (bodyOf Try.f57) by kernel_rfl) [⟨[0, 1, 2, 7, 8], (.pair (.list (.int .i64)) (.pair (.list (.int .i64)) (.pair (.int .i64) (.pair (.own 2 (.int .i64)) (.pair (.int .i64) .unit))))), 0, [7], (.pair (.own 2 (.int .i64)) .unit), [], .unit, loopL b_s_l30Advance_3⟩] rfl (by kernel_rfl) (by exact ⟨loop_LOK (lok_s_l30Advance_3), trivial⟩) (by kernel_rfl)
  fun x y h => (show execFn Γ0 E0 σ_s_l30Advance Λ_s_l30Advance Try.f57 S_s_l30Advance x = s_l30Advance x by kernel_rfl).trans h

noncomputable def b_s_RunClocks_6 (x : (Ty.T (.pair (.list (.int .i64)) (.pair (.int .i64) (.pair (.int .i64) (.pair (.own 2 (.int .i64)) (.pair (.own 2 (.int .i64)) .unit))))))) : Option ((Ty.T (.pair (.list (.int .i64)) (.pair (.int .i64) (.pair (.int .i64) (.pair (.own 2 (.int .i64)) (.pair (.own 2 (.int .i64)) .unit)))))) ⊕ ((Ty.T (.pair (.own 2 (.int .i64)) .unit)) ⊕ (Ty.T (.pair (.own 2 (.int .i64)) (.pair (.int .i64) .unit))))) :=
match (decide (x.2.2.1 > (0 : Int))) with
| true =>
 match s_l30Advance (x.2.2.2.2.1, x.1, x.2.1, ()) with
 | none => none
 | some v3 =>
 match s_l30All (v3.1, ()) with
 | none => none
 | some v4 =>
 match (!v4.1) with
 | true =>
  some (.inr (.inr ([], (3 : Int), ())))
 | false =>
  match s_l30Correct (v3.1, (-1 : Int), [], ()) with
  | none => none
  | some v5 =>
  match s_l17Ends (v5.1, ()) with
  | none => none
  | some v6 =>
  room (x.2.2.2.1.length + [(IntKind.i64.wrap (v6.2.1 - v6.1))].length) (
   some (.inl (x.1, x.2.1, (IntKind.i64.wrap (x.2.2.1 - (1 : Int))), (x.2.2.2.1 ++ [(IntKind.i64.wrap (v6.2.1 - v6.1))]), v5.1, ())))
| false =>
 some (.inr (.inl (x.2.2.2.1, ())))
noncomputable def s_RunClocks (x : Ty.T (.pair (.list (.int .i64)) (.pair (.list (.int .i64)) (.pair (.int .i64) (.pair (.int .i64) .unit))))) : Option (Ty.T (.pair (.own 2 (.int .i64)) (.pair (.int .i64) .unit))) :=
match s_l30Code (x.1, x.2.1, x.2.2.1, x.2.2.2.1, ()) with
| none => none
| some v1 =>
match (v1.1 != (0 : Int)) with
| true =>
 some ([], v1.1, ())
| false =>
 match s_l01Own (x.1, ()) with
 | none => none
 | some v2 =>
 match loopL b_s_RunClocks_6 (x.2.1, x.2.2.1, x.2.2.2.1, [], v2.1, ()) with
 | none => none
 | some (.inl v7) =>
  some (v7.1, (0 : Int), ())
 | some (.inr v8) =>
  some (v8.1, v8.2.1, ())
noncomputable def S_s_RunClocks : Spec := ⟨(.pair (.list (.int .i64)) (.pair (.list (.int .i64)) (.pair (.int .i64) (.pair (.int .i64) .unit)))), (.pair (.own 2 (.int .i64)) (.pair (.int .i64) .unit)), .unit, rfl, s_RunClocks⟩
noncomputable def σ_s_RunClocks : FuncId → Option Spec := sig [(46, S_s_l30Correct), (49, S_s_l30All), (54, S_s_l17Ends), (55, S_s_l30Code), (56, S_s_l01Own), (57, S_s_l30Advance)]
theorem σok_s_RunClocks : ∀ f s, σ_s_RunClocks f = some s → FnOK Try.prog f s := sig_ok (l := [(46, S_s_l30Correct), (49, S_s_l30All), (54, S_s_l17Ends), (55, S_s_l30Code), (56, S_s_l01Own), (57, S_s_l30Advance)]) ⟨ok_s_l30Correct, ok_s_l30All, ok_s_l17Ends, ok_s_l30Code, ok_s_l01Own, ok_s_l30Advance, trivial⟩
noncomputable def Λ_s_RunClocks : Nat → Option LSpec := lkp (loopList (bodyOf Try.f30)) [⟨[1, 2, 3, 11, 12], (.pair (.list (.int .i64)) (.pair (.int .i64) (.pair (.int .i64) (.pair (.own 2 (.int .i64)) (.pair (.own 2 (.int .i64)) .unit))))), 0, [11], (.pair (.own 2 (.int .i64)) .unit), [8, 9], (.pair (.own 2 (.int .i64)) (.pair (.int .i64) .unit)), loopL b_s_RunClocks_6⟩]
theorem lok_s_RunClocks_6 (x) : codeK Γ0 E0 σ_s_RunClocks Λ_s_RunClocks Try.f30.ntmps (nthLoop Try.f30 0) (mkF Try.f30.ntmps [1, 2, 3, 11, 12] (.pair (.list (.int .i64)) (.pair (.int .i64) (.pair (.int .i64) (.pair (.own 2 (.int .i64)) (.pair (.own 2 (.int .i64)) .unit))))) x) (readK σ_s_RunClocks Try.f30.ntmps [1, 2, 3, 11, 12] (.pair (.list (.int .i64)) (.pair (.int .i64) (.pair (.int .i64) (.pair (.own 2 (.int .i64)) (.pair (.own 2 (.int .i64)) .unit))))) 0 [11] (.pair (.own 2 (.int .i64)) .unit) [8, 9] (.pair (.own 2 (.int .i64)) (.pair (.int .i64) .unit))) = b_s_RunClocks_6 x := by kernel_rfl
theorem ok_s_RunClocks : FnOK Try.prog 30 S_s_RunClocks := fn_ok (Λ := Λ_s_RunClocks) tab0 σok_s_RunClocks Try.func30 (by kernel_rfl) (show Try.f30.body = some (bodyOf Try.f30) by kernel_rfl) [⟨[1, 2, 3, 11, 12], (.pair (.list (.int .i64)) (.pair (.int .i64) (.pair (.int .i64) (.pair (.own 2 (.int .i64)) (.pair (.own 2 (.int .i64)) .unit))))), 0, [11], (.pair (.own 2 (.int .i64)) .unit), [8, 9], (.pair (.own 2 (.int .i64)) (.pair (.int .i64) .unit)), loopL b_s_RunClocks_6⟩] rfl (by kernel_rfl) (by exact ⟨loop_LOK (lok_s_RunClocks_6), trivial⟩) (by kernel_rfl)
  fun x y h => (show execFn Γ0 E0 σ_s_RunClocks Λ_s_RunClocks Try.f30 S_s_RunClocks x = s_RunClocks x by kernel_rfl).trans h

noncomputable def i_clocksCode (x : Ty.T (.pair (.list (.int .i64)) (.pair (.list (.int .i64)) (.pair (.int .i64) (.pair (.int .i64) .unit))))) : Option (Ty.T (.pair (.int .i64) .unit)) :=
match i_areClocks (x.1, ()) with
| none => none
| some v1 =>
match (!v1.1) with
| true =>
 some ((1 : Int), ())
| false =>
 match ((x.2.1.length : Int) != (x.1.length : Int)) with
 | true =>
  some ((2 : Int), ())
 | false =>
  match i_allWithin (x.2.1, (-1000 : Int), (1000 : Int), ()) with
  | none => none
  | some v2 =>
  match (!v2.1) with
  | true =>
   some ((2 : Int), ())
  | false =>
   match i_within (x.2.2.1, (0 : Int), (65535 : Int), ()) with
   | none => none
   | some v3 =>
   match (!v3.1) with
   | true =>
    some ((2 : Int), ())
   | false =>
    match i_within (x.2.2.2.1, (0 : Int), (100 : Int), ()) with
    | none => none
    | some v4 =>
    match (!v4.1) with
    | true =>
     some ((2 : Int), ())
    | false =>
     some ((0 : Int), ())
noncomputable def S_i_clocksCode : Spec := ⟨(.pair (.list (.int .i64)) (.pair (.list (.int .i64)) (.pair (.int .i64) (.pair (.int .i64) .unit)))), (.pair (.int .i64) .unit), .unit, rfl, i_clocksCode⟩
noncomputable def σ_i_clocksCode : FuncId → Option Spec := sig [(38, S_i_allWithin), (42, S_i_within), (47, S_i_areClocks)]
theorem σok_i_clocksCode : ∀ f s, σ_i_clocksCode f = some s → FnOK Try.prog f s := sig_ok (l := [(38, S_i_allWithin), (42, S_i_within), (47, S_i_areClocks)]) ⟨ok_i_allWithin, ok_i_within, ok_i_areClocks, trivial⟩
noncomputable def Λ_i_clocksCode : Nat → Option LSpec := lkp (loopList (bodyOf Try.f58)) []
theorem ok_i_clocksCode : FnOK Try.prog 58 S_i_clocksCode := fn_ok (Λ := Λ_i_clocksCode) tab0 σok_i_clocksCode Try.func58 (by kernel_rfl) (show Try.f58.body = some (bodyOf Try.f58) by kernel_rfl) [] rfl (by kernel_rfl) (by exact trivial) (by kernel_rfl)
  fun x y h => (show execFn Γ0 E0 σ_i_clocksCode Λ_i_clocksCode Try.f58 S_i_clocksCode x = i_clocksCode x by kernel_rfl).trans h

noncomputable def b_i_advance_3 (x : (Ty.T (.pair (.list (.int .i64)) (.pair (.int .i64) (.pair (.own 2 (.int .i64)) (.pair (.list (.int .i64)) (.pair (.int .i64) (.pair (.int .i64) .unit)))))))) : Option ((Ty.T (.pair (.list (.int .i64)) (.pair (.int .i64) (.pair (.own 2 (.int .i64)) (.pair (.list (.int .i64)) (.pair (.int .i64) (.pair (.int .i64) .unit))))))) ⊕ ((Ty.T (.pair (.own 2 (.int .i64)) .unit)) ⊕ (Ty.T .unit))) :=
match (decide (x.2.2.2.2.2.1 < x.2.2.2.2.1)) with
| true =>
 onSome (idx x.2.2.2.1 x.2.2.2.2.2.1) fun v1 =>
 onSome (idx x.1 x.2.2.2.2.2.1) fun v2 =>
 match i_floorDivide ((IntKind.i64.wrap (x.2.1 * v2)), (1000000 : Int), ()) with
 | none => none
 | some v3 =>
 room (x.2.2.1.length + [(IntKind.i64.wrap ((IntKind.i64.wrap (v1 + x.2.1)) + v3.1))].length) (
  some (.inl (x.1, x.2.1, (x.2.2.1 ++ [(IntKind.i64.wrap ((IntKind.i64.wrap (v1 + x.2.1)) + v3.1))]), x.2.2.2.1, x.2.2.2.2.1, (IntKind.i64.wrap (x.2.2.2.2.2.1 + (1 : Int))), ())))
| false =>
 some (.inr (.inl (x.2.2.1, ())))
noncomputable def i_advance (x : Ty.T (.pair (.list (.int .i64)) (.pair (.list (.int .i64)) (.pair (.int .i64) .unit)))) : Option (Ty.T (.pair (.own 2 (.int .i64)) .unit)) :=
match loopL b_i_advance_3 (x.2.1, x.2.2.1, [], x.1, (x.1.length : Int), (0 : Int), ()) with
| none => none
| some (.inl v4) =>
 some (v4.1, ())
| some (.inr v6) =>
 none
noncomputable def S_i_advance : Spec := ⟨(.pair (.list (.int .i64)) (.pair (.list (.int .i64)) (.pair (.int .i64) .unit))), (.pair (.own 2 (.int .i64)) .unit), .unit, rfl, i_advance⟩
noncomputable def σ_i_advance : FuncId → Option Spec := sig [(64, S_i_floorDivide)]
theorem σok_i_advance : ∀ f s, σ_i_advance f = some s → FnOK Try.prog f s := sig_ok (l := [(64, S_i_floorDivide)]) ⟨ok_i_floorDivide, trivial⟩
noncomputable def Λ_i_advance : Nat → Option LSpec := lkp (loopList (bodyOf Try.f59)) [⟨[1, 2, 7, 11, 12, 13], (.pair (.list (.int .i64)) (.pair (.int .i64) (.pair (.own 2 (.int .i64)) (.pair (.list (.int .i64)) (.pair (.int .i64) (.pair (.int .i64) .unit)))))), 0, [7], (.pair (.own 2 (.int .i64)) .unit), [], .unit, loopL b_i_advance_3⟩]
theorem lok_i_advance_3 (x) : codeK Γ0 E0 σ_i_advance Λ_i_advance Try.f59.ntmps (nthLoop Try.f59 0) (mkF Try.f59.ntmps [1, 2, 7, 11, 12, 13] (.pair (.list (.int .i64)) (.pair (.int .i64) (.pair (.own 2 (.int .i64)) (.pair (.list (.int .i64)) (.pair (.int .i64) (.pair (.int .i64) .unit)))))) x) (readK σ_i_advance Try.f59.ntmps [1, 2, 7, 11, 12, 13] (.pair (.list (.int .i64)) (.pair (.int .i64) (.pair (.own 2 (.int .i64)) (.pair (.list (.int .i64)) (.pair (.int .i64) (.pair (.int .i64) .unit)))))) 0 [7] (.pair (.own 2 (.int .i64)) .unit) [] .unit) = b_i_advance_3 x := by kernel_rfl
theorem ok_i_advance : FnOK Try.prog 59 S_i_advance := fn_ok (Λ := Λ_i_advance) tab0 σok_i_advance Try.func59 (by kernel_rfl) (show Try.f59.body = some (bodyOf Try.f59) by kernel_rfl) [⟨[1, 2, 7, 11, 12, 13], (.pair (.list (.int .i64)) (.pair (.int .i64) (.pair (.own 2 (.int .i64)) (.pair (.list (.int .i64)) (.pair (.int .i64) (.pair (.int .i64) .unit)))))), 0, [7], (.pair (.own 2 (.int .i64)) .unit), [], .unit, loopL b_i_advance_3⟩] rfl (by kernel_rfl) (by exact ⟨loop_LOK (lok_i_advance_3), trivial⟩) (by kernel_rfl)
  fun x y h => (show execFn Γ0 E0 σ_i_advance Λ_i_advance Try.f59 S_i_advance x = i_advance x by kernel_rfl).trans h

noncomputable def b_i_RunClocks_6 (x : (Ty.T (.pair (.list (.int .i64)) (.pair (.list (.int .i64)) (.pair (.int .i64) (.pair (.own 2 (.int .i64)) (.pair (.int .i64) (.pair (.int .i64) .unit)))))))) : Option ((Ty.T (.pair (.list (.int .i64)) (.pair (.list (.int .i64)) (.pair (.int .i64) (.pair (.own 2 (.int .i64)) (.pair (.int .i64) (.pair (.int .i64) .unit))))))) ⊕ ((Ty.T (.pair (.own 2 (.int .i64)) .unit)) ⊕ (Ty.T (.pair (.own 2 (.int .i64)) (.pair (.int .i64) .unit))))) :=
match (decide (x.2.2.2.2.2.1 < x.2.2.2.2.1)) with
| true =>
 match i_advance (x.1, x.2.1, x.2.2.1, ()) with
 | none => none
 | some v2 =>
 match slices_Max_int64 (v2.1, ()) with
 | none => none
 | some v3 =>
 match (decide (v3.1 > (1000000000 : Int))) with
 | true =>
  some (.inr (.inr ([], (3 : Int), ())))
 | false =>
  match i_correct (v2.1, ()) with
  | none => none
  | some v4 =>
  match i_spreadOf (v4.1, ()) with
  | none => none
  | some v5 =>
  room (x.2.2.2.1.length + [v5.1].length) (
   some (.inl (v4.1, x.2.1, x.2.2.1, (x.2.2.2.1 ++ [v5.1]), x.2.2.2.2.1, (IntKind.i64.wrap (x.2.2.2.2.2.1 + (1 : Int))), ())))
| false =>
 some (.inr (.inl (x.2.2.2.1, ())))
noncomputable def i_RunClocks (x : Ty.T (.pair (.list (.int .i64)) (.pair (.list (.int .i64)) (.pair (.int .i64) (.pair (.int .i64) .unit))))) : Option (Ty.T (.pair (.own 2 (.int .i64)) (.pair (.int .i64) .unit))) :=
match i_clocksCode (x.1, x.2.1, x.2.2.1, x.2.2.2.1, ()) with
| none => none
| some v1 =>
match (v1.1 != (0 : Int)) with
| true =>
 some ([], v1.1, ())
| false =>
 match loopL b_i_RunClocks_6 (x.1, x.2.1, x.2.2.1, [], x.2.2.2.1, (0 : Int), ()) with
 | none => none
 | some (.inl v6) =>
  some (v6.1, (0 : Int), ())
 | some (.inr v7) =>
  some (v7.1, v7.2.1, ())
noncomputable def S_i_RunClocks : Spec := ⟨(.pair (.list (.int .i64)) (.pair (.list (.int .i64)) (.pair (.int .i64) (.pair (.int .i64) .unit)))), (.pair (.own 2 (.int .i64)) (.pair (.int .i64) .unit)), .unit, rfl, i_RunClocks⟩
noncomputable def σ_i_RunClocks : FuncId → Option Spec := sig [(48, S_i_correct), (53, S_i_spreadOf), (58, S_i_clocksCode), (59, S_i_advance), (60, S_slices_Max_int64)]
theorem σok_i_RunClocks : ∀ f s, σ_i_RunClocks f = some s → FnOK Try.prog f s := sig_ok (l := [(48, S_i_correct), (53, S_i_spreadOf), (58, S_i_clocksCode), (59, S_i_advance), (60, S_slices_Max_int64)]) ⟨ok_i_correct, ok_i_spreadOf, ok_i_clocksCode, ok_i_advance, ok_slices_Max_int64, trivial⟩
noncomputable def Λ_i_RunClocks : Nat → Option LSpec := lkp (loopList (bodyOf Try.f31)) [⟨[0, 1, 2, 11, 21, 22], (.pair (.list (.int .i64)) (.pair (.list (.int .i64)) (.pair (.int .i64) (.pair (.own 2 (.int .i64)) (.pair (.int .i64) (.pair (.int .i64) .unit)))))), 0, [11], (.pair (.own 2 (.int .i64)) .unit), [8, 9], (.pair (.own 2 (.int .i64)) (.pair (.int .i64) .unit)), loopL b_i_RunClocks_6⟩]
theorem lok_i_RunClocks_6 (x) : codeK Γ0 E0 σ_i_RunClocks Λ_i_RunClocks Try.f31.ntmps (nthLoop Try.f31 0) (mkF Try.f31.ntmps [0, 1, 2, 11, 21, 22] (.pair (.list (.int .i64)) (.pair (.list (.int .i64)) (.pair (.int .i64) (.pair (.own 2 (.int .i64)) (.pair (.int .i64) (.pair (.int .i64) .unit)))))) x) (readK σ_i_RunClocks Try.f31.ntmps [0, 1, 2, 11, 21, 22] (.pair (.list (.int .i64)) (.pair (.list (.int .i64)) (.pair (.int .i64) (.pair (.own 2 (.int .i64)) (.pair (.int .i64) (.pair (.int .i64) .unit)))))) 0 [11] (.pair (.own 2 (.int .i64)) .unit) [8, 9] (.pair (.own 2 (.int .i64)) (.pair (.int .i64) .unit))) = b_i_RunClocks_6 x := by kernel_rfl
theorem ok_i_RunClocks : FnOK Try.prog 31 S_i_RunClocks := fn_ok (Λ := Λ_i_RunClocks) tab0 σok_i_RunClocks Try.func31 (by kernel_rfl) (show Try.f31.body = some (bodyOf Try.f31) by kernel_rfl) [⟨[0, 1, 2, 11, 21, 22], (.pair (.list (.int .i64)) (.pair (.list (.int .i64)) (.pair (.int .i64) (.pair (.own 2 (.int .i64)) (.pair (.int .i64) (.pair (.int .i64) .unit)))))), 0, [11], (.pair (.own 2 (.int .i64)) .unit), [8, 9], (.pair (.own 2 (.int .i64)) (.pair (.int .i64) .unit)), loopL b_i_RunClocks_6⟩] rfl (by kernel_rfl) (by exact ⟨loop_LOK (lok_i_RunClocks_6), trivial⟩) (by kernel_rfl)
  fun x y h => (show execFn Γ0 E0 σ_i_RunClocks Λ_i_RunClocks Try.f31 S_i_RunClocks x = i_RunClocks x by kernel_rfl).trans h

noncomputable def l_FnExactRunClocks (x : Ty.T (.pair (.list (.int .i64)) (.pair (.list (.int .i64)) (.pair (.int .i64) (.pair (.int .i64) .unit))))) : Option (Ty.T (.pair .bool .unit)) :=
match (decide ((x.1.length : Int) > (1048576 : Int))) with
| true =>
 some (true, ())
| false =>
 match (decide ((x.2.1.length : Int) > (1048576 : Int))) with
 | true =>
  some (true, ())
 | false =>
  match l_toInt64S (x.1, ()) with
  | none => none
  | some v1 =>
  match l_toInt64S (x.2.1, ()) with
  | none => none
  | some v2 =>
  match s_RunClocks (v1.1, v2.1, x.2.2.1, x.2.2.2.1, ()) with
  | none => none
  | some v3 =>
  match l_toInt64S (x.1, ()) with
  | none => none
  | some v4 =>
  match l_toInt64S (x.2.1, ()) with
  | none => none
  | some v5 =>
  match i_RunClocks (v4.1, v5.1, x.2.2.1, x.2.2.2.1, ()) with
  | none => none
  | some v6 =>
  match l_eqInt64S (v6.1, v3.1, ()) with
  | none => none
  | some v7 =>
  match (!v7.1) with
  | true =>
   some (false, ())
  | false =>
   match (v6.2.1 != v3.2.1) with
   | true =>
    some (false, ())
   | false =>
    match l_toInt64S (x.1, ()) with
    | none => none
    | some v8 =>
    match l_eqInt64S (v4.1, v8.1, ()) with
    | none => none
    | some v9 =>
    match (!v9.1) with
    | true =>
     some (false, ())
    | false =>
     match l_toInt64S (x.2.1, ()) with
     | none => none
     | some v10 =>
     match l_eqInt64S (v5.1, v10.1, ()) with
     | none => none
     | some v11 =>
     match (!v11.1) with
     | true =>
      some (false, ())
     | false =>
      match l_markInt64S (v4.1, (1 : Int), ()) with
      | none => none
      | some v12 =>
      match l_markInt64S (v5.1, v12.1, ()) with
      | none => none
      | some v13 =>
      match (decide (v13.1 < (0 : Int))) with
      | true =>
       some (false, ())
      | false =>
       match l_eqInt64S (v6.1, v3.1, ()) with
       | none => none
       | some v14 =>
       match (!v14.1) with
       | true =>
        some (false, ())
       | false =>
        match (v6.2.1 != v3.2.1) with
        | true =>
         some (false, ())
        | false =>
         match l_markInt64S (v6.1, (1 : Int), ()) with
         | none => none
         | some v15 =>
         match l_heldInt64S (v15.2.1, (1 : Int), ()) with
         | none => none
         | some v16 =>
         match (decide (v16.1 < (0 : Int))) with
         | true =>
          some (false, ())
         | false =>
          match (v16.1 != v15.1) with
          | true =>
           some (false, ())
          | false =>
           match l_toInt64S (x.1, ()) with
           | none => none
           | some v17 =>
           match l_toInt64S (x.2.1, ()) with
           | none => none
           | some v18 =>
           match i_RunClocks (v17.1, v18.1, x.2.2.1, x.2.2.2.1, ()) with
           | none => none
           | some v19 =>
           match l_eqInt64S (v19.1, v3.1, ()) with
           | none => none
           | some v20 =>
           match (!v20.1) with
           | true =>
            some (false, ())
           | false =>
            match (v19.2.1 != v3.2.1) with
            | true =>
             some (false, ())
            | false =>
             match l_heldInt64S (v15.2.1, (1 : Int), ()) with
             | none => none
             | some v21 =>
             match (decide (v21.1 < (0 : Int))) with
             | true =>
              some (false, ())
             | false =>
              match (v21.1 != v15.1) with
              | true =>
               some (false, ())
              | false =>
               some (true, ())
noncomputable def S_l_FnExactRunClocks : Spec := ⟨(.pair (.list (.int .i64)) (.pair (.list (.int .i64)) (.pair (.int .i64) (.pair (.int .i64) .unit)))), (.pair .bool .unit), .unit, rfl, l_FnExactRunClocks⟩
noncomputable def σ_l_FnExactRunClocks : FuncId → Option Spec := sig [(18, S_l_toInt64S), (20, S_l_eqInt64S), (21, S_l_markInt64S), (22, S_l_heldInt64S), (30, S_s_RunClocks), (31, S_i_RunClocks)]
theorem σok_l_FnExactRunClocks : ∀ f s, σ_l_FnExactRunClocks f = some s → FnOK Try.prog f s := sig_ok (l := [(18, S_l_toInt64S), (20, S_l_eqInt64S), (21, S_l_markInt64S), (22, S_l_heldInt64S), (30, S_s_RunClocks), (31, S_i_RunClocks)]) ⟨ok_l_toInt64S, ok_l_eqInt64S, ok_l_markInt64S, ok_l_heldInt64S, ok_s_RunClocks, ok_i_RunClocks, trivial⟩
noncomputable def Λ_l_FnExactRunClocks : Nat → Option LSpec := lkp (loopList (bodyOf Try.f8)) []
theorem ok_l_FnExactRunClocks : FnOK Try.prog 8 S_l_FnExactRunClocks := fn_ok (Λ := Λ_l_FnExactRunClocks) tab0 σok_l_FnExactRunClocks Try.func8 (by kernel_rfl) (show Try.f8.body = some (bodyOf Try.f8) by kernel_rfl) [] rfl (by kernel_rfl) (by exact trivial) (by kernel_rfl)
  fun x y h => (show execFn Γ0 E0 σ_l_FnExactRunClocks Λ_l_FnExactRunClocks Try.f8 S_l_FnExactRunClocks x = l_FnExactRunClocks x by kernel_rfl).trans h

noncomputable def b_s_l30DrawDrifts_2 (x : (Ty.T (.pair (.box Tl01Source) (.pair (.int .i64) (.pair (.own 2 (.int .i64)) .unit))))) : Option ((Ty.T (.pair (.box Tl01Source) (.pair (.int .i64) (.pair (.own 2 (.int .i64)) .unit)))) ⊕ ((Ty.T (.pair (.box Tl01Source) (.pair (.own 2 (.int .i64)) .unit))) ⊕ (Ty.T .unit))) :=
match (decide (x.2.1 > (0 : Int))) with
| true =>
 match s_l01Next ((x.1.1, x.1.2.1, x.1.2.2.1, ()), (401 : Int), ()) with
 | none => none
 | some v1 =>
 room (x.2.2.1.length + [(IntKind.i64.wrap (v1.1 - (200 : Int)))].length) (
  some (.inl ((v1.2.1.1, v1.2.1.2.1, v1.2.1.2.2.1, ()), (IntKind.i64.wrap (x.2.1 - (1 : Int))), (x.2.2.1 ++ [(IntKind.i64.wrap (v1.1 - (200 : Int)))]), ())))
| false =>
 some (.inr (.inl ((x.1.1, x.1.2.1, x.1.2.2.1, ()), x.2.2.1, ())))
noncomputable def s_l30DrawDrifts (x : Ty.T (.pair (.box Tl01Source) (.pair (.int .i64) .unit))) : Option (Ty.T (.pair (.own 2 (.int .i64)) (.pair (.box Tl01Source) .unit))) :=
match loopL b_s_l30DrawDrifts_2 ((x.1.1, x.1.2.1, x.1.2.2.1, ()), x.2.1, [], ()) with
| none => none
| some (.inl v2) =>
 match s_l01Next ((v2.1.1, v2.1.2.1, v2.1.2.2.1, ()), (30 : Int), ()) with
 | none => none
 | some v4 =>
 match (v4.1 == (0 : Int)) with
 | true =>
  room (v2.2.1.length + [(0 : Int)].length) (
   some ((v2.2.1 ++ [(0 : Int)]), (v4.2.1.1, v4.2.1.2.1, v4.2.1.2.2.1, ()), ()))
 | false =>
  match (v4.1 == (1 : Int)) with
  | true =>
   match (decide ((v2.2.1.length : Int) > (0 : Int))) with
   | true =>
    match s_l01Next ((v4.2.1.1, v4.2.1.2.1, v4.2.1.2.2.1, ()), (3 : Int), ()) with
    | none => none
    | some v5 =>
    onSome (idx [(1000 : Int), (1001 : Int), (-1000 : Int)] v5.1) fun _ =>
    match [(1000 : Int), (1001 : Int), (-1000 : Int)][v5.1.toNat]? with
    | none => none
    | some v7 =>
    onSome (idx v2.2.1 (0 : Int)) fun _ =>
    match v2.2.1[(0 : Int).toNat]? with
    | none => none
    | some v9 =>
    some ((v2.2.1.set ((0 : Int).toNat) v7), (v5.2.1.1, v5.2.1.2.1, v5.2.1.2.2.1, ()), ())
   | false =>
    some (v2.2.1, (v4.2.1.1, v4.2.1.2.1, v4.2.1.2.2.1, ()), ())
  | false =>
   some (v2.2.1, (v4.2.1.1, v4.2.1.2.1, v4.2.1.2.2.1, ()), ())
| some (.inr v10) =>
 none
noncomputable def S_s_l30DrawDrifts : Spec := ⟨(.pair (.box Tl01Source) (.pair (.int .i64) .unit)), (.pair (.own 2 (.int .i64)) .unit), (.pair (.box Tl01Source) .unit), rfl, s_l30DrawDrifts⟩
noncomputable def σ_s_l30DrawDrifts : FuncId → Option Spec := sig [(37, S_s_l01Next)]
theorem σok_s_l30DrawDrifts : ∀ f s, σ_s_l30DrawDrifts f = some s → FnOK Try.prog f s := sig_ok (l := [(37, S_s_l01Next)]) ⟨ok_s_l01Next, trivial⟩
noncomputable def Λ_s_l30DrawDrifts : Nat → Option LSpec := lkp (loopList (bodyOf Try.f61)) [⟨[0, 1, 5], (.pair (.box Tl01Source) (.pair (.int .i64) (.pair (.own 2 (.int .i64)) .unit))), 0, [0, 5], (.pair (.box Tl01Source) (.pair (.own 2 (.int .i64)) .unit)), [], .unit, loopL b_s_l30DrawDrifts_2⟩]
theorem lok_s_l30DrawDrifts_2 (x) : codeK Γ0 E0 σ_s_l30DrawDrifts Λ_s_l30DrawDrifts Try.f61.ntmps (nthLoop Try.f61 0) (mkF Try.f61.ntmps [0, 1, 5] (.pair (.box Tl01Source) (.pair (.int .i64) (.pair (.own 2 (.int .i64)) .unit))) x) (readK σ_s_l30DrawDrifts Try.f61.ntmps [0, 1, 5] (.pair (.box Tl01Source) (.pair (.int .i64) (.pair (.own 2 (.int .i64)) .unit))) 0 [0, 5] (.pair (.box Tl01Source) (.pair (.own 2 (.int .i64)) .unit)) [] .unit) = b_s_l30DrawDrifts_2 x := by kernel_rfl
theorem ok_s_l30DrawDrifts : FnOK Try.prog 61 S_s_l30DrawDrifts := fn_ok (Λ := Λ_s_l30DrawDrifts) tab0 σok_s_l30DrawDrifts Try.func61 (by kernel_rfl) (show Try.f61.body = some (bodyOf Try.f61) by kernel_rfl) [⟨[0, 1, 5], (.pair (.box Tl01Source) (.pair (.int .i64) (.pair (.own 2 (.int .i64)) .unit))), 0, [0, 5], (.pair (.box Tl01Source) (.pair (.own 2 (.int .i64)) .unit)), [], .unit, loopL b_s_l30DrawDrifts_2⟩] rfl (by kernel_rfl) (by exact ⟨loop_LOK (lok_s_l30DrawDrifts_2), trivial⟩) (by kernel_rfl)
  fun x y h => (show execFn Γ0 E0 σ_s_l30DrawDrifts Λ_s_l30DrawDrifts Try.f61 S_s_l30DrawDrifts x = s_l30DrawDrifts x by kernel_rfl).trans h

noncomputable def s_l30DrawPeriod (x : Ty.T (.pair (.box Tl01Source) .unit)) : Option (Ty.T (.pair (.int .i64) (.pair (.box Tl01Source) .unit))) :=
match s_l01Next ((x.1.1, x.1.2.1, x.1.2.2.1, ()), (60000 : Int), ()) with
| none => none
| some v1 =>
match s_l01Next ((v1.2.1.1, v1.2.1.2.1, v1.2.1.2.2.1, ()), (9000 : Int), ()) with
| none => none
| some v2 =>
match s_l01Next ((v2.2.1.1, v2.2.1.2.1, v2.2.1.2.2.1, ()), (6 : Int), ()) with
| none => none
| some v3 =>
onSome (idx [v1.1, (10000 : Int), (0 : Int), (65535 : Int), (65536 : Int), v2.1] v3.1) fun _ =>
match [v1.1, (10000 : Int), (0 : Int), (65535 : Int), (65536 : Int), v2.1][v3.1.toNat]? with
| none => none
| some v5 =>
some (v5, (v3.2.1.1, v3.2.1.2.1, v3.2.1.2.2.1, ()), ())
noncomputable def S_s_l30DrawPeriod : Spec := ⟨(.pair (.box Tl01Source) .unit), (.pair (.int .i64) .unit), (.pair (.box Tl01Source) .unit), rfl, s_l30DrawPeriod⟩
noncomputable def σ_s_l30DrawPeriod : FuncId → Option Spec := sig [(37, S_s_l01Next)]
theorem σok_s_l30DrawPeriod : ∀ f s, σ_s_l30DrawPeriod f = some s → FnOK Try.prog f s := sig_ok (l := [(37, S_s_l01Next)]) ⟨ok_s_l01Next, trivial⟩
noncomputable def Λ_s_l30DrawPeriod : Nat → Option LSpec := lkp (loopList (bodyOf Try.f62)) []
theorem ok_s_l30DrawPeriod : FnOK Try.prog 62 S_s_l30DrawPeriod := fn_ok (Λ := Λ_s_l30DrawPeriod) tab0 σok_s_l30DrawPeriod Try.func62 (by kernel_rfl) (show Try.f62.body = some (bodyOf Try.f62) by kernel_rfl) [] rfl (by kernel_rfl) (by exact trivial) (by kernel_rfl)
  fun x y h => (show execFn Γ0 E0 σ_s_l30DrawPeriod Λ_s_l30DrawPeriod Try.f62 S_s_l30DrawPeriod x = s_l30DrawPeriod x by kernel_rfl).trans h

noncomputable def s_DrawAdvanceClocks (x : Ty.T (.pair (.list (.int .u8)) .unit)) : Option (Ty.T (.pair (.own 2 (.int .i64)) (.pair (.own 2 (.int .i64)) (.pair (.int .i64) .unit)))) :=
match s_l01From (x.1, ()) with
| none => none
| some v1 =>
match s_l30Draw ((v1.1.1, v1.1.2.1, v1.1.2.2.1, ()), ()) with
| none => none
| some v2 =>
match s_l30DrawDrifts ((v2.2.1.1, v2.2.1.2.1, v2.2.1.2.2.1, ()), (v2.1.length : Int), ()) with
| none => none
| some v3 =>
match s_l30DrawPeriod ((v3.2.1.1, v3.2.1.2.1, v3.2.1.2.2.1, ()), ()) with
| none => none
| some v4 =>
some (v2.1, v3.1, v4.1, ())
noncomputable def S_s_DrawAdvanceClocks : Spec := ⟨(.pair (.list (.int .u8)) .unit), (.pair (.own 2 (.int .i64)) (.pair (.own 2 (.int .i64)) (.pair (.int .i64) .unit))), .unit, rfl, s_DrawAdvanceClocks⟩
noncomputable def σ_s_DrawAdvanceClocks : FuncId → Option Spec := sig [(36, S_s_l01From), (52, S_s_l30Draw), (61, S_s_l30DrawDrifts), (62, S_s_l30DrawPeriod)]
theorem σok_s_DrawAdvanceClocks : ∀ f s, σ_s_DrawAdvanceClocks f = some s → FnOK Try.prog f s := sig_ok (l := [(36, S_s_l01From), (52, S_s_l30Draw), (61, S_s_l30DrawDrifts), (62, S_s_l30DrawPeriod)]) ⟨ok_s_l01From, ok_s_l30Draw, ok_s_l30DrawDrifts, ok_s_l30DrawPeriod, trivial⟩
noncomputable def Λ_s_DrawAdvanceClocks : Nat → Option LSpec := lkp (loopList (bodyOf Try.f33)) []
theorem ok_s_DrawAdvanceClocks : FnOK Try.prog 33 S_s_DrawAdvanceClocks := fn_ok (Λ := Λ_s_DrawAdvanceClocks) tab0 σok_s_DrawAdvanceClocks Try.func33 (by kernel_rfl) (show Try.f33.body = some (bodyOf Try.f33) by kernel_rfl) [] rfl (by kernel_rfl) (by exact trivial) (by kernel_rfl)
  fun x y h => (show execFn Γ0 E0 σ_s_DrawAdvanceClocks Λ_s_DrawAdvanceClocks Try.f33 S_s_DrawAdvanceClocks x = s_DrawAdvanceClocks x by kernel_rfl).trans h

noncomputable def s_DrawRunClocks (x : Ty.T (.pair (.list (.int .u8)) .unit)) : Option (Ty.T (.pair (.own 2 (.int .i64)) (.pair (.own 2 (.int .i64)) (.pair (.int .i64) (.pair (.int .i64) .unit))))) :=
match s_l01From (x.1, ()) with
| none => none
| some v1 =>
match s_DrawAdvanceClocks (x.1, ()) with
| none => none
| some v2 =>
match s_l01Next ((v1.1.1, v1.1.2.1, v1.1.2.2.1, ()), (6 : Int), ()) with
| none => none
| some v3 =>
match s_l01Next ((v3.2.1.1, v3.2.1.2.1, v3.2.1.2.2.1, ()), (6 : Int), ()) with
| none => none
| some v4 =>
same (
 match s_l01Next ((v4.2.1.1, v4.2.1.2.1, v4.2.1.2.2.1, ()), (5 : Int), ()) with
 | none => none
 | some v5 =>
 onSome (idx [v3.1, v4.1, (100 : Int), (101 : Int), (-1 : Int)] v5.1) fun _ =>
 match [v3.1, v4.1, (100 : Int), (101 : Int), (-1 : Int)][v5.1.toNat]? with
 | none => none
 | some v7 =>
 some (v2.1, v2.2.1, v2.2.2.1, v7, ()))
noncomputable def S_s_DrawRunClocks : Spec := ⟨(.pair (.list (.int .u8)) .unit), (.pair (.own 2 (.int .i64)) (.pair (.own 2 (.int .i64)) (.pair (.int .i64) (.pair (.int .i64) .unit)))), .unit, rfl, s_DrawRunClocks⟩
noncomputable def σ_s_DrawRunClocks : FuncId → Option Spec := sig [(33, S_s_DrawAdvanceClocks), (36, S_s_l01From), (37, S_s_l01Next)]
theorem σok_s_DrawRunClocks : ∀ f s, σ_s_DrawRunClocks f = some s → FnOK Try.prog f s := sig_ok (l := [(33, S_s_DrawAdvanceClocks), (36, S_s_l01From), (37, S_s_l01Next)]) ⟨ok_s_DrawAdvanceClocks, ok_s_l01From, ok_s_l01Next, trivial⟩
noncomputable def Λ_s_DrawRunClocks : Nat → Option LSpec := lkp (loopList (bodyOf Try.f32)) []
theorem ok_s_DrawRunClocks : FnOK Try.prog 32 S_s_DrawRunClocks := fn_ok (Λ := Λ_s_DrawRunClocks) tab0 σok_s_DrawRunClocks Try.func32 (by kernel_rfl) (show Try.f32.body = some (bodyOf Try.f32) by kernel_rfl) [] rfl (by kernel_rfl) (by exact trivial) (by kernel_rfl)
  fun x y h => (show execFn Γ0 E0 σ_s_DrawRunClocks Λ_s_DrawRunClocks Try.f32 S_s_DrawRunClocks x = s_DrawRunClocks x by kernel_rfl).trans h

noncomputable def i_AdvanceClocks (x : Ty.T (.pair (.list (.int .i64)) (.pair (.list (.int .i64)) (.pair (.int .i64) .unit)))) : Option (Ty.T (.pair (.own 2 (.int .i64)) (.pair (.int .i64) .unit))) :=
match i_clocksCode (x.1, x.2.1, x.2.2.1, (0 : Int), ()) with
| none => none
| some v1 =>
match (v1.1 != (0 : Int)) with
| true =>
 some ([], v1.1, ())
| false =>
 match i_advance (x.1, x.2.1, x.2.2.1, ()) with
 | none => none
 | some v2 =>
 match slices_Max_int64 (v2.1, ()) with
 | none => none
 | some v3 =>
 match (decide (v3.1 > (1000000000 : Int))) with
 | true =>
  some ([], (3 : Int), ())
 | false =>
  some (v2.1, (0 : Int), ())
noncomputable def S_i_AdvanceClocks : Spec := ⟨(.pair (.list (.int .i64)) (.pair (.list (.int .i64)) (.pair (.int .i64) .unit))), (.pair (.own 2 (.int .i64)) (.pair (.int .i64) .unit)), .unit, rfl, i_AdvanceClocks⟩
noncomputable def σ_i_AdvanceClocks : FuncId → Option Spec := sig [(58, S_i_clocksCode), (59, S_i_advance), (60, S_slices_Max_int64)]
theorem σok_i_AdvanceClocks : ∀ f s, σ_i_AdvanceClocks f = some s → FnOK Try.prog f s := sig_ok (l := [(58, S_i_clocksCode), (59, S_i_advance), (60, S_slices_Max_int64)]) ⟨ok_i_clocksCode, ok_i_advance, ok_slices_Max_int64, trivial⟩
noncomputable def Λ_i_AdvanceClocks : Nat → Option LSpec := lkp (loopList (bodyOf Try.f34)) []
theorem ok_i_AdvanceClocks : FnOK Try.prog 34 S_i_AdvanceClocks := fn_ok (Λ := Λ_i_AdvanceClocks) tab0 σok_i_AdvanceClocks Try.func34 (by kernel_rfl) (show Try.f34.body = some (bodyOf Try.f34) by kernel_rfl) [] rfl (by kernel_rfl) (by exact trivial) (by kernel_rfl)
  fun x y h => (show execFn Γ0 E0 σ_i_AdvanceClocks Λ_i_AdvanceClocks Try.f34 S_i_AdvanceClocks x = i_AdvanceClocks x by kernel_rfl).trans h

noncomputable def s_AdvanceClocks (x : Ty.T (.pair (.list (.int .i64)) (.pair (.list (.int .i64)) (.pair (.int .i64) .unit)))) : Option (Ty.T (.pair (.own 2 (.int .i64)) (.pair (.int .i64) .unit))) :=
match s_l30Code (x.1, x.2.1, x.2.2.1, (0 : Int), ()) with
| none => none
| some v1 =>
match (v1.1 != (0 : Int)) with
| true =>
 some ([], v1.1, ())
| false =>
 match s_l30Advance (x.1, x.2.1, x.2.2.1, ()) with
 | none => none
 | some v2 =>
 match s_l30All (v2.1, ()) with
 | none => none
 | some v3 =>
 match (!v3.1) with
 | true =>
  some ([], (3 : Int), ())
 | false =>
  some (v2.1, (0 : Int), ())
noncomputable def S_s_AdvanceClocks : Spec := ⟨(.pair (.list (.int .i64)) (.pair (.list (.int .i64)) (.pair (.int .i64) .unit))), (.pair (.own 2 (.int .i64)) (.pair (.int .i64) .unit)), .unit, rfl, s_AdvanceClocks⟩
noncomputable def σ_s_AdvanceClocks : FuncId → Option Spec := sig [(49, S_s_l30All), (55, S_s_l30Code), (57, S_s_l30Advance)]
theorem σok_s_AdvanceClocks : ∀ f s, σ_s_AdvanceClocks f = some s → FnOK Try.prog f s := sig_ok (l := [(49, S_s_l30All), (55, S_s_l30Code), (57, S_s_l30Advance)]) ⟨ok_s_l30All, ok_s_l30Code, ok_s_l30Advance, trivial⟩
noncomputable def Λ_s_AdvanceClocks : Nat → Option LSpec := lkp (loopList (bodyOf Try.f35)) []
theorem ok_s_AdvanceClocks : FnOK Try.prog 35 S_s_AdvanceClocks := fn_ok (Λ := Λ_s_AdvanceClocks) tab0 σok_s_AdvanceClocks Try.func35 (by kernel_rfl) (show Try.f35.body = some (bodyOf Try.f35) by kernel_rfl) [] rfl (by kernel_rfl) (by exact trivial) (by kernel_rfl)
  fun x y h => (show execFn Γ0 E0 σ_s_AdvanceClocks Λ_s_AdvanceClocks Try.f35 S_s_AdvanceClocks x = s_AdvanceClocks x by kernel_rfl).trans h

noncomputable def b_l_FnClockRounds_12 (x : (Ty.T (.pair (.int .i64) (.pair (.own 2 (.int .i64)) (.pair (.int .i64) (.pair (.own 2 (.int .i64)) (.pair (.int .i64) (.pair (.own 2 (.int .i64)) (.pair (.int .i64) (.pair (.int .i64) .unit)))))))))) : Option ((Ty.T (.pair (.int .i64) (.pair (.own 2 (.int .i64)) (.pair (.int .i64) (.pair (.own 2 (.int .i64)) (.pair (.int .i64) (.pair (.own 2 (.int .i64)) (.pair (.int .i64) (.pair (.int .i64) .unit))))))))) ⊕ ((Ty.T (.pair (.int .i64) (.pair (.own 2 (.int .i64)) (.pair (.int .i64) (.pair (.own 2 (.int .i64)) (.pair (.int .i64) (.pair (.own 2 (.int .i64)) (.pair (.int .i64) .unit)))))))) ⊕ (Ty.T (.pair .bool .unit)))) :=
match (decide (x.2.2.2.2.2.2.2.1 < (x.2.1.length : Int))) with
| true =>
 onSome (idx x.2.1 x.2.2.2.2.2.2.2.1) fun _ =>
 match x.2.1[x.2.2.2.2.2.2.2.1.toNat]? with
 | none => none
 | some v11 =>
 match (v11 != (0 : Int)) with
 | true =>
  some (.inr (.inr (false, ())))
 | false =>
  some (.inl (x.1, x.2.1, x.2.2.1, x.2.2.2.1, x.2.2.2.2.1, x.2.2.2.2.2.1, x.2.2.2.2.2.2.1, (IntKind.i64.wrap (x.2.2.2.2.2.2.2.1 + (1 : Int))), ()))
| false =>
 some (.inr (.inl (x.1, x.2.1, x.2.2.1, x.2.2.2.1, x.2.2.2.2.1, x.2.2.2.2.2.1, x.2.2.2.2.2.2.1, ())))
noncomputable def l_FnClockRounds (x : Ty.T (.pair (.list (.int .u8)) .unit)) : Option (Ty.T (.pair .bool .unit)) :=
match l_big (x.1, ()) with
| none => none
| some v1 =>
match v1.1 with
| true =>
 some (true, ())
| false =>
 match s_DrawRunClocks (x.1, ()) with
 | none => none
 | some v2 =>
 match i_RunClocks (v2.1, v2.2.1, v2.2.2.1, v2.2.2.2.1, ()) with
 | none => none
 | some v3 =>
 match s_RunClocks (v2.1, v2.2.1, v2.2.2.1, v2.2.2.2.1, ()) with
 | none => none
 | some v4 =>
 match s_DrawAdvanceClocks (x.1, ()) with
 | none => none
 | some v5 =>
 match i_AdvanceClocks (v5.1, v5.2.1, v5.2.2.1, ()) with
 | none => none
 | some v6 =>
 match s_AdvanceClocks (v5.1, v5.2.1, v5.2.2.1, ()) with
 | none => none
 | some v7 =>
 match (v3.2.1 != v4.2.1) with
 | true =>
  some (false, ())
 | false =>
  match l_likeInts (v3.1, v4.1, ()) with
  | none => none
  | some v8 =>
  match (!v8.1) with
  | true =>
   some (false, ())
  | false =>
   match (v6.2.1 != v7.2.1) with
   | true =>
    some (false, ())
   | false =>
    match l_likeInts (v6.1, v7.1, ()) with
    | none => none
    | some v9 =>
    match (!v9.1) with
    | true =>
     some (false, ())
    | false =>
     match loopL b_l_FnClockRounds_12 (v2.2.2.2.1, v3.1, v3.2.1, v5.1, v5.2.2.1, v6.1, v6.2.1, (0 : Int), ()) with
     | none => none
     | some (.inl v12) =>
      match (v12.2.2.2.2.2.2.1 != (0 : Int)) with
      | true =>
       some (true, ())
      | false =>
       match i_SpreadOf (v12.2.2.2.1, ()) with
       | none => none
       | some v14 =>
       match i_SpreadOf (v12.2.2.2.2.2.1, ()) with
       | none => none
       | some v15 =>
       match (v14.2.1 == (0 : Int)) with
       | true =>
        match (v15.2.1 == (0 : Int)) with
        | true =>
         match (decide (v15.1 ≤ (IntKind.i64.wrap ((IntKind.i64.wrap (v14.1 + (IntKind.i64.wrap (Int.tdiv v12.2.2.2.2.1 (400 : Int))))) + (2 : Int))))) with
         | true =>
          match (v12.2.2.1 != (0 : Int)) with
          | true =>
           some (true, ())
          | false =>
           some (((v12.2.1.length : Int) == v12.1), ())
         | false =>
          some (false, ())
        | false =>
         some (false, ())
       | false =>
        some (false, ())
     | some (.inr v13) =>
      some (v13.1, ())
noncomputable def S_l_FnClockRounds : Spec := ⟨(.pair (.list (.int .u8)) .unit), (.pair .bool .unit), .unit, rfl, l_FnClockRounds⟩
noncomputable def σ_l_FnClockRounds : FuncId → Option Spec := sig [(10, S_l_big), (26, S_l_likeInts), (28, S_i_SpreadOf), (30, S_s_RunClocks), (31, S_i_RunClocks), (32, S_s_DrawRunClocks), (33, S_s_DrawAdvanceClocks), (34, S_i_AdvanceClocks), (35, S_s_AdvanceClocks)]
theorem σok_l_FnClockRounds : ∀ f s, σ_l_FnClockRounds f = some s → FnOK Try.prog f s := sig_ok (l := [(10, S_l_big), (26, S_l_likeInts), (28, S_i_SpreadOf), (30, S_s_RunClocks), (31, S_i_RunClocks), (32, S_s_DrawRunClocks), (33, S_s_DrawAdvanceClocks), (34, S_i_AdvanceClocks), (35, S_s_AdvanceClocks)]) ⟨ok_l_big, ok_l_likeInts, ok_i_SpreadOf, ok_s_RunClocks, ok_i_RunClocks, ok_s_DrawRunClocks, ok_s_DrawAdvanceClocks, ok_i_AdvanceClocks, ok_s_AdvanceClocks, trivial⟩
noncomputable def Λ_l_FnClockRounds : Nat → Option LSpec := lkp (loopList (bodyOf Try.f9)) [⟨[6, 7, 8, 11, 13, 14, 15, 18], (.pair (.int .i64) (.pair (.own 2 (.int .i64)) (.pair (.int .i64) (.pair (.own 2 (.int .i64)) (.pair (.int .i64) (.pair (.own 2 (.int .i64)) (.pair (.int .i64) (.pair (.int .i64) .unit)))))))), 0, [6, 7, 8, 11, 13, 14, 15], (.pair (.int .i64) (.pair (.own 2 (.int .i64)) (.pair (.int .i64) (.pair (.own 2 (.int .i64)) (.pair (.int .i64) (.pair (.own 2 (.int .i64)) (.pair (.int .i64) .unit))))))), [2], (.pair .bool .unit), loopL b_l_FnClockRounds_12⟩]
theorem lok_l_FnClockRounds_12 (x) : codeK Γ0 E0 σ_l_FnClockRounds Λ_l_FnClockRounds Try.f9.ntmps (nthLoop Try.f9 0) (mkF Try.f9.ntmps [6, 7, 8, 11, 13, 14, 15, 18] (.pair (.int .i64) (.pair (.own 2 (.int .i64)) (.pair (.int .i64) (.pair (.own 2 (.int .i64)) (.pair (.int .i64) (.pair (.own 2 (.int .i64)) (.pair (.int .i64) (.pair (.int .i64) .unit)))))))) x) (readK σ_l_FnClockRounds Try.f9.ntmps [6, 7, 8, 11, 13, 14, 15, 18] (.pair (.int .i64) (.pair (.own 2 (.int .i64)) (.pair (.int .i64) (.pair (.own 2 (.int .i64)) (.pair (.int .i64) (.pair (.own 2 (.int .i64)) (.pair (.int .i64) (.pair (.int .i64) .unit)))))))) 0 [6, 7, 8, 11, 13, 14, 15] (.pair (.int .i64) (.pair (.own 2 (.int .i64)) (.pair (.int .i64) (.pair (.own 2 (.int .i64)) (.pair (.int .i64) (.pair (.own 2 (.int .i64)) (.pair (.int .i64) .unit))))))) [2] (.pair .bool .unit)) = b_l_FnClockRounds_12 x := by kernel_rfl
theorem ok_l_FnClockRounds : FnOK Try.prog 9 S_l_FnClockRounds := fn_ok (Λ := Λ_l_FnClockRounds) tab0 σok_l_FnClockRounds Try.func9 (by kernel_rfl) (show Try.f9.body = some (bodyOf Try.f9) by kernel_rfl) [⟨[6, 7, 8, 11, 13, 14, 15, 18], (.pair (.int .i64) (.pair (.own 2 (.int .i64)) (.pair (.int .i64) (.pair (.own 2 (.int .i64)) (.pair (.int .i64) (.pair (.own 2 (.int .i64)) (.pair (.int .i64) (.pair (.int .i64) .unit)))))))), 0, [6, 7, 8, 11, 13, 14, 15], (.pair (.int .i64) (.pair (.own 2 (.int .i64)) (.pair (.int .i64) (.pair (.own 2 (.int .i64)) (.pair (.int .i64) (.pair (.own 2 (.int .i64)) (.pair (.int .i64) .unit))))))), [2], (.pair .bool .unit), loopL b_l_FnClockRounds_12⟩] rfl (by kernel_rfl) (by exact ⟨loop_LOK (lok_l_FnClockRounds_12), trivial⟩) (by kernel_rfl)
  fun x y h => (show execFn Γ0 E0 σ_l_FnClockRounds Λ_l_FnClockRounds Try.f9 S_l_FnClockRounds x = l_FnClockRounds x by kernel_rfl).trans h

end Go.Proofs.Ytoppfeehgkpjkaa
