/- What the functions of the claim do, on data; written by the program gen.py. -/
import Derived.Test.YtmdflpfagbcaiaaGB
namespace Go.Proofs.Ytmdflpfagbcaiaa
open Go.RowKit
set_option linter.unusedVariables false

noncomputable def b_s_l30Mean_9 (x : (Ty.T (.pair (.list (.int .i64)) (.pair (.int .i64) TState)))) : Option ((Ty.T (.pair (.list (.int .i64)) (.pair (.int .i64) TState))) ⊕ ((Ty.T (.pair (.list (.int .i64)) TState)) ⊕ (Ty.T .unit))) :=
match (decide (x.2.2.2.2.2.2.1 < x.2.1)) with
| true =>
 onSome (idx x.1 x.2.2.2.2.2.2.1) fun v2 =>
 onSome (idx x.1 x.2.2.2.2.1) fun v3 =>
 match (decide (v2 < v3)) with
 | true =>
  some (.inl (x.1, x.2.1, x.2.2.1, x.2.2.2.1, x.2.2.2.2.1, (IntKind.i64.wrap (x.2.2.2.2.2.1 + (1 : Int))), (IntKind.i64.wrap (x.2.2.2.2.2.2.1 + (1 : Int))), ()))
 | false =>
  onSome (idx x.1 x.2.2.2.2.2.2.1) fun v4 =>
  onSome (idx x.1 x.2.2.2.2.1) fun v5 =>
  match (v4 == v5) with
  | true =>
   match (decide (x.2.2.2.2.2.2.1 < x.2.2.2.2.1)) with
   | true =>
    some (.inl (x.1, x.2.1, x.2.2.1, x.2.2.2.1, x.2.2.2.2.1, (IntKind.i64.wrap (x.2.2.2.2.2.1 + (1 : Int))), (IntKind.i64.wrap (x.2.2.2.2.2.2.1 + (1 : Int))), ()))
   | false =>
    some (.inl (x.1, x.2.1, x.2.2.1, x.2.2.2.1, x.2.2.2.2.1, x.2.2.2.2.2.1, (IntKind.i64.wrap (x.2.2.2.2.2.2.1 + (1 : Int))), ()))
  | false =>
   some (.inl (x.1, x.2.1, x.2.2.1, x.2.2.2.1, x.2.2.2.2.1, x.2.2.2.2.2.1, (IntKind.i64.wrap (x.2.2.2.2.2.2.1 + (1 : Int))), ()))
| false =>
 some (.inr (.inl (x.1, x.2.1, x.2.2.1, x.2.2.2.1, x.2.2.2.2.1, x.2.2.2.2.2.1, ())))
noncomputable def b_s_l30Mean_5 (x : (Ty.T (.pair (.list (.int .i64)) TStarter))) : Option ((Ty.T (.pair (.list (.int .i64)) TStarter)) ⊕ ((Ty.T (.pair (.int .i64) (.pair (.int .i64) (.pair (.int .i64) .unit)))) ⊕ (Ty.T .unit))) :=
match (decide (x.2.2.2.2.1 < x.2.1)) with
| true =>
 match loopL b_s_l30Mean_9 (x.1, x.2.1, x.2.2.1, x.2.2.2.1, x.2.2.2.2.1, (0 : Int), (0 : Int), ()) with
 | none => none
 | some (.inl v2) =>
  match (decide (v2.2.2.2.2.2.1 ≥ v2.2.2.1)) with
  | true =>
   match (decide (v2.2.2.2.2.2.1 < (IntKind.i64.wrap (v2.2.1 - v2.2.2.1)))) with
   | true =>
    onSome (idx v2.1 v2.2.2.2.2.1) fun v4 =>
    some (.inl (v2.1, v2.2.1, v2.2.2.1, (IntKind.i64.wrap (v2.2.2.2.1 + v4)), (IntKind.i64.wrap (v2.2.2.2.2.1 + (1 : Int))), ()))
   | false =>
    some (.inl (v2.1, v2.2.1, v2.2.2.1, v2.2.2.2.1, (IntKind.i64.wrap (v2.2.2.2.2.1 + (1 : Int))), ()))
  | false =>
   some (.inl (v2.1, v2.2.1, v2.2.2.1, v2.2.2.2.1, (IntKind.i64.wrap (v2.2.2.2.2.1 + (1 : Int))), ()))
 | some (.inr v5) =>
  some (.inr (.inr (())))
| false =>
 some (.inr (.inl (x.2.1, x.2.2.1, x.2.2.2.1, ())))
noncomputable def s_l30Mean (x : Ty.T (.pair (.list (.int .i64)) .unit)) : Option (Ty.T (.pair (.int .i64) .unit)) :=
match s_l30Out ((x.1.length : Int), ()) with
| none => none
| some v1 =>
match loopL b_s_l30Mean_5 (x.1, (x.1.length : Int), v1.1, (0 : Int), (0 : Int), ()) with
| none => none
| some (.inl v6) =>
 match s_l30Floor (v6.2.2.1, (IntKind.i64.wrap (v6.1 - (IntKind.i64.wrap ((2 : Int) * v6.2.1)))), ()) with
 | none => none
 | some v8 =>
 some (v8.1, ())
| some (.inr v9) =>
 none
noncomputable def S_s_l30Mean : Spec := ⟨(.pair (.list (.int .i64)) .unit), (.pair (.int .i64) .unit), .unit, rfl, s_l30Mean⟩
noncomputable def σ_s_l30Mean : FuncId → Option Spec := sig [(141, S_s_l30Out), (142, S_s_l30Floor)]
theorem σok_s_l30Mean : ∀ f s, σ_s_l30Mean f = some s → FnOK Try.prog f s := sig_ok (l := [(141, S_s_l30Out), (142, S_s_l30Floor)]) ⟨ok_s_l30Out, ok_s_l30Floor, trivial⟩
noncomputable def Λ_s_l30Mean : Nat → Option LSpec := lkp (loopList (bodyOf Try.f118)) [⟨[0, 3, 4, 5, 6], (.pair (.list (.int .i64)) TStarter), 0, [3, 4, 5], (.pair (.int .i64) (.pair (.int .i64) (.pair (.int .i64) .unit))), [], .unit, loopL b_s_l30Mean_5⟩, ⟨[0, 3, 4, 5, 6, 7, 8], (.pair (.list (.int .i64)) (.pair (.int .i64) TState)), 2, [0, 3, 4, 5, 6, 7], (.pair (.list (.int .i64)) TState), [], .unit, loopL b_s_l30Mean_9⟩]
theorem lok_s_l30Mean_5 (x) : codeK Γ0 E0 σ_s_l30Mean Λ_s_l30Mean Try.f118.ntmps (nthLoop Try.f118 0) (mkF Try.f118.ntmps [0, 3, 4, 5, 6] (.pair (.list (.int .i64)) TStarter) x) (readK σ_s_l30Mean Try.f118.ntmps [0, 3, 4, 5, 6] (.pair (.list (.int .i64)) TStarter) 0 [3, 4, 5] (.pair (.int .i64) (.pair (.int .i64) (.pair (.int .i64) .unit))) [] .unit) = b_s_l30Mean_5 x := by kernel_rfl
theorem lok_s_l30Mean_9 (x) : codeK Γ0 E0 σ_s_l30Mean Λ_s_l30Mean Try.f118.ntmps (nthLoop Try.f118 1) (mkF Try.f118.ntmps [0, 3, 4, 5, 6, 7, 8] (.pair (.list (.int .i64)) (.pair (.int .i64) TState)) x) (readK σ_s_l30Mean Try.f118.ntmps [0, 3, 4, 5, 6, 7, 8] (.pair (.list (.int .i64)) (.pair (.int .i64) TState)) 2 [0, 3, 4, 5, 6, 7] (.pair (.list (.int .i64)) TState) [] .unit) = b_s_l30Mean_9 x := by kernel_rfl
theorem ok_s_l30Mean : FnOK Try.prog 118 S_s_l30Mean := fn_ok (Λ := Λ_s_l30Mean) tab0 σok_s_l30Mean Try.func118 (by kernel_rfl) (show Try.f118.body = some (bodyOf Try.f118) by kernel_rfl) [⟨[0, 3, 4, 5, 6], (.pair (.list (.int .i64)) TStarter), 0, [3, 4, 5], (.pair (.int .i64) (.pair (.int .i64) (.pair (.int .i64) .unit))), [], .unit, loopL b_s_l30Mean_5⟩, ⟨[0, 3, 4, 5, 6, 7, 8], (.pair (.list (.int .i64)) (.pair (.int .i64) TState)), 2, [0, 3, 4, 5, 6, 7], (.pair (.list (.int .i64)) TState), [], .unit, loopL b_s_l30Mean_9⟩] rfl (by kernel_rfl) (by exact ⟨loop_LOK (lok_s_l30Mean_5), loop_LOK (lok_s_l30Mean_9), trivial⟩) (by kernel_rfl)
  fun x y h => (show execFn Γ0 E0 σ_s_l30Mean Λ_s_l30Mean Try.f118 S_s_l30Mean x = s_l30Mean x by kernel_rfl).trans h

noncomputable def b_s_ToleratedMean_4 (x : (Ty.T (.pair (.list (.int .i64)) (.pair (.int .i64) .unit)))) : Option ((Ty.T (.pair (.list (.int .i64)) (.pair (.int .i64) .unit))) ⊕ ((Ty.T (.pair (.list (.int .i64)) .unit)) ⊕ (Ty.T (.pair (.int .i64) (.pair (.int .i64) .unit))))) :=
match (decide (x.2.1 < (x.1.length : Int))) with
| true =>
 onSome (idx x.1 x.2.1) fun v2 =>
 match s_l01In (v2, (-1000000 : Int), (1000000 : Int), ()) with
 | none => none
 | some v3 =>
 match (!v3.1) with
 | true =>
  some (.inr (.inr ((0 : Int), (2 : Int), ())))
 | false =>
  some (.inl (x.1, (IntKind.i64.wrap (x.2.1 + (1 : Int))), ()))
| false =>
 some (.inr (.inl (x.1, ())))
noncomputable def s_ToleratedMean (x : Ty.T (.pair (.list (.int .i64)) .unit)) : Option (Ty.T (.pair (.int .i64) (.pair (.int .i64) .unit))) :=
match s_l01In ((x.1.length : Int), (1 : Int), (32 : Int), ()) with
| none => none
| some v1 =>
match (!v1.1) with
| true =>
 some ((0 : Int), (3 : Int), ())
| false =>
 match loopL b_s_ToleratedMean_4 (x.1, (0 : Int), ()) with
 | none => none
 | some (.inl v4) =>
  match s_l30Mean (v4.1, ()) with
  | none => none
  | some v6 =>
  some (v6.1, (0 : Int), ())
 | some (.inr v5) =>
  some (v5.1, v5.2.1, ())
noncomputable def S_s_ToleratedMean : Spec := ⟨(.pair (.list (.int .i64)) .unit), (.pair (.int .i64) (.pair (.int .i64) .unit)), .unit, rfl, s_ToleratedMean⟩
noncomputable def σ_s_ToleratedMean : FuncId → Option Spec := sig [(73, S_s_l01In), (118, S_s_l30Mean)]
theorem σok_s_ToleratedMean : ∀ f s, σ_s_ToleratedMean f = some s → FnOK Try.prog f s := sig_ok (l := [(73, S_s_l01In), (118, S_s_l30Mean)]) ⟨ok_s_l01In, ok_s_l30Mean, trivial⟩
noncomputable def Λ_s_ToleratedMean : Nat → Option LSpec := lkp (loopList (bodyOf Try.f70)) [⟨[0, 4], (.pair (.list (.int .i64)) (.pair (.int .i64) .unit)), 0, [0], (.pair (.list (.int .i64)) .unit), [2, 3], (.pair (.int .i64) (.pair (.int .i64) .unit)), loopL b_s_ToleratedMean_4⟩]
theorem lok_s_ToleratedMean_4 (x) : codeK Γ0 E0 σ_s_ToleratedMean Λ_s_ToleratedMean Try.f70.ntmps (nthLoop Try.f70 0) (mkF Try.f70.ntmps [0, 4] (.pair (.list (.int .i64)) (.pair (.int .i64) .unit)) x) (readK σ_s_ToleratedMean Try.f70.ntmps [0, 4] (.pair (.list (.int .i64)) (.pair (.int .i64) .unit)) 0 [0] (.pair (.list (.int .i64)) .unit) [2, 3] (.pair (.int .i64) (.pair (.int .i64) .unit))) = b_s_ToleratedMean_4 x := by kernel_rfl
theorem ok_s_ToleratedMean : FnOK Try.prog 70 S_s_ToleratedMean := fn_ok (Λ := Λ_s_ToleratedMean) tab0 σok_s_ToleratedMean Try.func70 (by kernel_rfl) (show Try.f70.body = some (bodyOf Try.f70) by kernel_rfl) [⟨[0, 4], (.pair (.list (.int .i64)) (.pair (.int .i64) .unit)), 0, [0], (.pair (.list (.int .i64)) .unit), [2, 3], (.pair (.int .i64) (.pair (.int .i64) .unit)), loopL b_s_ToleratedMean_4⟩] rfl (by kernel_rfl) (by exact ⟨loop_LOK (lok_s_ToleratedMean_4), trivial⟩) (by kernel_rfl)
  fun x y h => (show execFn Γ0 E0 σ_s_ToleratedMean Λ_s_ToleratedMean Try.f70 S_s_ToleratedMean x = s_ToleratedMean x by kernel_rfl).trans h

noncomputable def i_leftOut (x : Ty.T (.pair (.int .i64) .unit)) : Option (Ty.T (.pair (.int .i64) .unit)) :=
match (decide (x.1 < (3 : Int))) with
| true =>
 some ((0 : Int), ())
| false =>
 match (decide (x.1 < (8 : Int))) with
 | true =>
  some ((1 : Int), ())
 | false =>
  some ((2 : Int), ())
noncomputable def S_i_leftOut : Spec := ⟨(.pair (.int .i64) .unit), (.pair (.int .i64) .unit), .unit, rfl, i_leftOut⟩
noncomputable def σ_i_leftOut : FuncId → Option Spec := sig []
theorem σok_i_leftOut : ∀ f s, σ_i_leftOut f = some s → FnOK Try.prog f s := sig_ok (l := []) trivial
noncomputable def Λ_i_leftOut : Nat → Option LSpec := lkp (loopList (bodyOf Try.f143)) []
theorem ok_i_leftOut : FnOK Try.prog 143 S_i_leftOut := fn_ok (Λ := Λ_i_leftOut) tab0 σok_i_leftOut Try.func143 (by kernel_rfl) (show Try.f143.body = some (bodyOf Try.f143) by kernel_rfl) [] rfl (by kernel_rfl) (by exact trivial) (by kernel_rfl)
  fun x y h => (show execFn Γ0 E0 σ_i_leftOut Λ_i_leftOut Try.f143 S_i_leftOut x = i_leftOut x by kernel_rfl).trans h

noncomputable def cmp_isNaN_int64 (x : Ty.T (.pair (.int .i64) .unit)) : Option (Ty.T (.pair .bool .unit)) :=
some ((x.1 != x.1), ())
noncomputable def S_cmp_isNaN_int64 : Spec := ⟨(.pair (.int .i64) .unit), (.pair .bool .unit), .unit, rfl, cmp_isNaN_int64⟩
noncomputable def σ_cmp_isNaN_int64 : FuncId → Option Spec := sig []
theorem σok_cmp_isNaN_int64 : ∀ f s, σ_cmp_isNaN_int64 f = some s → FnOK Try.prog f s := sig_ok (l := []) trivial
noncomputable def Λ_cmp_isNaN_int64 : Nat → Option LSpec := lkp (loopList (bodyOf Try.f182)) []
theorem ok_cmp_isNaN_int64 : FnOK Try.prog 182 S_cmp_isNaN_int64 := fn_ok (Λ := Λ_cmp_isNaN_int64) tab0 σok_cmp_isNaN_int64 Try.func182 (by kernel_rfl) (show Try.f182.body = some (bodyOf Try.f182) by kernel_rfl) [] rfl (by kernel_rfl) (by exact trivial) (by kernel_rfl)
  fun x y h => (show execFn Γ0 E0 σ_cmp_isNaN_int64 Λ_cmp_isNaN_int64 Try.f182 S_cmp_isNaN_int64 x = cmp_isNaN_int64 x by kernel_rfl).trans h

noncomputable def cmp_Less_int64 (x : Ty.T (.pair (.int .i64) (.pair (.int .i64) .unit))) : Option (Ty.T (.pair .bool .unit)) :=
match cmp_isNaN_int64 (x.1, ()) with
| none => none
| some v1 =>
match v1.1 with
| true =>
 match cmp_isNaN_int64 (x.2.1, ()) with
 | none => none
 | some v2 =>
 match (!v2.1) with
 | true =>
  some (true, ())
 | false =>
  some ((decide (x.1 < x.2.1)), ())
| false =>
 some ((decide (x.1 < x.2.1)), ())
noncomputable def S_cmp_Less_int64 : Spec := ⟨(.pair (.int .i64) (.pair (.int .i64) .unit)), (.pair .bool .unit), .unit, rfl, cmp_Less_int64⟩
noncomputable def σ_cmp_Less_int64 : FuncId → Option Spec := sig [(182, S_cmp_isNaN_int64)]
theorem σok_cmp_Less_int64 : ∀ f s, σ_cmp_Less_int64 f = some s → FnOK Try.prog f s := sig_ok (l := [(182, S_cmp_isNaN_int64)]) ⟨ok_cmp_isNaN_int64, trivial⟩
noncomputable def Λ_cmp_Less_int64 : Nat → Option LSpec := lkp (loopList (bodyOf Try.f172)) []
theorem ok_cmp_Less_int64 : FnOK Try.prog 172 S_cmp_Less_int64 := fn_ok (Λ := Λ_cmp_Less_int64) tab0 σok_cmp_Less_int64 Try.func172 (by kernel_rfl) (show Try.f172.body = some (bodyOf Try.f172) by kernel_rfl) [] rfl (by kernel_rfl) (by exact trivial) (by kernel_rfl)
  fun x y h => (show execFn Γ0 E0 σ_cmp_Less_int64 Λ_cmp_Less_int64 Try.f172 S_cmp_Less_int64 x = cmp_Less_int64 x by kernel_rfl).trans h

noncomputable def b_slices_insertionSortOrdered_int64_4 (x : (Ty.T (.pair (.own 2 (.int .i64)) TStarter))) : Option ((Ty.T (.pair (.own 2 (.int .i64)) TStarter)) ⊕ ((Ty.T (.pair (.own 2 (.int .i64)) (.pair (.int .i64) (.pair (.int .i64) (.pair (.int .i64) .unit))))) ⊕ (Ty.T .unit))) :=
match (decide (x.2.2.2.2.1 > x.2.1)) with
| true =>
 onSome (idx x.1 x.2.2.2.2.1) fun _ =>
 match x.1[x.2.2.2.2.1.toNat]? with
 | none => none
 | some v2 =>
 onSome (idx x.1 (IntKind.i64.wrap (x.2.2.2.2.1 - (1 : Int)))) fun _ =>
 match x.1[(IntKind.i64.wrap (x.2.2.2.2.1 - (1 : Int))).toNat]? with
 | none => none
 | some v4 =>
 match cmp_Less_int64 (v2, v4, ()) with
 | none => none
 | some v5 =>
 match v5.1 with
 | true =>
  onSome (idx x.1 (IntKind.i64.wrap (x.2.2.2.2.1 - (1 : Int)))) fun _ =>
  onSome (idx x.1 x.2.2.2.2.1) fun _ =>
  both (
   match x.1[(IntKind.i64.wrap (x.2.2.2.2.1 - (1 : Int))).toNat]? with
   | none => none
   | some v8 =>
   match x.1[x.2.2.2.2.1.toNat]? with
   | none => none
   | some v9 =>
   onSome (idx x.1 x.2.2.2.2.1) fun _ =>
   match x.1[x.2.2.2.2.1.toNat]? with
   | none => none
   | some v11 =>
   onSome (idx (x.1.set x.2.2.2.2.1.toNat v8) (IntKind.i64.wrap (x.2.2.2.2.1 - (1 : Int)))) fun _ =>
   match (x.1.set x.2.2.2.2.1.toNat v8)[(IntKind.i64.wrap (x.2.2.2.2.1 - (1 : Int))).toNat]? with
   | none => none
   | some v13 =>
   some (.inl (((x.1.set x.2.2.2.2.1.toNat v8).set ((IntKind.i64.wrap (x.2.2.2.2.1 - (1 : Int))).toNat) v9), x.2.1, x.2.2.1, x.2.2.2.1, (IntKind.i64.wrap (x.2.2.2.2.1 - (1 : Int))), ()))) (
   match x.1[x.2.2.2.2.1.toNat]? with
   | none => none
   | some v8 =>
   match x.1[(IntKind.i64.wrap (x.2.2.2.2.1 - (1 : Int))).toNat]? with
   | none => none
   | some v9 =>
   onSome (idx x.1 x.2.2.2.2.1) fun _ =>
   match x.1[x.2.2.2.2.1.toNat]? with
   | none => none
   | some v11 =>
   onSome (idx (x.1.set x.2.2.2.2.1.toNat v9) (IntKind.i64.wrap (x.2.2.2.2.1 - (1 : Int)))) fun _ =>
   match (x.1.set x.2.2.2.2.1.toNat v9)[(IntKind.i64.wrap (x.2.2.2.2.1 - (1 : Int))).toNat]? with
   | none => none
   | some v13 =>
   some (.inl (((x.1.set x.2.2.2.2.1.toNat v9).set ((IntKind.i64.wrap (x.2.2.2.2.1 - (1 : Int))).toNat) v8), x.2.1, x.2.2.1, x.2.2.2.1, (IntKind.i64.wrap (x.2.2.2.2.1 - (1 : Int))), ())))
 | false =>
  some (.inr (.inl (x.1, x.2.1, x.2.2.1, x.2.2.2.1, ())))
| false =>
 some (.inr (.inl (x.1, x.2.1, x.2.2.1, x.2.2.2.1, ())))
noncomputable def b_slices_insertionSortOrdered_int64_1 (x : (Ty.T (.pair (.own 2 (.int .i64)) (.pair (.int .i64) (.pair (.int .i64) (.pair (.int .i64) .unit)))))) : Option ((Ty.T (.pair (.own 2 (.int .i64)) (.pair (.int .i64) (.pair (.int .i64) (.pair (.int .i64) .unit))))) ⊕ ((Ty.T (.pair (.own 2 (.int .i64)) .unit)) ⊕ (Ty.T .unit))) :=
match (decide (x.2.2.2.1 < x.2.2.1)) with
| true =>
 match loopL b_slices_insertionSortOrdered_int64_4 (x.1, x.2.1, x.2.2.1, x.2.2.2.1, x.2.2.2.1, ()) with
 | none => none
 | some (.inl v1) =>
  some (.inl (v1.1, v1.2.1, v1.2.2.1, (IntKind.i64.wrap (v1.2.2.2.1 + (1 : Int))), ()))
 | some (.inr v3) =>
  some (.inr (.inr (())))
| false =>
 some (.inr (.inl (x.1, ())))
noncomputable def slices_insertionSortOrdered_int64 (x : Ty.T (.pair (.own 2 (.int .i64)) (.pair (.int .i64) (.pair (.int .i64) .unit)))) : Option (Ty.T (.pair (.own 2 (.int .i64)) .unit)) :=
match loopL b_slices_insertionSortOrdered_int64_1 (x.1, x.2.1, x.2.2.1, (IntKind.i64.wrap (x.2.1 + (1 : Int))), ()) with
| none => none
| some (.inl v4) =>
 some (v4.1, ())
| some (.inr v6) =>
 none
noncomputable def S_slices_insertionSortOrdered_int64 : Spec := ⟨(.pair (.own 2 (.int .i64)) (.pair (.int .i64) (.pair (.int .i64) .unit))), .unit, (.pair (.own 2 (.int .i64)) .unit), rfl, slices_insertionSortOrdered_int64⟩
noncomputable def σ_slices_insertionSortOrdered_int64 : FuncId → Option Spec := sig [(172, S_cmp_Less_int64)]
theorem σok_slices_insertionSortOrdered_int64 : ∀ f s, σ_slices_insertionSortOrdered_int64 f = some s → FnOK Try.prog f s := sig_ok (l := [(172, S_cmp_Less_int64)]) ⟨ok_cmp_Less_int64, trivial⟩
noncomputable def Λ_slices_insertionSortOrdered_int64 : Nat → Option LSpec := lkp (loopList (bodyOf Try.f166)) [⟨[0, 1, 2, 6], (.pair (.own 2 (.int .i64)) (.pair (.int .i64) (.pair (.int .i64) (.pair (.int .i64) .unit)))), 0, [0], (.pair (.own 2 (.int .i64)) .unit), [], .unit, loopL b_slices_insertionSortOrdered_int64_1⟩, ⟨[0, 1, 2, 6, 7], (.pair (.own 2 (.int .i64)) TStarter), 2, [0, 1, 2, 6], (.pair (.own 2 (.int .i64)) (.pair (.int .i64) (.pair (.int .i64) (.pair (.int .i64) .unit)))), [], .unit, loopL b_slices_insertionSortOrdered_int64_4⟩]
theorem lok_slices_insertionSortOrdered_int64_1 (x) : codeK Γ0 E0 σ_slices_insertionSortOrdered_int64 Λ_slices_insertionSortOrdered_int64 Try.f166.ntmps (nthLoop Try.f166 0) (mkF Try.f166.ntmps [0, 1, 2, 6] (.pair (.own 2 (.int .i64)) (.pair (.int .i64) (.pair (.int .i64) (.pair (.int .i64) .unit)))) x) (readK σ_slices_insertionSortOrdered_int64 Try.f166.ntmps [0, 1, 2, 6] (.pair (.own 2 (.int .i64)) (.pair (.int .i64) (.pair (.int .i64) (.pair (.int .i64) .unit)))) 0 [0] (.pair (.own 2 (.int .i64)) .unit) [] .unit) = b_slices_insertionSortOrdered_int64_1 x := by kernel_rfl
theorem lok_slices_insertionSortOrdered_int64_4 (x) : codeK Γ0 E0 σ_slices_insertionSortOrdered_int64 Λ_slices_insertionSortOrdered_int64 Try.f166.ntmps (nthLoop Try.f166 1) (mkF Try.f166.ntmps [0, 1, 2, 6, 7] (.pair (.own 2 (.int .i64)) TStarter) x) (readK σ_slices_insertionSortOrdered_int64 Try.f166.ntmps [0, 1, 2, 6, 7] (.pair (.own 2 (.int .i64)) TStarter) 2 [0, 1, 2, 6] (.pair (.own 2 (.int .i64)) (.pair (.int .i64) (.pair (.int .i64) (.pair (.int .i64) .unit)))) [] .unit) = b_slices_insertionSortOrdered_int64_4 x := by kernel_rfl
theorem ok_slices_insertionSortOrdered_int64 : FnOK Try.prog 166 S_slices_insertionSortOrdered_int64 := fn_ok (Λ := Λ_slices_insertionSortOrdered_int64) tab0 σok_slices_insertionSortOrdered_int64 Try.func166 (by kernel_rfl) (show Try.f166.body = some (bodyOf Try.f166) by kernel_rfl) [⟨[0, 1, 2, 6], (.pair (.own 2 (.int .i64)) (.pair (.int .i64) (.pair (.int .i64) (.pair (.int .i64) .unit)))), 0, [0], (.pair (.own 2 (.int .i64)) .unit), [], .unit, loopL b_slices_insertionSortOrdered_int64_1⟩, ⟨[0, 1, 2, 6, 7], (.pair (.own 2 (.int .i64)) TStarter), 2, [0, 1, 2, 6], (.pair (.own 2 (.int .i64)) (.pair (.int .i64) (.pair (.int .i64) (.pair (.int .i64) .unit)))), [], .unit, loopL b_slices_insertionSortOrdered_int64_4⟩] rfl (by kernel_rfl) (by exact ⟨loop_LOK (lok_slices_insertionSortOrdered_int64_1), loop_LOK (lok_slices_insertionSortOrdered_int64_4), trivial⟩) (by kernel_rfl)
  fun x y h => (show execFn Γ0 E0 σ_slices_insertionSortOrdered_int64 Λ_slices_insertionSortOrdered_int64 Try.f166 S_slices_insertionSortOrdered_int64 x = slices_insertionSortOrdered_int64 x by kernel_rfl).trans h

noncomputable def b_slices_siftDownOrdered_int64_1 (x : (Ty.T (.pair (.own 2 (.int .i64)) (.pair (.int .i64) (.pair (.int .i64) (.pair (.int .i64) .unit)))))) : Option ((Ty.T (.pair (.own 2 (.int .i64)) (.pair (.int .i64) (.pair (.int .i64) (.pair (.int .i64) .unit))))) ⊕ ((Ty.T (.pair (.own 2 (.int .i64)) .unit)) ⊕ (Ty.T (.pair (.own 2 (.int .i64)) .unit)))) :=
match (decide ((IntKind.i64.wrap ((IntKind.i64.wrap ((2 : Int) * x.2.2.2.1)) + (1 : Int))) ≥ x.2.1)) with
| true =>
 some (.inr (.inl (x.1, ())))
| false =>
 match (decide ((IntKind.i64.wrap ((IntKind.i64.wrap ((IntKind.i64.wrap ((2 : Int) * x.2.2.2.1)) + (1 : Int))) + (1 : Int))) < x.2.1)) with
 | true =>
  onSome (idx x.1 (IntKind.i64.wrap (x.2.2.1 + (IntKind.i64.wrap ((IntKind.i64.wrap ((2 : Int) * x.2.2.2.1)) + (1 : Int)))))) fun _ =>
  match x.1[(IntKind.i64.wrap (x.2.2.1 + (IntKind.i64.wrap ((IntKind.i64.wrap ((2 : Int) * x.2.2.2.1)) + (1 : Int))))).toNat]? with
  | none => none
  | some v2 =>
  onSome (idx x.1 (IntKind.i64.wrap ((IntKind.i64.wrap (x.2.2.1 + (IntKind.i64.wrap ((IntKind.i64.wrap ((2 : Int) * x.2.2.2.1)) + (1 : Int))))) + (1 : Int)))) fun _ =>
  match x.1[(IntKind.i64.wrap ((IntKind.i64.wrap (x.2.2.1 + (IntKind.i64.wrap ((IntKind.i64.wrap ((2 : Int) * x.2.2.2.1)) + (1 : Int))))) + (1 : Int))).toNat]? with
  | none => none
  | some v4 =>
  match cmp_Less_int64 (v2, v4, ()) with
  | none => none
  | some v5 =>
  match v5.1 with
  | true =>
   onSome (idx x.1 (IntKind.i64.wrap (x.2.2.1 + x.2.2.2.1))) fun _ =>
   match x.1[(IntKind.i64.wrap (x.2.2.1 + x.2.2.2.1)).toNat]? with
   | none => none
   | some v7 =>
   onSome (idx x.1 (IntKind.i64.wrap (x.2.2.1 + (IntKind.i64.wrap ((IntKind.i64.wrap ((IntKind.i64.wrap ((2 : Int) * x.2.2.2.1)) + (1 : Int))) + (1 : Int)))))) fun _ =>
   match x.1[(IntKind.i64.wrap (x.2.2.1 + (IntKind.i64.wrap ((IntKind.i64.wrap ((IntKind.i64.wrap ((2 : Int) * x.2.2.2.1)) + (1 : Int))) + (1 : Int))))).toNat]? with
   | none => none
   | some v9 =>
   match cmp_Less_int64 (v7, v9, ()) with
   | none => none
   | some v10 =>
   match (!v10.1) with
   | true =>
    some (.inr (.inr (x.1, ())))
   | false =>
    onSome (idx x.1 (IntKind.i64.wrap (x.2.2.1 + (IntKind.i64.wrap ((IntKind.i64.wrap ((IntKind.i64.wrap ((2 : Int) * x.2.2.2.1)) + (1 : Int))) + (1 : Int)))))) fun _ =>
    onSome (idx x.1 (IntKind.i64.wrap (x.2.2.1 + x.2.2.2.1))) fun _ =>
    both (
     match x.1[(IntKind.i64.wrap (x.2.2.1 + (IntKind.i64.wrap ((IntKind.i64.wrap ((IntKind.i64.wrap ((2 : Int) * x.2.2.2.1)) + (1 : Int))) + (1 : Int))))).toNat]? with
     | none => none
     | some v13 =>
     match x.1[(IntKind.i64.wrap (x.2.2.1 + x.2.2.2.1)).toNat]? with
     | none => none
     | some v14 =>
     onSome (idx x.1 (IntKind.i64.wrap (x.2.2.1 + x.2.2.2.1))) fun _ =>
     match x.1[(IntKind.i64.wrap (x.2.2.1 + x.2.2.2.1)).toNat]? with
     | none => none
     | some v16 =>
     onSome (idx (x.1.set ((IntKind.i64.wrap (x.2.2.1 + x.2.2.2.1)).toNat) v13) (IntKind.i64.wrap (x.2.2.1 + (IntKind.i64.wrap ((IntKind.i64.wrap ((IntKind.i64.wrap ((2 : Int) * x.2.2.2.1)) + (1 : Int))) + (1 : Int)))))) fun _ =>
     match (x.1.set ((IntKind.i64.wrap (x.2.2.1 + x.2.2.2.1)).toNat) v13)[(IntKind.i64.wrap (x.2.2.1 + (IntKind.i64.wrap ((IntKind.i64.wrap ((IntKind.i64.wrap ((2 : Int) * x.2.2.2.1)) + (1 : Int))) + (1 : Int))))).toNat]? with
     | none => none
     | some v18 =>
     some (.inl (((x.1.set ((IntKind.i64.wrap (x.2.2.1 + x.2.2.2.1)).toNat) v13).set ((IntKind.i64.wrap (x.2.2.1 + (IntKind.i64.wrap ((IntKind.i64.wrap ((IntKind.i64.wrap ((2 : Int) * x.2.2.2.1)) + (1 : Int))) + (1 : Int))))).toNat) v14), x.2.1, x.2.2.1, (IntKind.i64.wrap ((IntKind.i64.wrap ((IntKind.i64.wrap ((2 : Int) * x.2.2.2.1)) + (1 : Int))) + (1 : Int))), ()))) (
     match x.1[(IntKind.i64.wrap (x.2.2.1 + x.2.2.2.1)).toNat]? with
     | none => none
     | some v13 =>
     match x.1[(IntKind.i64.wrap (x.2.2.1 + (IntKind.i64.wrap ((IntKind.i64.wrap ((IntKind.i64.wrap ((2 : Int) * x.2.2.2.1)) + (1 : Int))) + (1 : Int))))).toNat]? with
     | none => none
     | some v14 =>
     onSome (idx x.1 (IntKind.i64.wrap (x.2.2.1 + x.2.2.2.1))) fun _ =>
     match x.1[(IntKind.i64.wrap (x.2.2.1 + x.2.2.2.1)).toNat]? with
     | none => none
     | some v16 =>
     onSome (idx (x.1.set ((IntKind.i64.wrap (x.2.2.1 + x.2.2.2.1)).toNat) v14) (IntKind.i64.wrap (x.2.2.1 + (IntKind.i64.wrap ((IntKind.i64.wrap ((IntKind.i64.wrap ((2 : Int) * x.2.2.2.1)) + (1 : Int))) + (1 : Int)))))) fun _ =>
     match (x.1.set ((IntKind.i64.wrap (x.2.2.1 + x.2.2.2.1)).toNat) v14)[(IntKind.i64.wrap (x.2.2.1 + (IntKind.i64.wrap ((IntKind.i64.wrap ((IntKind.i64.wrap ((2 : Int) * x.2.2.2.1)) + (1 : Int))) + (1 : Int))))).toNat]? with
     | none => none
     | some v18 =>
     some (.inl (((x.1.set ((IntKind.i64.wrap (x.2.2.1 + x.2.2.2.1)).toNat) v14).set ((IntKind.i64.wrap (x.2.2.1 + (IntKind.i64.wrap ((IntKind.i64.wrap ((IntKind.i64.wrap ((2 : Int) * x.2.2.2.1)) + (1 : Int))) + (1 : Int))))).toNat) v13), x.2.1, x.2.2.1, (IntKind.i64.wrap ((IntKind.i64.wrap ((IntKind.i64.wrap ((2 : Int) * x.2.2.2.1)) + (1 : Int))) + (1 : Int))), ())))
  | false =>
   onSome (idx x.1 (IntKind.i64.wrap (x.2.2.1 + x.2.2.2.1))) fun _ =>
   match x.1[(IntKind.i64.wrap (x.2.2.1 + x.2.2.2.1)).toNat]? with
   | none => none
   | some v20 =>
   onSome (idx x.1 (IntKind.i64.wrap (x.2.2.1 + (IntKind.i64.wrap ((IntKind.i64.wrap ((2 : Int) * x.2.2.2.1)) + (1 : Int)))))) fun _ =>
   match x.1[(IntKind.i64.wrap (x.2.2.1 + (IntKind.i64.wrap ((IntKind.i64.wrap ((2 : Int) * x.2.2.2.1)) + (1 : Int))))).toNat]? with
   | none => none
   | some v22 =>
   match cmp_Less_int64 (v20, v22, ()) with
   | none => none
   | some v23 =>
   match (!v23.1) with
   | true =>
    some (.inr (.inr (x.1, ())))
   | false =>
    onSome (idx x.1 (IntKind.i64.wrap (x.2.2.1 + (IntKind.i64.wrap ((IntKind.i64.wrap ((2 : Int) * x.2.2.2.1)) + (1 : Int)))))) fun _ =>
    onSome (idx x.1 (IntKind.i64.wrap (x.2.2.1 + x.2.2.2.1))) fun _ =>
    both (
     match x.1[(IntKind.i64.wrap (x.2.2.1 + (IntKind.i64.wrap ((IntKind.i64.wrap ((2 : Int) * x.2.2.2.1)) + (1 : Int))))).toNat]? with
     | none => none
     | some v26 =>
     match x.1[(IntKind.i64.wrap (x.2.2.1 + x.2.2.2.1)).toNat]? with
     | none => none
     | some v27 =>
     onSome (idx x.1 (IntKind.i64.wrap (x.2.2.1 + x.2.2.2.1))) fun _ =>
     match x.1[(IntKind.i64.wrap (x.2.2.1 + x.2.2.2.1)).toNat]? with
     | none => none
     | some v29 =>
     onSome (idx (x.1.set ((IntKind.i64.wrap (x.2.2.1 + x.2.2.2.1)).toNat) v26) (IntKind.i64.wrap (x.2.2.1 + (IntKind.i64.wrap ((IntKind.i64.wrap ((2 : Int) * x.2.2.2.1)) + (1 : Int)))))) fun _ =>
     match (x.1.set ((IntKind.i64.wrap (x.2.2.1 + x.2.2.2.1)).toNat) v26)[(IntKind.i64.wrap (x.2.2.1 + (IntKind.i64.wrap ((IntKind.i64.wrap ((2 : Int) * x.2.2.2.1)) + (1 : Int))))).toNat]? with
     | none => none
     | some v31 =>
     some (.inl (((x.1.set ((IntKind.i64.wrap (x.2.2.1 + x.2.2.2.1)).toNat) v26).set ((IntKind.i64.wrap (x.2.2.1 + (IntKind.i64.wrap ((IntKind.i64.wrap ((2 : Int) * x.2.2.2.1)) + (1 : Int))))).toNat) v27), x.2.1, x.2.2.1, (IntKind.i64.wrap ((IntKind.i64.wrap ((2 : Int) * x.2.2.2.1)) + (1 : Int))), ()))) (
     match x.1[(IntKind.i64.wrap (x.2.2.1 + x.2.2.2.1)).toNat]? with
     | none => none
     | some v26 =>
     match x.1[(IntKind.i64.wrap (x.2.2.1 + (IntKind.i64.wrap ((IntKind.i64.wrap ((2 : Int) * x.2.2.2.1)) + (1 : Int))))).toNat]? with
     | none => none
     | some v27 =>
     onSome (idx x.1 (IntKind.i64.wrap (x.2.2.1 + x.2.2.2.1))) fun _ =>
     match x.1[(IntKind.i64.wrap (x.2.2.1 + x.2.2.2.1)).toNat]? with
     | none => none
     | some v29 =>
     onSome (idx (x.1.set ((IntKind.i64.wrap (x.2.2.1 + x.2.2.2.1)).toNat) v27) (IntKind.i64.wrap (x.2.2.1 + (IntKind.i64.wrap ((IntKind.i64.wrap ((2 : Int) * x.2.2.2.1)) + (1 : Int)))))) fun _ =>
     match (x.1.set ((IntKind.i64.wrap (x.2.2.1 + x.2.2.2.1)).toNat) v27)[(IntKind.i64.wrap (x.2.2.1 + (IntKind.i64.wrap ((IntKind.i64.wrap ((2 : Int) * x.2.2.2.1)) + (1 : Int))))).toNat]? with
     | none => none
     | some v31 =>
     some (.inl (((x.1.set ((IntKind.i64.wrap (x.2.2.1 + x.2.2.2.1)).toNat) v27).set ((IntKind.i64.wrap (x.2.2.1 + (IntKind.i64.wrap ((IntKind.i64.wrap ((2 : Int) * x.2.2.2.1)) + (1 : Int))))).toNat) v26), x.2.1, x.2.2.1, (IntKind.i64.wrap ((IntKind.i64.wrap ((2 : Int) * x.2.2.2.1)) + (1 : Int))), ())))
 | false =>
  onSome (idx x.1 (IntKind.i64.wrap (x.2.2.1 + x.2.2.2.1))) fun _ =>
  match x.1[(IntKind.i64.wrap (x.2.2.1 + x.2.2.2.1)).toNat]? with
  | none => none
  | some v33 =>
  onSome (idx x.1 (IntKind.i64.wrap (x.2.2.1 + (IntKind.i64.wrap ((IntKind.i64.wrap ((2 : Int) * x.2.2.2.1)) + (1 : Int)))))) fun _ =>
  match x.1[(IntKind.i64.wrap (x.2.2.1 + (IntKind.i64.wrap ((IntKind.i64.wrap ((2 : Int) * x.2.2.2.1)) + (1 : Int))))).toNat]? with
  | none => none
  | some v35 =>
  match cmp_Less_int64 (v33, v35, ()) with
  | none => none
  | some v36 =>
  match (!v36.1) with
  | true =>
   some (.inr (.inr (x.1, ())))
  | false =>
   onSome (idx x.1 (IntKind.i64.wrap (x.2.2.1 + (IntKind.i64.wrap ((IntKind.i64.wrap ((2 : Int) * x.2.2.2.1)) + (1 : Int)))))) fun _ =>
   onSome (idx x.1 (IntKind.i64.wrap (x.2.2.1 + x.2.2.2.1))) fun _ =>
   both (
    match x.1[(IntKind.i64.wrap (x.2.2.1 + (IntKind.i64.wrap ((IntKind.i64.wrap ((2 : Int) * x.2.2.2.1)) + (1 : Int))))).toNat]? with
    | none => none
    | some v39 =>
    match x.1[(IntKind.i64.wrap (x.2.2.1 + x.2.2.2.1)).toNat]? with
    | none => none
    | some v40 =>
    onSome (idx x.1 (IntKind.i64.wrap (x.2.2.1 + x.2.2.2.1))) fun _ =>
    match x.1[(IntKind.i64.wrap (x.2.2.1 + x.2.2.2.1)).toNat]? with
    | none => none
    | some v42 =>
    onSome (idx (x.1.set ((IntKind.i64.wrap (x.2.2.1 + x.2.2.2.1)).toNat) v39) (IntKind.i64.wrap (x.2.2.1 + (IntKind.i64.wrap ((IntKind.i64.wrap ((2 : Int) * x.2.2.2.1)) + (1 : Int)))))) fun _ =>
    match (x.1.set ((IntKind.i64.wrap (x.2.2.1 + x.2.2.2.1)).toNat) v39)[(IntKind.i64.wrap (x.2.2.1 + (IntKind.i64.wrap ((IntKind.i64.wrap ((2 : Int) * x.2.2.2.1)) + (1 : Int))))).toNat]? with
    | none => none
    | some v44 =>
    some (.inl (((x.1.set ((IntKind.i64.wrap (x.2.2.1 + x.2.2.2.1)).toNat) v39).set ((IntKind.i64.wrap (x.2.2.1 + (IntKind.i64.wrap ((IntKind.i64.wrap ((2 : Int) * x.2.2.2.1)) + (1 : Int))))).toNat) v40), x.2.1, x.2.2.1, (IntKind.i64.wrap ((IntKind.i64.wrap ((2 : Int) * x.2.2.2.1)) + (1 : Int))), ()))) (
    match x.1[(IntKind.i64.wrap (x.2.2.1 + x.2.2.2.1)).toNat]? with
    | none => none
    | some v39 =>
    match x.1[(IntKind.i64.wrap (x.2.2.1 + (IntKind.i64.wrap ((IntKind.i64.wrap ((2 : Int) * x.2.2.2.1)) + (1 : Int))))).toNat]? with
    | none => none
    | some v40 =>
    onSome (idx x.1 (IntKind.i64.wrap (x.2.2.1 + x.2.2.2.1))) fun _ =>
    match x.1[(IntKind.i64.wrap (x.2.2.1 + x.2.2.2.1)).toNat]? with
    | none => none
    | some v42 =>
    onSome (idx (x.1.set ((IntKind.i64.wrap (x.2.2.1 + x.2.2.2.1)).toNat) v40) (IntKind.i64.wrap (x.2.2.1 + (IntKind.i64.wrap ((IntKind.i64.wrap ((2 : Int) * x.2.2.2.1)) + (1 : Int)))))) fun _ =>
    match (x.1.set ((IntKind.i64.wrap (x.2.2.1 + x.2.2.2.1)).toNat) v40)[(IntKind.i64.wrap (x.2.2.1 + (IntKind.i64.wrap ((IntKind.i64.wrap ((2 : Int) * x.2.2.2.1)) + (1 : Int))))).toNat]? with
    | none => none
    | some v44 =>
    some (.inl (((x.1.set ((IntKind.i64.wrap (x.2.2.1 + x.2.2.2.1)).toNat) v40).set ((IntKind.i64.wrap (x.2.2.1 + (IntKind.i64.wrap ((IntKind.i64.wrap ((2 : Int) * x.2.2.2.1)) + (1 : Int))))).toNat) v39), x.2.1, x.2.2.1, (IntKind.i64.wrap ((IntKind.i64.wrap ((2 : Int) * x.2.2.2.1)) + (1 : Int))), ())))
noncomputable def slices_siftDownOrdered_int64 (x : Ty.T (.pair (.own 2 (.int .i64)) (.pair (.int .i64) (.pair (.int .i64) (.pair (.int .i64) .unit))))) : Option (Ty.T (.pair (.own 2 (.int .i64)) .unit)) :=
match loopL b_slices_siftDownOrdered_int64_1 (x.1, x.2.2.1, x.2.2.2.1, x.2.1, ()) with
| none => none
| some (.inl v45) =>
 some (v45.1, ())
| some (.inr v46) =>
 some (v46.1, ())
noncomputable def S_slices_siftDownOrdered_int64 : Spec := ⟨(.pair (.own 2 (.int .i64)) (.pair (.int .i64) (.pair (.int .i64) (.pair (.int .i64) .unit)))), .unit, (.pair (.own 2 (.int .i64)) .unit), rfl, slices_siftDownOrdered_int64⟩
noncomputable def σ_slices_siftDownOrdered_int64 : FuncId → Option Spec := sig [(172, S_cmp_Less_int64)]
theorem σok_slices_siftDownOrdered_int64 : ∀ f s, σ_slices_siftDownOrdered_int64 f = some s → FnOK Try.prog f s := sig_ok (l := [(172, S_cmp_Less_int64)]) ⟨ok_cmp_Less_int64, trivial⟩
noncomputable def Λ_slices_siftDownOrdered_int64 : Nat → Option LSpec := lkp (loopList (bodyOf Try.f177)) [⟨[0, 2, 3, 8], (.pair (.own 2 (.int .i64)) (.pair (.int .i64) (.pair (.int .i64) (.pair (.int .i64) .unit)))), 0, [0], (.pair (.own 2 (.int .i64)) .unit), [0], (.pair (.own 2 (.int .i64)) .unit), loopL b_slices_siftDownOrdered_int64_1⟩]
theorem lok_slices_siftDownOrdered_int64_1 (x) : codeK Γ0 E0 σ_slices_siftDownOrdered_int64 Λ_slices_siftDownOrdered_int64 Try.f177.ntmps (nthLoop Try.f177 0) (mkF Try.f177.ntmps [0, 2, 3, 8] (.pair (.own 2 (.int .i64)) (.pair (.int .i64) (.pair (.int .i64) (.pair (.int .i64) .unit)))) x) (readK σ_slices_siftDownOrdered_int64 Try.f177.ntmps [0, 2, 3, 8] (.pair (.own 2 (.int .i64)) (.pair (.int .i64) (.pair (.int .i64) (.pair (.int .i64) .unit)))) 0 [0] (.pair (.own 2 (.int .i64)) .unit) [0] (.pair (.own 2 (.int .i64)) .unit)) = b_slices_siftDownOrdered_int64_1 x := by kernel_rfl
theorem ok_slices_siftDownOrdered_int64 : FnOK Try.prog 177 S_slices_siftDownOrdered_int64 := fn_ok (Λ := Λ_slices_siftDownOrdered_int64) tab0 σok_slices_siftDownOrdered_int64 Try.func177 (by kernel_rfl) (show Try.f177.body = some (bodyOf Try.f177) by kernel_rfl) [⟨[0, 2, 3, 8], (.pair (.own 2 (.int .i64)) (.pair (.int .i64) (.pair (.int .i64) (.pair (.int .i64) .unit)))), 0, [0], (.pair (.own 2 (.int .i64)) .unit), [0], (.pair (.own 2 (.int .i64)) .unit), loopL b_slices_siftDownOrdered_int64_1⟩] rfl (by kernel_rfl) (by exact ⟨loop_LOK (lok_slices_siftDownOrdered_int64_1), trivial⟩) (by kernel_rfl)
  fun x y h => (show execFn Γ0 E0 σ_slices_siftDownOrdered_int64 Λ_slices_siftDownOrdered_int64 Try.f177 S_slices_siftDownOrdered_int64 x = slices_siftDownOrdered_int64 x by kernel_rfl).trans h

noncomputable def b_slices_heapSortOrdered_int64_4 (x : (Ty.T (.pair (.own 2 (.int .i64)) TStarter))) : Option ((Ty.T (.pair (.own 2 (.int .i64)) TStarter)) ⊕ ((Ty.T (.pair (.own 2 (.int .i64)) (.pair (.int .i64) (.pair (.int .i64) (.pair (.int .i64) .unit))))) ⊕ (Ty.T .unit))) :=
match (decide (x.2.2.2.2.1 ≥ (0 : Int))) with
| true =>
 match slices_siftDownOrdered_int64 (x.1, x.2.2.2.2.1, x.2.2.2.1, x.2.1, ()) with
 | none => none
 | some v1 =>
 some (.inl (v1.1, x.2.1, x.2.2.1, x.2.2.2.1, (IntKind.i64.wrap (x.2.2.2.2.1 - (1 : Int))), ()))
| false =>
 some (.inr (.inl (x.1, x.2.1, x.2.2.1, x.2.2.2.1, ())))
noncomputable def b_slices_heapSortOrdered_int64_8 (x : (Ty.T (.pair (.own 2 (.int .i64)) (.pair (.int .i64) (.pair (.int .i64) (.pair (.int .i64) .unit)))))) : Option ((Ty.T (.pair (.own 2 (.int .i64)) (.pair (.int .i64) (.pair (.int .i64) (.pair (.int .i64) .unit))))) ⊕ ((Ty.T (.pair (.own 2 (.int .i64)) .unit)) ⊕ (Ty.T .unit))) :=
match (decide (x.2.2.2.1 ≥ (0 : Int))) with
| true =>
 onSome (idx x.1 (IntKind.i64.wrap (x.2.1 + x.2.2.2.1))) fun _ =>
 onSome (idx x.1 x.2.1) fun _ =>
 both (
  match x.1[(IntKind.i64.wrap (x.2.1 + x.2.2.2.1)).toNat]? with
  | none => none
  | some v6 =>
  match x.1[x.2.1.toNat]? with
  | none => none
  | some v7 =>
  onSome (idx x.1 x.2.1) fun _ =>
  match x.1[x.2.1.toNat]? with
  | none => none
  | some v9 =>
  onSome (idx (x.1.set x.2.1.toNat v6) (IntKind.i64.wrap (x.2.1 + x.2.2.2.1))) fun _ =>
  match (x.1.set x.2.1.toNat v6)[(IntKind.i64.wrap (x.2.1 + x.2.2.2.1)).toNat]? with
  | none => none
  | some v11 =>
  match slices_siftDownOrdered_int64 (((x.1.set x.2.1.toNat v6).set ((IntKind.i64.wrap (x.2.1 + x.2.2.2.1)).toNat) v7), x.2.2.1, x.2.2.2.1, x.2.1, ()) with
  | none => none
  | some v12 =>
  some (.inl (v12.1, x.2.1, x.2.2.1, (IntKind.i64.wrap (x.2.2.2.1 - (1 : Int))), ()))) (
  match x.1[x.2.1.toNat]? with
  | none => none
  | some v6 =>
  match x.1[(IntKind.i64.wrap (x.2.1 + x.2.2.2.1)).toNat]? with
  | none => none
  | some v7 =>
  onSome (idx x.1 x.2.1) fun _ =>
  match x.1[x.2.1.toNat]? with
  | none => none
  | some v9 =>
  onSome (idx (x.1.set x.2.1.toNat v7) (IntKind.i64.wrap (x.2.1 + x.2.2.2.1))) fun _ =>
  match (x.1.set x.2.1.toNat v7)[(IntKind.i64.wrap (x.2.1 + x.2.2.2.1)).toNat]? with
  | none => none
  | some v11 =>
  match slices_siftDownOrdered_int64 (((x.1.set x.2.1.toNat v7).set ((IntKind.i64.wrap (x.2.1 + x.2.2.2.1)).toNat) v6), x.2.2.1, x.2.2.2.1, x.2.1, ()) with
  | none => none
  | some v12 =>
  some (.inl (v12.1, x.2.1, x.2.2.1, (IntKind.i64.wrap (x.2.2.2.1 - (1 : Int))), ())))
| false =>
 some (.inr (.inl (x.1, ())))
noncomputable def slices_heapSortOrdered_int64 (x : Ty.T (.pair (.own 2 (.int .i64)) (.pair (.int .i64) (.pair (.int .i64) .unit)))) : Option (Ty.T (.pair (.own 2 (.int .i64)) .unit)) :=
match loopL b_slices_heapSortOrdered_int64_4 (x.1, x.2.1, (0 : Int), (IntKind.i64.wrap (x.2.2.1 - x.2.1)), (IntKind.i64.wrap (Int.tdiv (IntKind.i64.wrap ((IntKind.i64.wrap (x.2.2.1 - x.2.1)) - (1 : Int))) (2 : Int))), ()) with
| none => none
| some (.inl v2) =>
 match loopL b_slices_heapSortOrdered_int64_8 (v2.1, v2.2.1, v2.2.2.1, (IntKind.i64.wrap (v2.2.2.2.1 - (1 : Int))), ()) with
 | none => none
 | some (.inl v13) =>
  some (v13.1, ())
 | some (.inr v15) =>
  none
| some (.inr v16) =>
 none
noncomputable def S_slices_heapSortOrdered_int64 : Spec := ⟨(.pair (.own 2 (.int .i64)) (.pair (.int .i64) (.pair (.int .i64) .unit))), .unit, (.pair (.own 2 (.int .i64)) .unit), rfl, slices_heapSortOrdered_int64⟩
noncomputable def σ_slices_heapSortOrdered_int64 : FuncId → Option Spec := sig [(177, S_slices_siftDownOrdered_int64)]
theorem σok_slices_heapSortOrdered_int64 : ∀ f s, σ_slices_heapSortOrdered_int64 f = some s → FnOK Try.prog f s := sig_ok (l := [(177, S_slices_siftDownOrdered_int64)]) ⟨ok_slices_siftDownOrdered_int64, trivial⟩
noncomputable def Λ_slices_heapSortOrdered_int64 : Nat → Option LSpec := lkp (loopList (bodyOf Try.f167)) [⟨[0, 6, 7, 8, 9], (.pair (.own 2 (.int .i64)) TStarter), 0, [0, 6, 7, 8], (.pair (.own 2 (.int .i64)) (.pair (.int .i64) (.pair (.int .i64) (.pair (.int .i64) .unit)))), [], .unit, loopL b_slices_heapSortOrdered_int64_4⟩, ⟨[0, 6, 7, 10], (.pair (.own 2 (.int .i64)) (.pair (.int .i64) (.pair (.int .i64) (.pair (.int .i64) .unit)))), 2, [0], (.pair (.own 2 (.int .i64)) .unit), [], .unit, loopL b_slices_heapSortOrdered_int64_8⟩]
theorem lok_slices_heapSortOrdered_int64_4 (x) : codeK Γ0 E0 σ_slices_heapSortOrdered_int64 Λ_slices_heapSortOrdered_int64 Try.f167.ntmps (nthLoop Try.f167 0) (mkF Try.f167.ntmps [0, 6, 7, 8, 9] (.pair (.own 2 (.int .i64)) TStarter) x) (readK σ_slices_heapSortOrdered_int64 Try.f167.ntmps [0, 6, 7, 8, 9] (.pair (.own 2 (.int .i64)) TStarter) 0 [0, 6, 7, 8] (.pair (.own 2 (.int .i64)) (.pair (.int .i64) (.pair (.int .i64) (.pair (.int .i64) .unit)))) [] .unit) = b_slices_heapSortOrdered_int64_4 x := by kernel_rfl
theorem lok_slices_heapSortOrdered_int64_8 (x) : codeK Γ0 E0 σ_slices_heapSortOrdered_int64 Λ_slices_heapSortOrdered_int64 Try.f167.ntmps (nthLoop Try.f167 1) (mkF Try.f167.ntmps [0, 6, 7, 10] (.pair (.own 2 (.int .i64)) (.pair (.int .i64) (.pair (.int .i64) (.pair (.int .i64) .unit)))) x) (readK σ_slices_heapSortOrdered_int64 Try.f167.ntmps [0, 6, 7, 10] (.pair (.own 2 (.int .i64)) (.pair (.int .i64) (.pair (.int .i64) (.pair (.int .i64) .unit)))) 2 [0] (.pair (.own 2 (.int .i64)) .unit) [] .unit) = b_slices_heapSortOrdered_int64_8 x := by kernel_rfl
theorem ok_slices_heapSortOrdered_int64 : FnOK Try.prog 167 S_slices_heapSortOrdered_int64 := fn_ok (Λ := Λ_slices_heapSortOrdered_int64) tab0 σok_slices_heapSortOrdered_int64 Try.func167 (by kernel_rfl) (show Try.f167.body = some (bodyOf Try.f167) by kernel_rfl) [⟨[0, 6, 7, 8, 9], (.pair (.own 2 (.int .i64)) TStarter), 0, [0, 6, 7, 8], (.pair (.own 2 (.int .i64)) (.pair (.int .i64) (.pair (.int .i64) (.pair (.int .i64) .unit)))), [], .unit, loopL b_slices_heapSortOrdered_int64_4⟩, ⟨[0, 6, 7, 10], (.pair (.own 2 (.int .i64)) (.pair (.int .i64) (.pair (.int .i64) (.pair (.int .i64) .unit)))), 2, [0], (.pair (.own 2 (.int .i64)) .unit), [], .unit, loopL b_slices_heapSortOrdered_int64_8⟩] rfl (by kernel_rfl) (by exact ⟨loop_LOK (lok_slices_heapSortOrdered_int64_4), loop_LOK (lok_slices_heapSortOrdered_int64_8), trivial⟩) (by kernel_rfl)
  fun x y h => (show execFn Γ0 E0 σ_slices_heapSortOrdered_int64 Λ_slices_heapSortOrdered_int64 Try.f167 S_slices_heapSortOrdered_int64 x = slices_heapSortOrdered_int64 x by kernel_rfl).trans h

noncomputable def math_bits_Len32 (x : Ty.T (.pair (.int .u32) .unit)) : Option (Ty.T (.pair (.int .i64) .unit)) :=
match (decide (x.1 ≥ (65536 : Int))) with
| true =>
 match (decide ((Int.fdiv x.1 (2 ^ min (16 : Int).toNat IntKind.u32.bits)) ≥ (256 : Int))) with
 | true =>
  onSome (idx ([0, 1, 2, 2, 3, 3, 3, 3, 4, 4, 4, 4, 4, 4, 4, 4, 5, 5, 5, 5, 5, 5, 5, 5, 5, 5, 5, 5, 5, 5, 5, 5, 6, 6, 6, 6, 6, 6, 6, 6, 6, 6, 6, 6, 6, 6, 6, 6, 6, 6, 6, 6, 6, 6, 6, 6, 6, 6, 6, 6, 6, 6, 6, 6, 7, 7, 7, 7, 7, 7, 7, 7, 7, 7, 7, 7, 7, 7, 7, 7, 7, 7, 7, 7, 7, 7, 7, 7, 7, 7, 7, 7, 7, 7, 7, 7, 7, 7, 7, 7, 7, 7, 7, 7, 7, 7, 7, 7, 7, 7, 7, 7, 7, 7, 7, 7, 7, 7, 7, 7, 7, 7, 7, 7, 7, 7, 7, 7, 8, 8, 8, 8, 8, 8, 8, 8, 8, 8, 8, 8, 8, 8, 8, 8, 8, 8, 8, 8, 8, 8, 8, 8, 8, 8, 8, 8, 8, 8, 8, 8, 8, 8, 8, 8, 8, 8, 8, 8, 8, 8, 8, 8, 8, 8, 8, 8, 8, 8, 8, 8, 8, 8, 8, 8, 8, 8, 8, 8, 8, 8, 8, 8, 8, 8, 8, 8, 8, 8, 8, 8, 8, 8, 8, 8, 8, 8, 8, 8, 8, 8, 8, 8, 8, 8, 8, 8, 8, 8, 8, 8, 8, 8, 8, 8, 8, 8, 8, 8, 8, 8, 8, 8, 8, 8, 8, 8, 8, 8, 8, 8, 8, 8, 8, 8, 8, 8, 8, 8, 8, 8, 8, 8, 8, 8, 8, 8] : List UInt8) (IntKind.u8.wrap (Int.fdiv (Int.fdiv x.1 (2 ^ min (16 : Int).toNat IntKind.u32.bits)) (2 ^ min (8 : Int).toNat IntKind.u32.bits)))) fun v1 =>
  some ((IntKind.i64.wrap ((IntKind.i64.wrap ((16 : Int) + (8 : Int))) + (IntKind.i64.wrap (v1.toNat : Int)))), ())
 | false =>
  onSome (idx ([0, 1, 2, 2, 3, 3, 3, 3, 4, 4, 4, 4, 4, 4, 4, 4, 5, 5, 5, 5, 5, 5, 5, 5, 5, 5, 5, 5, 5, 5, 5, 5, 6, 6, 6, 6, 6, 6, 6, 6, 6, 6, 6, 6, 6, 6, 6, 6, 6, 6, 6, 6, 6, 6, 6, 6, 6, 6, 6, 6, 6, 6, 6, 6, 7, 7, 7, 7, 7, 7, 7, 7, 7, 7, 7, 7, 7, 7, 7, 7, 7, 7, 7, 7, 7, 7, 7, 7, 7, 7, 7, 7, 7, 7, 7, 7, 7, 7, 7, 7, 7, 7, 7, 7, 7, 7, 7, 7, 7, 7, 7, 7, 7, 7, 7, 7, 7, 7, 7, 7, 7, 7, 7, 7, 7, 7, 7, 7, 8, 8, 8, 8, 8, 8, 8, 8, 8, 8, 8, 8, 8, 8, 8, 8, 8, 8, 8, 8, 8, 8, 8, 8, 8, 8, 8, 8, 8, 8, 8, 8, 8, 8, 8, 8, 8, 8, 8, 8, 8, 8, 8, 8, 8, 8, 8, 8, 8, 8, 8, 8, 8, 8, 8, 8, 8, 8, 8, 8, 8, 8, 8, 8, 8, 8, 8, 8, 8, 8, 8, 8, 8, 8, 8, 8, 8, 8, 8, 8, 8, 8, 8, 8, 8, 8, 8, 8, 8, 8, 8, 8, 8, 8, 8, 8, 8, 8, 8, 8, 8, 8, 8, 8, 8, 8, 8, 8, 8, 8, 8, 8, 8, 8, 8, 8, 8, 8, 8, 8, 8, 8, 8, 8, 8, 8, 8, 8] : List UInt8) (IntKind.u8.wrap (Int.fdiv x.1 (2 ^ min (16 : Int).toNat IntKind.u32.bits)))) fun v2 =>
  some ((IntKind.i64.wrap ((16 : Int) + (IntKind.i64.wrap (v2.toNat : Int)))), ())
| false =>
 match (decide (x.1 ≥ (256 : Int))) with
 | true =>
  onSome (idx ([0, 1, 2, 2, 3, 3, 3, 3, 4, 4, 4, 4, 4, 4, 4, 4, 5, 5, 5, 5, 5, 5, 5, 5, 5, 5, 5, 5, 5, 5, 5, 5, 6, 6, 6, 6, 6, 6, 6, 6, 6, 6, 6, 6, 6, 6, 6, 6, 6, 6, 6, 6, 6, 6, 6, 6, 6, 6, 6, 6, 6, 6, 6, 6, 7, 7, 7, 7, 7, 7, 7, 7, 7, 7, 7, 7, 7, 7, 7, 7, 7, 7, 7, 7, 7, 7, 7, 7, 7, 7, 7, 7, 7, 7, 7, 7, 7, 7, 7, 7, 7, 7, 7, 7, 7, 7, 7, 7, 7, 7, 7, 7, 7, 7, 7, 7, 7, 7, 7, 7, 7, 7, 7, 7, 7, 7, 7, 7, 8, 8, 8, 8, 8, 8, 8, 8, 8, 8, 8, 8, 8, 8, 8, 8, 8, 8, 8, 8, 8, 8, 8, 8, 8, 8, 8, 8, 8, 8, 8, 8, 8, 8, 8, 8, 8, 8, 8, 8, 8, 8, 8, 8, 8, 8, 8, 8, 8, 8, 8, 8, 8, 8, 8, 8, 8, 8, 8, 8, 8, 8, 8, 8, 8, 8, 8, 8, 8, 8, 8, 8, 8, 8, 8, 8, 8, 8, 8, 8, 8, 8, 8, 8, 8, 8, 8, 8, 8, 8, 8, 8, 8, 8, 8, 8, 8, 8, 8, 8, 8, 8, 8, 8, 8, 8, 8, 8, 8, 8, 8, 8, 8, 8, 8, 8, 8, 8, 8, 8, 8, 8, 8, 8, 8, 8, 8, 8] : List UInt8) (IntKind.u8.wrap (Int.fdiv x.1 (2 ^ min (8 : Int).toNat IntKind.u32.bits)))) fun v3 =>
  some ((IntKind.i64.wrap ((IntKind.i64.wrap ((0 : Int) + (8 : Int))) + (IntKind.i64.wrap (v3.toNat : Int)))), ())
 | false =>
  onSome (idx ([0, 1, 2, 2, 3, 3, 3, 3, 4, 4, 4, 4, 4, 4, 4, 4, 5, 5, 5, 5, 5, 5, 5, 5, 5, 5, 5, 5, 5, 5, 5, 5, 6, 6, 6, 6, 6, 6, 6, 6, 6, 6, 6, 6, 6, 6, 6, 6, 6, 6, 6, 6, 6, 6, 6, 6, 6, 6, 6, 6, 6, 6, 6, 6, 7, 7, 7, 7, 7, 7, 7, 7, 7, 7, 7, 7, 7, 7, 7, 7, 7, 7, 7, 7, 7, 7, 7, 7, 7, 7, 7, 7, 7, 7, 7, 7, 7, 7, 7, 7, 7, 7, 7, 7, 7, 7, 7, 7, 7, 7, 7, 7, 7, 7, 7, 7, 7, 7, 7, 7, 7, 7, 7, 7, 7, 7, 7, 7, 8, 8, 8, 8, 8, 8, 8, 8, 8, 8, 8, 8, 8, 8, 8, 8, 8, 8, 8, 8, 8, 8, 8, 8, 8, 8, 8, 8, 8, 8, 8, 8, 8, 8, 8, 8, 8, 8, 8, 8, 8, 8, 8, 8, 8, 8, 8, 8, 8, 8, 8, 8, 8, 8, 8, 8, 8, 8, 8, 8, 8, 8, 8, 8, 8, 8, 8, 8, 8, 8, 8, 8, 8, 8, 8, 8, 8, 8, 8, 8, 8, 8, 8, 8, 8, 8, 8, 8, 8, 8, 8, 8, 8, 8, 8, 8, 8, 8, 8, 8, 8, 8, 8, 8, 8, 8, 8, 8, 8, 8, 8, 8, 8, 8, 8, 8, 8, 8, 8, 8, 8, 8, 8, 8, 8, 8, 8, 8] : List UInt8) (IntKind.u8.wrap x.1)) fun v4 =>
  some ((IntKind.i64.wrap ((0 : Int) + (IntKind.i64.wrap (v4.toNat : Int)))), ())
noncomputable def S_math_bits_Len32 : Spec := ⟨(.pair (.int .u32) .unit), (.pair (.int .i64) .unit), .unit, rfl, math_bits_Len32⟩
noncomputable def σ_math_bits_Len32 : FuncId → Option Spec := sig []
theorem σok_math_bits_Len32 : ∀ f s, σ_math_bits_Len32 f = some s → FnOK Try.prog f s := sig_ok (l := []) trivial
noncomputable def Λ_math_bits_Len32 : Nat → Option LSpec := lkp (loopList (bodyOf Try.f175)) []
theorem ok_math_bits_Len32 : FnOK Try.prog 175 S_math_bits_Len32 := fn_ok (Λ := Λ_math_bits_Len32) tab0 σok_math_bits_Len32 Try.func175 (by kernel_rfl) (show Try.f175.body = some (bodyOf Try.f175) by kernel_rfl) [] rfl (by kernel_rfl) (by exact trivial) (by kernel_rfl)
  fun x y h => (show execFn Γ0 E0 σ_math_bits_Len32 Λ_math_bits_Len32 Try.f175 S_math_bits_Len32 x = math_bits_Len32 x by kernel_rfl).trans h

noncomputable def math_bits_Len64 (x : Ty.T (.pair (.int .u64) .unit)) : Option (Ty.T (.pair (.int .i64) .unit)) :=
match (decide (x.1 ≥ (4294967296 : Int))) with
| true =>
 match (decide ((Int.fdiv x.1 (2 ^ min (32 : Int).toNat IntKind.u64.bits)) ≥ (65536 : Int))) with
 | true =>
  match (decide ((Int.fdiv (Int.fdiv x.1 (2 ^ min (32 : Int).toNat IntKind.u64.bits)) (2 ^ min (16 : Int).toNat IntKind.u64.bits)) ≥ (256 : Int))) with
  | true =>
   onSome (idx ([0, 1, 2, 2, 3, 3, 3, 3, 4, 4, 4, 4, 4, 4, 4, 4, 5, 5, 5, 5, 5, 5, 5, 5, 5, 5, 5, 5, 5, 5, 5, 5, 6, 6, 6, 6, 6, 6, 6, 6, 6, 6, 6, 6, 6, 6, 6, 6, 6, 6, 6, 6, 6, 6, 6, 6, 6, 6, 6, 6, 6, 6, 6, 6, 7, 7, 7, 7, 7, 7, 7, 7, 7, 7, 7, 7, 7, 7, 7, 7, 7, 7, 7, 7, 7, 7, 7, 7, 7, 7, 7, 7, 7, 7, 7, 7, 7, 7, 7, 7, 7, 7, 7, 7, 7, 7, 7, 7, 7, 7, 7, 7, 7, 7, 7, 7, 7, 7, 7, 7, 7, 7, 7, 7, 7, 7, 7, 7, 8, 8, 8, 8, 8, 8, 8, 8, 8, 8, 8, 8, 8, 8, 8, 8, 8, 8, 8, 8, 8, 8, 8, 8, 8, 8, 8, 8, 8, 8, 8, 8, 8, 8, 8, 8, 8, 8, 8, 8, 8, 8, 8, 8, 8, 8, 8, 8, 8, 8, 8, 8, 8, 8, 8, 8, 8, 8, 8, 8, 8, 8, 8, 8, 8, 8, 8, 8, 8, 8, 8, 8, 8, 8, 8, 8, 8, 8, 8, 8, 8, 8, 8, 8, 8, 8, 8, 8, 8, 8, 8, 8, 8, 8, 8, 8, 8, 8, 8, 8, 8, 8, 8, 8, 8, 8, 8, 8, 8, 8, 8, 8, 8, 8, 8, 8, 8, 8, 8, 8, 8, 8, 8, 8, 8, 8, 8, 8] : List UInt8) (IntKind.u8.wrap (Int.fdiv (Int.fdiv (Int.fdiv x.1 (2 ^ min (32 : Int).toNat IntKind.u64.bits)) (2 ^ min (16 : Int).toNat IntKind.u64.bits)) (2 ^ min (8 : Int).toNat IntKind.u64.bits)))) fun v1 =>
   some ((IntKind.i64.wrap ((IntKind.i64.wrap ((IntKind.i64.wrap ((32 : Int) + (16 : Int))) + (8 : Int))) + (IntKind.i64.wrap (v1.toNat : Int)))), ())
  | false =>
   onSome (idx ([0, 1, 2, 2, 3, 3, 3, 3, 4, 4, 4, 4, 4, 4, 4, 4, 5, 5, 5, 5, 5, 5, 5, 5, 5, 5, 5, 5, 5, 5, 5, 5, 6, 6, 6, 6, 6, 6, 6, 6, 6, 6, 6, 6, 6, 6, 6, 6, 6, 6, 6, 6, 6, 6, 6, 6, 6, 6, 6, 6, 6, 6, 6, 6, 7, 7, 7, 7, 7, 7, 7, 7, 7, 7, 7, 7, 7, 7, 7, 7, 7, 7, 7, 7, 7, 7, 7, 7, 7, 7, 7, 7, 7, 7, 7, 7, 7, 7, 7, 7, 7, 7, 7, 7, 7, 7, 7, 7, 7, 7, 7, 7, 7, 7, 7, 7, 7, 7, 7, 7, 7, 7, 7, 7, 7, 7, 7, 7, 8, 8, 8, 8, 8, 8, 8, 8, 8, 8, 8, 8, 8, 8, 8, 8, 8, 8, 8, 8, 8, 8, 8, 8, 8, 8, 8, 8, 8, 8, 8, 8, 8, 8, 8, 8, 8, 8, 8, 8, 8, 8, 8, 8, 8, 8, 8, 8, 8, 8, 8, 8, 8, 8, 8, 8, 8, 8, 8, 8, 8, 8, 8, 8, 8, 8, 8, 8, 8, 8, 8, 8, 8, 8, 8, 8, 8, 8, 8, 8, 8, 8, 8, 8, 8, 8, 8, 8, 8, 8, 8, 8, 8, 8, 8, 8, 8, 8, 8, 8, 8, 8, 8, 8, 8, 8, 8, 8, 8, 8, 8, 8, 8, 8, 8, 8, 8, 8, 8, 8, 8, 8, 8, 8, 8, 8, 8, 8] : List UInt8) (IntKind.u8.wrap (Int.fdiv (Int.fdiv x.1 (2 ^ min (32 : Int).toNat IntKind.u64.bits)) (2 ^ min (16 : Int).toNat IntKind.u64.bits)))) fun v2 =>
   some ((IntKind.i64.wrap ((IntKind.i64.wrap ((32 : Int) + (16 : Int))) + (IntKind.i64.wrap (v2.toNat : Int)))), ())
 | false =>
  match (decide ((Int.fdiv x.1 (2 ^ min (32 : Int).toNat IntKind.u64.bits)) ≥ (256 : Int))) with
  | true =>
   onSome (idx ([0, 1, 2, 2, 3, 3, 3, 3, 4, 4, 4, 4, 4, 4, 4, 4, 5, 5, 5, 5, 5, 5, 5, 5, 5, 5, 5, 5, 5, 5, 5, 5, 6, 6, 6, 6, 6, 6, 6, 6, 6, 6, 6, 6, 6, 6, 6, 6, 6, 6, 6, 6, 6, 6, 6, 6, 6, 6, 6, 6, 6, 6, 6, 6, 7, 7, 7, 7, 7, 7, 7, 7, 7, 7, 7, 7, 7, 7, 7, 7, 7, 7, 7, 7, 7, 7, 7, 7, 7, 7, 7, 7, 7, 7, 7, 7, 7, 7, 7, 7, 7, 7, 7, 7, 7, 7, 7, 7, 7, 7, 7, 7, 7, 7, 7, 7, 7, 7, 7, 7, 7, 7, 7, 7, 7, 7, 7, 7, 8, 8, 8, 8, 8, 8, 8, 8, 8, 8, 8, 8, 8, 8, 8, 8, 8, 8, 8, 8, 8, 8, 8, 8, 8, 8, 8, 8, 8, 8, 8, 8, 8, 8, 8, 8, 8, 8, 8, 8, 8, 8, 8, 8, 8, 8, 8, 8, 8, 8, 8, 8, 8, 8, 8, 8, 8, 8, 8, 8, 8, 8, 8, 8, 8, 8, 8, 8, 8, 8, 8, 8, 8, 8, 8, 8, 8, 8, 8, 8, 8, 8, 8, 8, 8, 8, 8, 8, 8, 8, 8, 8, 8, 8, 8, 8, 8, 8, 8, 8, 8, 8, 8, 8, 8, 8, 8, 8, 8, 8, 8, 8, 8, 8, 8, 8, 8, 8, 8, 8, 8, 8, 8, 8, 8, 8, 8, 8] : List UInt8) (IntKind.u8.wrap (Int.fdiv (Int.fdiv x.1 (2 ^ min (32 : Int).toNat IntKind.u64.bits)) (2 ^ min (8 : Int).toNat IntKind.u64.bits)))) fun v3 =>
   some ((IntKind.i64.wrap ((IntKind.i64.wrap ((32 : Int) + (8 : Int))) + (IntKind.i64.wrap (v3.toNat : Int)))), ())
  | false =>
   onSome (idx ([0, 1, 2, 2, 3, 3, 3, 3, 4, 4, 4, 4, 4, 4, 4, 4, 5, 5, 5, 5, 5, 5, 5, 5, 5, 5, 5, 5, 5, 5, 5, 5, 6, 6, 6, 6, 6, 6, 6, 6, 6, 6, 6, 6, 6, 6, 6, 6, 6, 6, 6, 6, 6, 6, 6, 6, 6, 6, 6, 6, 6, 6, 6, 6, 7, 7, 7, 7, 7, 7, 7, 7, 7, 7, 7, 7, 7, 7, 7, 7, 7, 7, 7, 7, 7, 7, 7, 7, 7, 7, 7, 7, 7, 7, 7, 7, 7, 7, 7, 7, 7, 7, 7, 7, 7, 7, 7, 7, 7, 7, 7, 7, 7, 7, 7, 7, 7, 7, 7, 7, 7, 7, 7, 7, 7, 7, 7, 7, 8, 8, 8, 8, 8, 8, 8, 8, 8, 8, 8, 8, 8, 8, 8, 8, 8, 8, 8, 8, 8, 8, 8, 8, 8, 8, 8, 8, 8, 8, 8, 8, 8, 8, 8, 8, 8, 8, 8, 8, 8, 8, 8, 8, 8, 8, 8, 8, 8, 8, 8, 8, 8, 8, 8, 8, 8, 8, 8, 8, 8, 8, 8, 8, 8, 8, 8, 8, 8, 8, 8, 8, 8, 8, 8, 8, 8, 8, 8, 8, 8, 8, 8, 8, 8, 8, 8, 8, 8, 8, 8, 8, 8, 8, 8, 8, 8, 8, 8, 8, 8, 8, 8, 8, 8, 8, 8, 8, 8, 8, 8, 8, 8, 8, 8, 8, 8, 8, 8, 8, 8, 8, 8, 8, 8, 8, 8, 8] : List UInt8) (IntKind.u8.wrap (Int.fdiv x.1 (2 ^ min (32 : Int).toNat IntKind.u64.bits)))) fun v4 =>
   some ((IntKind.i64.wrap ((32 : Int) + (IntKind.i64.wrap (v4.toNat : Int)))), ())
| false =>
 match (decide (x.1 ≥ (65536 : Int))) with
 | true =>
  match (decide ((Int.fdiv x.1 (2 ^ min (16 : Int).toNat IntKind.u64.bits)) ≥ (256 : Int))) with
  | true =>
   onSome (idx ([0, 1, 2, 2, 3, 3, 3, 3, 4, 4, 4, 4, 4, 4, 4, 4, 5, 5, 5, 5, 5, 5, 5, 5, 5, 5, 5, 5, 5, 5, 5, 5, 6, 6, 6, 6, 6, 6, 6, 6, 6, 6, 6, 6, 6, 6, 6, 6, 6, 6, 6, 6, 6, 6, 6, 6, 6, 6, 6, 6, 6, 6, 6, 6, 7, 7, 7, 7, 7, 7, 7, 7, 7, 7, 7, 7, 7, 7, 7, 7, 7, 7, 7, 7, 7, 7, 7, 7, 7, 7, 7, 7, 7, 7, 7, 7, 7, 7, 7, 7, 7, 7, 7, 7, 7, 7, 7, 7, 7, 7, 7, 7, 7, 7, 7, 7, 7, 7, 7, 7, 7, 7, 7, 7, 7, 7, 7, 7, 8, 8, 8, 8, 8, 8, 8, 8, 8, 8, 8, 8, 8, 8, 8, 8, 8, 8, 8, 8, 8, 8, 8, 8, 8, 8, 8, 8, 8, 8, 8, 8, 8, 8, 8, 8, 8, 8, 8, 8, 8, 8, 8, 8, 8, 8, 8, 8, 8, 8, 8, 8, 8, 8, 8, 8, 8, 8, 8, 8, 8, 8, 8, 8, 8, 8, 8, 8, 8, 8, 8, 8, 8, 8, 8, 8, 8, 8, 8, 8, 8, 8, 8, 8, 8, 8, 8, 8, 8, 8, 8, 8, 8, 8, 8, 8, 8, 8, 8, 8, 8, 8, 8, 8, 8, 8, 8, 8, 8, 8, 8, 8, 8, 8, 8, 8, 8, 8, 8, 8, 8, 8, 8, 8, 8, 8, 8, 8] : List UInt8) (IntKind.u8.wrap (Int.fdiv (Int.fdiv x.1 (2 ^ min (16 : Int).toNat IntKind.u64.bits)) (2 ^ min (8 : Int).toNat IntKind.u64.bits)))) fun v5 =>
   some ((IntKind.i64.wrap ((IntKind.i64.wrap ((IntKind.i64.wrap ((0 : Int) + (16 : Int))) + (8 : Int))) + (IntKind.i64.wrap (v5.toNat : Int)))), ())
  | false =>
   onSome (idx ([0, 1, 2, 2, 3, 3, 3, 3, 4, 4, 4, 4, 4, 4, 4, 4, 5, 5, 5, 5, 5, 5, 5, 5, 5, 5, 5, 5, 5, 5, 5, 5, 6, 6, 6, 6, 6, 6, 6, 6, 6, 6, 6, 6, 6, 6, 6, 6, 6, 6, 6, 6, 6, 6, 6, 6, 6, 6, 6, 6, 6, 6, 6, 6, 7, 7, 7, 7, 7, 7, 7, 7, 7, 7, 7, 7, 7, 7, 7, 7, 7, 7, 7, 7, 7, 7, 7, 7, 7, 7, 7, 7, 7, 7, 7, 7, 7, 7, 7, 7, 7, 7, 7, 7, 7, 7, 7, 7, 7, 7, 7, 7, 7, 7, 7, 7, 7, 7, 7, 7, 7, 7, 7, 7, 7, 7, 7, 7, 8, 8, 8, 8, 8, 8, 8, 8, 8, 8, 8, 8, 8, 8, 8, 8, 8, 8, 8, 8, 8, 8, 8, 8, 8, 8, 8, 8, 8, 8, 8, 8, 8, 8, 8, 8, 8, 8, 8, 8, 8, 8, 8, 8, 8, 8, 8, 8, 8, 8, 8, 8, 8, 8, 8, 8, 8, 8, 8, 8, 8, 8, 8, 8, 8, 8, 8, 8, 8, 8, 8, 8, 8, 8, 8, 8, 8, 8, 8, 8, 8, 8, 8, 8, 8, 8, 8, 8, 8, 8, 8, 8, 8, 8, 8, 8, 8, 8, 8, 8, 8, 8, 8, 8, 8, 8, 8, 8, 8, 8, 8, 8, 8, 8, 8, 8, 8, 8, 8, 8, 8, 8, 8, 8, 8, 8, 8, 8] : List UInt8) (IntKind.u8.wrap (Int.fdiv x.1 (2 ^ min (16 : Int).toNat IntKind.u64.bits)))) fun v6 =>
   some ((IntKind.i64.wrap ((IntKind.i64.wrap ((0 : Int) + (16 : Int))) + (IntKind.i64.wrap (v6.toNat : Int)))), ())
 | false =>
  match (decide (x.1 ≥ (256 : Int))) with
  | true =>
   onSome (idx ([0, 1, 2, 2, 3, 3, 3, 3, 4, 4, 4, 4, 4, 4, 4, 4, 5, 5, 5, 5, 5, 5, 5, 5, 5, 5, 5, 5, 5, 5, 5, 5, 6, 6, 6, 6, 6, 6, 6, 6, 6, 6, 6, 6, 6, 6, 6, 6, 6, 6, 6, 6, 6, 6, 6, 6, 6, 6, 6, 6, 6, 6, 6, 6, 7, 7, 7, 7, 7, 7, 7, 7, 7, 7, 7, 7, 7, 7, 7, 7, 7, 7, 7, 7, 7, 7, 7, 7, 7, 7, 7, 7, 7, 7, 7, 7, 7, 7, 7, 7, 7, 7, 7, 7, 7, 7, 7, 7, 7, 7, 7, 7, 7, 7, 7, 7, 7, 7, 7, 7, 7, 7, 7, 7, 7, 7, 7, 7, 8, 8, 8, 8, 8, 8, 8, 8, 8, 8, 8, 8, 8, 8, 8, 8, 8, 8, 8, 8, 8, 8, 8, 8, 8, 8, 8, 8, 8, 8, 8, 8, 8, 8, 8, 8, 8, 8, 8, 8, 8, 8, 8, 8, 8, 8, 8, 8, 8, 8, 8, 8, 8, 8, 8, 8, 8, 8, 8, 8, 8, 8, 8, 8, 8, 8, 8, 8, 8, 8, 8, 8, 8, 8, 8, 8, 8, 8, 8, 8, 8, 8, 8, 8, 8, 8, 8, 8, 8, 8, 8, 8, 8, 8, 8, 8, 8, 8, 8, 8, 8, 8, 8, 8, 8, 8, 8, 8, 8, 8, 8, 8, 8, 8, 8, 8, 8, 8, 8, 8, 8, 8, 8, 8, 8, 8, 8, 8] : List UInt8) (IntKind.u8.wrap (Int.fdiv x.1 (2 ^ min (8 : Int).toNat IntKind.u64.bits)))) fun v7 =>
   some ((IntKind.i64.wrap ((IntKind.i64.wrap ((0 : Int) + (8 : Int))) + (IntKind.i64.wrap (v7.toNat : Int)))), ())
  | false =>
   onSome (idx ([0, 1, 2, 2, 3, 3, 3, 3, 4, 4, 4, 4, 4, 4, 4, 4, 5, 5, 5, 5, 5, 5, 5, 5, 5, 5, 5, 5, 5, 5, 5, 5, 6, 6, 6, 6, 6, 6, 6, 6, 6, 6, 6, 6, 6, 6, 6, 6, 6, 6, 6, 6, 6, 6, 6, 6, 6, 6, 6, 6, 6, 6, 6, 6, 7, 7, 7, 7, 7, 7, 7, 7, 7, 7, 7, 7, 7, 7, 7, 7, 7, 7, 7, 7, 7, 7, 7, 7, 7, 7, 7, 7, 7, 7, 7, 7, 7, 7, 7, 7, 7, 7, 7, 7, 7, 7, 7, 7, 7, 7, 7, 7, 7, 7, 7, 7, 7, 7, 7, 7, 7, 7, 7, 7, 7, 7, 7, 7, 8, 8, 8, 8, 8, 8, 8, 8, 8, 8, 8, 8, 8, 8, 8, 8, 8, 8, 8, 8, 8, 8, 8, 8, 8, 8, 8, 8, 8, 8, 8, 8, 8, 8, 8, 8, 8, 8, 8, 8, 8, 8, 8, 8, 8, 8, 8, 8, 8, 8, 8, 8, 8, 8, 8, 8, 8, 8, 8, 8, 8, 8, 8, 8, 8, 8, 8, 8, 8, 8, 8, 8, 8, 8, 8, 8, 8, 8, 8, 8, 8, 8, 8, 8, 8, 8, 8, 8, 8, 8, 8, 8, 8, 8, 8, 8, 8, 8, 8, 8, 8, 8, 8, 8, 8, 8, 8, 8, 8, 8, 8, 8, 8, 8, 8, 8, 8, 8, 8, 8, 8, 8, 8, 8, 8, 8, 8, 8] : List UInt8) (IntKind.u8.wrap x.1)) fun v8 =>
   some ((IntKind.i64.wrap ((0 : Int) + (IntKind.i64.wrap (v8.toNat : Int)))), ())
noncomputable def S_math_bits_Len64 : Spec := ⟨(.pair (.int .u64) .unit), (.pair (.int .i64) .unit), .unit, rfl, math_bits_Len64⟩
noncomputable def σ_math_bits_Len64 : FuncId → Option Spec := sig []
theorem σok_math_bits_Len64 : ∀ f s, σ_math_bits_Len64 f = some s → FnOK Try.prog f s := sig_ok (l := []) trivial
noncomputable def Λ_math_bits_Len64 : Nat → Option LSpec := lkp (loopList (bodyOf Try.f176)) []
theorem ok_math_bits_Len64 : FnOK Try.prog 176 S_math_bits_Len64 := fn_ok (Λ := Λ_math_bits_Len64) tab0 σok_math_bits_Len64 Try.func176 (by kernel_rfl) (show Try.f176.body = some (bodyOf Try.f176) by kernel_rfl) [] rfl (by kernel_rfl) (by exact trivial) (by kernel_rfl)
  fun x y h => (show execFn Γ0 E0 σ_math_bits_Len64 Λ_math_bits_Len64 Try.f176 S_math_bits_Len64 x = math_bits_Len64 x by kernel_rfl).trans h

noncomputable def math_bits_Len (x : Ty.T (.pair (.int .u64) .unit)) : Option (Ty.T (.pair (.int .i64) .unit)) :=
match math_bits_Len64 (x.1, ()) with
| none => none
| some v1 =>
some (v1.1, ())
noncomputable def S_math_bits_Len : Spec := ⟨(.pair (.int .u64) .unit), (.pair (.int .i64) .unit), .unit, rfl, math_bits_Len⟩
noncomputable def σ_math_bits_Len : FuncId → Option Spec := sig [(176, S_math_bits_Len64)]
theorem σok_math_bits_Len : ∀ f s, σ_math_bits_Len f = some s → FnOK Try.prog f s := sig_ok (l := [(176, S_math_bits_Len64)]) ⟨ok_math_bits_Len64, trivial⟩
noncomputable def Λ_math_bits_Len : Nat → Option LSpec := lkp (loopList (bodyOf Try.f157)) []
theorem ok_math_bits_Len : FnOK Try.prog 157 S_math_bits_Len := fn_ok (Λ := Λ_math_bits_Len) tab0 σok_math_bits_Len Try.func157 (by kernel_rfl) (show Try.f157.body = some (bodyOf Try.f157) by kernel_rfl) [] rfl (by kernel_rfl) (by exact trivial) (by kernel_rfl)
  fun x y h => (show execFn Γ0 E0 σ_math_bits_Len Λ_math_bits_Len Try.f157 S_math_bits_Len x = math_bits_Len x by kernel_rfl).trans h

noncomputable def slices_nextPowerOfTwo (x : Ty.T (.pair (.int .i64) .unit)) : Option (Ty.T (.pair (.int .u64) .unit)) :=
match math_bits_Len ((IntKind.u64.wrap x.1), ()) with
| none => none
| some v1 =>
if v1.1 < 0 then none else
some ((IntKind.u64.wrap ((1 : Int) * 2 ^ min v1.1.toNat IntKind.u64.bits)), ())
noncomputable def S_slices_nextPowerOfTwo : Spec := ⟨(.pair (.int .i64) .unit), (.pair (.int .u64) .unit), .unit, rfl, slices_nextPowerOfTwo⟩
noncomputable def σ_slices_nextPowerOfTwo : FuncId → Option Spec := sig [(157, S_math_bits_Len)]
theorem σok_slices_nextPowerOfTwo : ∀ f s, σ_slices_nextPowerOfTwo f = some s → FnOK Try.prog f s := sig_ok (l := [(157, S_math_bits_Len)]) ⟨ok_math_bits_Len, trivial⟩
noncomputable def Λ_slices_nextPowerOfTwo : Nat → Option LSpec := lkp (loopList (bodyOf Try.f178)) []
theorem ok_slices_nextPowerOfTwo : FnOK Try.prog 178 S_slices_nextPowerOfTwo := fn_ok (Λ := Λ_slices_nextPowerOfTwo) tab0 σok_slices_nextPowerOfTwo Try.func178 (by kernel_rfl) (show Try.f178.body = some (bodyOf Try.f178) by kernel_rfl) [] rfl (by kernel_rfl) (by exact trivial) (by kernel_rfl)
  fun x y h => (show execFn Γ0 E0 σ_slices_nextPowerOfTwo Λ_slices_nextPowerOfTwo Try.f178 S_slices_nextPowerOfTwo x = slices_nextPowerOfTwo x by kernel_rfl).trans h

noncomputable def slices_xorshift_Next (x : Ty.T (.pair (.box (.int .u64)) .unit)) : Option (Ty.T (.pair (.int .u64) (.pair (.box (.int .u64)) .unit))) :=
same (
 same (
  same (
   some ((bits BinOp.xor .u64 (bits BinOp.xor .u64 (bits BinOp.xor .u64 x.1 (IntKind.u64.wrap (x.1 * 2 ^ min (13 : Int).toNat IntKind.u64.bits))) (Int.fdiv (bits BinOp.xor .u64 x.1 (IntKind.u64.wrap (x.1 * 2 ^ min (13 : Int).toNat IntKind.u64.bits))) (2 ^ min (7 : Int).toNat IntKind.u64.bits))) (IntKind.u64.wrap ((bits BinOp.xor .u64 (bits BinOp.xor .u64 x.1 (IntKind.u64.wrap (x.1 * 2 ^ min (13 : Int).toNat IntKind.u64.bits))) (Int.fdiv (bits BinOp.xor .u64 x.1 (IntKind.u64.wrap (x.1 * 2 ^ min (13 : Int).toNat IntKind.u64.bits))) (2 ^ min (7 : Int).toNat IntKind.u64.bits))) * 2 ^ min (17 : Int).toNat IntKind.u64.bits))), (bits BinOp.xor .u64 (bits BinOp.xor .u64 (bits BinOp.xor .u64 x.1 (IntKind.u64.wrap (x.1 * 2 ^ min (13 : Int).toNat IntKind.u64.bits))) (Int.fdiv (bits BinOp.xor .u64 x.1 (IntKind.u64.wrap (x.1 * 2 ^ min (13 : Int).toNat IntKind.u64.bits))) (2 ^ min (7 : Int).toNat IntKind.u64.bits))) (IntKind.u64.wrap ((bits BinOp.xor .u64 (bits BinOp.xor .u64 x.1 (IntKind.u64.wrap (x.1 * 2 ^ min (13 : Int).toNat IntKind.u64.bits))) (Int.fdiv (bits BinOp.xor .u64 x.1 (IntKind.u64.wrap (x.1 * 2 ^ min (13 : Int).toNat IntKind.u64.bits))) (2 ^ min (7 : Int).toNat IntKind.u64.bits))) * 2 ^ min (17 : Int).toNat IntKind.u64.bits))), ()))))
noncomputable def S_slices_xorshift_Next : Spec := ⟨(.pair (.box (.int .u64)) .unit), (.pair (.int .u64) .unit), (.pair (.box (.int .u64)) .unit), rfl, slices_xorshift_Next⟩
noncomputable def σ_slices_xorshift_Next : FuncId → Option Spec := sig []
theorem σok_slices_xorshift_Next : ∀ f s, σ_slices_xorshift_Next f = some s → FnOK Try.prog f s := sig_ok (l := []) trivial
noncomputable def Λ_slices_xorshift_Next : Nat → Option LSpec := lkp (loopList (bodyOf Try.f179)) []
theorem ok_slices_xorshift_Next : FnOK Try.prog 179 S_slices_xorshift_Next := fn_ok (Λ := Λ_slices_xorshift_Next) tab0 σok_slices_xorshift_Next Try.func179 (by kernel_rfl) (show Try.f179.body = some (bodyOf Try.f179) by kernel_rfl) [] rfl (by kernel_rfl) (by exact trivial) (by kernel_rfl)
  fun x y h => (show execFn Γ0 E0 σ_slices_xorshift_Next Λ_slices_xorshift_Next Try.f179 S_slices_xorshift_Next x = slices_xorshift_Next x by kernel_rfl).trans h

noncomputable def b_slices_breakPatternsOrdered_int64_5 (x : (Ty.T (.pair (.own 2 (.int .i64)) (.pair (.int .i64) (.pair (.int .i64) (.pair (.box (.int .u64)) (.pair (.int .u64) (.pair (.int .i64) .unit)))))))) : Option ((Ty.T (.pair (.own 2 (.int .i64)) (.pair (.int .i64) (.pair (.int .i64) (.pair (.box (.int .u64)) (.pair (.int .u64) (.pair (.int .i64) .unit))))))) ⊕ ((Ty.T (.pair (.own 2 (.int .i64)) .unit)) ⊕ (Ty.T .unit))) :=
match (decide (x.2.2.2.2.2.1 ≤ (IntKind.i64.wrap ((IntKind.i64.wrap (x.2.1 + (IntKind.i64.wrap ((IntKind.i64.wrap (Int.tdiv x.2.2.1 (4 : Int))) * (2 : Int))))) + (1 : Int))))) with
| true =>
 match slices_xorshift_Next (x.2.2.2.1, ()) with
 | none => none
 | some v2 =>
 match (decide ((IntKind.i64.wrap (bits BinOp.and .u64 v2.1 (IntKind.u64.wrap (x.2.2.2.2.1 - (1 : Int))))) ≥ x.2.2.1)) with
 | true =>
  onSome (idx x.1 (IntKind.i64.wrap (x.2.1 + (IntKind.i64.wrap ((IntKind.i64.wrap (bits BinOp.and .u64 v2.1 (IntKind.u64.wrap (x.2.2.2.2.1 - (1 : Int))))) - x.2.2.1))))) fun _ =>
  onSome (idx x.1 x.2.2.2.2.2.1) fun _ =>
  both (
   match x.1[(IntKind.i64.wrap (x.2.1 + (IntKind.i64.wrap ((IntKind.i64.wrap (bits BinOp.and .u64 v2.1 (IntKind.u64.wrap (x.2.2.2.2.1 - (1 : Int))))) - x.2.2.1)))).toNat]? with
   | none => none
   | some v5 =>
   match x.1[x.2.2.2.2.2.1.toNat]? with
   | none => none
   | some v6 =>
   onSome (idx x.1 x.2.2.2.2.2.1) fun _ =>
   match x.1[x.2.2.2.2.2.1.toNat]? with
   | none => none
   | some v8 =>
   onSome (idx (x.1.set x.2.2.2.2.2.1.toNat v5) (IntKind.i64.wrap (x.2.1 + (IntKind.i64.wrap ((IntKind.i64.wrap (bits BinOp.and .u64 v2.1 (IntKind.u64.wrap (x.2.2.2.2.1 - (1 : Int))))) - x.2.2.1))))) fun _ =>
   match (x.1.set x.2.2.2.2.2.1.toNat v5)[(IntKind.i64.wrap (x.2.1 + (IntKind.i64.wrap ((IntKind.i64.wrap (bits BinOp.and .u64 v2.1 (IntKind.u64.wrap (x.2.2.2.2.1 - (1 : Int))))) - x.2.2.1)))).toNat]? with
   | none => none
   | some v10 =>
   some (.inl (((x.1.set x.2.2.2.2.2.1.toNat v5).set ((IntKind.i64.wrap (x.2.1 + (IntKind.i64.wrap ((IntKind.i64.wrap (bits BinOp.and .u64 v2.1 (IntKind.u64.wrap (x.2.2.2.2.1 - (1 : Int))))) - x.2.2.1)))).toNat) v6), x.2.1, x.2.2.1, v2.2.1, x.2.2.2.2.1, (IntKind.i64.wrap (x.2.2.2.2.2.1 + (1 : Int))), ()))) (
   match x.1[x.2.2.2.2.2.1.toNat]? with
   | none => none
   | some v5 =>
   match x.1[(IntKind.i64.wrap (x.2.1 + (IntKind.i64.wrap ((IntKind.i64.wrap (bits BinOp.and .u64 v2.1 (IntKind.u64.wrap (x.2.2.2.2.1 - (1 : Int))))) - x.2.2.1)))).toNat]? with
   | none => none
   | some v6 =>
   onSome (idx x.1 x.2.2.2.2.2.1) fun _ =>
   match x.1[x.2.2.2.2.2.1.toNat]? with
   | none => none
   | some v8 =>
   onSome (idx (x.1.set x.2.2.2.2.2.1.toNat v6) (IntKind.i64.wrap (x.2.1 + (IntKind.i64.wrap ((IntKind.i64.wrap (bits BinOp.and .u64 v2.1 (IntKind.u64.wrap (x.2.2.2.2.1 - (1 : Int))))) - x.2.2.1))))) fun _ =>
   match (x.1.set x.2.2.2.2.2.1.toNat v6)[(IntKind.i64.wrap (x.2.1 + (IntKind.i64.wrap ((IntKind.i64.wrap (bits BinOp.and .u64 v2.1 (IntKind.u64.wrap (x.2.2.2.2.1 - (1 : Int))))) - x.2.2.1)))).toNat]? with
   | none => none
   | some v10 =>
   some (.inl (((x.1.set x.2.2.2.2.2.1.toNat v6).set ((IntKind.i64.wrap (x.2.1 + (IntKind.i64.wrap ((IntKind.i64.wrap (bits BinOp.and .u64 v2.1 (IntKind.u64.wrap (x.2.2.2.2.1 - (1 : Int))))) - x.2.2.1)))).toNat) v5), x.2.1, x.2.2.1, v2.2.1, x.2.2.2.2.1, (IntKind.i64.wrap (x.2.2.2.2.2.1 + (1 : Int))), ())))
 | false =>
  onSome (idx x.1 (IntKind.i64.wrap (x.2.1 + (IntKind.i64.wrap (bits BinOp.and .u64 v2.1 (IntKind.u64.wrap (x.2.2.2.2.1 - (1 : Int)))))))) fun _ =>
  onSome (idx x.1 x.2.2.2.2.2.1) fun _ =>
  both (
   match x.1[(IntKind.i64.wrap (x.2.1 + (IntKind.i64.wrap (bits BinOp.and .u64 v2.1 (IntKind.u64.wrap (x.2.2.2.2.1 - (1 : Int))))))).toNat]? with
   | none => none
   | some v13 =>
   match x.1[x.2.2.2.2.2.1.toNat]? with
   | none => none
   | some v14 =>
   onSome (idx x.1 x.2.2.2.2.2.1) fun _ =>
   match x.1[x.2.2.2.2.2.1.toNat]? with
   | none => none
   | some v16 =>
   onSome (idx (x.1.set x.2.2.2.2.2.1.toNat v13) (IntKind.i64.wrap (x.2.1 + (IntKind.i64.wrap (bits BinOp.and .u64 v2.1 (IntKind.u64.wrap (x.2.2.2.2.1 - (1 : Int)))))))) fun _ =>
   match (x.1.set x.2.2.2.2.2.1.toNat v13)[(IntKind.i64.wrap (x.2.1 + (IntKind.i64.wrap (bits BinOp.and .u64 v2.1 (IntKind.u64.wrap (x.2.2.2.2.1 - (1 : Int))))))).toNat]? with
   | none => none
   | some v18 =>
   some (.inl (((x.1.set x.2.2.2.2.2.1.toNat v13).set ((IntKind.i64.wrap (x.2.1 + (IntKind.i64.wrap (bits BinOp.and .u64 v2.1 (IntKind.u64.wrap (x.2.2.2.2.1 - (1 : Int))))))).toNat) v14), x.2.1, x.2.2.1, v2.2.1, x.2.2.2.2.1, (IntKind.i64.wrap (x.2.2.2.2.2.1 + (1 : Int))), ()))) (
   match x.1[x.2.2.2.2.2.1.toNat]? with
   | none => none
   | some v13 =>
   match x.1[(IntKind.i64.wrap (x.2.1 + (IntKind.i64.wrap (bits BinOp.and .u64 v2.1 (IntKind.u64.wrap (x.2.2.2.2.1 - (1 : Int))))))).toNat]? with
   | none => none
   | some v14 =>
   onSome (idx x.1 x.2.2.2.2.2.1) fun _ =>
   match x.1[x.2.2.2.2.2.1.toNat]? with
   | none => none
   | some v16 =>
   onSome (idx (x.1.set x.2.2.2.2.2.1.toNat v14) (IntKind.i64.wrap (x.2.1 + (IntKind.i64.wrap (bits BinOp.and .u64 v2.1 (IntKind.u64.wrap (x.2.2.2.2.1 - (1 : Int)))))))) fun _ =>
   match (x.1.set x.2.2.2.2.2.1.toNat v14)[(IntKind.i64.wrap (x.2.1 + (IntKind.i64.wrap (bits BinOp.and .u64 v2.1 (IntKind.u64.wrap (x.2.2.2.2.1 - (1 : Int))))))).toNat]? with
   | none => none
   | some v18 =>
   some (.inl (((x.1.set x.2.2.2.2.2.1.toNat v14).set ((IntKind.i64.wrap (x.2.1 + (IntKind.i64.wrap (bits BinOp.and .u64 v2.1 (IntKind.u64.wrap (x.2.2.2.2.1 - (1 : Int))))))).toNat) v13), x.2.1, x.2.2.1, v2.2.1, x.2.2.2.2.1, (IntKind.i64.wrap (x.2.2.2.2.2.1 + (1 : Int))), ())))
| false =>
 some (.inr (.inl (x.1, ())))
noncomputable def slices_breakPatternsOrdered_int64 (x : Ty.T (.pair (.own 2 (.int .i64)) (.pair (.int .i64) (.pair (.int .i64) .unit)))) : Option (Ty.T (.pair (.own 2 (.int .i64)) .unit)) :=
match (decide ((IntKind.i64.wrap (x.2.2.1 - x.2.1)) ≥ (8 : Int))) with
| true =>
 match slices_nextPowerOfTwo ((IntKind.i64.wrap (x.2.2.1 - x.2.1)), ()) with
 | none => none
 | some v1 =>
 match loopL b_slices_breakPatternsOrdered_int64_5 (x.1, x.2.1, (IntKind.i64.wrap (x.2.2.1 - x.2.1)), (IntKind.u64.wrap (IntKind.i64.wrap (x.2.2.1 - x.2.1))), v1.1, (IntKind.i64.wrap ((IntKind.i64.wrap (x.2.1 + (IntKind.i64.wrap ((IntKind.i64.wrap (Int.tdiv (IntKind.i64.wrap (x.2.2.1 - x.2.1)) (4 : Int))) * (2 : Int))))) - (1 : Int))), ()) with
 | none => none
 | some (.inl v19) =>
  some (v19.1, ())
 | some (.inr v21) =>
  none
| false =>
 some (x.1, ())
noncomputable def S_slices_breakPatternsOrdered_int64 : Spec := ⟨(.pair (.own 2 (.int .i64)) (.pair (.int .i64) (.pair (.int .i64) .unit))), .unit, (.pair (.own 2 (.int .i64)) .unit), rfl, slices_breakPatternsOrdered_int64⟩
noncomputable def σ_slices_breakPatternsOrdered_int64 : FuncId → Option Spec := sig [(178, S_slices_nextPowerOfTwo), (179, S_slices_xorshift_Next)]
theorem σok_slices_breakPatternsOrdered_int64 : ∀ f s, σ_slices_breakPatternsOrdered_int64 f = some s → FnOK Try.prog f s := sig_ok (l := [(178, S_slices_nextPowerOfTwo), (179, S_slices_xorshift_Next)]) ⟨ok_slices_nextPowerOfTwo, ok_slices_xorshift_Next, trivial⟩
noncomputable def Λ_slices_breakPatternsOrdered_int64 : Nat → Option LSpec := lkp (loopList (bodyOf Try.f168)) [⟨[0, 1, 6, 7, 8, 9], (.pair (.own 2 (.int .i64)) (.pair (.int .i64) (.pair (.int .i64) (.pair (.box (.int .u64)) (.pair (.int .u64) (.pair (.int .i64) .unit)))))), 0, [0], (.pair (.own 2 (.int .i64)) .unit), [], .unit, loopL b_slices_breakPatternsOrdered_int64_5⟩]
theorem lok_slices_breakPatternsOrdered_int64_5 (x) : codeK Γ0 E0 σ_slices_breakPatternsOrdered_int64 Λ_slices_breakPatternsOrdered_int64 Try.f168.ntmps (nthLoop Try.f168 0) (mkF Try.f168.ntmps [0, 1, 6, 7, 8, 9] (.pair (.own 2 (.int .i64)) (.pair (.int .i64) (.pair (.int .i64) (.pair (.box (.int .u64)) (.pair (.int .u64) (.pair (.int .i64) .unit)))))) x) (readK σ_slices_breakPatternsOrdered_int64 Try.f168.ntmps [0, 1, 6, 7, 8, 9] (.pair (.own 2 (.int .i64)) (.pair (.int .i64) (.pair (.int .i64) (.pair (.box (.int .u64)) (.pair (.int .u64) (.pair (.int .i64) .unit)))))) 0 [0] (.pair (.own 2 (.int .i64)) .unit) [] .unit) = b_slices_breakPatternsOrdered_int64_5 x := by kernel_rfl
theorem ok_slices_breakPatternsOrdered_int64 : FnOK Try.prog 168 S_slices_breakPatternsOrdered_int64 := fn_ok (Λ := Λ_slices_breakPatternsOrdered_int64) tab0 σok_slices_breakPatternsOrdered_int64 Try.func168 (by kernel_rfl) (show Try.f168.body = some (bodyOf Try.f168) by kernel_rfl) [⟨[0, 1, 6, 7, 8, 9], (.pair (.own 2 (.int .i64)) (.pair (.int .i64) (.pair (.int .i64) (.pair (.box (.int .u64)) (.pair (.int .u64) (.pair (.int .i64) .unit)))))), 0, [0], (.pair (.own 2 (.int .i64)) .unit), [], .unit, loopL b_slices_breakPatternsOrdered_int64_5⟩] rfl (by kernel_rfl) (by exact ⟨loop_LOK (lok_slices_breakPatternsOrdered_int64_5), trivial⟩) (by kernel_rfl)
  fun x y h => (show execFn Γ0 E0 σ_slices_breakPatternsOrdered_int64 Λ_slices_breakPatternsOrdered_int64 Try.f168 S_slices_breakPatternsOrdered_int64 x = slices_breakPatternsOrdered_int64 x by kernel_rfl).trans h

noncomputable def slices_order2Ordered_int64 (x : Ty.T (.pair (.list (.int .i64)) (.pair (.int .i64) (.pair (.int .i64) (.pair (.box (.int .i64)) .unit))))) : Option (Ty.T (.pair (.int .i64) (.pair (.int .i64) (.pair (.box (.int .i64)) .unit)))) :=
onSome (idx x.1 x.2.2.1) fun v1 =>
onSome (idx x.1 x.2.1) fun v2 =>
match cmp_Less_int64 (v1, v2, ()) with
| none => none
| some v3 =>
match v3.1 with
| true =>
 some (x.2.2.1, x.2.1, (IntKind.i64.wrap (x.2.2.2.1 + (1 : Int))), ())
| false =>
 some (x.2.1, x.2.2.1, x.2.2.2.1, ())
noncomputable def S_slices_order2Ordered_int64 : Spec := ⟨(.pair (.list (.int .i64)) (.pair (.int .i64) (.pair (.int .i64) (.pair (.box (.int .i64)) .unit)))), (.pair (.int .i64) (.pair (.int .i64) .unit)), (.pair (.box (.int .i64)) .unit), rfl, slices_order2Ordered_int64⟩
noncomputable def σ_slices_order2Ordered_int64 : FuncId → Option Spec := sig [(172, S_cmp_Less_int64)]
theorem σok_slices_order2Ordered_int64 : ∀ f s, σ_slices_order2Ordered_int64 f = some s → FnOK Try.prog f s := sig_ok (l := [(172, S_cmp_Less_int64)]) ⟨ok_cmp_Less_int64, trivial⟩
noncomputable def Λ_slices_order2Ordered_int64 : Nat → Option LSpec := lkp (loopList (bodyOf Try.f183)) []
theorem ok_slices_order2Ordered_int64 : FnOK Try.prog 183 S_slices_order2Ordered_int64 := fn_ok (Λ := Λ_slices_order2Ordered_int64) tab0 σok_slices_order2Ordered_int64 Try.func183 (by kernel_rfl) (show Try.f183.body = some (bodyOf Try.f183) by kernel_rfl) [] rfl (by kernel_rfl) (by exact trivial) (by kernel_rfl)
  fun x y h => (show execFn Γ0 E0 σ_slices_order2Ordered_int64 Λ_slices_order2Ordered_int64 Try.f183 S_slices_order2Ordered_int64 x = slices_order2Ordered_int64 x by kernel_rfl).trans h

noncomputable def slices_medianOrdered_int64 (x : Ty.T (.pair (.list (.int .i64)) (.pair (.int .i64) (.pair (.int .i64) (.pair (.int .i64) (.pair (.box (.int .i64)) .unit)))))) : Option (Ty.T (.pair (.int .i64) (.pair (.box (.int .i64)) .unit))) :=
match slices_order2Ordered_int64 (x.1, x.2.1, x.2.2.1, x.2.2.2.2.1, ()) with
| none => none
| some v1 =>
match slices_order2Ordered_int64 (x.1, v1.2.1, x.2.2.2.1, v1.2.2.1, ()) with
| none => none
| some v2 =>
match slices_order2Ordered_int64 (x.1, v1.1, v2.1, v2.2.2.1, ()) with
| none => none
| some v3 =>
some (v3.2.1, v3.2.2.1, ())
noncomputable def S_slices_medianOrdered_int64 : Spec := ⟨(.pair (.list (.int .i64)) (.pair (.int .i64) (.pair (.int .i64) (.pair (.int .i64) (.pair (.box (.int .i64)) .unit))))), (.pair (.int .i64) .unit), (.pair (.box (.int .i64)) .unit), rfl, slices_medianOrdered_int64⟩
noncomputable def σ_slices_medianOrdered_int64 : FuncId → Option Spec := sig [(183, S_slices_order2Ordered_int64)]
theorem σok_slices_medianOrdered_int64 : ∀ f s, σ_slices_medianOrdered_int64 f = some s → FnOK Try.prog f s := sig_ok (l := [(183, S_slices_order2Ordered_int64)]) ⟨ok_slices_order2Ordered_int64, trivial⟩
noncomputable def Λ_slices_medianOrdered_int64 : Nat → Option LSpec := lkp (loopList (bodyOf Try.f181)) []
theorem ok_slices_medianOrdered_int64 : FnOK Try.prog 181 S_slices_medianOrdered_int64 := fn_ok (Λ := Λ_slices_medianOrdered_int64) tab0 σok_slices_medianOrdered_int64 Try.func181 (by kernel_rfl) (show Try.f181.body = some (bodyOf Try.f181) by kernel_rfl) [] rfl (by kernel_rfl) (by exact trivial) (by kernel_rfl)
  fun x y h => (show execFn Γ0 E0 σ_slices_medianOrdered_int64 Λ_slices_medianOrdered_int64 Try.f181 S_slices_medianOrdered_int64 x = slices_medianOrdered_int64 x by kernel_rfl).trans h

noncomputable def slices_medianAdjacentOrdered_int64 (x : Ty.T (.pair (.list (.int .i64)) (.pair (.int .i64) (.pair (.box (.int .i64)) .unit)))) : Option (Ty.T (.pair (.int .i64) (.pair (.box (.int .i64)) .unit))) :=
match slices_medianOrdered_int64 (x.1, (IntKind.i64.wrap (x.2.1 - (1 : Int))), x.2.1, (IntKind.i64.wrap (x.2.1 + (1 : Int))), x.2.2.1, ()) with
| none => none
| some v1 =>
some (v1.1, v1.2.1, ())
noncomputable def S_slices_medianAdjacentOrdered_int64 : Spec := ⟨(.pair (.list (.int .i64)) (.pair (.int .i64) (.pair (.box (.int .i64)) .unit))), (.pair (.int .i64) .unit), (.pair (.box (.int .i64)) .unit), rfl, slices_medianAdjacentOrdered_int64⟩
noncomputable def σ_slices_medianAdjacentOrdered_int64 : FuncId → Option Spec := sig [(181, S_slices_medianOrdered_int64)]
theorem σok_slices_medianAdjacentOrdered_int64 : ∀ f s, σ_slices_medianAdjacentOrdered_int64 f = some s → FnOK Try.prog f s := sig_ok (l := [(181, S_slices_medianOrdered_int64)]) ⟨ok_slices_medianOrdered_int64, trivial⟩
noncomputable def Λ_slices_medianAdjacentOrdered_int64 : Nat → Option LSpec := lkp (loopList (bodyOf Try.f180)) []
theorem ok_slices_medianAdjacentOrdered_int64 : FnOK Try.prog 180 S_slices_medianAdjacentOrdered_int64 := fn_ok (Λ := Λ_slices_medianAdjacentOrdered_int64) tab0 σok_slices_medianAdjacentOrdered_int64 Try.func180 (by kernel_rfl) (show Try.f180.body = some (bodyOf Try.f180) by kernel_rfl) [] rfl (by kernel_rfl) (by exact trivial) (by kernel_rfl)
  fun x y h => (show execFn Γ0 E0 σ_slices_medianAdjacentOrdered_int64 Λ_slices_medianAdjacentOrdered_int64 Try.f180 S_slices_medianAdjacentOrdered_int64 x = slices_medianAdjacentOrdered_int64 x by kernel_rfl).trans h

noncomputable def slices_choosePivotOrdered_int64 (x : Ty.T (.pair (.own 2 (.int .i64)) (.pair (.int .i64) (.pair (.int .i64) .unit)))) : Option (Ty.T (.pair (.int .i64) (.pair (.int .i64) (.pair (.own 2 (.int .i64)) .unit)))) :=
match (decide ((IntKind.i64.wrap (x.2.2.1 - x.2.1)) ≥ (8 : Int))) with
| true =>
 match (decide ((IntKind.i64.wrap (x.2.2.1 - x.2.1)) ≥ (50 : Int))) with
 | true =>
  match slices_medianAdjacentOrdered_int64 (x.1, (IntKind.i64.wrap (x.2.1 + (IntKind.i64.wrap ((IntKind.i64.wrap (Int.tdiv (IntKind.i64.wrap (x.2.2.1 - x.2.1)) (4 : Int))) * (1 : Int))))), (0 : Int), ()) with
  | none => none
  | some v1 =>
  match slices_medianAdjacentOrdered_int64 (x.1, (IntKind.i64.wrap (x.2.1 + (IntKind.i64.wrap ((IntKind.i64.wrap (Int.tdiv (IntKind.i64.wrap (x.2.2.1 - x.2.1)) (4 : Int))) * (2 : Int))))), v1.2.1, ()) with
  | none => none
  | some v2 =>
  match slices_medianAdjacentOrdered_int64 (x.1, (IntKind.i64.wrap (x.2.1 + (IntKind.i64.wrap ((IntKind.i64.wrap (Int.tdiv (IntKind.i64.wrap (x.2.2.1 - x.2.1)) (4 : Int))) * (3 : Int))))), v2.2.1, ()) with
  | none => none
  | some v3 =>
  match slices_medianOrdered_int64 (x.1, v1.1, v2.1, v3.1, v3.2.1, ()) with
  | none => none
  | some v4 =>
  match (v4.2.1 == (0 : Int)) with
  | true =>
   some (v4.1, (1 : Int), x.1, ())
  | false =>
   match (v4.2.1 == (12 : Int)) with
   | true =>
    some (v4.1, (2 : Int), x.1, ())
   | false =>
    some (v4.1, (0 : Int), x.1, ())
 | false =>
  match slices_medianOrdered_int64 (x.1, (IntKind.i64.wrap (x.2.1 + (IntKind.i64.wrap ((IntKind.i64.wrap (Int.tdiv (IntKind.i64.wrap (x.2.2.1 - x.2.1)) (4 : Int))) * (1 : Int))))), (IntKind.i64.wrap (x.2.1 + (IntKind.i64.wrap ((IntKind.i64.wrap (Int.tdiv (IntKind.i64.wrap (x.2.2.1 - x.2.1)) (4 : Int))) * (2 : Int))))), (IntKind.i64.wrap (x.2.1 + (IntKind.i64.wrap ((IntKind.i64.wrap (Int.tdiv (IntKind.i64.wrap (x.2.2.1 - x.2.1)) (4 : Int))) * (3 : Int))))), (0 : Int), ()) with
  | none => none
  | some v5 =>
  match (v5.2.1 == (0 : Int)) with
  | true =>
   some (v5.1, (1 : Int), x.1, ())
  | false =>
   match (v5.2.1 == (12 : Int)) with
   | true =>
    some (v5.1, (2 : Int), x.1, ())
   | false =>
    some (v5.1, (0 : Int), x.1, ())
| false =>
 match ((0 : Int) == (0 : Int)) with
 | true =>
  some ((IntKind.i64.wrap (x.2.1 + (IntKind.i64.wrap ((IntKind.i64.wrap (Int.tdiv (IntKind.i64.wrap (x.2.2.1 - x.2.1)) (4 : Int))) * (2 : Int))))), (1 : Int), x.1, ())
 | false =>
  match ((0 : Int) == (12 : Int)) with
  | true =>
   some ((IntKind.i64.wrap (x.2.1 + (IntKind.i64.wrap ((IntKind.i64.wrap (Int.tdiv (IntKind.i64.wrap (x.2.2.1 - x.2.1)) (4 : Int))) * (2 : Int))))), (2 : Int), x.1, ())
  | false =>
   some ((IntKind.i64.wrap (x.2.1 + (IntKind.i64.wrap ((IntKind.i64.wrap (Int.tdiv (IntKind.i64.wrap (x.2.2.1 - x.2.1)) (4 : Int))) * (2 : Int))))), (0 : Int), x.1, ())
noncomputable def S_slices_choosePivotOrdered_int64 : Spec := ⟨(.pair (.own 2 (.int .i64)) (.pair (.int .i64) (.pair (.int .i64) .unit))), (.pair (.int .i64) (.pair (.int .i64) .unit)), (.pair (.own 2 (.int .i64)) .unit), rfl, slices_choosePivotOrdered_int64⟩
noncomputable def σ_slices_choosePivotOrdered_int64 : FuncId → Option Spec := sig [(180, S_slices_medianAdjacentOrdered_int64), (181, S_slices_medianOrdered_int64)]
theorem σok_slices_choosePivotOrdered_int64 : ∀ f s, σ_slices_choosePivotOrdered_int64 f = some s → FnOK Try.prog f s := sig_ok (l := [(180, S_slices_medianAdjacentOrdered_int64), (181, S_slices_medianOrdered_int64)]) ⟨ok_slices_medianAdjacentOrdered_int64, ok_slices_medianOrdered_int64, trivial⟩
noncomputable def Λ_slices_choosePivotOrdered_int64 : Nat → Option LSpec := lkp (loopList (bodyOf Try.f169)) []
theorem ok_slices_choosePivotOrdered_int64 : FnOK Try.prog 169 S_slices_choosePivotOrdered_int64 := fn_ok (Λ := Λ_slices_choosePivotOrdered_int64) tab0 σok_slices_choosePivotOrdered_int64 Try.func169 (by kernel_rfl) (show Try.f169.body = some (bodyOf Try.f169) by kernel_rfl) [] rfl (by kernel_rfl) (by exact trivial) (by kernel_rfl)
  fun x y h => (show execFn Γ0 E0 σ_slices_choosePivotOrdered_int64 Λ_slices_choosePivotOrdered_int64 Try.f169 S_slices_choosePivotOrdered_int64 x = slices_choosePivotOrdered_int64 x by kernel_rfl).trans h

noncomputable def b_slices_reverseRangeOrdered_int64_2 (x : (Ty.T (.pair (.own 2 (.int .i64)) (.pair (.int .i64) (.pair (.int .i64) .unit))))) : Option ((Ty.T (.pair (.own 2 (.int .i64)) (.pair (.int .i64) (.pair (.int .i64) .unit)))) ⊕ ((Ty.T (.pair (.own 2 (.int .i64)) .unit)) ⊕ (Ty.T .unit))) :=
match (decide (x.2.1 < x.2.2.1)) with
| true =>
 onSome (idx x.1 x.2.2.1) fun _ =>
 onSome (idx x.1 x.2.1) fun _ =>
 both (
  match x.1[x.2.2.1.toNat]? with
  | none => none
  | some v3 =>
  match x.1[x.2.1.toNat]? with
  | none => none
  | some v4 =>
  onSome (idx x.1 x.2.1) fun _ =>
  match x.1[x.2.1.toNat]? with
  | none => none
  | some v6 =>
  onSome (idx (x.1.set x.2.1.toNat v3) x.2.2.1) fun _ =>
  match (x.1.set x.2.1.toNat v3)[x.2.2.1.toNat]? with
  | none => none
  | some v8 =>
  some (.inl (((x.1.set x.2.1.toNat v3).set x.2.2.1.toNat v4), (IntKind.i64.wrap (x.2.1 + (1 : Int))), (IntKind.i64.wrap (x.2.2.1 - (1 : Int))), ()))) (
  match x.1[x.2.1.toNat]? with
  | none => none
  | some v3 =>
  match x.1[x.2.2.1.toNat]? with
  | none => none
  | some v4 =>
  onSome (idx x.1 x.2.1) fun _ =>
  match x.1[x.2.1.toNat]? with
  | none => none
  | some v6 =>
  onSome (idx (x.1.set x.2.1.toNat v4) x.2.2.1) fun _ =>
  match (x.1.set x.2.1.toNat v4)[x.2.2.1.toNat]? with
  | none => none
  | some v8 =>
  some (.inl (((x.1.set x.2.1.toNat v4).set x.2.2.1.toNat v3), (IntKind.i64.wrap (x.2.1 + (1 : Int))), (IntKind.i64.wrap (x.2.2.1 - (1 : Int))), ())))
| false =>
 some (.inr (.inl (x.1, ())))
noncomputable def slices_reverseRangeOrdered_int64 (x : Ty.T (.pair (.own 2 (.int .i64)) (.pair (.int .i64) (.pair (.int .i64) .unit)))) : Option (Ty.T (.pair (.own 2 (.int .i64)) .unit)) :=
match loopL b_slices_reverseRangeOrdered_int64_2 (x.1, x.2.1, (IntKind.i64.wrap (x.2.2.1 - (1 : Int))), ()) with
| none => none
| some (.inl v9) =>
 some (v9.1, ())
| some (.inr v11) =>
 none
noncomputable def S_slices_reverseRangeOrdered_int64 : Spec := ⟨(.pair (.own 2 (.int .i64)) (.pair (.int .i64) (.pair (.int .i64) .unit))), .unit, (.pair (.own 2 (.int .i64)) .unit), rfl, slices_reverseRangeOrdered_int64⟩
noncomputable def σ_slices_reverseRangeOrdered_int64 : FuncId → Option Spec := sig []
theorem σok_slices_reverseRangeOrdered_int64 : ∀ f s, σ_slices_reverseRangeOrdered_int64 f = some s → FnOK Try.prog f s := sig_ok (l := []) trivial
noncomputable def Λ_slices_reverseRangeOrdered_int64 : Nat → Option LSpec := lkp (loopList (bodyOf Try.f170)) [⟨[0, 6, 7], (.pair (.own 2 (.int .i64)) (.pair (.int .i64) (.pair (.int .i64) .unit))), 0, [0], (.pair (.own 2 (.int .i64)) .unit), [], .unit, loopL b_slices_reverseRangeOrdered_int64_2⟩]
theorem lok_slices_reverseRangeOrdered_int64_2 (x) : codeK Γ0 E0 σ_slices_reverseRangeOrdered_int64 Λ_slices_reverseRangeOrdered_int64 Try.f170.ntmps (nthLoop Try.f170 0) (mkF Try.f170.ntmps [0, 6, 7] (.pair (.own 2 (.int .i64)) (.pair (.int .i64) (.pair (.int .i64) .unit))) x) (readK σ_slices_reverseRangeOrdered_int64 Try.f170.ntmps [0, 6, 7] (.pair (.own 2 (.int .i64)) (.pair (.int .i64) (.pair (.int .i64) .unit))) 0 [0] (.pair (.own 2 (.int .i64)) .unit) [] .unit) = b_slices_reverseRangeOrdered_int64_2 x := by kernel_rfl
theorem ok_slices_reverseRangeOrdered_int64 : FnOK Try.prog 170 S_slices_reverseRangeOrdered_int64 := fn_ok (Λ := Λ_slices_reverseRangeOrdered_int64) tab0 σok_slices_reverseRangeOrdered_int64 Try.func170 (by kernel_rfl) (show Try.f170.body = some (bodyOf Try.f170) by kernel_rfl) [⟨[0, 6, 7], (.pair (.own 2 (.int .i64)) (.pair (.int .i64) (.pair (.int .i64) .unit))), 0, [0], (.pair (.own 2 (.int .i64)) .unit), [], .unit, loopL b_slices_reverseRangeOrdered_int64_2⟩] rfl (by kernel_rfl) (by exact ⟨loop_LOK (lok_slices_reverseRangeOrdered_int64_2), trivial⟩) (by kernel_rfl)
  fun x y h => (show execFn Γ0 E0 σ_slices_reverseRangeOrdered_int64 Λ_slices_reverseRangeOrdered_int64 Try.f170 S_slices_reverseRangeOrdered_int64 x = slices_reverseRangeOrdered_int64 x by kernel_rfl).trans h

noncomputable def b_slices_partialInsertionSortOrdered_int64_5 (x : (Ty.T (.pair (.own 2 (.int .i64)) TStarter))) : Option ((Ty.T (.pair (.own 2 (.int .i64)) TStarter)) ⊕ ((Ty.T (.pair (.own 2 (.int .i64)) TStarter)) ⊕ (Ty.T .unit))) :=
match (decide (x.2.2.2.1 < x.2.2.1)) with
| true =>
 onSome (idx x.1 x.2.2.2.1) fun _ =>
 match x.1[x.2.2.2.1.toNat]? with
 | none => none
 | some v2 =>
 onSome (idx x.1 (IntKind.i64.wrap (x.2.2.2.1 - (1 : Int)))) fun _ =>
 match x.1[(IntKind.i64.wrap (x.2.2.2.1 - (1 : Int))).toNat]? with
 | none => none
 | some v4 =>
 match cmp_Less_int64 (v2, v4, ()) with
 | none => none
 | some v5 =>
 match (!v5.1) with
 | true =>
  some (.inl (x.1, x.2.1, x.2.2.1, (IntKind.i64.wrap (x.2.2.2.1 + (1 : Int))), x.2.2.2.2.1, ()))
 | false =>
  some (.inr (.inl (x.1, x.2.1, x.2.2.1, x.2.2.2.1, x.2.2.2.2.1, ())))
| false =>
 some (.inr (.inl (x.1, x.2.1, x.2.2.1, x.2.2.2.1, x.2.2.2.2.1, ())))
noncomputable def b_slices_partialInsertionSortOrdered_int64_14 (x : (Ty.T (.pair (.own 2 (.int .i64)) TState))) : Option ((Ty.T (.pair (.own 2 (.int .i64)) TState)) ⊕ ((Ty.T (.pair (.own 2 (.int .i64)) TStarter)) ⊕ (Ty.T .unit))) :=
match (decide (x.2.2.2.2.2.1 ≥ (1 : Int))) with
| true =>
 onSome (idx x.1 x.2.2.2.2.2.1) fun _ =>
 match x.1[x.2.2.2.2.2.1.toNat]? with
 | none => none
 | some v17 =>
 onSome (idx x.1 (IntKind.i64.wrap (x.2.2.2.2.2.1 - (1 : Int)))) fun _ =>
 match x.1[(IntKind.i64.wrap (x.2.2.2.2.2.1 - (1 : Int))).toNat]? with
 | none => none
 | some v19 =>
 match cmp_Less_int64 (v17, v19, ()) with
 | none => none
 | some v20 =>
 match (!v20.1) with
 | true =>
  some (.inr (.inl (x.1, x.2.1, x.2.2.1, x.2.2.2.1, x.2.2.2.2.1, ())))
 | false =>
  onSome (idx x.1 (IntKind.i64.wrap (x.2.2.2.2.2.1 - (1 : Int)))) fun _ =>
  onSome (idx x.1 x.2.2.2.2.2.1) fun _ =>
  both (
   match x.1[(IntKind.i64.wrap (x.2.2.2.2.2.1 - (1 : Int))).toNat]? with
   | none => none
   | some v23 =>
   match x.1[x.2.2.2.2.2.1.toNat]? with
   | none => none
   | some v24 =>
   onSome (idx x.1 x.2.2.2.2.2.1) fun _ =>
   match x.1[x.2.2.2.2.2.1.toNat]? with
   | none => none
   | some v26 =>
   onSome (idx (x.1.set x.2.2.2.2.2.1.toNat v23) (IntKind.i64.wrap (x.2.2.2.2.2.1 - (1 : Int)))) fun _ =>
   match (x.1.set x.2.2.2.2.2.1.toNat v23)[(IntKind.i64.wrap (x.2.2.2.2.2.1 - (1 : Int))).toNat]? with
   | none => none
   | some v28 =>
   some (.inl (((x.1.set x.2.2.2.2.2.1.toNat v23).set ((IntKind.i64.wrap (x.2.2.2.2.2.1 - (1 : Int))).toNat) v24), x.2.1, x.2.2.1, x.2.2.2.1, x.2.2.2.2.1, (IntKind.i64.wrap (x.2.2.2.2.2.1 - (1 : Int))), ()))) (
   match x.1[x.2.2.2.2.2.1.toNat]? with
   | none => none
   | some v23 =>
   match x.1[(IntKind.i64.wrap (x.2.2.2.2.2.1 - (1 : Int))).toNat]? with
   | none => none
   | some v24 =>
   onSome (idx x.1 x.2.2.2.2.2.1) fun _ =>
   match x.1[x.2.2.2.2.2.1.toNat]? with
   | none => none
   | some v26 =>
   onSome (idx (x.1.set x.2.2.2.2.2.1.toNat v24) (IntKind.i64.wrap (x.2.2.2.2.2.1 - (1 : Int)))) fun _ =>
   match (x.1.set x.2.2.2.2.2.1.toNat v24)[(IntKind.i64.wrap (x.2.2.2.2.2.1 - (1 : Int))).toNat]? with
   | none => none
   | some v28 =>
   some (.inl (((x.1.set x.2.2.2.2.2.1.toNat v24).set ((IntKind.i64.wrap (x.2.2.2.2.2.1 - (1 : Int))).toNat) v23), x.2.1, x.2.2.1, x.2.2.2.1, x.2.2.2.2.1, (IntKind.i64.wrap (x.2.2.2.2.2.1 - (1 : Int))), ())))
| false =>
 some (.inr (.inl (x.1, x.2.1, x.2.2.1, x.2.2.2.1, x.2.2.2.2.1, ())))
noncomputable def b_slices_partialInsertionSortOrdered_int64_20 (x : (Ty.T (.pair (.own 2 (.int .i64)) TState))) : Option ((Ty.T (.pair (.own 2 (.int .i64)) TState)) ⊕ ((Ty.T (.pair (.own 2 (.int .i64)) TStarter)) ⊕ (Ty.T .unit))) :=
match (decide (x.2.2.2.2.2.1 < x.2.2.1)) with
| true =>
 onSome (idx x.1 x.2.2.2.2.2.1) fun _ =>
 match x.1[x.2.2.2.2.2.1.toNat]? with
 | none => none
 | some v32 =>
 onSome (idx x.1 (IntKind.i64.wrap (x.2.2.2.2.2.1 - (1 : Int)))) fun _ =>
 match x.1[(IntKind.i64.wrap (x.2.2.2.2.2.1 - (1 : Int))).toNat]? with
 | none => none
 | some v34 =>
 match cmp_Less_int64 (v32, v34, ()) with
 | none => none
 | some v35 =>
 match (!v35.1) with
 | true =>
  some (.inr (.inl (x.1, x.2.1, x.2.2.1, x.2.2.2.1, x.2.2.2.2.1, ())))
 | false =>
  onSome (idx x.1 (IntKind.i64.wrap (x.2.2.2.2.2.1 - (1 : Int)))) fun _ =>
  onSome (idx x.1 x.2.2.2.2.2.1) fun _ =>
  both (
   match x.1[(IntKind.i64.wrap (x.2.2.2.2.2.1 - (1 : Int))).toNat]? with
   | none => none
   | some v38 =>
   match x.1[x.2.2.2.2.2.1.toNat]? with
   | none => none
   | some v39 =>
   onSome (idx x.1 x.2.2.2.2.2.1) fun _ =>
   match x.1[x.2.2.2.2.2.1.toNat]? with
   | none => none
   | some v41 =>
   onSome (idx (x.1.set x.2.2.2.2.2.1.toNat v38) (IntKind.i64.wrap (x.2.2.2.2.2.1 - (1 : Int)))) fun _ =>
   match (x.1.set x.2.2.2.2.2.1.toNat v38)[(IntKind.i64.wrap (x.2.2.2.2.2.1 - (1 : Int))).toNat]? with
   | none => none
   | some v43 =>
   some (.inl (((x.1.set x.2.2.2.2.2.1.toNat v38).set ((IntKind.i64.wrap (x.2.2.2.2.2.1 - (1 : Int))).toNat) v39), x.2.1, x.2.2.1, x.2.2.2.1, x.2.2.2.2.1, (IntKind.i64.wrap (x.2.2.2.2.2.1 + (1 : Int))), ()))) (
   match x.1[x.2.2.2.2.2.1.toNat]? with
   | none => none
   | some v38 =>
   match x.1[(IntKind.i64.wrap (x.2.2.2.2.2.1 - (1 : Int))).toNat]? with
   | none => none
   | some v39 =>
   onSome (idx x.1 x.2.2.2.2.2.1) fun _ =>
   match x.1[x.2.2.2.2.2.1.toNat]? with
   | none => none
   | some v41 =>
   onSome (idx (x.1.set x.2.2.2.2.2.1.toNat v39) (IntKind.i64.wrap (x.2.2.2.2.2.1 - (1 : Int)))) fun _ =>
   match (x.1.set x.2.2.2.2.2.1.toNat v39)[(IntKind.i64.wrap (x.2.2.2.2.2.1 - (1 : Int))).toNat]? with
   | none => none
   | some v43 =>
   some (.inl (((x.1.set x.2.2.2.2.2.1.toNat v39).set ((IntKind.i64.wrap (x.2.2.2.2.2.1 - (1 : Int))).toNat) v38), x.2.1, x.2.2.1, x.2.2.2.1, x.2.2.2.2.1, (IntKind.i64.wrap (x.2.2.2.2.2.1 + (1 : Int))), ())))
| false =>
 some (.inr (.inl (x.1, x.2.1, x.2.2.1, x.2.2.2.1, x.2.2.2.2.1, ())))
noncomputable def b_slices_partialInsertionSortOrdered_int64_3 (x : (Ty.T (.pair (.own 2 (.int .i64)) TStarter))) : Option ((Ty.T (.pair (.own 2 (.int .i64)) TStarter)) ⊕ ((Ty.T (.pair (.own 2 (.int .i64)) .unit)) ⊕ (Ty.T (.pair (.own 2 (.int .i64)) (.pair .bool .unit))))) :=
match (decide (x.2.2.2.2.1 < (5 : Int))) with
| true =>
 match loopL b_slices_partialInsertionSortOrdered_int64_5 (x.1, x.2.1, x.2.2.1, x.2.2.2.1, x.2.2.2.2.1, ()) with
 | none => none
 | some (.inl v1) =>
  match (v1.2.2.2.1 == v1.2.2.1) with
  | true =>
   some (.inr (.inr (v1.1, true, ())))
  | false =>
   match (decide ((IntKind.i64.wrap (v1.2.2.1 - v1.2.1)) < (50 : Int))) with
   | true =>
    some (.inr (.inr (v1.1, false, ())))
   | false =>
    onSome (idx v1.1 (IntKind.i64.wrap (v1.2.2.2.1 - (1 : Int)))) fun _ =>
    onSome (idx v1.1 v1.2.2.2.1) fun _ =>
    both (
     match v1.1[(IntKind.i64.wrap (v1.2.2.2.1 - (1 : Int))).toNat]? with
     | none => none
     | some v5 =>
     match v1.1[v1.2.2.2.1.toNat]? with
     | none => none
     | some v6 =>
     onSome (idx v1.1 v1.2.2.2.1) fun _ =>
     match v1.1[v1.2.2.2.1.toNat]? with
     | none => none
     | some v8 =>
     onSome (idx (v1.1.set v1.2.2.2.1.toNat v5) (IntKind.i64.wrap (v1.2.2.2.1 - (1 : Int)))) fun _ =>
     match (v1.1.set v1.2.2.2.1.toNat v5)[(IntKind.i64.wrap (v1.2.2.2.1 - (1 : Int))).toNat]? with
     | none => none
     | some v10 =>
     match (decide ((IntKind.i64.wrap (v1.2.2.2.1 - v1.2.1)) ≥ (2 : Int))) with
     | true =>
      match loopL b_slices_partialInsertionSortOrdered_int64_14 (((v1.1.set v1.2.2.2.1.toNat v5).set ((IntKind.i64.wrap (v1.2.2.2.1 - (1 : Int))).toNat) v6), v1.2.1, v1.2.2.1, v1.2.2.2.1, v1.2.2.2.2.1, (IntKind.i64.wrap (v1.2.2.2.1 - (1 : Int))), ()) with
      | none => none
      | some (.inl v11) =>
       match (decide ((IntKind.i64.wrap (v11.2.2.1 - v11.2.2.2.1)) ≥ (2 : Int))) with
       | true =>
        match loopL b_slices_partialInsertionSortOrdered_int64_20 (v11.1, v11.2.1, v11.2.2.1, v11.2.2.2.1, v11.2.2.2.2.1, (IntKind.i64.wrap (v11.2.2.2.1 + (1 : Int))), ()) with
        | none => none
        | some (.inl v13) =>
         some (.inl (v13.1, v13.2.1, v13.2.2.1, v13.2.2.2.1, (IntKind.i64.wrap (v13.2.2.2.2.1 + (1 : Int))), ()))
        | some (.inr v15) =>
         none
       | false =>
        some (.inl (v11.1, v11.2.1, v11.2.2.1, v11.2.2.2.1, (IntKind.i64.wrap (v11.2.2.2.2.1 + (1 : Int))), ()))
      | some (.inr v16) =>
       none
     | false =>
      match (decide ((IntKind.i64.wrap (v1.2.2.1 - v1.2.2.2.1)) ≥ (2 : Int))) with
      | true =>
       match loopL b_slices_partialInsertionSortOrdered_int64_20 (((v1.1.set v1.2.2.2.1.toNat v5).set ((IntKind.i64.wrap (v1.2.2.2.1 - (1 : Int))).toNat) v6), v1.2.1, v1.2.2.1, v1.2.2.2.1, v1.2.2.2.2.1, (IntKind.i64.wrap (v1.2.2.2.1 + (1 : Int))), ()) with
       | none => none
       | some (.inl v17) =>
        some (.inl (v17.1, v17.2.1, v17.2.2.1, v17.2.2.2.1, (IntKind.i64.wrap (v17.2.2.2.2.1 + (1 : Int))), ()))
       | some (.inr v19) =>
        none
      | false =>
       some (.inl (((v1.1.set v1.2.2.2.1.toNat v5).set ((IntKind.i64.wrap (v1.2.2.2.1 - (1 : Int))).toNat) v6), v1.2.1, v1.2.2.1, v1.2.2.2.1, (IntKind.i64.wrap (v1.2.2.2.2.1 + (1 : Int))), ()))) (
     match v1.1[v1.2.2.2.1.toNat]? with
     | none => none
     | some v5 =>
     match v1.1[(IntKind.i64.wrap (v1.2.2.2.1 - (1 : Int))).toNat]? with
     | none => none
     | some v6 =>
     onSome (idx v1.1 v1.2.2.2.1) fun _ =>
     match v1.1[v1.2.2.2.1.toNat]? with
     | none => none
     | some v8 =>
     onSome (idx (v1.1.set v1.2.2.2.1.toNat v6) (IntKind.i64.wrap (v1.2.2.2.1 - (1 : Int)))) fun _ =>
     match (v1.1.set v1.2.2.2.1.toNat v6)[(IntKind.i64.wrap (v1.2.2.2.1 - (1 : Int))).toNat]? with
     | none => none
     | some v10 =>
     match (decide ((IntKind.i64.wrap (v1.2.2.2.1 - v1.2.1)) ≥ (2 : Int))) with
     | true =>
      match loopL b_slices_partialInsertionSortOrdered_int64_14 (((v1.1.set v1.2.2.2.1.toNat v6).set ((IntKind.i64.wrap (v1.2.2.2.1 - (1 : Int))).toNat) v5), v1.2.1, v1.2.2.1, v1.2.2.2.1, v1.2.2.2.2.1, (IntKind.i64.wrap (v1.2.2.2.1 - (1 : Int))), ()) with
      | none => none
      | some (.inl v11) =>
       match (decide ((IntKind.i64.wrap (v11.2.2.1 - v11.2.2.2.1)) ≥ (2 : Int))) with
       | true =>
        match loopL b_slices_partialInsertionSortOrdered_int64_20 (v11.1, v11.2.1, v11.2.2.1, v11.2.2.2.1, v11.2.2.2.2.1, (IntKind.i64.wrap (v11.2.2.2.1 + (1 : Int))), ()) with
        | none => none
        | some (.inl v13) =>
         some (.inl (v13.1, v13.2.1, v13.2.2.1, v13.2.2.2.1, (IntKind.i64.wrap (v13.2.2.2.2.1 + (1 : Int))), ()))
        | some (.inr v15) =>
         none
       | false =>
        some (.inl (v11.1, v11.2.1, v11.2.2.1, v11.2.2.2.1, (IntKind.i64.wrap (v11.2.2.2.2.1 + (1 : Int))), ()))
      | some (.inr v16) =>
       none
     | false =>
      match (decide ((IntKind.i64.wrap (v1.2.2.1 - v1.2.2.2.1)) ≥ (2 : Int))) with
      | true =>
       match loopL b_slices_partialInsertionSortOrdered_int64_20 (((v1.1.set v1.2.2.2.1.toNat v6).set ((IntKind.i64.wrap (v1.2.2.2.1 - (1 : Int))).toNat) v5), v1.2.1, v1.2.2.1, v1.2.2.2.1, v1.2.2.2.2.1, (IntKind.i64.wrap (v1.2.2.2.1 + (1 : Int))), ()) with
       | none => none
       | some (.inl v17) =>
        some (.inl (v17.1, v17.2.1, v17.2.2.1, v17.2.2.2.1, (IntKind.i64.wrap (v17.2.2.2.2.1 + (1 : Int))), ()))
       | some (.inr v19) =>
        none
      | false =>
       some (.inl (((v1.1.set v1.2.2.2.1.toNat v6).set ((IntKind.i64.wrap (v1.2.2.2.1 - (1 : Int))).toNat) v5), v1.2.1, v1.2.2.1, v1.2.2.2.1, (IntKind.i64.wrap (v1.2.2.2.2.1 + (1 : Int))), ())))
 | some (.inr v20) =>
  none
| false =>
 some (.inr (.inl (x.1, ())))
noncomputable def slices_partialInsertionSortOrdered_int64 (x : Ty.T (.pair (.own 2 (.int .i64)) (.pair (.int .i64) (.pair (.int .i64) .unit)))) : Option (Ty.T (.pair .bool (.pair (.own 2 (.int .i64)) .unit))) :=
match loopL b_slices_partialInsertionSortOrdered_int64_3 (x.1, x.2.1, x.2.2.1, (IntKind.i64.wrap (x.2.1 + (1 : Int))), (0 : Int), ()) with
| none => none
| some (.inl v21) =>
 some (false, v21.1, ())
| some (.inr v22) =>
 some (v22.2.1, v22.1, ())
noncomputable def S_slices_partialInsertionSortOrdered_int64 : Spec := ⟨(.pair (.own 2 (.int .i64)) (.pair (.int .i64) (.pair (.int .i64) .unit))), (.pair .bool .unit), (.pair (.own 2 (.int .i64)) .unit), rfl, slices_partialInsertionSortOrdered_int64⟩
noncomputable def σ_slices_partialInsertionSortOrdered_int64 : FuncId → Option Spec := sig [(172, S_cmp_Less_int64)]
theorem σok_slices_partialInsertionSortOrdered_int64 : ∀ f s, σ_slices_partialInsertionSortOrdered_int64 f = some s → FnOK Try.prog f s := sig_ok (l := [(172, S_cmp_Less_int64)]) ⟨ok_cmp_Less_int64, trivial⟩
noncomputable def Λ_slices_partialInsertionSortOrdered_int64 : Nat → Option LSpec := lkp (loopList (bodyOf Try.f171)) [⟨[0, 1, 2, 7, 8], (.pair (.own 2 (.int .i64)) TStarter), 0, [0], (.pair (.own 2 (.int .i64)) .unit), [0, 6], (.pair (.own 2 (.int .i64)) (.pair .bool .unit)), loopL b_slices_partialInsertionSortOrdered_int64_3⟩, ⟨[0, 1, 2, 7, 8], (.pair (.own 2 (.int .i64)) TStarter), 2, [0, 1, 2, 7, 8], (.pair (.own 2 (.int .i64)) TStarter), [], .unit, loopL b_slices_partialInsertionSortOrdered_int64_5⟩, ⟨[0, 1, 2, 7, 8, 9], (.pair (.own 2 (.int .i64)) TState), 4, [0, 1, 2, 7, 8], (.pair (.own 2 (.int .i64)) TStarter), [], .unit, loopL b_slices_partialInsertionSortOrdered_int64_14⟩, ⟨[0, 1, 2, 7, 8, 10], (.pair (.own 2 (.int .i64)) TState), 6, [0, 1, 2, 7, 8], (.pair (.own 2 (.int .i64)) TStarter), [], .unit, loopL b_slices_partialInsertionSortOrdered_int64_20⟩]
theorem lok_slices_partialInsertionSortOrdered_int64_3 (x) : codeK Γ0 E0 σ_slices_partialInsertionSortOrdered_int64 Λ_slices_partialInsertionSortOrdered_int64 Try.f171.ntmps (nthLoop Try.f171 0) (mkF Try.f171.ntmps [0, 1, 2, 7, 8] (.pair (.own 2 (.int .i64)) TStarter) x) (readK σ_slices_partialInsertionSortOrdered_int64 Try.f171.ntmps [0, 1, 2, 7, 8] (.pair (.own 2 (.int .i64)) TStarter) 0 [0] (.pair (.own 2 (.int .i64)) .unit) [0, 6] (.pair (.own 2 (.int .i64)) (.pair .bool .unit))) = b_slices_partialInsertionSortOrdered_int64_3 x := by kernel_rfl
theorem lok_slices_partialInsertionSortOrdered_int64_5 (x) : codeK Γ0 E0 σ_slices_partialInsertionSortOrdered_int64 Λ_slices_partialInsertionSortOrdered_int64 Try.f171.ntmps (nthLoop Try.f171 1) (mkF Try.f171.ntmps [0, 1, 2, 7, 8] (.pair (.own 2 (.int .i64)) TStarter) x) (readK σ_slices_partialInsertionSortOrdered_int64 Try.f171.ntmps [0, 1, 2, 7, 8] (.pair (.own 2 (.int .i64)) TStarter) 2 [0, 1, 2, 7, 8] (.pair (.own 2 (.int .i64)) TStarter) [] .unit) = b_slices_partialInsertionSortOrdered_int64_5 x := by kernel_rfl
theorem lok_slices_partialInsertionSortOrdered_int64_14 (x) : codeK Γ0 E0 σ_slices_partialInsertionSortOrdered_int64 Λ_slices_partialInsertionSortOrdered_int64 Try.f171.ntmps (nthLoop Try.f171 2) (mkF Try.f171.ntmps [0, 1, 2, 7, 8, 9] (.pair (.own 2 (.int .i64)) TState) x) (readK σ_slices_partialInsertionSortOrdered_int64 Try.f171.ntmps [0, 1, 2, 7, 8, 9] (.pair (.own 2 (.int .i64)) TState) 4 [0, 1, 2, 7, 8] (.pair (.own 2 (.int .i64)) TStarter) [] .unit) = b_slices_partialInsertionSortOrdered_int64_14 x := by kernel_rfl
theorem lok_slices_partialInsertionSortOrdered_int64_20 (x) : codeK Γ0 E0 σ_slices_partialInsertionSortOrdered_int64 Λ_slices_partialInsertionSortOrdered_int64 Try.f171.ntmps (nthLoop Try.f171 3) (mkF Try.f171.ntmps [0, 1, 2, 7, 8, 10] (.pair (.own 2 (.int .i64)) TState) x) (readK σ_slices_partialInsertionSortOrdered_int64 Try.f171.ntmps [0, 1, 2, 7, 8, 10] (.pair (.own 2 (.int .i64)) TState) 6 [0, 1, 2, 7, 8] (.pair (.own 2 (.int .i64)) TStarter) [] .unit) = b_slices_partialInsertionSortOrdered_int64_20 x := by kernel_rfl
theorem ok_slices_partialInsertionSortOrdered_int64 : FnOK Try.prog 171 S_slices_partialInsertionSortOrdered_int64 := fn_ok (Λ := Λ_slices_partialInsertionSortOrdered_int64) tab0 σok_slices_partialInsertionSortOrdered_int64 Try.func171 (by kernel_rfl) (show Try.f171.body = some (bodyOf Try.f171) by kernel_rfl) [⟨[0, 1, 2, 7, 8], (.pair (.own 2 (.int .i64)) TStarter), 0, [0], (.pair (.own 2 (.int .i64)) .unit), [0, 6], (.pair (.own 2 (.int .i64)) (.pair .bool .unit)), loopL b_slices_partialInsertionSortOrdered_int64_3⟩, ⟨[0, 1, 2, 7, 8], (.pair (.own 2 (.int .i64)) TStarter), 2, [0, 1, 2, 7, 8], (.pair (.own 2 (.int .i64)) TStarter), [], .unit, loopL b_slices_partialInsertionSortOrdered_int64_5⟩, ⟨[0, 1, 2, 7, 8, 9], (.pair (.own 2 (.int .i64)) TState), 4, [0, 1, 2, 7, 8], (.pair (.own 2 (.int .i64)) TStarter), [], .unit, loopL b_slices_partialInsertionSortOrdered_int64_14⟩, ⟨[0, 1, 2, 7, 8, 10], (.pair (.own 2 (.int .i64)) TState), 6, [0, 1, 2, 7, 8], (.pair (.own 2 (.int .i64)) TStarter), [], .unit, loopL b_slices_partialInsertionSortOrdered_int64_20⟩] rfl (by kernel_rfl) (by exact ⟨loop_LOK (lok_slices_partialInsertionSortOrdered_int64_3), loop_LOK (lok_slices_partialInsertionSortOrdered_int64_5), loop_LOK (lok_slices_partialInsertionSortOrdered_int64_14), loop_LOK (lok_slices_partialInsertionSortOrdered_int64_20), trivial⟩) (by kernel_rfl)
  fun x y h => (show execFn Γ0 E0 σ_slices_partialInsertionSortOrdered_int64 Λ_slices_partialInsertionSortOrdered_int64 Try.f171 S_slices_partialInsertionSortOrdered_int64 x = slices_partialInsertionSortOrdered_int64 x by kernel_rfl).trans h

noncomputable def b_slices_partitionEqualOrdered_int64_3 (x : (Ty.T (.pair (.own 2 (.int .i64)) (.pair (.int .i64) (.pair (.int .i64) (.pair (.int .i64) .unit)))))) : Option ((Ty.T (.pair (.own 2 (.int .i64)) (.pair (.int .i64) (.pair (.int .i64) (.pair (.int .i64) .unit))))) ⊕ ((Ty.T (.pair (.own 2 (.int .i64)) (.pair (.int .i64) (.pair (.int .i64) (.pair (.int .i64) .unit))))) ⊕ (Ty.T .unit))) :=
match (decide (x.2.2.1 ≤ x.2.2.2.1)) with
| true =>
 onSome (idx x.1 x.2.1) fun _ =>
 match x.1[x.2.1.toNat]? with
 | none => none
 | some v10 =>
 onSome (idx x.1 x.2.2.1) fun _ =>
 match x.1[x.2.2.1.toNat]? with
 | none => none
 | some v12 =>
 match cmp_Less_int64 (v10, v12, ()) with
 | none => none
 | some v13 =>
 match (!v13.1) with
 | true =>
  some (.inl (x.1, x.2.1, (IntKind.i64.wrap (x.2.2.1 + (1 : Int))), x.2.2.2.1, ()))
 | false =>
  some (.inr (.inl (x.1, x.2.1, x.2.2.1, x.2.2.2.1, ())))
| false =>
 some (.inr (.inl (x.1, x.2.1, x.2.2.1, x.2.2.2.1, ())))
noncomputable def b_slices_partitionEqualOrdered_int64_5 (x : (Ty.T (.pair (.own 2 (.int .i64)) (.pair (.int .i64) (.pair (.int .i64) (.pair (.int .i64) .unit)))))) : Option ((Ty.T (.pair (.own 2 (.int .i64)) (.pair (.int .i64) (.pair (.int .i64) (.pair (.int .i64) .unit))))) ⊕ ((Ty.T (.pair (.own 2 (.int .i64)) (.pair (.int .i64) (.pair (.int .i64) (.pair (.int .i64) .unit))))) ⊕ (Ty.T .unit))) :=
match (decide (x.2.2.1 ≤ x.2.2.2.1)) with
| true =>
 onSome (idx x.1 x.2.1) fun _ =>
 match x.1[x.2.1.toNat]? with
 | none => none
 | some v17 =>
 onSome (idx x.1 x.2.2.2.1) fun _ =>
 match x.1[x.2.2.2.1.toNat]? with
 | none => none
 | some v19 =>
 match cmp_Less_int64 (v17, v19, ()) with
 | none => none
 | some v20 =>
 match v20.1 with
 | true =>
  some (.inl (x.1, x.2.1, x.2.2.1, (IntKind.i64.wrap (x.2.2.2.1 - (1 : Int))), ()))
 | false =>
  some (.inr (.inl (x.1, x.2.1, x.2.2.1, x.2.2.2.1, ())))
| false =>
 some (.inr (.inl (x.1, x.2.1, x.2.2.1, x.2.2.2.1, ())))
noncomputable def b_slices_partitionEqualOrdered_int64_1003 (x : (Ty.T (.pair (.own 2 (.int .i64)) (.pair (.int .i64) (.pair (.int .i64) (.pair (.int .i64) .unit)))))) : Option ((Ty.T (.pair (.own 2 (.int .i64)) (.pair (.int .i64) (.pair (.int .i64) (.pair (.int .i64) .unit))))) ⊕ ((Ty.T (.pair (.own 2 (.int .i64)) (.pair (.int .i64) .unit))) ⊕ (Ty.T .unit))) :=
match loopL b_slices_partitionEqualOrdered_int64_3 (x.1, x.2.1, x.2.2.1, x.2.2.2.1, ()) with
| none => none
| some (.inl v9) =>
 match loopL b_slices_partitionEqualOrdered_int64_5 (v9.1, v9.2.1, v9.2.2.1, v9.2.2.2.1, ()) with
 | none => none
 | some (.inl v11) =>
  match (decide (v11.2.2.1 > v11.2.2.2.1)) with
  | true =>
   some (.inr (.inl (v11.1, v11.2.2.1, ())))
  | false =>
   onSome (idx v11.1 v11.2.2.2.1) fun _ =>
   onSome (idx v11.1 v11.2.2.1) fun _ =>
   both (
    match v11.1[v11.2.2.2.1.toNat]? with
    | none => none
    | some v15 =>
    match v11.1[v11.2.2.1.toNat]? with
    | none => none
    | some v16 =>
    onSome (idx v11.1 v11.2.2.1) fun _ =>
    match v11.1[v11.2.2.1.toNat]? with
    | none => none
    | some v18 =>
    onSome (idx (v11.1.set v11.2.2.1.toNat v15) v11.2.2.2.1) fun _ =>
    match (v11.1.set v11.2.2.1.toNat v15)[v11.2.2.2.1.toNat]? with
    | none => none
    | some v20 =>
    some (.inl (((v11.1.set v11.2.2.1.toNat v15).set v11.2.2.2.1.toNat v16), v11.2.1, (IntKind.i64.wrap (v11.2.2.1 + (1 : Int))), (IntKind.i64.wrap (v11.2.2.2.1 - (1 : Int))), ()))) (
    match v11.1[v11.2.2.1.toNat]? with
    | none => none
    | some v15 =>
    match v11.1[v11.2.2.2.1.toNat]? with
    | none => none
    | some v16 =>
    onSome (idx v11.1 v11.2.2.1) fun _ =>
    match v11.1[v11.2.2.1.toNat]? with
    | none => none
    | some v18 =>
    onSome (idx (v11.1.set v11.2.2.1.toNat v16) v11.2.2.2.1) fun _ =>
    match (v11.1.set v11.2.2.1.toNat v16)[v11.2.2.2.1.toNat]? with
    | none => none
    | some v20 =>
    some (.inl (((v11.1.set v11.2.2.1.toNat v16).set v11.2.2.2.1.toNat v15), v11.2.1, (IntKind.i64.wrap (v11.2.2.1 + (1 : Int))), (IntKind.i64.wrap (v11.2.2.2.1 - (1 : Int))), ())))
 | some (.inr v21) =>
  some (.inr (.inr (())))
| some (.inr v22) =>
 some (.inr (.inr (())))
noncomputable def slices_partitionEqualOrdered_int64 (x : Ty.T (.pair (.own 2 (.int .i64)) (.pair (.int .i64) (.pair (.int .i64) (.pair (.int .i64) .unit))))) : Option (Ty.T (.pair (.int .i64) (.pair (.own 2 (.int .i64)) .unit))) :=
onSome (idx x.1 x.2.2.2.1) fun _ =>
onSome (idx x.1 x.2.1) fun _ =>
both (
 match x.1[x.2.2.2.1.toNat]? with
 | none => none
 | some v3 =>
 match x.1[x.2.1.toNat]? with
 | none => none
 | some v4 =>
 onSome (idx x.1 x.2.1) fun _ =>
 match x.1[x.2.1.toNat]? with
 | none => none
 | some v6 =>
 onSome (idx (x.1.set x.2.1.toNat v3) x.2.2.2.1) fun _ =>
 match (x.1.set x.2.1.toNat v3)[x.2.2.2.1.toNat]? with
 | none => none
 | some v8 =>
 match loopL b_slices_partitionEqualOrdered_int64_1003 (((x.1.set x.2.1.toNat v3).set x.2.2.2.1.toNat v4), x.2.1, (IntKind.i64.wrap (x.2.1 + (1 : Int))), (IntKind.i64.wrap (x.2.2.1 - (1 : Int))), ()) with
 | none => none
 | some (.inl v23) =>
  some (v23.2.1, v23.1, ())
 | some (.inr v25) =>
  none) (
 match x.1[x.2.1.toNat]? with
 | none => none
 | some v3 =>
 match x.1[x.2.2.2.1.toNat]? with
 | none => none
 | some v4 =>
 onSome (idx x.1 x.2.1) fun _ =>
 match x.1[x.2.1.toNat]? with
 | none => none
 | some v6 =>
 onSome (idx (x.1.set x.2.1.toNat v4) x.2.2.2.1) fun _ =>
 match (x.1.set x.2.1.toNat v4)[x.2.2.2.1.toNat]? with
 | none => none
 | some v8 =>
 match loopL b_slices_partitionEqualOrdered_int64_1003 (((x.1.set x.2.1.toNat v4).set x.2.2.2.1.toNat v3), x.2.1, (IntKind.i64.wrap (x.2.1 + (1 : Int))), (IntKind.i64.wrap (x.2.2.1 - (1 : Int))), ()) with
 | none => none
 | some (.inl v9) =>
  some (v9.2.1, v9.1, ())
 | some (.inr v11) =>
  none)
noncomputable def S_slices_partitionEqualOrdered_int64 : Spec := ⟨(.pair (.own 2 (.int .i64)) (.pair (.int .i64) (.pair (.int .i64) (.pair (.int .i64) .unit)))), (.pair (.int .i64) .unit), (.pair (.own 2 (.int .i64)) .unit), rfl, slices_partitionEqualOrdered_int64⟩
noncomputable def σ_slices_partitionEqualOrdered_int64 : FuncId → Option Spec := sig [(172, S_cmp_Less_int64)]
theorem σok_slices_partitionEqualOrdered_int64 : ∀ f s, σ_slices_partitionEqualOrdered_int64 f = some s → FnOK Try.prog f s := sig_ok (l := [(172, S_cmp_Less_int64)]) ⟨ok_cmp_Less_int64, trivial⟩
noncomputable def Λ_slices_partitionEqualOrdered_int64 : Nat → Option LSpec := lkp (loopList (bodyOf Try.f173)) [⟨[0, 1, 9, 10], (.pair (.own 2 (.int .i64)) (.pair (.int .i64) (.pair (.int .i64) (.pair (.int .i64) .unit)))), 0, [0, 9], (.pair (.own 2 (.int .i64)) (.pair (.int .i64) .unit)), [], .unit, loopL b_slices_partitionEqualOrdered_int64_1003⟩, ⟨[0, 1, 9, 10], (.pair (.own 2 (.int .i64)) (.pair (.int .i64) (.pair (.int .i64) (.pair (.int .i64) .unit)))), 2, [0, 1, 9, 10], (.pair (.own 2 (.int .i64)) (.pair (.int .i64) (.pair (.int .i64) (.pair (.int .i64) .unit)))), [], .unit, loopL b_slices_partitionEqualOrdered_int64_3⟩, ⟨[0, 1, 9, 10], (.pair (.own 2 (.int .i64)) (.pair (.int .i64) (.pair (.int .i64) (.pair (.int .i64) .unit)))), 4, [0, 1, 9, 10], (.pair (.own 2 (.int .i64)) (.pair (.int .i64) (.pair (.int .i64) (.pair (.int .i64) .unit)))), [], .unit, loopL b_slices_partitionEqualOrdered_int64_5⟩]
theorem lok_slices_partitionEqualOrdered_int64_1003 (x) : codeK Γ0 E0 σ_slices_partitionEqualOrdered_int64 Λ_slices_partitionEqualOrdered_int64 Try.f173.ntmps (nthLoop Try.f173 0) (mkF Try.f173.ntmps [0, 1, 9, 10] (.pair (.own 2 (.int .i64)) (.pair (.int .i64) (.pair (.int .i64) (.pair (.int .i64) .unit)))) x) (readK σ_slices_partitionEqualOrdered_int64 Try.f173.ntmps [0, 1, 9, 10] (.pair (.own 2 (.int .i64)) (.pair (.int .i64) (.pair (.int .i64) (.pair (.int .i64) .unit)))) 0 [0, 9] (.pair (.own 2 (.int .i64)) (.pair (.int .i64) .unit)) [] .unit) = b_slices_partitionEqualOrdered_int64_1003 x := by kernel_rfl
theorem lok_slices_partitionEqualOrdered_int64_3 (x) : codeK Γ0 E0 σ_slices_partitionEqualOrdered_int64 Λ_slices_partitionEqualOrdered_int64 Try.f173.ntmps (nthLoop Try.f173 1) (mkF Try.f173.ntmps [0, 1, 9, 10] (.pair (.own 2 (.int .i64)) (.pair (.int .i64) (.pair (.int .i64) (.pair (.int .i64) .unit)))) x) (readK σ_slices_partitionEqualOrdered_int64 Try.f173.ntmps [0, 1, 9, 10] (.pair (.own 2 (.int .i64)) (.pair (.int .i64) (.pair (.int .i64) (.pair (.int .i64) .unit)))) 2 [0, 1, 9, 10] (.pair (.own 2 (.int .i64)) (.pair (.int .i64) (.pair (.int .i64) (.pair (.int .i64) .unit)))) [] .unit) = b_slices_partitionEqualOrdered_int64_3 x := by kernel_rfl
theorem lok_slices_partitionEqualOrdered_int64_5 (x) : codeK Γ0 E0 σ_slices_partitionEqualOrdered_int64 Λ_slices_partitionEqualOrdered_int64 Try.f173.ntmps (nthLoop Try.f173 2) (mkF Try.f173.ntmps [0, 1, 9, 10] (.pair (.own 2 (.int .i64)) (.pair (.int .i64) (.pair (.int .i64) (.pair (.int .i64) .unit)))) x) (readK σ_slices_partitionEqualOrdered_int64 Try.f173.ntmps [0, 1, 9, 10] (.pair (.own 2 (.int .i64)) (.pair (.int .i64) (.pair (.int .i64) (.pair (.int .i64) .unit)))) 4 [0, 1, 9, 10] (.pair (.own 2 (.int .i64)) (.pair (.int .i64) (.pair (.int .i64) (.pair (.int .i64) .unit)))) [] .unit) = b_slices_partitionEqualOrdered_int64_5 x := by kernel_rfl
theorem ok_slices_partitionEqualOrdered_int64 : FnOK Try.prog 173 S_slices_partitionEqualOrdered_int64 := fn_ok (Λ := Λ_slices_partitionEqualOrdered_int64) tab0 σok_slices_partitionEqualOrdered_int64 Try.func173 (by kernel_rfl) (show Try.f173.body = some (bodyOf Try.f173) by kernel_rfl) [⟨[0, 1, 9, 10], (.pair (.own 2 (.int .i64)) (.pair (.int .i64) (.pair (.int .i64) (.pair (.int .i64) .unit)))), 0, [0, 9], (.pair (.own 2 (.int .i64)) (.pair (.int .i64) .unit)), [], .unit, loopL b_slices_partitionEqualOrdered_int64_1003⟩, ⟨[0, 1, 9, 10], (.pair (.own 2 (.int .i64)) (.pair (.int .i64) (.pair (.int .i64) (.pair (.int .i64) .unit)))), 2, [0, 1, 9, 10], (.pair (.own 2 (.int .i64)) (.pair (.int .i64) (.pair (.int .i64) (.pair (.int .i64) .unit)))), [], .unit, loopL b_slices_partitionEqualOrdered_int64_3⟩, ⟨[0, 1, 9, 10], (.pair (.own 2 (.int .i64)) (.pair (.int .i64) (.pair (.int .i64) (.pair (.int .i64) .unit)))), 4, [0, 1, 9, 10], (.pair (.own 2 (.int .i64)) (.pair (.int .i64) (.pair (.int .i64) (.pair (.int .i64) .unit)))), [], .unit, loopL b_slices_partitionEqualOrdered_int64_5⟩] rfl (by kernel_rfl) (by exact ⟨loop_LOK (lok_slices_partitionEqualOrdered_int64_1003), loop_LOK (lok_slices_partitionEqualOrdered_int64_3), loop_LOK (lok_slices_partitionEqualOrdered_int64_5), trivial⟩) (by kernel_rfl)
  fun x y h => (show execFn Γ0 E0 σ_slices_partitionEqualOrdered_int64 Λ_slices_partitionEqualOrdered_int64 Try.f173 S_slices_partitionEqualOrdered_int64 x = slices_partitionEqualOrdered_int64 x by kernel_rfl).trans h

noncomputable def b_slices_partitionOrdered_int64_3 (x : (Ty.T (.pair (.own 2 (.int .i64)) (.pair (.int .i64) (.pair (.int .i64) (.pair (.int .i64) .unit)))))) : Option ((Ty.T (.pair (.own 2 (.int .i64)) (.pair (.int .i64) (.pair (.int .i64) (.pair (.int .i64) .unit))))) ⊕ ((Ty.T (.pair (.own 2 (.int .i64)) (.pair (.int .i64) (.pair (.int .i64) (.pair (.int .i64) .unit))))) ⊕ (Ty.T .unit))) :=
match (decide (x.2.2.1 ≤ x.2.2.2.1)) with
| true =>
 onSome (idx x.1 x.2.2.1) fun _ =>
 match x.1[x.2.2.1.toNat]? with
 | none => none
 | some v10 =>
 onSome (idx x.1 x.2.1) fun _ =>
 match x.1[x.2.1.toNat]? with
 | none => none
 | some v12 =>
 match cmp_Less_int64 (v10, v12, ()) with
 | none => none
 | some v13 =>
 match v13.1 with
 | true =>
  some (.inl (x.1, x.2.1, (IntKind.i64.wrap (x.2.2.1 + (1 : Int))), x.2.2.2.1, ()))
 | false =>
  some (.inr (.inl (x.1, x.2.1, x.2.2.1, x.2.2.2.1, ())))
| false =>
 some (.inr (.inl (x.1, x.2.1, x.2.2.1, x.2.2.2.1, ())))
noncomputable def b_slices_partitionOrdered_int64_5 (x : (Ty.T (.pair (.own 2 (.int .i64)) (.pair (.int .i64) (.pair (.int .i64) (.pair (.int .i64) .unit)))))) : Option ((Ty.T (.pair (.own 2 (.int .i64)) (.pair (.int .i64) (.pair (.int .i64) (.pair (.int .i64) .unit))))) ⊕ ((Ty.T (.pair (.own 2 (.int .i64)) (.pair (.int .i64) (.pair (.int .i64) (.pair (.int .i64) .unit))))) ⊕ (Ty.T .unit))) :=
match (decide (x.2.2.1 ≤ x.2.2.2.1)) with
| true =>
 onSome (idx x.1 x.2.2.2.1) fun _ =>
 match x.1[x.2.2.2.1.toNat]? with
 | none => none
 | some v17 =>
 onSome (idx x.1 x.2.1) fun _ =>
 match x.1[x.2.1.toNat]? with
 | none => none
 | some v19 =>
 match cmp_Less_int64 (v17, v19, ()) with
 | none => none
 | some v20 =>
 match (!v20.1) with
 | true =>
  some (.inl (x.1, x.2.1, x.2.2.1, (IntKind.i64.wrap (x.2.2.2.1 - (1 : Int))), ()))
 | false =>
  some (.inr (.inl (x.1, x.2.1, x.2.2.1, x.2.2.2.1, ())))
| false =>
 some (.inr (.inl (x.1, x.2.1, x.2.2.1, x.2.2.2.1, ())))
noncomputable def b_slices_partitionOrdered_int64_13 (x : (Ty.T (.pair (.own 2 (.int .i64)) (.pair (.int .i64) (.pair (.int .i64) (.pair (.int .i64) .unit)))))) : Option ((Ty.T (.pair (.own 2 (.int .i64)) (.pair (.int .i64) (.pair (.int .i64) (.pair (.int .i64) .unit))))) ⊕ ((Ty.T (.pair (.own 2 (.int .i64)) (.pair (.int .i64) (.pair (.int .i64) (.pair (.int .i64) .unit))))) ⊕ (Ty.T .unit))) :=
match (decide (x.2.2.1 ≤ x.2.2.2.1)) with
| true =>
 onSome (idx x.1 x.2.2.1) fun _ =>
 match x.1[x.2.2.1.toNat]? with
 | none => none
 | some v40 =>
 onSome (idx x.1 x.2.1) fun _ =>
 match x.1[x.2.1.toNat]? with
 | none => none
 | some v42 =>
 match cmp_Less_int64 (v40, v42, ()) with
 | none => none
 | some v43 =>
 match v43.1 with
 | true =>
  some (.inl (x.1, x.2.1, (IntKind.i64.wrap (x.2.2.1 + (1 : Int))), x.2.2.2.1, ()))
 | false =>
  some (.inr (.inl (x.1, x.2.1, x.2.2.1, x.2.2.2.1, ())))
| false =>
 some (.inr (.inl (x.1, x.2.1, x.2.2.1, x.2.2.2.1, ())))
noncomputable def b_slices_partitionOrdered_int64_15 (x : (Ty.T (.pair (.own 2 (.int .i64)) (.pair (.int .i64) (.pair (.int .i64) (.pair (.int .i64) .unit)))))) : Option ((Ty.T (.pair (.own 2 (.int .i64)) (.pair (.int .i64) (.pair (.int .i64) (.pair (.int .i64) .unit))))) ⊕ ((Ty.T (.pair (.own 2 (.int .i64)) (.pair (.int .i64) (.pair (.int .i64) (.pair (.int .i64) .unit))))) ⊕ (Ty.T .unit))) :=
match (decide (x.2.2.1 ≤ x.2.2.2.1)) with
| true =>
 onSome (idx x.1 x.2.2.2.1) fun _ =>
 match x.1[x.2.2.2.1.toNat]? with
 | none => none
 | some v47 =>
 onSome (idx x.1 x.2.1) fun _ =>
 match x.1[x.2.1.toNat]? with
 | none => none
 | some v49 =>
 match cmp_Less_int64 (v47, v49, ()) with
 | none => none
 | some v50 =>
 match (!v50.1) with
 | true =>
  some (.inl (x.1, x.2.1, x.2.2.1, (IntKind.i64.wrap (x.2.2.2.1 - (1 : Int))), ()))
 | false =>
  some (.inr (.inl (x.1, x.2.1, x.2.2.1, x.2.2.2.1, ())))
| false =>
 some (.inr (.inl (x.1, x.2.1, x.2.2.1, x.2.2.2.1, ())))
noncomputable def b_slices_partitionOrdered_int64_1013 (x : (Ty.T (.pair (.own 2 (.int .i64)) (.pair (.int .i64) (.pair (.int .i64) (.pair (.int .i64) .unit)))))) : Option ((Ty.T (.pair (.own 2 (.int .i64)) (.pair (.int .i64) (.pair (.int .i64) (.pair (.int .i64) .unit))))) ⊕ ((Ty.T (.pair (.own 2 (.int .i64)) (.pair (.int .i64) (.pair (.int .i64) .unit)))) ⊕ (Ty.T .unit))) :=
match loopL b_slices_partitionOrdered_int64_13 (x.1, x.2.1, x.2.2.1, x.2.2.2.1, ()) with
| none => none
| some (.inl v39) =>
 match loopL b_slices_partitionOrdered_int64_15 (v39.1, v39.2.1, v39.2.2.1, v39.2.2.2.1, ()) with
 | none => none
 | some (.inl v41) =>
  match (decide (v41.2.2.1 > v41.2.2.2.1)) with
  | true =>
   some (.inr (.inl (v41.1, v41.2.1, v41.2.2.2.1, ())))
  | false =>
   onSome (idx v41.1 v41.2.2.2.1) fun _ =>
   onSome (idx v41.1 v41.2.2.1) fun _ =>
   both (
    match v41.1[v41.2.2.2.1.toNat]? with
    | none => none
    | some v45 =>
    match v41.1[v41.2.2.1.toNat]? with
    | none => none
    | some v46 =>
    onSome (idx v41.1 v41.2.2.1) fun _ =>
    match v41.1[v41.2.2.1.toNat]? with
    | none => none
    | some v48 =>
    onSome (idx (v41.1.set v41.2.2.1.toNat v45) v41.2.2.2.1) fun _ =>
    match (v41.1.set v41.2.2.1.toNat v45)[v41.2.2.2.1.toNat]? with
    | none => none
    | some v50 =>
    some (.inl (((v41.1.set v41.2.2.1.toNat v45).set v41.2.2.2.1.toNat v46), v41.2.1, (IntKind.i64.wrap (v41.2.2.1 + (1 : Int))), (IntKind.i64.wrap (v41.2.2.2.1 - (1 : Int))), ()))) (
    match v41.1[v41.2.2.1.toNat]? with
    | none => none
    | some v45 =>
    match v41.1[v41.2.2.2.1.toNat]? with
    | none => none
    | some v46 =>
    onSome (idx v41.1 v41.2.2.1) fun _ =>
    match v41.1[v41.2.2.1.toNat]? with
    | none => none
    | some v48 =>
    onSome (idx (v41.1.set v41.2.2.1.toNat v46) v41.2.2.2.1) fun _ =>
    match (v41.1.set v41.2.2.1.toNat v46)[v41.2.2.2.1.toNat]? with
    | none => none
    | some v50 =>
    some (.inl (((v41.1.set v41.2.2.1.toNat v46).set v41.2.2.2.1.toNat v45), v41.2.1, (IntKind.i64.wrap (v41.2.2.1 + (1 : Int))), (IntKind.i64.wrap (v41.2.2.2.1 - (1 : Int))), ())))
 | some (.inr v51) =>
  some (.inr (.inr (())))
| some (.inr v52) =>
 some (.inr (.inr (())))
noncomputable def slices_partitionOrdered_int64 (x : Ty.T (.pair (.own 2 (.int .i64)) (.pair (.int .i64) (.pair (.int .i64) (.pair (.int .i64) .unit))))) : Option (Ty.T (.pair (.int .i64) (.pair .bool (.pair (.own 2 (.int .i64)) .unit)))) :=
onSome (idx x.1 x.2.2.2.1) fun _ =>
onSome (idx x.1 x.2.1) fun _ =>
both (
 match x.1[x.2.2.2.1.toNat]? with
 | none => none
 | some v3 =>
 match x.1[x.2.1.toNat]? with
 | none => none
 | some v4 =>
 onSome (idx x.1 x.2.1) fun _ =>
 match x.1[x.2.1.toNat]? with
 | none => none
 | some v6 =>
 onSome (idx (x.1.set x.2.1.toNat v3) x.2.2.2.1) fun _ =>
 match (x.1.set x.2.1.toNat v3)[x.2.2.2.1.toNat]? with
 | none => none
 | some v8 =>
 match loopL b_slices_partitionOrdered_int64_3 (((x.1.set x.2.1.toNat v3).set x.2.2.2.1.toNat v4), x.2.1, (IntKind.i64.wrap (x.2.1 + (1 : Int))), (IntKind.i64.wrap (x.2.2.1 - (1 : Int))), ()) with
 | none => none
 | some (.inl v14) =>
  match loopL b_slices_partitionOrdered_int64_5 (v14.1, v14.2.1, v14.2.2.1, v14.2.2.2.1, ()) with
  | none => none
  | some (.inl v21) =>
   match (decide (v21.2.2.1 > v21.2.2.2.1)) with
   | true =>
    onSome (idx v21.1 v21.2.1) fun _ =>
    onSome (idx v21.1 v21.2.2.2.1) fun _ =>
    both (
     match v21.1[v21.2.1.toNat]? with
     | none => none
     | some v25 =>
     match v21.1[v21.2.2.2.1.toNat]? with
     | none => none
     | some v26 =>
     onSome (idx v21.1 v21.2.2.2.1) fun _ =>
     match v21.1[v21.2.2.2.1.toNat]? with
     | none => none
     | some v28 =>
     onSome (idx (v21.1.set v21.2.2.2.1.toNat v25) v21.2.1) fun _ =>
     match (v21.1.set v21.2.2.2.1.toNat v25)[v21.2.1.toNat]? with
     | none => none
     | some v30 =>
     some (v21.2.2.2.1, true, ((v21.1.set v21.2.2.2.1.toNat v25).set v21.2.1.toNat v26), ())) (
     match v21.1[v21.2.2.2.1.toNat]? with
     | none => none
     | some v25 =>
     match v21.1[v21.2.1.toNat]? with
     | none => none
     | some v26 =>
     onSome (idx v21.1 v21.2.2.2.1) fun _ =>
     match v21.1[v21.2.2.2.1.toNat]? with
     | none => none
     | some v28 =>
     onSome (idx (v21.1.set v21.2.2.2.1.toNat v26) v21.2.1) fun _ =>
     match (v21.1.set v21.2.2.2.1.toNat v26)[v21.2.1.toNat]? with
     | none => none
     | some v30 =>
     some (v21.2.2.2.1, true, ((v21.1.set v21.2.2.2.1.toNat v26).set v21.2.1.toNat v25), ()))
   | false =>
    onSome (idx v21.1 v21.2.2.2.1) fun _ =>
    onSome (idx v21.1 v21.2.2.1) fun _ =>
    both (
     match v21.1[v21.2.2.2.1.toNat]? with
     | none => none
     | some v33 =>
     match v21.1[v21.2.2.1.toNat]? with
     | none => none
     | some v34 =>
     onSome (idx v21.1 v21.2.2.1) fun _ =>
     match v21.1[v21.2.2.1.toNat]? with
     | none => none
     | some v36 =>
     onSome (idx (v21.1.set v21.2.2.1.toNat v33) v21.2.2.2.1) fun _ =>
     match (v21.1.set v21.2.2.1.toNat v33)[v21.2.2.2.1.toNat]? with
     | none => none
     | some v38 =>
     match loopL b_slices_partitionOrdered_int64_1013 (((v21.1.set v21.2.2.1.toNat v33).set v21.2.2.2.1.toNat v34), v21.2.1, (IntKind.i64.wrap (v21.2.2.1 + (1 : Int))), (IntKind.i64.wrap (v21.2.2.2.1 - (1 : Int))), ()) with
     | none => none
     | some (.inl v53) =>
      onSome (idx v53.1 v53.2.1) fun _ =>
      onSome (idx v53.1 v53.2.2.1) fun _ =>
      both (
       match v53.1[v53.2.1.toNat]? with
       | none => none
       | some v57 =>
       match v53.1[v53.2.2.1.toNat]? with
       | none => none
       | some v58 =>
       onSome (idx v53.1 v53.2.2.1) fun _ =>
       match v53.1[v53.2.2.1.toNat]? with
       | none => none
       | some v60 =>
       onSome (idx (v53.1.set v53.2.2.1.toNat v57) v53.2.1) fun _ =>
       match (v53.1.set v53.2.2.1.toNat v57)[v53.2.1.toNat]? with
       | none => none
       | some v62 =>
       some (v53.2.2.1, false, ((v53.1.set v53.2.2.1.toNat v57).set v53.2.1.toNat v58), ())) (
       match v53.1[v53.2.2.1.toNat]? with
       | none => none
       | some v57 =>
       match v53.1[v53.2.1.toNat]? with
       | none => none
       | some v58 =>
       onSome (idx v53.1 v53.2.2.1) fun _ =>
       match v53.1[v53.2.2.1.toNat]? with
       | none => none
       | some v60 =>
       onSome (idx (v53.1.set v53.2.2.1.toNat v58) v53.2.1) fun _ =>
       match (v53.1.set v53.2.2.1.toNat v58)[v53.2.1.toNat]? with
       | none => none
       | some v62 =>
       some (v53.2.2.1, false, ((v53.1.set v53.2.2.1.toNat v58).set v53.2.1.toNat v57), ()))
     | some (.inr v63) =>
      none) (
     match v21.1[v21.2.2.1.toNat]? with
     | none => none
     | some v33 =>
     match v21.1[v21.2.2.2.1.toNat]? with
     | none => none
     | some v34 =>
     onSome (idx v21.1 v21.2.2.1) fun _ =>
     match v21.1[v21.2.2.1.toNat]? with
     | none => none
     | some v36 =>
     onSome (idx (v21.1.set v21.2.2.1.toNat v34) v21.2.2.2.1) fun _ =>
     match (v21.1.set v21.2.2.1.toNat v34)[v21.2.2.2.1.toNat]? with
     | none => none
     | some v38 =>
     match loopL b_slices_partitionOrdered_int64_1013 (((v21.1.set v21.2.2.1.toNat v34).set v21.2.2.2.1.toNat v33), v21.2.1, (IntKind.i64.wrap (v21.2.2.1 + (1 : Int))), (IntKind.i64.wrap (v21.2.2.2.1 - (1 : Int))), ()) with
     | none => none
     | some (.inl v39) =>
      onSome (idx v39.1 v39.2.1) fun _ =>
      onSome (idx v39.1 v39.2.2.1) fun _ =>
      both (
       match v39.1[v39.2.1.toNat]? with
       | none => none
       | some v43 =>
       match v39.1[v39.2.2.1.toNat]? with
       | none => none
       | some v44 =>
       onSome (idx v39.1 v39.2.2.1) fun _ =>
       match v39.1[v39.2.2.1.toNat]? with
       | none => none
       | some v46 =>
       onSome (idx (v39.1.set v39.2.2.1.toNat v43) v39.2.1) fun _ =>
       match (v39.1.set v39.2.2.1.toNat v43)[v39.2.1.toNat]? with
       | none => none
       | some v48 =>
       some (v39.2.2.1, false, ((v39.1.set v39.2.2.1.toNat v43).set v39.2.1.toNat v44), ())) (
       match v39.1[v39.2.2.1.toNat]? with
       | none => none
       | some v43 =>
       match v39.1[v39.2.1.toNat]? with
       | none => none
       | some v44 =>
       onSome (idx v39.1 v39.2.2.1) fun _ =>
       match v39.1[v39.2.2.1.toNat]? with
       | none => none
       | some v46 =>
       onSome (idx (v39.1.set v39.2.2.1.toNat v44) v39.2.1) fun _ =>
       match (v39.1.set v39.2.2.1.toNat v44)[v39.2.1.toNat]? with
       | none => none
       | some v48 =>
       some (v39.2.2.1, false, ((v39.1.set v39.2.2.1.toNat v44).set v39.2.1.toNat v43), ()))
     | some (.inr v49) =>
      none)
  | some (.inr v64) =>
   none
 | some (.inr v65) =>
  none) (
 match x.1[x.2.1.toNat]? with
 | none => none
 | some v3 =>
 match x.1[x.2.2.2.1.toNat]? with
 | none => none
 | some v4 =>
 onSome (idx x.1 x.2.1) fun _ =>
 match x.1[x.2.1.toNat]? with
 | none => none
 | some v6 =>
 onSome (idx (x.1.set x.2.1.toNat v4) x.2.2.2.1) fun _ =>
 match (x.1.set x.2.1.toNat v4)[x.2.2.2.1.toNat]? with
 | none => none
 | some v8 =>
 match loopL b_slices_partitionOrdered_int64_3 (((x.1.set x.2.1.toNat v4).set x.2.2.2.1.toNat v3), x.2.1, (IntKind.i64.wrap (x.2.1 + (1 : Int))), (IntKind.i64.wrap (x.2.2.1 - (1 : Int))), ()) with
 | none => none
 | some (.inl v9) =>
  match loopL b_slices_partitionOrdered_int64_5 (v9.1, v9.2.1, v9.2.2.1, v9.2.2.2.1, ()) with
  | none => none
  | some (.inl v11) =>
   match (decide (v11.2.2.1 > v11.2.2.2.1)) with
   | true =>
    onSome (idx v11.1 v11.2.1) fun _ =>
    onSome (idx v11.1 v11.2.2.2.1) fun _ =>
    both (
     match v11.1[v11.2.1.toNat]? with
     | none => none
     | some v15 =>
     match v11.1[v11.2.2.2.1.toNat]? with
     | none => none
     | some v16 =>
     onSome (idx v11.1 v11.2.2.2.1) fun _ =>
     match v11.1[v11.2.2.2.1.toNat]? with
     | none => none
     | some v18 =>
     onSome (idx (v11.1.set v11.2.2.2.1.toNat v15) v11.2.1) fun _ =>
     match (v11.1.set v11.2.2.2.1.toNat v15)[v11.2.1.toNat]? with
     | none => none
     | some v20 =>
     some (v11.2.2.2.1, true, ((v11.1.set v11.2.2.2.1.toNat v15).set v11.2.1.toNat v16), ())) (
     match v11.1[v11.2.2.2.1.toNat]? with
     | none => none
     | some v15 =>
     match v11.1[v11.2.1.toNat]? with
     | none => none
     | some v16 =>
     onSome (idx v11.1 v11.2.2.2.1) fun _ =>
     match v11.1[v11.2.2.2.1.toNat]? with
     | none => none
     | some v18 =>
     onSome (idx (v11.1.set v11.2.2.2.1.toNat v16) v11.2.1) fun _ =>
     match (v11.1.set v11.2.2.2.1.toNat v16)[v11.2.1.toNat]? with
     | none => none
     | some v20 =>
     some (v11.2.2.2.1, true, ((v11.1.set v11.2.2.2.1.toNat v16).set v11.2.1.toNat v15), ()))
   | false =>
    onSome (idx v11.1 v11.2.2.2.1) fun _ =>
    onSome (idx v11.1 v11.2.2.1) fun _ =>
    both (
     match v11.1[v11.2.2.2.1.toNat]? with
     | none => none
     | some v23 =>
     match v11.1[v11.2.2.1.toNat]? with
     | none => none
     | some v24 =>
     onSome (idx v11.1 v11.2.2.1) fun _ =>
     match v11.1[v11.2.2.1.toNat]? with
     | none => none
     | some v26 =>
     onSome (idx (v11.1.set v11.2.2.1.toNat v23) v11.2.2.2.1) fun _ =>
     match (v11.1.set v11.2.2.1.toNat v23)[v11.2.2.2.1.toNat]? with
     | none => none
     | some v28 =>
     match loopL b_slices_partitionOrdered_int64_1013 (((v11.1.set v11.2.2.1.toNat v23).set v11.2.2.2.1.toNat v24), v11.2.1, (IntKind.i64.wrap (v11.2.2.1 + (1 : Int))), (IntKind.i64.wrap (v11.2.2.2.1 - (1 : Int))), ()) with
     | none => none
     | some (.inl v29) =>
      onSome (idx v29.1 v29.2.1) fun _ =>
      onSome (idx v29.1 v29.2.2.1) fun _ =>
      both (
       match v29.1[v29.2.1.toNat]? with
       | none => none
       | some v33 =>
       match v29.1[v29.2.2.1.toNat]? with
       | none => none
       | some v34 =>
       onSome (idx v29.1 v29.2.2.1) fun _ =>
       match v29.1[v29.2.2.1.toNat]? with
       | none => none
       | some v36 =>
       onSome (idx (v29.1.set v29.2.2.1.toNat v33) v29.2.1) fun _ =>
       match (v29.1.set v29.2.2.1.toNat v33)[v29.2.1.toNat]? with
       | none => none
       | some v38 =>
       some (v29.2.2.1, false, ((v29.1.set v29.2.2.1.toNat v33).set v29.2.1.toNat v34), ())) (
       match v29.1[v29.2.2.1.toNat]? with
       | none => none
       | some v33 =>
       match v29.1[v29.2.1.toNat]? with
       | none => none
       | some v34 =>
       onSome (idx v29.1 v29.2.2.1) fun _ =>
       match v29.1[v29.2.2.1.toNat]? with
       | none => none
       | some v36 =>
       onSome (idx (v29.1.set v29.2.2.1.toNat v34) v29.2.1) fun _ =>
       match (v29.1.set v29.2.2.1.toNat v34)[v29.2.1.toNat]? with
       | none => none
       | some v38 =>
       some (v29.2.2.1, false, ((v29.1.set v29.2.2.1.toNat v34).set v29.2.1.toNat v33), ()))
     | some (.inr v39) =>
      none) (
     match v11.1[v11.2.2.1.toNat]? with
     | none => none
     | some v23 =>
     match v11.1[v11.2.2.2.1.toNat]? with
     | none => none
     | some v24 =>
     onSome (idx v11.1 v11.2.2.1) fun _ =>
     match v11.1[v11.2.2.1.toNat]? with
     | none => none
     | some v26 =>
     onSome (idx (v11.1.set v11.2.2.1.toNat v24) v11.2.2.2.1) fun _ =>
     match (v11.1.set v11.2.2.1.toNat v24)[v11.2.2.2.1.toNat]? with
     | none => none
     | some v28 =>
     match loopL b_slices_partitionOrdered_int64_1013 (((v11.1.set v11.2.2.1.toNat v24).set v11.2.2.2.1.toNat v23), v11.2.1, (IntKind.i64.wrap (v11.2.2.1 + (1 : Int))), (IntKind.i64.wrap (v11.2.2.2.1 - (1 : Int))), ()) with
     | none => none
     | some (.inl v29) =>
      onSome (idx v29.1 v29.2.1) fun _ =>
      onSome (idx v29.1 v29.2.2.1) fun _ =>
      both (
       match v29.1[v29.2.1.toNat]? with
       | none => none
       | some v33 =>
       match v29.1[v29.2.2.1.toNat]? with
       | none => none
       | some v34 =>
       onSome (idx v29.1 v29.2.2.1) fun _ =>
       match v29.1[v29.2.2.1.toNat]? with
       | none => none
       | some v36 =>
       onSome (idx (v29.1.set v29.2.2.1.toNat v33) v29.2.1) fun _ =>
       match (v29.1.set v29.2.2.1.toNat v33)[v29.2.1.toNat]? with
       | none => none
       | some v38 =>
       some (v29.2.2.1, false, ((v29.1.set v29.2.2.1.toNat v33).set v29.2.1.toNat v34), ())) (
       match v29.1[v29.2.2.1.toNat]? with
       | none => none
       | some v33 =>
       match v29.1[v29.2.1.toNat]? with
       | none => none
       | some v34 =>
       onSome (idx v29.1 v29.2.2.1) fun _ =>
       match v29.1[v29.2.2.1.toNat]? with
       | none => none
       | some v36 =>
       onSome (idx (v29.1.set v29.2.2.1.toNat v34) v29.2.1) fun _ =>
       match (v29.1.set v29.2.2.1.toNat v34)[v29.2.1.toNat]? with
       | none => none
       | some v38 =>
       some (v29.2.2.1, false, ((v29.1.set v29.2.2.1.toNat v34).set v29.2.1.toNat v33), ()))
     | some (.inr v39) =>
      none)
  | some (.inr v40) =>
   none
 | some (.inr v41) =>
  none)
noncomputable def S_slices_partitionOrdered_int64 : Spec := ⟨(.pair (.own 2 (.int .i64)) (.pair (.int .i64) (.pair (.int .i64) (.pair (.int .i64) .unit)))), (.pair (.int .i64) (.pair .bool .unit)), (.pair (.own 2 (.int .i64)) .unit), rfl, slices_partitionOrdered_int64⟩
noncomputable def σ_slices_partitionOrdered_int64 : FuncId → Option Spec := sig [(172, S_cmp_Less_int64)]
theorem σok_slices_partitionOrdered_int64 : ∀ f s, σ_slices_partitionOrdered_int64 f = some s → FnOK Try.prog f s := sig_ok (l := [(172, S_cmp_Less_int64)]) ⟨ok_cmp_Less_int64, trivial⟩
noncomputable def Λ_slices_partitionOrdered_int64 : Nat → Option LSpec := lkp (loopList (bodyOf Try.f174)) [⟨[0, 1, 10, 11], (.pair (.own 2 (.int .i64)) (.pair (.int .i64) (.pair (.int .i64) (.pair (.int .i64) .unit)))), 0, [0, 1, 10, 11], (.pair (.own 2 (.int .i64)) (.pair (.int .i64) (.pair (.int .i64) (.pair (.int .i64) .unit)))), [], .unit, loopL b_slices_partitionOrdered_int64_3⟩, ⟨[0, 1, 10, 11], (.pair (.own 2 (.int .i64)) (.pair (.int .i64) (.pair (.int .i64) (.pair (.int .i64) .unit)))), 2, [0, 1, 10, 11], (.pair (.own 2 (.int .i64)) (.pair (.int .i64) (.pair (.int .i64) (.pair (.int .i64) .unit)))), [], .unit, loopL b_slices_partitionOrdered_int64_5⟩, ⟨[0, 1, 10, 11], (.pair (.own 2 (.int .i64)) (.pair (.int .i64) (.pair (.int .i64) (.pair (.int .i64) .unit)))), 4, [0, 1, 11], (.pair (.own 2 (.int .i64)) (.pair (.int .i64) (.pair (.int .i64) .unit))), [], .unit, loopL b_slices_partitionOrdered_int64_1013⟩, ⟨[0, 1, 10, 11], (.pair (.own 2 (.int .i64)) (.pair (.int .i64) (.pair (.int .i64) (.pair (.int .i64) .unit)))), 6, [0, 1, 10, 11], (.pair (.own 2 (.int .i64)) (.pair (.int .i64) (.pair (.int .i64) (.pair (.int .i64) .unit)))), [], .unit, loopL b_slices_partitionOrdered_int64_13⟩, ⟨[0, 1, 10, 11], (.pair (.own 2 (.int .i64)) (.pair (.int .i64) (.pair (.int .i64) (.pair (.int .i64) .unit)))), 8, [0, 1, 10, 11], (.pair (.own 2 (.int .i64)) (.pair (.int .i64) (.pair (.int .i64) (.pair (.int .i64) .unit)))), [], .unit, loopL b_slices_partitionOrdered_int64_15⟩]
theorem lok_slices_partitionOrdered_int64_3 (x) : codeK Γ0 E0 σ_slices_partitionOrdered_int64 Λ_slices_partitionOrdered_int64 Try.f174.ntmps (nthLoop Try.f174 0) (mkF Try.f174.ntmps [0, 1, 10, 11] (.pair (.own 2 (.int .i64)) (.pair (.int .i64) (.pair (.int .i64) (.pair (.int .i64) .unit)))) x) (readK σ_slices_partitionOrdered_int64 Try.f174.ntmps [0, 1, 10, 11] (.pair (.own 2 (.int .i64)) (.pair (.int .i64) (.pair (.int .i64) (.pair (.int .i64) .unit)))) 0 [0, 1, 10, 11] (.pair (.own 2 (.int .i64)) (.pair (.int .i64) (.pair (.int .i64) (.pair (.int .i64) .unit)))) [] .unit) = b_slices_partitionOrdered_int64_3 x := by kernel_rfl
theorem lok_slices_partitionOrdered_int64_5 (x) : codeK Γ0 E0 σ_slices_partitionOrdered_int64 Λ_slices_partitionOrdered_int64 Try.f174.ntmps (nthLoop Try.f174 1) (mkF Try.f174.ntmps [0, 1, 10, 11] (.pair (.own 2 (.int .i64)) (.pair (.int .i64) (.pair (.int .i64) (.pair (.int .i64) .unit)))) x) (readK σ_slices_partitionOrdered_int64 Try.f174.ntmps [0, 1, 10, 11] (.pair (.own 2 (.int .i64)) (.pair (.int .i64) (.pair (.int .i64) (.pair (.int .i64) .unit)))) 2 [0, 1, 10, 11] (.pair (.own 2 (.int .i64)) (.pair (.int .i64) (.pair (.int .i64) (.pair (.int .i64) .unit)))) [] .unit) = b_slices_partitionOrdered_int64_5 x := by kernel_rfl
theorem lok_slices_partitionOrdered_int64_1013 (x) : codeK Γ0 E0 σ_slices_partitionOrdered_int64 Λ_slices_partitionOrdered_int64 Try.f174.ntmps (nthLoop Try.f174 2) (mkF Try.f174.ntmps [0, 1, 10, 11] (.pair (.own 2 (.int .i64)) (.pair (.int .i64) (.pair (.int .i64) (.pair (.int .i64) .unit)))) x) (readK σ_slices_partitionOrdered_int64 Try.f174.ntmps [0, 1, 10, 11] (.pair (.own 2 (.int .i64)) (.pair (.int .i64) (.pair (.int .i64) (.pair (.int .i64) .unit)))) 4 [0, 1, 11] (.pair (.own 2 (.int .i64)) (.pair (.int .i64) (.pair (.int .i64) .unit))) [] .unit) = b_slices_partitionOrdered_int64_1013 x := by kernel_rfl
theorem lok_slices_partitionOrdered_int64_13 (x) : codeK Γ0 E0 σ_slices_partitionOrdered_int64 Λ_slices_partitionOrdered_int64 Try.f174.ntmps (nthLoop Try.f174 3) (mkF Try.f174.ntmps [0, 1, 10, 11] (.pair (.own 2 (.int .i64)) (.pair (.int .i64) (.pair (.int .i64) (.pair (.int .i64) .unit)))) x) (readK σ_slices_partitionOrdered_int64 Try.f174.ntmps [0, 1, 10, 11] (.pair (.own 2 (.int .i64)) (.pair (.int .i64) (.pair (.int .i64) (.pair (.int .i64) .unit)))) 6 [0, 1, 10, 11] (.pair (.own 2 (.int .i64)) (.pair (.int .i64) (.pair (.int .i64) (.pair (.int .i64) .unit)))) [] .unit) = b_slices_partitionOrdered_int64_13 x := by kernel_rfl
theorem lok_slices_partitionOrdered_int64_15 (x) : codeK Γ0 E0 σ_slices_partitionOrdered_int64 Λ_slices_partitionOrdered_int64 Try.f174.ntmps (nthLoop Try.f174 4) (mkF Try.f174.ntmps [0, 1, 10, 11] (.pair (.own 2 (.int .i64)) (.pair (.int .i64) (.pair (.int .i64) (.pair (.int .i64) .unit)))) x) (readK σ_slices_partitionOrdered_int64 Try.f174.ntmps [0, 1, 10, 11] (.pair (.own 2 (.int .i64)) (.pair (.int .i64) (.pair (.int .i64) (.pair (.int .i64) .unit)))) 8 [0, 1, 10, 11] (.pair (.own 2 (.int .i64)) (.pair (.int .i64) (.pair (.int .i64) (.pair (.int .i64) .unit)))) [] .unit) = b_slices_partitionOrdered_int64_15 x := by kernel_rfl
theorem ok_slices_partitionOrdered_int64 : FnOK Try.prog 174 S_slices_partitionOrdered_int64 := fn_ok (Λ := Λ_slices_partitionOrdered_int64) tab0 σok_slices_partitionOrdered_int64 Try.func174 (by kernel_rfl) (show Try.f174.body = some (bodyOf Try.f174) by kernel_rfl) [⟨[0, 1, 10, 11], (.pair (.own 2 (.int .i64)) (.pair (.int .i64) (.pair (.int .i64) (.pair (.int .i64) .unit)))), 0, [0, 1, 10, 11], (.pair (.own 2 (.int .i64)) (.pair (.int .i64) (.pair (.int .i64) (.pair (.int .i64) .unit)))), [], .unit, loopL b_slices_partitionOrdered_int64_3⟩, ⟨[0, 1, 10, 11], (.pair (.own 2 (.int .i64)) (.pair (.int .i64) (.pair (.int .i64) (.pair (.int .i64) .unit)))), 2, [0, 1, 10, 11], (.pair (.own 2 (.int .i64)) (.pair (.int .i64) (.pair (.int .i64) (.pair (.int .i64) .unit)))), [], .unit, loopL b_slices_partitionOrdered_int64_5⟩, ⟨[0, 1, 10, 11], (.pair (.own 2 (.int .i64)) (.pair (.int .i64) (.pair (.int .i64) (.pair (.int .i64) .unit)))), 4, [0, 1, 11], (.pair (.own 2 (.int .i64)) (.pair (.int .i64) (.pair (.int .i64) .unit))), [], .unit, loopL b_slices_partitionOrdered_int64_1013⟩, ⟨[0, 1, 10, 11], (.pair (.own 2 (.int .i64)) (.pair (.int .i64) (.pair (.int .i64) (.pair (.int .i64) .unit)))), 6, [0, 1, 10, 11], (.pair (.own 2 (.int .i64)) (.pair (.int .i64) (.pair (.int .i64) (.pair (.int .i64) .unit)))), [], .unit, loopL b_slices_partitionOrdered_int64_13⟩, ⟨[0, 1, 10, 11], (.pair (.own 2 (.int .i64)) (.pair (.int .i64) (.pair (.int .i64) (.pair (.int .i64) .unit)))), 8, [0, 1, 10, 11], (.pair (.own 2 (.int .i64)) (.pair (.int .i64) (.pair (.int .i64) (.pair (.int .i64) .unit)))), [], .unit, loopL b_slices_partitionOrdered_int64_15⟩] rfl (by kernel_rfl) (by exact ⟨loop_LOK (lok_slices_partitionOrdered_int64_3), loop_LOK (lok_slices_partitionOrdered_int64_5), loop_LOK (lok_slices_partitionOrdered_int64_1013), loop_LOK (lok_slices_partitionOrdered_int64_13), loop_LOK (lok_slices_partitionOrdered_int64_15), trivial⟩) (by kernel_rfl)
  fun x y h => (show execFn Γ0 E0 σ_slices_partitionOrdered_int64 Λ_slices_partitionOrdered_int64 Try.f174 S_slices_partitionOrdered_int64 x = slices_partitionOrdered_int64 x by kernel_rfl).trans h

noncomputable def b_slices_pdqsortOrdered_int64_2 (rec : Ty.T (.pair (.own 2 (.int .i64)) (.pair (.int .i64) (.pair (.int .i64) (.pair (.int .i64) .unit)))) → Option (Ty.T (.pair (.own 2 (.int .i64)) .unit))) (x : (Ty.T (.pair (.own 2 (.int .i64)) (.pair (.int .i64) (.pair (.int .i64) (.pair (.int .i64) (.pair .bool (.pair .bool .unit)))))))) : Option ((Ty.T (.pair (.own 2 (.int .i64)) (.pair (.int .i64) (.pair (.int .i64) (.pair (.int .i64) (.pair .bool (.pair .bool .unit))))))) ⊕ ((Ty.T .unit) ⊕ (Ty.T (.pair (.own 2 (.int .i64)) .unit)))) :=
match (decide ((IntKind.i64.wrap (x.2.2.1 - x.2.1)) ≤ (12 : Int))) with
| true =>
 match slices_insertionSortOrdered_int64 (x.1, x.2.1, x.2.2.1, ()) with
 | none => none
 | some v1 =>
 some (.inr (.inr (v1.1, ())))
| false =>
 match (x.2.2.2.1 == (0 : Int)) with
 | true =>
  match slices_heapSortOrdered_int64 (x.1, x.2.1, x.2.2.1, ()) with
  | none => none
  | some v2 =>
  some (.inr (.inr (v2.1, ())))
 | false =>
  match (!x.2.2.2.2.1) with
  | true =>
   match slices_breakPatternsOrdered_int64 (x.1, x.2.1, x.2.2.1, ()) with
   | none => none
   | some v3 =>
   match slices_choosePivotOrdered_int64 (v3.1, x.2.1, x.2.2.1, ()) with
   | none => none
   | some v4 =>
   match (v4.2.1 == (2 : Int)) with
   | true =>
    match slices_reverseRangeOrdered_int64 (v4.2.2.1, x.2.1, x.2.2.1, ()) with
    | none => none
    | some v5 =>
    match x.2.2.2.2.1 with
    | true =>
     match x.2.2.2.2.2.1 with
     | true =>
      match ((1 : Int) == (1 : Int)) with
      | true =>
       match slices_partialInsertionSortOrdered_int64 (v5.1, x.2.1, x.2.2.1, ()) with
       | none => none
       | some v6 =>
       match v6.1 with
       | true =>
        some (.inr (.inr (v6.2.1, ())))
       | false =>
        match (decide (x.2.1 > (0 : Int))) with
        | true =>
         onSome (idx v6.2.1 (IntKind.i64.wrap (x.2.1 - (1 : Int)))) fun _ =>
         match v6.2.1[(IntKind.i64.wrap (x.2.1 - (1 : Int))).toNat]? with
         | none => none
         | some v8 =>
         onSome (idx v6.2.1 (IntKind.i64.wrap ((IntKind.i64.wrap (x.2.2.1 - (1 : Int))) - (IntKind.i64.wrap (v4.1 - x.2.1))))) fun _ =>
         match v6.2.1[(IntKind.i64.wrap ((IntKind.i64.wrap (x.2.2.1 - (1 : Int))) - (IntKind.i64.wrap (v4.1 - x.2.1)))).toNat]? with
         | none => none
         | some v10 =>
         match cmp_Less_int64 (v8, v10, ()) with
         | none => none
         | some v11 =>
         match (!v11.1) with
         | true =>
          match slices_partitionEqualOrdered_int64 (v6.2.1, x.2.1, x.2.2.1, (IntKind.i64.wrap ((IntKind.i64.wrap (x.2.2.1 - (1 : Int))) - (IntKind.i64.wrap (v4.1 - x.2.1)))), ()) with
          | none => none
          | some v12 =>
          some (.inl (v12.2.1, v12.1, x.2.2.1, (IntKind.i64.wrap (x.2.2.2.1 - (1 : Int))), x.2.2.2.2.1, x.2.2.2.2.2.1, ()))
         | false =>
          match slices_partitionOrdered_int64 (v6.2.1, x.2.1, x.2.2.1, (IntKind.i64.wrap ((IntKind.i64.wrap (x.2.2.1 - (1 : Int))) - (IntKind.i64.wrap (v4.1 - x.2.1)))), ()) with
          | none => none
          | some v13 =>
          match (decide ((IntKind.i64.wrap (v13.1 - x.2.1)) < (IntKind.i64.wrap (x.2.2.1 - v13.1)))) with
          | true =>
           match rec (v13.2.2.1, x.2.1, v13.1, (IntKind.i64.wrap (x.2.2.2.1 - (1 : Int))), ()) with
           | none => none
           | some v14 =>
           some (.inl (v14.1, (IntKind.i64.wrap (v13.1 + (1 : Int))), x.2.2.1, (IntKind.i64.wrap (x.2.2.2.1 - (1 : Int))), (decide ((IntKind.i64.wrap (v13.1 - x.2.1)) ≥ (IntKind.i64.wrap (Int.tdiv (IntKind.i64.wrap (x.2.2.1 - x.2.1)) (8 : Int))))), v13.2.1, ()))
          | false =>
           match rec (v13.2.2.1, (IntKind.i64.wrap (v13.1 + (1 : Int))), x.2.2.1, (IntKind.i64.wrap (x.2.2.2.1 - (1 : Int))), ()) with
           | none => none
           | some v15 =>
           some (.inl (v15.1, x.2.1, v13.1, (IntKind.i64.wrap (x.2.2.2.1 - (1 : Int))), (decide ((IntKind.i64.wrap (x.2.2.1 - v13.1)) ≥ (IntKind.i64.wrap (Int.tdiv (IntKind.i64.wrap (x.2.2.1 - x.2.1)) (8 : Int))))), v13.2.1, ()))
        | false =>
         match slices_partitionOrdered_int64 (v6.2.1, x.2.1, x.2.2.1, (IntKind.i64.wrap ((IntKind.i64.wrap (x.2.2.1 - (1 : Int))) - (IntKind.i64.wrap (v4.1 - x.2.1)))), ()) with
         | none => none
         | some v16 =>
         match (decide ((IntKind.i64.wrap (v16.1 - x.2.1)) < (IntKind.i64.wrap (x.2.2.1 - v16.1)))) with
         | true =>
          match rec (v16.2.2.1, x.2.1, v16.1, (IntKind.i64.wrap (x.2.2.2.1 - (1 : Int))), ()) with
          | none => none
          | some v17 =>
          some (.inl (v17.1, (IntKind.i64.wrap (v16.1 + (1 : Int))), x.2.2.1, (IntKind.i64.wrap (x.2.2.2.1 - (1 : Int))), (decide ((IntKind.i64.wrap (v16.1 - x.2.1)) ≥ (IntKind.i64.wrap (Int.tdiv (IntKind.i64.wrap (x.2.2.1 - x.2.1)) (8 : Int))))), v16.2.1, ()))
         | false =>
          match rec (v16.2.2.1, (IntKind.i64.wrap (v16.1 + (1 : Int))), x.2.2.1, (IntKind.i64.wrap (x.2.2.2.1 - (1 : Int))), ()) with
          | none => none
          | some v18 =>
          some (.inl (v18.1, x.2.1, v16.1, (IntKind.i64.wrap (x.2.2.2.1 - (1 : Int))), (decide ((IntKind.i64.wrap (x.2.2.1 - v16.1)) ≥ (IntKind.i64.wrap (Int.tdiv (IntKind.i64.wrap (x.2.2.1 - x.2.1)) (8 : Int))))), v16.2.1, ()))
      | false =>
       match (decide (x.2.1 > (0 : Int))) with
       | true =>
        onSome (idx v5.1 (IntKind.i64.wrap (x.2.1 - (1 : Int)))) fun _ =>
        match v5.1[(IntKind.i64.wrap (x.2.1 - (1 : Int))).toNat]? with
        | none => none
        | some v20 =>
        onSome (idx v5.1 (IntKind.i64.wrap ((IntKind.i64.wrap (x.2.2.1 - (1 : Int))) - (IntKind.i64.wrap (v4.1 - x.2.1))))) fun _ =>
        match v5.1[(IntKind.i64.wrap ((IntKind.i64.wrap (x.2.2.1 - (1 : Int))) - (IntKind.i64.wrap (v4.1 - x.2.1)))).toNat]? with
        | none => none
        | some v22 =>
        match cmp_Less_int64 (v20, v22, ()) with
        | none => none
        | some v23 =>
        match (!v23.1) with
        | true =>
         match slices_partitionEqualOrdered_int64 (v5.1, x.2.1, x.2.2.1, (IntKind.i64.wrap ((IntKind.i64.wrap (x.2.2.1 - (1 : Int))) - (IntKind.i64.wrap (v4.1 - x.2.1)))), ()) with
         | none => none
         | some v24 =>
         some (.inl (v24.2.1, v24.1, x.2.2.1, (IntKind.i64.wrap (x.2.2.2.1 - (1 : Int))), x.2.2.2.2.1, x.2.2.2.2.2.1, ()))
        | false =>
         match slices_partitionOrdered_int64 (v5.1, x.2.1, x.2.2.1, (IntKind.i64.wrap ((IntKind.i64.wrap (x.2.2.1 - (1 : Int))) - (IntKind.i64.wrap (v4.1 - x.2.1)))), ()) with
         | none => none
         | some v25 =>
         match (decide ((IntKind.i64.wrap (v25.1 - x.2.1)) < (IntKind.i64.wrap (x.2.2.1 - v25.1)))) with
         | true =>
          match rec (v25.2.2.1, x.2.1, v25.1, (IntKind.i64.wrap (x.2.2.2.1 - (1 : Int))), ()) with
          | none => none
          | some v26 =>
          some (.inl (v26.1, (IntKind.i64.wrap (v25.1 + (1 : Int))), x.2.2.1, (IntKind.i64.wrap (x.2.2.2.1 - (1 : Int))), (decide ((IntKind.i64.wrap (v25.1 - x.2.1)) ≥ (IntKind.i64.wrap (Int.tdiv (IntKind.i64.wrap (x.2.2.1 - x.2.1)) (8 : Int))))), v25.2.1, ()))
         | false =>
          match rec (v25.2.2.1, (IntKind.i64.wrap (v25.1 + (1 : Int))), x.2.2.1, (IntKind.i64.wrap (x.2.2.2.1 - (1 : Int))), ()) with
          | none => none
          | some v27 =>
          some (.inl (v27.1, x.2.1, v25.1, (IntKind.i64.wrap (x.2.2.2.1 - (1 : Int))), (decide ((IntKind.i64.wrap (x.2.2.1 - v25.1)) ≥ (IntKind.i64.wrap (Int.tdiv (IntKind.i64.wrap (x.2.2.1 - x.2.1)) (8 : Int))))), v25.2.1, ()))
       | false =>
        match slices_partitionOrdered_int64 (v5.1, x.2.1, x.2.2.1, (IntKind.i64.wrap ((IntKind.i64.wrap (x.2.2.1 - (1 : Int))) - (IntKind.i64.wrap (v4.1 - x.2.1)))), ()) with
        | none => none
        | some v28 =>
        match (decide ((IntKind.i64.wrap (v28.1 - x.2.1)) < (IntKind.i64.wrap (x.2.2.1 - v28.1)))) with
        | true =>
         match rec (v28.2.2.1, x.2.1, v28.1, (IntKind.i64.wrap (x.2.2.2.1 - (1 : Int))), ()) with
         | none => none
         | some v29 =>
         some (.inl (v29.1, (IntKind.i64.wrap (v28.1 + (1 : Int))), x.2.2.1, (IntKind.i64.wrap (x.2.2.2.1 - (1 : Int))), (decide ((IntKind.i64.wrap (v28.1 - x.2.1)) ≥ (IntKind.i64.wrap (Int.tdiv (IntKind.i64.wrap (x.2.2.1 - x.2.1)) (8 : Int))))), v28.2.1, ()))
        | false =>
         match rec (v28.2.2.1, (IntKind.i64.wrap (v28.1 + (1 : Int))), x.2.2.1, (IntKind.i64.wrap (x.2.2.2.1 - (1 : Int))), ()) with
         | none => none
         | some v30 =>
         some (.inl (v30.1, x.2.1, v28.1, (IntKind.i64.wrap (x.2.2.2.1 - (1 : Int))), (decide ((IntKind.i64.wrap (x.2.2.1 - v28.1)) ≥ (IntKind.i64.wrap (Int.tdiv (IntKind.i64.wrap (x.2.2.1 - x.2.1)) (8 : Int))))), v28.2.1, ()))
     | false =>
      match (decide (x.2.1 > (0 : Int))) with
      | true =>
       onSome (idx v5.1 (IntKind.i64.wrap (x.2.1 - (1 : Int)))) fun _ =>
       match v5.1[(IntKind.i64.wrap (x.2.1 - (1 : Int))).toNat]? with
       | none => none
       | some v32 =>
       onSome (idx v5.1 (IntKind.i64.wrap ((IntKind.i64.wrap (x.2.2.1 - (1 : Int))) - (IntKind.i64.wrap (v4.1 - x.2.1))))) fun _ =>
       match v5.1[(IntKind.i64.wrap ((IntKind.i64.wrap (x.2.2.1 - (1 : Int))) - (IntKind.i64.wrap (v4.1 - x.2.1)))).toNat]? with
       | none => none
       | some v34 =>
       match cmp_Less_int64 (v32, v34, ()) with
       | none => none
       | some v35 =>
       match (!v35.1) with
       | true =>
        match slices_partitionEqualOrdered_int64 (v5.1, x.2.1, x.2.2.1, (IntKind.i64.wrap ((IntKind.i64.wrap (x.2.2.1 - (1 : Int))) - (IntKind.i64.wrap (v4.1 - x.2.1)))), ()) with
        | none => none
        | some v36 =>
        some (.inl (v36.2.1, v36.1, x.2.2.1, (IntKind.i64.wrap (x.2.2.2.1 - (1 : Int))), x.2.2.2.2.1, x.2.2.2.2.2.1, ()))
       | false =>
        match slices_partitionOrdered_int64 (v5.1, x.2.1, x.2.2.1, (IntKind.i64.wrap ((IntKind.i64.wrap (x.2.2.1 - (1 : Int))) - (IntKind.i64.wrap (v4.1 - x.2.1)))), ()) with
        | none => none
        | some v37 =>
        match (decide ((IntKind.i64.wrap (v37.1 - x.2.1)) < (IntKind.i64.wrap (x.2.2.1 - v37.1)))) with
        | true =>
         match rec (v37.2.2.1, x.2.1, v37.1, (IntKind.i64.wrap (x.2.2.2.1 - (1 : Int))), ()) with
         | none => none
         | some v38 =>
         some (.inl (v38.1, (IntKind.i64.wrap (v37.1 + (1 : Int))), x.2.2.1, (IntKind.i64.wrap (x.2.2.2.1 - (1 : Int))), (decide ((IntKind.i64.wrap (v37.1 - x.2.1)) ≥ (IntKind.i64.wrap (Int.tdiv (IntKind.i64.wrap (x.2.2.1 - x.2.1)) (8 : Int))))), v37.2.1, ()))
        | false =>
         match rec (v37.2.2.1, (IntKind.i64.wrap (v37.1 + (1 : Int))), x.2.2.1, (IntKind.i64.wrap (x.2.2.2.1 - (1 : Int))), ()) with
         | none => none
         | some v39 =>
         some (.inl (v39.1, x.2.1, v37.1, (IntKind.i64.wrap (x.2.2.2.1 - (1 : Int))), (decide ((IntKind.i64.wrap (x.2.2.1 - v37.1)) ≥ (IntKind.i64.wrap (Int.tdiv (IntKind.i64.wrap (x.2.2.1 - x.2.1)) (8 : Int))))), v37.2.1, ()))
      | false =>
       match slices_partitionOrdered_int64 (v5.1, x.2.1, x.2.2.1, (IntKind.i64.wrap ((IntKind.i64.wrap (x.2.2.1 - (1 : Int))) - (IntKind.i64.wrap (v4.1 - x.2.1)))), ()) with
       | none => none
       | some v40 =>
       match (decide ((IntKind.i64.wrap (v40.1 - x.2.1)) < (IntKind.i64.wrap (x.2.2.1 - v40.1)))) with
       | true =>
        match rec (v40.2.2.1, x.2.1, v40.1, (IntKind.i64.wrap (x.2.2.2.1 - (1 : Int))), ()) with
        | none => none
        | some v41 =>
        some (.inl (v41.1, (IntKind.i64.wrap (v40.1 + (1 : Int))), x.2.2.1, (IntKind.i64.wrap (x.2.2.2.1 - (1 : Int))), (decide ((IntKind.i64.wrap (v40.1 - x.2.1)) ≥ (IntKind.i64.wrap (Int.tdiv (IntKind.i64.wrap (x.2.2.1 - x.2.1)) (8 : Int))))), v40.2.1, ()))
       | false =>
        match rec (v40.2.2.1, (IntKind.i64.wrap (v40.1 + (1 : Int))), x.2.2.1, (IntKind.i64.wrap (x.2.2.2.1 - (1 : Int))), ()) with
        | none => none
        | some v42 =>
        some (.inl (v42.1, x.2.1, v40.1, (IntKind.i64.wrap (x.2.2.2.1 - (1 : Int))), (decide ((IntKind.i64.wrap (x.2.2.1 - v40.1)) ≥ (IntKind.i64.wrap (Int.tdiv (IntKind.i64.wrap (x.2.2.1 - x.2.1)) (8 : Int))))), v40.2.1, ()))
    | false =>
     match (decide (x.2.1 > (0 : Int))) with
     | true =>
      onSome (idx v5.1 (IntKind.i64.wrap (x.2.1 - (1 : Int)))) fun _ =>
      match v5.1[(IntKind.i64.wrap (x.2.1 - (1 : Int))).toNat]? with
      | none => none
      | some v44 =>
      onSome (idx v5.1 (IntKind.i64.wrap ((IntKind.i64.wrap (x.2.2.1 - (1 : Int))) - (IntKind.i64.wrap (v4.1 - x.2.1))))) fun _ =>
      match v5.1[(IntKind.i64.wrap ((IntKind.i64.wrap (x.2.2.1 - (1 : Int))) - (IntKind.i64.wrap (v4.1 - x.2.1)))).toNat]? with
      | none => none
      | some v46 =>
      match cmp_Less_int64 (v44, v46, ()) with
      | none => none
      | some v47 =>
      match (!v47.1) with
      | true =>
       match slices_partitionEqualOrdered_int64 (v5.1, x.2.1, x.2.2.1, (IntKind.i64.wrap ((IntKind.i64.wrap (x.2.2.1 - (1 : Int))) - (IntKind.i64.wrap (v4.1 - x.2.1)))), ()) with
       | none => none
       | some v48 =>
       some (.inl (v48.2.1, v48.1, x.2.2.1, (IntKind.i64.wrap (x.2.2.2.1 - (1 : Int))), x.2.2.2.2.1, x.2.2.2.2.2.1, ()))
      | false =>
       match slices_partitionOrdered_int64 (v5.1, x.2.1, x.2.2.1, (IntKind.i64.wrap ((IntKind.i64.wrap (x.2.2.1 - (1 : Int))) - (IntKind.i64.wrap (v4.1 - x.2.1)))), ()) with
       | none => none
       | some v49 =>
       match (decide ((IntKind.i64.wrap (v49.1 - x.2.1)) < (IntKind.i64.wrap (x.2.2.1 - v49.1)))) with
       | true =>
        match rec (v49.2.2.1, x.2.1, v49.1, (IntKind.i64.wrap (x.2.2.2.1 - (1 : Int))), ()) with
        | none => none
        | some v50 =>
        some (.inl (v50.1, (IntKind.i64.wrap (v49.1 + (1 : Int))), x.2.2.1, (IntKind.i64.wrap (x.2.2.2.1 - (1 : Int))), (decide ((IntKind.i64.wrap (v49.1 - x.2.1)) ≥ (IntKind.i64.wrap (Int.tdiv (IntKind.i64.wrap (x.2.2.1 - x.2.1)) (8 : Int))))), v49.2.1, ()))
       | false =>
        match rec (v49.2.2.1, (IntKind.i64.wrap (v49.1 + (1 : Int))), x.2.2.1, (IntKind.i64.wrap (x.2.2.2.1 - (1 : Int))), ()) with
        | none => none
        | some v51 =>
        some (.inl (v51.1, x.2.1, v49.1, (IntKind.i64.wrap (x.2.2.2.1 - (1 : Int))), (decide ((IntKind.i64.wrap (x.2.2.1 - v49.1)) ≥ (IntKind.i64.wrap (Int.tdiv (IntKind.i64.wrap (x.2.2.1 - x.2.1)) (8 : Int))))), v49.2.1, ()))
     | false =>
      match slices_partitionOrdered_int64 (v5.1, x.2.1, x.2.2.1, (IntKind.i64.wrap ((IntKind.i64.wrap (x.2.2.1 - (1 : Int))) - (IntKind.i64.wrap (v4.1 - x.2.1)))), ()) with
      | none => none
      | some v52 =>
      match (decide ((IntKind.i64.wrap (v52.1 - x.2.1)) < (IntKind.i64.wrap (x.2.2.1 - v52.1)))) with
      | true =>
       match rec (v52.2.2.1, x.2.1, v52.1, (IntKind.i64.wrap (x.2.2.2.1 - (1 : Int))), ()) with
       | none => none
       | some v53 =>
       some (.inl (v53.1, (IntKind.i64.wrap (v52.1 + (1 : Int))), x.2.2.1, (IntKind.i64.wrap (x.2.2.2.1 - (1 : Int))), (decide ((IntKind.i64.wrap (v52.1 - x.2.1)) ≥ (IntKind.i64.wrap (Int.tdiv (IntKind.i64.wrap (x.2.2.1 - x.2.1)) (8 : Int))))), v52.2.1, ()))
      | false =>
       match rec (v52.2.2.1, (IntKind.i64.wrap (v52.1 + (1 : Int))), x.2.2.1, (IntKind.i64.wrap (x.2.2.2.1 - (1 : Int))), ()) with
       | none => none
       | some v54 =>
       some (.inl (v54.1, x.2.1, v52.1, (IntKind.i64.wrap (x.2.2.2.1 - (1 : Int))), (decide ((IntKind.i64.wrap (x.2.2.1 - v52.1)) ≥ (IntKind.i64.wrap (Int.tdiv (IntKind.i64.wrap (x.2.2.1 - x.2.1)) (8 : Int))))), v52.2.1, ()))
   | false =>
    match x.2.2.2.2.1 with
    | true =>
     match x.2.2.2.2.2.1 with
     | true =>
      match (v4.2.1 == (1 : Int)) with
      | true =>
       match slices_partialInsertionSortOrdered_int64 (v4.2.2.1, x.2.1, x.2.2.1, ()) with
       | none => none
       | some v55 =>
       match v55.1 with
       | true =>
        some (.inr (.inr (v55.2.1, ())))
       | false =>
        match (decide (x.2.1 > (0 : Int))) with
        | true =>
         onSome (idx v55.2.1 (IntKind.i64.wrap (x.2.1 - (1 : Int)))) fun _ =>
         match v55.2.1[(IntKind.i64.wrap (x.2.1 - (1 : Int))).toNat]? with
         | none => none
         | some v57 =>
         onSome (idx v55.2.1 v4.1) fun _ =>
         match v55.2.1[v4.1.toNat]? with
         | none => none
         | some v59 =>
         match cmp_Less_int64 (v57, v59, ()) with
         | none => none
         | some v60 =>
         match (!v60.1) with
         | true =>
          match slices_partitionEqualOrdered_int64 (v55.2.1, x.2.1, x.2.2.1, v4.1, ()) with
          | none => none
          | some v61 =>
          some (.inl (v61.2.1, v61.1, x.2.2.1, (IntKind.i64.wrap (x.2.2.2.1 - (1 : Int))), x.2.2.2.2.1, x.2.2.2.2.2.1, ()))
         | false =>
          match slices_partitionOrdered_int64 (v55.2.1, x.2.1, x.2.2.1, v4.1, ()) with
          | none => none
          | some v62 =>
          match (decide ((IntKind.i64.wrap (v62.1 - x.2.1)) < (IntKind.i64.wrap (x.2.2.1 - v62.1)))) with
          | true =>
           match rec (v62.2.2.1, x.2.1, v62.1, (IntKind.i64.wrap (x.2.2.2.1 - (1 : Int))), ()) with
           | none => none
           | some v63 =>
           some (.inl (v63.1, (IntKind.i64.wrap (v62.1 + (1 : Int))), x.2.2.1, (IntKind.i64.wrap (x.2.2.2.1 - (1 : Int))), (decide ((IntKind.i64.wrap (v62.1 - x.2.1)) ≥ (IntKind.i64.wrap (Int.tdiv (IntKind.i64.wrap (x.2.2.1 - x.2.1)) (8 : Int))))), v62.2.1, ()))
          | false =>
           match rec (v62.2.2.1, (IntKind.i64.wrap (v62.1 + (1 : Int))), x.2.2.1, (IntKind.i64.wrap (x.2.2.2.1 - (1 : Int))), ()) with
           | none => none
           | some v64 =>
           some (.inl (v64.1, x.2.1, v62.1, (IntKind.i64.wrap (x.2.2.2.1 - (1 : Int))), (decide ((IntKind.i64.wrap (x.2.2.1 - v62.1)) ≥ (IntKind.i64.wrap (Int.tdiv (IntKind.i64.wrap (x.2.2.1 - x.2.1)) (8 : Int))))), v62.2.1, ()))
        | false =>
         match slices_partitionOrdered_int64 (v55.2.1, x.2.1, x.2.2.1, v4.1, ()) with
         | none => none
         | some v65 =>
         match (decide ((IntKind.i64.wrap (v65.1 - x.2.1)) < (IntKind.i64.wrap (x.2.2.1 - v65.1)))) with
         | true =>
          match rec (v65.2.2.1, x.2.1, v65.1, (IntKind.i64.wrap (x.2.2.2.1 - (1 : Int))), ()) with
          | none => none
          | some v66 =>
          some (.inl (v66.1, (IntKind.i64.wrap (v65.1 + (1 : Int))), x.2.2.1, (IntKind.i64.wrap (x.2.2.2.1 - (1 : Int))), (decide ((IntKind.i64.wrap (v65.1 - x.2.1)) ≥ (IntKind.i64.wrap (Int.tdiv (IntKind.i64.wrap (x.2.2.1 - x.2.1)) (8 : Int))))), v65.2.1, ()))
         | false =>
          match rec (v65.2.2.1, (IntKind.i64.wrap (v65.1 + (1 : Int))), x.2.2.1, (IntKind.i64.wrap (x.2.2.2.1 - (1 : Int))), ()) with
          | none => none
          | some v67 =>
          some (.inl (v67.1, x.2.1, v65.1, (IntKind.i64.wrap (x.2.2.2.1 - (1 : Int))), (decide ((IntKind.i64.wrap (x.2.2.1 - v65.1)) ≥ (IntKind.i64.wrap (Int.tdiv (IntKind.i64.wrap (x.2.2.1 - x.2.1)) (8 : Int))))), v65.2.1, ()))
      | false =>
       match (decide (x.2.1 > (0 : Int))) with
       | true =>
        onSome (idx v4.2.2.1 (IntKind.i64.wrap (x.2.1 - (1 : Int)))) fun _ =>
        match v4.2.2.1[(IntKind.i64.wrap (x.2.1 - (1 : Int))).toNat]? with
        | none => none
        | some v69 =>
        onSome (idx v4.2.2.1 v4.1) fun _ =>
        match v4.2.2.1[v4.1.toNat]? with
        | none => none
        | some v71 =>
        match cmp_Less_int64 (v69, v71, ()) with
        | none => none
        | some v72 =>
        match (!v72.1) with
        | true =>
         match slices_partitionEqualOrdered_int64 (v4.2.2.1, x.2.1, x.2.2.1, v4.1, ()) with
         | none => none
         | some v73 =>
         some (.inl (v73.2.1, v73.1, x.2.2.1, (IntKind.i64.wrap (x.2.2.2.1 - (1 : Int))), x.2.2.2.2.1, x.2.2.2.2.2.1, ()))
        | false =>
         match slices_partitionOrdered_int64 (v4.2.2.1, x.2.1, x.2.2.1, v4.1, ()) with
         | none => none
         | some v74 =>
         match (decide ((IntKind.i64.wrap (v74.1 - x.2.1)) < (IntKind.i64.wrap (x.2.2.1 - v74.1)))) with
         | true =>
          match rec (v74.2.2.1, x.2.1, v74.1, (IntKind.i64.wrap (x.2.2.2.1 - (1 : Int))), ()) with
          | none => none
          | some v75 =>
          some (.inl (v75.1, (IntKind.i64.wrap (v74.1 + (1 : Int))), x.2.2.1, (IntKind.i64.wrap (x.2.2.2.1 - (1 : Int))), (decide ((IntKind.i64.wrap (v74.1 - x.2.1)) ≥ (IntKind.i64.wrap (Int.tdiv (IntKind.i64.wrap (x.2.2.1 - x.2.1)) (8 : Int))))), v74.2.1, ()))
         | false =>
          match rec (v74.2.2.1, (IntKind.i64.wrap (v74.1 + (1 : Int))), x.2.2.1, (IntKind.i64.wrap (x.2.2.2.1 - (1 : Int))), ()) with
          | none => none
          | some v76 =>
          some (.inl (v76.1, x.2.1, v74.1, (IntKind.i64.wrap (x.2.2.2.1 - (1 : Int))), (decide ((IntKind.i64.wrap (x.2.2.1 - v74.1)) ≥ (IntKind.i64.wrap (Int.tdiv (IntKind.i64.wrap (x.2.2.1 - x.2.1)) (8 : Int))))), v74.2.1, ()))
       | false =>
        match slices_partitionOrdered_int64 (v4.2.2.1, x.2.1, x.2.2.1, v4.1, ()) with
        | none => none
        | some v77 =>
        match (decide ((IntKind.i64.wrap (v77.1 - x.2.1)) < (IntKind.i64.wrap (x.2.2.1 - v77.1)))) with
        | true =>
         match rec (v77.2.2.1, x.2.1, v77.1, (IntKind.i64.wrap (x.2.2.2.1 - (1 : Int))), ()) with
         | none => none
         | some v78 =>
         some (.inl (v78.1, (IntKind.i64.wrap (v77.1 + (1 : Int))), x.2.2.1, (IntKind.i64.wrap (x.2.2.2.1 - (1 : Int))), (decide ((IntKind.i64.wrap (v77.1 - x.2.1)) ≥ (IntKind.i64.wrap (Int.tdiv (IntKind.i64.wrap (x.2.2.1 - x.2.1)) (8 : Int))))), v77.2.1, ()))
        | false =>
         match rec (v77.2.2.1, (IntKind.i64.wrap (v77.1 + (1 : Int))), x.2.2.1, (IntKind.i64.wrap (x.2.2.2.1 - (1 : Int))), ()) with
         | none => none
         | some v79 =>
         some (.inl (v79.1, x.2.1, v77.1, (IntKind.i64.wrap (x.2.2.2.1 - (1 : Int))), (decide ((IntKind.i64.wrap (x.2.2.1 - v77.1)) ≥ (IntKind.i64.wrap (Int.tdiv (IntKind.i64.wrap (x.2.2.1 - x.2.1)) (8 : Int))))), v77.2.1, ()))
     | false =>
      match (decide (x.2.1 > (0 : Int))) with
      | true =>
       onSome (idx v4.2.2.1 (IntKind.i64.wrap (x.2.1 - (1 : Int)))) fun _ =>
       match v4.2.2.1[(IntKind.i64.wrap (x.2.1 - (1 : Int))).toNat]? with
       | none => none
       | some v81 =>
       onSome (idx v4.2.2.1 v4.1) fun _ =>
       match v4.2.2.1[v4.1.toNat]? with
       | none => none
       | some v83 =>
       match cmp_Less_int64 (v81, v83, ()) with
       | none => none
       | some v84 =>
       match (!v84.1) with
       | true =>
        match slices_partitionEqualOrdered_int64 (v4.2.2.1, x.2.1, x.2.2.1, v4.1, ()) with
        | none => none
        | some v85 =>
        some (.inl (v85.2.1, v85.1, x.2.2.1, (IntKind.i64.wrap (x.2.2.2.1 - (1 : Int))), x.2.2.2.2.1, x.2.2.2.2.2.1, ()))
       | false =>
        match slices_partitionOrdered_int64 (v4.2.2.1, x.2.1, x.2.2.1, v4.1, ()) with
        | none => none
        | some v86 =>
        match (decide ((IntKind.i64.wrap (v86.1 - x.2.1)) < (IntKind.i64.wrap (x.2.2.1 - v86.1)))) with
        | true =>
         match rec (v86.2.2.1, x.2.1, v86.1, (IntKind.i64.wrap (x.2.2.2.1 - (1 : Int))), ()) with
         | none => none
         | some v87 =>
         some (.inl (v87.1, (IntKind.i64.wrap (v86.1 + (1 : Int))), x.2.2.1, (IntKind.i64.wrap (x.2.2.2.1 - (1 : Int))), (decide ((IntKind.i64.wrap (v86.1 - x.2.1)) ≥ (IntKind.i64.wrap (Int.tdiv (IntKind.i64.wrap (x.2.2.1 - x.2.1)) (8 : Int))))), v86.2.1, ()))
        | false =>
         match rec (v86.2.2.1, (IntKind.i64.wrap (v86.1 + (1 : Int))), x.2.2.1, (IntKind.i64.wrap (x.2.2.2.1 - (1 : Int))), ()) with
         | none => none
         | some v88 =>
         some (.inl (v88.1, x.2.1, v86.1, (IntKind.i64.wrap (x.2.2.2.1 - (1 : Int))), (decide ((IntKind.i64.wrap (x.2.2.1 - v86.1)) ≥ (IntKind.i64.wrap (Int.tdiv (IntKind.i64.wrap (x.2.2.1 - x.2.1)) (8 : Int))))), v86.2.1, ()))
      | false =>
       match slices_partitionOrdered_int64 (v4.2.2.1, x.2.1, x.2.2.1, v4.1, ()) with
       | none => none
       | some v89 =>
       match (decide ((IntKind.i64.wrap (v89.1 - x.2.1)) < (IntKind.i64.wrap (x.2.2.1 - v89.1)))) with
       | true =>
        match rec (v89.2.2.1, x.2.1, v89.1, (IntKind.i64.wrap (x.2.2.2.1 - (1 : Int))), ()) with
        | none => none
        | some v90 =>
        some (.inl (v90.1, (IntKind.i64.wrap (v89.1 + (1 : Int))), x.2.2.1, (IntKind.i64.wrap (x.2.2.2.1 - (1 : Int))), (decide ((IntKind.i64.wrap (v89.1 - x.2.1)) ≥ (IntKind.i64.wrap (Int.tdiv (IntKind.i64.wrap (x.2.2.1 - x.2.1)) (8 : Int))))), v89.2.1, ()))
       | false =>
        match rec (v89.2.2.1, (IntKind.i64.wrap (v89.1 + (1 : Int))), x.2.2.1, (IntKind.i64.wrap (x.2.2.2.1 - (1 : Int))), ()) with
        | none => none
        | some v91 =>
        some (.inl (v91.1, x.2.1, v89.1, (IntKind.i64.wrap (x.2.2.2.1 - (1 : Int))), (decide ((IntKind.i64.wrap (x.2.2.1 - v89.1)) ≥ (IntKind.i64.wrap (Int.tdiv (IntKind.i64.wrap (x.2.2.1 - x.2.1)) (8 : Int))))), v89.2.1, ()))
    | false =>
     match (decide (x.2.1 > (0 : Int))) with
     | true =>
      onSome (idx v4.2.2.1 (IntKind.i64.wrap (x.2.1 - (1 : Int)))) fun _ =>
      match v4.2.2.1[(IntKind.i64.wrap (x.2.1 - (1 : Int))).toNat]? with
      | none => none
      | some v93 =>
      onSome (idx v4.2.2.1 v4.1) fun _ =>
      match v4.2.2.1[v4.1.toNat]? with
      | none => none
      | some v95 =>
      match cmp_Less_int64 (v93, v95, ()) with
      | none => none
      | some v96 =>
      match (!v96.1) with
      | true =>
       match slices_partitionEqualOrdered_int64 (v4.2.2.1, x.2.1, x.2.2.1, v4.1, ()) with
       | none => none
       | some v97 =>
       some (.inl (v97.2.1, v97.1, x.2.2.1, (IntKind.i64.wrap (x.2.2.2.1 - (1 : Int))), x.2.2.2.2.1, x.2.2.2.2.2.1, ()))
      | false =>
       match slices_partitionOrdered_int64 (v4.2.2.1, x.2.1, x.2.2.1, v4.1, ()) with
       | none => none
       | some v98 =>
       match (decide ((IntKind.i64.wrap (v98.1 - x.2.1)) < (IntKind.i64.wrap (x.2.2.1 - v98.1)))) with
       | true =>
        match rec (v98.2.2.1, x.2.1, v98.1, (IntKind.i64.wrap (x.2.2.2.1 - (1 : Int))), ()) with
        | none => none
        | some v99 =>
        some (.inl (v99.1, (IntKind.i64.wrap (v98.1 + (1 : Int))), x.2.2.1, (IntKind.i64.wrap (x.2.2.2.1 - (1 : Int))), (decide ((IntKind.i64.wrap (v98.1 - x.2.1)) ≥ (IntKind.i64.wrap (Int.tdiv (IntKind.i64.wrap (x.2.2.1 - x.2.1)) (8 : Int))))), v98.2.1, ()))
       | false =>
        match rec (v98.2.2.1, (IntKind.i64.wrap (v98.1 + (1 : Int))), x.2.2.1, (IntKind.i64.wrap (x.2.2.2.1 - (1 : Int))), ()) with
        | none => none
        | some v100 =>
        some (.inl (v100.1, x.2.1, v98.1, (IntKind.i64.wrap (x.2.2.2.1 - (1 : Int))), (decide ((IntKind.i64.wrap (x.2.2.1 - v98.1)) ≥ (IntKind.i64.wrap (Int.tdiv (IntKind.i64.wrap (x.2.2.1 - x.2.1)) (8 : Int))))), v98.2.1, ()))
     | false =>
      match slices_partitionOrdered_int64 (v4.2.2.1, x.2.1, x.2.2.1, v4.1, ()) with
      | none => none
      | some v101 =>
      match (decide ((IntKind.i64.wrap (v101.1 - x.2.1)) < (IntKind.i64.wrap (x.2.2.1 - v101.1)))) with
      | true =>
       match rec (v101.2.2.1, x.2.1, v101.1, (IntKind.i64.wrap (x.2.2.2.1 - (1 : Int))), ()) with
       | none => none
       | some v102 =>
       some (.inl (v102.1, (IntKind.i64.wrap (v101.1 + (1 : Int))), x.2.2.1, (IntKind.i64.wrap (x.2.2.2.1 - (1 : Int))), (decide ((IntKind.i64.wrap (v101.1 - x.2.1)) ≥ (IntKind.i64.wrap (Int.tdiv (IntKind.i64.wrap (x.2.2.1 - x.2.1)) (8 : Int))))), v101.2.1, ()))
      | false =>
       match rec (v101.2.2.1, (IntKind.i64.wrap (v101.1 + (1 : Int))), x.2.2.1, (IntKind.i64.wrap (x.2.2.2.1 - (1 : Int))), ()) with
       | none => none
       | some v103 =>
       some (.inl (v103.1, x.2.1, v101.1, (IntKind.i64.wrap (x.2.2.2.1 - (1 : Int))), (decide ((IntKind.i64.wrap (x.2.2.1 - v101.1)) ≥ (IntKind.i64.wrap (Int.tdiv (IntKind.i64.wrap (x.2.2.1 - x.2.1)) (8 : Int))))), v101.2.1, ()))
  | false =>
   match slices_choosePivotOrdered_int64 (x.1, x.2.1, x.2.2.1, ()) with
   | none => none
   | some v104 =>
   match (v104.2.1 == (2 : Int)) with
   | true =>
    match slices_reverseRangeOrdered_int64 (v104.2.2.1, x.2.1, x.2.2.1, ()) with
    | none => none
    | some v105 =>
    match x.2.2.2.2.1 with
    | true =>
     match x.2.2.2.2.2.1 with
     | true =>
      match ((1 : Int) == (1 : Int)) with
      | true =>
       match slices_partialInsertionSortOrdered_int64 (v105.1, x.2.1, x.2.2.1, ()) with
       | none => none
       | some v106 =>
       match v106.1 with
       | true =>
        some (.inr (.inr (v106.2.1, ())))
       | false =>
        match (decide (x.2.1 > (0 : Int))) with
        | true =>
         onSome (idx v106.2.1 (IntKind.i64.wrap (x.2.1 - (1 : Int)))) fun _ =>
         match v106.2.1[(IntKind.i64.wrap (x.2.1 - (1 : Int))).toNat]? with
         | none => none
         | some v108 =>
         onSome (idx v106.2.1 (IntKind.i64.wrap ((IntKind.i64.wrap (x.2.2.1 - (1 : Int))) - (IntKind.i64.wrap (v104.1 - x.2.1))))) fun _ =>
         match v106.2.1[(IntKind.i64.wrap ((IntKind.i64.wrap (x.2.2.1 - (1 : Int))) - (IntKind.i64.wrap (v104.1 - x.2.1)))).toNat]? with
         | none => none
         | some v110 =>
         match cmp_Less_int64 (v108, v110, ()) with
         | none => none
         | some v111 =>
         match (!v111.1) with
         | true =>
          match slices_partitionEqualOrdered_int64 (v106.2.1, x.2.1, x.2.2.1, (IntKind.i64.wrap ((IntKind.i64.wrap (x.2.2.1 - (1 : Int))) - (IntKind.i64.wrap (v104.1 - x.2.1)))), ()) with
          | none => none
          | some v112 =>
          some (.inl (v112.2.1, v112.1, x.2.2.1, x.2.2.2.1, x.2.2.2.2.1, x.2.2.2.2.2.1, ()))
         | false =>
          match slices_partitionOrdered_int64 (v106.2.1, x.2.1, x.2.2.1, (IntKind.i64.wrap ((IntKind.i64.wrap (x.2.2.1 - (1 : Int))) - (IntKind.i64.wrap (v104.1 - x.2.1)))), ()) with
          | none => none
          | some v113 =>
          match (decide ((IntKind.i64.wrap (v113.1 - x.2.1)) < (IntKind.i64.wrap (x.2.2.1 - v113.1)))) with
          | true =>
           match rec (v113.2.2.1, x.2.1, v113.1, x.2.2.2.1, ()) with
           | none => none
           | some v114 =>
           some (.inl (v114.1, (IntKind.i64.wrap (v113.1 + (1 : Int))), x.2.2.1, x.2.2.2.1, (decide ((IntKind.i64.wrap (v113.1 - x.2.1)) ≥ (IntKind.i64.wrap (Int.tdiv (IntKind.i64.wrap (x.2.2.1 - x.2.1)) (8 : Int))))), v113.2.1, ()))
          | false =>
           match rec (v113.2.2.1, (IntKind.i64.wrap (v113.1 + (1 : Int))), x.2.2.1, x.2.2.2.1, ()) with
           | none => none
           | some v115 =>
           some (.inl (v115.1, x.2.1, v113.1, x.2.2.2.1, (decide ((IntKind.i64.wrap (x.2.2.1 - v113.1)) ≥ (IntKind.i64.wrap (Int.tdiv (IntKind.i64.wrap (x.2.2.1 - x.2.1)) (8 : Int))))), v113.2.1, ()))
        | false =>
         match slices_partitionOrdered_int64 (v106.2.1, x.2.1, x.2.2.1, (IntKind.i64.wrap ((IntKind.i64.wrap (x.2.2.1 - (1 : Int))) - (IntKind.i64.wrap (v104.1 - x.2.1)))), ()) with
         | none => none
         | some v116 =>
         match (decide ((IntKind.i64.wrap (v116.1 - x.2.1)) < (IntKind.i64.wrap (x.2.2.1 - v116.1)))) with
         | true =>
          match rec (v116.2.2.1, x.2.1, v116.1, x.2.2.2.1, ()) with
          | none => none
          | some v117 =>
          some (.inl (v117.1, (IntKind.i64.wrap (v116.1 + (1 : Int))), x.2.2.1, x.2.2.2.1, (decide ((IntKind.i64.wrap (v116.1 - x.2.1)) ≥ (IntKind.i64.wrap (Int.tdiv (IntKind.i64.wrap (x.2.2.1 - x.2.1)) (8 : Int))))), v116.2.1, ()))
         | false =>
          match rec (v116.2.2.1, (IntKind.i64.wrap (v116.1 + (1 : Int))), x.2.2.1, x.2.2.2.1, ()) with
          | none => none
          | some v118 =>
          some (.inl (v118.1, x.2.1, v116.1, x.2.2.2.1, (decide ((IntKind.i64.wrap (x.2.2.1 - v116.1)) ≥ (IntKind.i64.wrap (Int.tdiv (IntKind.i64.wrap (x.2.2.1 - x.2.1)) (8 : Int))))), v116.2.1, ()))
      | false =>
       match (decide (x.2.1 > (0 : Int))) with
       | true =>
        onSome (idx v105.1 (IntKind.i64.wrap (x.2.1 - (1 : Int)))) fun _ =>
        match v105.1[(IntKind.i64.wrap (x.2.1 - (1 : Int))).toNat]? with
        | none => none
        | some v120 =>
        onSome (idx v105.1 (IntKind.i64.wrap ((IntKind.i64.wrap (x.2.2.1 - (1 : Int))) - (IntKind.i64.wrap (v104.1 - x.2.1))))) fun _ =>
        match v105.1[(IntKind.i64.wrap ((IntKind.i64.wrap (x.2.2.1 - (1 : Int))) - (IntKind.i64.wrap (v104.1 - x.2.1)))).toNat]? with
        | none => none
        | some v122 =>
        match cmp_Less_int64 (v120, v122, ()) with
        | none => none
        | some v123 =>
        match (!v123.1) with
        | true =>
         match slices_partitionEqualOrdered_int64 (v105.1, x.2.1, x.2.2.1, (IntKind.i64.wrap ((IntKind.i64.wrap (x.2.2.1 - (1 : Int))) - (IntKind.i64.wrap (v104.1 - x.2.1)))), ()) with
         | none => none
         | some v124 =>
         some (.inl (v124.2.1, v124.1, x.2.2.1, x.2.2.2.1, x.2.2.2.2.1, x.2.2.2.2.2.1, ()))
        | false =>
         match slices_partitionOrdered_int64 (v105.1, x.2.1, x.2.2.1, (IntKind.i64.wrap ((IntKind.i64.wrap (x.2.2.1 - (1 : Int))) - (IntKind.i64.wrap (v104.1 - x.2.1)))), ()) with
         | none => none
         | some v125 =>
         match (decide ((IntKind.i64.wrap (v125.1 - x.2.1)) < (IntKind.i64.wrap (x.2.2.1 - v125.1)))) with
         | true =>
          match rec (v125.2.2.1, x.2.1, v125.1, x.2.2.2.1, ()) with
          | none => none
          | some v126 =>
          some (.inl (v126.1, (IntKind.i64.wrap (v125.1 + (1 : Int))), x.2.2.1, x.2.2.2.1, (decide ((IntKind.i64.wrap (v125.1 - x.2.1)) ≥ (IntKind.i64.wrap (Int.tdiv (IntKind.i64.wrap (x.2.2.1 - x.2.1)) (8 : Int))))), v125.2.1, ()))
         | false =>
          match rec (v125.2.2.1, (IntKind.i64.wrap (v125.1 + (1 : Int))), x.2.2.1, x.2.2.2.1, ()) with
          | none => none
          | some v127 =>
          some (.inl (v127.1, x.2.1, v125.1, x.2.2.2.1, (decide ((IntKind.i64.wrap (x.2.2.1 - v125.1)) ≥ (IntKind.i64.wrap (Int.tdiv (IntKind.i64.wrap (x.2.2.1 - x.2.1)) (8 : Int))))), v125.2.1, ()))
       | false =>
        match slices_partitionOrdered_int64 (v105.1, x.2.1, x.2.2.1, (IntKind.i64.wrap ((IntKind.i64.wrap (x.2.2.1 - (1 : Int))) - (IntKind.i64.wrap (v104.1 - x.2.1)))), ()) with
        | none => none
        | some v128 =>
        match (decide ((IntKind.i64.wrap (v128.1 - x.2.1)) < (IntKind.i64.wrap (x.2.2.1 - v128.1)))) with
        | true =>
         match rec (v128.2.2.1, x.2.1, v128.1, x.2.2.2.1, ()) with
         | none => none
         | some v129 =>
         some (.inl (v129.1, (IntKind.i64.wrap (v128.1 + (1 : Int))), x.2.2.1, x.2.2.2.1, (decide ((IntKind.i64.wrap (v128.1 - x.2.1)) ≥ (IntKind.i64.wrap (Int.tdiv (IntKind.i64.wrap (x.2.2.1 - x.2.1)) (8 : Int))))), v128.2.1, ()))
        | false =>
         match rec (v128.2.2.1, (IntKind.i64.wrap (v128.1 + (1 : Int))), x.2.2.1, x.2.2.2.1, ()) with
         | none => none
         | some v130 =>
         some (.inl (v130.1, x.2.1, v128.1, x.2.2.2.1, (decide ((IntKind.i64.wrap (x.2.2.1 - v128.1)) ≥ (IntKind.i64.wrap (Int.tdiv (IntKind.i64.wrap (x.2.2.1 - x.2.1)) (8 : Int))))), v128.2.1, ()))
     | false =>
      match (decide (x.2.1 > (0 : Int))) with
      | true =>
       onSome (idx v105.1 (IntKind.i64.wrap (x.2.1 - (1 : Int)))) fun _ =>
       match v105.1[(IntKind.i64.wrap (x.2.1 - (1 : Int))).toNat]? with
       | none => none
       | some v132 =>
       onSome (idx v105.1 (IntKind.i64.wrap ((IntKind.i64.wrap (x.2.2.1 - (1 : Int))) - (IntKind.i64.wrap (v104.1 - x.2.1))))) fun _ =>
       match v105.1[(IntKind.i64.wrap ((IntKind.i64.wrap (x.2.2.1 - (1 : Int))) - (IntKind.i64.wrap (v104.1 - x.2.1)))).toNat]? with
       | none => none
       | some v134 =>
       match cmp_Less_int64 (v132, v134, ()) with
       | none => none
       | some v135 =>
       match (!v135.1) with
       | true =>
        match slices_partitionEqualOrdered_int64 (v105.1, x.2.1, x.2.2.1, (IntKind.i64.wrap ((IntKind.i64.wrap (x.2.2.1 - (1 : Int))) - (IntKind.i64.wrap (v104.1 - x.2.1)))), ()) with
        | none => none
        | some v136 =>
        some (.inl (v136.2.1, v136.1, x.2.2.1, x.2.2.2.1, x.2.2.2.2.1, x.2.2.2.2.2.1, ()))
       | false =>
        match slices_partitionOrdered_int64 (v105.1, x.2.1, x.2.2.1, (IntKind.i64.wrap ((IntKind.i64.wrap (x.2.2.1 - (1 : Int))) - (IntKind.i64.wrap (v104.1 - x.2.1)))), ()) with
        | none => none
        | some v137 =>
        match (decide ((IntKind.i64.wrap (v137.1 - x.2.1)) < (IntKind.i64.wrap (x.2.2.1 - v137.1)))) with
        | true =>
         match rec (v137.2.2.1, x.2.1, v137.1, x.2.2.2.1, ()) with
         | none => none
         | some v138 =>
         some (.inl (v138.1, (IntKind.i64.wrap (v137.1 + (1 : Int))), x.2.2.1, x.2.2.2.1, (decide ((IntKind.i64.wrap (v137.1 - x.2.1)) ≥ (IntKind.i64.wrap (Int.tdiv (IntKind.i64.wrap (x.2.2.1 - x.2.1)) (8 : Int))))), v137.2.1, ()))
        | false =>
         match rec (v137.2.2.1, (IntKind.i64.wrap (v137.1 + (1 : Int))), x.2.2.1, x.2.2.2.1, ()) with
         | none => none
         | some v139 =>
         some (.inl (v139.1, x.2.1, v137.1, x.2.2.2.1, (decide ((IntKind.i64.wrap (x.2.2.1 - v137.1)) ≥ (IntKind.i64.wrap (Int.tdiv (IntKind.i64.wrap (x.2.2.1 - x.2.1)) (8 : Int))))), v137.2.1, ()))
      | false =>
       match slices_partitionOrdered_int64 (v105.1, x.2.1, x.2.2.1, (IntKind.i64.wrap ((IntKind.i64.wrap (x.2.2.1 - (1 : Int))) - (IntKind.i64.wrap (v104.1 - x.2.1)))), ()) with
       | none => none
       | some v140 =>
       match (decide ((IntKind.i64.wrap (v140.1 - x.2.1)) < (IntKind.i64.wrap (x.2.2.1 - v140.1)))) with
       | true =>
        match rec (v140.2.2.1, x.2.1, v140.1, x.2.2.2.1, ()) with
        | none => none
        | some v141 =>
        some (.inl (v141.1, (IntKind.i64.wrap (v140.1 + (1 : Int))), x.2.2.1, x.2.2.2.1, (decide ((IntKind.i64.wrap (v140.1 - x.2.1)) ≥ (IntKind.i64.wrap (Int.tdiv (IntKind.i64.wrap (x.2.2.1 - x.2.1)) (8 : Int))))), v140.2.1, ()))
       | false =>
        match rec (v140.2.2.1, (IntKind.i64.wrap (v140.1 + (1 : Int))), x.2.2.1, x.2.2.2.1, ()) with
        | none => none
        | some v142 =>
        some (.inl (v142.1, x.2.1, v140.1, x.2.2.2.1, (decide ((IntKind.i64.wrap (x.2.2.1 - v140.1)) ≥ (IntKind.i64.wrap (Int.tdiv (IntKind.i64.wrap (x.2.2.1 - x.2.1)) (8 : Int))))), v140.2.1, ()))
    | false =>
     match (decide (x.2.1 > (0 : Int))) with
     | true =>
      onSome (idx v105.1 (IntKind.i64.wrap (x.2.1 - (1 : Int)))) fun _ =>
      match v105.1[(IntKind.i64.wrap (x.2.1 - (1 : Int))).toNat]? with
      | none => none
      | some v144 =>
      onSome (idx v105.1 (IntKind.i64.wrap ((IntKind.i64.wrap (x.2.2.1 - (1 : Int))) - (IntKind.i64.wrap (v104.1 - x.2.1))))) fun _ =>
      match v105.1[(IntKind.i64.wrap ((IntKind.i64.wrap (x.2.2.1 - (1 : Int))) - (IntKind.i64.wrap (v104.1 - x.2.1)))).toNat]? with
      | none => none
      | some v146 =>
      match cmp_Less_int64 (v144, v146, ()) with
      | none => none
      | some v147 =>
      match (!v147.1) with
      | true =>
       match slices_partitionEqualOrdered_int64 (v105.1, x.2.1, x.2.2.1, (IntKind.i64.wrap ((IntKind.i64.wrap (x.2.2.1 - (1 : Int))) - (IntKind.i64.wrap (v104.1 - x.2.1)))), ()) with
       | none => none
       | some v148 =>
       some (.inl (v148.2.1, v148.1, x.2.2.1, x.2.2.2.1, x.2.2.2.2.1, x.2.2.2.2.2.1, ()))
      | false =>
       match slices_partitionOrdered_int64 (v105.1, x.2.1, x.2.2.1, (IntKind.i64.wrap ((IntKind.i64.wrap (x.2.2.1 - (1 : Int))) - (IntKind.i64.wrap (v104.1 - x.2.1)))), ()) with
       | none => none
       | some v149 =>
       match (decide ((IntKind.i64.wrap (v149.1 - x.2.1)) < (IntKind.i64.wrap (x.2.2.1 - v149.1)))) with
       | true =>
        match rec (v149.2.2.1, x.2.1, v149.1, x.2.2.2.1, ()) with
        | none => none
        | some v150 =>
        some (.inl (v150.1, (IntKind.i64.wrap (v149.1 + (1 : Int))), x.2.2.1, x.2.2.2.1, (decide ((IntKind.i64.wrap (v149.1 - x.2.1)) ≥ (IntKind.i64.wrap (Int.tdiv (IntKind.i64.wrap (x.2.2.1 - x.2.1)) (8 : Int))))), v149.2.1, ()))
       | false =>
        match rec (v149.2.2.1, (IntKind.i64.wrap (v149.1 + (1 : Int))), x.2.2.1, x.2.2.2.1, ()) with
        | none => none
        | some v151 =>
        some (.inl (v151.1, x.2.1, v149.1, x.2.2.2.1, (decide ((IntKind.i64.wrap (x.2.2.1 - v149.1)) ≥ (IntKind.i64.wrap (Int.tdiv (IntKind.i64.wrap (x.2.2.1 - x.2.1)) (8 : Int))))), v149.2.1, ()))
     | false =>
      match slices_partitionOrdered_int64 (v105.1, x.2.1, x.2.2.1, (IntKind.i64.wrap ((IntKind.i64.wrap (x.2.2.1 - (1 : Int))) - (IntKind.i64.wrap (v104.1 - x.2.1)))), ()) with
      | none => none
      | some v152 =>
      match (decide ((IntKind.i64.wrap (v152.1 - x.2.1)) < (IntKind.i64.wrap (x.2.2.1 - v152.1)))) with
      | true =>
       match rec (v152.2.2.1, x.2.1, v152.1, x.2.2.2.1, ()) with
       | none => none
       | some v153 =>
       some (.inl (v153.1, (IntKind.i64.wrap (v152.1 + (1 : Int))), x.2.2.1, x.2.2.2.1, (decide ((IntKind.i64.wrap (v152.1 - x.2.1)) ≥ (IntKind.i64.wrap (Int.tdiv (IntKind.i64.wrap (x.2.2.1 - x.2.1)) (8 : Int))))), v152.2.1, ()))
      | false =>
       match rec (v152.2.2.1, (IntKind.i64.wrap (v152.1 + (1 : Int))), x.2.2.1, x.2.2.2.1, ()) with
       | none => none
       | some v154 =>
       some (.inl (v154.1, x.2.1, v152.1, x.2.2.2.1, (decide ((IntKind.i64.wrap (x.2.2.1 - v152.1)) ≥ (IntKind.i64.wrap (Int.tdiv (IntKind.i64.wrap (x.2.2.1 - x.2.1)) (8 : Int))))), v152.2.1, ()))
   | false =>
    match x.2.2.2.2.1 with
    | true =>
     match x.2.2.2.2.2.1 with
     | true =>
      match (v104.2.1 == (1 : Int)) with
      | true =>
       match slices_partialInsertionSortOrdered_int64 (v104.2.2.1, x.2.1, x.2.2.1, ()) with
       | none => none
       | some v155 =>
       match v155.1 with
       | true =>
        some (.inr (.inr (v155.2.1, ())))
       | false =>
        match (decide (x.2.1 > (0 : Int))) with
        | true =>
         onSome (idx v155.2.1 (IntKind.i64.wrap (x.2.1 - (1 : Int)))) fun _ =>
         match v155.2.1[(IntKind.i64.wrap (x.2.1 - (1 : Int))).toNat]? with
         | none => none
         | some v157 =>
         onSome (idx v155.2.1 v104.1) fun _ =>
         match v155.2.1[v104.1.toNat]? with
         | none => none
         | some v159 =>
         match cmp_Less_int64 (v157, v159, ()) with
         | none => none
         | some v160 =>
         match (!v160.1) with
         | true =>
          match slices_partitionEqualOrdered_int64 (v155.2.1, x.2.1, x.2.2.1, v104.1, ()) with
          | none => none
          | some v161 =>
          some (.inl (v161.2.1, v161.1, x.2.2.1, x.2.2.2.1, x.2.2.2.2.1, x.2.2.2.2.2.1, ()))
         | false =>
          match slices_partitionOrdered_int64 (v155.2.1, x.2.1, x.2.2.1, v104.1, ()) with
          | none => none
          | some v162 =>
          match (decide ((IntKind.i64.wrap (v162.1 - x.2.1)) < (IntKind.i64.wrap (x.2.2.1 - v162.1)))) with
          | true =>
           match rec (v162.2.2.1, x.2.1, v162.1, x.2.2.2.1, ()) with
           | none => none
           | some v163 =>
           some (.inl (v163.1, (IntKind.i64.wrap (v162.1 + (1 : Int))), x.2.2.1, x.2.2.2.1, (decide ((IntKind.i64.wrap (v162.1 - x.2.1)) ≥ (IntKind.i64.wrap (Int.tdiv (IntKind.i64.wrap (x.2.2.1 - x.2.1)) (8 : Int))))), v162.2.1, ()))
          | false =>
           match rec (v162.2.2.1, (IntKind.i64.wrap (v162.1 + (1 : Int))), x.2.2.1, x.2.2.2.1, ()) with
           | none => none
           | some v164 =>
           some (.inl (v164.1, x.2.1, v162.1, x.2.2.2.1, (decide ((IntKind.i64.wrap (x.2.2.1 - v162.1)) ≥ (IntKind.i64.wrap (Int.tdiv (IntKind.i64.wrap (x.2.2.1 - x.2.1)) (8 : Int))))), v162.2.1, ()))
        | false =>
         match slices_partitionOrdered_int64 (v155.2.1, x.2.1, x.2.2.1, v104.1, ()) with
         | none => none
         | some v165 =>
         match (decide ((IntKind.i64.wrap (v165.1 - x.2.1)) < (IntKind.i64.wrap (x.2.2.1 - v165.1)))) with
         | true =>
          match rec (v165.2.2.1, x.2.1, v165.1, x.2.2.2.1, ()) with
          | none => none
          | some v166 =>
          some (.inl (v166.1, (IntKind.i64.wrap (v165.1 + (1 : Int))), x.2.2.1, x.2.2.2.1, (decide ((IntKind.i64.wrap (v165.1 - x.2.1)) ≥ (IntKind.i64.wrap (Int.tdiv (IntKind.i64.wrap (x.2.2.1 - x.2.1)) (8 : Int))))), v165.2.1, ()))
         | false =>
          match rec (v165.2.2.1, (IntKind.i64.wrap (v165.1 + (1 : Int))), x.2.2.1, x.2.2.2.1, ()) with
          | none => none
          | some v167 =>
          some (.inl (v167.1, x.2.1, v165.1, x.2.2.2.1, (decide ((IntKind.i64.wrap (x.2.2.1 - v165.1)) ≥ (IntKind.i64.wrap (Int.tdiv (IntKind.i64.wrap (x.2.2.1 - x.2.1)) (8 : Int))))), v165.2.1, ()))
      | false =>
       match (decide (x.2.1 > (0 : Int))) with
       | true =>
        onSome (idx v104.2.2.1 (IntKind.i64.wrap (x.2.1 - (1 : Int)))) fun _ =>
        match v104.2.2.1[(IntKind.i64.wrap (x.2.1 - (1 : Int))).toNat]? with
        | none => none
        | some v169 =>
        onSome (idx v104.2.2.1 v104.1) fun _ =>
        match v104.2.2.1[v104.1.toNat]? with
        | none => none
        | some v171 =>
        match cmp_Less_int64 (v169, v171, ()) with
        | none => none
        | some v172 =>
        match (!v172.1) with
        | true =>
         match slices_partitionEqualOrdered_int64 (v104.2.2.1, x.2.1, x.2.2.1, v104.1, ()) with
         | none => none
         | some v173 =>
         some (.inl (v173.2.1, v173.1, x.2.2.1, x.2.2.2.1, x.2.2.2.2.1, x.2.2.2.2.2.1, ()))
        | false =>
         match slices_partitionOrdered_int64 (v104.2.2.1, x.2.1, x.2.2.1, v104.1, ()) with
         | none => none
         | some v174 =>
         match (decide ((IntKind.i64.wrap (v174.1 - x.2.1)) < (IntKind.i64.wrap (x.2.2.1 - v174.1)))) with
         | true =>
          match rec (v174.2.2.1, x.2.1, v174.1, x.2.2.2.1, ()) with
          | none => none
          | some v175 =>
          some (.inl (v175.1, (IntKind.i64.wrap (v174.1 + (1 : Int))), x.2.2.1, x.2.2.2.1, (decide ((IntKind.i64.wrap (v174.1 - x.2.1)) ≥ (IntKind.i64.wrap (Int.tdiv (IntKind.i64.wrap (x.2.2.1 - x.2.1)) (8 : Int))))), v174.2.1, ()))
         | false =>
          match rec (v174.2.2.1, (IntKind.i64.wrap (v174.1 + (1 : Int))), x.2.2.1, x.2.2.2.1, ()) with
          | none => none
          | some v176 =>
          some (.inl (v176.1, x.2.1, v174.1, x.2.2.2.1, (decide ((IntKind.i64.wrap (x.2.2.1 - v174.1)) ≥ (IntKind.i64.wrap (Int.tdiv (IntKind.i64.wrap (x.2.2.1 - x.2.1)) (8 : Int))))), v174.2.1, ()))
       | false =>
        match slices_partitionOrdered_int64 (v104.2.2.1, x.2.1, x.2.2.1, v104.1, ()) with
        | none => none
        | some v177 =>
        match (decide ((IntKind.i64.wrap (v177.1 - x.2.1)) < (IntKind.i64.wrap (x.2.2.1 - v177.1)))) with
        | true =>
         match rec (v177.2.2.1, x.2.1, v177.1, x.2.2.2.1, ()) with
         | none => none
         | some v178 =>
         some (.inl (v178.1, (IntKind.i64.wrap (v177.1 + (1 : Int))), x.2.2.1, x.2.2.2.1, (decide ((IntKind.i64.wrap (v177.1 - x.2.1)) ≥ (IntKind.i64.wrap (Int.tdiv (IntKind.i64.wrap (x.2.2.1 - x.2.1)) (8 : Int))))), v177.2.1, ()))
        | false =>
         match rec (v177.2.2.1, (IntKind.i64.wrap (v177.1 + (1 : Int))), x.2.2.1, x.2.2.2.1, ()) with
         | none => none
         | some v179 =>
         some (.inl (v179.1, x.2.1, v177.1, x.2.2.2.1, (decide ((IntKind.i64.wrap (x.2.2.1 - v177.1)) ≥ (IntKind.i64.wrap (Int.tdiv (IntKind.i64.wrap (x.2.2.1 - x.2.1)) (8 : Int))))), v177.2.1, ()))
     | false =>
      match (decide (x.2.1 > (0 : Int))) with
      | true =>
       onSome (idx v104.2.2.1 (IntKind.i64.wrap (x.2.1 - (1 : Int)))) fun _ =>
       match v104.2.2.1[(IntKind.i64.wrap (x.2.1 - (1 : Int))).toNat]? with
       | none => none
       | some v181 =>
       onSome (idx v104.2.2.1 v104.1) fun _ =>
       match v104.2.2.1[v104.1.toNat]? with
       | none => none
       | some v183 =>
       match cmp_Less_int64 (v181, v183, ()) with
       | none => none
       | some v184 =>
       match (!v184.1) with
       | true =>
        match slices_partitionEqualOrdered_int64 (v104.2.2.1, x.2.1, x.2.2.1, v104.1, ()) with
        | none => none
        | some v185 =>
        some (.inl (v185.2.1, v185.1, x.2.2.1, x.2.2.2.1, x.2.2.2.2.1, x.2.2.2.2.2.1, ()))
       | false =>
        match slices_partitionOrdered_int64 (v104.2.2.1, x.2.1, x.2.2.1, v104.1, ()) with
        | none => none
        | some v186 =>
        match (decide ((IntKind.i64.wrap (v186.1 - x.2.1)) < (IntKind.i64.wrap (x.2.2.1 - v186.1)))) with
        | true =>
         match rec (v186.2.2.1, x.2.1, v186.1, x.2.2.2.1, ()) with
         | none => none
         | some v187 =>
         some (.inl (v187.1, (IntKind.i64.wrap (v186.1 + (1 : Int))), x.2.2.1, x.2.2.2.1, (decide ((IntKind.i64.wrap (v186.1 - x.2.1)) ≥ (IntKind.i64.wrap (Int.tdiv (IntKind.i64.wrap (x.2.2.1 - x.2.1)) (8 : Int))))), v186.2.1, ()))
        | false =>
         match rec (v186.2.2.1, (IntKind.i64.wrap (v186.1 + (1 : Int))), x.2.2.1, x.2.2.2.1, ()) with
         | none => none
         | some v188 =>
         some (.inl (v188.1, x.2.1, v186.1, x.2.2.2.1, (decide ((IntKind.i64.wrap (x.2.2.1 - v186.1)) ≥ (IntKind.i64.wrap (Int.tdiv (IntKind.i64.wrap (x.2.2.1 - x.2.1)) (8 : Int))))), v186.2.1, ()))
      | false =>
       match slices_partitionOrdered_int64 (v104.2.2.1, x.2.1, x.2.2.1, v104.1, ()) with
       | none => none
       | some v189 =>
       match (decide ((IntKind.i64.wrap (v189.1 - x.2.1)) < (IntKind.i64.wrap (x.2.2.1 - v189.1)))) with
       | true =>
        match rec (v189.2.2.1, x.2.1, v189.1, x.2.2.2.1, ()) with
        | none => none
        | some v190 =>
        some (.inl (v190.1, (IntKind.i64.wrap (v189.1 + (1 : Int))), x.2.2.1, x.2.2.2.1, (decide ((IntKind.i64.wrap (v189.1 - x.2.1)) ≥ (IntKind.i64.wrap (Int.tdiv (IntKind.i64.wrap (x.2.2.1 - x.2.1)) (8 : Int))))), v189.2.1, ()))
       | false =>
        match rec (v189.2.2.1, (IntKind.i64.wrap (v189.1 + (1 : Int))), x.2.2.1, x.2.2.2.1, ()) with
        | none => none
        | some v191 =>
        some (.inl (v191.1, x.2.1, v189.1, x.2.2.2.1, (decide ((IntKind.i64.wrap (x.2.2.1 - v189.1)) ≥ (IntKind.i64.wrap (Int.tdiv (IntKind.i64.wrap (x.2.2.1 - x.2.1)) (8 : Int))))), v189.2.1, ()))
    | false =>
     match (decide (x.2.1 > (0 : Int))) with
     | true =>
      onSome (idx v104.2.2.1 (IntKind.i64.wrap (x.2.1 - (1 : Int)))) fun _ =>
      match v104.2.2.1[(IntKind.i64.wrap (x.2.1 - (1 : Int))).toNat]? with
      | none => none
      | some v193 =>
      onSome (idx v104.2.2.1 v104.1) fun _ =>
      match v104.2.2.1[v104.1.toNat]? with
      | none => none
      | some v195 =>
      match cmp_Less_int64 (v193, v195, ()) with
      | none => none
      | some v196 =>
      match (!v196.1) with
      | true =>
       match slices_partitionEqualOrdered_int64 (v104.2.2.1, x.2.1, x.2.2.1, v104.1, ()) with
       | none => none
       | some v197 =>
       some (.inl (v197.2.1, v197.1, x.2.2.1, x.2.2.2.1, x.2.2.2.2.1, x.2.2.2.2.2.1, ()))
      | false =>
       match slices_partitionOrdered_int64 (v104.2.2.1, x.2.1, x.2.2.1, v104.1, ()) with
       | none => none
       | some v198 =>
       match (decide ((IntKind.i64.wrap (v198.1 - x.2.1)) < (IntKind.i64.wrap (x.2.2.1 - v198.1)))) with
       | true =>
        match rec (v198.2.2.1, x.2.1, v198.1, x.2.2.2.1, ()) with
        | none => none
        | some v199 =>
        some (.inl (v199.1, (IntKind.i64.wrap (v198.1 + (1 : Int))), x.2.2.1, x.2.2.2.1, (decide ((IntKind.i64.wrap (v198.1 - x.2.1)) ≥ (IntKind.i64.wrap (Int.tdiv (IntKind.i64.wrap (x.2.2.1 - x.2.1)) (8 : Int))))), v198.2.1, ()))
       | false =>
        match rec (v198.2.2.1, (IntKind.i64.wrap (v198.1 + (1 : Int))), x.2.2.1, x.2.2.2.1, ()) with
        | none => none
        | some v200 =>
        some (.inl (v200.1, x.2.1, v198.1, x.2.2.2.1, (decide ((IntKind.i64.wrap (x.2.2.1 - v198.1)) ≥ (IntKind.i64.wrap (Int.tdiv (IntKind.i64.wrap (x.2.2.1 - x.2.1)) (8 : Int))))), v198.2.1, ()))
     | false =>
      match slices_partitionOrdered_int64 (v104.2.2.1, x.2.1, x.2.2.1, v104.1, ()) with
      | none => none
      | some v201 =>
      match (decide ((IntKind.i64.wrap (v201.1 - x.2.1)) < (IntKind.i64.wrap (x.2.2.1 - v201.1)))) with
      | true =>
       match rec (v201.2.2.1, x.2.1, v201.1, x.2.2.2.1, ()) with
       | none => none
       | some v202 =>
       some (.inl (v202.1, (IntKind.i64.wrap (v201.1 + (1 : Int))), x.2.2.1, x.2.2.2.1, (decide ((IntKind.i64.wrap (v201.1 - x.2.1)) ≥ (IntKind.i64.wrap (Int.tdiv (IntKind.i64.wrap (x.2.2.1 - x.2.1)) (8 : Int))))), v201.2.1, ()))
      | false =>
       match rec (v201.2.2.1, (IntKind.i64.wrap (v201.1 + (1 : Int))), x.2.2.1, x.2.2.2.1, ()) with
       | none => none
       | some v203 =>
       some (.inl (v203.1, x.2.1, v201.1, x.2.2.2.1, (decide ((IntKind.i64.wrap (x.2.2.1 - v201.1)) ≥ (IntKind.i64.wrap (Int.tdiv (IntKind.i64.wrap (x.2.2.1 - x.2.1)) (8 : Int))))), v201.2.1, ()))
noncomputable def F_slices_pdqsortOrdered_int64 (rec : Ty.T (.pair (.own 2 (.int .i64)) (.pair (.int .i64) (.pair (.int .i64) (.pair (.int .i64) .unit)))) → Option (Ty.T (.pair (.own 2 (.int .i64)) .unit))) (x : Ty.T (.pair (.own 2 (.int .i64)) (.pair (.int .i64) (.pair (.int .i64) (.pair (.int .i64) .unit))))) : Option (Ty.T (.pair (.own 2 (.int .i64)) .unit)) :=
match loopL (b_slices_pdqsortOrdered_int64_2 rec) (x.1, x.2.1, x.2.2.1, x.2.2.2.1, true, true, ()) with
| none => none
| some (.inl v204) =>
 none
| some (.inr v205) =>
 some (v205.1, ())
noncomputable def slices_pdqsortOrdered_int64 (i : Nat) : Ty.T (.pair (.own 2 (.int .i64)) (.pair (.int .i64) (.pair (.int .i64) (.pair (.int .i64) .unit)))) → Option (Ty.T (.pair (.own 2 (.int .i64)) .unit)) := Nat.rec (fun _ => none) (fun _ f => F_slices_pdqsortOrdered_int64 f) i
noncomputable def R_slices_pdqsortOrdered_int64 (rec : Ty.T (.pair (.own 2 (.int .i64)) (.pair (.int .i64) (.pair (.int .i64) (.pair (.int .i64) .unit)))) → Option (Ty.T (.pair (.own 2 (.int .i64)) .unit))) : Spec := ⟨(.pair (.own 2 (.int .i64)) (.pair (.int .i64) (.pair (.int .i64) (.pair (.int .i64) .unit)))), .unit, (.pair (.own 2 (.int .i64)) .unit), rfl, rec⟩
noncomputable def S_slices_pdqsortOrdered_int64 : Spec := R_slices_pdqsortOrdered_int64 (slices_pdqsortOrdered_int64 100)
noncomputable def σ_slices_pdqsortOrdered_int64 (rec : Ty.T (.pair (.own 2 (.int .i64)) (.pair (.int .i64) (.pair (.int .i64) (.pair (.int .i64) .unit)))) → Option (Ty.T (.pair (.own 2 (.int .i64)) .unit))) : FuncId → Option Spec := sig [(156, R_slices_pdqsortOrdered_int64 rec), (166, S_slices_insertionSortOrdered_int64), (167, S_slices_heapSortOrdered_int64), (168, S_slices_breakPatternsOrdered_int64), (169, S_slices_choosePivotOrdered_int64), (170, S_slices_reverseRangeOrdered_int64), (171, S_slices_partialInsertionSortOrdered_int64), (172, S_cmp_Less_int64), (173, S_slices_partitionEqualOrdered_int64), (174, S_slices_partitionOrdered_int64)]
theorem σok_slices_pdqsortOrdered_int64 (rec : Ty.T (.pair (.own 2 (.int .i64)) (.pair (.int .i64) (.pair (.int .i64) (.pair (.int .i64) .unit)))) → Option (Ty.T (.pair (.own 2 (.int .i64)) .unit))) (hr : FnOK Try.prog 156 (R_slices_pdqsortOrdered_int64 rec)) : ∀ f s, (σ_slices_pdqsortOrdered_int64 rec) f = some s → FnOK Try.prog f s := sig_ok (l := [(156, R_slices_pdqsortOrdered_int64 rec), (166, S_slices_insertionSortOrdered_int64), (167, S_slices_heapSortOrdered_int64), (168, S_slices_breakPatternsOrdered_int64), (169, S_slices_choosePivotOrdered_int64), (170, S_slices_reverseRangeOrdered_int64), (171, S_slices_partialInsertionSortOrdered_int64), (172, S_cmp_Less_int64), (173, S_slices_partitionEqualOrdered_int64), (174, S_slices_partitionOrdered_int64)]) ⟨hr, ok_slices_insertionSortOrdered_int64, ok_slices_heapSortOrdered_int64, ok_slices_breakPatternsOrdered_int64, ok_slices_choosePivotOrdered_int64, ok_slices_reverseRangeOrdered_int64, ok_slices_partialInsertionSortOrdered_int64, ok_cmp_Less_int64, ok_slices_partitionEqualOrdered_int64, ok_slices_partitionOrdered_int64, trivial⟩
noncomputable def Λ_slices_pdqsortOrdered_int64 (rec : Ty.T (.pair (.own 2 (.int .i64)) (.pair (.int .i64) (.pair (.int .i64) (.pair (.int .i64) .unit)))) → Option (Ty.T (.pair (.own 2 (.int .i64)) .unit))) : Nat → Option LSpec := lkp (loopList (bodyOf Try.f156)) [⟨[0, 1, 2, 3, 8, 9], (.pair (.own 2 (.int .i64)) (.pair (.int .i64) (.pair (.int .i64) (.pair (.int .i64) (.pair .bool (.pair .bool .unit)))))), 999999, [], .unit, [0], (.pair (.own 2 (.int .i64)) .unit), loopL (b_slices_pdqsortOrdered_int64_2 rec)⟩]
theorem lok_slices_pdqsortOrdered_int64_2 (rec : Ty.T (.pair (.own 2 (.int .i64)) (.pair (.int .i64) (.pair (.int .i64) (.pair (.int .i64) .unit)))) → Option (Ty.T (.pair (.own 2 (.int .i64)) .unit))) (x) : codeK Γ0 E0 (σ_slices_pdqsortOrdered_int64 rec) (Λ_slices_pdqsortOrdered_int64 rec) Try.f156.ntmps (nthLoop Try.f156 0) (mkF Try.f156.ntmps [0, 1, 2, 3, 8, 9] (.pair (.own 2 (.int .i64)) (.pair (.int .i64) (.pair (.int .i64) (.pair (.int .i64) (.pair .bool (.pair .bool .unit)))))) x) (readK (σ_slices_pdqsortOrdered_int64 rec) Try.f156.ntmps [0, 1, 2, 3, 8, 9] (.pair (.own 2 (.int .i64)) (.pair (.int .i64) (.pair (.int .i64) (.pair (.int .i64) (.pair .bool (.pair .bool .unit)))))) 999999 [] .unit [0] (.pair (.own 2 (.int .i64)) .unit)) = b_slices_pdqsortOrdered_int64_2 rec x := by kernel_rfl
theorem step_slices_pdqsortOrdered_int64 (rec : Ty.T (.pair (.own 2 (.int .i64)) (.pair (.int .i64) (.pair (.int .i64) (.pair (.int .i64) .unit)))) → Option (Ty.T (.pair (.own 2 (.int .i64)) .unit))) (hr : FnOK Try.prog 156 (R_slices_pdqsortOrdered_int64 rec)) : FnOK Try.prog 156 (R_slices_pdqsortOrdered_int64 (F_slices_pdqsortOrdered_int64 rec)) := fn_ok (Λ := (Λ_slices_pdqsortOrdered_int64 rec)) tab0 (σok_slices_pdqsortOrdered_int64 rec hr) Try.func156 (by kernel_rfl) (show Try.f156.body = some (bodyOf Try.f156) by kernel_rfl) [⟨[0, 1, 2, 3, 8, 9], (.pair (.own 2 (.int .i64)) (.pair (.int .i64) (.pair (.int .i64) (.pair (.int .i64) (.pair .bool (.pair .bool .unit)))))), 999999, [], .unit, [0], (.pair (.own 2 (.int .i64)) .unit), loopL (b_slices_pdqsortOrdered_int64_2 rec)⟩] rfl (by kernel_rfl) (by exact ⟨loop_LOK (lok_slices_pdqsortOrdered_int64_2 rec), trivial⟩) (by kernel_rfl)
  fun x y h => (show execFn Γ0 E0 (σ_slices_pdqsortOrdered_int64 rec) (Λ_slices_pdqsortOrdered_int64 rec) Try.f156 (R_slices_pdqsortOrdered_int64 (F_slices_pdqsortOrdered_int64 rec)) x = F_slices_pdqsortOrdered_int64 rec x by kernel_rfl).trans h
theorem fuel_slices_pdqsortOrdered_int64 : ∀ i, FnOK Try.prog 156 (R_slices_pdqsortOrdered_int64 (slices_pdqsortOrdered_int64 i))
  | 0 => none_ok Try.func156 (by kernel_rfl) (show Try.f156.body = some (bodyOf Try.f156) by kernel_rfl)
  | i + 1 => step_slices_pdqsortOrdered_int64 _ (fuel_slices_pdqsortOrdered_int64 i)
theorem ok_slices_pdqsortOrdered_int64 : FnOK Try.prog 156 S_slices_pdqsortOrdered_int64 := fuel_slices_pdqsortOrdered_int64 100

noncomputable def slices_Sort_int64 (x : Ty.T (.pair (.own 2 (.int .i64)) .unit)) : Option (Ty.T (.pair (.own 2 (.int .i64)) .unit)) :=
match math_bits_Len ((IntKind.u64.wrap (x.1.length : Int)), ()) with
| none => none
| some v1 =>
match slices_pdqsortOrdered_int64 100 (x.1, (0 : Int), (x.1.length : Int), v1.1, ()) with
| none => none
| some v2 =>
some (v2.1, ())
noncomputable def S_slices_Sort_int64 : Spec := ⟨(.pair (.own 2 (.int .i64)) .unit), .unit, (.pair (.own 2 (.int .i64)) .unit), rfl, slices_Sort_int64⟩
noncomputable def σ_slices_Sort_int64 : FuncId → Option Spec := sig [(156, S_slices_pdqsortOrdered_int64), (157, S_math_bits_Len)]
theorem σok_slices_Sort_int64 : ∀ f s, σ_slices_Sort_int64 f = some s → FnOK Try.prog f s := sig_ok (l := [(156, S_slices_pdqsortOrdered_int64), (157, S_math_bits_Len)]) ⟨ok_slices_pdqsortOrdered_int64, ok_math_bits_Len, trivial⟩
noncomputable def Λ_slices_Sort_int64 : Nat → Option LSpec := lkp (loopList (bodyOf Try.f144)) []
theorem ok_slices_Sort_int64 : FnOK Try.prog 144 S_slices_Sort_int64 := fn_ok (Λ := Λ_slices_Sort_int64) tab0 σok_slices_Sort_int64 Try.func144 (by kernel_rfl) (show Try.f144.body = some (bodyOf Try.f144) by kernel_rfl) [] rfl (by kernel_rfl) (by exact trivial) (by kernel_rfl)
  fun x y h => (show execFn Γ0 E0 σ_slices_Sort_int64 Λ_slices_Sort_int64 Try.f144 S_slices_Sort_int64 x = slices_Sort_int64 x by kernel_rfl).trans h

noncomputable def i_floorDivide (x : Ty.T (.pair (.int .i64) (.pair (.int .i64) .unit))) : Option (Ty.T (.pair (.int .i64) .unit)) :=
if x.2.1 = 0 then none else
if x.2.1 = 0 then none else
match (decide ((Int.tmod x.1 x.2.1) < (0 : Int))) with
| true =>
 some ((IntKind.i64.wrap ((IntKind.i64.wrap (Int.tdiv x.1 x.2.1)) - (1 : Int))), ())
| false =>
 some ((IntKind.i64.wrap (Int.tdiv x.1 x.2.1)), ())
noncomputable def S_i_floorDivide : Spec := ⟨(.pair (.int .i64) (.pair (.int .i64) .unit)), (.pair (.int .i64) .unit), .unit, rfl, i_floorDivide⟩
noncomputable def σ_i_floorDivide : FuncId → Option Spec := sig []
theorem σok_i_floorDivide : ∀ f s, σ_i_floorDivide f = some s → FnOK Try.prog f s := sig_ok (l := []) trivial
noncomputable def Λ_i_floorDivide : Nat → Option LSpec := lkp (loopList (bodyOf Try.f145)) []
theorem ok_i_floorDivide : FnOK Try.prog 145 S_i_floorDivide := fn_ok (Λ := Λ_i_floorDivide) tab0 σok_i_floorDivide Try.func145 (by kernel_rfl) (show Try.f145.body = some (bodyOf Try.f145) by kernel_rfl) [] rfl (by kernel_rfl) (by exact trivial) (by kernel_rfl)
  fun x y h => (show execFn Γ0 E0 σ_i_floorDivide Λ_i_floorDivide Try.f145 S_i_floorDivide x = i_floorDivide x by kernel_rfl).trans h

noncomputable def b_i_toleratedMean_5 (x : (Ty.T (.pair (.list (.int .i64)) (.pair (.int .i64) (.pair (.list (.int .i64)) (.pair (.int .i64) (.pair (.int .i64) .unit))))))) : Option ((Ty.T (.pair (.list (.int .i64)) (.pair (.int .i64) (.pair (.list (.int .i64)) (.pair (.int .i64) (.pair (.int .i64) .unit)))))) ⊕ ((Ty.T (.pair (.list (.int .i64)) (.pair (.int .i64) .unit))) ⊕ (Ty.T .unit))) :=
match (decide (x.2.2.2.2.1 < x.2.2.2.1)) with
| true =>
 onSome (idx x.2.2.1 x.2.2.2.2.1) fun v5 =>
 some (.inl (x.1, (IntKind.i64.wrap (x.2.1 + v5)), x.2.2.1, x.2.2.2.1, (IntKind.i64.wrap (x.2.2.2.2.1 + (1 : Int))), ()))
| false =>
 some (.inr (.inl (x.1, x.2.1, ())))
noncomputable def i_toleratedMean (x : Ty.T (.pair (.list (.int .i64)) .unit)) : Option (Ty.T (.pair (.int .i64) .unit)) :=
match slices_Clone_int64 (x.1, ()) with
| none => none
| some v1 =>
match i_leftOut ((x.1.length : Int), ()) with
| none => none
| some v2 =>
match slices_Sort_int64 (v1.1, ()) with
| none => none
| some v3 =>
onSome (bounds v3.1.length (some (.dat (.int .i64) v2.1)) (some (.dat (.int .i64) (IntKind.i64.wrap ((v3.1.length : Int) - v2.1))))) fun v4 =>
match loopL b_i_toleratedMean_5 ((List.drop v4.1 (List.take v4.2 v3.1)), (0 : Int), (List.drop v4.1 (List.take v4.2 v3.1)), ((List.drop v4.1 (List.take v4.2 v3.1)).length : Int), (0 : Int), ()) with
| none => none
| some (.inl v6) =>
 match i_floorDivide (v6.2.1, (v6.1.length : Int), ()) with
 | none => none
 | some v8 =>
 some (v8.1, ())
| some (.inr v9) =>
 none
noncomputable def S_i_toleratedMean : Spec := ⟨(.pair (.list (.int .i64)) .unit), (.pair (.int .i64) .unit), .unit, rfl, i_toleratedMean⟩
noncomputable def σ_i_toleratedMean : FuncId → Option Spec := sig [(124, S_slices_Clone_int64), (143, S_i_leftOut), (144, S_slices_Sort_int64), (145, S_i_floorDivide)]
theorem σok_i_toleratedMean : ∀ f s, σ_i_toleratedMean f = some s → FnOK Try.prog f s := sig_ok (l := [(124, S_slices_Clone_int64), (143, S_i_leftOut), (144, S_slices_Sort_int64), (145, S_i_floorDivide)]) ⟨ok_slices_Clone_int64, ok_i_leftOut, ok_slices_Sort_int64, ok_i_floorDivide, trivial⟩
noncomputable def Λ_i_toleratedMean : Nat → Option LSpec := lkp (loopList (bodyOf Try.f120)) [⟨[5, 6, 23, 24, 25], (.pair (.list (.int .i64)) (.pair (.int .i64) (.pair (.list (.int .i64)) (.pair (.int .i64) (.pair (.int .i64) .unit))))), 0, [5, 6], (.pair (.list (.int .i64)) (.pair (.int .i64) .unit)), [], .unit, loopL b_i_toleratedMean_5⟩]
theorem lok_i_toleratedMean_5 (x) : codeK Γ0 E0 σ_i_toleratedMean Λ_i_toleratedMean Try.f120.ntmps (nthLoop Try.f120 0) (mkF Try.f120.ntmps [5, 6, 23, 24, 25] (.pair (.list (.int .i64)) (.pair (.int .i64) (.pair (.list (.int .i64)) (.pair (.int .i64) (.pair (.int .i64) .unit))))) x) (readK σ_i_toleratedMean Try.f120.ntmps [5, 6, 23, 24, 25] (.pair (.list (.int .i64)) (.pair (.int .i64) (.pair (.list (.int .i64)) (.pair (.int .i64) (.pair (.int .i64) .unit))))) 0 [5, 6] (.pair (.list (.int .i64)) (.pair (.int .i64) .unit)) [] .unit) = b_i_toleratedMean_5 x := by kernel_rfl
theorem ok_i_toleratedMean : FnOK Try.prog 120 S_i_toleratedMean := fn_ok (Λ := Λ_i_toleratedMean) tab0 σok_i_toleratedMean Try.func120 (by kernel_rfl) (show Try.f120.body = some (bodyOf Try.f120) by kernel_rfl) [⟨[5, 6, 23, 24, 25], (.pair (.list (.int .i64)) (.pair (.int .i64) (.pair (.list (.int .i64)) (.pair (.int .i64) (.pair (.int .i64) .unit))))), 0, [5, 6], (.pair (.list (.int .i64)) (.pair (.int .i64) .unit)), [], .unit, loopL b_i_toleratedMean_5⟩] rfl (by kernel_rfl) (by exact ⟨loop_LOK (lok_i_toleratedMean_5), trivial⟩) (by kernel_rfl)
  fun x y h => (show execFn Γ0 E0 σ_i_toleratedMean Λ_i_toleratedMean Try.f120 S_i_toleratedMean x = i_toleratedMean x by kernel_rfl).trans h

noncomputable def i_ToleratedMean (x : Ty.T (.pair (.list (.int .i64)) .unit)) : Option (Ty.T (.pair (.int .i64) (.pair (.int .i64) .unit))) :=
match (decide ((x.1.length : Int) < (1 : Int))) with
| true =>
 some ((0 : Int), (3 : Int), ())
| false =>
 match (decide ((x.1.length : Int) > (32 : Int))) with
 | true =>
  some ((0 : Int), (3 : Int), ())
 | false =>
  match i_allWithin (x.1, (-1000000 : Int), (1000000 : Int), ()) with
  | none => none
  | some v1 =>
  match (!v1.1) with
  | true =>
   some ((0 : Int), (2 : Int), ())
  | false =>
   match i_toleratedMean (x.1, ()) with
   | none => none
   | some v2 =>
   some (v2.1, (0 : Int), ())
noncomputable def S_i_ToleratedMean : Spec := ⟨(.pair (.list (.int .i64)) .unit), (.pair (.int .i64) (.pair (.int .i64) .unit)), .unit, rfl, i_ToleratedMean⟩
noncomputable def σ_i_ToleratedMean : FuncId → Option Spec := sig [(119, S_i_allWithin), (120, S_i_toleratedMean)]
theorem σok_i_ToleratedMean : ∀ f s, σ_i_ToleratedMean f = some s → FnOK Try.prog f s := sig_ok (l := [(119, S_i_allWithin), (120, S_i_toleratedMean)]) ⟨ok_i_allWithin, ok_i_toleratedMean, trivial⟩
noncomputable def Λ_i_ToleratedMean : Nat → Option LSpec := lkp (loopList (bodyOf Try.f72)) []
theorem ok_i_ToleratedMean : FnOK Try.prog 72 S_i_ToleratedMean := fn_ok (Λ := Λ_i_ToleratedMean) tab0 σok_i_ToleratedMean Try.func72 (by kernel_rfl) (show Try.f72.body = some (bodyOf Try.f72) by kernel_rfl) [] rfl (by kernel_rfl) (by exact trivial) (by kernel_rfl)
  fun x y h => (show execFn Γ0 E0 σ_i_ToleratedMean Λ_i_ToleratedMean Try.f72 S_i_ToleratedMean x = i_ToleratedMean x by kernel_rfl).trans h

noncomputable def l_FnExactToleratedMean (x : Ty.T (.pair (.list (.int .i64)) .unit)) : Option (Ty.T (.pair .bool .unit)) :=
match (decide ((x.1.length : Int) > (1048576 : Int))) with
| true =>
 some (true, ())
| false =>
 match l_toInt64S (x.1, ()) with
 | none => none
 | some v1 =>
 match s_ToleratedMean (v1.1, ()) with
 | none => none
 | some v2 =>
 match l_toInt64S (x.1, ()) with
 | none => none
 | some v3 =>
 match i_ToleratedMean (v3.1, ()) with
 | none => none
 | some v4 =>
 match (v4.1 != v2.1) with
 | true =>
  some (false, ())
 | false =>
  match (v4.2.1 != v2.2.1) with
  | true =>
   some (false, ())
  | false =>
   match l_toInt64S (x.1, ()) with
   | none => none
   | some v5 =>
   match l_eqInt64S (v3.1, v5.1, ()) with
   | none => none
   | some v6 =>
   match (!v6.1) with
   | true =>
    some (false, ())
   | false =>
    some (true, ())
noncomputable def S_l_FnExactToleratedMean : Spec := ⟨(.pair (.list (.int .i64)) .unit), (.pair .bool .unit), .unit, rfl, l_FnExactToleratedMean⟩
noncomputable def σ_l_FnExactToleratedMean : FuncId → Option Spec := sig [(57, S_l_eqInt64S), (70, S_s_ToleratedMean), (71, S_l_toInt64S), (72, S_i_ToleratedMean)]
theorem σok_l_FnExactToleratedMean : ∀ f s, σ_l_FnExactToleratedMean f = some s → FnOK Try.prog f s := sig_ok (l := [(57, S_l_eqInt64S), (70, S_s_ToleratedMean), (71, S_l_toInt64S), (72, S_i_ToleratedMean)]) ⟨ok_l_eqInt64S, ok_s_ToleratedMean, ok_l_toInt64S, ok_i_ToleratedMean, trivial⟩
noncomputable def Λ_l_FnExactToleratedMean : Nat → Option LSpec := lkp (loopList (bodyOf Try.f13)) []
theorem ok_l_FnExactToleratedMean : FnOK Try.prog 13 S_l_FnExactToleratedMean := fn_ok (Λ := Λ_l_FnExactToleratedMean) tab0 σok_l_FnExactToleratedMean Try.func13 (by kernel_rfl) (show Try.f13.body = some (bodyOf Try.f13) by kernel_rfl) [] rfl (by kernel_rfl) (by exact trivial) (by kernel_rfl)
  fun x y h => (show execFn Γ0 E0 σ_l_FnExactToleratedMean Λ_l_FnExactToleratedMean Try.f13 S_l_FnExactToleratedMean x = l_FnExactToleratedMean x by kernel_rfl).trans h

end Go.Proofs.Ytmdflpfagbcaiaa
