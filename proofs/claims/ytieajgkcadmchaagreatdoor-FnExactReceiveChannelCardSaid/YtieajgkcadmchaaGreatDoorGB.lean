/- What the functions of the claim do, on data; written by the program gen.py. -/
import Derived.Test.YtieajgkcadmchaaGreatDoorGA
namespace Go.Proofs.YtieajgkcadmchaaGreatDoor
open Go.RowKit
set_option linter.unusedVariables false

noncomputable def b_i_isRising_2 (x : (Ty.T (.pair (.list (.int .i64)) (.pair (.int .i64) (.pair (.list (.int .i64)) TCrc))))) : Option ((Ty.T (.pair (.list (.int .i64)) (.pair (.int .i64) (.pair (.list (.int .i64)) TCrc)))) ⊕ ((Ty.T .unit) ⊕ (Ty.T (.pair .bool .unit)))) :=
match (decide (x.2.2.2.2.1 < x.2.2.2.1)) with
| true =>
 onSome (idx x.2.2.1 x.2.2.2.2.1) fun v1 =>
 match (decide (v1 < (0 : Int))) with
 | true =>
  some (.inr (.inr (false, ())))
 | false =>
  match (decide (v1 ≥ x.2.1)) with
  | true =>
   some (.inr (.inr (false, ())))
  | false =>
   match (decide (x.2.2.2.2.1 > (0 : Int))) with
   | true =>
    onSome (idx x.1 (IntKind.i64.wrap (x.2.2.2.2.1 - (1 : Int)))) fun v2 =>
    match (decide (v2 ≥ v1)) with
    | true =>
     some (.inr (.inr (false, ())))
    | false =>
     some (.inl (x.1, x.2.1, x.2.2.1, x.2.2.2.1, (IntKind.i64.wrap (x.2.2.2.2.1 + (1 : Int))), ()))
   | false =>
    some (.inl (x.1, x.2.1, x.2.2.1, x.2.2.2.1, (IntKind.i64.wrap (x.2.2.2.2.1 + (1 : Int))), ()))
| false =>
 some (.inr (.inl (())))
noncomputable def i_isRising (x : Ty.T (.pair (.list (.int .i64)) (.pair (.int .i64) .unit))) : Option (Ty.T (.pair .bool .unit)) :=
match loopL b_i_isRising_2 (x.1, x.2.1, x.1, (x.1.length : Int), (0 : Int), ()) with
| none => none
| some (.inl v3) =>
 some (true, ())
| some (.inr v4) =>
 some (v4.1, ())
noncomputable def S_i_isRising : Spec := ⟨(.pair (.list (.int .i64)) (.pair (.int .i64) .unit)), (.pair .bool .unit), .unit, rfl, i_isRising⟩
noncomputable def σ_i_isRising : FuncId → Option Spec := sig []
theorem σok_i_isRising : ∀ f s, σ_i_isRising f = some s → FnOK G0 Tryz.prog f s := sig_ok (l := []) trivial
noncomputable def Λ_i_isRising : Nat → Option LSpec := lkp (loopList (bodyOf Tryz.f183)) [⟨[0, 1, 7, 8, 9], (.pair (.list (.int .i64)) (.pair (.int .i64) (.pair (.list (.int .i64)) TCrc))), 0, [], .unit, [4], (.pair .bool .unit), loopL b_i_isRising_2⟩]
theorem lok_i_isRising_2 (x) : codeK Γ0 E0 σ_i_isRising Λ_i_isRising Tryz.f183.ntmps (nthLoop Tryz.f183 0) (mkF Tryz.f183.ntmps [0, 1, 7, 8, 9] (.pair (.list (.int .i64)) (.pair (.int .i64) (.pair (.list (.int .i64)) TCrc))) x) (readK σ_i_isRising Tryz.f183.ntmps [0, 1, 7, 8, 9] (.pair (.list (.int .i64)) (.pair (.int .i64) (.pair (.list (.int .i64)) TCrc))) 0 [] .unit [4] (.pair .bool .unit)) = b_i_isRising_2 x := by kernel_rfl
theorem ok_i_isRising : FnOK G0 Tryz.prog 183 S_i_isRising := fn_ok (Λ := Λ_i_isRising) tab0 σok_i_isRising Tryz.func183 (by kernel_rfl) (show Tryz.f183.body = some (bodyOf Tryz.f183) by kernel_rfl) [⟨[0, 1, 7, 8, 9], (.pair (.list (.int .i64)) (.pair (.int .i64) (.pair (.list (.int .i64)) TCrc))), 0, [], .unit, [4], (.pair .bool .unit), loopL b_i_isRising_2⟩] rfl (by kernel_rfl) (by exact ⟨loop_LOK (lok_i_isRising_2), trivial⟩) (by kernel_rfl)
  fun x y h => (show execFn Γ0 E0 σ_i_isRising Λ_i_isRising Tryz.f183 S_i_isRising x = i_isRising x by kernel_rfl).trans h

noncomputable def b_slices_Index_int64_2 (x : (Ty.T (.pair (.list (.int .i64)) (.pair (.int .i64) TCrc)))) : Option ((Ty.T (.pair (.list (.int .i64)) (.pair (.int .i64) TCrc))) ⊕ ((Ty.T .unit) ⊕ (Ty.T (.pair (.int .i64) .unit)))) :=
match (decide (x.2.2.2.1 < x.2.2.1)) with
| true =>
 onSome (idx x.1 x.2.2.2.1) fun v1 =>
 match (x.2.1 == v1) with
 | true =>
  some (.inr (.inr (x.2.2.2.1, ())))
 | false =>
  some (.inl (x.1, x.2.1, x.2.2.1, (IntKind.i64.wrap (x.2.2.2.1 + (1 : Int))), ()))
| false =>
 some (.inr (.inl (())))
noncomputable def slices_Index_int64 (x : Ty.T (.pair (.list (.int .i64)) (.pair (.int .i64) .unit))) : Option (Ty.T (.pair (.int .i64) .unit)) :=
match loopL b_slices_Index_int64_2 (x.1, x.2.1, (x.1.length : Int), (0 : Int), ()) with
| none => none
| some (.inl v2) =>
 some ((-1 : Int), ())
| some (.inr v3) =>
 some (v3.1, ())
noncomputable def S_slices_Index_int64 : Spec := ⟨(.pair (.list (.int .i64)) (.pair (.int .i64) .unit)), (.pair (.int .i64) .unit), .unit, rfl, slices_Index_int64⟩
noncomputable def σ_slices_Index_int64 : FuncId → Option Spec := sig []
theorem σok_slices_Index_int64 : ∀ f s, σ_slices_Index_int64 f = some s → FnOK G0 Tryz.prog f s := sig_ok (l := []) trivial
noncomputable def Λ_slices_Index_int64 : Nat → Option LSpec := lkp (loopList (bodyOf Tryz.f202)) [⟨[0, 1, 7, 8], (.pair (.list (.int .i64)) (.pair (.int .i64) TCrc)), 0, [], .unit, [4], (.pair (.int .i64) .unit), loopL b_slices_Index_int64_2⟩]
theorem lok_slices_Index_int64_2 (x) : codeK Γ0 E0 σ_slices_Index_int64 Λ_slices_Index_int64 Tryz.f202.ntmps (nthLoop Tryz.f202 0) (mkF Tryz.f202.ntmps [0, 1, 7, 8] (.pair (.list (.int .i64)) (.pair (.int .i64) TCrc)) x) (readK σ_slices_Index_int64 Tryz.f202.ntmps [0, 1, 7, 8] (.pair (.list (.int .i64)) (.pair (.int .i64) TCrc)) 0 [] .unit [4] (.pair (.int .i64) .unit)) = b_slices_Index_int64_2 x := by kernel_rfl
theorem ok_slices_Index_int64 : FnOK G0 Tryz.prog 202 S_slices_Index_int64 := fn_ok (Λ := Λ_slices_Index_int64) tab0 σok_slices_Index_int64 Tryz.func202 (by kernel_rfl) (show Tryz.f202.body = some (bodyOf Tryz.f202) by kernel_rfl) [⟨[0, 1, 7, 8], (.pair (.list (.int .i64)) (.pair (.int .i64) TCrc)), 0, [], .unit, [4], (.pair (.int .i64) .unit), loopL b_slices_Index_int64_2⟩] rfl (by kernel_rfl) (by exact ⟨loop_LOK (lok_slices_Index_int64_2), trivial⟩) (by kernel_rfl)
  fun x y h => (show execFn Γ0 E0 σ_slices_Index_int64 Λ_slices_Index_int64 Tryz.f202 S_slices_Index_int64 x = slices_Index_int64 x by kernel_rfl).trans h

noncomputable def slices_Contains_int64 (x : Ty.T (.pair (.list (.int .i64)) (.pair (.int .i64) .unit))) : Option (Ty.T (.pair .bool .unit)) :=
match slices_Index_int64 (x.1, x.2.1, ()) with
| none => none
| some v1 =>
some ((decide (v1.1 ≥ (0 : Int))), ())
noncomputable def S_slices_Contains_int64 : Spec := ⟨(.pair (.list (.int .i64)) (.pair (.int .i64) .unit)), (.pair .bool .unit), .unit, rfl, slices_Contains_int64⟩
noncomputable def σ_slices_Contains_int64 : FuncId → Option Spec := sig [(202, S_slices_Index_int64)]
theorem σok_slices_Contains_int64 : ∀ f s, σ_slices_Contains_int64 f = some s → FnOK G0 Tryz.prog f s := sig_ok (l := [(202, S_slices_Index_int64)]) ⟨ok_slices_Index_int64, trivial⟩
noncomputable def Λ_slices_Contains_int64 : Nat → Option LSpec := lkp (loopList (bodyOf Tryz.f184)) []
theorem ok_slices_Contains_int64 : FnOK G0 Tryz.prog 184 S_slices_Contains_int64 := fn_ok (Λ := Λ_slices_Contains_int64) tab0 σok_slices_Contains_int64 Tryz.func184 (by kernel_rfl) (show Tryz.f184.body = some (bodyOf Tryz.f184) by kernel_rfl) [] rfl (by kernel_rfl) (by exact trivial) (by kernel_rfl)
  fun x y h => (show execFn Γ0 E0 σ_slices_Contains_int64 Λ_slices_Contains_int64 Tryz.f184 S_slices_Contains_int64 x = slices_Contains_int64 x by kernel_rfl).trans h

noncomputable def b_i_IsModeTable_2 (x : (Ty.T (.pair (.list TModeInfo) (.pair (.list TModeInfo) TCrc)))) : Option ((Ty.T (.pair (.list TModeInfo) (.pair (.list TModeInfo) TCrc))) ⊕ ((Ty.T (.pair (.list TModeInfo) .unit)) ⊕ (Ty.T (.pair .bool .unit)))) :=
match (decide (x.2.2.2.1 < x.2.2.1)) with
| true =>
 onSome (idx x.2.1 x.2.2.2.1) fun v1 =>
 match i_within (v1.1, (1 : Int), (8 : Int), ()) with
 | none => none
 | some v2 =>
 match (!v2.1) with
 | true =>
  some (.inr (.inr (false, ())))
 | false =>
  match i_within (v1.2.1, (1 : Int), (16 : Int), ()) with
  | none => none
  | some v3 =>
  match (!v3.1) with
  | true =>
   some (.inr (.inr (false, ())))
  | false =>
   match i_isRising (v1.2.2.1, (x.1.length : Int), ()) with
   | none => none
   | some v4 =>
   match (!v4.1) with
   | true =>
    some (.inr (.inr (false, ())))
   | false =>
    match slices_Contains_int64 (v1.2.2.1, x.2.2.2.1, ()) with
    | none => none
    | some v5 =>
    match v5.1 with
    | true =>
     some (.inr (.inr (false, ())))
    | false =>
     some (.inl (x.1, x.2.1, x.2.2.1, (IntKind.i64.wrap (x.2.2.2.1 + (1 : Int))), ()))
| false =>
 some (.inr (.inl (x.1, ())))
noncomputable def i_IsModeTable (x : Ty.T (.pair (.list TModeInfo) .unit)) : Option (Ty.T (.pair .bool .unit)) :=
match loopL b_i_IsModeTable_2 (x.1, x.1, (x.1.length : Int), (0 : Int), ()) with
| none => none
| some (.inl v6) =>
 match (decide ((v6.1.length : Int) ≥ (1 : Int))) with
 | true =>
  some ((decide ((v6.1.length : Int) ≤ (16 : Int))), ())
 | false =>
  some (false, ())
| some (.inr v7) =>
 some (v7.1, ())
noncomputable def S_i_IsModeTable : Spec := ⟨(.pair (.list TModeInfo) .unit), (.pair .bool .unit), .unit, rfl, i_IsModeTable⟩
noncomputable def σ_i_IsModeTable : FuncId → Option Spec := sig [(140, S_i_within), (183, S_i_isRising), (184, S_slices_Contains_int64)]
theorem σok_i_IsModeTable : ∀ f s, σ_i_IsModeTable f = some s → FnOK G0 Tryz.prog f s := sig_ok (l := [(140, S_i_within), (183, S_i_isRising), (184, S_slices_Contains_int64)]) ⟨ok_i_within, ok_i_isRising, ok_slices_Contains_int64, trivial⟩
noncomputable def Λ_i_IsModeTable : Nat → Option LSpec := lkp (loopList (bodyOf Tryz.f142)) [⟨[0, 5, 6, 7], (.pair (.list TModeInfo) (.pair (.list TModeInfo) TCrc)), 0, [0], (.pair (.list TModeInfo) .unit), [2], (.pair .bool .unit), loopL b_i_IsModeTable_2⟩]
theorem lok_i_IsModeTable_2 (x) : codeK Γ0 E0 σ_i_IsModeTable Λ_i_IsModeTable Tryz.f142.ntmps (nthLoop Tryz.f142 0) (mkF Tryz.f142.ntmps [0, 5, 6, 7] (.pair (.list TModeInfo) (.pair (.list TModeInfo) TCrc)) x) (readK σ_i_IsModeTable Tryz.f142.ntmps [0, 5, 6, 7] (.pair (.list TModeInfo) (.pair (.list TModeInfo) TCrc)) 0 [0] (.pair (.list TModeInfo) .unit) [2] (.pair .bool .unit)) = b_i_IsModeTable_2 x := by kernel_rfl
theorem ok_i_IsModeTable : FnOK G0 Tryz.prog 142 S_i_IsModeTable := fn_ok (Λ := Λ_i_IsModeTable) tab0 σok_i_IsModeTable Tryz.func142 (by kernel_rfl) (show Tryz.f142.body = some (bodyOf Tryz.f142) by kernel_rfl) [⟨[0, 5, 6, 7], (.pair (.list TModeInfo) (.pair (.list TModeInfo) TCrc)), 0, [0], (.pair (.list TModeInfo) .unit), [2], (.pair .bool .unit), loopL b_i_IsModeTable_2⟩] rfl (by kernel_rfl) (by exact ⟨loop_LOK (lok_i_IsModeTable_2), trivial⟩) (by kernel_rfl)
  fun x y h => (show execFn Γ0 E0 σ_i_IsModeTable Λ_i_IsModeTable Tryz.f142 S_i_IsModeTable x = i_IsModeTable x by kernel_rfl).trans h

noncomputable def i_isKind (x : Ty.T (.pair (.int .i64) .unit)) : Option (Ty.T (.pair .bool .unit)) :=
match i_within (x.1, (0 : Int), (3 : Int), ()) with
| none => none
| some v1 =>
some (v1.1, ())
noncomputable def S_i_isKind : Spec := ⟨(.pair (.int .i64) .unit), (.pair .bool .unit), .unit, rfl, i_isKind⟩
noncomputable def σ_i_isKind : FuncId → Option Spec := sig [(140, S_i_within)]
theorem σok_i_isKind : ∀ f s, σ_i_isKind f = some s → FnOK G0 Tryz.prog f s := sig_ok (l := [(140, S_i_within)]) ⟨ok_i_within, trivial⟩
noncomputable def Λ_i_isKind : Nat → Option LSpec := lkp (loopList (bodyOf Tryz.f195)) []
theorem ok_i_isKind : FnOK G0 Tryz.prog 195 S_i_isKind := fn_ok (Λ := Λ_i_isKind) tab0 σok_i_isKind Tryz.func195 (by kernel_rfl) (show Tryz.f195.body = some (bodyOf Tryz.f195) by kernel_rfl) [] rfl (by kernel_rfl) (by exact trivial) (by kernel_rfl)
  fun x y h => (show execFn Γ0 E0 σ_i_isKind Λ_i_isKind Tryz.f195 S_i_isKind x = i_isKind x by kernel_rfl).trans h

noncomputable def i_isDataSize (x : Ty.T TCrc) : Option (Ty.T (.pair .bool .unit)) :=
match (x.1 == (0 : Int)) with
| true =>
 match i_within (x.2.1, (0 : Int), (32 : Int), ()) with
 | none => none
 | some v1 =>
 some (v1.1, ())
| false =>
 match (x.1 == (2 : Int)) with
 | true =>
  match i_within (x.2.1, (1 : Int), (32 : Int), ()) with
  | none => none
  | some v2 =>
  some (v2.1, ())
 | false =>
  some ((x.2.1 == (0 : Int)), ())
noncomputable def S_i_isDataSize : Spec := ⟨TCrc, (.pair .bool .unit), .unit, rfl, i_isDataSize⟩
noncomputable def σ_i_isDataSize : FuncId → Option Spec := sig [(140, S_i_within)]
theorem σok_i_isDataSize : ∀ f s, σ_i_isDataSize f = some s → FnOK G0 Tryz.prog f s := sig_ok (l := [(140, S_i_within)]) ⟨ok_i_within, trivial⟩
noncomputable def Λ_i_isDataSize : Nat → Option LSpec := lkp (loopList (bodyOf Tryz.f196)) []
theorem ok_i_isDataSize : FnOK G0 Tryz.prog 196 S_i_isDataSize := fn_ok (Λ := Λ_i_isDataSize) tab0 σok_i_isDataSize Tryz.func196 (by kernel_rfl) (show Tryz.f196.body = some (bodyOf Tryz.f196) by kernel_rfl) [] rfl (by kernel_rfl) (by exact trivial) (by kernel_rfl)
  fun x y h => (show execFn Γ0 E0 σ_i_isDataSize Λ_i_isDataSize Tryz.f196 S_i_isDataSize x = i_isDataSize x by kernel_rfl).trans h

noncomputable def i_hasState (x : Ty.T (.pair (.int .i64) .unit)) : Option (Ty.T (.pair .bool .unit)) :=
some ((x.1 != (0 : Int)), ())
noncomputable def S_i_hasState : Spec := ⟨(.pair (.int .i64) .unit), (.pair .bool .unit), .unit, rfl, i_hasState⟩
noncomputable def σ_i_hasState : FuncId → Option Spec := sig []
theorem σok_i_hasState : ∀ f s, σ_i_hasState f = some s → FnOK G0 Tryz.prog f s := sig_ok (l := []) trivial
noncomputable def Λ_i_hasState : Nat → Option LSpec := lkp (loopList (bodyOf Tryz.f110)) []
theorem ok_i_hasState : FnOK G0 Tryz.prog 110 S_i_hasState := fn_ok (Λ := Λ_i_hasState) tab0 σok_i_hasState Tryz.func110 (by kernel_rfl) (show Tryz.f110.body = some (bodyOf Tryz.f110) by kernel_rfl) [] rfl (by kernel_rfl) (by exact trivial) (by kernel_rfl)
  fun x y h => (show execFn Γ0 E0 σ_i_hasState Λ_i_hasState Tryz.f110 S_i_hasState x = i_hasState x by kernel_rfl).trans h

noncomputable def i_hasData (x : Ty.T (.pair (.int .i64) .unit)) : Option (Ty.T (.pair .bool .unit)) :=
match (x.1 == (0 : Int)) with
| true =>
 some (true, ())
| false =>
 some ((x.1 == (2 : Int)), ())
noncomputable def S_i_hasData : Spec := ⟨(.pair (.int .i64) .unit), (.pair .bool .unit), .unit, rfl, i_hasData⟩
noncomputable def σ_i_hasData : FuncId → Option Spec := sig []
theorem σok_i_hasData : ∀ f s, σ_i_hasData f = some s → FnOK G0 Tryz.prog f s := sig_ok (l := []) trivial
noncomputable def Λ_i_hasData : Nat → Option LSpec := lkp (loopList (bodyOf Tryz.f158)) []
theorem ok_i_hasData : FnOK G0 Tryz.prog 158 S_i_hasData := fn_ok (Λ := Λ_i_hasData) tab0 σok_i_hasData Tryz.func158 (by kernel_rfl) (show Tryz.f158.body = some (bodyOf Tryz.f158) by kernel_rfl) [] rfl (by kernel_rfl) (by exact trivial) (by kernel_rfl)
  fun x y h => (show execFn Γ0 E0 σ_i_hasData Λ_i_hasData Tryz.f158 S_i_hasData x = i_hasData x by kernel_rfl).trans h

noncomputable def i_bodySize (x : Ty.T TCrc) : Option (Ty.T (.pair (.int .i64) .unit)) :=
match i_hasState (x.1, ()) with
| none => none
| some v1 =>
match v1.1 with
| true =>
 match i_hasData (x.1, ()) with
 | none => none
 | some v2 =>
 match v2.1 with
 | true =>
  some ((IntKind.i64.wrap ((IntKind.i64.wrap ((1 : Int) + (8 : Int))) + (IntKind.i64.wrap ((1 : Int) + x.2.1)))), ())
 | false =>
  some ((IntKind.i64.wrap ((1 : Int) + (8 : Int))), ())
| false =>
 match i_hasData (x.1, ()) with
 | none => none
 | some v3 =>
 match v3.1 with
 | true =>
  some ((IntKind.i64.wrap ((1 : Int) + (IntKind.i64.wrap ((1 : Int) + x.2.1)))), ())
 | false =>
  some ((1 : Int), ())
noncomputable def S_i_bodySize : Spec := ⟨TCrc, (.pair (.int .i64) .unit), .unit, rfl, i_bodySize⟩
noncomputable def σ_i_bodySize : FuncId → Option Spec := sig [(110, S_i_hasState), (158, S_i_hasData)]
theorem σok_i_bodySize : ∀ f s, σ_i_bodySize f = some s → FnOK G0 Tryz.prog f s := sig_ok (l := [(110, S_i_hasState), (158, S_i_hasData)]) ⟨ok_i_hasState, ok_i_hasData, trivial⟩
noncomputable def Λ_i_bodySize : Nat → Option LSpec := lkp (loopList (bodyOf Tryz.f219)) []
theorem ok_i_bodySize : FnOK G0 Tryz.prog 219 S_i_bodySize := fn_ok (Λ := Λ_i_bodySize) tab0 σok_i_bodySize Tryz.func219 (by kernel_rfl) (show Tryz.f219.body = some (bodyOf Tryz.f219) by kernel_rfl) [] rfl (by kernel_rfl) (by exact trivial) (by kernel_rfl)
  fun x y h => (show execFn Γ0 E0 σ_i_bodySize Λ_i_bodySize Tryz.f219 S_i_bodySize x = i_bodySize x by kernel_rfl).trans h

noncomputable def i_cellsNeeded (x : Ty.T TCrc) : Option (Ty.T (.pair (.int .i64) .unit)) :=
match i_bodySize (x.1, x.2.1, ()) with
| none => none
| some v1 =>
some ((IntKind.i64.wrap ((11 : Int) + (IntKind.i64.wrap ((10 : Int) * (IntKind.i64.wrap (v1.1 + (3 : Int))))))), ())
noncomputable def S_i_cellsNeeded : Spec := ⟨TCrc, (.pair (.int .i64) .unit), .unit, rfl, i_cellsNeeded⟩
noncomputable def σ_i_cellsNeeded : FuncId → Option Spec := sig [(219, S_i_bodySize)]
theorem σok_i_cellsNeeded : ∀ f s, σ_i_cellsNeeded f = some s → FnOK G0 Tryz.prog f s := sig_ok (l := [(219, S_i_bodySize)]) ⟨ok_i_bodySize, trivial⟩
noncomputable def Λ_i_cellsNeeded : Nat → Option LSpec := lkp (loopList (bodyOf Tryz.f213)) []
theorem ok_i_cellsNeeded : FnOK G0 Tryz.prog 213 S_i_cellsNeeded := fn_ok (Λ := Λ_i_cellsNeeded) tab0 σok_i_cellsNeeded Tryz.func213 (by kernel_rfl) (show Tryz.f213.body = some (bodyOf Tryz.f213) by kernel_rfl) [] rfl (by kernel_rfl) (by exact trivial) (by kernel_rfl)
  fun x y h => (show execFn Γ0 E0 σ_i_cellsNeeded Λ_i_cellsNeeded Tryz.f213 S_i_cellsNeeded x = i_cellsNeeded x by kernel_rfl).trans h

noncomputable def i_IsDescriptor (x : Ty.T (.pair TDescriptor .unit)) : Option (Ty.T (.pair .bool .unit)) :=
match i_isNode (x.1.1, ()) with
| none => none
| some v1 =>
match (!v1.1) with
| true =>
 some (false, ())
| false =>
 match i_isKind (x.1.2.1, ()) with
 | none => none
 | some v2 =>
 match (!v2.1) with
 | true =>
  some (false, ())
 | false =>
  match i_isDataSize (x.1.2.1, x.1.2.2.1, ()) with
  | none => none
  | some v3 =>
  match (!v3.1) with
  | true =>
   some (false, ())
  | false =>
   match x.1.2.2.2.2.1 with
   | true =>
    match (x.1.2.1 == (3 : Int)) with
    | true =>
     some (false, ())
    | false =>
     match i_cellsNeeded (x.1.2.1, x.1.2.2.1, ()) with
     | none => none
     | some v4 =>
     match i_within (x.1.2.2.2.1, (IntKind.i64.wrap (v4.1 + (20 : Int))), (1000 : Int), ()) with
     | none => none
     | some v5 =>
     some (v5.1, ())
   | false =>
    match i_cellsNeeded (x.1.2.1, x.1.2.2.1, ()) with
    | none => none
    | some v6 =>
    match i_within (x.1.2.2.2.1, (IntKind.i64.wrap (v6.1 + (20 : Int))), (1000 : Int), ()) with
    | none => none
    | some v7 =>
    some (v7.1, ())
noncomputable def S_i_IsDescriptor : Spec := ⟨(.pair TDescriptor .unit), (.pair .bool .unit), .unit, rfl, i_IsDescriptor⟩
noncomputable def σ_i_IsDescriptor : FuncId → Option Spec := sig [(140, S_i_within), (195, S_i_isKind), (196, S_i_isDataSize), (200, S_i_isNode), (213, S_i_cellsNeeded)]
theorem σok_i_IsDescriptor : ∀ f s, σ_i_IsDescriptor f = some s → FnOK G0 Tryz.prog f s := sig_ok (l := [(140, S_i_within), (195, S_i_isKind), (196, S_i_isDataSize), (200, S_i_isNode), (213, S_i_cellsNeeded)]) ⟨ok_i_within, ok_i_isKind, ok_i_isDataSize, ok_i_isNode, ok_i_cellsNeeded, trivial⟩
noncomputable def Λ_i_IsDescriptor : Nat → Option LSpec := lkp (loopList (bodyOf Tryz.f203)) []
theorem ok_i_IsDescriptor : FnOK G0 Tryz.prog 203 S_i_IsDescriptor := fn_ok (Λ := Λ_i_IsDescriptor) tab0 σok_i_IsDescriptor Tryz.func203 (by kernel_rfl) (show Tryz.f203.body = some (bodyOf Tryz.f203) by kernel_rfl) [] rfl (by kernel_rfl) (by exact trivial) (by kernel_rfl)
  fun x y h => (show execFn Γ0 E0 σ_i_IsDescriptor Λ_i_IsDescriptor Tryz.f203 S_i_IsDescriptor x = i_IsDescriptor x by kernel_rfl).trans h

noncomputable def i_isSlotInfo (x : Ty.T (.pair TSlotInfo .unit)) : Option (Ty.T (.pair .bool .unit)) :=
match i_within (x.1.1, (0 : Int), (15 : Int), ()) with
| none => none
| some v1 =>
match v1.1 with
| true =>
 match i_within (x.1.2.1, (0 : Int), (7 : Int), ()) with
 | none => none
 | some v2 =>
 match v2.1 with
 | true =>
  match i_within (x.1.2.2.1, (0 : Int), (15 : Int), ()) with
  | none => none
  | some v3 =>
  match v3.1 with
  | true =>
   match i_IsDescriptor ((x.1.2.2.2.1.1, x.1.2.2.2.1.2.1, x.1.2.2.2.1.2.2.1, x.1.2.2.2.1.2.2.2.1, x.1.2.2.2.1.2.2.2.2.1, ()), ()) with
   | none => none
   | some v4 =>
   some (v4.1, ())
  | false =>
   some (false, ())
 | false =>
  some (false, ())
| false =>
 some (false, ())
noncomputable def S_i_isSlotInfo : Spec := ⟨(.pair TSlotInfo .unit), (.pair .bool .unit), .unit, rfl, i_isSlotInfo⟩
noncomputable def σ_i_isSlotInfo : FuncId → Option Spec := sig [(140, S_i_within), (203, S_i_IsDescriptor)]
theorem σok_i_isSlotInfo : ∀ f s, σ_i_isSlotInfo f = some s → FnOK G0 Tryz.prog f s := sig_ok (l := [(140, S_i_within), (203, S_i_IsDescriptor)]) ⟨ok_i_within, ok_i_IsDescriptor, trivial⟩
noncomputable def Λ_i_isSlotInfo : Nat → Option LSpec := lkp (loopList (bodyOf Tryz.f185)) []
theorem ok_i_isSlotInfo : FnOK G0 Tryz.prog 185 S_i_isSlotInfo := fn_ok (Λ := Λ_i_isSlotInfo) tab0 σok_i_isSlotInfo Tryz.func185 (by kernel_rfl) (show Tryz.f185.body = some (bodyOf Tryz.f185) by kernel_rfl) [] rfl (by kernel_rfl) (by exact trivial) (by kernel_rfl)
  fun x y h => (show execFn Γ0 E0 σ_i_isSlotInfo Λ_i_isSlotInfo Tryz.f185 S_i_isSlotInfo x = i_isSlotInfo x by kernel_rfl).trans h

noncomputable def i_compare (x : Ty.T TCrc) : Option (Ty.T (.pair (.int .i64) .unit)) :=
match (decide (x.1 < x.2.1)) with
| true =>
 some ((-1 : Int), ())
| false =>
 match (decide (x.1 > x.2.1)) with
 | true =>
  some ((1 : Int), ())
 | false =>
  some ((0 : Int), ())
noncomputable def S_i_compare : Spec := ⟨TCrc, (.pair (.int .i64) .unit), .unit, rfl, i_compare⟩
noncomputable def σ_i_compare : FuncId → Option Spec := sig []
theorem σok_i_compare : ∀ f s, σ_i_compare f = some s → FnOK G0 Tryz.prog f s := sig_ok (l := []) trivial
noncomputable def Λ_i_compare : Nat → Option LSpec := lkp (loopList (bodyOf Tryz.f204)) []
theorem ok_i_compare : FnOK G0 Tryz.prog 204 S_i_compare := fn_ok (Λ := Λ_i_compare) tab0 σok_i_compare Tryz.func204 (by kernel_rfl) (show Tryz.f204.body = some (bodyOf Tryz.f204) by kernel_rfl) [] rfl (by kernel_rfl) (by exact trivial) (by kernel_rfl)
  fun x y h => (show execFn Γ0 E0 σ_i_compare Λ_i_compare Tryz.f204 S_i_compare x = i_compare x by kernel_rfl).trans h

noncomputable def i_CompareSlots (x : Ty.T (.pair TSlotInfo (.pair TSlotInfo .unit))) : Option (Ty.T (.pair (.int .i64) .unit)) :=
match (x.1.1 != x.2.1.1) with
| true =>
 match i_compare (x.1.1, x.2.1.1, ()) with
 | none => none
 | some v1 =>
 some (v1.1, ())
| false =>
 match (x.1.2.1 != x.2.1.2.1) with
 | true =>
  match i_compare (x.1.2.1, x.2.1.2.1, ()) with
  | none => none
  | some v2 =>
  some (v2.1, ())
 | false =>
  match i_compare (x.1.2.2.1, x.2.1.2.2.1, ()) with
  | none => none
  | some v3 =>
  some (v3.1, ())
noncomputable def S_i_CompareSlots : Spec := ⟨(.pair TSlotInfo (.pair TSlotInfo .unit)), (.pair (.int .i64) .unit), .unit, rfl, i_CompareSlots⟩
noncomputable def σ_i_CompareSlots : FuncId → Option Spec := sig [(204, S_i_compare)]
theorem σok_i_CompareSlots : ∀ f s, σ_i_CompareSlots f = some s → FnOK G0 Tryz.prog f s := sig_ok (l := [(204, S_i_compare)]) ⟨ok_i_compare, trivial⟩
noncomputable def Λ_i_CompareSlots : Nat → Option LSpec := lkp (loopList (bodyOf Tryz.f186)) []
theorem ok_i_CompareSlots : FnOK G0 Tryz.prog 186 S_i_CompareSlots := fn_ok (Λ := Λ_i_CompareSlots) tab0 σok_i_CompareSlots Tryz.func186 (by kernel_rfl) (show Tryz.f186.body = some (bodyOf Tryz.f186) by kernel_rfl) [] rfl (by kernel_rfl) (by exact trivial) (by kernel_rfl)
  fun x y h => (show execFn Γ0 E0 σ_i_CompareSlots Λ_i_CompareSlots Tryz.f186 S_i_CompareSlots x = i_CompareSlots x by kernel_rfl).trans h

noncomputable def b_i_IsSlotTable_2 (x : (Ty.T (.pair (.list TSlotInfo) (.pair (.list TSlotInfo) TCrc)))) : Option ((Ty.T (.pair (.list TSlotInfo) (.pair (.list TSlotInfo) TCrc))) ⊕ ((Ty.T (.pair (.list TSlotInfo) .unit)) ⊕ (Ty.T (.pair .bool .unit)))) :=
match (decide (x.2.2.2.1 < x.2.2.1)) with
| true =>
 onSome (idx x.2.1 x.2.2.2.1) fun v1 =>
 match i_isSlotInfo ((v1.1, v1.2.1, v1.2.2.1, (v1.2.2.2.1.1, v1.2.2.2.1.2.1, v1.2.2.2.1.2.2.1, v1.2.2.2.1.2.2.2.1, v1.2.2.2.1.2.2.2.2.1, ()), ()), ()) with
 | none => none
 | some v2 =>
 match (!v2.1) with
 | true =>
  some (.inr (.inr (false, ())))
 | false =>
  match (decide (x.2.2.2.1 > (0 : Int))) with
  | true =>
   onSome (idx x.1 (IntKind.i64.wrap (x.2.2.2.1 - (1 : Int)))) fun v3 =>
   match i_CompareSlots (v3, (v1.1, v1.2.1, v1.2.2.1, (v1.2.2.2.1.1, v1.2.2.2.1.2.1, v1.2.2.2.1.2.2.1, v1.2.2.2.1.2.2.2.1, v1.2.2.2.1.2.2.2.2.1, ()), ()), ()) with
   | none => none
   | some v4 =>
   match (decide (v4.1 ≥ (0 : Int))) with
   | true =>
    some (.inr (.inr (false, ())))
   | false =>
    some (.inl (x.1, x.2.1, x.2.2.1, (IntKind.i64.wrap (x.2.2.2.1 + (1 : Int))), ()))
  | false =>
   some (.inl (x.1, x.2.1, x.2.2.1, (IntKind.i64.wrap (x.2.2.2.1 + (1 : Int))), ()))
| false =>
 some (.inr (.inl (x.1, ())))
noncomputable def i_IsSlotTable (x : Ty.T (.pair (.list TSlotInfo) .unit)) : Option (Ty.T (.pair .bool .unit)) :=
match loopL b_i_IsSlotTable_2 (x.1, x.1, (x.1.length : Int), (0 : Int), ()) with
| none => none
| some (.inl v5) =>
 some ((decide ((v5.1.length : Int) ≤ (120 : Int))), ())
| some (.inr v6) =>
 some (v6.1, ())
noncomputable def S_i_IsSlotTable : Spec := ⟨(.pair (.list TSlotInfo) .unit), (.pair .bool .unit), .unit, rfl, i_IsSlotTable⟩
noncomputable def σ_i_IsSlotTable : FuncId → Option Spec := sig [(185, S_i_isSlotInfo), (186, S_i_CompareSlots)]
theorem σok_i_IsSlotTable : ∀ f s, σ_i_IsSlotTable f = some s → FnOK G0 Tryz.prog f s := sig_ok (l := [(185, S_i_isSlotInfo), (186, S_i_CompareSlots)]) ⟨ok_i_isSlotInfo, ok_i_CompareSlots, trivial⟩
noncomputable def Λ_i_IsSlotTable : Nat → Option LSpec := lkp (loopList (bodyOf Tryz.f143)) [⟨[0, 5, 6, 7], (.pair (.list TSlotInfo) (.pair (.list TSlotInfo) TCrc)), 0, [0], (.pair (.list TSlotInfo) .unit), [2], (.pair .bool .unit), loopL b_i_IsSlotTable_2⟩]
theorem lok_i_IsSlotTable_2 (x) : codeK Γ0 E0 σ_i_IsSlotTable Λ_i_IsSlotTable Tryz.f143.ntmps (nthLoop Tryz.f143 0) (mkF Tryz.f143.ntmps [0, 5, 6, 7] (.pair (.list TSlotInfo) (.pair (.list TSlotInfo) TCrc)) x) (readK σ_i_IsSlotTable Tryz.f143.ntmps [0, 5, 6, 7] (.pair (.list TSlotInfo) (.pair (.list TSlotInfo) TCrc)) 0 [0] (.pair (.list TSlotInfo) .unit) [2] (.pair .bool .unit)) = b_i_IsSlotTable_2 x := by kernel_rfl
theorem ok_i_IsSlotTable : FnOK G0 Tryz.prog 143 S_i_IsSlotTable := fn_ok (Λ := Λ_i_IsSlotTable) tab0 σok_i_IsSlotTable Tryz.func143 (by kernel_rfl) (show Tryz.f143.body = some (bodyOf Tryz.f143) by kernel_rfl) [⟨[0, 5, 6, 7], (.pair (.list TSlotInfo) (.pair (.list TSlotInfo) TCrc)), 0, [0], (.pair (.list TSlotInfo) .unit), [2], (.pair .bool .unit), loopL b_i_IsSlotTable_2⟩] rfl (by kernel_rfl) (by exact ⟨loop_LOK (lok_i_IsSlotTable_2), trivial⟩) (by kernel_rfl)
  fun x y h => (show execFn Γ0 E0 σ_i_IsSlotTable Λ_i_IsSlotTable Tryz.f143 S_i_IsSlotTable x = i_IsSlotTable x by kernel_rfl).trans h

noncomputable def b_i_isComplete_6 (x : (Ty.T (.pair (.box TMedl) (.pair (.int .i64) (.pair (.int .i64) (.pair (.box TModeInfo) (.pair (.list TModeInfo) (.pair (.int .i64) (.pair (.int .i64) TCrc))))))))) : Option ((Ty.T (.pair (.box TMedl) (.pair (.int .i64) (.pair (.int .i64) (.pair (.box TModeInfo) (.pair (.list TModeInfo) (.pair (.int .i64) (.pair (.int .i64) TCrc)))))))) ⊕ ((Ty.T (.pair (.box TMedl) (.pair (.int .i64) (.pair (.list TModeInfo) TCrc)))) ⊕ (Ty.T (.pair .bool .unit)))) :=
match (decide (x.2.2.2.2.2.2.2.2.1 < x.2.2.2.2.2.2.2.1)) with
| true =>
 match (x.2.1 == (x.1.2.2.2.1.length : Int)) with
 | true =>
  some (.inr (.inr (false, ())))
 | false =>
  onSome (idx x.1.2.2.2.1 x.2.1) fun v2 =>
  if x.2.2.2.1.2.1 = 0 then none else
  if x.2.2.2.1.2.1 = 0 then none else
  match i_CompareSlots (v2, (x.2.2.1, (IntKind.i64.wrap (Int.tdiv x.2.2.2.2.2.2.2.2.1 x.2.2.2.1.2.1)), (Int.tmod x.2.2.2.2.2.2.2.2.1 x.2.2.2.1.2.1), ((0 : Int), (0 : Int), (0 : Int), (0 : Int), false, ()), ()), ()) with
  | none => none
  | some v3 =>
  match (v3.1 != (0 : Int)) with
  | true =>
   some (.inr (.inr (false, ())))
  | false =>
   some (.inl ((x.1.1, x.1.2.1, x.1.2.2.1, x.1.2.2.2.1, ()), (IntKind.i64.wrap (x.2.1 + (1 : Int))), x.2.2.1, (x.2.2.2.1.1, x.2.2.2.1.2.1, x.2.2.2.1.2.2.1, ()), x.2.2.2.2.1, x.2.2.2.2.2.1, x.2.2.2.2.2.2.1, x.2.2.2.2.2.2.2.1, (IntKind.i64.wrap (x.2.2.2.2.2.2.2.2.1 + (1 : Int))), ()))
| false =>
 some (.inr (.inl ((x.1.1, x.1.2.1, x.1.2.2.1, x.1.2.2.2.1, ()), x.2.1, x.2.2.2.2.1, x.2.2.2.2.2.1, x.2.2.2.2.2.2.1, ())))
noncomputable def b_i_isComplete_3 (x : (Ty.T (.pair (.box TMedl) (.pair (.int .i64) (.pair (.list TModeInfo) TCrc))))) : Option ((Ty.T (.pair (.box TMedl) (.pair (.int .i64) (.pair (.list TModeInfo) TCrc)))) ⊕ ((Ty.T (.pair (.box TMedl) (.pair (.int .i64) .unit))) ⊕ (Ty.T (.pair .bool .unit)))) :=
match (decide (x.2.2.2.2.1 < x.2.2.2.1)) with
| true =>
 onSome (idx x.2.2.1 x.2.2.2.2.1) fun v1 =>
 match loopL b_i_isComplete_6 ((x.1.1, x.1.2.1, x.1.2.2.1, x.1.2.2.2.1, ()), x.2.1, x.2.2.2.2.1, (v1.1, v1.2.1, v1.2.2.1, ()), x.2.2.1, x.2.2.2.1, x.2.2.2.2.1, (IntKind.i64.wrap (v1.1 * v1.2.1)), (0 : Int), ()) with
 | none => none
 | some (.inl v2) =>
  some (.inl ((v2.1.1, v2.1.2.1, v2.1.2.2.1, v2.1.2.2.2.1, ()), v2.2.1, v2.2.2.1, v2.2.2.2.1, (IntKind.i64.wrap (v2.2.2.2.2.1 + (1 : Int))), ()))
 | some (.inr v3) =>
  some (.inr (.inr (v3.1, ())))
| false =>
 some (.inr (.inl ((x.1.1, x.1.2.1, x.1.2.2.1, x.1.2.2.2.1, ()), x.2.1, ())))
noncomputable def i_isComplete (x : Ty.T (.pair TMedl .unit)) : Option (Ty.T (.pair .bool .unit)) :=
match loopL b_i_isComplete_3 ((x.1.1, x.1.2.1, x.1.2.2.1, x.1.2.2.2.1, ()), (0 : Int), x.1.2.2.1, (x.1.2.2.1.length : Int), (0 : Int), ()) with
| none => none
| some (.inl v4) =>
 some ((v4.2.1 == (v4.1.2.2.2.1.length : Int)), ())
| some (.inr v5) =>
 some (v5.1, ())
noncomputable def S_i_isComplete : Spec := ⟨(.pair TMedl .unit), (.pair .bool .unit), .unit, rfl, i_isComplete⟩
noncomputable def σ_i_isComplete : FuncId → Option Spec := sig [(186, S_i_CompareSlots)]
theorem σok_i_isComplete : ∀ f s, σ_i_isComplete f = some s → FnOK G0 Tryz.prog f s := sig_ok (l := [(186, S_i_CompareSlots)]) ⟨ok_i_CompareSlots, trivial⟩
noncomputable def Λ_i_isComplete : Nat → Option LSpec := lkp (loopList (bodyOf Tryz.f144)) [⟨[1, 3, 8, 9, 10], (.pair (.box TMedl) (.pair (.int .i64) (.pair (.list TModeInfo) TCrc))), 0, [1, 3], (.pair (.box TMedl) (.pair (.int .i64) .unit)), [2], (.pair .bool .unit), loopL b_i_isComplete_3⟩, ⟨[1, 3, 4, 5, 8, 9, 10, 19, 20], (.pair (.box TMedl) (.pair (.int .i64) (.pair (.int .i64) (.pair (.box TModeInfo) (.pair (.list TModeInfo) (.pair (.int .i64) (.pair (.int .i64) TCrc))))))), 2, [1, 3, 8, 9, 10], (.pair (.box TMedl) (.pair (.int .i64) (.pair (.list TModeInfo) TCrc))), [2], (.pair .bool .unit), loopL b_i_isComplete_6⟩]
theorem lok_i_isComplete_3 (x) : codeK Γ0 E0 σ_i_isComplete Λ_i_isComplete Tryz.f144.ntmps (nthLoop Tryz.f144 0) (mkF Tryz.f144.ntmps [1, 3, 8, 9, 10] (.pair (.box TMedl) (.pair (.int .i64) (.pair (.list TModeInfo) TCrc))) x) (readK σ_i_isComplete Tryz.f144.ntmps [1, 3, 8, 9, 10] (.pair (.box TMedl) (.pair (.int .i64) (.pair (.list TModeInfo) TCrc))) 0 [1, 3] (.pair (.box TMedl) (.pair (.int .i64) .unit)) [2] (.pair .bool .unit)) = b_i_isComplete_3 x := by kernel_rfl
theorem lok_i_isComplete_6 (x) : codeK Γ0 E0 σ_i_isComplete Λ_i_isComplete Tryz.f144.ntmps (nthLoop Tryz.f144 1) (mkF Tryz.f144.ntmps [1, 3, 4, 5, 8, 9, 10, 19, 20] (.pair (.box TMedl) (.pair (.int .i64) (.pair (.int .i64) (.pair (.box TModeInfo) (.pair (.list TModeInfo) (.pair (.int .i64) (.pair (.int .i64) TCrc))))))) x) (readK σ_i_isComplete Tryz.f144.ntmps [1, 3, 4, 5, 8, 9, 10, 19, 20] (.pair (.box TMedl) (.pair (.int .i64) (.pair (.int .i64) (.pair (.box TModeInfo) (.pair (.list TModeInfo) (.pair (.int .i64) (.pair (.int .i64) TCrc))))))) 2 [1, 3, 8, 9, 10] (.pair (.box TMedl) (.pair (.int .i64) (.pair (.list TModeInfo) TCrc))) [2] (.pair .bool .unit)) = b_i_isComplete_6 x := by kernel_rfl
theorem ok_i_isComplete : FnOK G0 Tryz.prog 144 S_i_isComplete := fn_ok (Λ := Λ_i_isComplete) tab0 σok_i_isComplete Tryz.func144 (by kernel_rfl) (show Tryz.f144.body = some (bodyOf Tryz.f144) by kernel_rfl) [⟨[1, 3, 8, 9, 10], (.pair (.box TMedl) (.pair (.int .i64) (.pair (.list TModeInfo) TCrc))), 0, [1, 3], (.pair (.box TMedl) (.pair (.int .i64) .unit)), [2], (.pair .bool .unit), loopL b_i_isComplete_3⟩, ⟨[1, 3, 4, 5, 8, 9, 10, 19, 20], (.pair (.box TMedl) (.pair (.int .i64) (.pair (.int .i64) (.pair (.box TModeInfo) (.pair (.list TModeInfo) (.pair (.int .i64) (.pair (.int .i64) TCrc))))))), 2, [1, 3, 8, 9, 10], (.pair (.box TMedl) (.pair (.int .i64) (.pair (.list TModeInfo) TCrc))), [2], (.pair .bool .unit), loopL b_i_isComplete_6⟩] rfl (by kernel_rfl) (by exact ⟨loop_LOK (lok_i_isComplete_3), loop_LOK (lok_i_isComplete_6), trivial⟩) (by kernel_rfl)
  fun x y h => (show execFn Γ0 E0 σ_i_isComplete Λ_i_isComplete Tryz.f144 S_i_isComplete x = i_isComplete x by kernel_rfl).trans h

noncomputable def b_slices_IndexFunc_SlotInfo_2 (x : (Ty.T (.pair (.list TSlotInfo) (.pair (.fn (.pair TSlotInfo .unit) (.pair .bool .unit)) TCrc)))) : Option ((Ty.T (.pair (.list TSlotInfo) (.pair (.fn (.pair TSlotInfo .unit) (.pair .bool .unit)) TCrc))) ⊕ ((Ty.T .unit) ⊕ (Ty.T (.pair (.int .i64) .unit)))) :=
match (decide (x.2.2.2.1 < x.2.2.1)) with
| true =>
 onSome (idx x.1 x.2.2.2.1) fun v1 =>
 match x.2.1 (v1, ()) with
 | none => none
 | some v2 =>
 match v2.1 with
 | true =>
  some (.inr (.inr (x.2.2.2.1, ())))
 | false =>
  some (.inl (x.1, x.2.1, x.2.2.1, (IntKind.i64.wrap (x.2.2.2.1 + (1 : Int))), ()))
| false =>
 some (.inr (.inl (())))
noncomputable def slices_IndexFunc_SlotInfo (x : Ty.T (.pair (.list TSlotInfo) (.pair (.fn (.pair TSlotInfo .unit) (.pair .bool .unit)) .unit))) : Option (Ty.T (.pair (.int .i64) .unit)) :=
match loopL b_slices_IndexFunc_SlotInfo_2 (x.1, x.2.1, (x.1.length : Int), (0 : Int), ()) with
| none => none
| some (.inl v3) =>
 some ((-1 : Int), ())
| some (.inr v4) =>
 some (v4.1, ())
noncomputable def S_slices_IndexFunc_SlotInfo : Spec := ⟨(.pair (.list TSlotInfo) (.pair (.fn (.pair TSlotInfo .unit) (.pair .bool .unit)) .unit)), (.pair (.int .i64) .unit), .unit, rfl, slices_IndexFunc_SlotInfo⟩
noncomputable def σ_slices_IndexFunc_SlotInfo : FuncId → Option Spec := sig []
theorem σok_slices_IndexFunc_SlotInfo : ∀ f s, σ_slices_IndexFunc_SlotInfo f = some s → FnOK G0 Tryz.prog f s := sig_ok (l := []) trivial
noncomputable def Λ_slices_IndexFunc_SlotInfo : Nat → Option LSpec := lkp (loopList (bodyOf Tryz.f162)) [⟨[0, 1, 7, 8], (.pair (.list TSlotInfo) (.pair (.fn (.pair TSlotInfo .unit) (.pair .bool .unit)) TCrc)), 0, [], .unit, [4], (.pair (.int .i64) .unit), loopL b_slices_IndexFunc_SlotInfo_2⟩]
theorem lok_slices_IndexFunc_SlotInfo_2 (x) : codeK Γ0 E0 σ_slices_IndexFunc_SlotInfo Λ_slices_IndexFunc_SlotInfo Tryz.f162.ntmps (nthLoop Tryz.f162 0) (mkF Tryz.f162.ntmps [0, 1, 7, 8] (.pair (.list TSlotInfo) (.pair (.fn (.pair TSlotInfo .unit) (.pair .bool .unit)) TCrc)) x) (readK σ_slices_IndexFunc_SlotInfo Tryz.f162.ntmps [0, 1, 7, 8] (.pair (.list TSlotInfo) (.pair (.fn (.pair TSlotInfo .unit) (.pair .bool .unit)) TCrc)) 0 [] .unit [4] (.pair (.int .i64) .unit)) = b_slices_IndexFunc_SlotInfo_2 x := by kernel_rfl
theorem ok_slices_IndexFunc_SlotInfo : FnOK G0 Tryz.prog 162 S_slices_IndexFunc_SlotInfo := fn_ok (Λ := Λ_slices_IndexFunc_SlotInfo) tab0 σok_slices_IndexFunc_SlotInfo Tryz.func162 (by kernel_rfl) (show Tryz.f162.body = some (bodyOf Tryz.f162) by kernel_rfl) [⟨[0, 1, 7, 8], (.pair (.list TSlotInfo) (.pair (.fn (.pair TSlotInfo .unit) (.pair .bool .unit)) TCrc)), 0, [], .unit, [4], (.pair (.int .i64) .unit), loopL b_slices_IndexFunc_SlotInfo_2⟩] rfl (by kernel_rfl) (by exact ⟨loop_LOK (lok_slices_IndexFunc_SlotInfo_2), trivial⟩) (by kernel_rfl)
  fun x y h => (show execFn Γ0 E0 σ_slices_IndexFunc_SlotInfo Λ_slices_IndexFunc_SlotInfo Tryz.f162 S_slices_IndexFunc_SlotInfo x = slices_IndexFunc_SlotInfo x by kernel_rfl).trans h

noncomputable def slices_ContainsFunc_SlotInfo (x : Ty.T (.pair (.list TSlotInfo) (.pair (.fn (.pair TSlotInfo .unit) (.pair .bool .unit)) .unit))) : Option (Ty.T (.pair .bool .unit)) :=
match slices_IndexFunc_SlotInfo (x.1, x.2.1, ()) with
| none => none
| some v1 =>
some ((decide (v1.1 ≥ (0 : Int))), ())
noncomputable def S_slices_ContainsFunc_SlotInfo : Spec := ⟨(.pair (.list TSlotInfo) (.pair (.fn (.pair TSlotInfo .unit) (.pair .bool .unit)) .unit)), (.pair .bool .unit), .unit, rfl, slices_ContainsFunc_SlotInfo⟩
noncomputable def σ_slices_ContainsFunc_SlotInfo : FuncId → Option Spec := sig [(162, S_slices_IndexFunc_SlotInfo)]
theorem σok_slices_ContainsFunc_SlotInfo : ∀ f s, σ_slices_ContainsFunc_SlotInfo f = some s → FnOK G0 Tryz.prog f s := sig_ok (l := [(162, S_slices_IndexFunc_SlotInfo)]) ⟨ok_slices_IndexFunc_SlotInfo, trivial⟩
noncomputable def Λ_slices_ContainsFunc_SlotInfo : Nat → Option LSpec := lkp (loopList (bodyOf Tryz.f145)) []
theorem ok_slices_ContainsFunc_SlotInfo : FnOK G0 Tryz.prog 145 S_slices_ContainsFunc_SlotInfo := fn_ok (Λ := Λ_slices_ContainsFunc_SlotInfo) tab0 σok_slices_ContainsFunc_SlotInfo Tryz.func145 (by kernel_rfl) (show Tryz.f145.body = some (bodyOf Tryz.f145) by kernel_rfl) [] rfl (by kernel_rfl) (by exact trivial) (by kernel_rfl)
  fun x y h => (show execFn Γ0 E0 σ_slices_ContainsFunc_SlotInfo Λ_slices_ContainsFunc_SlotInfo Tryz.f145 S_slices_ContainsFunc_SlotInfo x = slices_ContainsFunc_SlotInfo x by kernel_rfl).trans h

noncomputable def i_findSlot_1 (x : Ty.T (.pair TSlotInfo (.pair (.ptr (.int .i64)) (.pair (.ptr (.int .i64)) (.pair (.ptr (.int .i64)) .unit))))) : Option (Ty.T (.pair .bool .unit)) :=
match (x.1.1 == x.2.1) with
| true =>
 match (x.1.2.1 == x.2.2.1) with
 | true =>
  some ((x.1.2.2.1 == x.2.2.2.1), ())
 | false =>
  some (false, ())
| false =>
 some (false, ())
noncomputable def S_i_findSlot_1 : Spec := ⟨(.pair TSlotInfo (.pair (.ptr (.int .i64)) (.pair (.ptr (.int .i64)) (.pair (.ptr (.int .i64)) .unit)))), (.pair .bool .unit), .unit, rfl, i_findSlot_1⟩
noncomputable def σ_i_findSlot_1 : FuncId → Option Spec := sig []
theorem σok_i_findSlot_1 : ∀ f s, σ_i_findSlot_1 f = some s → FnOK G0 Tryz.prog f s := sig_ok (l := []) trivial
noncomputable def Λ_i_findSlot_1 : Nat → Option LSpec := lkp (loopList (bodyOf Tryz.f163)) []
theorem ok_i_findSlot_1 : FnOK G0 Tryz.prog 163 S_i_findSlot_1 := fn_ok (Λ := Λ_i_findSlot_1) tab0 σok_i_findSlot_1 Tryz.func163 (by kernel_rfl) (show Tryz.f163.body = some (bodyOf Tryz.f163) by kernel_rfl) [] rfl (by kernel_rfl) (by exact trivial) (by kernel_rfl)
  fun x y h => (show execFn Γ0 E0 σ_i_findSlot_1 Λ_i_findSlot_1 Tryz.f163 S_i_findSlot_1 x = i_findSlot_1 x by kernel_rfl).trans h

noncomputable def i_findSlot (x : Ty.T (.pair (.list TSlotInfo) (.pair (.int .i64) TCrc))) : Option (Ty.T (.pair (.int .i64) .unit)) :=
match slices_IndexFunc_SlotInfo (x.1, (fun z => i_findSlot_1 (z.1, x.2.1, x.2.2.1, x.2.2.2.1, ())), ()) with
| none => none
| some v1 =>
some (v1.1, ())
noncomputable def S_i_findSlot : Spec := ⟨(.pair (.list TSlotInfo) (.pair (.int .i64) TCrc)), (.pair (.int .i64) .unit), .unit, rfl, i_findSlot⟩
noncomputable def σ_i_findSlot : FuncId → Option Spec := sig [(162, S_slices_IndexFunc_SlotInfo), (163, S_i_findSlot_1)]
theorem σok_i_findSlot : ∀ f s, σ_i_findSlot f = some s → FnOK G0 Tryz.prog f s := sig_ok (l := [(162, S_slices_IndexFunc_SlotInfo), (163, S_i_findSlot_1)]) ⟨ok_slices_IndexFunc_SlotInfo, ok_i_findSlot_1, trivial⟩
noncomputable def Λ_i_findSlot : Nat → Option LSpec := lkp (loopList (bodyOf Tryz.f111)) []
theorem ok_i_findSlot : FnOK G0 Tryz.prog 111 S_i_findSlot := fn_ok (Λ := Λ_i_findSlot) tab0 σok_i_findSlot Tryz.func111 (by kernel_rfl) (show Tryz.f111.body = some (bodyOf Tryz.f111) by kernel_rfl) [] rfl (by kernel_rfl) (by exact trivial) (by kernel_rfl)
  fun x y h => (show execFn Γ0 E0 σ_i_findSlot Λ_i_findSlot Tryz.f111 S_i_findSlot x = i_findSlot x by kernel_rfl).trans h

noncomputable def b_i_isSteady_2 (x : (Ty.T (.pair (.ptr TMedl) (.pair (.list TSlotInfo) TCrc)))) : Option ((Ty.T (.pair (.ptr TMedl) (.pair (.list TSlotInfo) TCrc))) ⊕ ((Ty.T .unit) ⊕ (Ty.T (.pair .bool .unit)))) :=
match (decide (x.2.2.2.1 < x.2.2.1)) with
| true =>
 onSome (idx x.2.1 x.2.2.2.1) fun v1 =>
 both (
  match i_findSlot (x.1.2.2.2.1, v1.1, (0 : Int), v1.2.2.1, ()) with
  | none => none
  | some v2 =>
  onSome (idx x.1.2.2.2.1 v2.1) fun v3 =>
  same (
   match (v1.2.2.2.1.2.2.2.1 != v3.2.2.2.1.2.2.2.1) with
   | true =>
    some (.inr (.inr (false, ())))
   | false =>
    some (.inl (x.1, x.2.1, x.2.2.1, (IntKind.i64.wrap (x.2.2.2.1 + (1 : Int))), ())))) (
  match i_findSlot (x.1.2.2.2.1, v1.1, (0 : Int), v1.2.2.1, ()) with
  | none => none
  | some v2 =>
  onSome (idx x.1.2.2.2.1 v2.1) fun v3 =>
  match (v1.2.2.2.1.2.2.2.1 != v3.2.2.2.1.2.2.2.1) with
  | true =>
   some (.inr (.inr (false, ())))
  | false =>
   some (.inl (x.1, x.2.1, x.2.2.1, (IntKind.i64.wrap (x.2.2.2.1 + (1 : Int))), ())))
| false =>
 some (.inr (.inl (())))
noncomputable def i_isSteady (x : Ty.T (.pair TMedl .unit)) : Option (Ty.T (.pair .bool .unit)) :=
match loopL b_i_isSteady_2 ((x.1.1, x.1.2.1, x.1.2.2.1, x.1.2.2.2.1, ()), x.1.2.2.2.1, (x.1.2.2.2.1.length : Int), (0 : Int), ()) with
| none => none
| some (.inl v4) =>
 some (true, ())
| some (.inr v5) =>
 some (v5.1, ())
noncomputable def S_i_isSteady : Spec := ⟨(.pair TMedl .unit), (.pair .bool .unit), .unit, rfl, i_isSteady⟩
noncomputable def σ_i_isSteady : FuncId → Option Spec := sig [(111, S_i_findSlot)]
theorem σok_i_isSteady : ∀ f s, σ_i_isSteady f = some s → FnOK G0 Tryz.prog f s := sig_ok (l := [(111, S_i_findSlot)]) ⟨ok_i_findSlot, trivial⟩
noncomputable def Λ_i_isSteady : Nat → Option LSpec := lkp (loopList (bodyOf Tryz.f146)) [⟨[1, 7, 8, 9], (.pair (.ptr TMedl) (.pair (.list TSlotInfo) TCrc)), 0, [], .unit, [2], (.pair .bool .unit), loopL b_i_isSteady_2⟩]
theorem lok_i_isSteady_2 (x) : codeK Γ0 E0 σ_i_isSteady Λ_i_isSteady Tryz.f146.ntmps (nthLoop Tryz.f146 0) (mkF Tryz.f146.ntmps [1, 7, 8, 9] (.pair (.ptr TMedl) (.pair (.list TSlotInfo) TCrc)) x) (readK σ_i_isSteady Tryz.f146.ntmps [1, 7, 8, 9] (.pair (.ptr TMedl) (.pair (.list TSlotInfo) TCrc)) 0 [] .unit [2] (.pair .bool .unit)) = b_i_isSteady_2 x := by kernel_rfl
theorem ok_i_isSteady : FnOK G0 Tryz.prog 146 S_i_isSteady := fn_ok (Λ := Λ_i_isSteady) tab0 σok_i_isSteady Tryz.func146 (by kernel_rfl) (show Tryz.f146.body = some (bodyOf Tryz.f146) by kernel_rfl) [⟨[1, 7, 8, 9], (.pair (.ptr TMedl) (.pair (.list TSlotInfo) TCrc)), 0, [], .unit, [2], (.pair .bool .unit), loopL b_i_isSteady_2⟩] rfl (by kernel_rfl) (by exact ⟨loop_LOK (lok_i_isSteady_2), trivial⟩) (by kernel_rfl)
  fun x y h => (show execFn Γ0 E0 σ_i_isSteady Λ_i_isSteady Tryz.f146 S_i_isSteady x = i_isSteady x by kernel_rfl).trans h

noncomputable def b_i_sumDurations_3 (x : (Ty.T (.pair (.int .i64) (.pair (.list TSlotInfo) TCrc)))) : Option ((Ty.T (.pair (.int .i64) (.pair (.list TSlotInfo) TCrc))) ⊕ ((Ty.T (.pair (.int .i64) .unit)) ⊕ (Ty.T .unit))) :=
match (decide (x.2.2.2.1 < x.2.2.1)) with
| true =>
 onSome (idx x.2.1 x.2.2.2.1) fun v1 =>
 some (.inl ((IntKind.i64.wrap (x.1 + v1.2.2.2.1.2.2.2.1)), x.2.1, x.2.2.1, (IntKind.i64.wrap (x.2.2.2.1 + (1 : Int))), ()))
| false =>
 some (.inr (.inl (x.1, ())))
noncomputable def i_sumDurations (x : Ty.T (.pair (.list TSlotInfo) .unit)) : Option (Ty.T (.pair (.int .i64) .unit)) :=
match loopL b_i_sumDurations_3 ((0 : Int), x.1, (x.1.length : Int), (0 : Int), ()) with
| none => none
| some (.inl v2) =>
 some (v2.1, ())
| some (.inr v4) =>
 none
noncomputable def S_i_sumDurations : Spec := ⟨(.pair (.list TSlotInfo) .unit), (.pair (.int .i64) .unit), .unit, rfl, i_sumDurations⟩
noncomputable def σ_i_sumDurations : FuncId → Option Spec := sig []
theorem σok_i_sumDurations : ∀ f s, σ_i_sumDurations f = some s → FnOK G0 Tryz.prog f s := sig_ok (l := []) trivial
noncomputable def Λ_i_sumDurations : Nat → Option LSpec := lkp (loopList (bodyOf Tryz.f187)) [⟨[3, 6, 7, 8], (.pair (.int .i64) (.pair (.list TSlotInfo) TCrc)), 0, [3], (.pair (.int .i64) .unit), [], .unit, loopL b_i_sumDurations_3⟩]
theorem lok_i_sumDurations_3 (x) : codeK Γ0 E0 σ_i_sumDurations Λ_i_sumDurations Tryz.f187.ntmps (nthLoop Tryz.f187 0) (mkF Tryz.f187.ntmps [3, 6, 7, 8] (.pair (.int .i64) (.pair (.list TSlotInfo) TCrc)) x) (readK σ_i_sumDurations Tryz.f187.ntmps [3, 6, 7, 8] (.pair (.int .i64) (.pair (.list TSlotInfo) TCrc)) 0 [3] (.pair (.int .i64) .unit) [] .unit) = b_i_sumDurations_3 x := by kernel_rfl
theorem ok_i_sumDurations : FnOK G0 Tryz.prog 187 S_i_sumDurations := fn_ok (Λ := Λ_i_sumDurations) tab0 σok_i_sumDurations Tryz.func187 (by kernel_rfl) (show Tryz.f187.body = some (bodyOf Tryz.f187) by kernel_rfl) [⟨[3, 6, 7, 8], (.pair (.int .i64) (.pair (.list TSlotInfo) TCrc)), 0, [3], (.pair (.int .i64) .unit), [], .unit, loopL b_i_sumDurations_3⟩] rfl (by kernel_rfl) (by exact ⟨loop_LOK (lok_i_sumDurations_3), trivial⟩) (by kernel_rfl)
  fun x y h => (show execFn Γ0 E0 σ_i_sumDurations Λ_i_sumDurations Tryz.f187 S_i_sumDurations x = i_sumDurations x by kernel_rfl).trans h

noncomputable def b_i_modeSlots_3 (x : (Ty.T (.pair (.int .i64) (.pair (.own 89 TSlotInfo) (.pair (.list TSlotInfo) TCrc))))) : Option ((Ty.T (.pair (.int .i64) (.pair (.own 89 TSlotInfo) (.pair (.list TSlotInfo) TCrc)))) ⊕ ((Ty.T (.pair (.own 89 TSlotInfo) .unit)) ⊕ (Ty.T .unit))) :=
match (decide (x.2.2.2.2.1 < x.2.2.2.1)) with
| true =>
 onSome (idx x.2.2.1 x.2.2.2.2.1) fun v1 =>
 match (v1.1 == x.1) with
 | true =>
  room (x.2.1.length + [(v1.1, v1.2.1, v1.2.2.1, (v1.2.2.2.1.1, v1.2.2.2.1.2.1, v1.2.2.2.1.2.2.1, v1.2.2.2.1.2.2.2.1, v1.2.2.2.1.2.2.2.2.1, ()), ())].length) (
   some (.inl (x.1, (x.2.1 ++ [(v1.1, v1.2.1, v1.2.2.1, (v1.2.2.2.1.1, v1.2.2.2.1.2.1, v1.2.2.2.1.2.2.1, v1.2.2.2.1.2.2.2.1, v1.2.2.2.1.2.2.2.2.1, ()), ())]), x.2.2.1, x.2.2.2.1, (IntKind.i64.wrap (x.2.2.2.2.1 + (1 : Int))), ())))
 | false =>
  some (.inl (x.1, x.2.1, x.2.2.1, x.2.2.2.1, (IntKind.i64.wrap (x.2.2.2.2.1 + (1 : Int))), ()))
| false =>
 some (.inr (.inl (x.2.1, ())))
noncomputable def i_modeSlots (x : Ty.T (.pair TMedl (.pair (.int .i64) .unit))) : Option (Ty.T (.pair (.own 89 TSlotInfo) .unit)) :=
match loopL b_i_modeSlots_3 (x.2.1, [], x.1.2.2.2.1, (x.1.2.2.2.1.length : Int), (0 : Int), ()) with
| none => none
| some (.inl v2) =>
 some (v2.1, ())
| some (.inr v4) =>
 none
noncomputable def S_i_modeSlots : Spec := ⟨(.pair TMedl (.pair (.int .i64) .unit)), (.pair (.own 89 TSlotInfo) .unit), .unit, rfl, i_modeSlots⟩
noncomputable def σ_i_modeSlots : FuncId → Option Spec := sig []
theorem σok_i_modeSlots : ∀ f s, σ_i_modeSlots f = some s → FnOK G0 Tryz.prog f s := sig_ok (l := []) trivial
noncomputable def Λ_i_modeSlots : Nat → Option LSpec := lkp (loopList (bodyOf Tryz.f188)) [⟨[1, 5, 10, 11, 12], (.pair (.int .i64) (.pair (.own 89 TSlotInfo) (.pair (.list TSlotInfo) TCrc))), 0, [5], (.pair (.own 89 TSlotInfo) .unit), [], .unit, loopL b_i_modeSlots_3⟩]
theorem lok_i_modeSlots_3 (x) : codeK Γ0 E0 σ_i_modeSlots Λ_i_modeSlots Tryz.f188.ntmps (nthLoop Tryz.f188 0) (mkF Tryz.f188.ntmps [1, 5, 10, 11, 12] (.pair (.int .i64) (.pair (.own 89 TSlotInfo) (.pair (.list TSlotInfo) TCrc))) x) (readK σ_i_modeSlots Tryz.f188.ntmps [1, 5, 10, 11, 12] (.pair (.int .i64) (.pair (.own 89 TSlotInfo) (.pair (.list TSlotInfo) TCrc))) 0 [5] (.pair (.own 89 TSlotInfo) .unit) [] .unit) = b_i_modeSlots_3 x := by kernel_rfl
theorem ok_i_modeSlots : FnOK G0 Tryz.prog 188 S_i_modeSlots := fn_ok (Λ := Λ_i_modeSlots) tab0 σok_i_modeSlots Tryz.func188 (by kernel_rfl) (show Tryz.f188.body = some (bodyOf Tryz.f188) by kernel_rfl) [⟨[1, 5, 10, 11, 12], (.pair (.int .i64) (.pair (.own 89 TSlotInfo) (.pair (.list TSlotInfo) TCrc))), 0, [5], (.pair (.own 89 TSlotInfo) .unit), [], .unit, loopL b_i_modeSlots_3⟩] rfl (by kernel_rfl) (by exact ⟨loop_LOK (lok_i_modeSlots_3), trivial⟩) (by kernel_rfl)
  fun x y h => (show execFn Γ0 E0 σ_i_modeSlots Λ_i_modeSlots Tryz.f188 S_i_modeSlots x = i_modeSlots x by kernel_rfl).trans h

noncomputable def b_i_isShort_2 (x : (Ty.T (.pair (.box TMedl) TCrc))) : Option ((Ty.T (.pair (.box TMedl) TCrc)) ⊕ ((Ty.T .unit) ⊕ (Ty.T (.pair .bool .unit)))) :=
match (decide (x.2.2.1 < x.2.1)) with
| true =>
 match i_modeSlots ((x.1.1, x.1.2.1, x.1.2.2.1, x.1.2.2.2.1, ()), x.2.2.1, ()) with
 | none => none
 | some v1 =>
 match i_sumDurations (v1.1, ()) with
 | none => none
 | some v2 =>
 match (decide (v2.1 > (32000 : Int))) with
 | true =>
  some (.inr (.inr (false, ())))
 | false =>
  some (.inl ((x.1.1, x.1.2.1, x.1.2.2.1, x.1.2.2.2.1, ()), x.2.1, (IntKind.i64.wrap (x.2.2.1 + (1 : Int))), ()))
| false =>
 some (.inr (.inl (())))
noncomputable def i_isShort (x : Ty.T (.pair TMedl .unit)) : Option (Ty.T (.pair .bool .unit)) :=
match loopL b_i_isShort_2 ((x.1.1, x.1.2.1, x.1.2.2.1, x.1.2.2.2.1, ()), (x.1.2.2.1.length : Int), (0 : Int), ()) with
| none => none
| some (.inl v3) =>
 some (true, ())
| some (.inr v4) =>
 some (v4.1, ())
noncomputable def S_i_isShort : Spec := ⟨(.pair TMedl .unit), (.pair .bool .unit), .unit, rfl, i_isShort⟩
noncomputable def σ_i_isShort : FuncId → Option Spec := sig [(187, S_i_sumDurations), (188, S_i_modeSlots)]
theorem σok_i_isShort : ∀ f s, σ_i_isShort f = some s → FnOK G0 Tryz.prog f s := sig_ok (l := [(187, S_i_sumDurations), (188, S_i_modeSlots)]) ⟨ok_i_sumDurations, ok_i_modeSlots, trivial⟩
noncomputable def Λ_i_isShort : Nat → Option LSpec := lkp (loopList (bodyOf Tryz.f147)) [⟨[1, 6, 7], (.pair (.box TMedl) TCrc), 0, [], .unit, [2], (.pair .bool .unit), loopL b_i_isShort_2⟩]
theorem lok_i_isShort_2 (x) : codeK Γ0 E0 σ_i_isShort Λ_i_isShort Tryz.f147.ntmps (nthLoop Tryz.f147 0) (mkF Tryz.f147.ntmps [1, 6, 7] (.pair (.box TMedl) TCrc) x) (readK σ_i_isShort Tryz.f147.ntmps [1, 6, 7] (.pair (.box TMedl) TCrc) 0 [] .unit [2] (.pair .bool .unit)) = b_i_isShort_2 x := by kernel_rfl
theorem ok_i_isShort : FnOK G0 Tryz.prog 147 S_i_isShort := fn_ok (Λ := Λ_i_isShort) tab0 σok_i_isShort Tryz.func147 (by kernel_rfl) (show Tryz.f147.body = some (bodyOf Tryz.f147) by kernel_rfl) [⟨[1, 6, 7], (.pair (.box TMedl) TCrc), 0, [], .unit, [2], (.pair .bool .unit), loopL b_i_isShort_2⟩] rfl (by kernel_rfl) (by exact ⟨loop_LOK (lok_i_isShort_2), trivial⟩) (by kernel_rfl)
  fun x y h => (show execFn Γ0 E0 σ_i_isShort Λ_i_isShort Tryz.f147 S_i_isShort x = i_isShort x by kernel_rfl).trans h

noncomputable def b_i_allSend_9 (x : (Ty.T (.pair (.box TMedl) (.pair (.int .i64) (.pair (.int .i64) (.pair (.int .i64) (.pair (.list TModeInfo) (.pair (.int .i64) (.pair (.int .i64) (.pair (.int .i64) (.pair (.int .i64) (.pair (.list TSlotInfo) TCrc)))))))))))) : Option ((Ty.T (.pair (.box TMedl) (.pair (.int .i64) (.pair (.int .i64) (.pair (.int .i64) (.pair (.list TModeInfo) (.pair (.int .i64) (.pair (.int .i64) (.pair (.int .i64) (.pair (.int .i64) (.pair (.list TSlotInfo) TCrc))))))))))) ⊕ ((Ty.T (.pair (.box TMedl) (.pair (.int .i64) (.pair (.int .i64) (.pair (.list TModeInfo) (.pair (.int .i64) (.pair (.int .i64) TCrc))))))) ⊕ (Ty.T .unit))) :=
match (decide (x.2.2.2.2.2.2.2.2.2.2.2.1 < x.2.2.2.2.2.2.2.2.2.2.1)) with
| true =>
 onSome (idx x.2.2.2.2.2.2.2.2.2.1 x.2.2.2.2.2.2.2.2.2.2.2.1) fun v2 =>
 match (v2.1 == x.2.1) with
 | true =>
  match (v2.2.1 == x.2.2.1) with
  | true =>
   if v2.2.2.2.1.1 < 0 then none else
   some (.inl ((x.1.1, x.1.2.1, x.1.2.2.1, x.1.2.2.2.1, ()), x.2.1, x.2.2.1, (bits BinOp.or .i64 x.2.2.2.1 (IntKind.i64.wrap ((1 : Int) * 2 ^ min v2.2.2.2.1.1.toNat IntKind.i64.bits))), x.2.2.2.2.1, x.2.2.2.2.2.1, x.2.2.2.2.2.2.1, x.2.2.2.2.2.2.2.1, x.2.2.2.2.2.2.2.2.1, x.2.2.2.2.2.2.2.2.2.1, x.2.2.2.2.2.2.2.2.2.2.1, (IntKind.i64.wrap (x.2.2.2.2.2.2.2.2.2.2.2.1 + (1 : Int))), ()))
  | false =>
   some (.inl ((x.1.1, x.1.2.1, x.1.2.2.1, x.1.2.2.2.1, ()), x.2.1, x.2.2.1, x.2.2.2.1, x.2.2.2.2.1, x.2.2.2.2.2.1, x.2.2.2.2.2.2.1, x.2.2.2.2.2.2.2.1, x.2.2.2.2.2.2.2.2.1, x.2.2.2.2.2.2.2.2.2.1, x.2.2.2.2.2.2.2.2.2.2.1, (IntKind.i64.wrap (x.2.2.2.2.2.2.2.2.2.2.2.1 + (1 : Int))), ()))
 | false =>
  some (.inl ((x.1.1, x.1.2.1, x.1.2.2.1, x.1.2.2.2.1, ()), x.2.1, x.2.2.1, x.2.2.2.1, x.2.2.2.2.1, x.2.2.2.2.2.1, x.2.2.2.2.2.2.1, x.2.2.2.2.2.2.2.1, x.2.2.2.2.2.2.2.2.1, x.2.2.2.2.2.2.2.2.2.1, x.2.2.2.2.2.2.2.2.2.2.1, (IntKind.i64.wrap (x.2.2.2.2.2.2.2.2.2.2.2.1 + (1 : Int))), ()))
| false =>
 some (.inr (.inl ((x.1.1, x.1.2.1, x.1.2.2.1, x.1.2.2.2.1, ()), x.2.1, x.2.2.2.1, x.2.2.2.2.1, x.2.2.2.2.2.1, x.2.2.2.2.2.2.1, x.2.2.2.2.2.2.2.1, x.2.2.2.2.2.2.2.2.1, ())))
noncomputable def b_i_allSend_5 (x : (Ty.T (.pair (.box TMedl) (.pair (.int .i64) (.pair (.list TModeInfo) (.pair (.int .i64) (.pair (.int .i64) TCrc))))))) : Option ((Ty.T (.pair (.box TMedl) (.pair (.int .i64) (.pair (.list TModeInfo) (.pair (.int .i64) (.pair (.int .i64) TCrc)))))) ⊕ ((Ty.T (.pair (.box TMedl) (.pair (.list TModeInfo) TCrc))) ⊕ (Ty.T (.pair .bool .unit)))) :=
match (decide (x.2.2.2.2.2.2.1 < x.2.2.2.2.2.1)) with
| true =>
 match loopL b_i_allSend_9 ((x.1.1, x.1.2.1, x.1.2.2.1, x.1.2.2.2.1, ()), x.2.1, x.2.2.2.2.2.2.1, (0 : Int), x.2.2.1, x.2.2.2.1, x.2.2.2.2.1, x.2.2.2.2.2.1, x.2.2.2.2.2.2.1, x.1.2.2.2.1, (x.1.2.2.2.1.length : Int), (0 : Int), ()) with
 | none => none
 | some (.inl v2) =>
  match i_activeVector (v2.1.2.1, ()) with
  | none => none
  | some v4 =>
  match ((bits BinOp.andNot .i64 v4.1 v2.2.2.1) != (0 : Int)) with
  | true =>
   some (.inr (.inr (false, ())))
  | false =>
   some (.inl ((v2.1.1, v2.1.2.1, v2.1.2.2.1, v2.1.2.2.2.1, ()), v2.2.1, v2.2.2.2.1, v2.2.2.2.2.1, v2.2.2.2.2.2.1, v2.2.2.2.2.2.2.1, (IntKind.i64.wrap (v2.2.2.2.2.2.2.2.1 + (1 : Int))), ()))
 | some (.inr v5) =>
  none
| false =>
 some (.inr (.inl ((x.1.1, x.1.2.1, x.1.2.2.1, x.1.2.2.2.1, ()), x.2.2.1, x.2.2.2.1, x.2.2.2.2.1, ())))
noncomputable def b_i_allSend_2 (x : (Ty.T (.pair (.box TMedl) (.pair (.list TModeInfo) TCrc)))) : Option ((Ty.T (.pair (.box TMedl) (.pair (.list TModeInfo) TCrc))) ⊕ ((Ty.T .unit) ⊕ (Ty.T (.pair .bool .unit)))) :=
match (decide (x.2.2.2.1 < x.2.2.1)) with
| true =>
 onSome (idx x.2.1 x.2.2.2.1) fun v1 =>
 match loopL b_i_allSend_5 ((x.1.1, x.1.2.1, x.1.2.2.1, x.1.2.2.2.1, ()), x.2.2.2.1, x.2.1, x.2.2.1, x.2.2.2.1, v1.1, (0 : Int), ()) with
 | none => none
 | some (.inl v2) =>
  some (.inl ((v2.1.1, v2.1.2.1, v2.1.2.2.1, v2.1.2.2.2.1, ()), v2.2.1, v2.2.2.1, (IntKind.i64.wrap (v2.2.2.2.1 + (1 : Int))), ()))
 | some (.inr v3) =>
  some (.inr (.inr (v3.1, ())))
| false =>
 some (.inr (.inl (())))
noncomputable def i_allSend (x : Ty.T (.pair TMedl .unit)) : Option (Ty.T (.pair .bool .unit)) :=
match loopL b_i_allSend_2 ((x.1.1, x.1.2.1, x.1.2.2.1, x.1.2.2.2.1, ()), x.1.2.2.1, (x.1.2.2.1.length : Int), (0 : Int), ()) with
| none => none
| some (.inl v4) =>
 some (true, ())
| some (.inr v5) =>
 some (v5.1, ())
noncomputable def S_i_allSend : Spec := ⟨(.pair TMedl .unit), (.pair .bool .unit), .unit, rfl, i_allSend⟩
noncomputable def σ_i_allSend : FuncId → Option Spec := sig [(99, S_i_activeVector)]
theorem σok_i_allSend : ∀ f s, σ_i_allSend f = some s → FnOK G0 Tryz.prog f s := sig_ok (l := [(99, S_i_activeVector)]) ⟨ok_i_activeVector, trivial⟩
noncomputable def Λ_i_allSend : Nat → Option LSpec := lkp (loopList (bodyOf Tryz.f148)) [⟨[1, 10, 11, 12], (.pair (.box TMedl) (.pair (.list TModeInfo) TCrc)), 0, [], .unit, [2], (.pair .bool .unit), loopL b_i_allSend_2⟩, ⟨[1, 3, 10, 11, 12, 18, 19], (.pair (.box TMedl) (.pair (.int .i64) (.pair (.list TModeInfo) (.pair (.int .i64) (.pair (.int .i64) TCrc))))), 2, [1, 10, 11, 12], (.pair (.box TMedl) (.pair (.list TModeInfo) TCrc)), [2], (.pair .bool .unit), loopL b_i_allSend_5⟩, ⟨[1, 3, 5, 6, 10, 11, 12, 18, 19, 23, 24, 25], (.pair (.box TMedl) (.pair (.int .i64) (.pair (.int .i64) (.pair (.int .i64) (.pair (.list TModeInfo) (.pair (.int .i64) (.pair (.int .i64) (.pair (.int .i64) (.pair (.int .i64) (.pair (.list TSlotInfo) TCrc)))))))))), 4, [1, 3, 6, 10, 11, 12, 18, 19], (.pair (.box TMedl) (.pair (.int .i64) (.pair (.int .i64) (.pair (.list TModeInfo) (.pair (.int .i64) (.pair (.int .i64) TCrc)))))), [], .unit, loopL b_i_allSend_9⟩]
theorem lok_i_allSend_2 (x) : codeK Γ0 E0 σ_i_allSend Λ_i_allSend Tryz.f148.ntmps (nthLoop Tryz.f148 0) (mkF Tryz.f148.ntmps [1, 10, 11, 12] (.pair (.box TMedl) (.pair (.list TModeInfo) TCrc)) x) (readK σ_i_allSend Tryz.f148.ntmps [1, 10, 11, 12] (.pair (.box TMedl) (.pair (.list TModeInfo) TCrc)) 0 [] .unit [2] (.pair .bool .unit)) = b_i_allSend_2 x := by kernel_rfl
theorem lok_i_allSend_5 (x) : codeK Γ0 E0 σ_i_allSend Λ_i_allSend Tryz.f148.ntmps (nthLoop Tryz.f148 1) (mkF Tryz.f148.ntmps [1, 3, 10, 11, 12, 18, 19] (.pair (.box TMedl) (.pair (.int .i64) (.pair (.list TModeInfo) (.pair (.int .i64) (.pair (.int .i64) TCrc))))) x) (readK σ_i_allSend Tryz.f148.ntmps [1, 3, 10, 11, 12, 18, 19] (.pair (.box TMedl) (.pair (.int .i64) (.pair (.list TModeInfo) (.pair (.int .i64) (.pair (.int .i64) TCrc))))) 2 [1, 10, 11, 12] (.pair (.box TMedl) (.pair (.list TModeInfo) TCrc)) [2] (.pair .bool .unit)) = b_i_allSend_5 x := by kernel_rfl
theorem lok_i_allSend_9 (x) : codeK Γ0 E0 σ_i_allSend Λ_i_allSend Tryz.f148.ntmps (nthLoop Tryz.f148 2) (mkF Tryz.f148.ntmps [1, 3, 5, 6, 10, 11, 12, 18, 19, 23, 24, 25] (.pair (.box TMedl) (.pair (.int .i64) (.pair (.int .i64) (.pair (.int .i64) (.pair (.list TModeInfo) (.pair (.int .i64) (.pair (.int .i64) (.pair (.int .i64) (.pair (.int .i64) (.pair (.list TSlotInfo) TCrc)))))))))) x) (readK σ_i_allSend Tryz.f148.ntmps [1, 3, 5, 6, 10, 11, 12, 18, 19, 23, 24, 25] (.pair (.box TMedl) (.pair (.int .i64) (.pair (.int .i64) (.pair (.int .i64) (.pair (.list TModeInfo) (.pair (.int .i64) (.pair (.int .i64) (.pair (.int .i64) (.pair (.int .i64) (.pair (.list TSlotInfo) TCrc)))))))))) 4 [1, 3, 6, 10, 11, 12, 18, 19] (.pair (.box TMedl) (.pair (.int .i64) (.pair (.int .i64) (.pair (.list TModeInfo) (.pair (.int .i64) (.pair (.int .i64) TCrc)))))) [] .unit) = b_i_allSend_9 x := by kernel_rfl
theorem ok_i_allSend : FnOK G0 Tryz.prog 148 S_i_allSend := fn_ok (Λ := Λ_i_allSend) tab0 σok_i_allSend Tryz.func148 (by kernel_rfl) (show Tryz.f148.body = some (bodyOf Tryz.f148) by kernel_rfl) [⟨[1, 10, 11, 12], (.pair (.box TMedl) (.pair (.list TModeInfo) TCrc)), 0, [], .unit, [2], (.pair .bool .unit), loopL b_i_allSend_2⟩, ⟨[1, 3, 10, 11, 12, 18, 19], (.pair (.box TMedl) (.pair (.int .i64) (.pair (.list TModeInfo) (.pair (.int .i64) (.pair (.int .i64) TCrc))))), 2, [1, 10, 11, 12], (.pair (.box TMedl) (.pair (.list TModeInfo) TCrc)), [2], (.pair .bool .unit), loopL b_i_allSend_5⟩, ⟨[1, 3, 5, 6, 10, 11, 12, 18, 19, 23, 24, 25], (.pair (.box TMedl) (.pair (.int .i64) (.pair (.int .i64) (.pair (.int .i64) (.pair (.list TModeInfo) (.pair (.int .i64) (.pair (.int .i64) (.pair (.int .i64) (.pair (.int .i64) (.pair (.list TSlotInfo) TCrc)))))))))), 4, [1, 3, 6, 10, 11, 12, 18, 19], (.pair (.box TMedl) (.pair (.int .i64) (.pair (.int .i64) (.pair (.list TModeInfo) (.pair (.int .i64) (.pair (.int .i64) TCrc)))))), [], .unit, loopL b_i_allSend_9⟩] rfl (by kernel_rfl) (by exact ⟨loop_LOK (lok_i_allSend_2), loop_LOK (lok_i_allSend_5), loop_LOK (lok_i_allSend_9), trivial⟩) (by kernel_rfl)
  fun x y h => (show execFn Γ0 E0 σ_i_allSend Λ_i_allSend Tryz.f148 S_i_allSend x = i_allSend x by kernel_rfl).trans h

noncomputable def i_FirstFault (x : Ty.T (.pair TMedl .unit)) : Option (Ty.T (.pair (.int .i64) .unit)) :=
match i_within (x.1.1, (1 : Int), (16777215 : Int), ()) with
| none => none
| some v1 =>
match (!v1.1) with
| true =>
 some ((1 : Int), ())
| false =>
 match i_IsNodeTable (x.1.2.1, ()) with
 | none => none
 | some v2 =>
 match (!v2.1) with
 | true =>
  some ((2 : Int), ())
 | false =>
  match i_IsModeTable (x.1.2.2.1, ()) with
  | none => none
  | some v3 =>
  match (!v3.1) with
  | true =>
   some ((3 : Int), ())
  | false =>
   match i_IsSlotTable (x.1.2.2.2.1, ()) with
   | none => none
   | some v4 =>
   match (!v4.1) with
   | true =>
    some ((4 : Int), ())
   | false =>
    match i_isComplete ((x.1.1, x.1.2.1, x.1.2.2.1, x.1.2.2.2.1, ()), ()) with
    | none => none
    | some v5 =>
    match (!v5.1) with
    | true =>
     some ((5 : Int), ())
    | false =>
     match slices_ContainsFunc_SlotInfo (x.1.2.2.2.1, (fun z => i_FirstFault_1 (z.1, (x.1.1, x.1.2.1, x.1.2.2.1, x.1.2.2.2.1, ()), ())), ()) with
     | none => none
     | some v6 =>
     match v6.1 with
     | true =>
      some ((6 : Int), ())
     | false =>
      match i_isSteady ((x.1.1, x.1.2.1, x.1.2.2.1, x.1.2.2.2.1, ()), ()) with
      | none => none
      | some v7 =>
      match (!v7.1) with
      | true =>
       some ((7 : Int), ())
      | false =>
       match i_isShort ((x.1.1, x.1.2.1, x.1.2.2.1, x.1.2.2.2.1, ()), ()) with
       | none => none
       | some v8 =>
       match (!v8.1) with
       | true =>
        some ((8 : Int), ())
       | false =>
        match i_allSend ((x.1.1, x.1.2.1, x.1.2.2.1, x.1.2.2.2.1, ()), ()) with
        | none => none
        | some v9 =>
        match (!v9.1) with
        | true =>
         some ((9 : Int), ())
        | false =>
         match slices_ContainsFunc_SlotInfo (x.1.2.2.2.1, i_FirstFault_2, ()) with
         | none => none
         | some v10 =>
         match v10.1 with
         | true =>
          some ((10 : Int), ())
         | false =>
          some ((0 : Int), ())
noncomputable def S_i_FirstFault : Spec := ⟨(.pair TMedl .unit), (.pair (.int .i64) .unit), .unit, rfl, i_FirstFault⟩
noncomputable def σ_i_FirstFault : FuncId → Option Spec := sig [(137, S_i_FirstFault_1), (139, S_i_FirstFault_2), (140, S_i_within), (141, S_i_IsNodeTable), (142, S_i_IsModeTable), (143, S_i_IsSlotTable), (144, S_i_isComplete), (145, S_slices_ContainsFunc_SlotInfo), (146, S_i_isSteady), (147, S_i_isShort), (148, S_i_allSend)]
theorem σok_i_FirstFault : ∀ f s, σ_i_FirstFault f = some s → FnOK G0 Tryz.prog f s := sig_ok (l := [(137, S_i_FirstFault_1), (139, S_i_FirstFault_2), (140, S_i_within), (141, S_i_IsNodeTable), (142, S_i_IsModeTable), (143, S_i_IsSlotTable), (144, S_i_isComplete), (145, S_slices_ContainsFunc_SlotInfo), (146, S_i_isSteady), (147, S_i_isShort), (148, S_i_allSend)]) ⟨ok_i_FirstFault_1, ok_i_FirstFault_2, ok_i_within, ok_i_IsNodeTable, ok_i_IsModeTable, ok_i_IsSlotTable, ok_i_isComplete, ok_slices_ContainsFunc_SlotInfo, ok_i_isSteady, ok_i_isShort, ok_i_allSend, trivial⟩
noncomputable def Λ_i_FirstFault : Nat → Option LSpec := lkp (loopList (bodyOf Tryz.f97)) []
theorem ok_i_FirstFault : FnOK G0 Tryz.prog 97 S_i_FirstFault := fn_ok (Λ := Λ_i_FirstFault) tab0 σok_i_FirstFault Tryz.func97 (by kernel_rfl) (show Tryz.f97.body = some (bodyOf Tryz.f97) by kernel_rfl) [] rfl (by kernel_rfl) (by exact trivial) (by kernel_rfl)
  fun x y h => (show execFn Γ0 E0 σ_i_FirstFault Λ_i_FirstFault Tryz.f97 S_i_FirstFault x = i_FirstFault x by kernel_rfl).trans h

noncomputable def i_IsMedl (x : Ty.T (.pair TMedl .unit)) : Option (Ty.T (.pair .bool .unit)) :=
match i_FirstFault ((x.1.1, x.1.2.1, x.1.2.2.1, x.1.2.2.2.1, ()), ()) with
| none => none
| some v1 =>
some ((v1.1 == (0 : Int)), ())
noncomputable def S_i_IsMedl : Spec := ⟨(.pair TMedl .unit), (.pair .bool .unit), .unit, rfl, i_IsMedl⟩
noncomputable def σ_i_IsMedl : FuncId → Option Spec := sig [(97, S_i_FirstFault)]
theorem σok_i_IsMedl : ∀ f s, σ_i_IsMedl f = some s → FnOK G0 Tryz.prog f s := sig_ok (l := [(97, S_i_FirstFault)]) ⟨ok_i_FirstFault, trivial⟩
noncomputable def Λ_i_IsMedl : Nat → Option LSpec := lkp (loopList (bodyOf Tryz.f73)) []
theorem ok_i_IsMedl : FnOK G0 Tryz.prog 73 S_i_IsMedl := fn_ok (Λ := Λ_i_IsMedl) tab0 σok_i_IsMedl Tryz.func73 (by kernel_rfl) (show Tryz.f73.body = some (bodyOf Tryz.f73) by kernel_rfl) [] rfl (by kernel_rfl) (by exact trivial) (by kernel_rfl)
  fun x y h => (show execFn Γ0 E0 σ_i_IsMedl Λ_i_IsMedl Tryz.f73 S_i_IsMedl x = i_IsMedl x by kernel_rfl).trans h

noncomputable def i_isVector (x : Ty.T (.pair (.int .i64) .unit)) : Option (Ty.T (.pair .bool .unit)) :=
match i_within (x.1, (0 : Int), (4294967295 : Int), ()) with
| none => none
| some v1 =>
some (v1.1, ())
noncomputable def S_i_isVector : Spec := ⟨(.pair (.int .i64) .unit), (.pair .bool .unit), .unit, rfl, i_isVector⟩
noncomputable def σ_i_isVector : FuncId → Option Spec := sig [(140, S_i_within)]
theorem σok_i_isVector : ∀ f s, σ_i_isVector f = some s → FnOK G0 Tryz.prog f s := sig_ok (l := [(140, S_i_within)]) ⟨ok_i_within, trivial⟩
noncomputable def Λ_i_isVector : Nat → Option LSpec := lkp (loopList (bodyOf Tryz.f149)) []
theorem ok_i_isVector : FnOK G0 Tryz.prog 149 S_i_isVector := fn_ok (Λ := Λ_i_isVector) tab0 σok_i_isVector Tryz.func149 (by kernel_rfl) (show Tryz.f149.body = some (bodyOf Tryz.f149) by kernel_rfl) [] rfl (by kernel_rfl) (by exact trivial) (by kernel_rfl)
  fun x y h => (show execFn Γ0 E0 σ_i_isVector Λ_i_isVector Tryz.f149 S_i_isVector x = i_isVector x by kernel_rfl).trans h

noncomputable def i_IsState (x : Ty.T (.pair TState .unit)) : Option (Ty.T (.pair .bool .unit)) :=
match i_within (x.1.1, (0 : Int), (65535 : Int), ()) with
| none => none
| some v1 =>
match v1.1 with
| true =>
 match i_within (x.1.2.1, (0 : Int), (15 : Int), ()) with
 | none => none
 | some v2 =>
 match v2.1 with
 | true =>
  match i_within (x.1.2.2.1, (0 : Int), (15 : Int), ()) with
  | none => none
  | some v3 =>
  match v3.1 with
  | true =>
   match i_within (x.1.2.2.2.1, (0 : Int), (255 : Int), ()) with
   | none => none
   | some v4 =>
   match v4.1 with
   | true =>
    match i_isVector (x.1.2.2.2.2.1, ()) with
    | none => none
    | some v5 =>
    some (v5.1, ())
   | false =>
    some (false, ())
  | false =>
   some (false, ())
 | false =>
  some (false, ())
| false =>
 some (false, ())
noncomputable def S_i_IsState : Spec := ⟨(.pair TState .unit), (.pair .bool .unit), .unit, rfl, i_IsState⟩
noncomputable def σ_i_IsState : FuncId → Option Spec := sig [(140, S_i_within), (149, S_i_isVector)]
theorem σok_i_IsState : ∀ f s, σ_i_IsState f = some s → FnOK G0 Tryz.prog f s := sig_ok (l := [(140, S_i_within), (149, S_i_isVector)]) ⟨ok_i_within, ok_i_isVector, trivial⟩
noncomputable def Λ_i_IsState : Nat → Option LSpec := lkp (loopList (bodyOf Tryz.f98)) []
theorem ok_i_IsState : FnOK G0 Tryz.prog 98 S_i_IsState := fn_ok (Λ := Λ_i_IsState) tab0 σok_i_IsState Tryz.func98 (by kernel_rfl) (show Tryz.f98.body = some (bodyOf Tryz.f98) by kernel_rfl) [] rfl (by kernel_rfl) (by exact trivial) (by kernel_rfl)
  fun x y h => (show execFn Γ0 E0 σ_i_IsState Λ_i_IsState Tryz.f98 S_i_IsState x = i_IsState x by kernel_rfl).trans h

noncomputable def i_belongs (x : Ty.T (.pair TMedl (.pair TState .unit))) : Option (Ty.T (.pair .bool .unit)) :=
match i_IsState ((x.2.1.1, x.2.1.2.1, x.2.1.2.2.1, x.2.1.2.2.2.1, x.2.1.2.2.2.2.1, ()), ()) with
| none => none
| some v1 =>
match (!v1.1) with
| true =>
 some (false, ())
| false =>
 match (decide (x.2.1.2.1 ≥ (x.1.2.2.1.length : Int))) with
 | true =>
  some (false, ())
 | false =>
  onSome (idx x.1.2.2.1 x.2.1.2.1) fun v2 =>
  match (decide (x.2.1.2.2.1 < v2.1)) with
  | true =>
   match (decide (x.2.1.2.2.2.1 < v2.2.1)) with
   | true =>
    match i_activeVector (x.1.2.1, ()) with
    | none => none
    | some v3 =>
    some (((bits BinOp.andNot .i64 x.2.1.2.2.2.2.1 v3.1) == (0 : Int)), ())
   | false =>
    some (false, ())
  | false =>
   some (false, ())
noncomputable def S_i_belongs : Spec := ⟨(.pair TMedl (.pair TState .unit)), (.pair .bool .unit), .unit, rfl, i_belongs⟩
noncomputable def σ_i_belongs : FuncId → Option Spec := sig [(98, S_i_IsState), (99, S_i_activeVector)]
theorem σok_i_belongs : ∀ f s, σ_i_belongs f = some s → FnOK G0 Tryz.prog f s := sig_ok (l := [(98, S_i_IsState), (99, S_i_activeVector)]) ⟨ok_i_IsState, ok_i_activeVector, trivial⟩
noncomputable def Λ_i_belongs : Nat → Option LSpec := lkp (loopList (bodyOf Tryz.f74)) []
theorem ok_i_belongs : FnOK G0 Tryz.prog 74 S_i_belongs := fn_ok (Λ := Λ_i_belongs) tab0 σok_i_belongs Tryz.func74 (by kernel_rfl) (show Tryz.f74.body = some (bodyOf Tryz.f74) by kernel_rfl) [] rfl (by kernel_rfl) (by exact trivial) (by kernel_rfl)
  fun x y h => (show execFn Γ0 E0 σ_i_belongs Λ_i_belongs Tryz.f74 S_i_belongs x = i_belongs x by kernel_rfl).trans h

noncomputable def i_lookCode (x : Ty.T (.pair TMedl (.pair TState .unit))) : Option (Ty.T (.pair (.int .i64) .unit)) :=
match i_IsMedl ((x.1.1, x.1.2.1, x.1.2.2.1, x.1.2.2.2.1, ()), ()) with
| none => none
| some v1 =>
match (!v1.1) with
| true =>
 some ((1 : Int), ())
| false =>
 match i_belongs ((x.1.1, x.1.2.1, x.1.2.2.1, x.1.2.2.2.1, ()), (x.2.1.1, x.2.1.2.1, x.2.1.2.2.1, x.2.1.2.2.2.1, x.2.1.2.2.2.2.1, ()), ()) with
 | none => none
 | some v2 =>
 match (!v2.1) with
 | true =>
  some ((2 : Int), ())
 | false =>
  some ((0 : Int), ())
noncomputable def S_i_lookCode : Spec := ⟨(.pair TMedl (.pair TState .unit)), (.pair (.int .i64) .unit), .unit, rfl, i_lookCode⟩
noncomputable def σ_i_lookCode : FuncId → Option Spec := sig [(73, S_i_IsMedl), (74, S_i_belongs)]
theorem σok_i_lookCode : ∀ f s, σ_i_lookCode f = some s → FnOK G0 Tryz.prog f s := sig_ok (l := [(73, S_i_IsMedl), (74, S_i_belongs)]) ⟨ok_i_IsMedl, ok_i_belongs, trivial⟩
noncomputable def Λ_i_lookCode : Nat → Option LSpec := lkp (loopList (bodyOf Tryz.f51)) []
theorem ok_i_lookCode : FnOK G0 Tryz.prog 51 S_i_lookCode := fn_ok (Λ := Λ_i_lookCode) tab0 σok_i_lookCode Tryz.func51 (by kernel_rfl) (show Tryz.f51.body = some (bodyOf Tryz.f51) by kernel_rfl) [] rfl (by kernel_rfl) (by exact trivial) (by kernel_rfl)
  fun x y h => (show execFn Γ0 E0 σ_i_lookCode Λ_i_lookCode Tryz.f51 S_i_lookCode x = i_lookCode x by kernel_rfl).trans h

noncomputable def i_receiveCode (x : Ty.T (.pair TMedl (.pair TState (.pair .bool .unit)))) : Option (Ty.T (.pair (.int .i64) .unit)) :=
match i_lookCode ((x.1.1, x.1.2.1, x.1.2.2.1, x.1.2.2.2.1, ()), (x.2.1.1, x.2.1.2.1, x.2.1.2.2.1, x.2.1.2.2.2.1, x.2.1.2.2.2.2.1, ()), ()) with
| none => none
| some v1 =>
match (v1.1 != (0 : Int)) with
| true =>
 some (v1.1, ())
| false =>
 match (!x.2.2.1) with
 | true =>
  some ((2 : Int), ())
 | false =>
  some ((0 : Int), ())
noncomputable def S_i_receiveCode : Spec := ⟨(.pair TMedl (.pair TState (.pair .bool .unit))), (.pair (.int .i64) .unit), .unit, rfl, i_receiveCode⟩
noncomputable def σ_i_receiveCode : FuncId → Option Spec := sig [(51, S_i_lookCode)]
theorem σok_i_receiveCode : ∀ f s, σ_i_receiveCode f = some s → FnOK G0 Tryz.prog f s := sig_ok (l := [(51, S_i_lookCode)]) ⟨ok_i_lookCode, trivial⟩
noncomputable def Λ_i_receiveCode : Nat → Option LSpec := lkp (loopList (bodyOf Tryz.f28)) []
theorem ok_i_receiveCode : FnOK G0 Tryz.prog 28 S_i_receiveCode := fn_ok (Λ := Λ_i_receiveCode) tab0 σok_i_receiveCode Tryz.func28 (by kernel_rfl) (show Tryz.f28.body = some (bodyOf Tryz.f28) by kernel_rfl) [] rfl (by kernel_rfl) (by exact trivial) (by kernel_rfl)
  fun x y h => (show execFn Γ0 E0 σ_i_receiveCode Λ_i_receiveCode Tryz.f28 S_i_receiveCode x = i_receiveCode x by kernel_rfl).trans h

noncomputable def b_i_allWithin_2 (x : (Ty.T (.pair (.int .i64) (.pair (.int .i64) (.pair (.list (.int .i64)) TCrc))))) : Option ((Ty.T (.pair (.int .i64) (.pair (.int .i64) (.pair (.list (.int .i64)) TCrc)))) ⊕ ((Ty.T .unit) ⊕ (Ty.T (.pair .bool .unit)))) :=
match (decide (x.2.2.2.2.1 < x.2.2.2.1)) with
| true =>
 onSome (idx x.2.2.1 x.2.2.2.2.1) fun v1 =>
 match (decide (v1 < x.1)) with
 | true =>
  some (.inr (.inr (false, ())))
 | false =>
  match (decide (v1 > x.2.1)) with
  | true =>
   some (.inr (.inr (false, ())))
  | false =>
   some (.inl (x.1, x.2.1, x.2.2.1, x.2.2.2.1, (IntKind.i64.wrap (x.2.2.2.2.1 + (1 : Int))), ()))
| false =>
 some (.inr (.inl (())))
noncomputable def i_allWithin (x : Ty.T (.pair (.list (.int .i64)) TCrc)) : Option (Ty.T (.pair .bool .unit)) :=
match loopL b_i_allWithin_2 (x.2.1, x.2.2.1, x.1, (x.1.length : Int), (0 : Int), ()) with
| none => none
| some (.inl v2) =>
 some (true, ())
| some (.inr v3) =>
 some (v3.1, ())
noncomputable def S_i_allWithin : Spec := ⟨(.pair (.list (.int .i64)) TCrc), (.pair .bool .unit), .unit, rfl, i_allWithin⟩
noncomputable def σ_i_allWithin : FuncId → Option Spec := sig []
theorem σok_i_allWithin : ∀ f s, σ_i_allWithin f = some s → FnOK G0 Tryz.prog f s := sig_ok (l := []) trivial
noncomputable def Λ_i_allWithin : Nat → Option LSpec := lkp (loopList (bodyOf Tryz.f52)) [⟨[1, 2, 9, 10, 11], (.pair (.int .i64) (.pair (.int .i64) (.pair (.list (.int .i64)) TCrc))), 0, [], .unit, [6], (.pair .bool .unit), loopL b_i_allWithin_2⟩]
theorem lok_i_allWithin_2 (x) : codeK Γ0 E0 σ_i_allWithin Λ_i_allWithin Tryz.f52.ntmps (nthLoop Tryz.f52 0) (mkF Tryz.f52.ntmps [1, 2, 9, 10, 11] (.pair (.int .i64) (.pair (.int .i64) (.pair (.list (.int .i64)) TCrc))) x) (readK σ_i_allWithin Tryz.f52.ntmps [1, 2, 9, 10, 11] (.pair (.int .i64) (.pair (.int .i64) (.pair (.list (.int .i64)) TCrc))) 0 [] .unit [6] (.pair .bool .unit)) = b_i_allWithin_2 x := by kernel_rfl
theorem ok_i_allWithin : FnOK G0 Tryz.prog 52 S_i_allWithin := fn_ok (Λ := Λ_i_allWithin) tab0 σok_i_allWithin Tryz.func52 (by kernel_rfl) (show Tryz.f52.body = some (bodyOf Tryz.f52) by kernel_rfl) [⟨[1, 2, 9, 10, 11], (.pair (.int .i64) (.pair (.int .i64) (.pair (.list (.int .i64)) TCrc))), 0, [], .unit, [6], (.pair .bool .unit), loopL b_i_allWithin_2⟩] rfl (by kernel_rfl) (by exact ⟨loop_LOK (lok_i_allWithin_2), trivial⟩) (by kernel_rfl)
  fun x y h => (show execFn Γ0 E0 σ_i_allWithin Λ_i_allWithin Tryz.f52 S_i_allWithin x = i_allWithin x by kernel_rfl).trans h

noncomputable def i_IsBits (x : Ty.T (.pair (.list (.int .i64)) .unit)) : Option (Ty.T (.pair .bool .unit)) :=
match (decide ((x.1.length : Int) ≤ (8192 : Int))) with
| true =>
 match i_allWithin (x.1, (0 : Int), (1 : Int), ()) with
 | none => none
 | some v1 =>
 some (v1.1, ())
| false =>
 some (false, ())
noncomputable def S_i_IsBits : Spec := ⟨(.pair (.list (.int .i64)) .unit), (.pair .bool .unit), .unit, rfl, i_IsBits⟩
noncomputable def σ_i_IsBits : FuncId → Option Spec := sig [(52, S_i_allWithin)]
theorem σok_i_IsBits : ∀ f s, σ_i_IsBits f = some s → FnOK G0 Tryz.prog f s := sig_ok (l := [(52, S_i_allWithin)]) ⟨ok_i_allWithin, trivial⟩
noncomputable def Λ_i_IsBits : Nat → Option LSpec := lkp (loopList (bodyOf Tryz.f29)) []
theorem ok_i_IsBits : FnOK G0 Tryz.prog 29 S_i_IsBits := fn_ok (Λ := Λ_i_IsBits) tab0 σok_i_IsBits Tryz.func29 (by kernel_rfl) (show Tryz.f29.body = some (bodyOf Tryz.f29) by kernel_rfl) [] rfl (by kernel_rfl) (by exact trivial) (by kernel_rfl)
  fun x y h => (show execFn Γ0 E0 σ_i_IsBits Λ_i_IsBits Tryz.f29 S_i_IsBits x = i_IsBits x by kernel_rfl).trans h

noncomputable def i_oneIf (x : Ty.T (.pair .bool .unit)) : Option (Ty.T (.pair (.int .i64) .unit)) :=
match x.1 with
| true =>
 some ((1 : Int), ())
| false =>
 some ((0 : Int), ())
noncomputable def S_i_oneIf : Spec := ⟨(.pair .bool .unit), (.pair (.int .i64) .unit), .unit, rfl, i_oneIf⟩
noncomputable def σ_i_oneIf : FuncId → Option Spec := sig []
theorem σok_i_oneIf : ∀ f s, σ_i_oneIf f = some s → FnOK G0 Tryz.prog f s := sig_ok (l := []) trivial
noncomputable def Λ_i_oneIf : Nat → Option LSpec := lkp (loopList (bodyOf Tryz.f150)) []
theorem ok_i_oneIf : FnOK G0 Tryz.prog 150 S_i_oneIf := fn_ok (Λ := Λ_i_oneIf) tab0 σok_i_oneIf Tryz.func150 (by kernel_rfl) (show Tryz.f150.body = some (bodyOf Tryz.f150) by kernel_rfl) [] rfl (by kernel_rfl) (by exact trivial) (by kernel_rfl)
  fun x y h => (show execFn Γ0 E0 σ_i_oneIf Λ_i_oneIf Tryz.f150 S_i_oneIf x = i_oneIf x by kernel_rfl).trans h

noncomputable def b_i_onesInWindow_3 (x : (Ty.T (.pair (.list (.int .i64)) (.pair (.int .i64) TCrc)))) : Option ((Ty.T (.pair (.list (.int .i64)) (.pair (.int .i64) TCrc))) ⊕ ((Ty.T (.pair (.int .i64) .unit)) ⊕ (Ty.T .unit))) :=
match (decide (x.2.2.2.1 ≤ x.2.1)) with
| true =>
 match (decide (x.2.2.2.1 < (0 : Int))) with
 | true =>
  some (.inl (x.1, x.2.1, (IntKind.i64.wrap (x.2.2.1 + (1 : Int))), (IntKind.i64.wrap (x.2.2.2.1 + (1 : Int))), ()))
 | false =>
  onSome (idx x.1 x.2.2.2.1) fun v1 =>
  match (v1 == (1 : Int)) with
  | true =>
   some (.inl (x.1, x.2.1, (IntKind.i64.wrap (x.2.2.1 + (1 : Int))), (IntKind.i64.wrap (x.2.2.2.1 + (1 : Int))), ()))
  | false =>
   some (.inl (x.1, x.2.1, x.2.2.1, (IntKind.i64.wrap (x.2.2.2.1 + (1 : Int))), ()))
| false =>
 some (.inr (.inl (x.2.2.1, ())))
noncomputable def i_onesInWindow (x : Ty.T (.pair (.list (.int .i64)) (.pair (.int .i64) .unit))) : Option (Ty.T (.pair (.int .i64) .unit)) :=
match loopL b_i_onesInWindow_3 (x.1, x.2.1, (0 : Int), (IntKind.i64.wrap ((IntKind.i64.wrap (x.2.1 - (5 : Int))) + (1 : Int))), ()) with
| none => none
| some (.inl v2) =>
 some (v2.1, ())
| some (.inr v4) =>
 none
noncomputable def S_i_onesInWindow : Spec := ⟨(.pair (.list (.int .i64)) (.pair (.int .i64) .unit)), (.pair (.int .i64) .unit), .unit, rfl, i_onesInWindow⟩
noncomputable def σ_i_onesInWindow : FuncId → Option Spec := sig []
theorem σok_i_onesInWindow : ∀ f s, σ_i_onesInWindow f = some s → FnOK G0 Tryz.prog f s := sig_ok (l := []) trivial
noncomputable def Λ_i_onesInWindow : Nat → Option LSpec := lkp (loopList (bodyOf Tryz.f151)) [⟨[0, 1, 5, 6], (.pair (.list (.int .i64)) (.pair (.int .i64) TCrc)), 0, [5], (.pair (.int .i64) .unit), [], .unit, loopL b_i_onesInWindow_3⟩]
theorem lok_i_onesInWindow_3 (x) : codeK Γ0 E0 σ_i_onesInWindow Λ_i_onesInWindow Tryz.f151.ntmps (nthLoop Tryz.f151 0) (mkF Tryz.f151.ntmps [0, 1, 5, 6] (.pair (.list (.int .i64)) (.pair (.int .i64) TCrc)) x) (readK σ_i_onesInWindow Tryz.f151.ntmps [0, 1, 5, 6] (.pair (.list (.int .i64)) (.pair (.int .i64) TCrc)) 0 [5] (.pair (.int .i64) .unit) [] .unit) = b_i_onesInWindow_3 x := by kernel_rfl
theorem ok_i_onesInWindow : FnOK G0 Tryz.prog 151 S_i_onesInWindow := fn_ok (Λ := Λ_i_onesInWindow) tab0 σok_i_onesInWindow Tryz.func151 (by kernel_rfl) (show Tryz.f151.body = some (bodyOf Tryz.f151) by kernel_rfl) [⟨[0, 1, 5, 6], (.pair (.list (.int .i64)) (.pair (.int .i64) TCrc)), 0, [5], (.pair (.int .i64) .unit), [], .unit, loopL b_i_onesInWindow_3⟩] rfl (by kernel_rfl) (by exact ⟨loop_LOK (lok_i_onesInWindow_3), trivial⟩) (by kernel_rfl)
  fun x y h => (show execFn Γ0 E0 σ_i_onesInWindow Λ_i_onesInWindow Tryz.f151 S_i_onesInWindow x = i_onesInWindow x by kernel_rfl).trans h

noncomputable def b_i_vote_3 (x : (Ty.T (.pair (.list (.int .i64)) (.pair (.own 2 (.int .i64)) TCrc)))) : Option ((Ty.T (.pair (.list (.int .i64)) (.pair (.own 2 (.int .i64)) TCrc))) ⊕ ((Ty.T (.pair (.own 2 (.int .i64)) .unit)) ⊕ (Ty.T .unit))) :=
match (decide (x.2.2.2.1 < x.2.2.1)) with
| true =>
 match i_onesInWindow (x.1, x.2.2.2.1, ()) with
 | none => none
 | some v1 =>
 match i_oneIf ((decide ((IntKind.i64.wrap ((2 : Int) * v1.1)) > (5 : Int))), ()) with
 | none => none
 | some v2 =>
 room (x.2.1.length + [v2.1].length) (
  some (.inl (x.1, (x.2.1 ++ [v2.1]), x.2.2.1, (IntKind.i64.wrap (x.2.2.2.1 + (1 : Int))), ())))
| false =>
 some (.inr (.inl (x.2.1, ())))
noncomputable def i_vote (x : Ty.T (.pair (.list (.int .i64)) .unit)) : Option (Ty.T (.pair (.own 2 (.int .i64)) .unit)) :=
match loopL b_i_vote_3 (x.1, [], (x.1.length : Int), (0 : Int), ()) with
| none => none
| some (.inl v3) =>
 some (v3.1, ())
| some (.inr v5) =>
 none
noncomputable def S_i_vote : Spec := ⟨(.pair (.list (.int .i64)) .unit), (.pair (.own 2 (.int .i64)) .unit), .unit, rfl, i_vote⟩
noncomputable def σ_i_vote : FuncId → Option Spec := sig [(150, S_i_oneIf), (151, S_i_onesInWindow)]
theorem σok_i_vote : ∀ f s, σ_i_vote f = some s → FnOK G0 Tryz.prog f s := sig_ok (l := [(150, S_i_oneIf), (151, S_i_onesInWindow)]) ⟨ok_i_oneIf, ok_i_onesInWindow, trivial⟩
noncomputable def Λ_i_vote : Nat → Option LSpec := lkp (loopList (bodyOf Tryz.f100)) [⟨[0, 3, 7, 8], (.pair (.list (.int .i64)) (.pair (.own 2 (.int .i64)) TCrc)), 0, [3], (.pair (.own 2 (.int .i64)) .unit), [], .unit, loopL b_i_vote_3⟩]
theorem lok_i_vote_3 (x) : codeK Γ0 E0 σ_i_vote Λ_i_vote Tryz.f100.ntmps (nthLoop Tryz.f100 0) (mkF Tryz.f100.ntmps [0, 3, 7, 8] (.pair (.list (.int .i64)) (.pair (.own 2 (.int .i64)) TCrc)) x) (readK σ_i_vote Tryz.f100.ntmps [0, 3, 7, 8] (.pair (.list (.int .i64)) (.pair (.own 2 (.int .i64)) TCrc)) 0 [3] (.pair (.own 2 (.int .i64)) .unit) [] .unit) = b_i_vote_3 x := by kernel_rfl
theorem ok_i_vote : FnOK G0 Tryz.prog 100 S_i_vote := fn_ok (Λ := Λ_i_vote) tab0 σok_i_vote Tryz.func100 (by kernel_rfl) (show Tryz.f100.body = some (bodyOf Tryz.f100) by kernel_rfl) [⟨[0, 3, 7, 8], (.pair (.list (.int .i64)) (.pair (.own 2 (.int .i64)) TCrc)), 0, [3], (.pair (.own 2 (.int .i64)) .unit), [], .unit, loopL b_i_vote_3⟩] rfl (by kernel_rfl) (by exact ⟨loop_LOK (lok_i_vote_3), trivial⟩) (by kernel_rfl)
  fun x y h => (show execFn Γ0 E0 σ_i_vote Λ_i_vote Tryz.f100 S_i_vote x = i_vote x by kernel_rfl).trans h

noncomputable def i_VoteSamples (x : Ty.T (.pair (.list (.int .i64)) .unit)) : Option (Ty.T (.pair (.own 2 (.int .i64)) (.pair (.int .i64) .unit))) :=
match i_IsBits (x.1, ()) with
| none => none
| some v1 =>
match (!v1.1) with
| true =>
 some ([], (1 : Int), ())
| false =>
 match i_vote (x.1, ()) with
 | none => none
 | some v2 =>
 some (v2.1, (0 : Int), ())
noncomputable def S_i_VoteSamples : Spec := ⟨(.pair (.list (.int .i64)) .unit), (.pair (.own 2 (.int .i64)) (.pair (.int .i64) .unit)), .unit, rfl, i_VoteSamples⟩
noncomputable def σ_i_VoteSamples : FuncId → Option Spec := sig [(29, S_i_IsBits), (100, S_i_vote)]
theorem σok_i_VoteSamples : ∀ f s, σ_i_VoteSamples f = some s → FnOK G0 Tryz.prog f s := sig_ok (l := [(29, S_i_IsBits), (100, S_i_vote)]) ⟨ok_i_IsBits, ok_i_vote, trivial⟩
noncomputable def Λ_i_VoteSamples : Nat → Option LSpec := lkp (loopList (bodyOf Tryz.f75)) []
theorem ok_i_VoteSamples : FnOK G0 Tryz.prog 75 S_i_VoteSamples := fn_ok (Λ := Λ_i_VoteSamples) tab0 σok_i_VoteSamples Tryz.func75 (by kernel_rfl) (show Tryz.f75.body = some (bodyOf Tryz.f75) by kernel_rfl) [] rfl (by kernel_rfl) (by exact trivial) (by kernel_rfl)
  fun x y h => (show execFn Γ0 E0 σ_i_VoteSamples Λ_i_VoteSamples Tryz.f75 S_i_VoteSamples x = i_VoteSamples x by kernel_rfl).trans h

noncomputable def b_i_decoding_nextAfter_2 (x : (Ty.T (.pair (.ptr Tdecoding) TCrc))) : Option ((Ty.T (.pair (.ptr Tdecoding) TCrc)) ⊕ ((Ty.T TCrc) ⊕ (Ty.T (.pair (.int .i64) .unit)))) :=
match (decide (x.2.1 < (x.1.1.length : Int))) with
| true =>
 onSome (idx x.1.1 x.2.1) fun v1 =>
 match (v1 == x.2.2.1) with
 | true =>
  some (.inr (.inr (x.2.1, ())))
 | false =>
  some (.inl (x.1, (IntKind.i64.wrap (x.2.1 + (1 : Int))), x.2.2.1, ()))
| false =>
 some (.inr (.inl (x.2.1, x.2.2.1, ())))
noncomputable def i_decoding_nextAfter (x : Ty.T (.pair (.ptr Tdecoding) TCrc)) : Option (Ty.T (.pair (.int .i64) .unit)) :=
match loopL b_i_decoding_nextAfter_2 (x.1, (IntKind.i64.wrap (x.2.1 + (1 : Int))), x.2.2.1, ()) with
| none => none
| some (.inl v2) =>
 match (v2.2.1 == (1 : Int)) with
 | true =>
  some (v2.1, ())
 | false =>
  some ((-1 : Int), ())
| some (.inr v3) =>
 some (v3.1, ())
noncomputable def S_i_decoding_nextAfter : Spec := ⟨(.pair (.ptr Tdecoding) TCrc), (.pair (.int .i64) .unit), .unit, rfl, i_decoding_nextAfter⟩
noncomputable def σ_i_decoding_nextAfter : FuncId → Option Spec := sig []
theorem σok_i_decoding_nextAfter : ∀ f s, σ_i_decoding_nextAfter f = some s → FnOK G0 Tryz.prog f s := sig_ok (l := []) trivial
noncomputable def Λ_i_decoding_nextAfter : Nat → Option LSpec := lkp (loopList (bodyOf Tryz.f189)) [⟨[0, 1, 2], (.pair (.ptr Tdecoding) TCrc), 0, [1, 2], TCrc, [6], (.pair (.int .i64) .unit), loopL b_i_decoding_nextAfter_2⟩]
theorem lok_i_decoding_nextAfter_2 (x) : codeK Γ0 E0 σ_i_decoding_nextAfter Λ_i_decoding_nextAfter Tryz.f189.ntmps (nthLoop Tryz.f189 0) (mkF Tryz.f189.ntmps [0, 1, 2] (.pair (.ptr Tdecoding) TCrc) x) (readK σ_i_decoding_nextAfter Tryz.f189.ntmps [0, 1, 2] (.pair (.ptr Tdecoding) TCrc) 0 [1, 2] TCrc [6] (.pair (.int .i64) .unit)) = b_i_decoding_nextAfter_2 x := by kernel_rfl
theorem ok_i_decoding_nextAfter : FnOK G0 Tryz.prog 189 S_i_decoding_nextAfter := fn_ok (Λ := Λ_i_decoding_nextAfter) tab0 σok_i_decoding_nextAfter Tryz.func189 (by kernel_rfl) (show Tryz.f189.body = some (bodyOf Tryz.f189) by kernel_rfl) [⟨[0, 1, 2], (.pair (.ptr Tdecoding) TCrc), 0, [1, 2], TCrc, [6], (.pair (.int .i64) .unit), loopL b_i_decoding_nextAfter_2⟩] rfl (by kernel_rfl) (by exact ⟨loop_LOK (lok_i_decoding_nextAfter_2), trivial⟩) (by kernel_rfl)
  fun x y h => (show execFn Γ0 E0 σ_i_decoding_nextAfter Λ_i_decoding_nextAfter Tryz.f189 S_i_decoding_nextAfter x = i_decoding_nextAfter x by kernel_rfl).trans h

noncomputable def i_roundCells (x : Ty.T (.pair (.int .i64) .unit)) : Option (Ty.T (.pair (.int .i64) .unit)) :=
some ((IntKind.i64.wrap (Int.tdiv (IntKind.i64.wrap (x.1 + (4 : Int))) (8 : Int))), ())
noncomputable def S_i_roundCells : Spec := ⟨(.pair (.int .i64) .unit), (.pair (.int .i64) .unit), .unit, rfl, i_roundCells⟩
noncomputable def σ_i_roundCells : FuncId → Option Spec := sig []
theorem σok_i_roundCells : ∀ f s, σ_i_roundCells f = some s → FnOK G0 Tryz.prog f s := sig_ok (l := []) trivial
noncomputable def Λ_i_roundCells : Nat → Option LSpec := lkp (loopList (bodyOf Tryz.f190)) []
theorem ok_i_roundCells : FnOK G0 Tryz.prog 190 S_i_roundCells := fn_ok (Λ := Λ_i_roundCells) tab0 σok_i_roundCells Tryz.func190 (by kernel_rfl) (show Tryz.f190.body = some (bodyOf Tryz.f190) by kernel_rfl) [] rfl (by kernel_rfl) (by exact trivial) (by kernel_rfl)
  fun x y h => (show execFn Γ0 E0 σ_i_roundCells Λ_i_roundCells Tryz.f190 S_i_roundCells x = i_roundCells x by kernel_rfl).trans h

noncomputable def i_isPreamble (x : Ty.T (.pair (.int .i64) .unit)) : Option (Ty.T (.pair .bool .unit)) :=
match i_within (x.1, (3 : Int), (15 : Int), ()) with
| none => none
| some v1 =>
some (v1.1, ())
noncomputable def S_i_isPreamble : Spec := ⟨(.pair (.int .i64) .unit), (.pair .bool .unit), .unit, rfl, i_isPreamble⟩
noncomputable def σ_i_isPreamble : FuncId → Option Spec := sig [(140, S_i_within)]
theorem σok_i_isPreamble : ∀ f s, σ_i_isPreamble f = some s → FnOK G0 Tryz.prog f s := sig_ok (l := [(140, S_i_within)]) ⟨ok_i_within, trivial⟩
noncomputable def Λ_i_isPreamble : Nat → Option LSpec := lkp (loopList (bodyOf Tryz.f191)) []
theorem ok_i_isPreamble : FnOK G0 Tryz.prog 191 S_i_isPreamble := fn_ok (Λ := Λ_i_isPreamble) tab0 σok_i_isPreamble Tryz.func191 (by kernel_rfl) (show Tryz.f191.body = some (bodyOf Tryz.f191) by kernel_rfl) [] rfl (by kernel_rfl) (by exact trivial) (by kernel_rfl)
  fun x y h => (show execFn Γ0 E0 σ_i_isPreamble Λ_i_isPreamble Tryz.f191 S_i_isPreamble x = i_isPreamble x by kernel_rfl).trans h

noncomputable def i_decoding_sampleAt (x : Ty.T (.pair (.nptr Tdecoding) (.pair (.int .i64) .unit))) : Option (Ty.T (.pair (.int .i64) .unit)) :=
onSome x.1 fun v1 =>
match (decide (x.2.1 ≥ (v1.1.length : Int))) with
| true =>
 some ((1 : Int), ())
| false =>
 onSome x.1 fun v2 =>
 onSome (idx v2.1 x.2.1) fun v3 =>
 some (v3, ())
noncomputable def S_i_decoding_sampleAt : Spec := ⟨(.pair (.nptr Tdecoding) (.pair (.int .i64) .unit)), (.pair (.int .i64) .unit), .unit, rfl, i_decoding_sampleAt⟩
noncomputable def σ_i_decoding_sampleAt : FuncId → Option Spec := sig []
theorem σok_i_decoding_sampleAt : ∀ f s, σ_i_decoding_sampleAt f = some s → FnOK G0 Tryz.prog f s := sig_ok (l := []) trivial
noncomputable def Λ_i_decoding_sampleAt : Nat → Option LSpec := lkp (loopList (bodyOf Tryz.f103)) []
theorem ok_i_decoding_sampleAt : FnOK G0 Tryz.prog 103 S_i_decoding_sampleAt := fn_ok (Λ := Λ_i_decoding_sampleAt) tab0 σok_i_decoding_sampleAt Tryz.func103 (by kernel_rfl) (show Tryz.f103.body = some (bodyOf Tryz.f103) by kernel_rfl) [] rfl (by kernel_rfl) (by exact trivial) (by kernel_rfl)
  fun x y h => (show execFn Γ0 E0 σ_i_decoding_sampleAt Λ_i_decoding_sampleAt Tryz.f103 S_i_decoding_sampleAt x = i_decoding_sampleAt x by kernel_rfl).trans h

noncomputable def b_i_decoding_bytesFrom_1 (x : (Ty.T (.pair (.box (.pair (.list (.int .i64)) (.pair (.int .i64) (.pair (.own 2 (.int .i64)) .unit)))) (.pair (.int .i64) .unit)))) : Option ((Ty.T (.pair (.box (.pair (.list (.int .i64)) (.pair (.int .i64) (.pair (.own 2 (.int .i64)) .unit)))) (.pair (.int .i64) .unit))) ⊕ ((Ty.T .unit) ⊕ (Ty.T (.pair (.box (.pair (.list (.int .i64)) (.pair (.int .i64) (.pair (.own 2 (.int .i64)) .unit)))) (.pair (.int .i64) .unit))))) :=
room (x.1.2.2.1.length + [x.2.1].length) (
 match i_decoding_sampleAt ((some (x.1.1, x.1.2.1, (x.1.2.2.1 ++ [x.2.1]), ())), (IntKind.i64.wrap (x.2.1 + (76 : Int))), ()) with
 | none => none
 | some v1 =>
 match (v1.1 == (0 : Int)) with
 | true =>
  some (.inr (.inr ((x.1.1, x.1.2.1, (x.1.2.2.1 ++ [x.2.1]), ()), (IntKind.i64.wrap (x.2.1 + (72 : Int))), ())))
 | false =>
  match i_decoding_nextAfter ((x.1.1, x.1.2.1, (x.1.2.2.1 ++ [x.2.1]), ()), (IntKind.i64.wrap (x.2.1 + (76 : Int))), (0 : Int), ()) with
  | none => none
  | some v2 =>
  match (decide (v2.1 < (0 : Int))) with
  | true =>
   some (.inr (.inr ((x.1.1, x.1.2.1, (x.1.2.2.1 ++ [x.2.1]), ()), (-1 : Int), ())))
  | false =>
   match (decide (v2.1 > (IntKind.i64.wrap ((IntKind.i64.wrap (x.2.1 + (76 : Int))) + (8 : Int))))) with
   | true =>
    some (.inr (.inr ((x.1.1, x.1.2.1, (x.1.2.2.1 ++ [x.2.1]), ()), (-1 : Int), ())))
   | false =>
    some (.inl ((x.1.1, x.1.2.1, (x.1.2.2.1 ++ [x.2.1]), ()), v2.1, ())))
noncomputable def i_decoding_bytesFrom (x : Ty.T (.pair (.box (.pair (.list (.int .i64)) (.pair (.int .i64) (.pair (.own 2 (.int .i64)) .unit)))) (.pair (.int .i64) .unit))) : Option (Ty.T (.pair (.int .i64) (.pair (.box (.pair (.list (.int .i64)) (.pair (.int .i64) (.pair (.own 2 (.int .i64)) .unit)))) .unit))) :=
match loopL b_i_decoding_bytesFrom_1 ((x.1.1, x.1.2.1, x.1.2.2.1, ()), x.2.1, ()) with
| none => none
| some (.inl v3) =>
 none
| some (.inr v4) =>
 some (v4.2.1, (v4.1.1, v4.1.2.1, v4.1.2.2.1, ()), ())
noncomputable def S_i_decoding_bytesFrom : Spec := ⟨(.pair (.box (.pair (.list (.int .i64)) (.pair (.int .i64) (.pair (.own 2 (.int .i64)) .unit)))) (.pair (.int .i64) .unit)), (.pair (.int .i64) .unit), (.pair (.box (.pair (.list (.int .i64)) (.pair (.int .i64) (.pair (.own 2 (.int .i64)) .unit)))) .unit), rfl, i_decoding_bytesFrom⟩
noncomputable def σ_i_decoding_bytesFrom : FuncId → Option Spec := sig [(103, S_i_decoding_sampleAt), (189, S_i_decoding_nextAfter)]
theorem σok_i_decoding_bytesFrom : ∀ f s, σ_i_decoding_bytesFrom f = some s → FnOK G0 Tryz.prog f s := sig_ok (l := [(103, S_i_decoding_sampleAt), (189, S_i_decoding_nextAfter)]) ⟨ok_i_decoding_sampleAt, ok_i_decoding_nextAfter, trivial⟩
noncomputable def Λ_i_decoding_bytesFrom : Nat → Option LSpec := lkp (loopList (bodyOf Tryz.f192)) [⟨[0, 1], (.pair (.box (.pair (.list (.int .i64)) (.pair (.int .i64) (.pair (.own 2 (.int .i64)) .unit)))) (.pair (.int .i64) .unit)), 999999, [], .unit, [0, 4], (.pair (.box (.pair (.list (.int .i64)) (.pair (.int .i64) (.pair (.own 2 (.int .i64)) .unit)))) (.pair (.int .i64) .unit)), loopL b_i_decoding_bytesFrom_1⟩]
theorem lok_i_decoding_bytesFrom_1 (x) : codeK Γ0 E0 σ_i_decoding_bytesFrom Λ_i_decoding_bytesFrom Tryz.f192.ntmps (nthLoop Tryz.f192 0) (mkF Tryz.f192.ntmps [0, 1] (.pair (.box (.pair (.list (.int .i64)) (.pair (.int .i64) (.pair (.own 2 (.int .i64)) .unit)))) (.pair (.int .i64) .unit)) x) (readK σ_i_decoding_bytesFrom Tryz.f192.ntmps [0, 1] (.pair (.box (.pair (.list (.int .i64)) (.pair (.int .i64) (.pair (.own 2 (.int .i64)) .unit)))) (.pair (.int .i64) .unit)) 999999 [] .unit [0, 4] (.pair (.box (.pair (.list (.int .i64)) (.pair (.int .i64) (.pair (.own 2 (.int .i64)) .unit)))) (.pair (.int .i64) .unit))) = b_i_decoding_bytesFrom_1 x := by kernel_rfl
theorem ok_i_decoding_bytesFrom : FnOK G0 Tryz.prog 192 S_i_decoding_bytesFrom := fn_ok (Λ := Λ_i_decoding_bytesFrom) tab0 σok_i_decoding_bytesFrom Tryz.func192 (by kernel_rfl) (show Tryz.f192.body = some (bodyOf Tryz.f192) by kernel_rfl) [⟨[0, 1], (.pair (.box (.pair (.list (.int .i64)) (.pair (.int .i64) (.pair (.own 2 (.int .i64)) .unit)))) (.pair (.int .i64) .unit)), 999999, [], .unit, [0, 4], (.pair (.box (.pair (.list (.int .i64)) (.pair (.int .i64) (.pair (.own 2 (.int .i64)) .unit)))) (.pair (.int .i64) .unit)), loopL b_i_decoding_bytesFrom_1⟩] rfl (by kernel_rfl) (by exact ⟨loop_LOK (lok_i_decoding_bytesFrom_1), trivial⟩) (by kernel_rfl)
  fun x y h => (show execFn Γ0 E0 σ_i_decoding_bytesFrom Λ_i_decoding_bytesFrom Tryz.f192 S_i_decoding_bytesFrom x = i_decoding_bytesFrom x by kernel_rfl).trans h

noncomputable def i_decoding_decode (x : Ty.T (.pair (.box (.pair (.list (.int .i64)) (.pair (.int .i64) (.pair (.own 2 (.int .i64)) .unit)))) .unit)) : Option (Ty.T (.pair (.int .i64) (.pair (.box (.pair (.list (.int .i64)) (.pair (.int .i64) (.pair (.own 2 (.int .i64)) .unit)))) .unit))) :=
match i_decoding_nextAfter ((x.1.1, x.1.2.1, x.1.2.2.1, ()), (-1 : Int), (0 : Int), ()) with
| none => none
| some v1 =>
match (decide (v1.1 < (0 : Int))) with
| true =>
 some ((4 : Int), (x.1.1, x.1.2.1, x.1.2.2.1, ()), ())
| false =>
 match i_decoding_nextAfter ((x.1.1, x.1.2.1, x.1.2.2.1, ()), v1.1, (1 : Int), ()) with
 | none => none
 | some v2 =>
 match i_roundCells ((IntKind.i64.wrap (v2.1 - v1.1)), ()) with
 | none => none
 | some v3 =>
 match i_isPreamble (v3.1, ()) with
 | none => none
 | some v4 =>
 match (!v4.1) with
 | true =>
  some ((6 : Int), (x.1.1, v3.1, x.1.2.2.1, ()), ())
 | false =>
  match i_decoding_nextAfter ((x.1.1, v3.1, x.1.2.2.1, ()), v2.1, (0 : Int), ()) with
  | none => none
  | some v5 =>
  match (decide (v5.1 < (0 : Int))) with
  | true =>
   some ((6 : Int), (x.1.1, v3.1, x.1.2.2.1, ()), ())
  | false =>
   match (decide ((IntKind.i64.wrap (v5.1 - v2.1)) > (19 : Int))) with
   | true =>
    some ((6 : Int), (x.1.1, v3.1, x.1.2.2.1, ()), ())
   | false =>
    match (decide ((IntKind.i64.wrap (v5.1 - v2.1)) < (5 : Int))) with
    | true =>
     some ((6 : Int), (x.1.1, v3.1, x.1.2.2.1, ()), ())
    | false =>
     match ((IntKind.i64.wrap (v5.1 - v2.1)) == (12 : Int)) with
     | true =>
      some ((6 : Int), (x.1.1, v3.1, x.1.2.2.1, ()), ())
     | false =>
      match (decide ((IntKind.i64.wrap (v5.1 - v2.1)) ≥ (13 : Int))) with
      | true =>
       match i_decoding_bytesFrom ((x.1.1, v3.1, x.1.2.2.1, ()), v5.1, ()) with
       | none => none
       | some v6 =>
       match (decide (v6.1 < (0 : Int))) with
       | true =>
        some ((6 : Int), (v6.2.1.1, v6.2.1.2.1, v6.2.1.2.2.1, ()), ())
       | false =>
        match i_decoding_nextAfter ((v6.2.1.1, v6.2.1.2.1, v6.2.1.2.2.1, ()), (IntKind.i64.wrap (v6.1 + (11 : Int))), (0 : Int), ()) with
        | none => none
        | some v7 =>
        match (decide (v7.1 ≥ (0 : Int))) with
        | true =>
         some ((6 : Int), (v6.2.1.1, v6.2.1.2.1, v6.2.1.2.2.1, ()), ())
        | false =>
         some ((0 : Int), (v6.2.1.1, v6.2.1.2.1, v6.2.1.2.2.1, ()), ())
      | false =>
       match i_decoding_nextAfter ((x.1.1, v3.1, x.1.2.2.1, ()), (IntKind.i64.wrap (v5.1 + (11 : Int))), (0 : Int), ()) with
       | none => none
       | some v8 =>
       match (decide (v8.1 ≥ (0 : Int))) with
       | true =>
        some ((6 : Int), (x.1.1, v3.1, x.1.2.2.1, ()), ())
       | false =>
        some ((0 : Int), (x.1.1, v3.1, x.1.2.2.1, ()), ())
noncomputable def S_i_decoding_decode : Spec := ⟨(.pair (.box (.pair (.list (.int .i64)) (.pair (.int .i64) (.pair (.own 2 (.int .i64)) .unit)))) .unit), (.pair (.int .i64) .unit), (.pair (.box (.pair (.list (.int .i64)) (.pair (.int .i64) (.pair (.own 2 (.int .i64)) .unit)))) .unit), rfl, i_decoding_decode⟩
noncomputable def σ_i_decoding_decode : FuncId → Option Spec := sig [(189, S_i_decoding_nextAfter), (190, S_i_roundCells), (191, S_i_isPreamble), (192, S_i_decoding_bytesFrom)]
theorem σok_i_decoding_decode : ∀ f s, σ_i_decoding_decode f = some s → FnOK G0 Tryz.prog f s := sig_ok (l := [(189, S_i_decoding_nextAfter), (190, S_i_roundCells), (191, S_i_isPreamble), (192, S_i_decoding_bytesFrom)]) ⟨ok_i_decoding_nextAfter, ok_i_roundCells, ok_i_isPreamble, ok_i_decoding_bytesFrom, trivial⟩
noncomputable def Λ_i_decoding_decode : Nat → Option LSpec := lkp (loopList (bodyOf Tryz.f152)) []
theorem ok_i_decoding_decode : FnOK G0 Tryz.prog 152 S_i_decoding_decode := fn_ok (Λ := Λ_i_decoding_decode) tab0 σok_i_decoding_decode Tryz.func152 (by kernel_rfl) (show Tryz.f152.body = some (bodyOf Tryz.f152) by kernel_rfl) [] rfl (by kernel_rfl) (by exact trivial) (by kernel_rfl)
  fun x y h => (show execFn Γ0 E0 σ_i_decoding_decode Λ_i_decoding_decode Tryz.f152 S_i_decoding_decode x = i_decoding_decode x by kernel_rfl).trans h

noncomputable def i_decodeVoted (x : Ty.T (.pair (.list (.int .i64)) .unit)) : Option (Ty.T (.pair (.nptr Tdecoding) (.pair (.int .i64) .unit))) :=
match i_IsBits (x.1, ()) with
| none => none
| some v1 =>
match (!v1.1) with
| true =>
 some (none, (1 : Int), ())
| false =>
 match i_decoding_decode ((x.1, (0 : Int), [], ()), ()) with
 | none => none
 | some v2 =>
 match (v2.1 != (0 : Int)) with
 | true =>
  some (none, v2.1, ())
 | false =>
  some ((some (v2.2.1.1, v2.2.1.2.1, v2.2.1.2.2.1, ())), (0 : Int), ())
noncomputable def S_i_decodeVoted : Spec := ⟨(.pair (.list (.int .i64)) .unit), (.pair (.nptr Tdecoding) (.pair (.int .i64) .unit)), .unit, rfl, i_decodeVoted⟩
noncomputable def σ_i_decodeVoted : FuncId → Option Spec := sig [(29, S_i_IsBits), (152, S_i_decoding_decode)]
theorem σok_i_decodeVoted : ∀ f s, σ_i_decodeVoted f = some s → FnOK G0 Tryz.prog f s := sig_ok (l := [(29, S_i_IsBits), (152, S_i_decoding_decode)]) ⟨ok_i_IsBits, ok_i_decoding_decode, trivial⟩
noncomputable def Λ_i_decodeVoted : Nat → Option LSpec := lkp (loopList (bodyOf Tryz.f101)) []
theorem ok_i_decodeVoted : FnOK G0 Tryz.prog 101 S_i_decodeVoted := fn_ok (Λ := Λ_i_decodeVoted) tab0 σok_i_decodeVoted Tryz.func101 (by kernel_rfl) (show Tryz.f101.body = some (bodyOf Tryz.f101) by kernel_rfl) [] rfl (by kernel_rfl) (by exact trivial) (by kernel_rfl)
  fun x y h => (show execFn Γ0 E0 σ_i_decodeVoted Λ_i_decodeVoted Tryz.f101 S_i_decodeVoted x = i_decodeVoted x by kernel_rfl).trans h

noncomputable def b_i_strobes_3 (x : (Ty.T (.pair (.int .i64) (.pair (.own 2 (.int .i64)) (.pair (.int .i64) .unit))))) : Option ((Ty.T (.pair (.int .i64) (.pair (.own 2 (.int .i64)) (.pair (.int .i64) .unit)))) ⊕ ((Ty.T (.pair (.own 2 (.int .i64)) .unit)) ⊕ (Ty.T .unit))) :=
match (decide (x.2.2.1 < (9 : Int))) with
| true =>
 room (x.2.1.length + [(IntKind.i64.wrap ((IntKind.i64.wrap (x.1 + (IntKind.i64.wrap ((8 : Int) * x.2.2.1)))) + (12 : Int)))].length) (
  some (.inl (x.1, (x.2.1 ++ [(IntKind.i64.wrap ((IntKind.i64.wrap (x.1 + (IntKind.i64.wrap ((8 : Int) * x.2.2.1)))) + (12 : Int)))]), (IntKind.i64.wrap (x.2.2.1 + (1 : Int))), ())))
| false =>
 some (.inr (.inl (x.2.1, ())))
noncomputable def i_strobes (x : Ty.T (.pair (.int .i64) .unit)) : Option (Ty.T (.pair (.own 2 (.int .i64)) .unit)) :=
match loopL b_i_strobes_3 (x.1, [], (0 : Int), ()) with
| none => none
| some (.inl v1) =>
 some (v1.1, ())
| some (.inr v3) =>
 none
noncomputable def S_i_strobes : Spec := ⟨(.pair (.int .i64) .unit), (.pair (.own 2 (.int .i64)) .unit), .unit, rfl, i_strobes⟩
noncomputable def σ_i_strobes : FuncId → Option Spec := sig []
theorem σok_i_strobes : ∀ f s, σ_i_strobes f = some s → FnOK G0 Tryz.prog f s := sig_ok (l := []) trivial
noncomputable def Λ_i_strobes : Nat → Option LSpec := lkp (loopList (bodyOf Tryz.f102)) [⟨[0, 3, 6], (.pair (.int .i64) (.pair (.own 2 (.int .i64)) (.pair (.int .i64) .unit))), 0, [3], (.pair (.own 2 (.int .i64)) .unit), [], .unit, loopL b_i_strobes_3⟩]
theorem lok_i_strobes_3 (x) : codeK Γ0 E0 σ_i_strobes Λ_i_strobes Tryz.f102.ntmps (nthLoop Tryz.f102 0) (mkF Tryz.f102.ntmps [0, 3, 6] (.pair (.int .i64) (.pair (.own 2 (.int .i64)) (.pair (.int .i64) .unit))) x) (readK σ_i_strobes Tryz.f102.ntmps [0, 3, 6] (.pair (.int .i64) (.pair (.own 2 (.int .i64)) (.pair (.int .i64) .unit))) 0 [3] (.pair (.own 2 (.int .i64)) .unit) [] .unit) = b_i_strobes_3 x := by kernel_rfl
theorem ok_i_strobes : FnOK G0 Tryz.prog 102 S_i_strobes := fn_ok (Λ := Λ_i_strobes) tab0 σok_i_strobes Tryz.func102 (by kernel_rfl) (show Tryz.f102.body = some (bodyOf Tryz.f102) by kernel_rfl) [⟨[0, 3, 6], (.pair (.int .i64) (.pair (.own 2 (.int .i64)) (.pair (.int .i64) .unit))), 0, [3], (.pair (.own 2 (.int .i64)) .unit), [], .unit, loopL b_i_strobes_3⟩] rfl (by kernel_rfl) (by exact ⟨loop_LOK (lok_i_strobes_3), trivial⟩) (by kernel_rfl)
  fun x y h => (show execFn Γ0 E0 σ_i_strobes Λ_i_strobes Tryz.f102 S_i_strobes x = i_strobes x by kernel_rfl).trans h

noncomputable def b_i_DecodeVoted_10 (x : (Ty.T (.pair (.nptr Tdecoding) (.pair (.own 2 (.int .i64)) (.pair (.int .i64) (.pair (.list (.int .i64)) (.pair (.int .i64) (.pair (.int .i64) (.pair (.own 2 (.int .i64)) TCrc))))))))) : Option ((Ty.T (.pair (.nptr Tdecoding) (.pair (.own 2 (.int .i64)) (.pair (.int .i64) (.pair (.list (.int .i64)) (.pair (.int .i64) (.pair (.int .i64) (.pair (.own 2 (.int .i64)) TCrc)))))))) ⊕ ((Ty.T (.pair (.nptr Tdecoding) (.pair (.own 2 (.int .i64)) (.pair (.int .i64) (.pair (.list (.int .i64)) TCrc))))) ⊕ (Ty.T .unit))) :=
match (decide (x.2.2.2.2.2.2.2.2.1 < x.2.2.2.2.2.2.2.1)) with
| true =>
 onSome (idx x.2.2.2.2.2.2.1 x.2.2.2.2.2.2.2.2.1) fun _ =>
 match x.2.2.2.2.2.2.1[x.2.2.2.2.2.2.2.2.1.toNat]? with
 | none => none
 | some v7 =>
 match i_decoding_sampleAt (x.1, v7, ()) with
 | none => none
 | some v8 =>
 some (.inl (x.1, x.2.1, (IntKind.i64.wrap ((IntKind.i64.wrap ((2 : Int) * x.2.2.1)) + v8.1)), x.2.2.2.1, x.2.2.2.2.1, x.2.2.2.2.2.1, x.2.2.2.2.2.2.1, x.2.2.2.2.2.2.2.1, (IntKind.i64.wrap (x.2.2.2.2.2.2.2.2.1 + (1 : Int))), ()))
| false =>
 some (.inr (.inl (x.1, x.2.1, x.2.2.1, x.2.2.2.1, x.2.2.2.2.1, x.2.2.2.2.2.1, ())))
noncomputable def b_i_DecodeVoted_6 (x : (Ty.T (.pair (.nptr Tdecoding) (.pair (.own 2 (.int .i64)) (.pair (.list (.int .i64)) TCrc))))) : Option ((Ty.T (.pair (.nptr Tdecoding) (.pair (.own 2 (.int .i64)) (.pair (.list (.int .i64)) TCrc)))) ⊕ ((Ty.T (.pair (.own 2 (.int .i64)) .unit)) ⊕ (Ty.T .unit))) :=
match (decide (x.2.2.2.2.1 < x.2.2.2.1)) with
| true =>
 onSome (idx x.2.2.1 x.2.2.2.2.1) fun v3 =>
 match i_strobes (v3, ()) with
 | none => none
 | some v4 =>
 onSome (bounds v4.1.length none (some (.dat (.int .i64) (8 : Int)))) fun v5 =>
 match loopL b_i_DecodeVoted_10 (x.1, x.2.1, (0 : Int), x.2.2.1, x.2.2.2.1, x.2.2.2.2.1, (List.take v5.2 v4.1), ((List.take v5.2 v4.1).length : Int), (0 : Int), ()) with
 | none => none
 | some (.inl v6) =>
  room (v6.2.1.length + [v6.2.2.1].length) (
   some (.inl (v6.1, (v6.2.1 ++ [v6.2.2.1]), v6.2.2.2.1, v6.2.2.2.2.1, (IntKind.i64.wrap (v6.2.2.2.2.2.1 + (1 : Int))), ())))
 | some (.inr v8) =>
  some (.inr (.inr (())))
| false =>
 some (.inr (.inl (x.2.1, ())))
noncomputable def i_DecodeVoted (x : Ty.T (.pair (.list (.int .i64)) .unit)) : Option (Ty.T (.pair (.own 2 (.int .i64)) (.pair (.int .i64) .unit))) :=
match i_decodeVoted (x.1, ()) with
| none => none
| some v1 =>
match (v1.2.1 != (0 : Int)) with
| true =>
 some ([], v1.2.1, ())
| false =>
 onSome v1.1 fun v2 =>
 match loopL b_i_DecodeVoted_6 (v1.1, [], v2.2.2.1, (v2.2.2.1.length : Int), (0 : Int), ()) with
 | none => none
 | some (.inl v9) =>
  some (v9.1, (0 : Int), ())
 | some (.inr v11) =>
  none
noncomputable def S_i_DecodeVoted : Spec := ⟨(.pair (.list (.int .i64)) .unit), (.pair (.own 2 (.int .i64)) (.pair (.int .i64) .unit)), .unit, rfl, i_DecodeVoted⟩
noncomputable def σ_i_DecodeVoted : FuncId → Option Spec := sig [(101, S_i_decodeVoted), (102, S_i_strobes), (103, S_i_decoding_sampleAt)]
theorem σok_i_DecodeVoted : ∀ f s, σ_i_DecodeVoted f = some s → FnOK G0 Tryz.prog f s := sig_ok (l := [(101, S_i_decodeVoted), (102, S_i_strobes), (103, S_i_decoding_sampleAt)]) ⟨ok_i_decodeVoted, ok_i_strobes, ok_i_decoding_sampleAt, trivial⟩
noncomputable def Λ_i_DecodeVoted : Nat → Option LSpec := lkp (loopList (bodyOf Tryz.f76)) [⟨[4, 6, 24, 25, 26], (.pair (.nptr Tdecoding) (.pair (.own 2 (.int .i64)) (.pair (.list (.int .i64)) TCrc))), 0, [6], (.pair (.own 2 (.int .i64)) .unit), [], .unit, loopL b_i_DecodeVoted_6⟩, ⟨[4, 6, 9, 24, 25, 26, 32, 33, 34], (.pair (.nptr Tdecoding) (.pair (.own 2 (.int .i64)) (.pair (.int .i64) (.pair (.list (.int .i64)) (.pair (.int .i64) (.pair (.int .i64) (.pair (.own 2 (.int .i64)) TCrc))))))), 2, [4, 6, 9, 24, 25, 26], (.pair (.nptr Tdecoding) (.pair (.own 2 (.int .i64)) (.pair (.int .i64) (.pair (.list (.int .i64)) TCrc)))), [], .unit, loopL b_i_DecodeVoted_10⟩]
theorem lok_i_DecodeVoted_6 (x) : codeK Γ0 E0 σ_i_DecodeVoted Λ_i_DecodeVoted Tryz.f76.ntmps (nthLoop Tryz.f76 0) (mkF Tryz.f76.ntmps [4, 6, 24, 25, 26] (.pair (.nptr Tdecoding) (.pair (.own 2 (.int .i64)) (.pair (.list (.int .i64)) TCrc))) x) (readK σ_i_DecodeVoted Tryz.f76.ntmps [4, 6, 24, 25, 26] (.pair (.nptr Tdecoding) (.pair (.own 2 (.int .i64)) (.pair (.list (.int .i64)) TCrc))) 0 [6] (.pair (.own 2 (.int .i64)) .unit) [] .unit) = b_i_DecodeVoted_6 x := by kernel_rfl
theorem lok_i_DecodeVoted_10 (x) : codeK Γ0 E0 σ_i_DecodeVoted Λ_i_DecodeVoted Tryz.f76.ntmps (nthLoop Tryz.f76 1) (mkF Tryz.f76.ntmps [4, 6, 9, 24, 25, 26, 32, 33, 34] (.pair (.nptr Tdecoding) (.pair (.own 2 (.int .i64)) (.pair (.int .i64) (.pair (.list (.int .i64)) (.pair (.int .i64) (.pair (.int .i64) (.pair (.own 2 (.int .i64)) TCrc))))))) x) (readK σ_i_DecodeVoted Tryz.f76.ntmps [4, 6, 9, 24, 25, 26, 32, 33, 34] (.pair (.nptr Tdecoding) (.pair (.own 2 (.int .i64)) (.pair (.int .i64) (.pair (.list (.int .i64)) (.pair (.int .i64) (.pair (.int .i64) (.pair (.own 2 (.int .i64)) TCrc))))))) 2 [4, 6, 9, 24, 25, 26] (.pair (.nptr Tdecoding) (.pair (.own 2 (.int .i64)) (.pair (.int .i64) (.pair (.list (.int .i64)) TCrc)))) [] .unit) = b_i_DecodeVoted_10 x := by kernel_rfl
theorem ok_i_DecodeVoted : FnOK G0 Tryz.prog 76 S_i_DecodeVoted := fn_ok (Λ := Λ_i_DecodeVoted) tab0 σok_i_DecodeVoted Tryz.func76 (by kernel_rfl) (show Tryz.f76.body = some (bodyOf Tryz.f76) by kernel_rfl) [⟨[4, 6, 24, 25, 26], (.pair (.nptr Tdecoding) (.pair (.own 2 (.int .i64)) (.pair (.list (.int .i64)) TCrc))), 0, [6], (.pair (.own 2 (.int .i64)) .unit), [], .unit, loopL b_i_DecodeVoted_6⟩, ⟨[4, 6, 9, 24, 25, 26, 32, 33, 34], (.pair (.nptr Tdecoding) (.pair (.own 2 (.int .i64)) (.pair (.int .i64) (.pair (.list (.int .i64)) (.pair (.int .i64) (.pair (.int .i64) (.pair (.own 2 (.int .i64)) TCrc))))))), 2, [4, 6, 9, 24, 25, 26], (.pair (.nptr Tdecoding) (.pair (.own 2 (.int .i64)) (.pair (.int .i64) (.pair (.list (.int .i64)) TCrc)))), [], .unit, loopL b_i_DecodeVoted_10⟩] rfl (by kernel_rfl) (by exact ⟨loop_LOK (lok_i_DecodeVoted_6), loop_LOK (lok_i_DecodeVoted_10), trivial⟩) (by kernel_rfl)
  fun x y h => (show execFn Γ0 E0 σ_i_DecodeVoted Λ_i_DecodeVoted Tryz.f76 S_i_DecodeVoted x = i_DecodeVoted x by kernel_rfl).trans h

noncomputable def i_DecodeSamples (x : Ty.T (.pair (.list (.int .i64)) .unit)) : Option (Ty.T (.pair (.own 2 (.int .i64)) (.pair (.int .i64) .unit))) :=
match i_VoteSamples (x.1, ()) with
| none => none
| some v1 =>
match (v1.2.1 != (0 : Int)) with
| true =>
 some ([], v1.2.1, ())
| false =>
 match i_DecodeVoted (v1.1, ()) with
 | none => none
 | some v2 =>
 some (v2.1, v2.2.1, ())
noncomputable def S_i_DecodeSamples : Spec := ⟨(.pair (.list (.int .i64)) .unit), (.pair (.own 2 (.int .i64)) (.pair (.int .i64) .unit)), .unit, rfl, i_DecodeSamples⟩
noncomputable def σ_i_DecodeSamples : FuncId → Option Spec := sig [(75, S_i_VoteSamples), (76, S_i_DecodeVoted)]
theorem σok_i_DecodeSamples : ∀ f s, σ_i_DecodeSamples f = some s → FnOK G0 Tryz.prog f s := sig_ok (l := [(75, S_i_VoteSamples), (76, S_i_DecodeVoted)]) ⟨ok_i_VoteSamples, ok_i_DecodeVoted, trivial⟩
noncomputable def Λ_i_DecodeSamples : Nat → Option LSpec := lkp (loopList (bodyOf Tryz.f53)) []
theorem ok_i_DecodeSamples : FnOK G0 Tryz.prog 53 S_i_DecodeSamples := fn_ok (Λ := Λ_i_DecodeSamples) tab0 σok_i_DecodeSamples Tryz.func53 (by kernel_rfl) (show Tryz.f53.body = some (bodyOf Tryz.f53) by kernel_rfl) [] rfl (by kernel_rfl) (by exact trivial) (by kernel_rfl)
  fun x y h => (show execFn Γ0 E0 σ_i_DecodeSamples Λ_i_DecodeSamples Tryz.f53 S_i_DecodeSamples x = i_DecodeSamples x by kernel_rfl).trans h

noncomputable def i_isId (x : Ty.T (.pair (.int .i64) .unit)) : Option (Ty.T (.pair .bool .unit)) :=
match i_within (x.1, (0 : Int), (16777215 : Int), ()) with
| none => none
| some v1 =>
some (v1.1, ())
noncomputable def S_i_isId : Spec := ⟨(.pair (.int .i64) .unit), (.pair .bool .unit), .unit, rfl, i_isId⟩
noncomputable def σ_i_isId : FuncId → Option Spec := sig [(140, S_i_within)]
theorem σok_i_isId : ∀ f s, σ_i_isId f = some s → FnOK G0 Tryz.prog f s := sig_ok (l := [(140, S_i_within)]) ⟨ok_i_within, trivial⟩
noncomputable def Λ_i_isId : Nat → Option LSpec := lkp (loopList (bodyOf Tryz.f104)) []
theorem ok_i_isId : FnOK G0 Tryz.prog 104 S_i_isId := fn_ok (Λ := Λ_i_isId) tab0 σok_i_isId Tryz.func104 (by kernel_rfl) (show Tryz.f104.body = some (bodyOf Tryz.f104) by kernel_rfl) [] rfl (by kernel_rfl) (by exact trivial) (by kernel_rfl)
  fun x y h => (show execFn Γ0 E0 σ_i_isId Λ_i_isId Tryz.f104 S_i_isId x = i_isId x by kernel_rfl).trans h

noncomputable def i_IsBytes (x : Ty.T (.pair (.list (.int .i64)) .unit)) : Option (Ty.T (.pair .bool .unit)) :=
match (decide ((x.1.length : Int) ≤ (1024 : Int))) with
| true =>
 match i_allWithin (x.1, (0 : Int), (255 : Int), ()) with
 | none => none
 | some v1 =>
 some (v1.1, ())
| false =>
 some (false, ())
noncomputable def S_i_IsBytes : Spec := ⟨(.pair (.list (.int .i64)) .unit), (.pair .bool .unit), .unit, rfl, i_IsBytes⟩
noncomputable def σ_i_IsBytes : FuncId → Option Spec := sig [(52, S_i_allWithin)]
theorem σok_i_IsBytes : ∀ f s, σ_i_IsBytes f = some s → FnOK G0 Tryz.prog f s := sig_ok (l := [(52, S_i_allWithin)]) ⟨ok_i_allWithin, trivial⟩
noncomputable def Λ_i_IsBytes : Nat → Option LSpec := lkp (loopList (bodyOf Tryz.f105)) []
theorem ok_i_IsBytes : FnOK G0 Tryz.prog 105 S_i_IsBytes := fn_ok (Λ := Λ_i_IsBytes) tab0 σok_i_IsBytes Tryz.func105 (by kernel_rfl) (show Tryz.f105.body = some (bodyOf Tryz.f105) by kernel_rfl) [] rfl (by kernel_rfl) (by exact trivial) (by kernel_rfl)
  fun x y h => (show execFn Γ0 E0 σ_i_IsBytes Λ_i_IsBytes Tryz.f105 S_i_IsBytes x = i_IsBytes x by kernel_rfl).trans h

noncomputable def b_slices_Equal_int64_4 (x : (Ty.T (.pair (.list (.int .i64)) (.pair (.list (.int .i64)) TCrc)))) : Option ((Ty.T (.pair (.list (.int .i64)) (.pair (.list (.int .i64)) TCrc))) ⊕ ((Ty.T .unit) ⊕ (Ty.T (.pair .bool .unit)))) :=
match (decide (x.2.2.2.1 < x.2.2.1)) with
| true =>
 onSome (idx x.1 x.2.2.2.1) fun v1 =>
 onSome (idx x.2.1 x.2.2.2.1) fun v2 =>
 match (v1 != v2) with
 | true =>
  some (.inr (.inr (false, ())))
 | false =>
  some (.inl (x.1, x.2.1, x.2.2.1, (IntKind.i64.wrap (x.2.2.2.1 + (1 : Int))), ()))
| false =>
 some (.inr (.inl (())))
noncomputable def slices_Equal_int64 (x : Ty.T (.pair (.list (.int .i64)) (.pair (.list (.int .i64)) .unit))) : Option (Ty.T (.pair .bool .unit)) :=
match ((x.1.length : Int) != (x.2.1.length : Int)) with
| true =>
 some (false, ())
| false =>
 match loopL b_slices_Equal_int64_4 (x.1, x.2.1, (x.1.length : Int), (0 : Int), ()) with
 | none => none
 | some (.inl v3) =>
  some (true, ())
 | some (.inr v4) =>
  some (v4.1, ())
noncomputable def S_slices_Equal_int64 : Spec := ⟨(.pair (.list (.int .i64)) (.pair (.list (.int .i64)) .unit)), (.pair .bool .unit), .unit, rfl, slices_Equal_int64⟩
noncomputable def σ_slices_Equal_int64 : FuncId → Option Spec := sig []
theorem σok_slices_Equal_int64 : ∀ f s, σ_slices_Equal_int64 f = some s → FnOK G0 Tryz.prog f s := sig_ok (l := []) trivial
noncomputable def Λ_slices_Equal_int64 : Nat → Option LSpec := lkp (loopList (bodyOf Tryz.f106)) [⟨[0, 1, 12, 13], (.pair (.list (.int .i64)) (.pair (.list (.int .i64)) TCrc)), 0, [], .unit, [4], (.pair .bool .unit), loopL b_slices_Equal_int64_4⟩]
theorem lok_slices_Equal_int64_4 (x) : codeK Γ0 E0 σ_slices_Equal_int64 Λ_slices_Equal_int64 Tryz.f106.ntmps (nthLoop Tryz.f106 0) (mkF Tryz.f106.ntmps [0, 1, 12, 13] (.pair (.list (.int .i64)) (.pair (.list (.int .i64)) TCrc)) x) (readK σ_slices_Equal_int64 Tryz.f106.ntmps [0, 1, 12, 13] (.pair (.list (.int .i64)) (.pair (.list (.int .i64)) TCrc)) 0 [] .unit [4] (.pair .bool .unit)) = b_slices_Equal_int64_4 x := by kernel_rfl
theorem ok_slices_Equal_int64 : FnOK G0 Tryz.prog 106 S_slices_Equal_int64 := fn_ok (Λ := Λ_slices_Equal_int64) tab0 σok_slices_Equal_int64 Tryz.func106 (by kernel_rfl) (show Tryz.f106.body = some (bodyOf Tryz.f106) by kernel_rfl) [⟨[0, 1, 12, 13], (.pair (.list (.int .i64)) (.pair (.list (.int .i64)) TCrc)), 0, [], .unit, [4], (.pair .bool .unit), loopL b_slices_Equal_int64_4⟩] rfl (by kernel_rfl) (by exact ⟨loop_LOK (lok_slices_Equal_int64_4), trivial⟩) (by kernel_rfl)
  fun x y h => (show execFn Γ0 E0 σ_slices_Equal_int64 Λ_slices_Equal_int64 Tryz.f106 S_slices_Equal_int64 x = slices_Equal_int64 x by kernel_rfl).trans h

noncomputable def i_threeBytes (x : Ty.T (.pair (.int .i64) .unit)) : Option (Ty.T (.pair (.own 2 (.int .i64)) .unit)) :=
some ([(Int.fdiv x.1 (2 ^ min (16 : Int).toNat IntKind.i64.bits)), (bits BinOp.and .i64 (Int.fdiv x.1 (2 ^ min (8 : Int).toNat IntKind.i64.bits)) (255 : Int)), (bits BinOp.and .i64 x.1 (255 : Int))], ())
noncomputable def S_i_threeBytes : Spec := ⟨(.pair (.int .i64) .unit), (.pair (.own 2 (.int .i64)) .unit), .unit, rfl, i_threeBytes⟩
noncomputable def σ_i_threeBytes : FuncId → Option Spec := sig []
theorem σok_i_threeBytes : ∀ f s, σ_i_threeBytes f = some s → FnOK G0 Tryz.prog f s := sig_ok (l := []) trivial
noncomputable def Λ_i_threeBytes : Nat → Option LSpec := lkp (loopList (bodyOf Tryz.f107)) []
theorem ok_i_threeBytes : FnOK G0 Tryz.prog 107 S_i_threeBytes := fn_ok (Λ := Λ_i_threeBytes) tab0 σok_i_threeBytes Tryz.func107 (by kernel_rfl) (show Tryz.f107.body = some (bodyOf Tryz.f107) by kernel_rfl) [] rfl (by kernel_rfl) (by exact trivial) (by kernel_rfl)
  fun x y h => (show execFn Γ0 E0 σ_i_threeBytes Λ_i_threeBytes Tryz.f107 S_i_threeBytes x = i_threeBytes x by kernel_rfl).trans h

noncomputable def i_StandardCrc (x : Ty.T .unit) : Option (Ty.T (.pair TCrc .unit)) :=
some (((24 : Int), (6122955 : Int), ()), ())
noncomputable def S_i_StandardCrc : Spec := ⟨.unit, (.pair TCrc .unit), .unit, rfl, i_StandardCrc⟩
noncomputable def σ_i_StandardCrc : FuncId → Option Spec := sig []
theorem σok_i_StandardCrc : ∀ f s, σ_i_StandardCrc f = some s → FnOK G0 Tryz.prog f s := sig_ok (l := []) trivial
noncomputable def Λ_i_StandardCrc : Nat → Option LSpec := lkp (loopList (bodyOf Tryz.f153)) []
theorem ok_i_StandardCrc : FnOK G0 Tryz.prog 153 S_i_StandardCrc := fn_ok (Λ := Λ_i_StandardCrc) tab0 σok_i_StandardCrc Tryz.func153 (by kernel_rfl) (show Tryz.f153.body = some (bodyOf Tryz.f153) by kernel_rfl) [] rfl (by kernel_rfl) (by exact trivial) (by kernel_rfl)
  fun x y h => (show execFn Γ0 E0 σ_i_StandardCrc Λ_i_StandardCrc Tryz.f153 S_i_StandardCrc x = i_StandardCrc x by kernel_rfl).trans h

noncomputable def b_i_Crc_feed_2 (x : (Ty.T (.pair (.int .i64) (.pair (.box TCrc) (.pair (.list (.int .i64)) TCrc))))) : Option ((Ty.T (.pair (.int .i64) (.pair (.box TCrc) (.pair (.list (.int .i64)) TCrc)))) ⊕ ((Ty.T (.pair (.int .i64) .unit)) ⊕ (Ty.T .unit))) :=
match (decide (x.2.2.2.2.1 < x.2.2.2.1)) with
| true =>
 onSome (idx x.2.2.1 x.2.2.2.2.1) fun v1 =>
 if (IntKind.i64.wrap (x.2.1.1 - (1 : Int))) < 0 then none else
 if x.2.1.1 < 0 then none else
 match ((bits BinOp.xor .i64 v1 (Int.fdiv x.1 (2 ^ min (IntKind.i64.wrap (x.2.1.1 - (1 : Int))).toNat IntKind.i64.bits))) == (1 : Int)) with
 | true =>
  some (.inl ((bits BinOp.xor .i64 (bits BinOp.and .i64 (IntKind.i64.wrap (x.1 * 2 ^ min (1 : Int).toNat IntKind.i64.bits)) (IntKind.i64.wrap ((IntKind.i64.wrap ((1 : Int) * 2 ^ min x.2.1.1.toNat IntKind.i64.bits)) - (1 : Int)))) x.2.1.2.1), (x.2.1.1, x.2.1.2.1, ()), x.2.2.1, x.2.2.2.1, (IntKind.i64.wrap (x.2.2.2.2.1 + (1 : Int))), ()))
 | false =>
  some (.inl ((bits BinOp.and .i64 (IntKind.i64.wrap (x.1 * 2 ^ min (1 : Int).toNat IntKind.i64.bits)) (IntKind.i64.wrap ((IntKind.i64.wrap ((1 : Int) * 2 ^ min x.2.1.1.toNat IntKind.i64.bits)) - (1 : Int)))), (x.2.1.1, x.2.1.2.1, ()), x.2.2.1, x.2.2.2.1, (IntKind.i64.wrap (x.2.2.2.2.1 + (1 : Int))), ()))
| false =>
 some (.inr (.inl (x.1, ())))
noncomputable def i_Crc_feed (x : Ty.T (.pair TCrc (.pair (.int .i64) (.pair (.list (.int .i64)) .unit)))) : Option (Ty.T (.pair (.int .i64) .unit)) :=
match loopL b_i_Crc_feed_2 (x.2.1, (x.1.1, x.1.2.1, ()), x.2.2.1, (x.2.2.1.length : Int), (0 : Int), ()) with
| none => none
| some (.inl v2) =>
 some (v2.1, ())
| some (.inr v4) =>
 none
noncomputable def S_i_Crc_feed : Spec := ⟨(.pair TCrc (.pair (.int .i64) (.pair (.list (.int .i64)) .unit))), (.pair (.int .i64) .unit), .unit, rfl, i_Crc_feed⟩
noncomputable def σ_i_Crc_feed : FuncId → Option Spec := sig []
theorem σok_i_Crc_feed : ∀ f s, σ_i_Crc_feed f = some s → FnOK G0 Tryz.prog f s := sig_ok (l := []) trivial
noncomputable def Λ_i_Crc_feed : Nat → Option LSpec := lkp (loopList (bodyOf Tryz.f154)) [⟨[1, 3, 10, 11, 12], (.pair (.int .i64) (.pair (.box TCrc) (.pair (.list (.int .i64)) TCrc))), 0, [1], (.pair (.int .i64) .unit), [], .unit, loopL b_i_Crc_feed_2⟩]
theorem lok_i_Crc_feed_2 (x) : codeK Γ0 E0 σ_i_Crc_feed Λ_i_Crc_feed Tryz.f154.ntmps (nthLoop Tryz.f154 0) (mkF Tryz.f154.ntmps [1, 3, 10, 11, 12] (.pair (.int .i64) (.pair (.box TCrc) (.pair (.list (.int .i64)) TCrc))) x) (readK σ_i_Crc_feed Tryz.f154.ntmps [1, 3, 10, 11, 12] (.pair (.int .i64) (.pair (.box TCrc) (.pair (.list (.int .i64)) TCrc))) 0 [1] (.pair (.int .i64) .unit) [] .unit) = b_i_Crc_feed_2 x := by kernel_rfl
theorem ok_i_Crc_feed : FnOK G0 Tryz.prog 154 S_i_Crc_feed := fn_ok (Λ := Λ_i_Crc_feed) tab0 σok_i_Crc_feed Tryz.func154 (by kernel_rfl) (show Tryz.f154.body = some (bodyOf Tryz.f154) by kernel_rfl) [⟨[1, 3, 10, 11, 12], (.pair (.int .i64) (.pair (.box TCrc) (.pair (.list (.int .i64)) TCrc))), 0, [1], (.pair (.int .i64) .unit), [], .unit, loopL b_i_Crc_feed_2⟩] rfl (by kernel_rfl) (by exact ⟨loop_LOK (lok_i_Crc_feed_2), trivial⟩) (by kernel_rfl)
  fun x y h => (show execFn Γ0 E0 σ_i_Crc_feed Λ_i_Crc_feed Tryz.f154 S_i_Crc_feed x = i_Crc_feed x by kernel_rfl).trans h

noncomputable def b_i_appendNumber_2 (x : (Ty.T (.pair (.own 2 (.int .i64)) TCrc))) : Option ((Ty.T (.pair (.own 2 (.int .i64)) TCrc)) ⊕ ((Ty.T (.pair (.own 2 (.int .i64)) .unit)) ⊕ (Ty.T .unit))) :=
match (decide (x.2.2.1 ≥ (0 : Int))) with
| true =>
 if x.2.2.1 < 0 then none else
 room (x.1.length + [(bits BinOp.and .i64 (Int.fdiv x.2.1 (2 ^ min x.2.2.1.toNat IntKind.i64.bits)) (1 : Int))].length) (
  some (.inl ((x.1 ++ [(bits BinOp.and .i64 (Int.fdiv x.2.1 (2 ^ min x.2.2.1.toNat IntKind.i64.bits)) (1 : Int))]), x.2.1, (IntKind.i64.wrap (x.2.2.1 - (1 : Int))), ())))
| false =>
 some (.inr (.inl (x.1, ())))
noncomputable def i_appendNumber (x : Ty.T (.pair (.own 2 (.int .i64)) TCrc)) : Option (Ty.T (.pair (.own 2 (.int .i64)) .unit)) :=
match loopL b_i_appendNumber_2 (x.1, x.2.1, (IntKind.i64.wrap (x.2.2.1 - (1 : Int))), ()) with
| none => none
| some (.inl v1) =>
 some (v1.1, ())
| some (.inr v3) =>
 none
noncomputable def S_i_appendNumber : Spec := ⟨(.pair (.own 2 (.int .i64)) TCrc), (.pair (.own 2 (.int .i64)) .unit), .unit, rfl, i_appendNumber⟩
noncomputable def σ_i_appendNumber : FuncId → Option Spec := sig []
theorem σok_i_appendNumber : ∀ f s, σ_i_appendNumber f = some s → FnOK G0 Tryz.prog f s := sig_ok (l := []) trivial
noncomputable def Λ_i_appendNumber : Nat → Option LSpec := lkp (loopList (bodyOf Tryz.f193)) [⟨[0, 1, 7], (.pair (.own 2 (.int .i64)) TCrc), 0, [0], (.pair (.own 2 (.int .i64)) .unit), [], .unit, loopL b_i_appendNumber_2⟩]
theorem lok_i_appendNumber_2 (x) : codeK Γ0 E0 σ_i_appendNumber Λ_i_appendNumber Tryz.f193.ntmps (nthLoop Tryz.f193 0) (mkF Tryz.f193.ntmps [0, 1, 7] (.pair (.own 2 (.int .i64)) TCrc) x) (readK σ_i_appendNumber Tryz.f193.ntmps [0, 1, 7] (.pair (.own 2 (.int .i64)) TCrc) 0 [0] (.pair (.own 2 (.int .i64)) .unit) [] .unit) = b_i_appendNumber_2 x := by kernel_rfl
theorem ok_i_appendNumber : FnOK G0 Tryz.prog 193 S_i_appendNumber := fn_ok (Λ := Λ_i_appendNumber) tab0 σok_i_appendNumber Tryz.func193 (by kernel_rfl) (show Tryz.f193.body = some (bodyOf Tryz.f193) by kernel_rfl) [⟨[0, 1, 7], (.pair (.own 2 (.int .i64)) TCrc), 0, [0], (.pair (.own 2 (.int .i64)) .unit), [], .unit, loopL b_i_appendNumber_2⟩] rfl (by kernel_rfl) (by exact ⟨loop_LOK (lok_i_appendNumber_2), trivial⟩) (by kernel_rfl)
  fun x y h => (show execFn Γ0 E0 σ_i_appendNumber Λ_i_appendNumber Tryz.f193 S_i_appendNumber x = i_appendNumber x by kernel_rfl).trans h

noncomputable def i_stateBits (x : Ty.T (.pair TState .unit)) : Option (Ty.T (.pair (.own 2 (.int .i64)) .unit)) :=
match i_appendNumber ([], x.1.1, (16 : Int), ()) with
| none => none
| some v1 =>
match i_appendNumber (v1.1, x.1.2.1, (4 : Int), ()) with
| none => none
| some v2 =>
match i_appendNumber (v2.1, x.1.2.2.1, (4 : Int), ()) with
| none => none
| some v3 =>
match i_appendNumber (v3.1, x.1.2.2.2.1, (8 : Int), ()) with
| none => none
| some v4 =>
match i_appendNumber (v4.1, x.1.2.2.2.2.1, (32 : Int), ()) with
| none => none
| some v5 =>
some (v5.1, ())
noncomputable def S_i_stateBits : Spec := ⟨(.pair TState .unit), (.pair (.own 2 (.int .i64)) .unit), .unit, rfl, i_stateBits⟩
noncomputable def σ_i_stateBits : FuncId → Option Spec := sig [(193, S_i_appendNumber)]
theorem σok_i_stateBits : ∀ f s, σ_i_stateBits f = some s → FnOK G0 Tryz.prog f s := sig_ok (l := [(193, S_i_appendNumber)]) ⟨ok_i_appendNumber, trivial⟩
noncomputable def Λ_i_stateBits : Nat → Option LSpec := lkp (loopList (bodyOf Tryz.f155)) []
theorem ok_i_stateBits : FnOK G0 Tryz.prog 155 S_i_stateBits := fn_ok (Λ := Λ_i_stateBits) tab0 σok_i_stateBits Tryz.func155 (by kernel_rfl) (show Tryz.f155.body = some (bodyOf Tryz.f155) by kernel_rfl) [] rfl (by kernel_rfl) (by exact trivial) (by kernel_rfl)
  fun x y h => (show execFn Γ0 E0 σ_i_stateBits Λ_i_stateBits Tryz.f155 S_i_stateBits x = i_stateBits x by kernel_rfl).trans h

noncomputable def b_i_toBits_3 (x : (Ty.T (.pair (.own 2 (.int .i64)) (.pair (.list (.int .i64)) TCrc)))) : Option ((Ty.T (.pair (.own 2 (.int .i64)) (.pair (.list (.int .i64)) TCrc))) ⊕ ((Ty.T (.pair (.own 2 (.int .i64)) .unit)) ⊕ (Ty.T .unit))) :=
match (decide (x.2.2.2.1 < x.2.2.1)) with
| true =>
 onSome (idx x.2.1 x.2.2.2.1) fun v1 =>
 match i_appendNumber (x.1, v1, (8 : Int), ()) with
 | none => none
 | some v2 =>
 some (.inl (v2.1, x.2.1, x.2.2.1, (IntKind.i64.wrap (x.2.2.2.1 + (1 : Int))), ()))
| false =>
 some (.inr (.inl (x.1, ())))
noncomputable def i_toBits (x : Ty.T (.pair (.list (.int .i64)) .unit)) : Option (Ty.T (.pair (.own 2 (.int .i64)) .unit)) :=
match loopL b_i_toBits_3 ([], x.1, (x.1.length : Int), (0 : Int), ()) with
| none => none
| some (.inl v3) =>
 some (v3.1, ())
| some (.inr v5) =>
 none
noncomputable def S_i_toBits : Spec := ⟨(.pair (.list (.int .i64)) .unit), (.pair (.own 2 (.int .i64)) .unit), .unit, rfl, i_toBits⟩
noncomputable def σ_i_toBits : FuncId → Option Spec := sig [(193, S_i_appendNumber)]
theorem σok_i_toBits : ∀ f s, σ_i_toBits f = some s → FnOK G0 Tryz.prog f s := sig_ok (l := [(193, S_i_appendNumber)]) ⟨ok_i_appendNumber, trivial⟩
noncomputable def Λ_i_toBits : Nat → Option LSpec := lkp (loopList (bodyOf Tryz.f156)) [⟨[3, 7, 8, 9], (.pair (.own 2 (.int .i64)) (.pair (.list (.int .i64)) TCrc)), 0, [3], (.pair (.own 2 (.int .i64)) .unit), [], .unit, loopL b_i_toBits_3⟩]
theorem lok_i_toBits_3 (x) : codeK Γ0 E0 σ_i_toBits Λ_i_toBits Tryz.f156.ntmps (nthLoop Tryz.f156 0) (mkF Tryz.f156.ntmps [3, 7, 8, 9] (.pair (.own 2 (.int .i64)) (.pair (.list (.int .i64)) TCrc)) x) (readK σ_i_toBits Tryz.f156.ntmps [3, 7, 8, 9] (.pair (.own 2 (.int .i64)) (.pair (.list (.int .i64)) TCrc)) 0 [3] (.pair (.own 2 (.int .i64)) .unit) [] .unit) = b_i_toBits_3 x := by kernel_rfl
theorem ok_i_toBits : FnOK G0 Tryz.prog 156 S_i_toBits := fn_ok (Λ := Λ_i_toBits) tab0 σok_i_toBits Tryz.func156 (by kernel_rfl) (show Tryz.f156.body = some (bodyOf Tryz.f156) by kernel_rfl) [⟨[3, 7, 8, 9], (.pair (.own 2 (.int .i64)) (.pair (.list (.int .i64)) TCrc)), 0, [3], (.pair (.own 2 (.int .i64)) .unit), [], .unit, loopL b_i_toBits_3⟩] rfl (by kernel_rfl) (by exact ⟨loop_LOK (lok_i_toBits_3), trivial⟩) (by kernel_rfl)
  fun x y h => (show execFn Γ0 E0 σ_i_toBits Λ_i_toBits Tryz.f156 S_i_toBits x = i_toBits x by kernel_rfl).trans h

noncomputable def i_checkNumber (x : Ty.T (.pair (.int .i64) (.pair (.list (.int .i64)) (.pair (.int .i64) (.pair TState .unit))))) : Option (Ty.T (.pair (.int .i64) .unit)) :=
match (x.1 == (0 : Int)) with
| true =>
 match i_StandardCrc (()) with
 | none => none
 | some v1 =>
 match i_stateBits ((x.2.2.2.1.1, x.2.2.2.1.2.1, x.2.2.2.1.2.2.1, x.2.2.2.1.2.2.2.1, x.2.2.2.1.2.2.2.2.1, ()), ()) with
 | none => none
 | some v2 =>
 match i_Crc_feed (v1.1, x.2.2.1, v2.1, ()) with
 | none => none
 | some v3 =>
 match i_StandardCrc (()) with
 | none => none
 | some v4 =>
 match i_toBits (x.2.1, ()) with
 | none => none
 | some v5 =>
 match i_Crc_feed (v4.1, v3.1, v5.1, ()) with
 | none => none
 | some v6 =>
 some (v6.1, ())
| false =>
 match i_StandardCrc (()) with
 | none => none
 | some v7 =>
 match i_toBits (x.2.1, ()) with
 | none => none
 | some v8 =>
 match i_Crc_feed (v7.1, x.2.2.1, v8.1, ()) with
 | none => none
 | some v9 =>
 some (v9.1, ())
noncomputable def S_i_checkNumber : Spec := ⟨(.pair (.int .i64) (.pair (.list (.int .i64)) (.pair (.int .i64) (.pair TState .unit)))), (.pair (.int .i64) .unit), .unit, rfl, i_checkNumber⟩
noncomputable def σ_i_checkNumber : FuncId → Option Spec := sig [(153, S_i_StandardCrc), (154, S_i_Crc_feed), (155, S_i_stateBits), (156, S_i_toBits)]
theorem σok_i_checkNumber : ∀ f s, σ_i_checkNumber f = some s → FnOK G0 Tryz.prog f s := sig_ok (l := [(153, S_i_StandardCrc), (154, S_i_Crc_feed), (155, S_i_stateBits), (156, S_i_toBits)]) ⟨ok_i_StandardCrc, ok_i_Crc_feed, ok_i_stateBits, ok_i_toBits, trivial⟩
noncomputable def Λ_i_checkNumber : Nat → Option LSpec := lkp (loopList (bodyOf Tryz.f108)) []
theorem ok_i_checkNumber : FnOK G0 Tryz.prog 108 S_i_checkNumber := fn_ok (Λ := Λ_i_checkNumber) tab0 σok_i_checkNumber Tryz.func108 (by kernel_rfl) (show Tryz.f108.body = some (bodyOf Tryz.f108) by kernel_rfl) [] rfl (by kernel_rfl) (by exact trivial) (by kernel_rfl)
  fun x y h => (show execFn Γ0 E0 σ_i_checkNumber Λ_i_checkNumber Tryz.f108 S_i_checkNumber x = i_checkNumber x by kernel_rfl).trans h

noncomputable def b_i_numberOf_3 (x : (Ty.T (.pair (.int .i64) (.pair (.list (.int .i64)) TCrc)))) : Option ((Ty.T (.pair (.int .i64) (.pair (.list (.int .i64)) TCrc))) ⊕ ((Ty.T (.pair (.int .i64) .unit)) ⊕ (Ty.T .unit))) :=
match (decide (x.2.2.2.1 < x.2.2.1)) with
| true =>
 onSome (idx x.2.1 x.2.2.2.1) fun v1 =>
 some (.inl ((IntKind.i64.wrap ((IntKind.i64.wrap ((2 : Int) * x.1)) + v1)), x.2.1, x.2.2.1, (IntKind.i64.wrap (x.2.2.2.1 + (1 : Int))), ()))
| false =>
 some (.inr (.inl (x.1, ())))
noncomputable def i_numberOf (x : Ty.T (.pair (.list (.int .i64)) .unit)) : Option (Ty.T (.pair (.int .i64) .unit)) :=
match loopL b_i_numberOf_3 ((0 : Int), x.1, (x.1.length : Int), (0 : Int), ()) with
| none => none
| some (.inl v2) =>
 some (v2.1, ())
| some (.inr v4) =>
 none
noncomputable def S_i_numberOf : Spec := ⟨(.pair (.list (.int .i64)) .unit), (.pair (.int .i64) .unit), .unit, rfl, i_numberOf⟩
noncomputable def σ_i_numberOf : FuncId → Option Spec := sig []
theorem σok_i_numberOf : ∀ f s, σ_i_numberOf f = some s → FnOK G0 Tryz.prog f s := sig_ok (l := []) trivial
noncomputable def Λ_i_numberOf : Nat → Option LSpec := lkp (loopList (bodyOf Tryz.f194)) [⟨[3, 6, 7, 8], (.pair (.int .i64) (.pair (.list (.int .i64)) TCrc)), 0, [3], (.pair (.int .i64) .unit), [], .unit, loopL b_i_numberOf_3⟩]
theorem lok_i_numberOf_3 (x) : codeK Γ0 E0 σ_i_numberOf Λ_i_numberOf Tryz.f194.ntmps (nthLoop Tryz.f194 0) (mkF Tryz.f194.ntmps [3, 6, 7, 8] (.pair (.int .i64) (.pair (.list (.int .i64)) TCrc)) x) (readK σ_i_numberOf Tryz.f194.ntmps [3, 6, 7, 8] (.pair (.int .i64) (.pair (.list (.int .i64)) TCrc)) 0 [3] (.pair (.int .i64) .unit) [] .unit) = b_i_numberOf_3 x := by kernel_rfl
theorem ok_i_numberOf : FnOK G0 Tryz.prog 194 S_i_numberOf := fn_ok (Λ := Λ_i_numberOf) tab0 σok_i_numberOf Tryz.func194 (by kernel_rfl) (show Tryz.f194.body = some (bodyOf Tryz.f194) by kernel_rfl) [⟨[3, 6, 7, 8], (.pair (.int .i64) (.pair (.list (.int .i64)) TCrc)), 0, [3], (.pair (.int .i64) .unit), [], .unit, loopL b_i_numberOf_3⟩] rfl (by kernel_rfl) (by exact ⟨loop_LOK (lok_i_numberOf_3), trivial⟩) (by kernel_rfl)
  fun x y h => (show execFn Γ0 E0 σ_i_numberOf Λ_i_numberOf Tryz.f194 S_i_numberOf x = i_numberOf x by kernel_rfl).trans h

noncomputable def i_stateFrom (x : Ty.T (.pair (.list (.int .i64)) .unit)) : Option (Ty.T (.pair TState .unit)) :=
onSome (bounds x.1.length none (some (.dat (.int .i64) (16 : Int)))) fun v1 =>
onSome (bounds x.1.length (some (.dat (.int .i64) (16 : Int))) (some (.dat (.int .i64) (20 : Int)))) fun v2 =>
onSome (bounds x.1.length (some (.dat (.int .i64) (20 : Int))) (some (.dat (.int .i64) (24 : Int)))) fun v3 =>
onSome (bounds x.1.length (some (.dat (.int .i64) (24 : Int))) (some (.dat (.int .i64) (32 : Int)))) fun v4 =>
onSome (bounds x.1.length (some (.dat (.int .i64) (32 : Int))) (some (.dat (.int .i64) (64 : Int)))) fun v5 =>
match i_numberOf ((List.drop v1.1 (List.take v1.2 x.1)), ()) with
| none => none
| some v6 =>
match i_numberOf ((List.drop v2.1 (List.take v2.2 x.1)), ()) with
| none => none
| some v7 =>
match i_numberOf ((List.drop v3.1 (List.take v3.2 x.1)), ()) with
| none => none
| some v8 =>
match i_numberOf ((List.drop v4.1 (List.take v4.2 x.1)), ()) with
| none => none
| some v9 =>
match i_numberOf ((List.drop v5.1 (List.take v5.2 x.1)), ()) with
| none => none
| some v10 =>
some ((v6.1, v7.1, v8.1, v9.1, v10.1, ()), ())
noncomputable def S_i_stateFrom : Spec := ⟨(.pair (.list (.int .i64)) .unit), (.pair TState .unit), .unit, rfl, i_stateFrom⟩
noncomputable def σ_i_stateFrom : FuncId → Option Spec := sig [(194, S_i_numberOf)]
theorem σok_i_stateFrom : ∀ f s, σ_i_stateFrom f = some s → FnOK G0 Tryz.prog f s := sig_ok (l := [(194, S_i_numberOf)]) ⟨ok_i_numberOf, trivial⟩
noncomputable def Λ_i_stateFrom : Nat → Option LSpec := lkp (loopList (bodyOf Tryz.f157)) []
theorem ok_i_stateFrom : FnOK G0 Tryz.prog 157 S_i_stateFrom := fn_ok (Λ := Λ_i_stateFrom) tab0 σok_i_stateFrom Tryz.func157 (by kernel_rfl) (show Tryz.f157.body = some (bodyOf Tryz.f157) by kernel_rfl) [] rfl (by kernel_rfl) (by exact trivial) (by kernel_rfl)
  fun x y h => (show execFn Γ0 E0 σ_i_stateFrom Λ_i_stateFrom Tryz.f157 S_i_stateFrom x = i_stateFrom x by kernel_rfl).trans h

noncomputable def slices_Clone_int64 (x : Ty.T (.pair (.list (.int .i64)) .unit)) : Option (Ty.T (.pair (.own 2 (.int .i64)) .unit)) :=
nilK x.1 fun v1 =>
match v1 with
| true =>
 some ([], ())
| false =>
 room (([] : List (Ty.T (.int .i64))).length + x.1.length) (
  some ((([] : List (Ty.T (.int .i64))) ++ x.1), ()))
noncomputable def S_slices_Clone_int64 : Spec := ⟨(.pair (.list (.int .i64)) .unit), (.pair (.own 2 (.int .i64)) .unit), .unit, rfl, slices_Clone_int64⟩
noncomputable def σ_slices_Clone_int64 : FuncId → Option Spec := sig []
theorem σok_slices_Clone_int64 : ∀ f s, σ_slices_Clone_int64 f = some s → FnOK G0 Tryz.prog f s := sig_ok (l := []) trivial
noncomputable def Λ_slices_Clone_int64 : Nat → Option LSpec := lkp (loopList (bodyOf Tryz.f159)) []
theorem ok_slices_Clone_int64 : FnOK G0 Tryz.prog 159 S_slices_Clone_int64 := fn_ok (Λ := Λ_slices_Clone_int64) tab0 σok_slices_Clone_int64 Tryz.func159 (by kernel_rfl) (show Tryz.f159.body = some (bodyOf Tryz.f159) by kernel_rfl) [] rfl (by kernel_rfl) (by exact trivial) (by kernel_rfl)
  fun x y h => (show execFn Γ0 E0 σ_slices_Clone_int64 Λ_slices_Clone_int64 Tryz.f159 S_slices_Clone_int64 x = slices_Clone_int64 x by kernel_rfl).trans h

noncomputable def i_IsFrame (x : Ty.T (.pair TFrame .unit)) : Option (Ty.T (.pair .bool .unit)) :=
match i_isKind (x.1.1, ()) with
| none => none
| some v1 =>
match (!v1.1) with
| true =>
 some (false, ())
| false =>
 match i_within (x.1.2.1, (0 : Int), (7 : Int), ()) with
 | none => none
 | some v2 =>
 match (!v2.1) with
 | true =>
  some (false, ())
 | false =>
  match i_isDataSize (x.1.1, (x.1.2.2.2.1.length : Int), ()) with
  | none => none
  | some v3 =>
  match (!v3.1) with
  | true =>
   some (false, ())
  | false =>
   match i_IsBytes (x.1.2.2.2.1, ()) with
   | none => none
   | some v4 =>
   match (!v4.1) with
   | true =>
    some (false, ())
   | false =>
    match (x.1.1 == (0 : Int)) with
    | true =>
     some ((eqT TState (x.1.2.2.1.1, x.1.2.2.1.2.1, x.1.2.2.1.2.2.1, x.1.2.2.1.2.2.2.1, x.1.2.2.1.2.2.2.2.1, ()) ((0 : Int), (0 : Int), (0 : Int), (0 : Int), (0 : Int), ())), ())
    | false =>
     match (x.1.1 == (3 : Int)) with
     | true =>
      match i_IsState ((x.1.2.2.1.1, x.1.2.2.1.2.1, x.1.2.2.1.2.2.1, x.1.2.2.1.2.2.2.1, x.1.2.2.1.2.2.2.2.1, ()), ()) with
      | none => none
      | some v5 =>
      match v5.1 with
      | true =>
       match (x.1.2.2.1.2.1 == (0 : Int)) with
       | true =>
        match (x.1.2.2.1.2.2.2.2.1 != (0 : Int)) with
        | true =>
         match ((bits BinOp.and .i64 x.1.2.2.1.2.2.2.2.1 (IntKind.i64.wrap (x.1.2.2.1.2.2.2.2.1 - (1 : Int)))) == (0 : Int)) with
         | true =>
          some ((x.1.2.1 == (0 : Int)), ())
         | false =>
          some (false, ())
        | false =>
         some (false, ())
       | false =>
        some (false, ())
      | false =>
       some (false, ())
     | false =>
      match i_IsState ((x.1.2.2.1.1, x.1.2.2.1.2.1, x.1.2.2.1.2.2.1, x.1.2.2.1.2.2.2.1, x.1.2.2.1.2.2.2.2.1, ()), ()) with
      | none => none
      | some v6 =>
      some (v6.1, ())
noncomputable def S_i_IsFrame : Spec := ⟨(.pair TFrame .unit), (.pair .bool .unit), .unit, rfl, i_IsFrame⟩
noncomputable def σ_i_IsFrame : FuncId → Option Spec := sig [(98, S_i_IsState), (105, S_i_IsBytes), (140, S_i_within), (195, S_i_isKind), (196, S_i_isDataSize)]
theorem σok_i_IsFrame : ∀ f s, σ_i_IsFrame f = some s → FnOK G0 Tryz.prog f s := sig_ok (l := [(98, S_i_IsState), (105, S_i_IsBytes), (140, S_i_within), (195, S_i_isKind), (196, S_i_isDataSize)]) ⟨ok_i_IsState, ok_i_IsBytes, ok_i_within, ok_i_isKind, ok_i_isDataSize, trivial⟩
noncomputable def Λ_i_IsFrame : Nat → Option LSpec := lkp (loopList (bodyOf Tryz.f160)) []
theorem ok_i_IsFrame : FnOK G0 Tryz.prog 160 S_i_IsFrame := fn_ok (Λ := Λ_i_IsFrame) tab0 σok_i_IsFrame Tryz.func160 (by kernel_rfl) (show Tryz.f160.body = some (bodyOf Tryz.f160) by kernel_rfl) [] rfl (by kernel_rfl) (by exact trivial) (by kernel_rfl)
  fun x y h => (show execFn Γ0 E0 σ_i_IsFrame Λ_i_IsFrame Tryz.f160 S_i_IsFrame x = i_IsFrame x by kernel_rfl).trans h

noncomputable def i_toBytes (x : Ty.T (.pair (.list (.int .i64)) .unit)) : Option (Ty.T (.pair (.own 2 (.int .i64)) .unit)) := onSome (toBytesG i_numberOf x.1) fun s => some (s, ())
noncomputable def S_i_toBytes : Spec := ⟨(.pair (.list (.int .i64)) .unit), (.pair (.own 2 (.int .i64)) .unit), .unit, rfl, i_toBytes⟩
theorem ok_i_toBytes : FnOK G0 Tryz.prog 197 S_i_toBytes := toBytes_ok (entersF_of Tryz.func197 (by kernel_rfl) (show Tryz.f197.body = some (bodyOf Tryz.f197) by kernel_rfl)) ok_i_numberOf

noncomputable def i_bodyOf (x : Ty.T (.pair TFrame .unit)) : Option (Ty.T (.pair (.own 2 (.int .i64)) .unit)) :=
match i_hasState (x.1.1, ()) with
| none => none
| some v1 =>
match v1.1 with
| true =>
 match i_stateBits ((x.1.2.2.1.1, x.1.2.2.1.2.1, x.1.2.2.1.2.2.1, x.1.2.2.1.2.2.2.1, x.1.2.2.1.2.2.2.2.1, ()), ()) with
 | none => none
 | some v2 =>
 match i_toBytes (v2.1, ()) with
 | none => none
 | some v3 =>
 room ([(IntKind.i64.wrap ((IntKind.i64.wrap (x.1.1 * (64 : Int))) + (IntKind.i64.wrap (x.1.2.1 * (8 : Int)))))].length + v3.1.length) (
  match i_hasData (x.1.1, ()) with
  | none => none
  | some v4 =>
  match v4.1 with
  | true =>
   room (([(IntKind.i64.wrap ((IntKind.i64.wrap (x.1.1 * (64 : Int))) + (IntKind.i64.wrap (x.1.2.1 * (8 : Int)))))] ++ v3.1).length + [(x.1.2.2.2.1.length : Int)].length) (
    room ((([(IntKind.i64.wrap ((IntKind.i64.wrap (x.1.1 * (64 : Int))) + (IntKind.i64.wrap (x.1.2.1 * (8 : Int)))))] ++ v3.1) ++ [(x.1.2.2.2.1.length : Int)]).length + x.1.2.2.2.1.length) (
     some (((([(IntKind.i64.wrap ((IntKind.i64.wrap (x.1.1 * (64 : Int))) + (IntKind.i64.wrap (x.1.2.1 * (8 : Int)))))] ++ v3.1) ++ [(x.1.2.2.2.1.length : Int)]) ++ x.1.2.2.2.1), ())))
  | false =>
   some (([(IntKind.i64.wrap ((IntKind.i64.wrap (x.1.1 * (64 : Int))) + (IntKind.i64.wrap (x.1.2.1 * (8 : Int)))))] ++ v3.1), ()))
| false =>
 match i_hasData (x.1.1, ()) with
 | none => none
 | some v5 =>
 match v5.1 with
 | true =>
  room ([(IntKind.i64.wrap ((IntKind.i64.wrap (x.1.1 * (64 : Int))) + (IntKind.i64.wrap (x.1.2.1 * (8 : Int)))))].length + [(x.1.2.2.2.1.length : Int)].length) (
   room (([(IntKind.i64.wrap ((IntKind.i64.wrap (x.1.1 * (64 : Int))) + (IntKind.i64.wrap (x.1.2.1 * (8 : Int)))))] ++ [(x.1.2.2.2.1.length : Int)]).length + x.1.2.2.2.1.length) (
    some ((([(IntKind.i64.wrap ((IntKind.i64.wrap (x.1.1 * (64 : Int))) + (IntKind.i64.wrap (x.1.2.1 * (8 : Int)))))] ++ [(x.1.2.2.2.1.length : Int)]) ++ x.1.2.2.2.1), ())))
 | false =>
  some ([(IntKind.i64.wrap ((IntKind.i64.wrap (x.1.1 * (64 : Int))) + (IntKind.i64.wrap (x.1.2.1 * (8 : Int)))))], ())
noncomputable def S_i_bodyOf : Spec := ⟨(.pair TFrame .unit), (.pair (.own 2 (.int .i64)) .unit), .unit, rfl, i_bodyOf⟩
noncomputable def σ_i_bodyOf : FuncId → Option Spec := sig [(110, S_i_hasState), (155, S_i_stateBits), (158, S_i_hasData), (197, S_i_toBytes)]
theorem σok_i_bodyOf : ∀ f s, σ_i_bodyOf f = some s → FnOK G0 Tryz.prog f s := sig_ok (l := [(110, S_i_hasState), (155, S_i_stateBits), (158, S_i_hasData), (197, S_i_toBytes)]) ⟨ok_i_hasState, ok_i_stateBits, ok_i_hasData, ok_i_toBytes, trivial⟩
noncomputable def Λ_i_bodyOf : Nat → Option LSpec := lkp (loopList (bodyOf Tryz.f161)) []
theorem ok_i_bodyOf : FnOK G0 Tryz.prog 161 S_i_bodyOf := fn_ok (Λ := Λ_i_bodyOf) tab0 σok_i_bodyOf Tryz.func161 (by kernel_rfl) (show Tryz.f161.body = some (bodyOf Tryz.f161) by kernel_rfl) [] rfl (by kernel_rfl) (by exact trivial) (by kernel_rfl)
  fun x y h => (show execFn Γ0 E0 σ_i_bodyOf Λ_i_bodyOf Tryz.f161 S_i_bodyOf x = i_bodyOf x by kernel_rfl).trans h

noncomputable def i_frameFrom (x : Ty.T (.pair (.list (.int .i64)) .unit)) : Option (Ty.T (.pair (.pair (.int .i64) (.pair (.int .i64) (.pair TState (.pair (.own 2 (.int .i64)) .unit)))) (.pair .bool .unit))) :=
match ((x.1.length : Int) == (0 : Int)) with
| true =>
 some (((0 : Int), (0 : Int), ((0 : Int), (0 : Int), (0 : Int), (0 : Int), (0 : Int), ()), [], ()), false, ())
| false =>
 onSome (idx x.1 (0 : Int)) fun v1 =>
 onSome (idx x.1 (0 : Int)) fun v2 =>
 onSome (bounds x.1.length (some (.dat (.int .i64) (1 : Int))) none) fun v3 =>
 same (
  match i_hasState ((IntKind.i64.wrap (Int.tdiv v1 (64 : Int))), ()) with
  | none => none
  | some v4 =>
  match v4.1 with
  | true =>
   match (decide (((List.drop v3.1 (List.take v3.2 x.1)).length : Int) < (8 : Int))) with
   | true =>
    some (((0 : Int), (0 : Int), ((0 : Int), (0 : Int), (0 : Int), (0 : Int), (0 : Int), ()), [], ()), false, ())
   | false =>
    onSome (bounds (List.drop v3.1 (List.take v3.2 x.1)).length none (some (.dat (.int .i64) (8 : Int)))) fun v5 =>
    match i_toBits ((List.drop v5.1 (List.take v5.2 (List.drop v3.1 (List.take v3.2 x.1)))), ()) with
    | none => none
    | some v6 =>
    match i_stateFrom (v6.1, ()) with
    | none => none
    | some v7 =>
    onSome (bounds (List.drop v3.1 (List.take v3.2 x.1)).length (some (.dat (.int .i64) (8 : Int))) none) fun v8 =>
    match i_hasData ((IntKind.i64.wrap (Int.tdiv v1 (64 : Int))), ()) with
    | none => none
    | some v9 =>
    match v9.1 with
    | true =>
     match (decide (((List.drop v8.1 (List.take v8.2 (List.drop v3.1 (List.take v3.2 x.1)))).length : Int) > (0 : Int))) with
     | true =>
      onSome (bounds (List.drop v8.1 (List.take v8.2 (List.drop v3.1 (List.take v3.2 x.1)))).length (some (.dat (.int .i64) (1 : Int))) none) fun v10 =>
      match slices_Clone_int64 ((List.drop v10.1 (List.take v10.2 (List.drop v8.1 (List.take v8.2 (List.drop v3.1 (List.take v3.2 x.1)))))), ()) with
      | none => none
      | some v11 =>
      match i_IsFrame (((IntKind.i64.wrap (Int.tdiv v1 (64 : Int))), (Int.tmod (IntKind.i64.wrap (Int.tdiv v2 (8 : Int))) (8 : Int)), (v7.1.1, v7.1.2.1, v7.1.2.2.1, v7.1.2.2.2.1, v7.1.2.2.2.2.1, ()), v11.1, ()), ()) with
      | none => none
      | some v12 =>
      match (!v12.1) with
      | true =>
       some (((0 : Int), (0 : Int), ((0 : Int), (0 : Int), (0 : Int), (0 : Int), (0 : Int), ()), [], ()), false, ())
      | false =>
       match i_bodyOf (((IntKind.i64.wrap (Int.tdiv v1 (64 : Int))), (Int.tmod (IntKind.i64.wrap (Int.tdiv v2 (8 : Int))) (8 : Int)), (v7.1.1, v7.1.2.1, v7.1.2.2.1, v7.1.2.2.2.1, v7.1.2.2.2.2.1, ()), v11.1, ()), ()) with
       | none => none
       | some v13 =>
       match slices_Equal_int64 (v13.1, x.1, ()) with
       | none => none
       | some v14 =>
       match (!v14.1) with
       | true =>
        some (((0 : Int), (0 : Int), ((0 : Int), (0 : Int), (0 : Int), (0 : Int), (0 : Int), ()), [], ()), false, ())
       | false =>
        some (((IntKind.i64.wrap (Int.tdiv v1 (64 : Int))), (Int.tmod (IntKind.i64.wrap (Int.tdiv v2 (8 : Int))) (8 : Int)), (v7.1.1, v7.1.2.1, v7.1.2.2.1, v7.1.2.2.2.1, v7.1.2.2.2.2.1, ()), v11.1, ()), true, ())
     | false =>
      match i_IsFrame (((IntKind.i64.wrap (Int.tdiv v1 (64 : Int))), (Int.tmod (IntKind.i64.wrap (Int.tdiv v2 (8 : Int))) (8 : Int)), (v7.1.1, v7.1.2.1, v7.1.2.2.1, v7.1.2.2.2.1, v7.1.2.2.2.2.1, ()), [], ()), ()) with
      | none => none
      | some v15 =>
      match (!v15.1) with
      | true =>
       some (((0 : Int), (0 : Int), ((0 : Int), (0 : Int), (0 : Int), (0 : Int), (0 : Int), ()), [], ()), false, ())
      | false =>
       match i_bodyOf (((IntKind.i64.wrap (Int.tdiv v1 (64 : Int))), (Int.tmod (IntKind.i64.wrap (Int.tdiv v2 (8 : Int))) (8 : Int)), (v7.1.1, v7.1.2.1, v7.1.2.2.1, v7.1.2.2.2.1, v7.1.2.2.2.2.1, ()), [], ()), ()) with
       | none => none
       | some v16 =>
       match slices_Equal_int64 (v16.1, x.1, ()) with
       | none => none
       | some v17 =>
       match (!v17.1) with
       | true =>
        some (((0 : Int), (0 : Int), ((0 : Int), (0 : Int), (0 : Int), (0 : Int), (0 : Int), ()), [], ()), false, ())
       | false =>
        some (((IntKind.i64.wrap (Int.tdiv v1 (64 : Int))), (Int.tmod (IntKind.i64.wrap (Int.tdiv v2 (8 : Int))) (8 : Int)), (v7.1.1, v7.1.2.1, v7.1.2.2.1, v7.1.2.2.2.1, v7.1.2.2.2.2.1, ()), [], ()), true, ())
    | false =>
     match i_IsFrame (((IntKind.i64.wrap (Int.tdiv v1 (64 : Int))), (Int.tmod (IntKind.i64.wrap (Int.tdiv v2 (8 : Int))) (8 : Int)), (v7.1.1, v7.1.2.1, v7.1.2.2.1, v7.1.2.2.2.1, v7.1.2.2.2.2.1, ()), [], ()), ()) with
     | none => none
     | some v18 =>
     match (!v18.1) with
     | true =>
      some (((0 : Int), (0 : Int), ((0 : Int), (0 : Int), (0 : Int), (0 : Int), (0 : Int), ()), [], ()), false, ())
     | false =>
      match i_bodyOf (((IntKind.i64.wrap (Int.tdiv v1 (64 : Int))), (Int.tmod (IntKind.i64.wrap (Int.tdiv v2 (8 : Int))) (8 : Int)), (v7.1.1, v7.1.2.1, v7.1.2.2.1, v7.1.2.2.2.1, v7.1.2.2.2.2.1, ()), [], ()), ()) with
      | none => none
      | some v19 =>
      match slices_Equal_int64 (v19.1, x.1, ()) with
      | none => none
      | some v20 =>
      match (!v20.1) with
      | true =>
       some (((0 : Int), (0 : Int), ((0 : Int), (0 : Int), (0 : Int), (0 : Int), (0 : Int), ()), [], ()), false, ())
      | false =>
       some (((IntKind.i64.wrap (Int.tdiv v1 (64 : Int))), (Int.tmod (IntKind.i64.wrap (Int.tdiv v2 (8 : Int))) (8 : Int)), (v7.1.1, v7.1.2.1, v7.1.2.2.1, v7.1.2.2.2.1, v7.1.2.2.2.2.1, ()), [], ()), true, ())
  | false =>
   match i_hasData ((IntKind.i64.wrap (Int.tdiv v1 (64 : Int))), ()) with
   | none => none
   | some v21 =>
   match v21.1 with
   | true =>
    match (decide (((List.drop v3.1 (List.take v3.2 x.1)).length : Int) > (0 : Int))) with
    | true =>
     onSome (bounds (List.drop v3.1 (List.take v3.2 x.1)).length (some (.dat (.int .i64) (1 : Int))) none) fun v22 =>
     match slices_Clone_int64 ((List.drop v22.1 (List.take v22.2 (List.drop v3.1 (List.take v3.2 x.1)))), ()) with
     | none => none
     | some v23 =>
     match i_IsFrame (((IntKind.i64.wrap (Int.tdiv v1 (64 : Int))), (Int.tmod (IntKind.i64.wrap (Int.tdiv v2 (8 : Int))) (8 : Int)), ((0 : Int), (0 : Int), (0 : Int), (0 : Int), (0 : Int), ()), v23.1, ()), ()) with
     | none => none
     | some v24 =>
     match (!v24.1) with
     | true =>
      some (((0 : Int), (0 : Int), ((0 : Int), (0 : Int), (0 : Int), (0 : Int), (0 : Int), ()), [], ()), false, ())
     | false =>
      match i_bodyOf (((IntKind.i64.wrap (Int.tdiv v1 (64 : Int))), (Int.tmod (IntKind.i64.wrap (Int.tdiv v2 (8 : Int))) (8 : Int)), ((0 : Int), (0 : Int), (0 : Int), (0 : Int), (0 : Int), ()), v23.1, ()), ()) with
      | none => none
      | some v25 =>
      match slices_Equal_int64 (v25.1, x.1, ()) with
      | none => none
      | some v26 =>
      match (!v26.1) with
      | true =>
       some (((0 : Int), (0 : Int), ((0 : Int), (0 : Int), (0 : Int), (0 : Int), (0 : Int), ()), [], ()), false, ())
      | false =>
       some (((IntKind.i64.wrap (Int.tdiv v1 (64 : Int))), (Int.tmod (IntKind.i64.wrap (Int.tdiv v2 (8 : Int))) (8 : Int)), ((0 : Int), (0 : Int), (0 : Int), (0 : Int), (0 : Int), ()), v23.1, ()), true, ())
    | false =>
     match i_IsFrame (((IntKind.i64.wrap (Int.tdiv v1 (64 : Int))), (Int.tmod (IntKind.i64.wrap (Int.tdiv v2 (8 : Int))) (8 : Int)), ((0 : Int), (0 : Int), (0 : Int), (0 : Int), (0 : Int), ()), [], ()), ()) with
     | none => none
     | some v27 =>
     match (!v27.1) with
     | true =>
      some (((0 : Int), (0 : Int), ((0 : Int), (0 : Int), (0 : Int), (0 : Int), (0 : Int), ()), [], ()), false, ())
     | false =>
      match i_bodyOf (((IntKind.i64.wrap (Int.tdiv v1 (64 : Int))), (Int.tmod (IntKind.i64.wrap (Int.tdiv v2 (8 : Int))) (8 : Int)), ((0 : Int), (0 : Int), (0 : Int), (0 : Int), (0 : Int), ()), [], ()), ()) with
      | none => none
      | some v28 =>
      match slices_Equal_int64 (v28.1, x.1, ()) with
      | none => none
      | some v29 =>
      match (!v29.1) with
      | true =>
       some (((0 : Int), (0 : Int), ((0 : Int), (0 : Int), (0 : Int), (0 : Int), (0 : Int), ()), [], ()), false, ())
      | false =>
       some (((IntKind.i64.wrap (Int.tdiv v1 (64 : Int))), (Int.tmod (IntKind.i64.wrap (Int.tdiv v2 (8 : Int))) (8 : Int)), ((0 : Int), (0 : Int), (0 : Int), (0 : Int), (0 : Int), ()), [], ()), true, ())
   | false =>
    match i_IsFrame (((IntKind.i64.wrap (Int.tdiv v1 (64 : Int))), (Int.tmod (IntKind.i64.wrap (Int.tdiv v2 (8 : Int))) (8 : Int)), ((0 : Int), (0 : Int), (0 : Int), (0 : Int), (0 : Int), ()), [], ()), ()) with
    | none => none
    | some v30 =>
    match (!v30.1) with
    | true =>
     some (((0 : Int), (0 : Int), ((0 : Int), (0 : Int), (0 : Int), (0 : Int), (0 : Int), ()), [], ()), false, ())
    | false =>
     match i_bodyOf (((IntKind.i64.wrap (Int.tdiv v1 (64 : Int))), (Int.tmod (IntKind.i64.wrap (Int.tdiv v2 (8 : Int))) (8 : Int)), ((0 : Int), (0 : Int), (0 : Int), (0 : Int), (0 : Int), ()), [], ()), ()) with
     | none => none
     | some v31 =>
     match slices_Equal_int64 (v31.1, x.1, ()) with
     | none => none
     | some v32 =>
     match (!v32.1) with
     | true =>
      some (((0 : Int), (0 : Int), ((0 : Int), (0 : Int), (0 : Int), (0 : Int), (0 : Int), ()), [], ()), false, ())
     | false =>
      some (((IntKind.i64.wrap (Int.tdiv v1 (64 : Int))), (Int.tmod (IntKind.i64.wrap (Int.tdiv v2 (8 : Int))) (8 : Int)), ((0 : Int), (0 : Int), (0 : Int), (0 : Int), (0 : Int), ()), [], ()), true, ()))
noncomputable def S_i_frameFrom : Spec := ⟨(.pair (.list (.int .i64)) .unit), (.pair (.pair (.int .i64) (.pair (.int .i64) (.pair TState (.pair (.own 2 (.int .i64)) .unit)))) (.pair .bool .unit)), .unit, rfl, i_frameFrom⟩
noncomputable def σ_i_frameFrom : FuncId → Option Spec := sig [(106, S_slices_Equal_int64), (110, S_i_hasState), (156, S_i_toBits), (157, S_i_stateFrom), (158, S_i_hasData), (159, S_slices_Clone_int64), (160, S_i_IsFrame), (161, S_i_bodyOf)]
theorem σok_i_frameFrom : ∀ f s, σ_i_frameFrom f = some s → FnOK G0 Tryz.prog f s := sig_ok (l := [(106, S_slices_Equal_int64), (110, S_i_hasState), (156, S_i_toBits), (157, S_i_stateFrom), (158, S_i_hasData), (159, S_slices_Clone_int64), (160, S_i_IsFrame), (161, S_i_bodyOf)]) ⟨ok_slices_Equal_int64, ok_i_hasState, ok_i_toBits, ok_i_stateFrom, ok_i_hasData, ok_slices_Clone_int64, ok_i_IsFrame, ok_i_bodyOf, trivial⟩
noncomputable def Λ_i_frameFrom : Nat → Option LSpec := lkp (loopList (bodyOf Tryz.f109)) []
theorem ok_i_frameFrom : FnOK G0 Tryz.prog 109 S_i_frameFrom := fn_ok (Λ := Λ_i_frameFrom) tab0 σok_i_frameFrom Tryz.func109 (by kernel_rfl) (show Tryz.f109.body = some (bodyOf Tryz.f109) by kernel_rfl) [] rfl (by kernel_rfl) (by exact trivial) (by kernel_rfl)
  fun x y h => (show execFn Γ0 E0 σ_i_frameFrom Λ_i_frameFrom Tryz.f109 S_i_frameFrom x = i_frameFrom x by kernel_rfl).trans h

noncomputable def i_OpenFrame (x : Ty.T (.pair (.list (.int .i64)) (.pair (.int .i64) (.pair TState .unit)))) : Option (Ty.T (.pair (.pair (.int .i64) (.pair (.int .i64) (.pair TState (.pair (.own 2 (.int .i64)) .unit)))) (.pair (.int .i64) .unit))) :=
match i_IsState ((x.2.2.1.1, x.2.2.1.2.1, x.2.2.1.2.2.1, x.2.2.1.2.2.2.1, x.2.2.1.2.2.2.2.1, ()), ()) with
| none => none
| some v1 =>
match (!v1.1) with
| true =>
 some (((0 : Int), (0 : Int), ((0 : Int), (0 : Int), (0 : Int), (0 : Int), (0 : Int), ()), [], ()), (1 : Int), ())
| false =>
 match i_isId (x.2.1, ()) with
 | none => none
 | some v2 =>
 match (!v2.1) with
 | true =>
  some (((0 : Int), (0 : Int), ((0 : Int), (0 : Int), (0 : Int), (0 : Int), (0 : Int), ()), [], ()), (2 : Int), ())
 | false =>
  match i_IsBytes (x.1, ()) with
  | none => none
  | some v3 =>
  match (!v3.1) with
  | true =>
   some (((0 : Int), (0 : Int), ((0 : Int), (0 : Int), (0 : Int), (0 : Int), (0 : Int), ()), [], ()), (2 : Int), ())
  | false =>
   match (decide ((IntKind.i64.wrap ((x.1.length : Int) - (3 : Int))) < (1 : Int))) with
   | true =>
    some (((0 : Int), (0 : Int), ((0 : Int), (0 : Int), (0 : Int), (0 : Int), (0 : Int), ()), [], ()), (6 : Int), ())
   | false =>
    onSome (idx x.1 (0 : Int)) fun v4 =>
    onSome (bounds x.1.length none (some (.dat (.int .i64) (IntKind.i64.wrap ((x.1.length : Int) - (3 : Int)))))) fun v5 =>
    onSome (bounds x.1.length (some (.dat (.int .i64) (IntKind.i64.wrap ((x.1.length : Int) - (3 : Int))))) none) fun v6 =>
    match i_checkNumber ((IntKind.i64.wrap (Int.tdiv v4 (64 : Int))), (List.drop v5.1 (List.take v5.2 x.1)), x.2.1, (x.2.2.1.1, x.2.2.1.2.1, x.2.2.1.2.2.1, x.2.2.1.2.2.2.1, x.2.2.1.2.2.2.2.1, ()), ()) with
    | none => none
    | some v7 =>
    match i_threeBytes (v7.1, ()) with
    | none => none
    | some v8 =>
    match slices_Equal_int64 (v8.1, (List.drop v6.1 (List.take v6.2 x.1)), ()) with
    | none => none
    | some v9 =>
    match (!v9.1) with
    | true =>
     some (((0 : Int), (0 : Int), ((0 : Int), (0 : Int), (0 : Int), (0 : Int), (0 : Int), ()), [], ()), (7 : Int), ())
    | false =>
     onSome (bounds x.1.length none (some (.dat (.int .i64) (IntKind.i64.wrap ((x.1.length : Int) - (3 : Int)))))) fun v10 =>
     match i_frameFrom ((List.drop v10.1 (List.take v10.2 x.1)), ()) with
     | none => none
     | some v11 =>
     match (!v11.2.1) with
     | true =>
      some (((0 : Int), (0 : Int), ((0 : Int), (0 : Int), (0 : Int), (0 : Int), (0 : Int), ()), [], ()), (6 : Int), ())
     | false =>
      match i_hasState (v11.1.1, ()) with
      | none => none
      | some v12 =>
      match v12.1 with
      | true =>
       match (!(eqT TState (v11.1.2.2.1.1, v11.1.2.2.1.2.1, v11.1.2.2.1.2.2.1, v11.1.2.2.1.2.2.2.1, v11.1.2.2.1.2.2.2.2.1, ()) (x.2.2.1.1, x.2.2.1.2.1, x.2.2.1.2.2.1, x.2.2.1.2.2.2.1, x.2.2.1.2.2.2.2.1, ()))) with
       | true =>
        some (((0 : Int), (0 : Int), ((0 : Int), (0 : Int), (0 : Int), (0 : Int), (0 : Int), ()), [], ()), (5 : Int), ())
       | false =>
        some ((v11.1.1, v11.1.2.1, (v11.1.2.2.1.1, v11.1.2.2.1.2.1, v11.1.2.2.1.2.2.1, v11.1.2.2.1.2.2.2.1, v11.1.2.2.1.2.2.2.2.1, ()), v11.1.2.2.2.1, ()), (0 : Int), ())
      | false =>
       some ((v11.1.1, v11.1.2.1, (v11.1.2.2.1.1, v11.1.2.2.1.2.1, v11.1.2.2.1.2.2.1, v11.1.2.2.1.2.2.2.1, v11.1.2.2.1.2.2.2.2.1, ()), v11.1.2.2.2.1, ()), (0 : Int), ())
noncomputable def S_i_OpenFrame : Spec := ⟨(.pair (.list (.int .i64)) (.pair (.int .i64) (.pair TState .unit))), (.pair (.pair (.int .i64) (.pair (.int .i64) (.pair TState (.pair (.own 2 (.int .i64)) .unit)))) (.pair (.int .i64) .unit)), .unit, rfl, i_OpenFrame⟩
noncomputable def σ_i_OpenFrame : FuncId → Option Spec := sig [(98, S_i_IsState), (104, S_i_isId), (105, S_i_IsBytes), (106, S_slices_Equal_int64), (107, S_i_threeBytes), (108, S_i_checkNumber), (109, S_i_frameFrom), (110, S_i_hasState)]
theorem σok_i_OpenFrame : ∀ f s, σ_i_OpenFrame f = some s → FnOK G0 Tryz.prog f s := sig_ok (l := [(98, S_i_IsState), (104, S_i_isId), (105, S_i_IsBytes), (106, S_slices_Equal_int64), (107, S_i_threeBytes), (108, S_i_checkNumber), (109, S_i_frameFrom), (110, S_i_hasState)]) ⟨ok_i_IsState, ok_i_isId, ok_i_IsBytes, ok_slices_Equal_int64, ok_i_threeBytes, ok_i_checkNumber, ok_i_frameFrom, ok_i_hasState, trivial⟩
noncomputable def Λ_i_OpenFrame : Nat → Option LSpec := lkp (loopList (bodyOf Tryz.f77)) []
theorem ok_i_OpenFrame : FnOK G0 Tryz.prog 77 S_i_OpenFrame := fn_ok (Λ := Λ_i_OpenFrame) tab0 σok_i_OpenFrame Tryz.func77 (by kernel_rfl) (show Tryz.f77.body = some (bodyOf Tryz.f77) by kernel_rfl) [] rfl (by kernel_rfl) (by exact trivial) (by kernel_rfl)
  fun x y h => (show execFn Γ0 E0 σ_i_OpenFrame Λ_i_OpenFrame Tryz.f77 S_i_OpenFrame x = i_OpenFrame x by kernel_rfl).trans h

noncomputable def i_fits (x : Ty.T (.pair TDescriptor (.pair TFrame .unit))) : Option (Ty.T (.pair .bool .unit)) :=
match (x.2.1.1 == x.1.2.1) with
| true =>
 match ((x.2.1.2.2.2.1.length : Int) == x.1.2.2.1) with
 | true =>
  match (x.2.1.2.1 == (0 : Int)) with
  | true =>
   some (true, ())
  | false =>
   some (x.1.2.2.2.2.1, ())
 | false =>
  some (false, ())
| false =>
 some (false, ())
noncomputable def S_i_fits : Spec := ⟨(.pair TDescriptor (.pair TFrame .unit)), (.pair .bool .unit), .unit, rfl, i_fits⟩
noncomputable def σ_i_fits : FuncId → Option Spec := sig []
theorem σok_i_fits : ∀ f s, σ_i_fits f = some s → FnOK G0 Tryz.prog f s := sig_ok (l := []) trivial
noncomputable def Λ_i_fits : Nat → Option LSpec := lkp (loopList (bodyOf Tryz.f78)) []
theorem ok_i_fits : FnOK G0 Tryz.prog 78 S_i_fits := fn_ok (Λ := Λ_i_fits) tab0 σok_i_fits Tryz.func78 (by kernel_rfl) (show Tryz.f78.body = some (bodyOf Tryz.f78) by kernel_rfl) [] rfl (by kernel_rfl) (by exact trivial) (by kernel_rfl)
  fun x y h => (show execFn Γ0 E0 σ_i_fits Λ_i_fits Tryz.f78 S_i_fits x = i_fits x by kernel_rfl).trans h

noncomputable def i_descriptorFor (x : Ty.T (.pair TMedl (.pair TState .unit))) : Option (Ty.T (.pair TDescriptor .unit)) :=
match i_findSlot (x.1.2.2.2.1, x.2.1.2.1, x.2.1.2.2.1, x.2.1.2.2.2.1, ()) with
| none => none
| some v1 =>
onSome (idx x.1.2.2.2.1 v1.1) fun v2 =>
some ((v2.2.2.2.1.1, v2.2.2.2.1.2.1, v2.2.2.2.1.2.2.1, v2.2.2.2.1.2.2.2.1, v2.2.2.2.1.2.2.2.2.1, ()), ())
noncomputable def S_i_descriptorFor : Spec := ⟨(.pair TMedl (.pair TState .unit)), (.pair TDescriptor .unit), .unit, rfl, i_descriptorFor⟩
noncomputable def σ_i_descriptorFor : FuncId → Option Spec := sig [(111, S_i_findSlot)]
theorem σok_i_descriptorFor : ∀ f s, σ_i_descriptorFor f = some s → FnOK G0 Tryz.prog f s := sig_ok (l := [(111, S_i_findSlot)]) ⟨ok_i_findSlot, trivial⟩
noncomputable def Λ_i_descriptorFor : Nat → Option LSpec := lkp (loopList (bodyOf Tryz.f79)) []
theorem ok_i_descriptorFor : FnOK G0 Tryz.prog 79 S_i_descriptorFor := fn_ok (Λ := Λ_i_descriptorFor) tab0 σok_i_descriptorFor Tryz.func79 (by kernel_rfl) (show Tryz.f79.body = some (bodyOf Tryz.f79) by kernel_rfl) [] rfl (by kernel_rfl) (by exact trivial) (by kernel_rfl)
  fun x y h => (show execFn Γ0 E0 σ_i_descriptorFor Λ_i_descriptorFor Tryz.f79 S_i_descriptorFor x = i_descriptorFor x by kernel_rfl).trans h

noncomputable def i_judge (x : Ty.T (.pair TMedl (.pair TState (.pair (.list (.int .i64)) .unit)))) : Option (Ty.T (.pair (.pair (.int .i64) (.pair (.pair (.int .i64) (.pair (.int .i64) (.pair TState (.pair (.own 2 (.int .i64)) .unit)))) .unit)) (.pair (.int .i64) .unit))) :=
match i_OpenFrame (x.2.2.1, x.1.1, (x.2.1.1, x.2.1.2.1, x.2.1.2.2.1, x.2.1.2.2.2.1, x.2.1.2.2.2.2.1, ()), ()) with
| none => none
| some v1 =>
match (v1.2.1 == (0 : Int)) with
| true =>
 match i_descriptorFor ((x.1.1, x.1.2.1, x.1.2.2.1, x.1.2.2.2.1, ()), (x.2.1.1, x.2.1.2.1, x.2.1.2.2.1, x.2.1.2.2.2.1, x.2.1.2.2.2.2.1, ()), ()) with
 | none => none
 | some v2 =>
 match i_fits (v2.1, (v1.1.1, v1.1.2.1, (v1.1.2.2.1.1, v1.1.2.2.1.2.1, v1.1.2.2.1.2.2.1, v1.1.2.2.1.2.2.2.1, v1.1.2.2.1.2.2.2.2.1, ()), v1.1.2.2.2.1, ()), ()) with
 | none => none
 | some v3 =>
 match (!v3.1) with
 | true =>
  match ((5 : Int) != (0 : Int)) with
  | true =>
   some (((2 : Int), ((0 : Int), (0 : Int), ((0 : Int), (0 : Int), (0 : Int), (0 : Int), (0 : Int), ()), [], ()), ()), (5 : Int), ())
  | false =>
   some (((3 : Int), (v1.1.1, v1.1.2.1, (v1.1.2.2.1.1, v1.1.2.2.1.2.1, v1.1.2.2.1.2.2.1, v1.1.2.2.1.2.2.2.1, v1.1.2.2.1.2.2.2.2.1, ()), v1.1.2.2.2.1, ()), ()), (0 : Int), ())
 | false =>
  match (v1.2.1 != (0 : Int)) with
  | true =>
   some (((2 : Int), ((0 : Int), (0 : Int), ((0 : Int), (0 : Int), (0 : Int), (0 : Int), (0 : Int), ()), [], ()), ()), v1.2.1, ())
  | false =>
   some (((3 : Int), (v1.1.1, v1.1.2.1, (v1.1.2.2.1.1, v1.1.2.2.1.2.1, v1.1.2.2.1.2.2.1, v1.1.2.2.1.2.2.2.1, v1.1.2.2.1.2.2.2.2.1, ()), v1.1.2.2.2.1, ()), ()), (0 : Int), ())
| false =>
 match (v1.2.1 != (0 : Int)) with
 | true =>
  some (((2 : Int), ((0 : Int), (0 : Int), ((0 : Int), (0 : Int), (0 : Int), (0 : Int), (0 : Int), ()), [], ()), ()), v1.2.1, ())
 | false =>
  some (((3 : Int), (v1.1.1, v1.1.2.1, (v1.1.2.2.1.1, v1.1.2.2.1.2.1, v1.1.2.2.1.2.2.1, v1.1.2.2.1.2.2.2.1, v1.1.2.2.1.2.2.2.2.1, ()), v1.1.2.2.2.1, ()), ()), (0 : Int), ())
noncomputable def S_i_judge : Spec := ⟨(.pair TMedl (.pair TState (.pair (.list (.int .i64)) .unit))), (.pair (.pair (.int .i64) (.pair (.pair (.int .i64) (.pair (.int .i64) (.pair TState (.pair (.own 2 (.int .i64)) .unit)))) .unit)) (.pair (.int .i64) .unit)), .unit, rfl, i_judge⟩
noncomputable def σ_i_judge : FuncId → Option Spec := sig [(77, S_i_OpenFrame), (78, S_i_fits), (79, S_i_descriptorFor)]
theorem σok_i_judge : ∀ f s, σ_i_judge f = some s → FnOK G0 Tryz.prog f s := sig_ok (l := [(77, S_i_OpenFrame), (78, S_i_fits), (79, S_i_descriptorFor)]) ⟨ok_i_OpenFrame, ok_i_fits, ok_i_descriptorFor, trivial⟩
noncomputable def Λ_i_judge : Nat → Option LSpec := lkp (loopList (bodyOf Tryz.f54)) []
theorem ok_i_judge : FnOK G0 Tryz.prog 54 S_i_judge := fn_ok (Λ := Λ_i_judge) tab0 σok_i_judge Tryz.func54 (by kernel_rfl) (show Tryz.f54.body = some (bodyOf Tryz.f54) by kernel_rfl) [] rfl (by kernel_rfl) (by exact trivial) (by kernel_rfl)
  fun x y h => (show execFn Γ0 E0 σ_i_judge Λ_i_judge Tryz.f54 S_i_judge x = i_judge x by kernel_rfl).trans h

noncomputable def i_receive (x : Ty.T (.pair TMedl (.pair TState (.pair (.list (.int .i64)) .unit)))) : Option (Ty.T (.pair (.pair (.int .i64) (.pair (.pair (.int .i64) (.pair (.int .i64) (.pair TState (.pair (.own 2 (.int .i64)) .unit)))) .unit)) (.pair (.int .i64) .unit))) :=
match i_DecodeSamples (x.2.2.1, ()) with
| none => none
| some v1 =>
match (v1.2.1 == (0 : Int)) with
| true =>
 match i_judge ((x.1.1, x.1.2.1, x.1.2.2.1, x.1.2.2.2.1, ()), (x.2.1.1, x.2.1.2.1, x.2.1.2.2.1, x.2.1.2.2.2.1, x.2.1.2.2.2.2.1, ()), v1.1, ()) with
 | none => none
 | some v2 =>
 some ((v2.1.1, (v2.1.2.1.1, v2.1.2.1.2.1, (v2.1.2.1.2.2.1.1, v2.1.2.1.2.2.1.2.1, v2.1.2.1.2.2.1.2.2.1, v2.1.2.1.2.2.1.2.2.2.1, v2.1.2.1.2.2.1.2.2.2.2.1, ()), v2.1.2.1.2.2.2.1, ()), ()), v2.2.1, ())
| false =>
 match (v1.2.1 == (4 : Int)) with
 | true =>
  some (((0 : Int), ((0 : Int), (0 : Int), ((0 : Int), (0 : Int), (0 : Int), (0 : Int), (0 : Int), ()), [], ()), ()), v1.2.1, ())
 | false =>
  some (((1 : Int), ((0 : Int), (0 : Int), ((0 : Int), (0 : Int), (0 : Int), (0 : Int), (0 : Int), ()), [], ()), ()), v1.2.1, ())
noncomputable def S_i_receive : Spec := ⟨(.pair TMedl (.pair TState (.pair (.list (.int .i64)) .unit))), (.pair (.pair (.int .i64) (.pair (.pair (.int .i64) (.pair (.int .i64) (.pair TState (.pair (.own 2 (.int .i64)) .unit)))) .unit)) (.pair (.int .i64) .unit)), .unit, rfl, i_receive⟩
noncomputable def σ_i_receive : FuncId → Option Spec := sig [(53, S_i_DecodeSamples), (54, S_i_judge)]
theorem σok_i_receive : ∀ f s, σ_i_receive f = some s → FnOK G0 Tryz.prog f s := sig_ok (l := [(53, S_i_DecodeSamples), (54, S_i_judge)]) ⟨ok_i_DecodeSamples, ok_i_judge, trivial⟩
noncomputable def Λ_i_receive : Nat → Option LSpec := lkp (loopList (bodyOf Tryz.f30)) []
theorem ok_i_receive : FnOK G0 Tryz.prog 30 S_i_receive := fn_ok (Λ := Λ_i_receive) tab0 σok_i_receive Tryz.func30 (by kernel_rfl) (show Tryz.f30.body = some (bodyOf Tryz.f30) by kernel_rfl) [] rfl (by kernel_rfl) (by exact trivial) (by kernel_rfl)
  fun x y h => (show execFn Γ0 E0 σ_i_receive Λ_i_receive Tryz.f30 S_i_receive x = i_receive x by kernel_rfl).trans h

noncomputable def i_ReceiveChannel (x : Ty.T (.pair TMedl (.pair TState (.pair (.list (.int .i64)) .unit)))) : Option (Ty.T (.pair (.pair (.int .i64) (.pair (.pair (.int .i64) (.pair (.int .i64) (.pair TState (.pair (.own 2 (.int .i64)) .unit)))) .unit)) (.pair (.int .i64) .unit))) :=
match i_IsBits (x.2.2.1, ()) with
| none => none
| some v1 =>
match i_receiveCode ((x.1.1, x.1.2.1, x.1.2.2.1, x.1.2.2.2.1, ()), (x.2.1.1, x.2.1.2.1, x.2.1.2.2.1, x.2.1.2.2.2.1, x.2.1.2.2.2.2.1, ()), v1.1, ()) with
| none => none
| some v2 =>
match (v2.1 != (0 : Int)) with
| true =>
 some (((0 : Int), ((0 : Int), (0 : Int), ((0 : Int), (0 : Int), (0 : Int), (0 : Int), (0 : Int), ()), [], ()), ()), v2.1, ())
| false =>
 match i_receive ((x.1.1, x.1.2.1, x.1.2.2.1, x.1.2.2.2.1, ()), (x.2.1.1, x.2.1.2.1, x.2.1.2.2.1, x.2.1.2.2.2.1, x.2.1.2.2.2.2.1, ()), x.2.2.1, ()) with
 | none => none
 | some v3 =>
 some ((v3.1.1, (v3.1.2.1.1, v3.1.2.1.2.1, (v3.1.2.1.2.2.1.1, v3.1.2.1.2.2.1.2.1, v3.1.2.1.2.2.1.2.2.1, v3.1.2.1.2.2.1.2.2.2.1, v3.1.2.1.2.2.1.2.2.2.2.1, ()), v3.1.2.1.2.2.2.1, ()), ()), (0 : Int), ())
noncomputable def S_i_ReceiveChannel : Spec := ⟨(.pair TMedl (.pair TState (.pair (.list (.int .i64)) .unit))), (.pair (.pair (.int .i64) (.pair (.pair (.int .i64) (.pair (.int .i64) (.pair TState (.pair (.own 2 (.int .i64)) .unit)))) .unit)) (.pair (.int .i64) .unit)), .unit, rfl, i_ReceiveChannel⟩
noncomputable def σ_i_ReceiveChannel : FuncId → Option Spec := sig [(28, S_i_receiveCode), (29, S_i_IsBits), (30, S_i_receive)]
theorem σok_i_ReceiveChannel : ∀ f s, σ_i_ReceiveChannel f = some s → FnOK G0 Tryz.prog f s := sig_ok (l := [(28, S_i_receiveCode), (29, S_i_IsBits), (30, S_i_receive)]) ⟨ok_i_receiveCode, ok_i_IsBits, ok_i_receive, trivial⟩
noncomputable def Λ_i_ReceiveChannel : Nat → Option LSpec := lkp (loopList (bodyOf Tryz.f10)) []
theorem ok_i_ReceiveChannel : FnOK G0 Tryz.prog 10 S_i_ReceiveChannel := fn_ok (Λ := Λ_i_ReceiveChannel) tab0 σok_i_ReceiveChannel Tryz.func10 (by kernel_rfl) (show Tryz.f10.body = some (bodyOf Tryz.f10) by kernel_rfl) [] rfl (by kernel_rfl) (by exact trivial) (by kernel_rfl)
  fun x y h => (show execFn Γ0 E0 σ_i_ReceiveChannel Λ_i_ReceiveChannel Tryz.f10 S_i_ReceiveChannel x = i_ReceiveChannel x by kernel_rfl).trans h

noncomputable def b_l_eqInt64S_4 (x : (Ty.T (.pair (.list (.int .i64)) (.pair (.list (.int .i64)) (.pair (.int .i64) .unit))))) : Option ((Ty.T (.pair (.list (.int .i64)) (.pair (.list (.int .i64)) (.pair (.int .i64) .unit)))) ⊕ ((Ty.T .unit) ⊕ (Ty.T (.pair .bool .unit)))) :=
match (decide (x.2.2.1 < (x.1.length : Int))) with
| true =>
 onSome (idx x.1 x.2.2.1) fun v1 =>
 onSome (idx x.2.1 x.2.2.1) fun v2 =>
 match (v1 != v2) with
 | true =>
  some (.inr (.inr (false, ())))
 | false =>
  some (.inl (x.1, x.2.1, (IntKind.i64.wrap (x.2.2.1 + (1 : Int))), ()))
| false =>
 some (.inr (.inl (())))
noncomputable def l_eqInt64S (x : Ty.T (.pair (.list (.int .i64)) (.pair (.list (.int .i64)) .unit))) : Option (Ty.T (.pair .bool .unit)) :=
match ((x.1.length : Int) != (x.2.1.length : Int)) with
| true =>
 some (false, ())
| false =>
 match loopL b_l_eqInt64S_4 (x.1, x.2.1, (0 : Int), ()) with
 | none => none
 | some (.inl v3) =>
  some (true, ())
 | some (.inr v4) =>
  some (v4.1, ())
noncomputable def S_l_eqInt64S : Spec := ⟨(.pair (.list (.int .i64)) (.pair (.list (.int .i64)) .unit)), (.pair .bool .unit), .unit, rfl, l_eqInt64S⟩
noncomputable def σ_l_eqInt64S : FuncId → Option Spec := sig []
theorem σok_l_eqInt64S : ∀ f s, σ_l_eqInt64S f = some s → FnOK G0 Tryz.prog f s := sig_ok (l := []) trivial
noncomputable def Λ_l_eqInt64S : Nat → Option LSpec := lkp (loopList (bodyOf Tryz.f13)) [⟨[0, 1, 5], (.pair (.list (.int .i64)) (.pair (.list (.int .i64)) (.pair (.int .i64) .unit))), 0, [], .unit, [4], (.pair .bool .unit), loopL b_l_eqInt64S_4⟩]
theorem lok_l_eqInt64S_4 (x) : codeK Γ0 E0 σ_l_eqInt64S Λ_l_eqInt64S Tryz.f13.ntmps (nthLoop Tryz.f13 0) (mkF Tryz.f13.ntmps [0, 1, 5] (.pair (.list (.int .i64)) (.pair (.list (.int .i64)) (.pair (.int .i64) .unit))) x) (readK σ_l_eqInt64S Tryz.f13.ntmps [0, 1, 5] (.pair (.list (.int .i64)) (.pair (.list (.int .i64)) (.pair (.int .i64) .unit))) 0 [] .unit [4] (.pair .bool .unit)) = b_l_eqInt64S_4 x := by kernel_rfl
theorem ok_l_eqInt64S : FnOK G0 Tryz.prog 13 S_l_eqInt64S := fn_ok (Λ := Λ_l_eqInt64S) tab0 σok_l_eqInt64S Tryz.func13 (by kernel_rfl) (show Tryz.f13.body = some (bodyOf Tryz.f13) by kernel_rfl) [⟨[0, 1, 5], (.pair (.list (.int .i64)) (.pair (.list (.int .i64)) (.pair (.int .i64) .unit))), 0, [], .unit, [4], (.pair .bool .unit), loopL b_l_eqInt64S_4⟩] rfl (by kernel_rfl) (by exact ⟨loop_LOK (lok_l_eqInt64S_4), trivial⟩) (by kernel_rfl)
  fun x y h => (show execFn Γ0 E0 σ_l_eqInt64S Λ_l_eqInt64S Tryz.f13 S_l_eqInt64S x = l_eqInt64S x by kernel_rfl).trans h

noncomputable def l_eqState (x : Ty.T (.pair TState (.pair TState .unit))) : Option (Ty.T (.pair .bool .unit)) :=
match (x.1.1 != x.2.1.1) with
| true =>
 some (false, ())
| false =>
 match (x.1.2.1 != x.2.1.2.1) with
 | true =>
  some (false, ())
 | false =>
  match (x.1.2.2.1 != x.2.1.2.2.1) with
  | true =>
   some (false, ())
  | false =>
   match (x.1.2.2.2.1 != x.2.1.2.2.2.1) with
   | true =>
    some (false, ())
   | false =>
    match (x.1.2.2.2.2.1 != x.2.1.2.2.2.2.1) with
    | true =>
     some (false, ())
    | false =>
     some (true, ())
noncomputable def S_l_eqState : Spec := ⟨(.pair TState (.pair TState .unit)), (.pair .bool .unit), .unit, rfl, l_eqState⟩
noncomputable def σ_l_eqState : FuncId → Option Spec := sig []
theorem σok_l_eqState : ∀ f s, σ_l_eqState f = some s → FnOK G0 Tryz.prog f s := sig_ok (l := []) trivial
noncomputable def Λ_l_eqState : Nat → Option LSpec := lkp (loopList (bodyOf Tryz.f55)) []
theorem ok_l_eqState : FnOK G0 Tryz.prog 55 S_l_eqState := fn_ok (Λ := Λ_l_eqState) tab0 σok_l_eqState Tryz.func55 (by kernel_rfl) (show Tryz.f55.body = some (bodyOf Tryz.f55) by kernel_rfl) [] rfl (by kernel_rfl) (by exact trivial) (by kernel_rfl)
  fun x y h => (show execFn Γ0 E0 σ_l_eqState Λ_l_eqState Tryz.f55 S_l_eqState x = l_eqState x by kernel_rfl).trans h

noncomputable def l_eqFrame (x : Ty.T (.pair TFrame (.pair TFrame .unit))) : Option (Ty.T (.pair .bool .unit)) :=
match (x.1.1 != x.2.1.1) with
| true =>
 some (false, ())
| false =>
 match (x.1.2.1 != x.2.1.2.1) with
 | true =>
  some (false, ())
 | false =>
  match l_eqState ((x.1.2.2.1.1, x.1.2.2.1.2.1, x.1.2.2.1.2.2.1, x.1.2.2.1.2.2.2.1, x.1.2.2.1.2.2.2.2.1, ()), (x.2.1.2.2.1.1, x.2.1.2.2.1.2.1, x.2.1.2.2.1.2.2.1, x.2.1.2.2.1.2.2.2.1, x.2.1.2.2.1.2.2.2.2.1, ()), ()) with
  | none => none
  | some v1 =>
  match (!v1.1) with
  | true =>
   some (false, ())
  | false =>
   match l_eqInt64S (x.1.2.2.2.1, x.2.1.2.2.2.1, ()) with
   | none => none
   | some v2 =>
   match (!v2.1) with
   | true =>
    some (false, ())
   | false =>
    some (true, ())
noncomputable def S_l_eqFrame : Spec := ⟨(.pair TFrame (.pair TFrame .unit)), (.pair .bool .unit), .unit, rfl, l_eqFrame⟩
noncomputable def σ_l_eqFrame : FuncId → Option Spec := sig [(13, S_l_eqInt64S), (55, S_l_eqState)]
theorem σok_l_eqFrame : ∀ f s, σ_l_eqFrame f = some s → FnOK G0 Tryz.prog f s := sig_ok (l := [(13, S_l_eqInt64S), (55, S_l_eqState)]) ⟨ok_l_eqInt64S, ok_l_eqState, trivial⟩
noncomputable def Λ_l_eqFrame : Nat → Option LSpec := lkp (loopList (bodyOf Tryz.f31)) []
theorem ok_l_eqFrame : FnOK G0 Tryz.prog 31 S_l_eqFrame := fn_ok (Λ := Λ_l_eqFrame) tab0 σok_l_eqFrame Tryz.func31 (by kernel_rfl) (show Tryz.f31.body = some (bodyOf Tryz.f31) by kernel_rfl) [] rfl (by kernel_rfl) (by exact trivial) (by kernel_rfl)
  fun x y h => (show execFn Γ0 E0 σ_l_eqFrame Λ_l_eqFrame Tryz.f31 S_l_eqFrame x = l_eqFrame x by kernel_rfl).trans h

noncomputable def l_eqVerdict (x : Ty.T (.pair TVerdict (.pair TVerdict .unit))) : Option (Ty.T (.pair .bool .unit)) :=
match (x.1.1 != x.2.1.1) with
| true =>
 some (false, ())
| false =>
 match l_eqFrame ((x.1.2.1.1, x.1.2.1.2.1, (x.1.2.1.2.2.1.1, x.1.2.1.2.2.1.2.1, x.1.2.1.2.2.1.2.2.1, x.1.2.1.2.2.1.2.2.2.1, x.1.2.1.2.2.1.2.2.2.2.1, ()), x.1.2.1.2.2.2.1, ()), (x.2.1.2.1.1, x.2.1.2.1.2.1, (x.2.1.2.1.2.2.1.1, x.2.1.2.1.2.2.1.2.1, x.2.1.2.1.2.2.1.2.2.1, x.2.1.2.1.2.2.1.2.2.2.1, x.2.1.2.1.2.2.1.2.2.2.2.1, ()), x.2.1.2.1.2.2.2.1, ()), ()) with
 | none => none
 | some v1 =>
 match (!v1.1) with
 | true =>
  some (false, ())
 | false =>
  some (true, ())
noncomputable def S_l_eqVerdict : Spec := ⟨(.pair TVerdict (.pair TVerdict .unit)), (.pair .bool .unit), .unit, rfl, l_eqVerdict⟩
noncomputable def σ_l_eqVerdict : FuncId → Option Spec := sig [(31, S_l_eqFrame)]
theorem σok_l_eqVerdict : ∀ f s, σ_l_eqVerdict f = some s → FnOK G0 Tryz.prog f s := sig_ok (l := [(31, S_l_eqFrame)]) ⟨ok_l_eqFrame, trivial⟩
noncomputable def Λ_l_eqVerdict : Nat → Option LSpec := lkp (loopList (bodyOf Tryz.f11)) []
theorem ok_l_eqVerdict : FnOK G0 Tryz.prog 11 S_l_eqVerdict := fn_ok (Λ := Λ_l_eqVerdict) tab0 σok_l_eqVerdict Tryz.func11 (by kernel_rfl) (show Tryz.f11.body = some (bodyOf Tryz.f11) by kernel_rfl) [] rfl (by kernel_rfl) (by exact trivial) (by kernel_rfl)
  fun x y h => (show execFn Γ0 E0 σ_l_eqVerdict Λ_l_eqVerdict Tryz.f11 S_l_eqVerdict x = l_eqVerdict x by kernel_rfl).trans h

noncomputable def l_eqNodeInfo (x : Ty.T (.pair TNodeInfo (.pair TNodeInfo .unit))) : Option (Ty.T (.pair .bool .unit)) :=
match (x.1.1 != x.2.1.1) with
| true =>
 some (false, ())
| false =>
 match (!(x.1.2.1 == x.2.1.2.1)) with
 | true =>
  some (false, ())
 | false =>
  match (x.1.2.2.1 != x.2.1.2.2.1) with
  | true =>
   some (false, ())
  | false =>
   match (x.1.2.2.2.1 != x.2.1.2.2.2.1) with
   | true =>
    some (false, ())
   | false =>
    some (true, ())
noncomputable def S_l_eqNodeInfo : Spec := ⟨(.pair TNodeInfo (.pair TNodeInfo .unit)), (.pair .bool .unit), .unit, rfl, l_eqNodeInfo⟩
noncomputable def σ_l_eqNodeInfo : FuncId → Option Spec := sig []
theorem σok_l_eqNodeInfo : ∀ f s, σ_l_eqNodeInfo f = some s → FnOK G0 Tryz.prog f s := sig_ok (l := []) trivial
noncomputable def Λ_l_eqNodeInfo : Nat → Option LSpec := lkp (loopList (bodyOf Tryz.f56)) []
theorem ok_l_eqNodeInfo : FnOK G0 Tryz.prog 56 S_l_eqNodeInfo := fn_ok (Λ := Λ_l_eqNodeInfo) tab0 σok_l_eqNodeInfo Tryz.func56 (by kernel_rfl) (show Tryz.f56.body = some (bodyOf Tryz.f56) by kernel_rfl) [] rfl (by kernel_rfl) (by exact trivial) (by kernel_rfl)
  fun x y h => (show execFn Γ0 E0 σ_l_eqNodeInfo Λ_l_eqNodeInfo Tryz.f56 S_l_eqNodeInfo x = l_eqNodeInfo x by kernel_rfl).trans h

noncomputable def b_l_eqNodeInfoS_4 (x : (Ty.T (.pair (.list TNodeInfo) (.pair (.list TNodeInfo) (.pair (.int .i64) .unit))))) : Option ((Ty.T (.pair (.list TNodeInfo) (.pair (.list TNodeInfo) (.pair (.int .i64) .unit)))) ⊕ ((Ty.T .unit) ⊕ (Ty.T (.pair .bool .unit)))) :=
match (decide (x.2.2.1 < (x.1.length : Int))) with
| true =>
 onSome (idx x.1 x.2.2.1) fun v1 =>
 onSome (idx x.2.1 x.2.2.1) fun v2 =>
 match l_eqNodeInfo (v1, v2, ()) with
 | none => none
 | some v3 =>
 match (!v3.1) with
 | true =>
  some (.inr (.inr (false, ())))
 | false =>
  some (.inl (x.1, x.2.1, (IntKind.i64.wrap (x.2.2.1 + (1 : Int))), ()))
| false =>
 some (.inr (.inl (())))
noncomputable def l_eqNodeInfoS (x : Ty.T (.pair (.list TNodeInfo) (.pair (.list TNodeInfo) .unit))) : Option (Ty.T (.pair .bool .unit)) :=
match ((x.1.length : Int) != (x.2.1.length : Int)) with
| true =>
 some (false, ())
| false =>
 match loopL b_l_eqNodeInfoS_4 (x.1, x.2.1, (0 : Int), ()) with
 | none => none
 | some (.inl v4) =>
  some (true, ())
 | some (.inr v5) =>
  some (v5.1, ())
noncomputable def S_l_eqNodeInfoS : Spec := ⟨(.pair (.list TNodeInfo) (.pair (.list TNodeInfo) .unit)), (.pair .bool .unit), .unit, rfl, l_eqNodeInfoS⟩
noncomputable def σ_l_eqNodeInfoS : FuncId → Option Spec := sig [(56, S_l_eqNodeInfo)]
theorem σok_l_eqNodeInfoS : ∀ f s, σ_l_eqNodeInfoS f = some s → FnOK G0 Tryz.prog f s := sig_ok (l := [(56, S_l_eqNodeInfo)]) ⟨ok_l_eqNodeInfo, trivial⟩
noncomputable def Λ_l_eqNodeInfoS : Nat → Option LSpec := lkp (loopList (bodyOf Tryz.f32)) [⟨[0, 1, 5], (.pair (.list TNodeInfo) (.pair (.list TNodeInfo) (.pair (.int .i64) .unit))), 0, [], .unit, [4], (.pair .bool .unit), loopL b_l_eqNodeInfoS_4⟩]
theorem lok_l_eqNodeInfoS_4 (x) : codeK Γ0 E0 σ_l_eqNodeInfoS Λ_l_eqNodeInfoS Tryz.f32.ntmps (nthLoop Tryz.f32 0) (mkF Tryz.f32.ntmps [0, 1, 5] (.pair (.list TNodeInfo) (.pair (.list TNodeInfo) (.pair (.int .i64) .unit))) x) (readK σ_l_eqNodeInfoS Tryz.f32.ntmps [0, 1, 5] (.pair (.list TNodeInfo) (.pair (.list TNodeInfo) (.pair (.int .i64) .unit))) 0 [] .unit [4] (.pair .bool .unit)) = b_l_eqNodeInfoS_4 x := by kernel_rfl
theorem ok_l_eqNodeInfoS : FnOK G0 Tryz.prog 32 S_l_eqNodeInfoS := fn_ok (Λ := Λ_l_eqNodeInfoS) tab0 σok_l_eqNodeInfoS Tryz.func32 (by kernel_rfl) (show Tryz.f32.body = some (bodyOf Tryz.f32) by kernel_rfl) [⟨[0, 1, 5], (.pair (.list TNodeInfo) (.pair (.list TNodeInfo) (.pair (.int .i64) .unit))), 0, [], .unit, [4], (.pair .bool .unit), loopL b_l_eqNodeInfoS_4⟩] rfl (by kernel_rfl) (by exact ⟨loop_LOK (lok_l_eqNodeInfoS_4), trivial⟩) (by kernel_rfl)
  fun x y h => (show execFn Γ0 E0 σ_l_eqNodeInfoS Λ_l_eqNodeInfoS Tryz.f32 S_l_eqNodeInfoS x = l_eqNodeInfoS x by kernel_rfl).trans h

noncomputable def l_eqModeInfo (x : Ty.T (.pair TModeInfo (.pair TModeInfo .unit))) : Option (Ty.T (.pair .bool .unit)) :=
match (x.1.1 != x.2.1.1) with
| true =>
 some (false, ())
| false =>
 match (x.1.2.1 != x.2.1.2.1) with
 | true =>
  some (false, ())
 | false =>
  match l_eqInt64S (x.1.2.2.1, x.2.1.2.2.1, ()) with
  | none => none
  | some v1 =>
  match (!v1.1) with
  | true =>
   some (false, ())
  | false =>
   some (true, ())
noncomputable def S_l_eqModeInfo : Spec := ⟨(.pair TModeInfo (.pair TModeInfo .unit)), (.pair .bool .unit), .unit, rfl, l_eqModeInfo⟩
noncomputable def σ_l_eqModeInfo : FuncId → Option Spec := sig [(13, S_l_eqInt64S)]
theorem σok_l_eqModeInfo : ∀ f s, σ_l_eqModeInfo f = some s → FnOK G0 Tryz.prog f s := sig_ok (l := [(13, S_l_eqInt64S)]) ⟨ok_l_eqInt64S, trivial⟩
noncomputable def Λ_l_eqModeInfo : Nat → Option LSpec := lkp (loopList (bodyOf Tryz.f57)) []
theorem ok_l_eqModeInfo : FnOK G0 Tryz.prog 57 S_l_eqModeInfo := fn_ok (Λ := Λ_l_eqModeInfo) tab0 σok_l_eqModeInfo Tryz.func57 (by kernel_rfl) (show Tryz.f57.body = some (bodyOf Tryz.f57) by kernel_rfl) [] rfl (by kernel_rfl) (by exact trivial) (by kernel_rfl)
  fun x y h => (show execFn Γ0 E0 σ_l_eqModeInfo Λ_l_eqModeInfo Tryz.f57 S_l_eqModeInfo x = l_eqModeInfo x by kernel_rfl).trans h

noncomputable def b_l_eqModeInfoS_4 (x : (Ty.T (.pair (.list TModeInfo) (.pair (.list TModeInfo) (.pair (.int .i64) .unit))))) : Option ((Ty.T (.pair (.list TModeInfo) (.pair (.list TModeInfo) (.pair (.int .i64) .unit)))) ⊕ ((Ty.T .unit) ⊕ (Ty.T (.pair .bool .unit)))) :=
match (decide (x.2.2.1 < (x.1.length : Int))) with
| true =>
 onSome (idx x.1 x.2.2.1) fun v1 =>
 onSome (idx x.2.1 x.2.2.1) fun v2 =>
 match l_eqModeInfo (v1, v2, ()) with
 | none => none
 | some v3 =>
 match (!v3.1) with
 | true =>
  some (.inr (.inr (false, ())))
 | false =>
  some (.inl (x.1, x.2.1, (IntKind.i64.wrap (x.2.2.1 + (1 : Int))), ()))
| false =>
 some (.inr (.inl (())))
noncomputable def l_eqModeInfoS (x : Ty.T (.pair (.list TModeInfo) (.pair (.list TModeInfo) .unit))) : Option (Ty.T (.pair .bool .unit)) :=
match ((x.1.length : Int) != (x.2.1.length : Int)) with
| true =>
 some (false, ())
| false =>
 match loopL b_l_eqModeInfoS_4 (x.1, x.2.1, (0 : Int), ()) with
 | none => none
 | some (.inl v4) =>
  some (true, ())
 | some (.inr v5) =>
  some (v5.1, ())
noncomputable def S_l_eqModeInfoS : Spec := ⟨(.pair (.list TModeInfo) (.pair (.list TModeInfo) .unit)), (.pair .bool .unit), .unit, rfl, l_eqModeInfoS⟩
noncomputable def σ_l_eqModeInfoS : FuncId → Option Spec := sig [(57, S_l_eqModeInfo)]
theorem σok_l_eqModeInfoS : ∀ f s, σ_l_eqModeInfoS f = some s → FnOK G0 Tryz.prog f s := sig_ok (l := [(57, S_l_eqModeInfo)]) ⟨ok_l_eqModeInfo, trivial⟩
noncomputable def Λ_l_eqModeInfoS : Nat → Option LSpec := lkp (loopList (bodyOf Tryz.f33)) [⟨[0, 1, 5], (.pair (.list TModeInfo) (.pair (.list TModeInfo) (.pair (.int .i64) .unit))), 0, [], .unit, [4], (.pair .bool .unit), loopL b_l_eqModeInfoS_4⟩]
theorem lok_l_eqModeInfoS_4 (x) : codeK Γ0 E0 σ_l_eqModeInfoS Λ_l_eqModeInfoS Tryz.f33.ntmps (nthLoop Tryz.f33 0) (mkF Tryz.f33.ntmps [0, 1, 5] (.pair (.list TModeInfo) (.pair (.list TModeInfo) (.pair (.int .i64) .unit))) x) (readK σ_l_eqModeInfoS Tryz.f33.ntmps [0, 1, 5] (.pair (.list TModeInfo) (.pair (.list TModeInfo) (.pair (.int .i64) .unit))) 0 [] .unit [4] (.pair .bool .unit)) = b_l_eqModeInfoS_4 x := by kernel_rfl
theorem ok_l_eqModeInfoS : FnOK G0 Tryz.prog 33 S_l_eqModeInfoS := fn_ok (Λ := Λ_l_eqModeInfoS) tab0 σok_l_eqModeInfoS Tryz.func33 (by kernel_rfl) (show Tryz.f33.body = some (bodyOf Tryz.f33) by kernel_rfl) [⟨[0, 1, 5], (.pair (.list TModeInfo) (.pair (.list TModeInfo) (.pair (.int .i64) .unit))), 0, [], .unit, [4], (.pair .bool .unit), loopL b_l_eqModeInfoS_4⟩] rfl (by kernel_rfl) (by exact ⟨loop_LOK (lok_l_eqModeInfoS_4), trivial⟩) (by kernel_rfl)
  fun x y h => (show execFn Γ0 E0 σ_l_eqModeInfoS Λ_l_eqModeInfoS Tryz.f33 S_l_eqModeInfoS x = l_eqModeInfoS x by kernel_rfl).trans h

noncomputable def l_eqDescriptor (x : Ty.T (.pair TDescriptor (.pair TDescriptor .unit))) : Option (Ty.T (.pair .bool .unit)) :=
match (x.1.1 != x.2.1.1) with
| true =>
 some (false, ())
| false =>
 match (x.1.2.1 != x.2.1.2.1) with
 | true =>
  some (false, ())
 | false =>
  match (x.1.2.2.1 != x.2.1.2.2.1) with
  | true =>
   some (false, ())
  | false =>
   match (x.1.2.2.2.1 != x.2.1.2.2.2.1) with
   | true =>
    some (false, ())
   | false =>
    match (x.1.2.2.2.2.1 != x.2.1.2.2.2.2.1) with
    | true =>
     some (false, ())
    | false =>
     some (true, ())
noncomputable def S_l_eqDescriptor : Spec := ⟨(.pair TDescriptor (.pair TDescriptor .unit)), (.pair .bool .unit), .unit, rfl, l_eqDescriptor⟩
noncomputable def σ_l_eqDescriptor : FuncId → Option Spec := sig []
theorem σok_l_eqDescriptor : ∀ f s, σ_l_eqDescriptor f = some s → FnOK G0 Tryz.prog f s := sig_ok (l := []) trivial
noncomputable def Λ_l_eqDescriptor : Nat → Option LSpec := lkp (loopList (bodyOf Tryz.f80)) []
theorem ok_l_eqDescriptor : FnOK G0 Tryz.prog 80 S_l_eqDescriptor := fn_ok (Λ := Λ_l_eqDescriptor) tab0 σok_l_eqDescriptor Tryz.func80 (by kernel_rfl) (show Tryz.f80.body = some (bodyOf Tryz.f80) by kernel_rfl) [] rfl (by kernel_rfl) (by exact trivial) (by kernel_rfl)
  fun x y h => (show execFn Γ0 E0 σ_l_eqDescriptor Λ_l_eqDescriptor Tryz.f80 S_l_eqDescriptor x = l_eqDescriptor x by kernel_rfl).trans h

noncomputable def l_eqSlotInfo (x : Ty.T (.pair TSlotInfo (.pair TSlotInfo .unit))) : Option (Ty.T (.pair .bool .unit)) :=
match (x.1.1 != x.2.1.1) with
| true =>
 some (false, ())
| false =>
 match (x.1.2.1 != x.2.1.2.1) with
 | true =>
  some (false, ())
 | false =>
  match (x.1.2.2.1 != x.2.1.2.2.1) with
  | true =>
   some (false, ())
  | false =>
   match l_eqDescriptor ((x.1.2.2.2.1.1, x.1.2.2.2.1.2.1, x.1.2.2.2.1.2.2.1, x.1.2.2.2.1.2.2.2.1, x.1.2.2.2.1.2.2.2.2.1, ()), (x.2.1.2.2.2.1.1, x.2.1.2.2.2.1.2.1, x.2.1.2.2.2.1.2.2.1, x.2.1.2.2.2.1.2.2.2.1, x.2.1.2.2.2.1.2.2.2.2.1, ()), ()) with
   | none => none
   | some v1 =>
   match (!v1.1) with
   | true =>
    some (false, ())
   | false =>
    some (true, ())
noncomputable def S_l_eqSlotInfo : Spec := ⟨(.pair TSlotInfo (.pair TSlotInfo .unit)), (.pair .bool .unit), .unit, rfl, l_eqSlotInfo⟩
noncomputable def σ_l_eqSlotInfo : FuncId → Option Spec := sig [(80, S_l_eqDescriptor)]
theorem σok_l_eqSlotInfo : ∀ f s, σ_l_eqSlotInfo f = some s → FnOK G0 Tryz.prog f s := sig_ok (l := [(80, S_l_eqDescriptor)]) ⟨ok_l_eqDescriptor, trivial⟩
noncomputable def Λ_l_eqSlotInfo : Nat → Option LSpec := lkp (loopList (bodyOf Tryz.f58)) []
theorem ok_l_eqSlotInfo : FnOK G0 Tryz.prog 58 S_l_eqSlotInfo := fn_ok (Λ := Λ_l_eqSlotInfo) tab0 σok_l_eqSlotInfo Tryz.func58 (by kernel_rfl) (show Tryz.f58.body = some (bodyOf Tryz.f58) by kernel_rfl) [] rfl (by kernel_rfl) (by exact trivial) (by kernel_rfl)
  fun x y h => (show execFn Γ0 E0 σ_l_eqSlotInfo Λ_l_eqSlotInfo Tryz.f58 S_l_eqSlotInfo x = l_eqSlotInfo x by kernel_rfl).trans h

noncomputable def b_l_eqSlotInfoS_4 (x : (Ty.T (.pair (.list TSlotInfo) (.pair (.list TSlotInfo) (.pair (.int .i64) .unit))))) : Option ((Ty.T (.pair (.list TSlotInfo) (.pair (.list TSlotInfo) (.pair (.int .i64) .unit)))) ⊕ ((Ty.T .unit) ⊕ (Ty.T (.pair .bool .unit)))) :=
match (decide (x.2.2.1 < (x.1.length : Int))) with
| true =>
 onSome (idx x.1 x.2.2.1) fun v1 =>
 onSome (idx x.2.1 x.2.2.1) fun v2 =>
 match l_eqSlotInfo (v1, v2, ()) with
 | none => none
 | some v3 =>
 match (!v3.1) with
 | true =>
  some (.inr (.inr (false, ())))
 | false =>
  some (.inl (x.1, x.2.1, (IntKind.i64.wrap (x.2.2.1 + (1 : Int))), ()))
| false =>
 some (.inr (.inl (())))
noncomputable def l_eqSlotInfoS (x : Ty.T (.pair (.list TSlotInfo) (.pair (.list TSlotInfo) .unit))) : Option (Ty.T (.pair .bool .unit)) :=
match ((x.1.length : Int) != (x.2.1.length : Int)) with
| true =>
 some (false, ())
| false =>
 match loopL b_l_eqSlotInfoS_4 (x.1, x.2.1, (0 : Int), ()) with
 | none => none
 | some (.inl v4) =>
  some (true, ())
 | some (.inr v5) =>
  some (v5.1, ())
noncomputable def S_l_eqSlotInfoS : Spec := ⟨(.pair (.list TSlotInfo) (.pair (.list TSlotInfo) .unit)), (.pair .bool .unit), .unit, rfl, l_eqSlotInfoS⟩
noncomputable def σ_l_eqSlotInfoS : FuncId → Option Spec := sig [(58, S_l_eqSlotInfo)]
theorem σok_l_eqSlotInfoS : ∀ f s, σ_l_eqSlotInfoS f = some s → FnOK G0 Tryz.prog f s := sig_ok (l := [(58, S_l_eqSlotInfo)]) ⟨ok_l_eqSlotInfo, trivial⟩
noncomputable def Λ_l_eqSlotInfoS : Nat → Option LSpec := lkp (loopList (bodyOf Tryz.f34)) [⟨[0, 1, 5], (.pair (.list TSlotInfo) (.pair (.list TSlotInfo) (.pair (.int .i64) .unit))), 0, [], .unit, [4], (.pair .bool .unit), loopL b_l_eqSlotInfoS_4⟩]
theorem lok_l_eqSlotInfoS_4 (x) : codeK Γ0 E0 σ_l_eqSlotInfoS Λ_l_eqSlotInfoS Tryz.f34.ntmps (nthLoop Tryz.f34 0) (mkF Tryz.f34.ntmps [0, 1, 5] (.pair (.list TSlotInfo) (.pair (.list TSlotInfo) (.pair (.int .i64) .unit))) x) (readK σ_l_eqSlotInfoS Tryz.f34.ntmps [0, 1, 5] (.pair (.list TSlotInfo) (.pair (.list TSlotInfo) (.pair (.int .i64) .unit))) 0 [] .unit [4] (.pair .bool .unit)) = b_l_eqSlotInfoS_4 x := by kernel_rfl
theorem ok_l_eqSlotInfoS : FnOK G0 Tryz.prog 34 S_l_eqSlotInfoS := fn_ok (Λ := Λ_l_eqSlotInfoS) tab0 σok_l_eqSlotInfoS Tryz.func34 (by kernel_rfl) (show Tryz.f34.body = some (bodyOf Tryz.f34) by kernel_rfl) [⟨[0, 1, 5], (.pair (.list TSlotInfo) (.pair (.list TSlotInfo) (.pair (.int .i64) .unit))), 0, [], .unit, [4], (.pair .bool .unit), loopL b_l_eqSlotInfoS_4⟩] rfl (by kernel_rfl) (by exact ⟨loop_LOK (lok_l_eqSlotInfoS_4), trivial⟩) (by kernel_rfl)
  fun x y h => (show execFn Γ0 E0 σ_l_eqSlotInfoS Λ_l_eqSlotInfoS Tryz.f34 S_l_eqSlotInfoS x = l_eqSlotInfoS x by kernel_rfl).trans h

noncomputable def l_eqMedl (x : Ty.T (.pair TMedl (.pair TMedl .unit))) : Option (Ty.T (.pair .bool .unit)) :=
match (x.1.1 != x.2.1.1) with
| true =>
 some (false, ())
| false =>
 match l_eqNodeInfoS (x.1.2.1, x.2.1.2.1, ()) with
 | none => none
 | some v1 =>
 match (!v1.1) with
 | true =>
  some (false, ())
 | false =>
  match l_eqModeInfoS (x.1.2.2.1, x.2.1.2.2.1, ()) with
  | none => none
  | some v2 =>
  match (!v2.1) with
  | true =>
   some (false, ())
  | false =>
   match l_eqSlotInfoS (x.1.2.2.2.1, x.2.1.2.2.2.1, ()) with
   | none => none
   | some v3 =>
   match (!v3.1) with
   | true =>
    some (false, ())
   | false =>
    some (true, ())
noncomputable def S_l_eqMedl : Spec := ⟨(.pair TMedl (.pair TMedl .unit)), (.pair .bool .unit), .unit, rfl, l_eqMedl⟩
noncomputable def σ_l_eqMedl : FuncId → Option Spec := sig [(32, S_l_eqNodeInfoS), (33, S_l_eqModeInfoS), (34, S_l_eqSlotInfoS)]
theorem σok_l_eqMedl : ∀ f s, σ_l_eqMedl f = some s → FnOK G0 Tryz.prog f s := sig_ok (l := [(32, S_l_eqNodeInfoS), (33, S_l_eqModeInfoS), (34, S_l_eqSlotInfoS)]) ⟨ok_l_eqNodeInfoS, ok_l_eqModeInfoS, ok_l_eqSlotInfoS, trivial⟩
noncomputable def Λ_l_eqMedl : Nat → Option LSpec := lkp (loopList (bodyOf Tryz.f12)) []
theorem ok_l_eqMedl : FnOK G0 Tryz.prog 12 S_l_eqMedl := fn_ok (Λ := Λ_l_eqMedl) tab0 σok_l_eqMedl Tryz.func12 (by kernel_rfl) (show Tryz.f12.body = some (bodyOf Tryz.f12) by kernel_rfl) [] rfl (by kernel_rfl) (by exact trivial) (by kernel_rfl)
  fun x y h => (show execFn Γ0 E0 σ_l_eqMedl Λ_l_eqMedl Tryz.f12 S_l_eqMedl x = l_eqMedl x by kernel_rfl).trans h

noncomputable def b_l_markText_4 (x : (Ty.T (.pair (.int .i64) (.pair .str .unit)))) : Option ((Ty.T (.pair (.int .i64) (.pair .str .unit))) ⊕ ((Ty.T (.pair .str .unit)) ⊕ (Ty.T .unit))) :=
match (decide (x.1 > (0 : Int))) with
| true =>
 room ((List.map (fun n => UInt8.ofNat (Int.toNat n)) ([(IntKind.u8.wrap (IntKind.i64.wrap ((48 : Int) + (Int.tmod x.1 (10 : Int)))))] : List Int)).length + x.2.1.length) (
  some (.inl ((IntKind.i64.wrap (Int.tdiv x.1 (10 : Int))), ((List.map (fun n => UInt8.ofNat (Int.toNat n)) ([(IntKind.u8.wrap (IntKind.i64.wrap ((48 : Int) + (Int.tmod x.1 (10 : Int)))))] : List Int)) ++ x.2.1), ())))
| false =>
 some (.inr (.inl (x.2.1, ())))
noncomputable def l_markText (x : Ty.T (.pair (.int .i64) .unit)) : Option (Ty.T (.pair .str .unit)) :=
match (decide (x.1 ≤ (0 : Int))) with
| true =>
 some (([109, 48] : List UInt8), ())
| false =>
 match loopL b_l_markText_4 (x.1, [], ()) with
 | none => none
 | some (.inl v1) =>
  room (([109] : List UInt8).length + v1.1.length) (
   some ((([109] : List UInt8) ++ v1.1), ()))
 | some (.inr v3) =>
  none
noncomputable def S_l_markText : Spec := ⟨(.pair (.int .i64) .unit), (.pair .str .unit), .unit, rfl, l_markText⟩
noncomputable def σ_l_markText : FuncId → Option Spec := sig []
theorem σok_l_markText : ∀ f s, σ_l_markText f = some s → FnOK G0 Tryz.prog f s := sig_ok (l := []) trivial
noncomputable def Λ_l_markText : Nat → Option LSpec := lkp (loopList (bodyOf Tryz.f59)) [⟨[0, 3], (.pair (.int .i64) (.pair .str .unit)), 0, [3], (.pair .str .unit), [], .unit, loopL b_l_markText_4⟩]
theorem lok_l_markText_4 (x) : codeK Γ0 E0 σ_l_markText Λ_l_markText Tryz.f59.ntmps (nthLoop Tryz.f59 0) (mkF Tryz.f59.ntmps [0, 3] (.pair (.int .i64) (.pair .str .unit)) x) (readK σ_l_markText Tryz.f59.ntmps [0, 3] (.pair (.int .i64) (.pair .str .unit)) 0 [3] (.pair .str .unit) [] .unit) = b_l_markText_4 x := by kernel_rfl
theorem ok_l_markText : FnOK G0 Tryz.prog 59 S_l_markText := fn_ok (Λ := Λ_l_markText) tab0 σok_l_markText Tryz.func59 (by kernel_rfl) (show Tryz.f59.body = some (bodyOf Tryz.f59) by kernel_rfl) [⟨[0, 3], (.pair (.int .i64) (.pair .str .unit)), 0, [3], (.pair .str .unit), [], .unit, loopL b_l_markText_4⟩] rfl (by kernel_rfl) (by exact ⟨loop_LOK (lok_l_markText_4), trivial⟩) (by kernel_rfl)
  fun x y h => (show execFn Γ0 E0 σ_l_markText Λ_l_markText Tryz.f59 S_l_markText x = l_markText x by kernel_rfl).trans h

noncomputable def b_l_markNodeInfoS_2 (x : (Ty.T (.pair (.own 82 TNodeInfo) TCrc))) : Option ((Ty.T (.pair (.own 82 TNodeInfo) TCrc)) ⊕ ((Ty.T (.pair (.own 82 TNodeInfo) (.pair (.int .i64) .unit))) ⊕ (Ty.T .unit))) :=
match (decide (x.2.2.1 < (x.1.length : Int))) with
| true =>
 onSome (idx x.1 x.2.2.1) fun _ =>
 match x.1[x.2.2.1.toNat]? with
 | none => none
 | some v2 =>
 match l_markText ((IntKind.i64.wrap (x.2.1 + (1 : Int))), ()) with
 | none => none
 | some v3 =>
 onSome (idx (x.1.set x.2.2.1.toNat (x.2.1, v2.2.1, v2.2.2.1, v2.2.2.2.1, ())) x.2.2.1) fun _ =>
 match (x.1.set x.2.2.1.toNat (x.2.1, v2.2.1, v2.2.2.1, v2.2.2.2.1, ()))[x.2.2.1.toNat]? with
 | none => none
 | some v5 =>
 onSome (idx ((x.1.set x.2.2.1.toNat (x.2.1, v2.2.1, v2.2.2.1, v2.2.2.2.1, ())).set x.2.2.1.toNat (v5.1, v3.1, v5.2.2.1, v5.2.2.2.1, ())) x.2.2.1) fun _ =>
 match ((x.1.set x.2.2.1.toNat (x.2.1, v2.2.1, v2.2.2.1, v2.2.2.2.1, ())).set x.2.2.1.toNat (v5.1, v3.1, v5.2.2.1, v5.2.2.2.1, ()))[x.2.2.1.toNat]? with
 | none => none
 | some v7 =>
 onSome (idx (((x.1.set x.2.2.1.toNat (x.2.1, v2.2.1, v2.2.2.1, v2.2.2.2.1, ())).set x.2.2.1.toNat (v5.1, v3.1, v5.2.2.1, v5.2.2.2.1, ())).set x.2.2.1.toNat (v7.1, v7.2.1, (IntKind.i64.wrap ((IntKind.i64.wrap (x.2.1 + (1 : Int))) + (1 : Int))), v7.2.2.2.1, ())) x.2.2.1) fun _ =>
 match (((x.1.set x.2.2.1.toNat (x.2.1, v2.2.1, v2.2.2.1, v2.2.2.2.1, ())).set x.2.2.1.toNat (v5.1, v3.1, v5.2.2.1, v5.2.2.2.1, ())).set x.2.2.1.toNat (v7.1, v7.2.1, (IntKind.i64.wrap ((IntKind.i64.wrap (x.2.1 + (1 : Int))) + (1 : Int))), v7.2.2.2.1, ()))[x.2.2.1.toNat]? with
 | none => none
 | some v9 =>
 some (.inl (((((x.1.set x.2.2.1.toNat (x.2.1, v2.2.1, v2.2.2.1, v2.2.2.2.1, ())).set x.2.2.1.toNat (v5.1, v3.1, v5.2.2.1, v5.2.2.2.1, ())).set x.2.2.1.toNat (v7.1, v7.2.1, (IntKind.i64.wrap ((IntKind.i64.wrap (x.2.1 + (1 : Int))) + (1 : Int))), v7.2.2.2.1, ())).set x.2.2.1.toNat (v9.1, v9.2.1, v9.2.2.1, ((Int.tmod (IntKind.i64.wrap ((IntKind.i64.wrap ((IntKind.i64.wrap (x.2.1 + (1 : Int))) + (1 : Int))) + (1 : Int))) (3 : Int)) == (0 : Int)), ())), (IntKind.i64.wrap ((IntKind.i64.wrap ((IntKind.i64.wrap ((IntKind.i64.wrap (x.2.1 + (1 : Int))) + (1 : Int))) + (1 : Int))) + (1 : Int))), (IntKind.i64.wrap (x.2.2.1 + (1 : Int))), ()))
| false =>
 some (.inr (.inl (x.1, x.2.1, ())))
noncomputable def l_markNodeInfoS (x : Ty.T (.pair (.own 82 TNodeInfo) (.pair (.int .i64) .unit))) : Option (Ty.T (.pair (.int .i64) (.pair (.own 82 TNodeInfo) .unit))) :=
match loopL b_l_markNodeInfoS_2 (x.1, x.2.1, (0 : Int), ()) with
| none => none
| some (.inl v10) =>
 some (v10.2.1, v10.1, ())
| some (.inr v12) =>
 none
noncomputable def S_l_markNodeInfoS : Spec := ⟨(.pair (.own 82 TNodeInfo) (.pair (.int .i64) .unit)), (.pair (.int .i64) .unit), (.pair (.own 82 TNodeInfo) .unit), rfl, l_markNodeInfoS⟩
noncomputable def σ_l_markNodeInfoS : FuncId → Option Spec := sig [(59, S_l_markText)]
theorem σok_l_markNodeInfoS : ∀ f s, σ_l_markNodeInfoS f = some s → FnOK G0 Tryz.prog f s := sig_ok (l := [(59, S_l_markText)]) ⟨ok_l_markText, trivial⟩
noncomputable def Λ_l_markNodeInfoS : Nat → Option LSpec := lkp (loopList (bodyOf Tryz.f35)) [⟨[0, 1, 5], (.pair (.own 82 TNodeInfo) TCrc), 0, [0, 1], (.pair (.own 82 TNodeInfo) (.pair (.int .i64) .unit)), [], .unit, loopL b_l_markNodeInfoS_2⟩]
theorem lok_l_markNodeInfoS_2 (x) : codeK Γ0 E0 σ_l_markNodeInfoS Λ_l_markNodeInfoS Tryz.f35.ntmps (nthLoop Tryz.f35 0) (mkF Tryz.f35.ntmps [0, 1, 5] (.pair (.own 82 TNodeInfo) TCrc) x) (readK σ_l_markNodeInfoS Tryz.f35.ntmps [0, 1, 5] (.pair (.own 82 TNodeInfo) TCrc) 0 [0, 1] (.pair (.own 82 TNodeInfo) (.pair (.int .i64) .unit)) [] .unit) = b_l_markNodeInfoS_2 x := by kernel_rfl
theorem ok_l_markNodeInfoS : FnOK G0 Tryz.prog 35 S_l_markNodeInfoS := fn_ok (Λ := Λ_l_markNodeInfoS) tab0 σok_l_markNodeInfoS Tryz.func35 (by kernel_rfl) (show Tryz.f35.body = some (bodyOf Tryz.f35) by kernel_rfl) [⟨[0, 1, 5], (.pair (.own 82 TNodeInfo) TCrc), 0, [0, 1], (.pair (.own 82 TNodeInfo) (.pair (.int .i64) .unit)), [], .unit, loopL b_l_markNodeInfoS_2⟩] rfl (by kernel_rfl) (by exact ⟨loop_LOK (lok_l_markNodeInfoS_2), trivial⟩) (by kernel_rfl)
  fun x y h => (show execFn Γ0 E0 σ_l_markNodeInfoS Λ_l_markNodeInfoS Tryz.f35 S_l_markNodeInfoS x = l_markNodeInfoS x by kernel_rfl).trans h

noncomputable def b_l_markInt64S_2 (x : (Ty.T (.pair (.own 2 (.int .i64)) TCrc))) : Option ((Ty.T (.pair (.own 2 (.int .i64)) TCrc)) ⊕ ((Ty.T (.pair (.own 2 (.int .i64)) (.pair (.int .i64) .unit))) ⊕ (Ty.T .unit))) :=
match (decide (x.2.2.1 < (x.1.length : Int))) with
| true =>
 onSome (idx x.1 x.2.2.1) fun _ =>
 match x.1[x.2.2.1.toNat]? with
 | none => none
 | some v2 =>
 some (.inl ((x.1.set x.2.2.1.toNat x.2.1), (IntKind.i64.wrap (x.2.1 + (1 : Int))), (IntKind.i64.wrap (x.2.2.1 + (1 : Int))), ()))
| false =>
 some (.inr (.inl (x.1, x.2.1, ())))
noncomputable def l_markInt64S (x : Ty.T (.pair (.own 2 (.int .i64)) (.pair (.int .i64) .unit))) : Option (Ty.T (.pair (.int .i64) (.pair (.own 2 (.int .i64)) .unit))) :=
match loopL b_l_markInt64S_2 (x.1, x.2.1, (0 : Int), ()) with
| none => none
| some (.inl v3) =>
 some (v3.2.1, v3.1, ())
| some (.inr v5) =>
 none
noncomputable def S_l_markInt64S : Spec := ⟨(.pair (.own 2 (.int .i64)) (.pair (.int .i64) .unit)), (.pair (.int .i64) .unit), (.pair (.own 2 (.int .i64)) .unit), rfl, l_markInt64S⟩
noncomputable def σ_l_markInt64S : FuncId → Option Spec := sig []
theorem σok_l_markInt64S : ∀ f s, σ_l_markInt64S f = some s → FnOK G0 Tryz.prog f s := sig_ok (l := []) trivial
noncomputable def Λ_l_markInt64S : Nat → Option LSpec := lkp (loopList (bodyOf Tryz.f15)) [⟨[0, 1, 5], (.pair (.own 2 (.int .i64)) TCrc), 0, [0, 1], (.pair (.own 2 (.int .i64)) (.pair (.int .i64) .unit)), [], .unit, loopL b_l_markInt64S_2⟩]
theorem lok_l_markInt64S_2 (x) : codeK Γ0 E0 σ_l_markInt64S Λ_l_markInt64S Tryz.f15.ntmps (nthLoop Tryz.f15 0) (mkF Tryz.f15.ntmps [0, 1, 5] (.pair (.own 2 (.int .i64)) TCrc) x) (readK σ_l_markInt64S Tryz.f15.ntmps [0, 1, 5] (.pair (.own 2 (.int .i64)) TCrc) 0 [0, 1] (.pair (.own 2 (.int .i64)) (.pair (.int .i64) .unit)) [] .unit) = b_l_markInt64S_2 x := by kernel_rfl
theorem ok_l_markInt64S : FnOK G0 Tryz.prog 15 S_l_markInt64S := fn_ok (Λ := Λ_l_markInt64S) tab0 σok_l_markInt64S Tryz.func15 (by kernel_rfl) (show Tryz.f15.body = some (bodyOf Tryz.f15) by kernel_rfl) [⟨[0, 1, 5], (.pair (.own 2 (.int .i64)) TCrc), 0, [0, 1], (.pair (.own 2 (.int .i64)) (.pair (.int .i64) .unit)), [], .unit, loopL b_l_markInt64S_2⟩] rfl (by kernel_rfl) (by exact ⟨loop_LOK (lok_l_markInt64S_2), trivial⟩) (by kernel_rfl)
  fun x y h => (show execFn Γ0 E0 σ_l_markInt64S Λ_l_markInt64S Tryz.f15 S_l_markInt64S x = l_markInt64S x by kernel_rfl).trans h

noncomputable def b_l_markModeInfoS_2 (x : (Ty.T (.pair (.own 84 (.pair (.int .i64) (.pair (.int .i64) (.pair (.own 2 (.int .i64)) .unit)))) TCrc))) : Option ((Ty.T (.pair (.own 84 (.pair (.int .i64) (.pair (.int .i64) (.pair (.own 2 (.int .i64)) .unit)))) TCrc)) ⊕ ((Ty.T (.pair (.own 84 (.pair (.int .i64) (.pair (.int .i64) (.pair (.own 2 (.int .i64)) .unit)))) (.pair (.int .i64) .unit))) ⊕ (Ty.T .unit))) :=
match (decide (x.2.2.1 < (x.1.length : Int))) with
| true =>
 onSome (idx x.1 x.2.2.1) fun _ =>
 match x.1[x.2.2.1.toNat]? with
 | none => none
 | some v2 =>
 onSome (idx (x.1.set x.2.2.1.toNat (x.2.1, v2.2)) x.2.2.1) fun _ =>
 match (x.1.set x.2.2.1.toNat (x.2.1, v2.2))[x.2.2.1.toNat]? with
 | none => none
 | some v4 =>
 onSome (idx ((x.1.set x.2.2.1.toNat (x.2.1, v2.2)).set x.2.2.1.toNat (v4.1, ((IntKind.i64.wrap (x.2.1 + (1 : Int))), v4.2.2))) x.2.2.1) fun _ =>
 match ((x.1.set x.2.2.1.toNat (x.2.1, v2.2)).set x.2.2.1.toNat (v4.1, ((IntKind.i64.wrap (x.2.1 + (1 : Int))), v4.2.2)))[x.2.2.1.toNat]? with
 | none => none
 | some v6 =>
 match l_markInt64S (v6.2.2.1, (IntKind.i64.wrap ((IntKind.i64.wrap (x.2.1 + (1 : Int))) + (1 : Int))), ()) with
 | none => none
 | some v7 =>
 some (.inl ((((x.1.set x.2.2.1.toNat (x.2.1, v2.2)).set x.2.2.1.toNat (v4.1, ((IntKind.i64.wrap (x.2.1 + (1 : Int))), v4.2.2))).set x.2.2.1.toNat (v6.1, (v6.2.1, (v7.2.1, v6.2.2.2)))), v7.1, (IntKind.i64.wrap (x.2.2.1 + (1 : Int))), ()))
| false =>
 some (.inr (.inl (x.1, x.2.1, ())))
noncomputable def l_markModeInfoS (x : Ty.T (.pair (.own 84 (.pair (.int .i64) (.pair (.int .i64) (.pair (.own 2 (.int .i64)) .unit)))) (.pair (.int .i64) .unit))) : Option (Ty.T (.pair (.int .i64) (.pair (.own 84 (.pair (.int .i64) (.pair (.int .i64) (.pair (.own 2 (.int .i64)) .unit)))) .unit))) :=
match loopL b_l_markModeInfoS_2 (x.1, x.2.1, (0 : Int), ()) with
| none => none
| some (.inl v8) =>
 some (v8.2.1, v8.1, ())
| some (.inr v10) =>
 none
noncomputable def S_l_markModeInfoS : Spec := ⟨(.pair (.own 84 (.pair (.int .i64) (.pair (.int .i64) (.pair (.own 2 (.int .i64)) .unit)))) (.pair (.int .i64) .unit)), (.pair (.int .i64) .unit), (.pair (.own 84 (.pair (.int .i64) (.pair (.int .i64) (.pair (.own 2 (.int .i64)) .unit)))) .unit), rfl, l_markModeInfoS⟩
noncomputable def σ_l_markModeInfoS : FuncId → Option Spec := sig [(15, S_l_markInt64S)]
theorem σok_l_markModeInfoS : ∀ f s, σ_l_markModeInfoS f = some s → FnOK G0 Tryz.prog f s := sig_ok (l := [(15, S_l_markInt64S)]) ⟨ok_l_markInt64S, trivial⟩
noncomputable def Λ_l_markModeInfoS : Nat → Option LSpec := lkp (loopList (bodyOf Tryz.f36)) [⟨[0, 1, 5], (.pair (.own 84 (.pair (.int .i64) (.pair (.int .i64) (.pair (.own 2 (.int .i64)) .unit)))) TCrc), 0, [0, 1], (.pair (.own 84 (.pair (.int .i64) (.pair (.int .i64) (.pair (.own 2 (.int .i64)) .unit)))) (.pair (.int .i64) .unit)), [], .unit, loopL b_l_markModeInfoS_2⟩]
theorem lok_l_markModeInfoS_2 (x) : codeK Γ1 E1 σ_l_markModeInfoS Λ_l_markModeInfoS Tryz.f36.ntmps (nthLoop Tryz.f36 0) (mkF Tryz.f36.ntmps [0, 1, 5] (.pair (.own 84 (.pair (.int .i64) (.pair (.int .i64) (.pair (.own 2 (.int .i64)) .unit)))) TCrc) x) (readK σ_l_markModeInfoS Tryz.f36.ntmps [0, 1, 5] (.pair (.own 84 (.pair (.int .i64) (.pair (.int .i64) (.pair (.own 2 (.int .i64)) .unit)))) TCrc) 0 [0, 1] (.pair (.own 84 (.pair (.int .i64) (.pair (.int .i64) (.pair (.own 2 (.int .i64)) .unit)))) (.pair (.int .i64) .unit)) [] .unit) = b_l_markModeInfoS_2 x := by kernel_rfl
theorem ok_l_markModeInfoS : FnOK G0 Tryz.prog 36 S_l_markModeInfoS := fn_ok (Λ := Λ_l_markModeInfoS) tab1 σok_l_markModeInfoS Tryz.func36 (by kernel_rfl) (show Tryz.f36.body = some (bodyOf Tryz.f36) by kernel_rfl) [⟨[0, 1, 5], (.pair (.own 84 (.pair (.int .i64) (.pair (.int .i64) (.pair (.own 2 (.int .i64)) .unit)))) TCrc), 0, [0, 1], (.pair (.own 84 (.pair (.int .i64) (.pair (.int .i64) (.pair (.own 2 (.int .i64)) .unit)))) (.pair (.int .i64) .unit)), [], .unit, loopL b_l_markModeInfoS_2⟩] rfl (by kernel_rfl) (by exact ⟨loop_LOK (lok_l_markModeInfoS_2), trivial⟩) (by kernel_rfl)
  fun x y h => (show execFn Γ1 E1 σ_l_markModeInfoS Λ_l_markModeInfoS Tryz.f36 S_l_markModeInfoS x = l_markModeInfoS x by kernel_rfl).trans h

noncomputable def b_l_markSlotInfoS_2 (x : (Ty.T (.pair (.own 89 TSlotInfo) TCrc))) : Option ((Ty.T (.pair (.own 89 TSlotInfo) TCrc)) ⊕ ((Ty.T (.pair (.own 89 TSlotInfo) (.pair (.int .i64) .unit))) ⊕ (Ty.T .unit))) :=
match (decide (x.2.2.1 < (x.1.length : Int))) with
| true =>
 onSome (idx x.1 x.2.2.1) fun _ =>
 match x.1[x.2.2.1.toNat]? with
 | none => none
 | some v2 =>
 onSome (idx (x.1.set x.2.2.1.toNat (x.2.1, v2.2.1, v2.2.2.1, (v2.2.2.2.1.1, v2.2.2.2.1.2.1, v2.2.2.2.1.2.2.1, v2.2.2.2.1.2.2.2.1, v2.2.2.2.1.2.2.2.2.1, ()), ())) x.2.2.1) fun _ =>
 match (x.1.set x.2.2.1.toNat (x.2.1, v2.2.1, v2.2.2.1, (v2.2.2.2.1.1, v2.2.2.2.1.2.1, v2.2.2.2.1.2.2.1, v2.2.2.2.1.2.2.2.1, v2.2.2.2.1.2.2.2.2.1, ()), ()))[x.2.2.1.toNat]? with
 | none => none
 | some v4 =>
 onSome (idx ((x.1.set x.2.2.1.toNat (x.2.1, v2.2.1, v2.2.2.1, (v2.2.2.2.1.1, v2.2.2.2.1.2.1, v2.2.2.2.1.2.2.1, v2.2.2.2.1.2.2.2.1, v2.2.2.2.1.2.2.2.2.1, ()), ())).set x.2.2.1.toNat (v4.1, (IntKind.i64.wrap (x.2.1 + (1 : Int))), v4.2.2.1, (v4.2.2.2.1.1, v4.2.2.2.1.2.1, v4.2.2.2.1.2.2.1, v4.2.2.2.1.2.2.2.1, v4.2.2.2.1.2.2.2.2.1, ()), ())) x.2.2.1) fun _ =>
 match ((x.1.set x.2.2.1.toNat (x.2.1, v2.2.1, v2.2.2.1, (v2.2.2.2.1.1, v2.2.2.2.1.2.1, v2.2.2.2.1.2.2.1, v2.2.2.2.1.2.2.2.1, v2.2.2.2.1.2.2.2.2.1, ()), ())).set x.2.2.1.toNat (v4.1, (IntKind.i64.wrap (x.2.1 + (1 : Int))), v4.2.2.1, (v4.2.2.2.1.1, v4.2.2.2.1.2.1, v4.2.2.2.1.2.2.1, v4.2.2.2.1.2.2.2.1, v4.2.2.2.1.2.2.2.2.1, ()), ()))[x.2.2.1.toNat]? with
 | none => none
 | some v6 =>
 onSome (idx (((x.1.set x.2.2.1.toNat (x.2.1, v2.2.1, v2.2.2.1, (v2.2.2.2.1.1, v2.2.2.2.1.2.1, v2.2.2.2.1.2.2.1, v2.2.2.2.1.2.2.2.1, v2.2.2.2.1.2.2.2.2.1, ()), ())).set x.2.2.1.toNat (v4.1, (IntKind.i64.wrap (x.2.1 + (1 : Int))), v4.2.2.1, (v4.2.2.2.1.1, v4.2.2.2.1.2.1, v4.2.2.2.1.2.2.1, v4.2.2.2.1.2.2.2.1, v4.2.2.2.1.2.2.2.2.1, ()), ())).set x.2.2.1.toNat (v6.1, v6.2.1, (IntKind.i64.wrap ((IntKind.i64.wrap (x.2.1 + (1 : Int))) + (1 : Int))), (v6.2.2.2.1.1, v6.2.2.2.1.2.1, v6.2.2.2.1.2.2.1, v6.2.2.2.1.2.2.2.1, v6.2.2.2.1.2.2.2.2.1, ()), ())) x.2.2.1) fun _ =>
 match (((x.1.set x.2.2.1.toNat (x.2.1, v2.2.1, v2.2.2.1, (v2.2.2.2.1.1, v2.2.2.2.1.2.1, v2.2.2.2.1.2.2.1, v2.2.2.2.1.2.2.2.1, v2.2.2.2.1.2.2.2.2.1, ()), ())).set x.2.2.1.toNat (v4.1, (IntKind.i64.wrap (x.2.1 + (1 : Int))), v4.2.2.1, (v4.2.2.2.1.1, v4.2.2.2.1.2.1, v4.2.2.2.1.2.2.1, v4.2.2.2.1.2.2.2.1, v4.2.2.2.1.2.2.2.2.1, ()), ())).set x.2.2.1.toNat (v6.1, v6.2.1, (IntKind.i64.wrap ((IntKind.i64.wrap (x.2.1 + (1 : Int))) + (1 : Int))), (v6.2.2.2.1.1, v6.2.2.2.1.2.1, v6.2.2.2.1.2.2.1, v6.2.2.2.1.2.2.2.1, v6.2.2.2.1.2.2.2.2.1, ()), ()))[x.2.2.1.toNat]? with
 | none => none
 | some v8 =>
 onSome (idx ((((x.1.set x.2.2.1.toNat (x.2.1, v2.2.1, v2.2.2.1, (v2.2.2.2.1.1, v2.2.2.2.1.2.1, v2.2.2.2.1.2.2.1, v2.2.2.2.1.2.2.2.1, v2.2.2.2.1.2.2.2.2.1, ()), ())).set x.2.2.1.toNat (v4.1, (IntKind.i64.wrap (x.2.1 + (1 : Int))), v4.2.2.1, (v4.2.2.2.1.1, v4.2.2.2.1.2.1, v4.2.2.2.1.2.2.1, v4.2.2.2.1.2.2.2.1, v4.2.2.2.1.2.2.2.2.1, ()), ())).set x.2.2.1.toNat (v6.1, v6.2.1, (IntKind.i64.wrap ((IntKind.i64.wrap (x.2.1 + (1 : Int))) + (1 : Int))), (v6.2.2.2.1.1, v6.2.2.2.1.2.1, v6.2.2.2.1.2.2.1, v6.2.2.2.1.2.2.2.1, v6.2.2.2.1.2.2.2.2.1, ()), ())).set x.2.2.1.toNat (v8.1, v8.2.1, v8.2.2.1, ((IntKind.i64.wrap ((IntKind.i64.wrap ((IntKind.i64.wrap (x.2.1 + (1 : Int))) + (1 : Int))) + (1 : Int))), v8.2.2.2.1.2.1, v8.2.2.2.1.2.2.1, v8.2.2.2.1.2.2.2.1, v8.2.2.2.1.2.2.2.2.1, ()), ())) x.2.2.1) fun _ =>
 match ((((x.1.set x.2.2.1.toNat (x.2.1, v2.2.1, v2.2.2.1, (v2.2.2.2.1.1, v2.2.2.2.1.2.1, v2.2.2.2.1.2.2.1, v2.2.2.2.1.2.2.2.1, v2.2.2.2.1.2.2.2.2.1, ()), ())).set x.2.2.1.toNat (v4.1, (IntKind.i64.wrap (x.2.1 + (1 : Int))), v4.2.2.1, (v4.2.2.2.1.1, v4.2.2.2.1.2.1, v4.2.2.2.1.2.2.1, v4.2.2.2.1.2.2.2.1, v4.2.2.2.1.2.2.2.2.1, ()), ())).set x.2.2.1.toNat (v6.1, v6.2.1, (IntKind.i64.wrap ((IntKind.i64.wrap (x.2.1 + (1 : Int))) + (1 : Int))), (v6.2.2.2.1.1, v6.2.2.2.1.2.1, v6.2.2.2.1.2.2.1, v6.2.2.2.1.2.2.2.1, v6.2.2.2.1.2.2.2.2.1, ()), ())).set x.2.2.1.toNat (v8.1, v8.2.1, v8.2.2.1, ((IntKind.i64.wrap ((IntKind.i64.wrap ((IntKind.i64.wrap (x.2.1 + (1 : Int))) + (1 : Int))) + (1 : Int))), v8.2.2.2.1.2.1, v8.2.2.2.1.2.2.1, v8.2.2.2.1.2.2.2.1, v8.2.2.2.1.2.2.2.2.1, ()), ()))[x.2.2.1.toNat]? with
 | none => none
 | some v10 =>
 onSome (idx (((((x.1.set x.2.2.1.toNat (x.2.1, v2.2.1, v2.2.2.1, (v2.2.2.2.1.1, v2.2.2.2.1.2.1, v2.2.2.2.1.2.2.1, v2.2.2.2.1.2.2.2.1, v2.2.2.2.1.2.2.2.2.1, ()), ())).set x.2.2.1.toNat (v4.1, (IntKind.i64.wrap (x.2.1 + (1 : Int))), v4.2.2.1, (v4.2.2.2.1.1, v4.2.2.2.1.2.1, v4.2.2.2.1.2.2.1, v4.2.2.2.1.2.2.2.1, v4.2.2.2.1.2.2.2.2.1, ()), ())).set x.2.2.1.toNat (v6.1, v6.2.1, (IntKind.i64.wrap ((IntKind.i64.wrap (x.2.1 + (1 : Int))) + (1 : Int))), (v6.2.2.2.1.1, v6.2.2.2.1.2.1, v6.2.2.2.1.2.2.1, v6.2.2.2.1.2.2.2.1, v6.2.2.2.1.2.2.2.2.1, ()), ())).set x.2.2.1.toNat (v8.1, v8.2.1, v8.2.2.1, ((IntKind.i64.wrap ((IntKind.i64.wrap ((IntKind.i64.wrap (x.2.1 + (1 : Int))) + (1 : Int))) + (1 : Int))), v8.2.2.2.1.2.1, v8.2.2.2.1.2.2.1, v8.2.2.2.1.2.2.2.1, v8.2.2.2.1.2.2.2.2.1, ()), ())).set x.2.2.1.toNat (v10.1, v10.2.1, v10.2.2.1, (v10.2.2.2.1.1, (IntKind.i64.wrap ((IntKind.i64.wrap ((IntKind.i64.wrap ((IntKind.i64.wrap (x.2.1 + (1 : Int))) + (1 : Int))) + (1 : Int))) + (1 : Int))), v10.2.2.2.1.2.2.1, v10.2.2.2.1.2.2.2.1, v10.2.2.2.1.2.2.2.2.1, ()), ())) x.2.2.1) fun _ =>
 match (((((x.1.set x.2.2.1.toNat (x.2.1, v2.2.1, v2.2.2.1, (v2.2.2.2.1.1, v2.2.2.2.1.2.1, v2.2.2.2.1.2.2.1, v2.2.2.2.1.2.2.2.1, v2.2.2.2.1.2.2.2.2.1, ()), ())).set x.2.2.1.toNat (v4.1, (IntKind.i64.wrap (x.2.1 + (1 : Int))), v4.2.2.1, (v4.2.2.2.1.1, v4.2.2.2.1.2.1, v4.2.2.2.1.2.2.1, v4.2.2.2.1.2.2.2.1, v4.2.2.2.1.2.2.2.2.1, ()), ())).set x.2.2.1.toNat (v6.1, v6.2.1, (IntKind.i64.wrap ((IntKind.i64.wrap (x.2.1 + (1 : Int))) + (1 : Int))), (v6.2.2.2.1.1, v6.2.2.2.1.2.1, v6.2.2.2.1.2.2.1, v6.2.2.2.1.2.2.2.1, v6.2.2.2.1.2.2.2.2.1, ()), ())).set x.2.2.1.toNat (v8.1, v8.2.1, v8.2.2.1, ((IntKind.i64.wrap ((IntKind.i64.wrap ((IntKind.i64.wrap (x.2.1 + (1 : Int))) + (1 : Int))) + (1 : Int))), v8.2.2.2.1.2.1, v8.2.2.2.1.2.2.1, v8.2.2.2.1.2.2.2.1, v8.2.2.2.1.2.2.2.2.1, ()), ())).set x.2.2.1.toNat (v10.1, v10.2.1, v10.2.2.1, (v10.2.2.2.1.1, (IntKind.i64.wrap ((IntKind.i64.wrap ((IntKind.i64.wrap ((IntKind.i64.wrap (x.2.1 + (1 : Int))) + (1 : Int))) + (1 : Int))) + (1 : Int))), v10.2.2.2.1.2.2.1, v10.2.2.2.1.2.2.2.1, v10.2.2.2.1.2.2.2.2.1, ()), ()))[x.2.2.1.toNat]? with
 | none => none
 | some v12 =>
 onSome (idx ((((((x.1.set x.2.2.1.toNat (x.2.1, v2.2.1, v2.2.2.1, (v2.2.2.2.1.1, v2.2.2.2.1.2.1, v2.2.2.2.1.2.2.1, v2.2.2.2.1.2.2.2.1, v2.2.2.2.1.2.2.2.2.1, ()), ())).set x.2.2.1.toNat (v4.1, (IntKind.i64.wrap (x.2.1 + (1 : Int))), v4.2.2.1, (v4.2.2.2.1.1, v4.2.2.2.1.2.1, v4.2.2.2.1.2.2.1, v4.2.2.2.1.2.2.2.1, v4.2.2.2.1.2.2.2.2.1, ()), ())).set x.2.2.1.toNat (v6.1, v6.2.1, (IntKind.i64.wrap ((IntKind.i64.wrap (x.2.1 + (1 : Int))) + (1 : Int))), (v6.2.2.2.1.1, v6.2.2.2.1.2.1, v6.2.2.2.1.2.2.1, v6.2.2.2.1.2.2.2.1, v6.2.2.2.1.2.2.2.2.1, ()), ())).set x.2.2.1.toNat (v8.1, v8.2.1, v8.2.2.1, ((IntKind.i64.wrap ((IntKind.i64.wrap ((IntKind.i64.wrap (x.2.1 + (1 : Int))) + (1 : Int))) + (1 : Int))), v8.2.2.2.1.2.1, v8.2.2.2.1.2.2.1, v8.2.2.2.1.2.2.2.1, v8.2.2.2.1.2.2.2.2.1, ()), ())).set x.2.2.1.toNat (v10.1, v10.2.1, v10.2.2.1, (v10.2.2.2.1.1, (IntKind.i64.wrap ((IntKind.i64.wrap ((IntKind.i64.wrap ((IntKind.i64.wrap (x.2.1 + (1 : Int))) + (1 : Int))) + (1 : Int))) + (1 : Int))), v10.2.2.2.1.2.2.1, v10.2.2.2.1.2.2.2.1, v10.2.2.2.1.2.2.2.2.1, ()), ())).set x.2.2.1.toNat (v12.1, v12.2.1, v12.2.2.1, (v12.2.2.2.1.1, v12.2.2.2.1.2.1, (IntKind.i64.wrap ((IntKind.i64.wrap ((IntKind.i64.wrap ((IntKind.i64.wrap ((IntKind.i64.wrap (x.2.1 + (1 : Int))) + (1 : Int))) + (1 : Int))) + (1 : Int))) + (1 : Int))), v12.2.2.2.1.2.2.2.1, v12.2.2.2.1.2.2.2.2.1, ()), ())) x.2.2.1) fun _ =>
 match ((((((x.1.set x.2.2.1.toNat (x.2.1, v2.2.1, v2.2.2.1, (v2.2.2.2.1.1, v2.2.2.2.1.2.1, v2.2.2.2.1.2.2.1, v2.2.2.2.1.2.2.2.1, v2.2.2.2.1.2.2.2.2.1, ()), ())).set x.2.2.1.toNat (v4.1, (IntKind.i64.wrap (x.2.1 + (1 : Int))), v4.2.2.1, (v4.2.2.2.1.1, v4.2.2.2.1.2.1, v4.2.2.2.1.2.2.1, v4.2.2.2.1.2.2.2.1, v4.2.2.2.1.2.2.2.2.1, ()), ())).set x.2.2.1.toNat (v6.1, v6.2.1, (IntKind.i64.wrap ((IntKind.i64.wrap (x.2.1 + (1 : Int))) + (1 : Int))), (v6.2.2.2.1.1, v6.2.2.2.1.2.1, v6.2.2.2.1.2.2.1, v6.2.2.2.1.2.2.2.1, v6.2.2.2.1.2.2.2.2.1, ()), ())).set x.2.2.1.toNat (v8.1, v8.2.1, v8.2.2.1, ((IntKind.i64.wrap ((IntKind.i64.wrap ((IntKind.i64.wrap (x.2.1 + (1 : Int))) + (1 : Int))) + (1 : Int))), v8.2.2.2.1.2.1, v8.2.2.2.1.2.2.1, v8.2.2.2.1.2.2.2.1, v8.2.2.2.1.2.2.2.2.1, ()), ())).set x.2.2.1.toNat (v10.1, v10.2.1, v10.2.2.1, (v10.2.2.2.1.1, (IntKind.i64.wrap ((IntKind.i64.wrap ((IntKind.i64.wrap ((IntKind.i64.wrap (x.2.1 + (1 : Int))) + (1 : Int))) + (1 : Int))) + (1 : Int))), v10.2.2.2.1.2.2.1, v10.2.2.2.1.2.2.2.1, v10.2.2.2.1.2.2.2.2.1, ()), ())).set x.2.2.1.toNat (v12.1, v12.2.1, v12.2.2.1, (v12.2.2.2.1.1, v12.2.2.2.1.2.1, (IntKind.i64.wrap ((IntKind.i64.wrap ((IntKind.i64.wrap ((IntKind.i64.wrap ((IntKind.i64.wrap (x.2.1 + (1 : Int))) + (1 : Int))) + (1 : Int))) + (1 : Int))) + (1 : Int))), v12.2.2.2.1.2.2.2.1, v12.2.2.2.1.2.2.2.2.1, ()), ()))[x.2.2.1.toNat]? with
 | none => none
 | some v14 =>
 onSome (idx (((((((x.1.set x.2.2.1.toNat (x.2.1, v2.2.1, v2.2.2.1, (v2.2.2.2.1.1, v2.2.2.2.1.2.1, v2.2.2.2.1.2.2.1, v2.2.2.2.1.2.2.2.1, v2.2.2.2.1.2.2.2.2.1, ()), ())).set x.2.2.1.toNat (v4.1, (IntKind.i64.wrap (x.2.1 + (1 : Int))), v4.2.2.1, (v4.2.2.2.1.1, v4.2.2.2.1.2.1, v4.2.2.2.1.2.2.1, v4.2.2.2.1.2.2.2.1, v4.2.2.2.1.2.2.2.2.1, ()), ())).set x.2.2.1.toNat (v6.1, v6.2.1, (IntKind.i64.wrap ((IntKind.i64.wrap (x.2.1 + (1 : Int))) + (1 : Int))), (v6.2.2.2.1.1, v6.2.2.2.1.2.1, v6.2.2.2.1.2.2.1, v6.2.2.2.1.2.2.2.1, v6.2.2.2.1.2.2.2.2.1, ()), ())).set x.2.2.1.toNat (v8.1, v8.2.1, v8.2.2.1, ((IntKind.i64.wrap ((IntKind.i64.wrap ((IntKind.i64.wrap (x.2.1 + (1 : Int))) + (1 : Int))) + (1 : Int))), v8.2.2.2.1.2.1, v8.2.2.2.1.2.2.1, v8.2.2.2.1.2.2.2.1, v8.2.2.2.1.2.2.2.2.1, ()), ())).set x.2.2.1.toNat (v10.1, v10.2.1, v10.2.2.1, (v10.2.2.2.1.1, (IntKind.i64.wrap ((IntKind.i64.wrap ((IntKind.i64.wrap ((IntKind.i64.wrap (x.2.1 + (1 : Int))) + (1 : Int))) + (1 : Int))) + (1 : Int))), v10.2.2.2.1.2.2.1, v10.2.2.2.1.2.2.2.1, v10.2.2.2.1.2.2.2.2.1, ()), ())).set x.2.2.1.toNat (v12.1, v12.2.1, v12.2.2.1, (v12.2.2.2.1.1, v12.2.2.2.1.2.1, (IntKind.i64.wrap ((IntKind.i64.wrap ((IntKind.i64.wrap ((IntKind.i64.wrap ((IntKind.i64.wrap (x.2.1 + (1 : Int))) + (1 : Int))) + (1 : Int))) + (1 : Int))) + (1 : Int))), v12.2.2.2.1.2.2.2.1, v12.2.2.2.1.2.2.2.2.1, ()), ())).set x.2.2.1.toNat (v14.1, v14.2.1, v14.2.2.1, (v14.2.2.2.1.1, v14.2.2.2.1.2.1, v14.2.2.2.1.2.2.1, (IntKind.i64.wrap ((IntKind.i64.wrap ((IntKind.i64.wrap ((IntKind.i64.wrap ((IntKind.i64.wrap ((IntKind.i64.wrap (x.2.1 + (1 : Int))) + (1 : Int))) + (1 : Int))) + (1 : Int))) + (1 : Int))) + (1 : Int))), v14.2.2.2.1.2.2.2.2.1, ()), ())) x.2.2.1) fun _ =>
 match (((((((x.1.set x.2.2.1.toNat (x.2.1, v2.2.1, v2.2.2.1, (v2.2.2.2.1.1, v2.2.2.2.1.2.1, v2.2.2.2.1.2.2.1, v2.2.2.2.1.2.2.2.1, v2.2.2.2.1.2.2.2.2.1, ()), ())).set x.2.2.1.toNat (v4.1, (IntKind.i64.wrap (x.2.1 + (1 : Int))), v4.2.2.1, (v4.2.2.2.1.1, v4.2.2.2.1.2.1, v4.2.2.2.1.2.2.1, v4.2.2.2.1.2.2.2.1, v4.2.2.2.1.2.2.2.2.1, ()), ())).set x.2.2.1.toNat (v6.1, v6.2.1, (IntKind.i64.wrap ((IntKind.i64.wrap (x.2.1 + (1 : Int))) + (1 : Int))), (v6.2.2.2.1.1, v6.2.2.2.1.2.1, v6.2.2.2.1.2.2.1, v6.2.2.2.1.2.2.2.1, v6.2.2.2.1.2.2.2.2.1, ()), ())).set x.2.2.1.toNat (v8.1, v8.2.1, v8.2.2.1, ((IntKind.i64.wrap ((IntKind.i64.wrap ((IntKind.i64.wrap (x.2.1 + (1 : Int))) + (1 : Int))) + (1 : Int))), v8.2.2.2.1.2.1, v8.2.2.2.1.2.2.1, v8.2.2.2.1.2.2.2.1, v8.2.2.2.1.2.2.2.2.1, ()), ())).set x.2.2.1.toNat (v10.1, v10.2.1, v10.2.2.1, (v10.2.2.2.1.1, (IntKind.i64.wrap ((IntKind.i64.wrap ((IntKind.i64.wrap ((IntKind.i64.wrap (x.2.1 + (1 : Int))) + (1 : Int))) + (1 : Int))) + (1 : Int))), v10.2.2.2.1.2.2.1, v10.2.2.2.1.2.2.2.1, v10.2.2.2.1.2.2.2.2.1, ()), ())).set x.2.2.1.toNat (v12.1, v12.2.1, v12.2.2.1, (v12.2.2.2.1.1, v12.2.2.2.1.2.1, (IntKind.i64.wrap ((IntKind.i64.wrap ((IntKind.i64.wrap ((IntKind.i64.wrap ((IntKind.i64.wrap (x.2.1 + (1 : Int))) + (1 : Int))) + (1 : Int))) + (1 : Int))) + (1 : Int))), v12.2.2.2.1.2.2.2.1, v12.2.2.2.1.2.2.2.2.1, ()), ())).set x.2.2.1.toNat (v14.1, v14.2.1, v14.2.2.1, (v14.2.2.2.1.1, v14.2.2.2.1.2.1, v14.2.2.2.1.2.2.1, (IntKind.i64.wrap ((IntKind.i64.wrap ((IntKind.i64.wrap ((IntKind.i64.wrap ((IntKind.i64.wrap ((IntKind.i64.wrap (x.2.1 + (1 : Int))) + (1 : Int))) + (1 : Int))) + (1 : Int))) + (1 : Int))) + (1 : Int))), v14.2.2.2.1.2.2.2.2.1, ()), ()))[x.2.2.1.toNat]? with
 | none => none
 | some v16 =>
 some (.inl (((((((((x.1.set x.2.2.1.toNat (x.2.1, v2.2.1, v2.2.2.1, (v2.2.2.2.1.1, v2.2.2.2.1.2.1, v2.2.2.2.1.2.2.1, v2.2.2.2.1.2.2.2.1, v2.2.2.2.1.2.2.2.2.1, ()), ())).set x.2.2.1.toNat (v4.1, (IntKind.i64.wrap (x.2.1 + (1 : Int))), v4.2.2.1, (v4.2.2.2.1.1, v4.2.2.2.1.2.1, v4.2.2.2.1.2.2.1, v4.2.2.2.1.2.2.2.1, v4.2.2.2.1.2.2.2.2.1, ()), ())).set x.2.2.1.toNat (v6.1, v6.2.1, (IntKind.i64.wrap ((IntKind.i64.wrap (x.2.1 + (1 : Int))) + (1 : Int))), (v6.2.2.2.1.1, v6.2.2.2.1.2.1, v6.2.2.2.1.2.2.1, v6.2.2.2.1.2.2.2.1, v6.2.2.2.1.2.2.2.2.1, ()), ())).set x.2.2.1.toNat (v8.1, v8.2.1, v8.2.2.1, ((IntKind.i64.wrap ((IntKind.i64.wrap ((IntKind.i64.wrap (x.2.1 + (1 : Int))) + (1 : Int))) + (1 : Int))), v8.2.2.2.1.2.1, v8.2.2.2.1.2.2.1, v8.2.2.2.1.2.2.2.1, v8.2.2.2.1.2.2.2.2.1, ()), ())).set x.2.2.1.toNat (v10.1, v10.2.1, v10.2.2.1, (v10.2.2.2.1.1, (IntKind.i64.wrap ((IntKind.i64.wrap ((IntKind.i64.wrap ((IntKind.i64.wrap (x.2.1 + (1 : Int))) + (1 : Int))) + (1 : Int))) + (1 : Int))), v10.2.2.2.1.2.2.1, v10.2.2.2.1.2.2.2.1, v10.2.2.2.1.2.2.2.2.1, ()), ())).set x.2.2.1.toNat (v12.1, v12.2.1, v12.2.2.1, (v12.2.2.2.1.1, v12.2.2.2.1.2.1, (IntKind.i64.wrap ((IntKind.i64.wrap ((IntKind.i64.wrap ((IntKind.i64.wrap ((IntKind.i64.wrap (x.2.1 + (1 : Int))) + (1 : Int))) + (1 : Int))) + (1 : Int))) + (1 : Int))), v12.2.2.2.1.2.2.2.1, v12.2.2.2.1.2.2.2.2.1, ()), ())).set x.2.2.1.toNat (v14.1, v14.2.1, v14.2.2.1, (v14.2.2.2.1.1, v14.2.2.2.1.2.1, v14.2.2.2.1.2.2.1, (IntKind.i64.wrap ((IntKind.i64.wrap ((IntKind.i64.wrap ((IntKind.i64.wrap ((IntKind.i64.wrap ((IntKind.i64.wrap (x.2.1 + (1 : Int))) + (1 : Int))) + (1 : Int))) + (1 : Int))) + (1 : Int))) + (1 : Int))), v14.2.2.2.1.2.2.2.2.1, ()), ())).set x.2.2.1.toNat (v16.1, v16.2.1, v16.2.2.1, (v16.2.2.2.1.1, v16.2.2.2.1.2.1, v16.2.2.2.1.2.2.1, v16.2.2.2.1.2.2.2.1, ((Int.tmod (IntKind.i64.wrap ((IntKind.i64.wrap ((IntKind.i64.wrap ((IntKind.i64.wrap ((IntKind.i64.wrap ((IntKind.i64.wrap ((IntKind.i64.wrap (x.2.1 + (1 : Int))) + (1 : Int))) + (1 : Int))) + (1 : Int))) + (1 : Int))) + (1 : Int))) + (1 : Int))) (3 : Int)) == (0 : Int)), ()), ())), (IntKind.i64.wrap ((IntKind.i64.wrap ((IntKind.i64.wrap ((IntKind.i64.wrap ((IntKind.i64.wrap ((IntKind.i64.wrap ((IntKind.i64.wrap ((IntKind.i64.wrap (x.2.1 + (1 : Int))) + (1 : Int))) + (1 : Int))) + (1 : Int))) + (1 : Int))) + (1 : Int))) + (1 : Int))) + (1 : Int))), (IntKind.i64.wrap (x.2.2.1 + (1 : Int))), ()))
| false =>
 some (.inr (.inl (x.1, x.2.1, ())))
noncomputable def l_markSlotInfoS (x : Ty.T (.pair (.own 89 TSlotInfo) (.pair (.int .i64) .unit))) : Option (Ty.T (.pair (.int .i64) (.pair (.own 89 TSlotInfo) .unit))) :=
match loopL b_l_markSlotInfoS_2 (x.1, x.2.1, (0 : Int), ()) with
| none => none
| some (.inl v17) =>
 some (v17.2.1, v17.1, ())
| some (.inr v19) =>
 none
noncomputable def S_l_markSlotInfoS : Spec := ⟨(.pair (.own 89 TSlotInfo) (.pair (.int .i64) .unit)), (.pair (.int .i64) .unit), (.pair (.own 89 TSlotInfo) .unit), rfl, l_markSlotInfoS⟩
noncomputable def σ_l_markSlotInfoS : FuncId → Option Spec := sig []
theorem σok_l_markSlotInfoS : ∀ f s, σ_l_markSlotInfoS f = some s → FnOK G0 Tryz.prog f s := sig_ok (l := []) trivial
noncomputable def Λ_l_markSlotInfoS : Nat → Option LSpec := lkp (loopList (bodyOf Tryz.f37)) [⟨[0, 1, 5], (.pair (.own 89 TSlotInfo) TCrc), 0, [0, 1], (.pair (.own 89 TSlotInfo) (.pair (.int .i64) .unit)), [], .unit, loopL b_l_markSlotInfoS_2⟩]
theorem lok_l_markSlotInfoS_2 (x) : codeK Γ0 E0 σ_l_markSlotInfoS Λ_l_markSlotInfoS Tryz.f37.ntmps (nthLoop Tryz.f37 0) (mkF Tryz.f37.ntmps [0, 1, 5] (.pair (.own 89 TSlotInfo) TCrc) x) (readK σ_l_markSlotInfoS Tryz.f37.ntmps [0, 1, 5] (.pair (.own 89 TSlotInfo) TCrc) 0 [0, 1] (.pair (.own 89 TSlotInfo) (.pair (.int .i64) .unit)) [] .unit) = b_l_markSlotInfoS_2 x := by kernel_rfl
theorem ok_l_markSlotInfoS : FnOK G0 Tryz.prog 37 S_l_markSlotInfoS := fn_ok (Λ := Λ_l_markSlotInfoS) tab0 σok_l_markSlotInfoS Tryz.func37 (by kernel_rfl) (show Tryz.f37.body = some (bodyOf Tryz.f37) by kernel_rfl) [⟨[0, 1, 5], (.pair (.own 89 TSlotInfo) TCrc), 0, [0, 1], (.pair (.own 89 TSlotInfo) (.pair (.int .i64) .unit)), [], .unit, loopL b_l_markSlotInfoS_2⟩] rfl (by kernel_rfl) (by exact ⟨loop_LOK (lok_l_markSlotInfoS_2), trivial⟩) (by kernel_rfl)
  fun x y h => (show execFn Γ0 E0 σ_l_markSlotInfoS Λ_l_markSlotInfoS Tryz.f37 S_l_markSlotInfoS x = l_markSlotInfoS x by kernel_rfl).trans h

noncomputable def l_markMedl (x : Ty.T (.pair (.pair (.int .i64) (.pair (.own 82 TNodeInfo) (.pair (.own 84 (.pair (.int .i64) (.pair (.int .i64) (.pair (.own 2 (.int .i64)) .unit)))) (.pair (.own 89 TSlotInfo) .unit)))) (.pair (.int .i64) .unit))) : Option (Ty.T (.pair (.int .i64) (.pair (.pair (.int .i64) (.pair (.own 82 TNodeInfo) (.pair (.own 84 (.pair (.int .i64) (.pair (.int .i64) (.pair (.own 2 (.int .i64)) .unit)))) (.pair (.own 89 TSlotInfo) .unit)))) .unit))) :=
match l_markNodeInfoS (x.1.2.1, x.2.1, ()) with
| none => none
| some v1 =>
match l_markModeInfoS (x.1.2.2.1, v1.1, ()) with
| none => none
| some v2 =>
match l_markSlotInfoS (x.1.2.2.2.1, v2.1, ()) with
| none => none
| some v3 =>
some (v3.1, (x.1.1, v1.2.1, v2.2.1, v3.2.1, ()), ())
noncomputable def S_l_markMedl : Spec := ⟨(.pair (.pair (.int .i64) (.pair (.own 82 TNodeInfo) (.pair (.own 84 (.pair (.int .i64) (.pair (.int .i64) (.pair (.own 2 (.int .i64)) .unit)))) (.pair (.own 89 TSlotInfo) .unit)))) (.pair (.int .i64) .unit)), (.pair (.int .i64) .unit), (.pair (.pair (.int .i64) (.pair (.own 82 TNodeInfo) (.pair (.own 84 (.pair (.int .i64) (.pair (.int .i64) (.pair (.own 2 (.int .i64)) .unit)))) (.pair (.own 89 TSlotInfo) .unit)))) .unit), rfl, l_markMedl⟩
noncomputable def σ_l_markMedl : FuncId → Option Spec := sig [(35, S_l_markNodeInfoS), (36, S_l_markModeInfoS), (37, S_l_markSlotInfoS)]
theorem σok_l_markMedl : ∀ f s, σ_l_markMedl f = some s → FnOK G0 Tryz.prog f s := sig_ok (l := [(35, S_l_markNodeInfoS), (36, S_l_markModeInfoS), (37, S_l_markSlotInfoS)]) ⟨ok_l_markNodeInfoS, ok_l_markModeInfoS, ok_l_markSlotInfoS, trivial⟩
noncomputable def Λ_l_markMedl : Nat → Option LSpec := lkp (loopList (bodyOf Tryz.f14)) []
theorem ok_l_markMedl : FnOK G0 Tryz.prog 14 S_l_markMedl := fn_ok (Λ := Λ_l_markMedl) tab1 σok_l_markMedl Tryz.func14 (by kernel_rfl) (show Tryz.f14.body = some (bodyOf Tryz.f14) by kernel_rfl) [] rfl (by kernel_rfl) (by exact trivial) (by kernel_rfl)
  fun x y h => (show execFn Γ1 E1 σ_l_markMedl Λ_l_markMedl Tryz.f14 S_l_markMedl x = l_markMedl x by kernel_rfl).trans h

noncomputable def l_markFrame (x : Ty.T (.pair (.pair (.int .i64) (.pair (.int .i64) (.pair TState (.pair (.own 2 (.int .i64)) .unit)))) (.pair (.int .i64) .unit))) : Option (Ty.T (.pair (.int .i64) (.pair (.pair (.int .i64) (.pair (.int .i64) (.pair TState (.pair (.own 2 (.int .i64)) .unit)))) .unit))) :=
match l_markInt64S (x.1.2.2.2.1, x.2.1, ()) with
| none => none
| some v1 =>
some (v1.1, (x.1.1, x.1.2.1, (x.1.2.2.1.1, x.1.2.2.1.2.1, x.1.2.2.1.2.2.1, x.1.2.2.1.2.2.2.1, x.1.2.2.1.2.2.2.2.1, ()), v1.2.1, ()), ())
noncomputable def S_l_markFrame : Spec := ⟨(.pair (.pair (.int .i64) (.pair (.int .i64) (.pair TState (.pair (.own 2 (.int .i64)) .unit)))) (.pair (.int .i64) .unit)), (.pair (.int .i64) .unit), (.pair (.pair (.int .i64) (.pair (.int .i64) (.pair TState (.pair (.own 2 (.int .i64)) .unit)))) .unit), rfl, l_markFrame⟩
noncomputable def σ_l_markFrame : FuncId → Option Spec := sig [(15, S_l_markInt64S)]
theorem σok_l_markFrame : ∀ f s, σ_l_markFrame f = some s → FnOK G0 Tryz.prog f s := sig_ok (l := [(15, S_l_markInt64S)]) ⟨ok_l_markInt64S, trivial⟩
noncomputable def Λ_l_markFrame : Nat → Option LSpec := lkp (loopList (bodyOf Tryz.f38)) []
theorem ok_l_markFrame : FnOK G0 Tryz.prog 38 S_l_markFrame := fn_ok (Λ := Λ_l_markFrame) tab0 σok_l_markFrame Tryz.func38 (by kernel_rfl) (show Tryz.f38.body = some (bodyOf Tryz.f38) by kernel_rfl) [] rfl (by kernel_rfl) (by exact trivial) (by kernel_rfl)
  fun x y h => (show execFn Γ0 E0 σ_l_markFrame Λ_l_markFrame Tryz.f38 S_l_markFrame x = l_markFrame x by kernel_rfl).trans h

noncomputable def l_markVerdict (x : Ty.T (.pair (.pair (.int .i64) (.pair (.pair (.int .i64) (.pair (.int .i64) (.pair TState (.pair (.own 2 (.int .i64)) .unit)))) .unit)) (.pair (.int .i64) .unit))) : Option (Ty.T (.pair (.int .i64) (.pair (.pair (.int .i64) (.pair (.pair (.int .i64) (.pair (.int .i64) (.pair TState (.pair (.own 2 (.int .i64)) .unit)))) .unit)) .unit))) :=
match l_markFrame ((x.1.2.1.1, x.1.2.1.2.1, (x.1.2.1.2.2.1.1, x.1.2.1.2.2.1.2.1, x.1.2.1.2.2.1.2.2.1, x.1.2.1.2.2.1.2.2.2.1, x.1.2.1.2.2.1.2.2.2.2.1, ()), x.1.2.1.2.2.2.1, ()), x.2.1, ()) with
| none => none
| some v1 =>
some (v1.1, (x.1.1, (x.1.2.1.1, x.1.2.1.2.1, (x.1.2.1.2.2.1.1, x.1.2.1.2.2.1.2.1, x.1.2.1.2.2.1.2.2.1, x.1.2.1.2.2.1.2.2.2.1, x.1.2.1.2.2.1.2.2.2.2.1, ()), v1.2.1.2.2.2.1, ()), ()), ())
noncomputable def S_l_markVerdict : Spec := ⟨(.pair (.pair (.int .i64) (.pair (.pair (.int .i64) (.pair (.int .i64) (.pair TState (.pair (.own 2 (.int .i64)) .unit)))) .unit)) (.pair (.int .i64) .unit)), (.pair (.int .i64) .unit), (.pair (.pair (.int .i64) (.pair (.pair (.int .i64) (.pair (.int .i64) (.pair TState (.pair (.own 2 (.int .i64)) .unit)))) .unit)) .unit), rfl, l_markVerdict⟩
noncomputable def σ_l_markVerdict : FuncId → Option Spec := sig [(38, S_l_markFrame)]
theorem σok_l_markVerdict : ∀ f s, σ_l_markVerdict f = some s → FnOK G0 Tryz.prog f s := sig_ok (l := [(38, S_l_markFrame)]) ⟨ok_l_markFrame, trivial⟩
noncomputable def Λ_l_markVerdict : Nat → Option LSpec := lkp (loopList (bodyOf Tryz.f16)) []
theorem ok_l_markVerdict : FnOK G0 Tryz.prog 16 S_l_markVerdict := fn_ok (Λ := Λ_l_markVerdict) tab0 σok_l_markVerdict Tryz.func16 (by kernel_rfl) (show Tryz.f16.body = some (bodyOf Tryz.f16) by kernel_rfl) [] rfl (by kernel_rfl) (by exact trivial) (by kernel_rfl)
  fun x y h => (show execFn Γ0 E0 σ_l_markVerdict Λ_l_markVerdict Tryz.f16 S_l_markVerdict x = l_markVerdict x by kernel_rfl).trans h

noncomputable def b_l_heldInt64S_2 (x : (Ty.T (.pair (.list (.int .i64)) TCrc))) : Option ((Ty.T (.pair (.list (.int .i64)) TCrc)) ⊕ ((Ty.T (.pair (.int .i64) .unit)) ⊕ (Ty.T (.pair (.int .i64) .unit)))) :=
match (decide (x.2.2.1 < (x.1.length : Int))) with
| true =>
 onSome (idx x.1 x.2.2.1) fun v1 =>
 match (v1 != x.2.1) with
 | true =>
  some (.inr (.inr ((-1 : Int), ())))
 | false =>
  some (.inl (x.1, (IntKind.i64.wrap (x.2.1 + (1 : Int))), (IntKind.i64.wrap (x.2.2.1 + (1 : Int))), ()))
| false =>
 some (.inr (.inl (x.2.1, ())))
noncomputable def l_heldInt64S (x : Ty.T (.pair (.list (.int .i64)) (.pair (.int .i64) .unit))) : Option (Ty.T (.pair (.int .i64) .unit)) :=
match loopL b_l_heldInt64S_2 (x.1, x.2.1, (0 : Int), ()) with
| none => none
| some (.inl v2) =>
 some (v2.1, ())
| some (.inr v3) =>
 some (v3.1, ())
noncomputable def S_l_heldInt64S : Spec := ⟨(.pair (.list (.int .i64)) (.pair (.int .i64) .unit)), (.pair (.int .i64) .unit), .unit, rfl, l_heldInt64S⟩
noncomputable def σ_l_heldInt64S : FuncId → Option Spec := sig []
theorem σok_l_heldInt64S : ∀ f s, σ_l_heldInt64S f = some s → FnOK G0 Tryz.prog f s := sig_ok (l := []) trivial
noncomputable def Λ_l_heldInt64S : Nat → Option LSpec := lkp (loopList (bodyOf Tryz.f60)) [⟨[0, 1, 5], (.pair (.list (.int .i64)) TCrc), 0, [1], (.pair (.int .i64) .unit), [4], (.pair (.int .i64) .unit), loopL b_l_heldInt64S_2⟩]
theorem lok_l_heldInt64S_2 (x) : codeK Γ0 E0 σ_l_heldInt64S Λ_l_heldInt64S Tryz.f60.ntmps (nthLoop Tryz.f60 0) (mkF Tryz.f60.ntmps [0, 1, 5] (.pair (.list (.int .i64)) TCrc) x) (readK σ_l_heldInt64S Tryz.f60.ntmps [0, 1, 5] (.pair (.list (.int .i64)) TCrc) 0 [1] (.pair (.int .i64) .unit) [4] (.pair (.int .i64) .unit)) = b_l_heldInt64S_2 x := by kernel_rfl
theorem ok_l_heldInt64S : FnOK G0 Tryz.prog 60 S_l_heldInt64S := fn_ok (Λ := Λ_l_heldInt64S) tab0 σok_l_heldInt64S Tryz.func60 (by kernel_rfl) (show Tryz.f60.body = some (bodyOf Tryz.f60) by kernel_rfl) [⟨[0, 1, 5], (.pair (.list (.int .i64)) TCrc), 0, [1], (.pair (.int .i64) .unit), [4], (.pair (.int .i64) .unit), loopL b_l_heldInt64S_2⟩] rfl (by kernel_rfl) (by exact ⟨loop_LOK (lok_l_heldInt64S_2), trivial⟩) (by kernel_rfl)
  fun x y h => (show execFn Γ0 E0 σ_l_heldInt64S Λ_l_heldInt64S Tryz.f60 S_l_heldInt64S x = l_heldInt64S x by kernel_rfl).trans h

noncomputable def l_heldFrame (x : Ty.T (.pair TFrame (.pair (.int .i64) .unit))) : Option (Ty.T (.pair (.int .i64) .unit)) :=
match l_heldInt64S (x.1.2.2.2.1, x.2.1, ()) with
| none => none
| some v1 =>
match (decide (v1.1 < (0 : Int))) with
| true =>
 some ((-1 : Int), ())
| false =>
 some (v1.1, ())
noncomputable def S_l_heldFrame : Spec := ⟨(.pair TFrame (.pair (.int .i64) .unit)), (.pair (.int .i64) .unit), .unit, rfl, l_heldFrame⟩
noncomputable def σ_l_heldFrame : FuncId → Option Spec := sig [(60, S_l_heldInt64S)]
theorem σok_l_heldFrame : ∀ f s, σ_l_heldFrame f = some s → FnOK G0 Tryz.prog f s := sig_ok (l := [(60, S_l_heldInt64S)]) ⟨ok_l_heldInt64S, trivial⟩
noncomputable def Λ_l_heldFrame : Nat → Option LSpec := lkp (loopList (bodyOf Tryz.f39)) []
theorem ok_l_heldFrame : FnOK G0 Tryz.prog 39 S_l_heldFrame := fn_ok (Λ := Λ_l_heldFrame) tab0 σok_l_heldFrame Tryz.func39 (by kernel_rfl) (show Tryz.f39.body = some (bodyOf Tryz.f39) by kernel_rfl) [] rfl (by kernel_rfl) (by exact trivial) (by kernel_rfl)
  fun x y h => (show execFn Γ0 E0 σ_l_heldFrame Λ_l_heldFrame Tryz.f39 S_l_heldFrame x = l_heldFrame x by kernel_rfl).trans h

noncomputable def l_heldVerdict (x : Ty.T (.pair TVerdict (.pair (.int .i64) .unit))) : Option (Ty.T (.pair (.int .i64) .unit)) :=
match l_heldFrame ((x.1.2.1.1, x.1.2.1.2.1, (x.1.2.1.2.2.1.1, x.1.2.1.2.2.1.2.1, x.1.2.1.2.2.1.2.2.1, x.1.2.1.2.2.1.2.2.2.1, x.1.2.1.2.2.1.2.2.2.2.1, ()), x.1.2.1.2.2.2.1, ()), x.2.1, ()) with
| none => none
| some v1 =>
match (decide (v1.1 < (0 : Int))) with
| true =>
 some ((-1 : Int), ())
| false =>
 some (v1.1, ())
noncomputable def S_l_heldVerdict : Spec := ⟨(.pair TVerdict (.pair (.int .i64) .unit)), (.pair (.int .i64) .unit), .unit, rfl, l_heldVerdict⟩
noncomputable def σ_l_heldVerdict : FuncId → Option Spec := sig [(39, S_l_heldFrame)]
theorem σok_l_heldVerdict : ∀ f s, σ_l_heldVerdict f = some s → FnOK G0 Tryz.prog f s := sig_ok (l := [(39, S_l_heldFrame)]) ⟨ok_l_heldFrame, trivial⟩
noncomputable def Λ_l_heldVerdict : Nat → Option LSpec := lkp (loopList (bodyOf Tryz.f17)) []
theorem ok_l_heldVerdict : FnOK G0 Tryz.prog 17 S_l_heldVerdict := fn_ok (Λ := Λ_l_heldVerdict) tab0 σok_l_heldVerdict Tryz.func17 (by kernel_rfl) (show Tryz.f17.body = some (bodyOf Tryz.f17) by kernel_rfl) [] rfl (by kernel_rfl) (by exact trivial) (by kernel_rfl)
  fun x y h => (show execFn Γ0 E0 σ_l_heldVerdict Λ_l_heldVerdict Tryz.f17 S_l_heldVerdict x = l_heldVerdict x by kernel_rfl).trans h

end Go.Proofs.YtieajgkcadmchaaGreatDoor
