/- What the functions of the claim do, on data; written by the program gen.py. -/
import Derived.Test.YtieajgkcadmchaaGreatDoorGA
namespace Go.Proofs.YtieajgkcadmchaaGreatDoor
open Go.RowKit
set_option linter.unusedVariables false

noncomputable def b_i_activeVector_3 (x : (Ty.T (.pair (.int .i64) (.pair (.list TNodeInfo) TCrc)))) : Option ((Ty.T (.pair (.int .i64) (.pair (.list TNodeInfo) TCrc))) ⊕ ((Ty.T (.pair (.int .i64) .unit)) ⊕ (Ty.T .unit))) :=
match (decide (x.2.2.2.1 < x.2.2.1)) with
| true =>
 onSome (idx x.2.1 x.2.2.2.1) fun v1 =>
 match (!v1.2.2.2.1) with
 | true =>
  if v1.1 < 0 then none else
  some (.inl ((bits BinOp.or .i64 x.1 (IntKind.i64.wrap ((1 : Int) * 2 ^ min v1.1.toNat IntKind.i64.bits))), x.2.1, x.2.2.1, (IntKind.i64.wrap (x.2.2.2.1 + (1 : Int))), ()))
 | false =>
  some (.inl (x.1, x.2.1, x.2.2.1, (IntKind.i64.wrap (x.2.2.2.1 + (1 : Int))), ()))
| false =>
 some (.inr (.inl (x.1, ())))
noncomputable def i_activeVector (x : Ty.T (.pair (.list TNodeInfo) .unit)) : Option (Ty.T (.pair (.int .i64) .unit)) :=
match loopL b_i_activeVector_3 ((0 : Int), x.1, (x.1.length : Int), (0 : Int), ()) with
| none => none
| some (.inl v2) =>
 some (v2.1, ())
| some (.inr v4) =>
 none
noncomputable def S_i_activeVector : Spec := ⟨(.pair (.list TNodeInfo) .unit), (.pair (.int .i64) .unit), .unit, rfl, i_activeVector⟩
noncomputable def σ_i_activeVector : FuncId → Option Spec := sig []
theorem σok_i_activeVector : ∀ f s, σ_i_activeVector f = some s → FnOK G0 Tryz.prog f s := sig_ok trivial
def q_i_activeVector_3 : LRow := ⟨[3, 6, 7, 8], (.pair (.int .i64) (.pair (.list TNodeInfo) TCrc)), 0, [3], (.pair (.int .i64) .unit), [], .unit⟩
noncomputable def ls_i_activeVector : List LSpec := [q_i_activeVector_3.spec b_i_activeVector_3]
theorem lok_i_activeVector_3 : Lok Γ0 E0 σ_i_activeVector (lam Tryz.f99 ls_i_activeVector) Tryz.f99 0 q_i_activeVector_3 b_i_activeVector_3 := fun x => by kernel_rfl
theorem ok_i_activeVector : FnOK G0 Tryz.prog 99 S_i_activeVector := fn_okS tab0 σok_i_activeVector Tryz.func99 ls_i_activeVector (by kernel_rfl) (by exact ⟨(lok_i_activeVector_3).lok, trivial⟩) fun x => by kernel_rfl

noncomputable def i_has (x : Ty.T TCrc) : Option (Ty.T (.pair .bool .unit)) :=
if x.2.1 < 0 then none else
some (((bits BinOp.and .i64 (Int.fdiv x.1 (2 ^ min x.2.1.toNat IntKind.i64.bits)) (1 : Int)) == (1 : Int)), ())
noncomputable def S_i_has : Spec := ⟨TCrc, (.pair .bool .unit), .unit, rfl, i_has⟩
noncomputable def σ_i_has : FuncId → Option Spec := sig []
theorem σok_i_has : ∀ f s, σ_i_has f = some s → FnOK G0 Tryz.prog f s := sig_ok trivial
theorem ok_i_has : FnOK G0 Tryz.prog 138 S_i_has := fn_okS tab0 σok_i_has Tryz.func138 [] (by kernel_rfl) (by exact trivial) fun x => by kernel_rfl

noncomputable def i_FirstFault_1 (x : Ty.T (.pair TSlotInfo (.pair (.ptr TMedl) .unit))) : Option (Ty.T (.pair .bool .unit)) :=
match i_activeVector (x.2.1.2.1, ()) with
| none => none
| some v1 =>
match i_has (v1.1, x.1.2.2.2.1.1, ()) with
| none => none
| some v2 =>
some ((!v2.1), ())
noncomputable def S_i_FirstFault_1 : Spec := ⟨(.pair TSlotInfo (.pair (.ptr TMedl) .unit)), (.pair .bool .unit), .unit, rfl, i_FirstFault_1⟩
noncomputable def σ_i_FirstFault_1 : FuncId → Option Spec := sig [(99, S_i_activeVector), (138, S_i_has)]
theorem σok_i_FirstFault_1 : ∀ f s, σ_i_FirstFault_1 f = some s → FnOK G0 Tryz.prog f s := sig_ok ⟨ok_i_activeVector, ok_i_has, trivial⟩
theorem ok_i_FirstFault_1 : FnOK G0 Tryz.prog 137 S_i_FirstFault_1 := fn_okS tab0 σok_i_FirstFault_1 Tryz.func137 [] (by kernel_rfl) (by exact trivial) fun x => by kernel_rfl

noncomputable def i_FirstFault_2 (x : Ty.T (.pair TSlotInfo .unit)) : Option (Ty.T (.pair .bool .unit)) :=
match (x.1.2.2.2.1.2.1 == (3 : Int)) with
| true =>
 some ((x.1.1 != (0 : Int)), ())
| false =>
 some (false, ())
noncomputable def S_i_FirstFault_2 : Spec := ⟨(.pair TSlotInfo .unit), (.pair .bool .unit), .unit, rfl, i_FirstFault_2⟩
noncomputable def σ_i_FirstFault_2 : FuncId → Option Spec := sig []
theorem σok_i_FirstFault_2 : ∀ f s, σ_i_FirstFault_2 f = some s → FnOK G0 Tryz.prog f s := sig_ok trivial
theorem ok_i_FirstFault_2 : FnOK G0 Tryz.prog 139 S_i_FirstFault_2 := fn_okS tab0 σok_i_FirstFault_2 Tryz.func139 [] (by kernel_rfl) (by exact trivial) fun x => by kernel_rfl

noncomputable def i_within (x : Ty.T (.pair (.int .i64) TCrc)) : Option (Ty.T (.pair .bool .unit)) :=
match (decide (x.1 ≥ x.2.1)) with
| true =>
 some ((decide (x.1 ≤ x.2.2.1)), ())
| false =>
 some (false, ())
noncomputable def S_i_within : Spec := ⟨(.pair (.int .i64) TCrc), (.pair .bool .unit), .unit, rfl, i_within⟩
noncomputable def σ_i_within : FuncId → Option Spec := sig []
theorem σok_i_within : ∀ f s, σ_i_within f = some s → FnOK G0 Tryz.prog f s := sig_ok trivial
theorem ok_i_within : FnOK G0 Tryz.prog 140 S_i_within := fn_okS tab0 σok_i_within Tryz.func140 [] (by kernel_rfl) (by exact trivial) fun x => by kernel_rfl

noncomputable def strings_Trim (x : Ty.T (.pair .str (.pair .str .unit))) : Option (Ty.T (.pair .str .unit)) := onSome (trimF x.1 x.2.1) fun s => some (s, ())
noncomputable def S_strings_Trim : Spec := ⟨(.pair .str (.pair .str .unit)), (.pair .str .unit), .unit, rfl, strings_Trim⟩
theorem ok_strings_Trim : FnOK G0 Tryz.prog 199 S_strings_Trim := FnOK.str2_str (entersF_of Tryz.func199 (by kernel_rfl) (show Tryz.f199.body = some (bodyOf Tryz.f199) by kernel_rfl)) (fun w s t y _ hy => trim_calls w s t y hy)

noncomputable def i_isNode (x : Ty.T (.pair (.int .i64) .unit)) : Option (Ty.T (.pair .bool .unit)) :=
match i_within (x.1, (0 : Int), (31 : Int), ()) with
| none => none
| some v1 =>
some (v1.1, ())
noncomputable def S_i_isNode : Spec := ⟨(.pair (.int .i64) .unit), (.pair .bool .unit), .unit, rfl, i_isNode⟩
noncomputable def σ_i_isNode : FuncId → Option Spec := sig [(140, S_i_within)]
theorem σok_i_isNode : ∀ f s, σ_i_isNode f = some s → FnOK G0 Tryz.prog f s := sig_ok ⟨ok_i_within, trivial⟩
theorem ok_i_isNode : FnOK G0 Tryz.prog 200 S_i_isNode := fn_okS tab0 σok_i_isNode Tryz.func200 [] (by kernel_rfl) (by exact trivial) fun x => by kernel_rfl

noncomputable def i_IsNodeInfo (x : Ty.T (.pair TNodeInfo .unit)) : Option (Ty.T (.pair .bool .unit)) :=
match (decide ((x.1.2.1.length : Int) ≥ (1 : Int))) with
| true =>
 match (decide ((x.1.2.1.length : Int) ≤ (6 : Int))) with
 | true =>
  match strings_Trim (x.1.2.1, ([97, 98, 99, 100, 101, 102, 103, 104, 105, 106, 107, 108, 109, 110, 111, 112, 113, 114, 115, 116, 117, 118, 119, 120, 121, 122, 48, 49, 50, 51, 52, 53, 54, 55, 56, 57] : List UInt8), ()) with
  | none => none
  | some v1 =>
  match (v1.1 == []) with
  | true =>
   match i_isNode (x.1.1, ()) with
   | none => none
   | some v2 =>
   match v2.1 with
   | true =>
    match i_within (x.1.2.2.1, (0 : Int), (1000 : Int), ()) with
    | none => none
    | some v3 =>
    some (v3.1, ())
   | false =>
    some (false, ())
  | false =>
   some (false, ())
 | false =>
  some (false, ())
| false =>
 some (false, ())
noncomputable def S_i_IsNodeInfo : Spec := ⟨(.pair TNodeInfo .unit), (.pair .bool .unit), .unit, rfl, i_IsNodeInfo⟩
noncomputable def σ_i_IsNodeInfo : FuncId → Option Spec := sig [(140, S_i_within), (199, S_strings_Trim), (200, S_i_isNode)]
theorem σok_i_IsNodeInfo : ∀ f s, σ_i_IsNodeInfo f = some s → FnOK G0 Tryz.prog f s := sig_ok ⟨ok_i_within, ok_strings_Trim, ok_i_isNode, trivial⟩
theorem ok_i_IsNodeInfo : FnOK G0 Tryz.prog 180 S_i_IsNodeInfo := fn_okS tab0 σok_i_IsNodeInfo Tryz.func180 [] (by kernel_rfl) (by exact trivial) fun x => by kernel_rfl

noncomputable def b_slices_IndexFunc_NodeInfo_2 (x : (Ty.T (.pair (.list TNodeInfo) (.pair (.fn (.pair TNodeInfo .unit) (.pair .bool .unit)) TCrc)))) : Option ((Ty.T (.pair (.list TNodeInfo) (.pair (.fn (.pair TNodeInfo .unit) (.pair .bool .unit)) TCrc))) ⊕ ((Ty.T .unit) ⊕ (Ty.T (.pair (.int .i64) .unit)))) :=
match (decide (x.2.2.2.1 < x.2.2.1)) with
| true =>
 onSome (idx x.1 x.2.2.2.1) fun v1 =>
 match x.2.1 (v1, ()) with
 | none => none
 | some v2 =>
 match v2.1 with
 | true =>
  some (.inr (.inr (x.2.2.2.1, ())))
 | false =>
  some (.inl (x.1, x.2.1, x.2.2.1, (IntKind.i64.wrap (x.2.2.2.1 + (1 : Int))), ()))
| false =>
 some (.inr (.inl (())))
noncomputable def slices_IndexFunc_NodeInfo (x : Ty.T (.pair (.list TNodeInfo) (.pair (.fn (.pair TNodeInfo .unit) (.pair .bool .unit)) .unit))) : Option (Ty.T (.pair (.int .i64) .unit)) :=
match loopL b_slices_IndexFunc_NodeInfo_2 (x.1, x.2.1, (x.1.length : Int), (0 : Int), ()) with
| none => none
| some (.inl v3) =>
 some ((-1 : Int), ())
| some (.inr v4) =>
 some (v4.1, ())
noncomputable def S_slices_IndexFunc_NodeInfo : Spec := ⟨(.pair (.list TNodeInfo) (.pair (.fn (.pair TNodeInfo .unit) (.pair .bool .unit)) .unit)), (.pair (.int .i64) .unit), .unit, rfl, slices_IndexFunc_NodeInfo⟩
noncomputable def σ_slices_IndexFunc_NodeInfo : FuncId → Option Spec := sig []
theorem σok_slices_IndexFunc_NodeInfo : ∀ f s, σ_slices_IndexFunc_NodeInfo f = some s → FnOK G0 Tryz.prog f s := sig_ok trivial
def q_slices_IndexFunc_NodeInfo_2 : LRow := ⟨[0, 1, 7, 8], (.pair (.list TNodeInfo) (.pair (.fn (.pair TNodeInfo .unit) (.pair .bool .unit)) TCrc)), 0, [], .unit, [4], (.pair (.int .i64) .unit)⟩
noncomputable def ls_slices_IndexFunc_NodeInfo : List LSpec := [q_slices_IndexFunc_NodeInfo_2.spec b_slices_IndexFunc_NodeInfo_2]
theorem lok_slices_IndexFunc_NodeInfo_2 : Lok Γ0 E0 σ_slices_IndexFunc_NodeInfo (lam Tryz.f201 ls_slices_IndexFunc_NodeInfo) Tryz.f201 0 q_slices_IndexFunc_NodeInfo_2 b_slices_IndexFunc_NodeInfo_2 := fun x => by kernel_rfl
theorem ok_slices_IndexFunc_NodeInfo : FnOK G0 Tryz.prog 201 S_slices_IndexFunc_NodeInfo := fn_okS tab0 σok_slices_IndexFunc_NodeInfo Tryz.func201 ls_slices_IndexFunc_NodeInfo (by kernel_rfl) (by exact ⟨(lok_slices_IndexFunc_NodeInfo_2).lok, trivial⟩) fun x => by kernel_rfl

noncomputable def slices_ContainsFunc_NodeInfo (x : Ty.T (.pair (.list TNodeInfo) (.pair (.fn (.pair TNodeInfo .unit) (.pair .bool .unit)) .unit))) : Option (Ty.T (.pair .bool .unit)) :=
match slices_IndexFunc_NodeInfo (x.1, x.2.1, ()) with
| none => none
| some v1 =>
some ((decide (v1.1 ≥ (0 : Int))), ())
noncomputable def S_slices_ContainsFunc_NodeInfo : Spec := ⟨(.pair (.list TNodeInfo) (.pair (.fn (.pair TNodeInfo .unit) (.pair .bool .unit)) .unit)), (.pair .bool .unit), .unit, rfl, slices_ContainsFunc_NodeInfo⟩
noncomputable def σ_slices_ContainsFunc_NodeInfo : FuncId → Option Spec := sig [(201, S_slices_IndexFunc_NodeInfo)]
theorem σok_slices_ContainsFunc_NodeInfo : ∀ f s, σ_slices_ContainsFunc_NodeInfo f = some s → FnOK G0 Tryz.prog f s := sig_ok ⟨ok_slices_IndexFunc_NodeInfo, trivial⟩
theorem ok_slices_ContainsFunc_NodeInfo : FnOK G0 Tryz.prog 181 S_slices_ContainsFunc_NodeInfo := fn_okS tab0 σok_slices_ContainsFunc_NodeInfo Tryz.func181 [] (by kernel_rfl) (by exact trivial) fun x => by kernel_rfl

noncomputable def i_IsNodeTable_1 (x : Ty.T (.pair TNodeInfo (.pair (.ptr TNodeInfo) .unit))) : Option (Ty.T (.pair .bool .unit)) :=
some ((x.1.2.1 == x.2.1.2.1), ())
noncomputable def S_i_IsNodeTable_1 : Spec := ⟨(.pair TNodeInfo (.pair (.ptr TNodeInfo) .unit)), (.pair .bool .unit), .unit, rfl, i_IsNodeTable_1⟩
noncomputable def σ_i_IsNodeTable_1 : FuncId → Option Spec := sig []
theorem σok_i_IsNodeTable_1 : ∀ f s, σ_i_IsNodeTable_1 f = some s → FnOK G0 Tryz.prog f s := sig_ok trivial
theorem ok_i_IsNodeTable_1 : FnOK G0 Tryz.prog 182 S_i_IsNodeTable_1 := fn_okS tab0 σok_i_IsNodeTable_1 Tryz.func182 [] (by kernel_rfl) (by exact trivial) fun x => by kernel_rfl

noncomputable def b_i_IsNodeTable_2 (x : (Ty.T (.pair (.list TNodeInfo) (.pair (.list TNodeInfo) TCrc)))) : Option ((Ty.T (.pair (.list TNodeInfo) (.pair (.list TNodeInfo) TCrc))) ⊕ ((Ty.T (.pair (.list TNodeInfo) .unit)) ⊕ (Ty.T (.pair .bool .unit)))) :=
match (decide (x.2.2.2.1 < x.2.2.1)) with
| true =>
 onSome (idx x.2.1 x.2.2.2.1) fun v1 =>
 match i_IsNodeInfo ((v1.1, v1.2.1, v1.2.2.1, v1.2.2.2.1, ()), ()) with
 | none => none
 | some v2 =>
 match (!v2.1) with
 | true =>
  some (.inr (.inr (false, ())))
 | false =>
  match (decide (x.2.2.2.1 > (0 : Int))) with
  | true =>
   onSome (idx x.1 (IntKind.i64.wrap (x.2.2.2.1 - (1 : Int)))) fun v3 =>
   match (decide (v3.1 ≥ v1.1)) with
   | true =>
    some (.inr (.inr (false, ())))
   | false =>
    onSome (bounds x.1.length none (some (.dat (.int .i64) x.2.2.2.1))) fun v4 =>
    match slices_ContainsFunc_NodeInfo ((List.drop v4.1 (List.take v4.2 x.1)), (fun z => i_IsNodeTable_1 (z.1, (v1.1, v1.2.1, v1.2.2.1, v1.2.2.2.1, ()), ())), ()) with
    | none => none
    | some v5 =>
    match v5.1 with
    | true =>
     some (.inr (.inr (false, ())))
    | false =>
     some (.inl (x.1, x.2.1, x.2.2.1, (IntKind.i64.wrap (x.2.2.2.1 + (1 : Int))), ()))
  | false =>
   onSome (bounds x.1.length none (some (.dat (.int .i64) x.2.2.2.1))) fun v6 =>
   match slices_ContainsFunc_NodeInfo ((List.drop v6.1 (List.take v6.2 x.1)), (fun z => i_IsNodeTable_1 (z.1, (v1.1, v1.2.1, v1.2.2.1, v1.2.2.2.1, ()), ())), ()) with
   | none => none
   | some v7 =>
   match v7.1 with
   | true =>
    some (.inr (.inr (false, ())))
   | false =>
    some (.inl (x.1, x.2.1, x.2.2.1, (IntKind.i64.wrap (x.2.2.2.1 + (1 : Int))), ()))
| false =>
 some (.inr (.inl (x.1, ())))
noncomputable def i_IsNodeTable (x : Ty.T (.pair (.list TNodeInfo) .unit)) : Option (Ty.T (.pair .bool .unit)) :=
match loopL b_i_IsNodeTable_2 (x.1, x.1, (x.1.length : Int), (0 : Int), ()) with
| none => none
| some (.inl v8) =>
 match (decide ((v8.1.length : Int) ≥ (1 : Int))) with
 | true =>
  some ((decide ((v8.1.length : Int) ≤ (32 : Int))), ())
 | false =>
  some (false, ())
| some (.inr v9) =>
 some (v9.1, ())
noncomputable def S_i_IsNodeTable : Spec := ⟨(.pair (.list TNodeInfo) .unit), (.pair .bool .unit), .unit, rfl, i_IsNodeTable⟩
noncomputable def σ_i_IsNodeTable : FuncId → Option Spec := sig [(180, S_i_IsNodeInfo), (181, S_slices_ContainsFunc_NodeInfo), (182, S_i_IsNodeTable_1)]
theorem σok_i_IsNodeTable : ∀ f s, σ_i_IsNodeTable f = some s → FnOK G0 Tryz.prog f s := sig_ok ⟨ok_i_IsNodeInfo, ok_slices_ContainsFunc_NodeInfo, ok_i_IsNodeTable_1, trivial⟩
def q_i_IsNodeTable_2 : LRow := ⟨[0, 5, 6, 7], (.pair (.list TNodeInfo) (.pair (.list TNodeInfo) TCrc)), 0, [0], (.pair (.list TNodeInfo) .unit), [2], (.pair .bool .unit)⟩
noncomputable def ls_i_IsNodeTable : List LSpec := [q_i_IsNodeTable_2.spec b_i_IsNodeTable_2]
theorem lok_i_IsNodeTable_2 : Lok Γ0 E0 σ_i_IsNodeTable (lam Tryz.f141 ls_i_IsNodeTable) Tryz.f141 0 q_i_IsNodeTable_2 b_i_IsNodeTable_2 := fun x => by kernel_rfl
theorem ok_i_IsNodeTable : FnOK G0 Tryz.prog 141 S_i_IsNodeTable := fn_okS tab0 σok_i_IsNodeTable Tryz.func141 ls_i_IsNodeTable (by kernel_rfl) (by exact ⟨(lok_i_IsNodeTable_2).lok, trivial⟩) fun x => by kernel_rfl

noncomputable def b_i_isRising_2 (x : (Ty.T (.pair (.list (.int .i64)) (.pair (.int .i64) (.pair (.list (.int .i64)) TCrc))))) : Option ((Ty.T (.pair (.list (.int .i64)) (.pair (.int .i64) (.pair (.list (.int .i64)) TCrc)))) ⊕ ((Ty.T .unit) ⊕ (Ty.T (.pair .bool .unit)))) :=
match (decide (x.2.2.2.2.1 < x.2.2.2.1)) with
| true =>
 onSome (idx x.2.2.1 x.2.2.2.2.1) fun v1 =>
 match (decide (v1 < (0 : Int))) with
 | true =>
  some (.inr (.inr (false, ())))
 | false =>
  match (decide (v1 ≥ x.2.1)) with
  | true =>
   some (.inr (.inr (false, ())))
  | false =>
   match (decide (x.2.2.2.2.1 > (0 : Int))) with
   | true =>
    onSome (idx x.1 (IntKind.i64.wrap (x.2.2.2.2.1 - (1 : Int)))) fun v2 =>
    match (decide (v2 ≥ v1)) with
    | true =>
     some (.inr (.inr (false, ())))
    | false =>
     some (.inl (x.1, x.2.1, x.2.2.1, x.2.2.2.1, (IntKind.i64.wrap (x.2.2.2.2.1 + (1 : Int))), ()))
   | false =>
    some (.inl (x.1, x.2.1, x.2.2.1, x.2.2.2.1, (IntKind.i64.wrap (x.2.2.2.2.1 + (1 : Int))), ()))
| false =>
 some (.inr (.inl (())))
noncomputable def i_isRising (x : Ty.T (.pair (.list (.int .i64)) (.pair (.int .i64) .unit))) : Option (Ty.T (.pair .bool .unit)) :=
match loopL b_i_isRising_2 (x.1, x.2.1, x.1, (x.1.length : Int), (0 : Int), ()) with
| none => none
| some (.inl v3) =>
 some (true, ())
| some (.inr v4) =>
 some (v4.1, ())
noncomputable def S_i_isRising : Spec := ⟨(.pair (.list (.int .i64)) (.pair (.int .i64) .unit)), (.pair .bool .unit), .unit, rfl, i_isRising⟩
noncomputable def σ_i_isRising : FuncId → Option Spec := sig []
theorem σok_i_isRising : ∀ f s, σ_i_isRising f = some s → FnOK G0 Tryz.prog f s := sig_ok trivial
def q_i_isRising_2 : LRow := ⟨[0, 1, 7, 8, 9], (.pair (.list (.int .i64)) (.pair (.int .i64) (.pair (.list (.int .i64)) TCrc))), 0, [], .unit, [4], (.pair .bool .unit)⟩
noncomputable def ls_i_isRising : List LSpec := [q_i_isRising_2.spec b_i_isRising_2]
theorem lok_i_isRising_2 : Lok Γ0 E0 σ_i_isRising (lam Tryz.f183 ls_i_isRising) Tryz.f183 0 q_i_isRising_2 b_i_isRising_2 := fun x => by kernel_rfl
theorem ok_i_isRising : FnOK G0 Tryz.prog 183 S_i_isRising := fn_okS tab0 σok_i_isRising Tryz.func183 ls_i_isRising (by kernel_rfl) (by exact ⟨(lok_i_isRising_2).lok, trivial⟩) fun x => by kernel_rfl

noncomputable def b_slices_Index_int64_2 (x : (Ty.T (.pair (.list (.int .i64)) (.pair (.int .i64) TCrc)))) : Option ((Ty.T (.pair (.list (.int .i64)) (.pair (.int .i64) TCrc))) ⊕ ((Ty.T .unit) ⊕ (Ty.T (.pair (.int .i64) .unit)))) :=
match (decide (x.2.2.2.1 < x.2.2.1)) with
| true =>
 onSome (idx x.1 x.2.2.2.1) fun v1 =>
 match (x.2.1 == v1) with
 | true =>
  some (.inr (.inr (x.2.2.2.1, ())))
 | false =>
  some (.inl (x.1, x.2.1, x.2.2.1, (IntKind.i64.wrap (x.2.2.2.1 + (1 : Int))), ()))
| false =>
 some (.inr (.inl (())))
noncomputable def slices_Index_int64 (x : Ty.T (.pair (.list (.int .i64)) (.pair (.int .i64) .unit))) : Option (Ty.T (.pair (.int .i64) .unit)) :=
match loopL b_slices_Index_int64_2 (x.1, x.2.1, (x.1.length : Int), (0 : Int), ()) with
| none => none
| some (.inl v2) =>
 some ((-1 : Int), ())
| some (.inr v3) =>
 some (v3.1, ())
noncomputable def S_slices_Index_int64 : Spec := ⟨(.pair (.list (.int .i64)) (.pair (.int .i64) .unit)), (.pair (.int .i64) .unit), .unit, rfl, slices_Index_int64⟩
noncomputable def σ_slices_Index_int64 : FuncId → Option Spec := sig []
theorem σok_slices_Index_int64 : ∀ f s, σ_slices_Index_int64 f = some s → FnOK G0 Tryz.prog f s := sig_ok trivial
def q_slices_Index_int64_2 : LRow := ⟨[0, 1, 7, 8], (.pair (.list (.int .i64)) (.pair (.int .i64) TCrc)), 0, [], .unit, [4], (.pair (.int .i64) .unit)⟩
noncomputable def ls_slices_Index_int64 : List LSpec := [q_slices_Index_int64_2.spec b_slices_Index_int64_2]
theorem lok_slices_Index_int64_2 : Lok Γ0 E0 σ_slices_Index_int64 (lam Tryz.f202 ls_slices_Index_int64) Tryz.f202 0 q_slices_Index_int64_2 b_slices_Index_int64_2 := fun x => by kernel_rfl
theorem ok_slices_Index_int64 : FnOK G0 Tryz.prog 202 S_slices_Index_int64 := fn_okS tab0 σok_slices_Index_int64 Tryz.func202 ls_slices_Index_int64 (by kernel_rfl) (by exact ⟨(lok_slices_Index_int64_2).lok, trivial⟩) fun x => by kernel_rfl

noncomputable def slices_Contains_int64 (x : Ty.T (.pair (.list (.int .i64)) (.pair (.int .i64) .unit))) : Option (Ty.T (.pair .bool .unit)) :=
match slices_Index_int64 (x.1, x.2.1, ()) with
| none => none
| some v1 =>
some ((decide (v1.1 ≥ (0 : Int))), ())
noncomputable def S_slices_Contains_int64 : Spec := ⟨(.pair (.list (.int .i64)) (.pair (.int .i64) .unit)), (.pair .bool .unit), .unit, rfl, slices_Contains_int64⟩
noncomputable def σ_slices_Contains_int64 : FuncId → Option Spec := sig [(202, S_slices_Index_int64)]
theorem σok_slices_Contains_int64 : ∀ f s, σ_slices_Contains_int64 f = some s → FnOK G0 Tryz.prog f s := sig_ok ⟨ok_slices_Index_int64, trivial⟩
theorem ok_slices_Contains_int64 : FnOK G0 Tryz.prog 184 S_slices_Contains_int64 := fn_okS tab0 σok_slices_Contains_int64 Tryz.func184 [] (by kernel_rfl) (by exact trivial) fun x => by kernel_rfl

noncomputable def b_i_IsModeTable_2 (x : (Ty.T (.pair (.list TModeInfo) (.pair (.list TModeInfo) TCrc)))) : Option ((Ty.T (.pair (.list TModeInfo) (.pair (.list TModeInfo) TCrc))) ⊕ ((Ty.T (.pair (.list TModeInfo) .unit)) ⊕ (Ty.T (.pair .bool .unit)))) :=
match (decide (x.2.2.2.1 < x.2.2.1)) with
| true =>
 onSome (idx x.2.1 x.2.2.2.1) fun v1 =>
 match i_within (v1.1, (1 : Int), (8 : Int), ()) with
 | none => none
 | some v2 =>
 match (!v2.1) with
 | true =>
  some (.inr (.inr (false, ())))
 | false =>
  match i_within (v1.2.1, (1 : Int), (16 : Int), ()) with
  | none => none
  | some v3 =>
  match (!v3.1) with
  | true =>
   some (.inr (.inr (false, ())))
  | false =>
   match i_isRising (v1.2.2.1, (x.1.length : Int), ()) with
   | none => none
   | some v4 =>
   match (!v4.1) with
   | true =>
    some (.inr (.inr (false, ())))
   | false =>
    match slices_Contains_int64 (v1.2.2.1, x.2.2.2.1, ()) with
    | none => none
    | some v5 =>
    match v5.1 with
    | true =>
     some (.inr (.inr (false, ())))
    | false =>
     some (.inl (x.1, x.2.1, x.2.2.1, (IntKind.i64.wrap (x.2.2.2.1 + (1 : Int))), ()))
| false =>
 some (.inr (.inl (x.1, ())))
noncomputable def i_IsModeTable (x : Ty.T (.pair (.list TModeInfo) .unit)) : Option (Ty.T (.pair .bool .unit)) :=
match loopL b_i_IsModeTable_2 (x.1, x.1, (x.1.length : Int), (0 : Int), ()) with
| none => none
| some (.inl v6) =>
 match (decide ((v6.1.length : Int) ≥ (1 : Int))) with
 | true =>
  some ((decide ((v6.1.length : Int) ≤ (16 : Int))), ())
 | false =>
  some (false, ())
| some (.inr v7) =>
 some (v7.1, ())
noncomputable def S_i_IsModeTable : Spec := ⟨(.pair (.list TModeInfo) .unit), (.pair .bool .unit), .unit, rfl, i_IsModeTable⟩
noncomputable def σ_i_IsModeTable : FuncId → Option Spec := sig [(140, S_i_within), (183, S_i_isRising), (184, S_slices_Contains_int64)]
theorem σok_i_IsModeTable : ∀ f s, σ_i_IsModeTable f = some s → FnOK G0 Tryz.prog f s := sig_ok ⟨ok_i_within, ok_i_isRising, ok_slices_Contains_int64, trivial⟩
def q_i_IsModeTable_2 : LRow := ⟨[0, 5, 6, 7], (.pair (.list TModeInfo) (.pair (.list TModeInfo) TCrc)), 0, [0], (.pair (.list TModeInfo) .unit), [2], (.pair .bool .unit)⟩
noncomputable def ls_i_IsModeTable : List LSpec := [q_i_IsModeTable_2.spec b_i_IsModeTable_2]
theorem lok_i_IsModeTable_2 : Lok Γ0 E0 σ_i_IsModeTable (lam Tryz.f142 ls_i_IsModeTable) Tryz.f142 0 q_i_IsModeTable_2 b_i_IsModeTable_2 := fun x => by kernel_rfl
theorem ok_i_IsModeTable : FnOK G0 Tryz.prog 142 S_i_IsModeTable := fn_okS tab0 σok_i_IsModeTable Tryz.func142 ls_i_IsModeTable (by kernel_rfl) (by exact ⟨(lok_i_IsModeTable_2).lok, trivial⟩) fun x => by kernel_rfl

noncomputable def i_isKind (x : Ty.T (.pair (.int .i64) .unit)) : Option (Ty.T (.pair .bool .unit)) :=
match i_within (x.1, (0 : Int), (3 : Int), ()) with
| none => none
| some v1 =>
some (v1.1, ())
noncomputable def S_i_isKind : Spec := ⟨(.pair (.int .i64) .unit), (.pair .bool .unit), .unit, rfl, i_isKind⟩
noncomputable def σ_i_isKind : FuncId → Option Spec := sig [(140, S_i_within)]
theorem σok_i_isKind : ∀ f s, σ_i_isKind f = some s → FnOK G0 Tryz.prog f s := sig_ok ⟨ok_i_within, trivial⟩
theorem ok_i_isKind : FnOK G0 Tryz.prog 195 S_i_isKind := fn_okS tab0 σok_i_isKind Tryz.func195 [] (by kernel_rfl) (by exact trivial) fun x => by kernel_rfl

noncomputable def i_isDataSize (x : Ty.T TCrc) : Option (Ty.T (.pair .bool .unit)) :=
match (x.1 == (0 : Int)) with
| true =>
 match i_within (x.2.1, (0 : Int), (32 : Int), ()) with
 | none => none
 | some v1 =>
 some (v1.1, ())
| false =>
 match (x.1 == (2 : Int)) with
 | true =>
  match i_within (x.2.1, (1 : Int), (32 : Int), ()) with
  | none => none
  | some v2 =>
  some (v2.1, ())
 | false =>
  some ((x.2.1 == (0 : Int)), ())
noncomputable def S_i_isDataSize : Spec := ⟨TCrc, (.pair .bool .unit), .unit, rfl, i_isDataSize⟩
noncomputable def σ_i_isDataSize : FuncId → Option Spec := sig [(140, S_i_within)]
theorem σok_i_isDataSize : ∀ f s, σ_i_isDataSize f = some s → FnOK G0 Tryz.prog f s := sig_ok ⟨ok_i_within, trivial⟩
theorem ok_i_isDataSize : FnOK G0 Tryz.prog 196 S_i_isDataSize := fn_okS tab0 σok_i_isDataSize Tryz.func196 [] (by kernel_rfl) (by exact trivial) fun x => by kernel_rfl

noncomputable def i_hasState (x : Ty.T (.pair (.int .i64) .unit)) : Option (Ty.T (.pair .bool .unit)) :=
some ((x.1 != (0 : Int)), ())
noncomputable def S_i_hasState : Spec := ⟨(.pair (.int .i64) .unit), (.pair .bool .unit), .unit, rfl, i_hasState⟩
noncomputable def σ_i_hasState : FuncId → Option Spec := sig []
theorem σok_i_hasState : ∀ f s, σ_i_hasState f = some s → FnOK G0 Tryz.prog f s := sig_ok trivial
theorem ok_i_hasState : FnOK G0 Tryz.prog 110 S_i_hasState := fn_okS tab0 σok_i_hasState Tryz.func110 [] (by kernel_rfl) (by exact trivial) fun x => by kernel_rfl

noncomputable def i_hasData (x : Ty.T (.pair (.int .i64) .unit)) : Option (Ty.T (.pair .bool .unit)) :=
match (x.1 == (0 : Int)) with
| true =>
 some (true, ())
| false =>
 some ((x.1 == (2 : Int)), ())
noncomputable def S_i_hasData : Spec := ⟨(.pair (.int .i64) .unit), (.pair .bool .unit), .unit, rfl, i_hasData⟩
noncomputable def σ_i_hasData : FuncId → Option Spec := sig []
theorem σok_i_hasData : ∀ f s, σ_i_hasData f = some s → FnOK G0 Tryz.prog f s := sig_ok trivial
theorem ok_i_hasData : FnOK G0 Tryz.prog 158 S_i_hasData := fn_okS tab0 σok_i_hasData Tryz.func158 [] (by kernel_rfl) (by exact trivial) fun x => by kernel_rfl

noncomputable def i_bodySize (x : Ty.T TCrc) : Option (Ty.T (.pair (.int .i64) .unit)) :=
match i_hasState (x.1, ()) with
| none => none
| some v1 =>
match v1.1 with
| true =>
 match i_hasData (x.1, ()) with
 | none => none
 | some v2 =>
 match v2.1 with
 | true =>
  some ((IntKind.i64.wrap ((IntKind.i64.wrap ((1 : Int) + (8 : Int))) + (IntKind.i64.wrap ((1 : Int) + x.2.1)))), ())
 | false =>
  some ((IntKind.i64.wrap ((1 : Int) + (8 : Int))), ())
| false =>
 match i_hasData (x.1, ()) with
 | none => none
 | some v3 =>
 match v3.1 with
 | true =>
  some ((IntKind.i64.wrap ((1 : Int) + (IntKind.i64.wrap ((1 : Int) + x.2.1)))), ())
 | false =>
  some ((1 : Int), ())
noncomputable def S_i_bodySize : Spec := ⟨TCrc, (.pair (.int .i64) .unit), .unit, rfl, i_bodySize⟩
noncomputable def σ_i_bodySize : FuncId → Option Spec := sig [(110, S_i_hasState), (158, S_i_hasData)]
theorem σok_i_bodySize : ∀ f s, σ_i_bodySize f = some s → FnOK G0 Tryz.prog f s := sig_ok ⟨ok_i_hasState, ok_i_hasData, trivial⟩
theorem ok_i_bodySize : FnOK G0 Tryz.prog 219 S_i_bodySize := fn_okS tab0 σok_i_bodySize Tryz.func219 [] (by kernel_rfl) (by exact trivial) fun x => by kernel_rfl

noncomputable def i_cellsNeeded (x : Ty.T TCrc) : Option (Ty.T (.pair (.int .i64) .unit)) :=
match i_bodySize (x.1, x.2.1, ()) with
| none => none
| some v1 =>
some ((IntKind.i64.wrap ((11 : Int) + (IntKind.i64.wrap ((10 : Int) * (IntKind.i64.wrap (v1.1 + (3 : Int))))))), ())
noncomputable def S_i_cellsNeeded : Spec := ⟨TCrc, (.pair (.int .i64) .unit), .unit, rfl, i_cellsNeeded⟩
noncomputable def σ_i_cellsNeeded : FuncId → Option Spec := sig [(219, S_i_bodySize)]
theorem σok_i_cellsNeeded : ∀ f s, σ_i_cellsNeeded f = some s → FnOK G0 Tryz.prog f s := sig_ok ⟨ok_i_bodySize, trivial⟩
theorem ok_i_cellsNeeded : FnOK G0 Tryz.prog 213 S_i_cellsNeeded := fn_okS tab0 σok_i_cellsNeeded Tryz.func213 [] (by kernel_rfl) (by exact trivial) fun x => by kernel_rfl

noncomputable def i_IsDescriptor (x : Ty.T (.pair TDescriptor .unit)) : Option (Ty.T (.pair .bool .unit)) :=
match i_isNode (x.1.1, ()) with
| none => none
| some v1 =>
match (!v1.1) with
| true =>
 some (false, ())
| false =>
 match i_isKind (x.1.2.1, ()) with
 | none => none
 | some v2 =>
 match (!v2.1) with
 | true =>
  some (false, ())
 | false =>
  match i_isDataSize (x.1.2.1, x.1.2.2.1, ()) with
  | none => none
  | some v3 =>
  match (!v3.1) with
  | true =>
   some (false, ())
  | false =>
   match x.1.2.2.2.2.1 with
   | true =>
    match (x.1.2.1 == (3 : Int)) with
    | true =>
     some (false, ())
    | false =>
     match i_cellsNeeded (x.1.2.1, x.1.2.2.1, ()) with
     | none => none
     | some v4 =>
     match i_within (x.1.2.2.2.1, (IntKind.i64.wrap (v4.1 + (20 : Int))), (1000 : Int), ()) with
     | none => none
     | some v5 =>
     some (v5.1, ())
   | false =>
    match i_cellsNeeded (x.1.2.1, x.1.2.2.1, ()) with
    | none => none
    | some v6 =>
    match i_within (x.1.2.2.2.1, (IntKind.i64.wrap (v6.1 + (20 : Int))), (1000 : Int), ()) with
    | none => none
    | some v7 =>
    some (v7.1, ())
noncomputable def S_i_IsDescriptor : Spec := ⟨(.pair TDescriptor .unit), (.pair .bool .unit), .unit, rfl, i_IsDescriptor⟩
noncomputable def σ_i_IsDescriptor : FuncId → Option Spec := sig [(140, S_i_within), (195, S_i_isKind), (196, S_i_isDataSize), (200, S_i_isNode), (213, S_i_cellsNeeded)]
theorem σok_i_IsDescriptor : ∀ f s, σ_i_IsDescriptor f = some s → FnOK G0 Tryz.prog f s := sig_ok ⟨ok_i_within, ok_i_isKind, ok_i_isDataSize, ok_i_isNode, ok_i_cellsNeeded, trivial⟩
theorem ok_i_IsDescriptor : FnOK G0 Tryz.prog 203 S_i_IsDescriptor := fn_okS tab0 σok_i_IsDescriptor Tryz.func203 [] (by kernel_rfl) (by exact trivial) fun x => by kernel_rfl

noncomputable def i_isSlotInfo (x : Ty.T (.pair TSlotInfo .unit)) : Option (Ty.T (.pair .bool .unit)) :=
match i_within (x.1.1, (0 : Int), (15 : Int), ()) with
| none => none
| some v1 =>
match v1.1 with
| true =>
 match i_within (x.1.2.1, (0 : Int), (7 : Int), ()) with
 | none => none
 | some v2 =>
 match v2.1 with
 | true =>
  match i_within (x.1.2.2.1, (0 : Int), (15 : Int), ()) with
  | none => none
  | some v3 =>
  match v3.1 with
  | true =>
   match i_IsDescriptor ((x.1.2.2.2.1.1, x.1.2.2.2.1.2.1, x.1.2.2.2.1.2.2.1, x.1.2.2.2.1.2.2.2.1, x.1.2.2.2.1.2.2.2.2.1, ()), ()) with
   | none => none
   | some v4 =>
   some (v4.1, ())
  | false =>
   some (false, ())
 | false =>
  some (false, ())
| false =>
 some (false, ())
noncomputable def S_i_isSlotInfo : Spec := ⟨(.pair TSlotInfo .unit), (.pair .bool .unit), .unit, rfl, i_isSlotInfo⟩
noncomputable def σ_i_isSlotInfo : FuncId → Option Spec := sig [(140, S_i_within), (203, S_i_IsDescriptor)]
theorem σok_i_isSlotInfo : ∀ f s, σ_i_isSlotInfo f = some s → FnOK G0 Tryz.prog f s := sig_ok ⟨ok_i_within, ok_i_IsDescriptor, trivial⟩
theorem ok_i_isSlotInfo : FnOK G0 Tryz.prog 185 S_i_isSlotInfo := fn_okS tab0 σok_i_isSlotInfo Tryz.func185 [] (by kernel_rfl) (by exact trivial) fun x => by kernel_rfl

noncomputable def i_compare (x : Ty.T TCrc) : Option (Ty.T (.pair (.int .i64) .unit)) :=
match (decide (x.1 < x.2.1)) with
| true =>
 some ((-1 : Int), ())
| false =>
 match (decide (x.1 > x.2.1)) with
 | true =>
  some ((1 : Int), ())
 | false =>
  some ((0 : Int), ())
noncomputable def S_i_compare : Spec := ⟨TCrc, (.pair (.int .i64) .unit), .unit, rfl, i_compare⟩
noncomputable def σ_i_compare : FuncId → Option Spec := sig []
theorem σok_i_compare : ∀ f s, σ_i_compare f = some s → FnOK G0 Tryz.prog f s := sig_ok trivial
theorem ok_i_compare : FnOK G0 Tryz.prog 204 S_i_compare := fn_okS tab0 σok_i_compare Tryz.func204 [] (by kernel_rfl) (by exact trivial) fun x => by kernel_rfl

noncomputable def i_CompareSlots (x : Ty.T (.pair TSlotInfo (.pair TSlotInfo .unit))) : Option (Ty.T (.pair (.int .i64) .unit)) :=
match (x.1.1 != x.2.1.1) with
| true =>
 match i_compare (x.1.1, x.2.1.1, ()) with
 | none => none
 | some v1 =>
 some (v1.1, ())
| false =>
 match (x.1.2.1 != x.2.1.2.1) with
 | true =>
  match i_compare (x.1.2.1, x.2.1.2.1, ()) with
  | none => none
  | some v2 =>
  some (v2.1, ())
 | false =>
  match i_compare (x.1.2.2.1, x.2.1.2.2.1, ()) with
  | none => none
  | some v3 =>
  some (v3.1, ())
noncomputable def S_i_CompareSlots : Spec := ⟨(.pair TSlotInfo (.pair TSlotInfo .unit)), (.pair (.int .i64) .unit), .unit, rfl, i_CompareSlots⟩
noncomputable def σ_i_CompareSlots : FuncId → Option Spec := sig [(204, S_i_compare)]
theorem σok_i_CompareSlots : ∀ f s, σ_i_CompareSlots f = some s → FnOK G0 Tryz.prog f s := sig_ok ⟨ok_i_compare, trivial⟩
theorem ok_i_CompareSlots : FnOK G0 Tryz.prog 186 S_i_CompareSlots := fn_okS tab0 σok_i_CompareSlots Tryz.func186 [] (by kernel_rfl) (by exact trivial) fun x => by kernel_rfl

noncomputable def b_i_IsSlotTable_2 (x : (Ty.T (.pair (.list TSlotInfo) (.pair (.list TSlotInfo) TCrc)))) : Option ((Ty.T (.pair (.list TSlotInfo) (.pair (.list TSlotInfo) TCrc))) ⊕ ((Ty.T (.pair (.list TSlotInfo) .unit)) ⊕ (Ty.T (.pair .bool .unit)))) :=
match (decide (x.2.2.2.1 < x.2.2.1)) with
| true =>
 onSome (idx x.2.1 x.2.2.2.1) fun v1 =>
 match i_isSlotInfo ((v1.1, v1.2.1, v1.2.2.1, (v1.2.2.2.1.1, v1.2.2.2.1.2.1, v1.2.2.2.1.2.2.1, v1.2.2.2.1.2.2.2.1, v1.2.2.2.1.2.2.2.2.1, ()), ()), ()) with
 | none => none
 | some v2 =>
 match (!v2.1) with
 | true =>
  some (.inr (.inr (false, ())))
 | false =>
  match (decide (x.2.2.2.1 > (0 : Int))) with
  | true =>
   onSome (idx x.1 (IntKind.i64.wrap (x.2.2.2.1 - (1 : Int)))) fun v3 =>
   match i_CompareSlots (v3, (v1.1, v1.2.1, v1.2.2.1, (v1.2.2.2.1.1, v1.2.2.2.1.2.1, v1.2.2.2.1.2.2.1, v1.2.2.2.1.2.2.2.1, v1.2.2.2.1.2.2.2.2.1, ()), ()), ()) with
   | none => none
   | some v4 =>
   match (decide (v4.1 ≥ (0 : Int))) with
   | true =>
    some (.inr (.inr (false, ())))
   | false =>
    some (.inl (x.1, x.2.1, x.2.2.1, (IntKind.i64.wrap (x.2.2.2.1 + (1 : Int))), ()))
  | false =>
   some (.inl (x.1, x.2.1, x.2.2.1, (IntKind.i64.wrap (x.2.2.2.1 + (1 : Int))), ()))
| false =>
 some (.inr (.inl (x.1, ())))
noncomputable def i_IsSlotTable (x : Ty.T (.pair (.list TSlotInfo) .unit)) : Option (Ty.T (.pair .bool .unit)) :=
match loopL b_i_IsSlotTable_2 (x.1, x.1, (x.1.length : Int), (0 : Int), ()) with
| none => none
| some (.inl v5) =>
 some ((decide ((v5.1.length : Int) ≤ (120 : Int))), ())
| some (.inr v6) =>
 some (v6.1, ())
noncomputable def S_i_IsSlotTable : Spec := ⟨(.pair (.list TSlotInfo) .unit), (.pair .bool .unit), .unit, rfl, i_IsSlotTable⟩
noncomputable def σ_i_IsSlotTable : FuncId → Option Spec := sig [(185, S_i_isSlotInfo), (186, S_i_CompareSlots)]
theorem σok_i_IsSlotTable : ∀ f s, σ_i_IsSlotTable f = some s → FnOK G0 Tryz.prog f s := sig_ok ⟨ok_i_isSlotInfo, ok_i_CompareSlots, trivial⟩
def q_i_IsSlotTable_2 : LRow := ⟨[0, 5, 6, 7], (.pair (.list TSlotInfo) (.pair (.list TSlotInfo) TCrc)), 0, [0], (.pair (.list TSlotInfo) .unit), [2], (.pair .bool .unit)⟩
noncomputable def ls_i_IsSlotTable : List LSpec := [q_i_IsSlotTable_2.spec b_i_IsSlotTable_2]
theorem lok_i_IsSlotTable_2 : Lok Γ0 E0 σ_i_IsSlotTable (lam Tryz.f143 ls_i_IsSlotTable) Tryz.f143 0 q_i_IsSlotTable_2 b_i_IsSlotTable_2 := fun x => by kernel_rfl
theorem ok_i_IsSlotTable : FnOK G0 Tryz.prog 143 S_i_IsSlotTable := fn_okS tab0 σok_i_IsSlotTable Tryz.func143 ls_i_IsSlotTable (by kernel_rfl) (by exact ⟨(lok_i_IsSlotTable_2).lok, trivial⟩) fun x => by kernel_rfl

noncomputable def b_i_isComplete_6 (x : (Ty.T (.pair (.box TMedl) (.pair (.int .i64) (.pair (.int .i64) (.pair (.box TModeInfo) (.pair (.list TModeInfo) (.pair (.int .i64) (.pair (.int .i64) TCrc))))))))) : Option ((Ty.T (.pair (.box TMedl) (.pair (.int .i64) (.pair (.int .i64) (.pair (.box TModeInfo) (.pair (.list TModeInfo) (.pair (.int .i64) (.pair (.int .i64) TCrc)))))))) ⊕ ((Ty.T (.pair (.box TMedl) (.pair (.int .i64) (.pair (.list TModeInfo) TCrc)))) ⊕ (Ty.T (.pair .bool .unit)))) :=
match (decide (x.2.2.2.2.2.2.2.2.1 < x.2.2.2.2.2.2.2.1)) with
| true =>
 match (x.2.1 == (x.1.2.2.2.1.length : Int)) with
 | true =>
  some (.inr (.inr (false, ())))
 | false =>
  onSome (idx x.1.2.2.2.1 x.2.1) fun v2 =>
  if x.2.2.2.1.2.1 = 0 then none else
  if x.2.2.2.1.2.1 = 0 then none else
  match i_CompareSlots (v2, (x.2.2.1, (IntKind.i64.wrap (Int.tdiv x.2.2.2.2.2.2.2.2.1 x.2.2.2.1.2.1)), (Int.tmod x.2.2.2.2.2.2.2.2.1 x.2.2.2.1.2.1), ((0 : Int), (0 : Int), (0 : Int), (0 : Int), false, ()), ()), ()) with
  | none => none
  | some v3 =>
  match (v3.1 != (0 : Int)) with
  | true =>
   some (.inr (.inr (false, ())))
  | false =>
   some (.inl ((x.1.1, x.1.2.1, x.1.2.2.1, x.1.2.2.2.1, ()), (IntKind.i64.wrap (x.2.1 + (1 : Int))), x.2.2.1, (x.2.2.2.1.1, x.2.2.2.1.2.1, x.2.2.2.1.2.2.1, ()), x.2.2.2.2.1, x.2.2.2.2.2.1, x.2.2.2.2.2.2.1, x.2.2.2.2.2.2.2.1, (IntKind.i64.wrap (x.2.2.2.2.2.2.2.2.1 + (1 : Int))), ()))
| false =>
 some (.inr (.inl ((x.1.1, x.1.2.1, x.1.2.2.1, x.1.2.2.2.1, ()), x.2.1, x.2.2.2.2.1, x.2.2.2.2.2.1, x.2.2.2.2.2.2.1, ())))
noncomputable def b_i_isComplete_3 (x : (Ty.T (.pair (.box TMedl) (.pair (.int .i64) (.pair (.list TModeInfo) TCrc))))) : Option ((Ty.T (.pair (.box TMedl) (.pair (.int .i64) (.pair (.list TModeInfo) TCrc)))) ⊕ ((Ty.T (.pair (.box TMedl) (.pair (.int .i64) .unit))) ⊕ (Ty.T (.pair .bool .unit)))) :=
match (decide (x.2.2.2.2.1 < x.2.2.2.1)) with
| true =>
 onSome (idx x.2.2.1 x.2.2.2.2.1) fun v1 =>
 match loopL b_i_isComplete_6 ((x.1.1, x.1.2.1, x.1.2.2.1, x.1.2.2.2.1, ()), x.2.1, x.2.2.2.2.1, (v1.1, v1.2.1, v1.2.2.1, ()), x.2.2.1, x.2.2.2.1, x.2.2.2.2.1, (IntKind.i64.wrap (v1.1 * v1.2.1)), (0 : Int), ()) with
 | none => none
 | some (.inl v2) =>
  some (.inl ((v2.1.1, v2.1.2.1, v2.1.2.2.1, v2.1.2.2.2.1, ()), v2.2.1, v2.2.2.1, v2.2.2.2.1, (IntKind.i64.wrap (v2.2.2.2.2.1 + (1 : Int))), ()))
 | some (.inr v3) =>
  some (.inr (.inr (v3.1, ())))
| false =>
 some (.inr (.inl ((x.1.1, x.1.2.1, x.1.2.2.1, x.1.2.2.2.1, ()), x.2.1, ())))
noncomputable def i_isComplete (x : Ty.T (.pair TMedl .unit)) : Option (Ty.T (.pair .bool .unit)) :=
match loopL b_i_isComplete_3 ((x.1.1, x.1.2.1, x.1.2.2.1, x.1.2.2.2.1, ()), (0 : Int), x.1.2.2.1, (x.1.2.2.1.length : Int), (0 : Int), ()) with
| none => none
| some (.inl v4) =>
 some ((v4.2.1 == (v4.1.2.2.2.1.length : Int)), ())
| some (.inr v5) =>
 some (v5.1, ())
noncomputable def S_i_isComplete : Spec := ⟨(.pair TMedl .unit), (.pair .bool .unit), .unit, rfl, i_isComplete⟩
noncomputable def σ_i_isComplete : FuncId → Option Spec := sig [(186, S_i_CompareSlots)]
theorem σok_i_isComplete : ∀ f s, σ_i_isComplete f = some s → FnOK G0 Tryz.prog f s := sig_ok ⟨ok_i_CompareSlots, trivial⟩
def q_i_isComplete_3 : LRow := ⟨[1, 3, 8, 9, 10], (.pair (.box TMedl) (.pair (.int .i64) (.pair (.list TModeInfo) TCrc))), 0, [1, 3], (.pair (.box TMedl) (.pair (.int .i64) .unit)), [2], (.pair .bool .unit)⟩
def q_i_isComplete_6 : LRow := ⟨[1, 3, 4, 5, 8, 9, 10, 19, 20], (.pair (.box TMedl) (.pair (.int .i64) (.pair (.int .i64) (.pair (.box TModeInfo) (.pair (.list TModeInfo) (.pair (.int .i64) (.pair (.int .i64) TCrc))))))), 2, [1, 3, 8, 9, 10], (.pair (.box TMedl) (.pair (.int .i64) (.pair (.list TModeInfo) TCrc))), [2], (.pair .bool .unit)⟩
noncomputable def ls_i_isComplete : List LSpec := [q_i_isComplete_3.spec b_i_isComplete_3, q_i_isComplete_6.spec b_i_isComplete_6]
theorem lok_i_isComplete_3 : Lok Γ0 E0 σ_i_isComplete (lam Tryz.f144 ls_i_isComplete) Tryz.f144 0 q_i_isComplete_3 b_i_isComplete_3 := fun x => by kernel_rfl
theorem lok_i_isComplete_6 : Lok Γ0 E0 σ_i_isComplete (lam Tryz.f144 ls_i_isComplete) Tryz.f144 1 q_i_isComplete_6 b_i_isComplete_6 := fun x => by kernel_rfl
theorem ok_i_isComplete : FnOK G0 Tryz.prog 144 S_i_isComplete := fn_okS tab0 σok_i_isComplete Tryz.func144 ls_i_isComplete (by kernel_rfl) (by exact ⟨(lok_i_isComplete_3).lok, (lok_i_isComplete_6).lok, trivial⟩) fun x => by kernel_rfl

noncomputable def b_slices_IndexFunc_SlotInfo_2 (x : (Ty.T (.pair (.list TSlotInfo) (.pair (.fn (.pair TSlotInfo .unit) (.pair .bool .unit)) TCrc)))) : Option ((Ty.T (.pair (.list TSlotInfo) (.pair (.fn (.pair TSlotInfo .unit) (.pair .bool .unit)) TCrc))) ⊕ ((Ty.T .unit) ⊕ (Ty.T (.pair (.int .i64) .unit)))) :=
match (decide (x.2.2.2.1 < x.2.2.1)) with
| true =>
 onSome (idx x.1 x.2.2.2.1) fun v1 =>
 match x.2.1 (v1, ()) with
 | none => none
 | some v2 =>
 match v2.1 with
 | true =>
  some (.inr (.inr (x.2.2.2.1, ())))
 | false =>
  some (.inl (x.1, x.2.1, x.2.2.1, (IntKind.i64.wrap (x.2.2.2.1 + (1 : Int))), ()))
| false =>
 some (.inr (.inl (())))
noncomputable def slices_IndexFunc_SlotInfo (x : Ty.T (.pair (.list TSlotInfo) (.pair (.fn (.pair TSlotInfo .unit) (.pair .bool .unit)) .unit))) : Option (Ty.T (.pair (.int .i64) .unit)) :=
match loopL b_slices_IndexFunc_SlotInfo_2 (x.1, x.2.1, (x.1.length : Int), (0 : Int), ()) with
| none => none
| some (.inl v3) =>
 some ((-1 : Int), ())
| some (.inr v4) =>
 some (v4.1, ())
noncomputable def S_slices_IndexFunc_SlotInfo : Spec := ⟨(.pair (.list TSlotInfo) (.pair (.fn (.pair TSlotInfo .unit) (.pair .bool .unit)) .unit)), (.pair (.int .i64) .unit), .unit, rfl, slices_IndexFunc_SlotInfo⟩
noncomputable def σ_slices_IndexFunc_SlotInfo : FuncId → Option Spec := sig []
theorem σok_slices_IndexFunc_SlotInfo : ∀ f s, σ_slices_IndexFunc_SlotInfo f = some s → FnOK G0 Tryz.prog f s := sig_ok trivial
def q_slices_IndexFunc_SlotInfo_2 : LRow := ⟨[0, 1, 7, 8], (.pair (.list TSlotInfo) (.pair (.fn (.pair TSlotInfo .unit) (.pair .bool .unit)) TCrc)), 0, [], .unit, [4], (.pair (.int .i64) .unit)⟩
noncomputable def ls_slices_IndexFunc_SlotInfo : List LSpec := [q_slices_IndexFunc_SlotInfo_2.spec b_slices_IndexFunc_SlotInfo_2]
theorem lok_slices_IndexFunc_SlotInfo_2 : Lok Γ0 E0 σ_slices_IndexFunc_SlotInfo (lam Tryz.f162 ls_slices_IndexFunc_SlotInfo) Tryz.f162 0 q_slices_IndexFunc_SlotInfo_2 b_slices_IndexFunc_SlotInfo_2 := fun x => by kernel_rfl
theorem ok_slices_IndexFunc_SlotInfo : FnOK G0 Tryz.prog 162 S_slices_IndexFunc_SlotInfo := fn_okS tab0 σok_slices_IndexFunc_SlotInfo Tryz.func162 ls_slices_IndexFunc_SlotInfo (by kernel_rfl) (by exact ⟨(lok_slices_IndexFunc_SlotInfo_2).lok, trivial⟩) fun x => by kernel_rfl

noncomputable def slices_ContainsFunc_SlotInfo (x : Ty.T (.pair (.list TSlotInfo) (.pair (.fn (.pair TSlotInfo .unit) (.pair .bool .unit)) .unit))) : Option (Ty.T (.pair .bool .unit)) :=
match slices_IndexFunc_SlotInfo (x.1, x.2.1, ()) with
| none => none
| some v1 =>
some ((decide (v1.1 ≥ (0 : Int))), ())
noncomputable def S_slices_ContainsFunc_SlotInfo : Spec := ⟨(.pair (.list TSlotInfo) (.pair (.fn (.pair TSlotInfo .unit) (.pair .bool .unit)) .unit)), (.pair .bool .unit), .unit, rfl, slices_ContainsFunc_SlotInfo⟩
noncomputable def σ_slices_ContainsFunc_SlotInfo : FuncId → Option Spec := sig [(162, S_slices_IndexFunc_SlotInfo)]
theorem σok_slices_ContainsFunc_SlotInfo : ∀ f s, σ_slices_ContainsFunc_SlotInfo f = some s → FnOK G0 Tryz.prog f s := sig_ok ⟨ok_slices_IndexFunc_SlotInfo, trivial⟩
theorem ok_slices_ContainsFunc_SlotInfo : FnOK G0 Tryz.prog 145 S_slices_ContainsFunc_SlotInfo := fn_okS tab0 σok_slices_ContainsFunc_SlotInfo Tryz.func145 [] (by kernel_rfl) (by exact trivial) fun x => by kernel_rfl

noncomputable def i_findSlot_1 (x : Ty.T (.pair TSlotInfo (.pair (.ptr (.int .i64)) (.pair (.ptr (.int .i64)) (.pair (.ptr (.int .i64)) .unit))))) : Option (Ty.T (.pair .bool .unit)) :=
match (x.1.1 == x.2.1) with
| true =>
 match (x.1.2.1 == x.2.2.1) with
 | true =>
  some ((x.1.2.2.1 == x.2.2.2.1), ())
 | false =>
  some (false, ())
| false =>
 some (false, ())
noncomputable def S_i_findSlot_1 : Spec := ⟨(.pair TSlotInfo (.pair (.ptr (.int .i64)) (.pair (.ptr (.int .i64)) (.pair (.ptr (.int .i64)) .unit)))), (.pair .bool .unit), .unit, rfl, i_findSlot_1⟩
noncomputable def σ_i_findSlot_1 : FuncId → Option Spec := sig []
theorem σok_i_findSlot_1 : ∀ f s, σ_i_findSlot_1 f = some s → FnOK G0 Tryz.prog f s := sig_ok trivial
theorem ok_i_findSlot_1 : FnOK G0 Tryz.prog 163 S_i_findSlot_1 := fn_okS tab0 σok_i_findSlot_1 Tryz.func163 [] (by kernel_rfl) (by exact trivial) fun x => by kernel_rfl

noncomputable def i_findSlot (x : Ty.T (.pair (.list TSlotInfo) (.pair (.int .i64) TCrc))) : Option (Ty.T (.pair (.int .i64) .unit)) :=
match slices_IndexFunc_SlotInfo (x.1, (fun z => i_findSlot_1 (z.1, x.2.1, x.2.2.1, x.2.2.2.1, ())), ()) with
| none => none
| some v1 =>
some (v1.1, ())
noncomputable def S_i_findSlot : Spec := ⟨(.pair (.list TSlotInfo) (.pair (.int .i64) TCrc)), (.pair (.int .i64) .unit), .unit, rfl, i_findSlot⟩
noncomputable def σ_i_findSlot : FuncId → Option Spec := sig [(162, S_slices_IndexFunc_SlotInfo), (163, S_i_findSlot_1)]
theorem σok_i_findSlot : ∀ f s, σ_i_findSlot f = some s → FnOK G0 Tryz.prog f s := sig_ok ⟨ok_slices_IndexFunc_SlotInfo, ok_i_findSlot_1, trivial⟩
theorem ok_i_findSlot : FnOK G0 Tryz.prog 111 S_i_findSlot := fn_okS tab0 σok_i_findSlot Tryz.func111 [] (by kernel_rfl) (by exact trivial) fun x => by kernel_rfl

noncomputable def b_i_isSteady_2 (x : (Ty.T (.pair (.ptr TMedl) (.pair (.list TSlotInfo) TCrc)))) : Option ((Ty.T (.pair (.ptr TMedl) (.pair (.list TSlotInfo) TCrc))) ⊕ ((Ty.T .unit) ⊕ (Ty.T (.pair .bool .unit)))) :=
match (decide (x.2.2.2.1 < x.2.2.1)) with
| true =>
 onSome (idx x.2.1 x.2.2.2.1) fun v1 =>
 both (
  match i_findSlot (x.1.2.2.2.1, v1.1, (0 : Int), v1.2.2.1, ()) with
  | none => none
  | some v2 =>
  onSome (idx x.1.2.2.2.1 v2.1) fun v3 =>
  same (
   match (v1.2.2.2.1.2.2.2.1 != v3.2.2.2.1.2.2.2.1) with
   | true =>
    some (.inr (.inr (false, ())))
   | false =>
    some (.inl (x.1, x.2.1, x.2.2.1, (IntKind.i64.wrap (x.2.2.2.1 + (1 : Int))), ())))) (
  match i_findSlot (x.1.2.2.2.1, v1.1, (0 : Int), v1.2.2.1, ()) with
  | none => none
  | some v2 =>
  onSome (idx x.1.2.2.2.1 v2.1) fun v3 =>
  match (v1.2.2.2.1.2.2.2.1 != v3.2.2.2.1.2.2.2.1) with
  | true =>
   some (.inr (.inr (false, ())))
  | false =>
   some (.inl (x.1, x.2.1, x.2.2.1, (IntKind.i64.wrap (x.2.2.2.1 + (1 : Int))), ())))
| false =>
 some (.inr (.inl (())))
noncomputable def i_isSteady (x : Ty.T (.pair TMedl .unit)) : Option (Ty.T (.pair .bool .unit)) :=
match loopL b_i_isSteady_2 ((x.1.1, x.1.2.1, x.1.2.2.1, x.1.2.2.2.1, ()), x.1.2.2.2.1, (x.1.2.2.2.1.length : Int), (0 : Int), ()) with
| none => none
| some (.inl v4) =>
 some (true, ())
| some (.inr v5) =>
 some (v5.1, ())
noncomputable def S_i_isSteady : Spec := ⟨(.pair TMedl .unit), (.pair .bool .unit), .unit, rfl, i_isSteady⟩
noncomputable def σ_i_isSteady : FuncId → Option Spec := sig [(111, S_i_findSlot)]
theorem σok_i_isSteady : ∀ f s, σ_i_isSteady f = some s → FnOK G0 Tryz.prog f s := sig_ok ⟨ok_i_findSlot, trivial⟩
def q_i_isSteady_2 : LRow := ⟨[1, 7, 8, 9], (.pair (.ptr TMedl) (.pair (.list TSlotInfo) TCrc)), 0, [], .unit, [2], (.pair .bool .unit)⟩
noncomputable def ls_i_isSteady : List LSpec := [q_i_isSteady_2.spec b_i_isSteady_2]
theorem lok_i_isSteady_2 : Lok Γ0 E0 σ_i_isSteady (lam Tryz.f146 ls_i_isSteady) Tryz.f146 0 q_i_isSteady_2 b_i_isSteady_2 := fun x => by kernel_rfl
theorem ok_i_isSteady : FnOK G0 Tryz.prog 146 S_i_isSteady := fn_okS tab0 σok_i_isSteady Tryz.func146 ls_i_isSteady (by kernel_rfl) (by exact ⟨(lok_i_isSteady_2).lok, trivial⟩) fun x => by kernel_rfl

noncomputable def b_i_sumDurations_3 (x : (Ty.T (.pair (.int .i64) (.pair (.list TSlotInfo) TCrc)))) : Option ((Ty.T (.pair (.int .i64) (.pair (.list TSlotInfo) TCrc))) ⊕ ((Ty.T (.pair (.int .i64) .unit)) ⊕ (Ty.T .unit))) :=
match (decide (x.2.2.2.1 < x.2.2.1)) with
| true =>
 onSome (idx x.2.1 x.2.2.2.1) fun v1 =>
 some (.inl ((IntKind.i64.wrap (x.1 + v1.2.2.2.1.2.2.2.1)), x.2.1, x.2.2.1, (IntKind.i64.wrap (x.2.2.2.1 + (1 : Int))), ()))
| false =>
 some (.inr (.inl (x.1, ())))
noncomputable def i_sumDurations (x : Ty.T (.pair (.list TSlotInfo) .unit)) : Option (Ty.T (.pair (.int .i64) .unit)) :=
match loopL b_i_sumDurations_3 ((0 : Int), x.1, (x.1.length : Int), (0 : Int), ()) with
| none => none
| some (.inl v2) =>
 some (v2.1, ())
| some (.inr v4) =>
 none
noncomputable def S_i_sumDurations : Spec := ⟨(.pair (.list TSlotInfo) .unit), (.pair (.int .i64) .unit), .unit, rfl, i_sumDurations⟩
noncomputable def σ_i_sumDurations : FuncId → Option Spec := sig []
theorem σok_i_sumDurations : ∀ f s, σ_i_sumDurations f = some s → FnOK G0 Tryz.prog f s := sig_ok trivial
def q_i_sumDurations_3 : LRow := ⟨[3, 6, 7, 8], (.pair (.int .i64) (.pair (.list TSlotInfo) TCrc)), 0, [3], (.pair (.int .i64) .unit), [], .unit⟩
noncomputable def ls_i_sumDurations : List LSpec := [q_i_sumDurations_3.spec b_i_sumDurations_3]
theorem lok_i_sumDurations_3 : Lok Γ0 E0 σ_i_sumDurations (lam Tryz.f187 ls_i_sumDurations) Tryz.f187 0 q_i_sumDurations_3 b_i_sumDurations_3 := fun x => by kernel_rfl
theorem ok_i_sumDurations : FnOK G0 Tryz.prog 187 S_i_sumDurations := fn_okS tab0 σok_i_sumDurations Tryz.func187 ls_i_sumDurations (by kernel_rfl) (by exact ⟨(lok_i_sumDurations_3).lok, trivial⟩) fun x => by kernel_rfl

noncomputable def b_i_modeSlots_3 (x : (Ty.T (.pair (.int .i64) (.pair (.own 89 TSlotInfo) (.pair (.list TSlotInfo) TCrc))))) : Option ((Ty.T (.pair (.int .i64) (.pair (.own 89 TSlotInfo) (.pair (.list TSlotInfo) TCrc)))) ⊕ ((Ty.T (.pair (.own 89 TSlotInfo) .unit)) ⊕ (Ty.T .unit))) :=
match (decide (x.2.2.2.2.1 < x.2.2.2.1)) with
| true =>
 onSome (idx x.2.2.1 x.2.2.2.2.1) fun v1 =>
 match (v1.1 == x.1) with
 | true =>
  room (x.2.1.length + [(v1.1, v1.2.1, v1.2.2.1, (v1.2.2.2.1.1, v1.2.2.2.1.2.1, v1.2.2.2.1.2.2.1, v1.2.2.2.1.2.2.2.1, v1.2.2.2.1.2.2.2.2.1, ()), ())].length) (
   some (.inl (x.1, (x.2.1 ++ [(v1.1, v1.2.1, v1.2.2.1, (v1.2.2.2.1.1, v1.2.2.2.1.2.1, v1.2.2.2.1.2.2.1, v1.2.2.2.1.2.2.2.1, v1.2.2.2.1.2.2.2.2.1, ()), ())]), x.2.2.1, x.2.2.2.1, (IntKind.i64.wrap (x.2.2.2.2.1 + (1 : Int))), ())))
 | false =>
  some (.inl (x.1, x.2.1, x.2.2.1, x.2.2.2.1, (IntKind.i64.wrap (x.2.2.2.2.1 + (1 : Int))), ()))
| false =>
 some (.inr (.inl (x.2.1, ())))
noncomputable def i_modeSlots (x : Ty.T (.pair TMedl (.pair (.int .i64) .unit))) : Option (Ty.T (.pair (.own 89 TSlotInfo) .unit)) :=
match loopL b_i_modeSlots_3 (x.2.1, [], x.1.2.2.2.1, (x.1.2.2.2.1.length : Int), (0 : Int), ()) with
| none => none
| some (.inl v2) =>
 some (v2.1, ())
| some (.inr v4) =>
 none
noncomputable def S_i_modeSlots : Spec := ⟨(.pair TMedl (.pair (.int .i64) .unit)), (.pair (.own 89 TSlotInfo) .unit), .unit, rfl, i_modeSlots⟩
noncomputable def σ_i_modeSlots : FuncId → Option Spec := sig []
theorem σok_i_modeSlots : ∀ f s, σ_i_modeSlots f = some s → FnOK G0 Tryz.prog f s := sig_ok trivial
def q_i_modeSlots_3 : LRow := ⟨[1, 5, 10, 11, 12], (.pair (.int .i64) (.pair (.own 89 TSlotInfo) (.pair (.list TSlotInfo) TCrc))), 0, [5], (.pair (.own 89 TSlotInfo) .unit), [], .unit⟩
noncomputable def ls_i_modeSlots : List LSpec := [q_i_modeSlots_3.spec b_i_modeSlots_3]
theorem lok_i_modeSlots_3 : Lok Γ0 E0 σ_i_modeSlots (lam Tryz.f188 ls_i_modeSlots) Tryz.f188 0 q_i_modeSlots_3 b_i_modeSlots_3 := fun x => by kernel_rfl
theorem ok_i_modeSlots : FnOK G0 Tryz.prog 188 S_i_modeSlots := fn_okS tab0 σok_i_modeSlots Tryz.func188 ls_i_modeSlots (by kernel_rfl) (by exact ⟨(lok_i_modeSlots_3).lok, trivial⟩) fun x => by kernel_rfl

noncomputable def b_i_isShort_2 (x : (Ty.T (.pair (.box TMedl) TCrc))) : Option ((Ty.T (.pair (.box TMedl) TCrc)) ⊕ ((Ty.T .unit) ⊕ (Ty.T (.pair .bool .unit)))) :=
match (decide (x.2.2.1 < x.2.1)) with
| true =>
 match i_modeSlots ((x.1.1, x.1.2.1, x.1.2.2.1, x.1.2.2.2.1, ()), x.2.2.1, ()) with
 | none => none
 | some v1 =>
 match i_sumDurations (v1.1, ()) with
 | none => none
 | some v2 =>
 match (decide (v2.1 > (32000 : Int))) with
 | true =>
  some (.inr (.inr (false, ())))
 | false =>
  some (.inl ((x.1.1, x.1.2.1, x.1.2.2.1, x.1.2.2.2.1, ()), x.2.1, (IntKind.i64.wrap (x.2.2.1 + (1 : Int))), ()))
| false =>
 some (.inr (.inl (())))
noncomputable def i_isShort (x : Ty.T (.pair TMedl .unit)) : Option (Ty.T (.pair .bool .unit)) :=
match loopL b_i_isShort_2 ((x.1.1, x.1.2.1, x.1.2.2.1, x.1.2.2.2.1, ()), (x.1.2.2.1.length : Int), (0 : Int), ()) with
| none => none
| some (.inl v3) =>
 some (true, ())
| some (.inr v4) =>
 some (v4.1, ())
noncomputable def S_i_isShort : Spec := ⟨(.pair TMedl .unit), (.pair .bool .unit), .unit, rfl, i_isShort⟩
noncomputable def σ_i_isShort : FuncId → Option Spec := sig [(187, S_i_sumDurations), (188, S_i_modeSlots)]
theorem σok_i_isShort : ∀ f s, σ_i_isShort f = some s → FnOK G0 Tryz.prog f s := sig_ok ⟨ok_i_sumDurations, ok_i_modeSlots, trivial⟩
def q_i_isShort_2 : LRow := ⟨[1, 6, 7], (.pair (.box TMedl) TCrc), 0, [], .unit, [2], (.pair .bool .unit)⟩
noncomputable def ls_i_isShort : List LSpec := [q_i_isShort_2.spec b_i_isShort_2]
theorem lok_i_isShort_2 : Lok Γ0 E0 σ_i_isShort (lam Tryz.f147 ls_i_isShort) Tryz.f147 0 q_i_isShort_2 b_i_isShort_2 := fun x => by kernel_rfl
theorem ok_i_isShort : FnOK G0 Tryz.prog 147 S_i_isShort := fn_okS tab0 σok_i_isShort Tryz.func147 ls_i_isShort (by kernel_rfl) (by exact ⟨(lok_i_isShort_2).lok, trivial⟩) fun x => by kernel_rfl

noncomputable def b_i_allSend_9 (x : (Ty.T (.pair (.box TMedl) (.pair (.int .i64) (.pair (.int .i64) (.pair (.int .i64) (.pair (.list TModeInfo) (.pair (.int .i64) (.pair (.int .i64) (.pair (.int .i64) (.pair (.int .i64) (.pair (.list TSlotInfo) TCrc)))))))))))) : Option ((Ty.T (.pair (.box TMedl) (.pair (.int .i64) (.pair (.int .i64) (.pair (.int .i64) (.pair (.list TModeInfo) (.pair (.int .i64) (.pair (.int .i64) (.pair (.int .i64) (.pair (.int .i64) (.pair (.list TSlotInfo) TCrc))))))))))) ⊕ ((Ty.T (.pair (.box TMedl) (.pair (.int .i64) (.pair (.int .i64) (.pair (.list TModeInfo) (.pair (.int .i64) (.pair (.int .i64) TCrc))))))) ⊕ (Ty.T .unit))) :=
match (decide (x.2.2.2.2.2.2.2.2.2.2.2.1 < x.2.2.2.2.2.2.2.2.2.2.1)) with
| true =>
 onSome (idx x.2.2.2.2.2.2.2.2.2.1 x.2.2.2.2.2.2.2.2.2.2.2.1) fun v2 =>
 match (v2.1 == x.2.1) with
 | true =>
  match (v2.2.1 == x.2.2.1) with
  | true =>
   if v2.2.2.2.1.1 < 0 then none else
   some (.inl ((x.1.1, x.1.2.1, x.1.2.2.1, x.1.2.2.2.1, ()), x.2.1, x.2.2.1, (bits BinOp.or .i64 x.2.2.2.1 (IntKind.i64.wrap ((1 : Int) * 2 ^ min v2.2.2.2.1.1.toNat IntKind.i64.bits))), x.2.2.2.2.1, x.2.2.2.2.2.1, x.2.2.2.2.2.2.1, x.2.2.2.2.2.2.2.1, x.2.2.2.2.2.2.2.2.1, x.2.2.2.2.2.2.2.2.2.1, x.2.2.2.2.2.2.2.2.2.2.1, (IntKind.i64.wrap (x.2.2.2.2.2.2.2.2.2.2.2.1 + (1 : Int))), ()))
  | false =>
   some (.inl ((x.1.1, x.1.2.1, x.1.2.2.1, x.1.2.2.2.1, ()), x.2.1, x.2.2.1, x.2.2.2.1, x.2.2.2.2.1, x.2.2.2.2.2.1, x.2.2.2.2.2.2.1, x.2.2.2.2.2.2.2.1, x.2.2.2.2.2.2.2.2.1, x.2.2.2.2.2.2.2.2.2.1, x.2.2.2.2.2.2.2.2.2.2.1, (IntKind.i64.wrap (x.2.2.2.2.2.2.2.2.2.2.2.1 + (1 : Int))), ()))
 | false =>
  some (.inl ((x.1.1, x.1.2.1, x.1.2.2.1, x.1.2.2.2.1, ()), x.2.1, x.2.2.1, x.2.2.2.1, x.2.2.2.2.1, x.2.2.2.2.2.1, x.2.2.2.2.2.2.1, x.2.2.2.2.2.2.2.1, x.2.2.2.2.2.2.2.2.1, x.2.2.2.2.2.2.2.2.2.1, x.2.2.2.2.2.2.2.2.2.2.1, (IntKind.i64.wrap (x.2.2.2.2.2.2.2.2.2.2.2.1 + (1 : Int))), ()))
| false =>
 some (.inr (.inl ((x.1.1, x.1.2.1, x.1.2.2.1, x.1.2.2.2.1, ()), x.2.1, x.2.2.2.1, x.2.2.2.2.1, x.2.2.2.2.2.1, x.2.2.2.2.2.2.1, x.2.2.2.2.2.2.2.1, x.2.2.2.2.2.2.2.2.1, ())))
noncomputable def b_i_allSend_5 (x : (Ty.T (.pair (.box TMedl) (.pair (.int .i64) (.pair (.list TModeInfo) (.pair (.int .i64) (.pair (.int .i64) TCrc))))))) : Option ((Ty.T (.pair (.box TMedl) (.pair (.int .i64) (.pair (.list TModeInfo) (.pair (.int .i64) (.pair (.int .i64) TCrc)))))) ⊕ ((Ty.T (.pair (.box TMedl) (.pair (.list TModeInfo) TCrc))) ⊕ (Ty.T (.pair .bool .unit)))) :=
match (decide (x.2.2.2.2.2.2.1 < x.2.2.2.2.2.1)) with
| true =>
 match loopL b_i_allSend_9 ((x.1.1, x.1.2.1, x.1.2.2.1, x.1.2.2.2.1, ()), x.2.1, x.2.2.2.2.2.2.1, (0 : Int), x.2.2.1, x.2.2.2.1, x.2.2.2.2.1, x.2.2.2.2.2.1, x.2.2.2.2.2.2.1, x.1.2.2.2.1, (x.1.2.2.2.1.length : Int), (0 : Int), ()) with
 | none => none
 | some (.inl v2) =>
  match i_activeVector (v2.1.2.1, ()) with
  | none => none
  | some v4 =>
  match ((bits BinOp.andNot .i64 v4.1 v2.2.2.1) != (0 : Int)) with
  | true =>
   some (.inr (.inr (false, ())))
  | false =>
   some (.inl ((v2.1.1, v2.1.2.1, v2.1.2.2.1, v2.1.2.2.2.1, ()), v2.2.1, v2.2.2.2.1, v2.2.2.2.2.1, v2.2.2.2.2.2.1, v2.2.2.2.2.2.2.1, (IntKind.i64.wrap (v2.2.2.2.2.2.2.2.1 + (1 : Int))), ()))
 | some (.inr v5) =>
  none
| false =>
 some (.inr (.inl ((x.1.1, x.1.2.1, x.1.2.2.1, x.1.2.2.2.1, ()), x.2.2.1, x.2.2.2.1, x.2.2.2.2.1, ())))
noncomputable def b_i_allSend_2 (x : (Ty.T (.pair (.box TMedl) (.pair (.list TModeInfo) TCrc)))) : Option ((Ty.T (.pair (.box TMedl) (.pair (.list TModeInfo) TCrc))) ⊕ ((Ty.T .unit) ⊕ (Ty.T (.pair .bool .unit)))) :=
match (decide (x.2.2.2.1 < x.2.2.1)) with
| true =>
 onSome (idx x.2.1 x.2.2.2.1) fun v1 =>
 match loopL b_i_allSend_5 ((x.1.1, x.1.2.1, x.1.2.2.1, x.1.2.2.2.1, ()), x.2.2.2.1, x.2.1, x.2.2.1, x.2.2.2.1, v1.1, (0 : Int), ()) with
 | none => none
 | some (.inl v2) =>
  some (.inl ((v2.1.1, v2.1.2.1, v2.1.2.2.1, v2.1.2.2.2.1, ()), v2.2.1, v2.2.2.1, (IntKind.i64.wrap (v2.2.2.2.1 + (1 : Int))), ()))
 | some (.inr v3) =>
  some (.inr (.inr (v3.1, ())))
| false =>
 some (.inr (.inl (())))
noncomputable def i_allSend (x : Ty.T (.pair TMedl .unit)) : Option (Ty.T (.pair .bool .unit)) :=
match loopL b_i_allSend_2 ((x.1.1, x.1.2.1, x.1.2.2.1, x.1.2.2.2.1, ()), x.1.2.2.1, (x.1.2.2.1.length : Int), (0 : Int), ()) with
| none => none
| some (.inl v4) =>
 some (true, ())
| some (.inr v5) =>
 some (v5.1, ())
noncomputable def S_i_allSend : Spec := ⟨(.pair TMedl .unit), (.pair .bool .unit), .unit, rfl, i_allSend⟩
noncomputable def σ_i_allSend : FuncId → Option Spec := sig [(99, S_i_activeVector)]
theorem σok_i_allSend : ∀ f s, σ_i_allSend f = some s → FnOK G0 Tryz.prog f s := sig_ok ⟨ok_i_activeVector, trivial⟩
def q_i_allSend_2 : LRow := ⟨[1, 10, 11, 12], (.pair (.box TMedl) (.pair (.list TModeInfo) TCrc)), 0, [], .unit, [2], (.pair .bool .unit)⟩
def q_i_allSend_5 : LRow := ⟨[1, 3, 10, 11, 12, 18, 19], (.pair (.box TMedl) (.pair (.int .i64) (.pair (.list TModeInfo) (.pair (.int .i64) (.pair (.int .i64) TCrc))))), 2, [1, 10, 11, 12], (.pair (.box TMedl) (.pair (.list TModeInfo) TCrc)), [2], (.pair .bool .unit)⟩
def q_i_allSend_9 : LRow := ⟨[1, 3, 5, 6, 10, 11, 12, 18, 19, 23, 24, 25], (.pair (.box TMedl) (.pair (.int .i64) (.pair (.int .i64) (.pair (.int .i64) (.pair (.list TModeInfo) (.pair (.int .i64) (.pair (.int .i64) (.pair (.int .i64) (.pair (.int .i64) (.pair (.list TSlotInfo) TCrc)))))))))), 4, [1, 3, 6, 10, 11, 12, 18, 19], (.pair (.box TMedl) (.pair (.int .i64) (.pair (.int .i64) (.pair (.list TModeInfo) (.pair (.int .i64) (.pair (.int .i64) TCrc)))))), [], .unit⟩
noncomputable def ls_i_allSend : List LSpec := [q_i_allSend_2.spec b_i_allSend_2, q_i_allSend_5.spec b_i_allSend_5, q_i_allSend_9.spec b_i_allSend_9]
theorem lok_i_allSend_2 : Lok Γ0 E0 σ_i_allSend (lam Tryz.f148 ls_i_allSend) Tryz.f148 0 q_i_allSend_2 b_i_allSend_2 := fun x => by kernel_rfl
theorem lok_i_allSend_5 : Lok Γ0 E0 σ_i_allSend (lam Tryz.f148 ls_i_allSend) Tryz.f148 1 q_i_allSend_5 b_i_allSend_5 := fun x => by kernel_rfl
theorem lok_i_allSend_9 : Lok Γ0 E0 σ_i_allSend (lam Tryz.f148 ls_i_allSend) Tryz.f148 2 q_i_allSend_9 b_i_allSend_9 := fun x => by kernel_rfl
theorem ok_i_allSend : FnOK G0 Tryz.prog 148 S_i_allSend := fn_okS tab0 σok_i_allSend Tryz.func148 ls_i_allSend (by kernel_rfl) (by exact ⟨(lok_i_allSend_2).lok, (lok_i_allSend_5).lok, (lok_i_allSend_9).lok, trivial⟩) fun x => by kernel_rfl

noncomputable def i_FirstFault (x : Ty.T (.pair TMedl .unit)) : Option (Ty.T (.pair (.int .i64) .unit)) :=
match i_within (x.1.1, (1 : Int), (16777215 : Int), ()) with
| none => none
| some v1 =>
match (!v1.1) with
| true =>
 some ((1 : Int), ())
| false =>
 match i_IsNodeTable (x.1.2.1, ()) with
 | none => none
 | some v2 =>
 match (!v2.1) with
 | true =>
  some ((2 : Int), ())
 | false =>
  match i_IsModeTable (x.1.2.2.1, ()) with
  | none => none
  | some v3 =>
  match (!v3.1) with
  | true =>
   some ((3 : Int), ())
  | false =>
   match i_IsSlotTable (x.1.2.2.2.1, ()) with
   | none => none
   | some v4 =>
   match (!v4.1) with
   | true =>
    some ((4 : Int), ())
   | false =>
    match i_isComplete ((x.1.1, x.1.2.1, x.1.2.2.1, x.1.2.2.2.1, ()), ()) with
    | none => none
    | some v5 =>
    match (!v5.1) with
    | true =>
     some ((5 : Int), ())
    | false =>
     match slices_ContainsFunc_SlotInfo (x.1.2.2.2.1, (fun z => i_FirstFault_1 (z.1, (x.1.1, x.1.2.1, x.1.2.2.1, x.1.2.2.2.1, ()), ())), ()) with
     | none => none
     | some v6 =>
     match v6.1 with
     | true =>
      some ((6 : Int), ())
     | false =>
      match i_isSteady ((x.1.1, x.1.2.1, x.1.2.2.1, x.1.2.2.2.1, ()), ()) with
      | none => none
      | some v7 =>
      match (!v7.1) with
      | true =>
       some ((7 : Int), ())
      | false =>
       match i_isShort ((x.1.1, x.1.2.1, x.1.2.2.1, x.1.2.2.2.1, ()), ()) with
       | none => none
       | some v8 =>
       match (!v8.1) with
       | true =>
        some ((8 : Int), ())
       | false =>
        match i_allSend ((x.1.1, x.1.2.1, x.1.2.2.1, x.1.2.2.2.1, ()), ()) with
        | none => none
        | some v9 =>
        match (!v9.1) with
        | true =>
         some ((9 : Int), ())
        | false =>
         match slices_ContainsFunc_SlotInfo (x.1.2.2.2.1, i_FirstFault_2, ()) with
         | none => none
         | some v10 =>
         match v10.1 with
         | true =>
          some ((10 : Int), ())
         | false =>
          some ((0 : Int), ())
noncomputable def S_i_FirstFault : Spec := ⟨(.pair TMedl .unit), (.pair (.int .i64) .unit), .unit, rfl, i_FirstFault⟩
noncomputable def σ_i_FirstFault : FuncId → Option Spec := sig [(137, S_i_FirstFault_1), (139, S_i_FirstFault_2), (140, S_i_within), (141, S_i_IsNodeTable), (142, S_i_IsModeTable), (143, S_i_IsSlotTable), (144, S_i_isComplete), (145, S_slices_ContainsFunc_SlotInfo), (146, S_i_isSteady), (147, S_i_isShort), (148, S_i_allSend)]
theorem σok_i_FirstFault : ∀ f s, σ_i_FirstFault f = some s → FnOK G0 Tryz.prog f s := sig_ok ⟨ok_i_FirstFault_1, ok_i_FirstFault_2, ok_i_within, ok_i_IsNodeTable, ok_i_IsModeTable, ok_i_IsSlotTable, ok_i_isComplete, ok_slices_ContainsFunc_SlotInfo, ok_i_isSteady, ok_i_isShort, ok_i_allSend, trivial⟩
theorem ok_i_FirstFault : FnOK G0 Tryz.prog 97 S_i_FirstFault := fn_okS tab0 σok_i_FirstFault Tryz.func97 [] (by kernel_rfl) (by exact trivial) fun x => by kernel_rfl

noncomputable def i_IsMedl (x : Ty.T (.pair TMedl .unit)) : Option (Ty.T (.pair .bool .unit)) :=
match i_FirstFault ((x.1.1, x.1.2.1, x.1.2.2.1, x.1.2.2.2.1, ()), ()) with
| none => none
| some v1 =>
some ((v1.1 == (0 : Int)), ())
noncomputable def S_i_IsMedl : Spec := ⟨(.pair TMedl .unit), (.pair .bool .unit), .unit, rfl, i_IsMedl⟩
noncomputable def σ_i_IsMedl : FuncId → Option Spec := sig [(97, S_i_FirstFault)]
theorem σok_i_IsMedl : ∀ f s, σ_i_IsMedl f = some s → FnOK G0 Tryz.prog f s := sig_ok ⟨ok_i_FirstFault, trivial⟩
theorem ok_i_IsMedl : FnOK G0 Tryz.prog 73 S_i_IsMedl := fn_okS tab0 σok_i_IsMedl Tryz.func73 [] (by kernel_rfl) (by exact trivial) fun x => by kernel_rfl

noncomputable def i_isVector (x : Ty.T (.pair (.int .i64) .unit)) : Option (Ty.T (.pair .bool .unit)) :=
match i_within (x.1, (0 : Int), (4294967295 : Int), ()) with
| none => none
| some v1 =>
some (v1.1, ())
noncomputable def S_i_isVector : Spec := ⟨(.pair (.int .i64) .unit), (.pair .bool .unit), .unit, rfl, i_isVector⟩
noncomputable def σ_i_isVector : FuncId → Option Spec := sig [(140, S_i_within)]
theorem σok_i_isVector : ∀ f s, σ_i_isVector f = some s → FnOK G0 Tryz.prog f s := sig_ok ⟨ok_i_within, trivial⟩
theorem ok_i_isVector : FnOK G0 Tryz.prog 149 S_i_isVector := fn_okS tab0 σok_i_isVector Tryz.func149 [] (by kernel_rfl) (by exact trivial) fun x => by kernel_rfl

noncomputable def i_IsState (x : Ty.T (.pair TState .unit)) : Option (Ty.T (.pair .bool .unit)) :=
match i_within (x.1.1, (0 : Int), (65535 : Int), ()) with
| none => none
| some v1 =>
match v1.1 with
| true =>
 match i_within (x.1.2.1, (0 : Int), (15 : Int), ()) with
 | none => none
 | some v2 =>
 match v2.1 with
 | true =>
  match i_within (x.1.2.2.1, (0 : Int), (15 : Int), ()) with
  | none => none
  | some v3 =>
  match v3.1 with
  | true =>
   match i_within (x.1.2.2.2.1, (0 : Int), (255 : Int), ()) with
   | none => none
   | some v4 =>
   match v4.1 with
   | true =>
    match i_isVector (x.1.2.2.2.2.1, ()) with
    | none => none
    | some v5 =>
    some (v5.1, ())
   | false =>
    some (false, ())
  | false =>
   some (false, ())
 | false =>
  some (false, ())
| false =>
 some (false, ())
noncomputable def S_i_IsState : Spec := ⟨(.pair TState .unit), (.pair .bool .unit), .unit, rfl, i_IsState⟩
noncomputable def σ_i_IsState : FuncId → Option Spec := sig [(140, S_i_within), (149, S_i_isVector)]
theorem σok_i_IsState : ∀ f s, σ_i_IsState f = some s → FnOK G0 Tryz.prog f s := sig_ok ⟨ok_i_within, ok_i_isVector, trivial⟩
theorem ok_i_IsState : FnOK G0 Tryz.prog 98 S_i_IsState := fn_okS tab0 σok_i_IsState Tryz.func98 [] (by kernel_rfl) (by exact trivial) fun x => by kernel_rfl

noncomputable def i_belongs (x : Ty.T (.pair TMedl (.pair TState .unit))) : Option (Ty.T (.pair .bool .unit)) :=
match i_IsState ((x.2.1.1, x.2.1.2.1, x.2.1.2.2.1, x.2.1.2.2.2.1, x.2.1.2.2.2.2.1, ()), ()) with
| none => none
| some v1 =>
match (!v1.1) with
| true =>
 some (false, ())
| false =>
 match (decide (x.2.1.2.1 ≥ (x.1.2.2.1.length : Int))) with
 | true =>
  some (false, ())
 | false =>
  onSome (idx x.1.2.2.1 x.2.1.2.1) fun v2 =>
  match (decide (x.2.1.2.2.1 < v2.1)) with
  | true =>
   match (decide (x.2.1.2.2.2.1 < v2.2.1)) with
   | true =>
    match i_activeVector (x.1.2.1, ()) with
    | none => none
    | some v3 =>
    some (((bits BinOp.andNot .i64 x.2.1.2.2.2.2.1 v3.1) == (0 : Int)), ())
   | false =>
    some (false, ())
  | false =>
   some (false, ())
noncomputable def S_i_belongs : Spec := ⟨(.pair TMedl (.pair TState .unit)), (.pair .bool .unit), .unit, rfl, i_belongs⟩
noncomputable def σ_i_belongs : FuncId → Option Spec := sig [(98, S_i_IsState), (99, S_i_activeVector)]
theorem σok_i_belongs : ∀ f s, σ_i_belongs f = some s → FnOK G0 Tryz.prog f s := sig_ok ⟨ok_i_IsState, ok_i_activeVector, trivial⟩
theorem ok_i_belongs : FnOK G0 Tryz.prog 74 S_i_belongs := fn_okS tab0 σok_i_belongs Tryz.func74 [] (by kernel_rfl) (by exact trivial) fun x => by kernel_rfl

noncomputable def i_lookCode (x : Ty.T (.pair TMedl (.pair TState .unit))) : Option (Ty.T (.pair (.int .i64) .unit)) :=
match i_IsMedl ((x.1.1, x.1.2.1, x.1.2.2.1, x.1.2.2.2.1, ()), ()) with
| none => none
| some v1 =>
match (!v1.1) with
| true =>
 some ((1 : Int), ())
| false =>
 match i_belongs ((x.1.1, x.1.2.1, x.1.2.2.1, x.1.2.2.2.1, ()), (x.2.1.1, x.2.1.2.1, x.2.1.2.2.1, x.2.1.2.2.2.1, x.2.1.2.2.2.2.1, ()), ()) with
 | none => none
 | some v2 =>
 match (!v2.1) with
 | true =>
  some ((2 : Int), ())
 | false =>
  some ((0 : Int), ())
noncomputable def S_i_lookCode : Spec := ⟨(.pair TMedl (.pair TState .unit)), (.pair (.int .i64) .unit), .unit, rfl, i_lookCode⟩
noncomputable def σ_i_lookCode : FuncId → Option Spec := sig [(73, S_i_IsMedl), (74, S_i_belongs)]
theorem σok_i_lookCode : ∀ f s, σ_i_lookCode f = some s → FnOK G0 Tryz.prog f s := sig_ok ⟨ok_i_IsMedl, ok_i_belongs, trivial⟩
theorem ok_i_lookCode : FnOK G0 Tryz.prog 51 S_i_lookCode := fn_okS tab0 σok_i_lookCode Tryz.func51 [] (by kernel_rfl) (by exact trivial) fun x => by kernel_rfl

noncomputable def i_receiveCode (x : Ty.T (.pair TMedl (.pair TState (.pair .bool .unit)))) : Option (Ty.T (.pair (.int .i64) .unit)) :=
match i_lookCode ((x.1.1, x.1.2.1, x.1.2.2.1, x.1.2.2.2.1, ()), (x.2.1.1, x.2.1.2.1, x.2.1.2.2.1, x.2.1.2.2.2.1, x.2.1.2.2.2.2.1, ()), ()) with
| none => none
| some v1 =>
match (v1.1 != (0 : Int)) with
| true =>
 some (v1.1, ())
| false =>
 match (!x.2.2.1) with
 | true =>
  some ((2 : Int), ())
 | false =>
  some ((0 : Int), ())
noncomputable def S_i_receiveCode : Spec := ⟨(.pair TMedl (.pair TState (.pair .bool .unit))), (.pair (.int .i64) .unit), .unit, rfl, i_receiveCode⟩
noncomputable def σ_i_receiveCode : FuncId → Option Spec := sig [(51, S_i_lookCode)]
theorem σok_i_receiveCode : ∀ f s, σ_i_receiveCode f = some s → FnOK G0 Tryz.prog f s := sig_ok ⟨ok_i_lookCode, trivial⟩
theorem ok_i_receiveCode : FnOK G0 Tryz.prog 28 S_i_receiveCode := fn_okS tab0 σok_i_receiveCode Tryz.func28 [] (by kernel_rfl) (by exact trivial) fun x => by kernel_rfl

noncomputable def b_i_allWithin_2 (x : (Ty.T (.pair (.int .i64) (.pair (.int .i64) (.pair (.list (.int .i64)) TCrc))))) : Option ((Ty.T (.pair (.int .i64) (.pair (.int .i64) (.pair (.list (.int .i64)) TCrc)))) ⊕ ((Ty.T .unit) ⊕ (Ty.T (.pair .bool .unit)))) :=
match (decide (x.2.2.2.2.1 < x.2.2.2.1)) with
| true =>
 onSome (idx x.2.2.1 x.2.2.2.2.1) fun v1 =>
 match (decide (v1 < x.1)) with
 | true =>
  some (.inr (.inr (false, ())))
 | false =>
  match (decide (v1 > x.2.1)) with
  | true =>
   some (.inr (.inr (false, ())))
  | false =>
   some (.inl (x.1, x.2.1, x.2.2.1, x.2.2.2.1, (IntKind.i64.wrap (x.2.2.2.2.1 + (1 : Int))), ()))
| false =>
 some (.inr (.inl (())))
noncomputable def i_allWithin (x : Ty.T (.pair (.list (.int .i64)) TCrc)) : Option (Ty.T (.pair .bool .unit)) :=
match loopL b_i_allWithin_2 (x.2.1, x.2.2.1, x.1, (x.1.length : Int), (0 : Int), ()) with
| none => none
| some (.inl v2) =>
 some (true, ())
| some (.inr v3) =>
 some (v3.1, ())
noncomputable def S_i_allWithin : Spec := ⟨(.pair (.list (.int .i64)) TCrc), (.pair .bool .unit), .unit, rfl, i_allWithin⟩
noncomputable def σ_i_allWithin : FuncId → Option Spec := sig []
theorem σok_i_allWithin : ∀ f s, σ_i_allWithin f = some s → FnOK G0 Tryz.prog f s := sig_ok trivial
def q_i_allWithin_2 : LRow := ⟨[1, 2, 9, 10, 11], (.pair (.int .i64) (.pair (.int .i64) (.pair (.list (.int .i64)) TCrc))), 0, [], .unit, [6], (.pair .bool .unit)⟩
noncomputable def ls_i_allWithin : List LSpec := [q_i_allWithin_2.spec b_i_allWithin_2]
theorem lok_i_allWithin_2 : Lok Γ0 E0 σ_i_allWithin (lam Tryz.f52 ls_i_allWithin) Tryz.f52 0 q_i_allWithin_2 b_i_allWithin_2 := fun x => by kernel_rfl
theorem ok_i_allWithin : FnOK G0 Tryz.prog 52 S_i_allWithin := fn_okS tab0 σok_i_allWithin Tryz.func52 ls_i_allWithin (by kernel_rfl) (by exact ⟨(lok_i_allWithin_2).lok, trivial⟩) fun x => by kernel_rfl

noncomputable def i_IsBits (x : Ty.T (.pair (.list (.int .i64)) .unit)) : Option (Ty.T (.pair .bool .unit)) :=
match (decide ((x.1.length : Int) ≤ (8192 : Int))) with
| true =>
 match i_allWithin (x.1, (0 : Int), (1 : Int), ()) with
 | none => none
 | some v1 =>
 some (v1.1, ())
| false =>
 some (false, ())
noncomputable def S_i_IsBits : Spec := ⟨(.pair (.list (.int .i64)) .unit), (.pair .bool .unit), .unit, rfl, i_IsBits⟩
noncomputable def σ_i_IsBits : FuncId → Option Spec := sig [(52, S_i_allWithin)]
theorem σok_i_IsBits : ∀ f s, σ_i_IsBits f = some s → FnOK G0 Tryz.prog f s := sig_ok ⟨ok_i_allWithin, trivial⟩
theorem ok_i_IsBits : FnOK G0 Tryz.prog 29 S_i_IsBits := fn_okS tab0 σok_i_IsBits Tryz.func29 [] (by kernel_rfl) (by exact trivial) fun x => by kernel_rfl

noncomputable def i_oneIf (x : Ty.T (.pair .bool .unit)) : Option (Ty.T (.pair (.int .i64) .unit)) :=
match x.1 with
| true =>
 some ((1 : Int), ())
| false =>
 some ((0 : Int), ())
noncomputable def S_i_oneIf : Spec := ⟨(.pair .bool .unit), (.pair (.int .i64) .unit), .unit, rfl, i_oneIf⟩
noncomputable def σ_i_oneIf : FuncId → Option Spec := sig []
theorem σok_i_oneIf : ∀ f s, σ_i_oneIf f = some s → FnOK G0 Tryz.prog f s := sig_ok trivial
theorem ok_i_oneIf : FnOK G0 Tryz.prog 150 S_i_oneIf := fn_okS tab0 σok_i_oneIf Tryz.func150 [] (by kernel_rfl) (by exact trivial) fun x => by kernel_rfl

noncomputable def b_i_onesInWindow_3 (x : (Ty.T (.pair (.list (.int .i64)) (.pair (.int .i64) TCrc)))) : Option ((Ty.T (.pair (.list (.int .i64)) (.pair (.int .i64) TCrc))) ⊕ ((Ty.T (.pair (.int .i64) .unit)) ⊕ (Ty.T .unit))) :=
match (decide (x.2.2.2.1 ≤ x.2.1)) with
| true =>
 match (decide (x.2.2.2.1 < (0 : Int))) with
 | true =>
  some (.inl (x.1, x.2.1, (IntKind.i64.wrap (x.2.2.1 + (1 : Int))), (IntKind.i64.wrap (x.2.2.2.1 + (1 : Int))), ()))
 | false =>
  onSome (idx x.1 x.2.2.2.1) fun v1 =>
  match (v1 == (1 : Int)) with
  | true =>
   some (.inl (x.1, x.2.1, (IntKind.i64.wrap (x.2.2.1 + (1 : Int))), (IntKind.i64.wrap (x.2.2.2.1 + (1 : Int))), ()))
  | false =>
   some (.inl (x.1, x.2.1, x.2.2.1, (IntKind.i64.wrap (x.2.2.2.1 + (1 : Int))), ()))
| false =>
 some (.inr (.inl (x.2.2.1, ())))
noncomputable def i_onesInWindow (x : Ty.T (.pair (.list (.int .i64)) (.pair (.int .i64) .unit))) : Option (Ty.T (.pair (.int .i64) .unit)) :=
match loopL b_i_onesInWindow_3 (x.1, x.2.1, (0 : Int), (IntKind.i64.wrap ((IntKind.i64.wrap (x.2.1 - (5 : Int))) + (1 : Int))), ()) with
| none => none
| some (.inl v2) =>
 some (v2.1, ())
| some (.inr v4) =>
 none
noncomputable def S_i_onesInWindow : Spec := ⟨(.pair (.list (.int .i64)) (.pair (.int .i64) .unit)), (.pair (.int .i64) .unit), .unit, rfl, i_onesInWindow⟩
noncomputable def σ_i_onesInWindow : FuncId → Option Spec := sig []
theorem σok_i_onesInWindow : ∀ f s, σ_i_onesInWindow f = some s → FnOK G0 Tryz.prog f s := sig_ok trivial
def q_i_onesInWindow_3 : LRow := ⟨[0, 1, 5, 6], (.pair (.list (.int .i64)) (.pair (.int .i64) TCrc)), 0, [5], (.pair (.int .i64) .unit), [], .unit⟩
noncomputable def ls_i_onesInWindow : List LSpec := [q_i_onesInWindow_3.spec b_i_onesInWindow_3]
theorem lok_i_onesInWindow_3 : Lok Γ0 E0 σ_i_onesInWindow (lam Tryz.f151 ls_i_onesInWindow) Tryz.f151 0 q_i_onesInWindow_3 b_i_onesInWindow_3 := fun x => by kernel_rfl
theorem ok_i_onesInWindow : FnOK G0 Tryz.prog 151 S_i_onesInWindow := fn_okS tab0 σok_i_onesInWindow Tryz.func151 ls_i_onesInWindow (by kernel_rfl) (by exact ⟨(lok_i_onesInWindow_3).lok, trivial⟩) fun x => by kernel_rfl

noncomputable def b_i_vote_3 (x : (Ty.T (.pair (.list (.int .i64)) (.pair (.own 2 (.int .i64)) TCrc)))) : Option ((Ty.T (.pair (.list (.int .i64)) (.pair (.own 2 (.int .i64)) TCrc))) ⊕ ((Ty.T (.pair (.own 2 (.int .i64)) .unit)) ⊕ (Ty.T .unit))) :=
match (decide (x.2.2.2.1 < x.2.2.1)) with
| true =>
 match i_onesInWindow (x.1, x.2.2.2.1, ()) with
 | none => none
 | some v1 =>
 match i_oneIf ((decide ((IntKind.i64.wrap ((2 : Int) * v1.1)) > (5 : Int))), ()) with
 | none => none
 | some v2 =>
 room (x.2.1.length + [v2.1].length) (
  some (.inl (x.1, (x.2.1 ++ [v2.1]), x.2.2.1, (IntKind.i64.wrap (x.2.2.2.1 + (1 : Int))), ())))
| false =>
 some (.inr (.inl (x.2.1, ())))
noncomputable def i_vote (x : Ty.T (.pair (.list (.int .i64)) .unit)) : Option (Ty.T (.pair (.own 2 (.int .i64)) .unit)) :=
match loopL b_i_vote_3 (x.1, [], (x.1.length : Int), (0 : Int), ()) with
| none => none
| some (.inl v3) =>
 some (v3.1, ())
| some (.inr v5) =>
 none
noncomputable def S_i_vote : Spec := ⟨(.pair (.list (.int .i64)) .unit), (.pair (.own 2 (.int .i64)) .unit), .unit, rfl, i_vote⟩
noncomputable def σ_i_vote : FuncId → Option Spec := sig [(150, S_i_oneIf), (151, S_i_onesInWindow)]
theorem σok_i_vote : ∀ f s, σ_i_vote f = some s → FnOK G0 Tryz.prog f s := sig_ok ⟨ok_i_oneIf, ok_i_onesInWindow, trivial⟩
def q_i_vote_3 : LRow := ⟨[0, 3, 7, 8], (.pair (.list (.int .i64)) (.pair (.own 2 (.int .i64)) TCrc)), 0, [3], (.pair (.own 2 (.int .i64)) .unit), [], .unit⟩
noncomputable def ls_i_vote : List LSpec := [q_i_vote_3.spec b_i_vote_3]
theorem lok_i_vote_3 : Lok Γ0 E0 σ_i_vote (lam Tryz.f100 ls_i_vote) Tryz.f100 0 q_i_vote_3 b_i_vote_3 := fun x => by kernel_rfl
theorem ok_i_vote : FnOK G0 Tryz.prog 100 S_i_vote := fn_okS tab0 σok_i_vote Tryz.func100 ls_i_vote (by kernel_rfl) (by exact ⟨(lok_i_vote_3).lok, trivial⟩) fun x => by kernel_rfl

noncomputable def i_VoteSamples (x : Ty.T (.pair (.list (.int .i64)) .unit)) : Option (Ty.T (.pair (.own 2 (.int .i64)) (.pair (.int .i64) .unit))) :=
match i_IsBits (x.1, ()) with
| none => none
| some v1 =>
match (!v1.1) with
| true =>
 some ([], (1 : Int), ())
| false =>
 match i_vote (x.1, ()) with
 | none => none
 | some v2 =>
 some (v2.1, (0 : Int), ())
noncomputable def S_i_VoteSamples : Spec := ⟨(.pair (.list (.int .i64)) .unit), (.pair (.own 2 (.int .i64)) (.pair (.int .i64) .unit)), .unit, rfl, i_VoteSamples⟩
noncomputable def σ_i_VoteSamples : FuncId → Option Spec := sig [(29, S_i_IsBits), (100, S_i_vote)]
theorem σok_i_VoteSamples : ∀ f s, σ_i_VoteSamples f = some s → FnOK G0 Tryz.prog f s := sig_ok ⟨ok_i_IsBits, ok_i_vote, trivial⟩
theorem ok_i_VoteSamples : FnOK G0 Tryz.prog 75 S_i_VoteSamples := fn_okS tab0 σok_i_VoteSamples Tryz.func75 [] (by kernel_rfl) (by exact trivial) fun x => by kernel_rfl

noncomputable def b_i_decoding_nextAfter_2 (x : (Ty.T (.pair (.ptr Tdecoding) TCrc))) : Option ((Ty.T (.pair (.ptr Tdecoding) TCrc)) ⊕ ((Ty.T TCrc) ⊕ (Ty.T (.pair (.int .i64) .unit)))) :=
match (decide (x.2.1 < (x.1.1.length : Int))) with
| true =>
 onSome (idx x.1.1 x.2.1) fun v1 =>
 match (v1 == x.2.2.1) with
 | true =>
  some (.inr (.inr (x.2.1, ())))
 | false =>
  some (.inl (x.1, (IntKind.i64.wrap (x.2.1 + (1 : Int))), x.2.2.1, ()))
| false =>
 some (.inr (.inl (x.2.1, x.2.2.1, ())))
noncomputable def i_decoding_nextAfter (x : Ty.T (.pair (.ptr Tdecoding) TCrc)) : Option (Ty.T (.pair (.int .i64) .unit)) :=
match loopL b_i_decoding_nextAfter_2 (x.1, (IntKind.i64.wrap (x.2.1 + (1 : Int))), x.2.2.1, ()) with
| none => none
| some (.inl v2) =>
 match (v2.2.1 == (1 : Int)) with
 | true =>
  some (v2.1, ())
 | false =>
  some ((-1 : Int), ())
| some (.inr v3) =>
 some (v3.1, ())
noncomputable def S_i_decoding_nextAfter : Spec := ⟨(.pair (.ptr Tdecoding) TCrc), (.pair (.int .i64) .unit), .unit, rfl, i_decoding_nextAfter⟩
noncomputable def σ_i_decoding_nextAfter : FuncId → Option Spec := sig []
theorem σok_i_decoding_nextAfter : ∀ f s, σ_i_decoding_nextAfter f = some s → FnOK G0 Tryz.prog f s := sig_ok trivial
def q_i_decoding_nextAfter_2 : LRow := ⟨[0, 1, 2], (.pair (.ptr Tdecoding) TCrc), 0, [1, 2], TCrc, [6], (.pair (.int .i64) .unit)⟩
noncomputable def ls_i_decoding_nextAfter : List LSpec := [q_i_decoding_nextAfter_2.spec b_i_decoding_nextAfter_2]
theorem lok_i_decoding_nextAfter_2 : Lok Γ0 E0 σ_i_decoding_nextAfter (lam Tryz.f189 ls_i_decoding_nextAfter) Tryz.f189 0 q_i_decoding_nextAfter_2 b_i_decoding_nextAfter_2 := fun x => by kernel_rfl
theorem ok_i_decoding_nextAfter : FnOK G0 Tryz.prog 189 S_i_decoding_nextAfter := fn_okS tab0 σok_i_decoding_nextAfter Tryz.func189 ls_i_decoding_nextAfter (by kernel_rfl) (by exact ⟨(lok_i_decoding_nextAfter_2).lok, trivial⟩) fun x => by kernel_rfl

noncomputable def i_roundCells (x : Ty.T (.pair (.int .i64) .unit)) : Option (Ty.T (.pair (.int .i64) .unit)) :=
some ((IntKind.i64.wrap (Int.tdiv (IntKind.i64.wrap (x.1 + (4 : Int))) (8 : Int))), ())
noncomputable def S_i_roundCells : Spec := ⟨(.pair (.int .i64) .unit), (.pair (.int .i64) .unit), .unit, rfl, i_roundCells⟩
noncomputable def σ_i_roundCells : FuncId → Option Spec := sig []
theorem σok_i_roundCells : ∀ f s, σ_i_roundCells f = some s → FnOK G0 Tryz.prog f s := sig_ok trivial
theorem ok_i_roundCells : FnOK G0 Tryz.prog 190 S_i_roundCells := fn_okS tab0 σok_i_roundCells Tryz.func190 [] (by kernel_rfl) (by exact trivial) fun x => by kernel_rfl

noncomputable def i_isPreamble (x : Ty.T (.pair (.int .i64) .unit)) : Option (Ty.T (.pair .bool .unit)) :=
match i_within (x.1, (3 : Int), (15 : Int), ()) with
| none => none
| some v1 =>
some (v1.1, ())
noncomputable def S_i_isPreamble : Spec := ⟨(.pair (.int .i64) .unit), (.pair .bool .unit), .unit, rfl, i_isPreamble⟩
noncomputable def σ_i_isPreamble : FuncId → Option Spec := sig [(140, S_i_within)]
theorem σok_i_isPreamble : ∀ f s, σ_i_isPreamble f = some s → FnOK G0 Tryz.prog f s := sig_ok ⟨ok_i_within, trivial⟩
theorem ok_i_isPreamble : FnOK G0 Tryz.prog 191 S_i_isPreamble := fn_okS tab0 σok_i_isPreamble Tryz.func191 [] (by kernel_rfl) (by exact trivial) fun x => by kernel_rfl

noncomputable def i_decoding_sampleAt (x : Ty.T (.pair (.nptr Tdecoding) (.pair (.int .i64) .unit))) : Option (Ty.T (.pair (.int .i64) .unit)) :=
onSome x.1 fun v1 =>
match (decide (x.2.1 ≥ (v1.1.length : Int))) with
| true =>
 some ((1 : Int), ())
| false =>
 onSome x.1 fun v2 =>
 onSome (idx v2.1 x.2.1) fun v3 =>
 some (v3, ())
noncomputable def S_i_decoding_sampleAt : Spec := ⟨(.pair (.nptr Tdecoding) (.pair (.int .i64) .unit)), (.pair (.int .i64) .unit), .unit, rfl, i_decoding_sampleAt⟩
noncomputable def σ_i_decoding_sampleAt : FuncId → Option Spec := sig []
theorem σok_i_decoding_sampleAt : ∀ f s, σ_i_decoding_sampleAt f = some s → FnOK G0 Tryz.prog f s := sig_ok trivial
theorem ok_i_decoding_sampleAt : FnOK G0 Tryz.prog 103 S_i_decoding_sampleAt := fn_okS tab0 σok_i_decoding_sampleAt Tryz.func103 [] (by kernel_rfl) (by exact trivial) fun x => by kernel_rfl

noncomputable def b_i_decoding_bytesFrom_1 (x : (Ty.T (.pair (.box (.pair (.list (.int .i64)) (.pair (.int .i64) (.pair (.own 2 (.int .i64)) .unit)))) (.pair (.int .i64) .unit)))) : Option ((Ty.T (.pair (.box (.pair (.list (.int .i64)) (.pair (.int .i64) (.pair (.own 2 (.int .i64)) .unit)))) (.pair (.int .i64) .unit))) ⊕ ((Ty.T .unit) ⊕ (Ty.T (.pair (.box (.pair (.list (.int .i64)) (.pair (.int .i64) (.pair (.own 2 (.int .i64)) .unit)))) (.pair (.int .i64) .unit))))) :=
room (x.1.2.2.1.length + [x.2.1].length) (
 match i_decoding_sampleAt ((some (x.1.1, x.1.2.1, (x.1.2.2.1 ++ [x.2.1]), ())), (IntKind.i64.wrap (x.2.1 + (76 : Int))), ()) with
 | none => none
 | some v1 =>
 match (v1.1 == (0 : Int)) with
 | true =>
  some (.inr (.inr ((x.1.1, x.1.2.1, (x.1.2.2.1 ++ [x.2.1]), ()), (IntKind.i64.wrap (x.2.1 + (72 : Int))), ())))
 | false =>
  match i_decoding_nextAfter ((x.1.1, x.1.2.1, (x.1.2.2.1 ++ [x.2.1]), ()), (IntKind.i64.wrap (x.2.1 + (76 : Int))), (0 : Int), ()) with
  | none => none
  | some v2 =>
  match (decide (v2.1 < (0 : Int))) with
  | true =>
   some (.inr (.inr ((x.1.1, x.1.2.1, (x.1.2.2.1 ++ [x.2.1]), ()), (-1 : Int), ())))
  | false =>
   match (decide (v2.1 > (IntKind.i64.wrap ((IntKind.i64.wrap (x.2.1 + (76 : Int))) + (8 : Int))))) with
   | true =>
    some (.inr (.inr ((x.1.1, x.1.2.1, (x.1.2.2.1 ++ [x.2.1]), ()), (-1 : Int), ())))
   | false =>
    some (.inl ((x.1.1, x.1.2.1, (x.1.2.2.1 ++ [x.2.1]), ()), v2.1, ())))
noncomputable def i_decoding_bytesFrom (x : Ty.T (.pair (.box (.pair (.list (.int .i64)) (.pair (.int .i64) (.pair (.own 2 (.int .i64)) .unit)))) (.pair (.int .i64) .unit))) : Option (Ty.T (.pair (.int .i64) (.pair (.box (.pair (.list (.int .i64)) (.pair (.int .i64) (.pair (.own 2 (.int .i64)) .unit)))) .unit))) :=
match loopL b_i_decoding_bytesFrom_1 ((x.1.1, x.1.2.1, x.1.2.2.1, ()), x.2.1, ()) with
| none => none
| some (.inl v3) =>
 none
| some (.inr v4) =>
 some (v4.2.1, (v4.1.1, v4.1.2.1, v4.1.2.2.1, ()), ())
noncomputable def S_i_decoding_bytesFrom : Spec := ⟨(.pair (.box (.pair (.list (.int .i64)) (.pair (.int .i64) (.pair (.own 2 (.int .i64)) .unit)))) (.pair (.int .i64) .unit)), (.pair (.int .i64) .unit), (.pair (.box (.pair (.list (.int .i64)) (.pair (.int .i64) (.pair (.own 2 (.int .i64)) .unit)))) .unit), rfl, i_decoding_bytesFrom⟩
noncomputable def σ_i_decoding_bytesFrom : FuncId → Option Spec := sig [(103, S_i_decoding_sampleAt), (189, S_i_decoding_nextAfter)]
theorem σok_i_decoding_bytesFrom : ∀ f s, σ_i_decoding_bytesFrom f = some s → FnOK G0 Tryz.prog f s := sig_ok ⟨ok_i_decoding_sampleAt, ok_i_decoding_nextAfter, trivial⟩
def q_i_decoding_bytesFrom_1 : LRow := ⟨[0, 1], (.pair (.box (.pair (.list (.int .i64)) (.pair (.int .i64) (.pair (.own 2 (.int .i64)) .unit)))) (.pair (.int .i64) .unit)), 999999, [], .unit, [0, 4], (.pair (.box (.pair (.list (.int .i64)) (.pair (.int .i64) (.pair (.own 2 (.int .i64)) .unit)))) (.pair (.int .i64) .unit))⟩
noncomputable def ls_i_decoding_bytesFrom : List LSpec := [q_i_decoding_bytesFrom_1.spec b_i_decoding_bytesFrom_1]
theorem lok_i_decoding_bytesFrom_1 : Lok Γ0 E0 σ_i_decoding_bytesFrom (lam Tryz.f192 ls_i_decoding_bytesFrom) Tryz.f192 0 q_i_decoding_bytesFrom_1 b_i_decoding_bytesFrom_1 := fun x => by kernel_rfl
theorem ok_i_decoding_bytesFrom : FnOK G0 Tryz.prog 192 S_i_decoding_bytesFrom := fn_okS tab0 σok_i_decoding_bytesFrom Tryz.func192 ls_i_decoding_bytesFrom (by kernel_rfl) (by exact ⟨(lok_i_decoding_bytesFrom_1).lok, trivial⟩) fun x => by kernel_rfl

noncomputable def i_decoding_decode (x : Ty.T (.pair (.box (.pair (.list (.int .i64)) (.pair (.int .i64) (.pair (.own 2 (.int .i64)) .unit)))) .unit)) : Option (Ty.T (.pair (.int .i64) (.pair (.box (.pair (.list (.int .i64)) (.pair (.int .i64) (.pair (.own 2 (.int .i64)) .unit)))) .unit))) :=
match i_decoding_nextAfter ((x.1.1, x.1.2.1, x.1.2.2.1, ()), (-1 : Int), (0 : Int), ()) with
| none => none
| some v1 =>
match (decide (v1.1 < (0 : Int))) with
| true =>
 some ((4 : Int), (x.1.1, x.1.2.1, x.1.2.2.1, ()), ())
| false =>
 match i_decoding_nextAfter ((x.1.1, x.1.2.1, x.1.2.2.1, ()), v1.1, (1 : Int), ()) with
 | none => none
 | some v2 =>
 match i_roundCells ((IntKind.i64.wrap (v2.1 - v1.1)), ()) with
 | none => none
 | some v3 =>
 match i_isPreamble (v3.1, ()) with
 | none => none
 | some v4 =>
 match (!v4.1) with
 | true =>
  some ((6 : Int), (x.1.1, v3.1, x.1.2.2.1, ()), ())
 | false =>
  match i_decoding_nextAfter ((x.1.1, v3.1, x.1.2.2.1, ()), v2.1, (0 : Int), ()) with
  | none => none
  | some v5 =>
  match (decide (v5.1 < (0 : Int))) with
  | true =>
   some ((6 : Int), (x.1.1, v3.1, x.1.2.2.1, ()), ())
  | false =>
   match (decide ((IntKind.i64.wrap (v5.1 - v2.1)) > (19 : Int))) with
   | true =>
    some ((6 : Int), (x.1.1, v3.1, x.1.2.2.1, ()), ())
   | false =>
    match (decide ((IntKind.i64.wrap (v5.1 - v2.1)) < (5 : Int))) with
    | true =>
     some ((6 : Int), (x.1.1, v3.1, x.1.2.2.1, ()), ())
    | false =>
     match ((IntKind.i64.wrap (v5.1 - v2.1)) == (12 : Int)) with
     | true =>
      some ((6 : Int), (x.1.1, v3.1, x.1.2.2.1, ()), ())
     | false =>
      match (decide ((IntKind.i64.wrap (v5.1 - v2.1)) ≥ (13 : Int))) with
      | true =>
       match i_decoding_bytesFrom ((x.1.1, v3.1, x.1.2.2.1, ()), v5.1, ()) with
       | none => none
       | some v6 =>
       match (decide (v6.1 < (0 : Int))) with
       | true =>
        some ((6 : Int), (v6.2.1.1, v6.2.1.2.1, v6.2.1.2.2.1, ()), ())
       | false =>
        match i_decoding_nextAfter ((v6.2.1.1, v6.2.1.2.1, v6.2.1.2.2.1, ()), (IntKind.i64.wrap (v6.1 + (11 : Int))), (0 : Int), ()) with
        | none => none
        | some v7 =>
        match (decide (v7.1 ≥ (0 : Int))) with
        | true =>
         some ((6 : Int), (v6.2.1.1, v6.2.1.2.1, v6.2.1.2.2.1, ()), ())
        | false =>
         some ((0 : Int), (v6.2.1.1, v6.2.1.2.1, v6.2.1.2.2.1, ()), ())
      | false =>
       match i_decoding_nextAfter ((x.1.1, v3.1, x.1.2.2.1, ()), (IntKind.i64.wrap (v5.1 + (11 : Int))), (0 : Int), ()) with
       | none => none
       | some v8 =>
       match (decide (v8.1 ≥ (0 : Int))) with
       | true =>
        some ((6 : Int), (x.1.1, v3.1, x.1.2.2.1, ()), ())
       | false =>
        some ((0 : Int), (x.1.1, v3.1, x.1.2.2.1, ()), ())
noncomputable def S_i_decoding_decode : Spec := ⟨(.pair (.box (.pair (.list (.int .i64)) (.pair (.int .i64) (.pair (.own 2 (.int .i64)) .unit)))) .unit), (.pair (.int .i64) .unit), (.pair (.box (.pair (.list (.int .i64)) (.pair (.int .i64) (.pair (.own 2 (.int .i64)) .unit)))) .unit), rfl, i_decoding_decode⟩
noncomputable def σ_i_decoding_decode : FuncId → Option Spec := sig [(189, S_i_decoding_nextAfter), (190, S_i_roundCells), (191, S_i_isPreamble), (192, S_i_decoding_bytesFrom)]
theorem σok_i_decoding_decode : ∀ f s, σ_i_decoding_decode f = some s → FnOK G0 Tryz.prog f s := sig_ok ⟨ok_i_decoding_nextAfter, ok_i_roundCells, ok_i_isPreamble, ok_i_decoding_bytesFrom, trivial⟩
theorem ok_i_decoding_decode : FnOK G0 Tryz.prog 152 S_i_decoding_decode := fn_okS tab0 σok_i_decoding_decode Tryz.func152 [] (by kernel_rfl) (by exact trivial) fun x => by kernel_rfl

noncomputable def i_decodeVoted (x : Ty.T (.pair (.list (.int .i64)) .unit)) : Option (Ty.T (.pair (.nptr Tdecoding) (.pair (.int .i64) .unit))) :=
match i_IsBits (x.1, ()) with
| none => none
| some v1 =>
match (!v1.1) with
| true =>
 some (none, (1 : Int), ())
| false =>
 match i_decoding_decode ((x.1, (0 : Int), [], ()), ()) with
 | none => none
 | some v2 =>
 match (v2.1 != (0 : Int)) with
 | true =>
  some (none, v2.1, ())
 | false =>
  some ((some (v2.2.1.1, v2.2.1.2.1, v2.2.1.2.2.1, ())), (0 : Int), ())
noncomputable def S_i_decodeVoted : Spec := ⟨(.pair (.list (.int .i64)) .unit), (.pair (.nptr Tdecoding) (.pair (.int .i64) .unit)), .unit, rfl, i_decodeVoted⟩
noncomputable def σ_i_decodeVoted : FuncId → Option Spec := sig [(29, S_i_IsBits), (152, S_i_decoding_decode)]
theorem σok_i_decodeVoted : ∀ f s, σ_i_decodeVoted f = some s → FnOK G0 Tryz.prog f s := sig_ok ⟨ok_i_IsBits, ok_i_decoding_decode, trivial⟩
theorem ok_i_decodeVoted : FnOK G0 Tryz.prog 101 S_i_decodeVoted := fn_okS tab0 σok_i_decodeVoted Tryz.func101 [] (by kernel_rfl) (by exact trivial) fun x => by kernel_rfl

noncomputable def b_i_strobes_3 (x : (Ty.T (.pair (.int .i64) (.pair (.own 2 (.int .i64)) (.pair (.int .i64) .unit))))) : Option ((Ty.T (.pair (.int .i64) (.pair (.own 2 (.int .i64)) (.pair (.int .i64) .unit)))) ⊕ ((Ty.T (.pair (.own 2 (.int .i64)) .unit)) ⊕ (Ty.T .unit))) :=
match (decide (x.2.2.1 < (9 : Int))) with
| true =>
 room (x.2.1.length + [(IntKind.i64.wrap ((IntKind.i64.wrap (x.1 + (IntKind.i64.wrap ((8 : Int) * x.2.2.1)))) + (12 : Int)))].length) (
  some (.inl (x.1, (x.2.1 ++ [(IntKind.i64.wrap ((IntKind.i64.wrap (x.1 + (IntKind.i64.wrap ((8 : Int) * x.2.2.1)))) + (12 : Int)))]), (IntKind.i64.wrap (x.2.2.1 + (1 : Int))), ())))
| false =>
 some (.inr (.inl (x.2.1, ())))
noncomputable def i_strobes (x : Ty.T (.pair (.int .i64) .unit)) : Option (Ty.T (.pair (.own 2 (.int .i64)) .unit)) :=
match loopL b_i_strobes_3 (x.1, [], (0 : Int), ()) with
| none => none
| some (.inl v1) =>
 some (v1.1, ())
| some (.inr v3) =>
 none
noncomputable def S_i_strobes : Spec := ⟨(.pair (.int .i64) .unit), (.pair (.own 2 (.int .i64)) .unit), .unit, rfl, i_strobes⟩
noncomputable def σ_i_strobes : FuncId → Option Spec := sig []
theorem σok_i_strobes : ∀ f s, σ_i_strobes f = some s → FnOK G0 Tryz.prog f s := sig_ok trivial
def q_i_strobes_3 : LRow := ⟨[0, 3, 6], (.pair (.int .i64) (.pair (.own 2 (.int .i64)) (.pair (.int .i64) .unit))), 0, [3], (.pair (.own 2 (.int .i64)) .unit), [], .unit⟩
noncomputable def ls_i_strobes : List LSpec := [q_i_strobes_3.spec b_i_strobes_3]
theorem lok_i_strobes_3 : Lok Γ0 E0 σ_i_strobes (lam Tryz.f102 ls_i_strobes) Tryz.f102 0 q_i_strobes_3 b_i_strobes_3 := fun x => by kernel_rfl
theorem ok_i_strobes : FnOK G0 Tryz.prog 102 S_i_strobes := fn_okS tab0 σok_i_strobes Tryz.func102 ls_i_strobes (by kernel_rfl) (by exact ⟨(lok_i_strobes_3).lok, trivial⟩) fun x => by kernel_rfl

noncomputable def b_i_DecodeVoted_10 (x : (Ty.T (.pair (.nptr Tdecoding) (.pair (.own 2 (.int .i64)) (.pair (.int .i64) (.pair (.list (.int .i64)) (.pair (.int .i64) (.pair (.int .i64) (.pair (.own 2 (.int .i64)) TCrc))))))))) : Option ((Ty.T (.pair (.nptr Tdecoding) (.pair (.own 2 (.int .i64)) (.pair (.int .i64) (.pair (.list (.int .i64)) (.pair (.int .i64) (.pair (.int .i64) (.pair (.own 2 (.int .i64)) TCrc)))))))) ⊕ ((Ty.T (.pair (.nptr Tdecoding) (.pair (.own 2 (.int .i64)) (.pair (.int .i64) (.pair (.list (.int .i64)) TCrc))))) ⊕ (Ty.T .unit))) :=
match (decide (x.2.2.2.2.2.2.2.2.1 < x.2.2.2.2.2.2.2.1)) with
| true =>
 onSome (idx x.2.2.2.2.2.2.1 x.2.2.2.2.2.2.2.2.1) fun _ =>
 match x.2.2.2.2.2.2.1[x.2.2.2.2.2.2.2.2.1.toNat]? with
 | none => none
 | some v7 =>
 match i_decoding_sampleAt (x.1, v7, ()) with
 | none => none
 | some v8 =>
 some (.inl (x.1, x.2.1, (IntKind.i64.wrap ((IntKind.i64.wrap ((2 : Int) * x.2.2.1)) + v8.1)), x.2.2.2.1, x.2.2.2.2.1, x.2.2.2.2.2.1, x.2.2.2.2.2.2.1, x.2.2.2.2.2.2.2.1, (IntKind.i64.wrap (x.2.2.2.2.2.2.2.2.1 + (1 : Int))), ()))
| false =>
 some (.inr (.inl (x.1, x.2.1, x.2.2.1, x.2.2.2.1, x.2.2.2.2.1, x.2.2.2.2.2.1, ())))
noncomputable def b_i_DecodeVoted_6 (x : (Ty.T (.pair (.nptr Tdecoding) (.pair (.own 2 (.int .i64)) (.pair (.list (.int .i64)) TCrc))))) : Option ((Ty.T (.pair (.nptr Tdecoding) (.pair (.own 2 (.int .i64)) (.pair (.list (.int .i64)) TCrc)))) ⊕ ((Ty.T (.pair (.own 2 (.int .i64)) .unit)) ⊕ (Ty.T .unit))) :=
match (decide (x.2.2.2.2.1 < x.2.2.2.1)) with
| true =>
 onSome (idx x.2.2.1 x.2.2.2.2.1) fun v3 =>
 match i_strobes (v3, ()) with
 | none => none
 | some v4 =>
 onSome (bounds v4.1.length none (some (.dat (.int .i64) (8 : Int)))) fun v5 =>
 match loopL b_i_DecodeVoted_10 (x.1, x.2.1, (0 : Int), x.2.2.1, x.2.2.2.1, x.2.2.2.2.1, (List.take v5.2 v4.1), ((List.take v5.2 v4.1).length : Int), (0 : Int), ()) with
 | none => none
 | some (.inl v6) =>
  room (v6.2.1.length + [v6.2.2.1].length) (
   some (.inl (v6.1, (v6.2.1 ++ [v6.2.2.1]), v6.2.2.2.1, v6.2.2.2.2.1, (IntKind.i64.wrap (v6.2.2.2.2.2.1 + (1 : Int))), ())))
 | some (.inr v8) =>
  some (.inr (.inr (())))
| false =>
 some (.inr (.inl (x.2.1, ())))
noncomputable def i_DecodeVoted (x : Ty.T (.pair (.list (.int .i64)) .unit)) : Option (Ty.T (.pair (.own 2 (.int .i64)) (.pair (.int .i64) .unit))) :=
match i_decodeVoted (x.1, ()) with
| none => none
| some v1 =>
match (v1.2.1 != (0 : Int)) with
| true =>
 some ([], v1.2.1, ())
| false =>
 onSome v1.1 fun v2 =>
 match loopL b_i_DecodeVoted_6 (v1.1, [], v2.2.2.1, (v2.2.2.1.length : Int), (0 : Int), ()) with
 | none => none
 | some (.inl v9) =>
  some (v9.1, (0 : Int), ())
 | some (.inr v11) =>
  none
noncomputable def S_i_DecodeVoted : Spec := ⟨(.pair (.list (.int .i64)) .unit), (.pair (.own 2 (.int .i64)) (.pair (.int .i64) .unit)), .unit, rfl, i_DecodeVoted⟩
noncomputable def σ_i_DecodeVoted : FuncId → Option Spec := sig [(101, S_i_decodeVoted), (102, S_i_strobes), (103, S_i_decoding_sampleAt)]
theorem σok_i_DecodeVoted : ∀ f s, σ_i_DecodeVoted f = some s → FnOK G0 Tryz.prog f s := sig_ok ⟨ok_i_decodeVoted, ok_i_strobes, ok_i_decoding_sampleAt, trivial⟩
def q_i_DecodeVoted_6 : LRow := ⟨[4, 6, 24, 25, 26], (.pair (.nptr Tdecoding) (.pair (.own 2 (.int .i64)) (.pair (.list (.int .i64)) TCrc))), 0, [6], (.pair (.own 2 (.int .i64)) .unit), [], .unit⟩
def q_i_DecodeVoted_10 : LRow := ⟨[4, 6, 9, 24, 25, 26, 32, 33, 34], (.pair (.nptr Tdecoding) (.pair (.own 2 (.int .i64)) (.pair (.int .i64) (.pair (.list (.int .i64)) (.pair (.int .i64) (.pair (.int .i64) (.pair (.own 2 (.int .i64)) TCrc))))))), 2, [4, 6, 9, 24, 25, 26], (.pair (.nptr Tdecoding) (.pair (.own 2 (.int .i64)) (.pair (.int .i64) (.pair (.list (.int .i64)) TCrc)))), [], .unit⟩
noncomputable def ls_i_DecodeVoted : List LSpec := [q_i_DecodeVoted_6.spec b_i_DecodeVoted_6, q_i_DecodeVoted_10.spec b_i_DecodeVoted_10]
theorem lok_i_DecodeVoted_6 : Lok Γ0 E0 σ_i_DecodeVoted (lam Tryz.f76 ls_i_DecodeVoted) Tryz.f76 0 q_i_DecodeVoted_6 b_i_DecodeVoted_6 := fun x => by kernel_rfl
theorem lok_i_DecodeVoted_10 : Lok Γ0 E0 σ_i_DecodeVoted (lam Tryz.f76 ls_i_DecodeVoted) Tryz.f76 1 q_i_DecodeVoted_10 b_i_DecodeVoted_10 := fun x => by kernel_rfl
theorem ok_i_DecodeVoted : FnOK G0 Tryz.prog 76 S_i_DecodeVoted := fn_okS tab0 σok_i_DecodeVoted Tryz.func76 ls_i_DecodeVoted (by kernel_rfl) (by exact ⟨(lok_i_DecodeVoted_6).lok, (lok_i_DecodeVoted_10).lok, trivial⟩) fun x => by kernel_rfl

noncomputable def i_DecodeSamples (x : Ty.T (.pair (.list (.int .i64)) .unit)) : Option (Ty.T (.pair (.own 2 (.int .i64)) (.pair (.int .i64) .unit))) :=
match i_VoteSamples (x.1, ()) with
| none => none
| some v1 =>
match (v1.2.1 != (0 : Int)) with
| true =>
 some ([], v1.2.1, ())
| false =>
 match i_DecodeVoted (v1.1, ()) with
 | none => none
 | some v2 =>
 some (v2.1, v2.2.1, ())
noncomputable def S_i_DecodeSamples : Spec := ⟨(.pair (.list (.int .i64)) .unit), (.pair (.own 2 (.int .i64)) (.pair (.int .i64) .unit)), .unit, rfl, i_DecodeSamples⟩
noncomputable def σ_i_DecodeSamples : FuncId → Option Spec := sig [(75, S_i_VoteSamples), (76, S_i_DecodeVoted)]
theorem σok_i_DecodeSamples : ∀ f s, σ_i_DecodeSamples f = some s → FnOK G0 Tryz.prog f s := sig_ok ⟨ok_i_VoteSamples, ok_i_DecodeVoted, trivial⟩
theorem ok_i_DecodeSamples : FnOK G0 Tryz.prog 53 S_i_DecodeSamples := fn_okS tab0 σok_i_DecodeSamples Tryz.func53 [] (by kernel_rfl) (by exact trivial) fun x => by kernel_rfl

noncomputable def i_isId (x : Ty.T (.pair (.int .i64) .unit)) : Option (Ty.T (.pair .bool .unit)) :=
match i_within (x.1, (0 : Int), (16777215 : Int), ()) with
| none => none
| some v1 =>
some (v1.1, ())
noncomputable def S_i_isId : Spec := ⟨(.pair (.int .i64) .unit), (.pair .bool .unit), .unit, rfl, i_isId⟩
noncomputable def σ_i_isId : FuncId → Option Spec := sig [(140, S_i_within)]
theorem σok_i_isId : ∀ f s, σ_i_isId f = some s → FnOK G0 Tryz.prog f s := sig_ok ⟨ok_i_within, trivial⟩
theorem ok_i_isId : FnOK G0 Tryz.prog 104 S_i_isId := fn_okS tab0 σok_i_isId Tryz.func104 [] (by kernel_rfl) (by exact trivial) fun x => by kernel_rfl

noncomputable def i_IsBytes (x : Ty.T (.pair (.list (.int .i64)) .unit)) : Option (Ty.T (.pair .bool .unit)) :=
match (decide ((x.1.length : Int) ≤ (1024 : Int))) with
| true =>
 match i_allWithin (x.1, (0 : Int), (255 : Int), ()) with
 | none => none
 | some v1 =>
 some (v1.1, ())
| false =>
 some (false, ())
noncomputable def S_i_IsBytes : Spec := ⟨(.pair (.list (.int .i64)) .unit), (.pair .bool .unit), .unit, rfl, i_IsBytes⟩
noncomputable def σ_i_IsBytes : FuncId → Option Spec := sig [(52, S_i_allWithin)]
theorem σok_i_IsBytes : ∀ f s, σ_i_IsBytes f = some s → FnOK G0 Tryz.prog f s := sig_ok ⟨ok_i_allWithin, trivial⟩
theorem ok_i_IsBytes : FnOK G0 Tryz.prog 105 S_i_IsBytes := fn_okS tab0 σok_i_IsBytes Tryz.func105 [] (by kernel_rfl) (by exact trivial) fun x => by kernel_rfl

noncomputable def b_slices_Equal_int64_4 (x : (Ty.T (.pair (.list (.int .i64)) (.pair (.list (.int .i64)) TCrc)))) : Option ((Ty.T (.pair (.list (.int .i64)) (.pair (.list (.int .i64)) TCrc))) ⊕ ((Ty.T .unit) ⊕ (Ty.T (.pair .bool .unit)))) :=
match (decide (x.2.2.2.1 < x.2.2.1)) with
| true =>
 onSome (idx x.1 x.2.2.2.1) fun v1 =>
 onSome (idx x.2.1 x.2.2.2.1) fun v2 =>
 match (v1 != v2) with
 | true =>
  some (.inr (.inr (false, ())))
 | false =>
  some (.inl (x.1, x.2.1, x.2.2.1, (IntKind.i64.wrap (x.2.2.2.1 + (1 : Int))), ()))
| false =>
 some (.inr (.inl (())))
noncomputable def slices_Equal_int64 (x : Ty.T (.pair (.list (.int .i64)) (.pair (.list (.int .i64)) .unit))) : Option (Ty.T (.pair .bool .unit)) :=
match ((x.1.length : Int) != (x.2.1.length : Int)) with
| true =>
 some (false, ())
| false =>
 match loopL b_slices_Equal_int64_4 (x.1, x.2.1, (x.1.length : Int), (0 : Int), ()) with
 | none => none
 | some (.inl v3) =>
  some (true, ())
 | some (.inr v4) =>
  some (v4.1, ())
noncomputable def S_slices_Equal_int64 : Spec := ⟨(.pair (.list (.int .i64)) (.pair (.list (.int .i64)) .unit)), (.pair .bool .unit), .unit, rfl, slices_Equal_int64⟩
noncomputable def σ_slices_Equal_int64 : FuncId → Option Spec := sig []
theorem σok_slices_Equal_int64 : ∀ f s, σ_slices_Equal_int64 f = some s → FnOK G0 Tryz.prog f s := sig_ok trivial
def q_slices_Equal_int64_4 : LRow := ⟨[0, 1, 12, 13], (.pair (.list (.int .i64)) (.pair (.list (.int .i64)) TCrc)), 0, [], .unit, [4], (.pair .bool .unit)⟩
noncomputable def ls_slices_Equal_int64 : List LSpec := [q_slices_Equal_int64_4.spec b_slices_Equal_int64_4]
theorem lok_slices_Equal_int64_4 : Lok Γ0 E0 σ_slices_Equal_int64 (lam Tryz.f106 ls_slices_Equal_int64) Tryz.f106 0 q_slices_Equal_int64_4 b_slices_Equal_int64_4 := fun x => by kernel_rfl
theorem ok_slices_Equal_int64 : FnOK G0 Tryz.prog 106 S_slices_Equal_int64 := fn_okS tab0 σok_slices_Equal_int64 Tryz.func106 ls_slices_Equal_int64 (by kernel_rfl) (by exact ⟨(lok_slices_Equal_int64_4).lok, trivial⟩) fun x => by kernel_rfl

noncomputable def i_threeBytes (x : Ty.T (.pair (.int .i64) .unit)) : Option (Ty.T (.pair (.own 2 (.int .i64)) .unit)) :=
some ([(Int.fdiv x.1 (2 ^ min (16 : Int).toNat IntKind.i64.bits)), (bits BinOp.and .i64 (Int.fdiv x.1 (2 ^ min (8 : Int).toNat IntKind.i64.bits)) (255 : Int)), (bits BinOp.and .i64 x.1 (255 : Int))], ())
noncomputable def S_i_threeBytes : Spec := ⟨(.pair (.int .i64) .unit), (.pair (.own 2 (.int .i64)) .unit), .unit, rfl, i_threeBytes⟩
noncomputable def σ_i_threeBytes : FuncId → Option Spec := sig []
theorem σok_i_threeBytes : ∀ f s, σ_i_threeBytes f = some s → FnOK G0 Tryz.prog f s := sig_ok trivial
theorem ok_i_threeBytes : FnOK G0 Tryz.prog 107 S_i_threeBytes := fn_okS tab0 σok_i_threeBytes Tryz.func107 [] (by kernel_rfl) (by exact trivial) fun x => by kernel_rfl

noncomputable def i_StandardCrc (x : Ty.T .unit) : Option (Ty.T (.pair TCrc .unit)) :=
some (((24 : Int), (6122955 : Int), ()), ())
noncomputable def S_i_StandardCrc : Spec := ⟨.unit, (.pair TCrc .unit), .unit, rfl, i_StandardCrc⟩
noncomputable def σ_i_StandardCrc : FuncId → Option Spec := sig []
theorem σok_i_StandardCrc : ∀ f s, σ_i_StandardCrc f = some s → FnOK G0 Tryz.prog f s := sig_ok trivial
theorem ok_i_StandardCrc : FnOK G0 Tryz.prog 153 S_i_StandardCrc := fn_okS tab0 σok_i_StandardCrc Tryz.func153 [] (by kernel_rfl) (by exact trivial) fun x => by kernel_rfl

noncomputable def b_i_Crc_feed_2 (x : (Ty.T (.pair (.int .i64) (.pair (.box TCrc) (.pair (.list (.int .i64)) TCrc))))) : Option ((Ty.T (.pair (.int .i64) (.pair (.box TCrc) (.pair (.list (.int .i64)) TCrc)))) ⊕ ((Ty.T (.pair (.int .i64) .unit)) ⊕ (Ty.T .unit))) :=
match (decide (x.2.2.2.2.1 < x.2.2.2.1)) with
| true =>
 onSome (idx x.2.2.1 x.2.2.2.2.1) fun v1 =>
 if (IntKind.i64.wrap (x.2.1.1 - (1 : Int))) < 0 then none else
 if x.2.1.1 < 0 then none else
 match ((bits BinOp.xor .i64 v1 (Int.fdiv x.1 (2 ^ min (IntKind.i64.wrap (x.2.1.1 - (1 : Int))).toNat IntKind.i64.bits))) == (1 : Int)) with
 | true =>
  some (.inl ((bits BinOp.xor .i64 (bits BinOp.and .i64 (IntKind.i64.wrap (x.1 * 2 ^ min (1 : Int).toNat IntKind.i64.bits)) (IntKind.i64.wrap ((IntKind.i64.wrap ((1 : Int) * 2 ^ min x.2.1.1.toNat IntKind.i64.bits)) - (1 : Int)))) x.2.1.2.1), (x.2.1.1, x.2.1.2.1, ()), x.2.2.1, x.2.2.2.1, (IntKind.i64.wrap (x.2.2.2.2.1 + (1 : Int))), ()))
 | false =>
  some (.inl ((bits BinOp.and .i64 (IntKind.i64.wrap (x.1 * 2 ^ min (1 : Int).toNat IntKind.i64.bits)) (IntKind.i64.wrap ((IntKind.i64.wrap ((1 : Int) * 2 ^ min x.2.1.1.toNat IntKind.i64.bits)) - (1 : Int)))), (x.2.1.1, x.2.1.2.1, ()), x.2.2.1, x.2.2.2.1, (IntKind.i64.wrap (x.2.2.2.2.1 + (1 : Int))), ()))
| false =>
 some (.inr (.inl (x.1, ())))
noncomputable def i_Crc_feed (x : Ty.T (.pair TCrc (.pair (.int .i64) (.pair (.list (.int .i64)) .unit)))) : Option (Ty.T (.pair (.int .i64) .unit)) :=
match loopL b_i_Crc_feed_2 (x.2.1, (x.1.1, x.1.2.1, ()), x.2.2.1, (x.2.2.1.length : Int), (0 : Int), ()) with
| none => none
| some (.inl v2) =>
 some (v2.1, ())
| some (.inr v4) =>
 none
noncomputable def S_i_Crc_feed : Spec := ⟨(.pair TCrc (.pair (.int .i64) (.pair (.list (.int .i64)) .unit))), (.pair (.int .i64) .unit), .unit, rfl, i_Crc_feed⟩
noncomputable def σ_i_Crc_feed : FuncId → Option Spec := sig []
theorem σok_i_Crc_feed : ∀ f s, σ_i_Crc_feed f = some s → FnOK G0 Tryz.prog f s := sig_ok trivial
def q_i_Crc_feed_2 : LRow := ⟨[1, 3, 10, 11, 12], (.pair (.int .i64) (.pair (.box TCrc) (.pair (.list (.int .i64)) TCrc))), 0, [1], (.pair (.int .i64) .unit), [], .unit⟩
noncomputable def ls_i_Crc_feed : List LSpec := [q_i_Crc_feed_2.spec b_i_Crc_feed_2]
theorem lok_i_Crc_feed_2 : Lok Γ0 E0 σ_i_Crc_feed (lam Tryz.f154 ls_i_Crc_feed) Tryz.f154 0 q_i_Crc_feed_2 b_i_Crc_feed_2 := fun x => by kernel_rfl
theorem ok_i_Crc_feed : FnOK G0 Tryz.prog 154 S_i_Crc_feed := fn_okS tab0 σok_i_Crc_feed Tryz.func154 ls_i_Crc_feed (by kernel_rfl) (by exact ⟨(lok_i_Crc_feed_2).lok, trivial⟩) fun x => by kernel_rfl

noncomputable def b_i_appendNumber_2 (x : (Ty.T (.pair (.own 2 (.int .i64)) TCrc))) : Option ((Ty.T (.pair (.own 2 (.int .i64)) TCrc)) ⊕ ((Ty.T (.pair (.own 2 (.int .i64)) .unit)) ⊕ (Ty.T .unit))) :=
match (decide (x.2.2.1 ≥ (0 : Int))) with
| true =>
 if x.2.2.1 < 0 then none else
 room (x.1.length + [(bits BinOp.and .i64 (Int.fdiv x.2.1 (2 ^ min x.2.2.1.toNat IntKind.i64.bits)) (1 : Int))].length) (
  some (.inl ((x.1 ++ [(bits BinOp.and .i64 (Int.fdiv x.2.1 (2 ^ min x.2.2.1.toNat IntKind.i64.bits)) (1 : Int))]), x.2.1, (IntKind.i64.wrap (x.2.2.1 - (1 : Int))), ())))
| false =>
 some (.inr (.inl (x.1, ())))
noncomputable def i_appendNumber (x : Ty.T (.pair (.own 2 (.int .i64)) TCrc)) : Option (Ty.T (.pair (.own 2 (.int .i64)) .unit)) :=
match loopL b_i_appendNumber_2 (x.1, x.2.1, (IntKind.i64.wrap (x.2.2.1 - (1 : Int))), ()) with
| none => none
| some (.inl v1) =>
 some (v1.1, ())
| some (.inr v3) =>
 none
noncomputable def S_i_appendNumber : Spec := ⟨(.pair (.own 2 (.int .i64)) TCrc), (.pair (.own 2 (.int .i64)) .unit), .unit, rfl, i_appendNumber⟩
noncomputable def σ_i_appendNumber : FuncId → Option Spec := sig []
theorem σok_i_appendNumber : ∀ f s, σ_i_appendNumber f = some s → FnOK G0 Tryz.prog f s := sig_ok trivial
def q_i_appendNumber_2 : LRow := ⟨[0, 1, 7], (.pair (.own 2 (.int .i64)) TCrc), 0, [0], (.pair (.own 2 (.int .i64)) .unit), [], .unit⟩
noncomputable def ls_i_appendNumber : List LSpec := [q_i_appendNumber_2.spec b_i_appendNumber_2]
theorem lok_i_appendNumber_2 : Lok Γ0 E0 σ_i_appendNumber (lam Tryz.f193 ls_i_appendNumber) Tryz.f193 0 q_i_appendNumber_2 b_i_appendNumber_2 := fun x => by kernel_rfl
theorem ok_i_appendNumber : FnOK G0 Tryz.prog 193 S_i_appendNumber := fn_okS tab0 σok_i_appendNumber Tryz.func193 ls_i_appendNumber (by kernel_rfl) (by exact ⟨(lok_i_appendNumber_2).lok, trivial⟩) fun x => by kernel_rfl

noncomputable def i_stateBits (x : Ty.T (.pair TState .unit)) : Option (Ty.T (.pair (.own 2 (.int .i64)) .unit)) :=
match i_appendNumber ([], x.1.1, (16 : Int), ()) with
| none => none
| some v1 =>
match i_appendNumber (v1.1, x.1.2.1, (4 : Int), ()) with
| none => none
| some v2 =>
match i_appendNumber (v2.1, x.1.2.2.1, (4 : Int), ()) with
| none => none
| some v3 =>
match i_appendNumber (v3.1, x.1.2.2.2.1, (8 : Int), ()) with
| none => none
| some v4 =>
match i_appendNumber (v4.1, x.1.2.2.2.2.1, (32 : Int), ()) with
| none => none
| some v5 =>
some (v5.1, ())
noncomputable def S_i_stateBits : Spec := ⟨(.pair TState .unit), (.pair (.own 2 (.int .i64)) .unit), .unit, rfl, i_stateBits⟩
noncomputable def σ_i_stateBits : FuncId → Option Spec := sig [(193, S_i_appendNumber)]
theorem σok_i_stateBits : ∀ f s, σ_i_stateBits f = some s → FnOK G0 Tryz.prog f s := sig_ok ⟨ok_i_appendNumber, trivial⟩
theorem ok_i_stateBits : FnOK G0 Tryz.prog 155 S_i_stateBits := fn_okS tab0 σok_i_stateBits Tryz.func155 [] (by kernel_rfl) (by exact trivial) fun x => by kernel_rfl

noncomputable def b_i_toBits_3 (x : (Ty.T (.pair (.own 2 (.int .i64)) (.pair (.list (.int .i64)) TCrc)))) : Option ((Ty.T (.pair (.own 2 (.int .i64)) (.pair (.list (.int .i64)) TCrc))) ⊕ ((Ty.T (.pair (.own 2 (.int .i64)) .unit)) ⊕ (Ty.T .unit))) :=
match (decide (x.2.2.2.1 < x.2.2.1)) with
| true =>
 onSome (idx x.2.1 x.2.2.2.1) fun v1 =>
 match i_appendNumber (x.1, v1, (8 : Int), ()) with
 | none => none
 | some v2 =>
 some (.inl (v2.1, x.2.1, x.2.2.1, (IntKind.i64.wrap (x.2.2.2.1 + (1 : Int))), ()))
| false =>
 some (.inr (.inl (x.1, ())))
noncomputable def i_toBits (x : Ty.T (.pair (.list (.int .i64)) .unit)) : Option (Ty.T (.pair (.own 2 (.int .i64)) .unit)) :=
match loopL b_i_toBits_3 ([], x.1, (x.1.length : Int), (0 : Int), ()) with
| none => none
| some (.inl v3) =>
 some (v3.1, ())
| some (.inr v5) =>
 none
noncomputable def S_i_toBits : Spec := ⟨(.pair (.list (.int .i64)) .unit), (.pair (.own 2 (.int .i64)) .unit), .unit, rfl, i_toBits⟩
noncomputable def σ_i_toBits : FuncId → Option Spec := sig [(193, S_i_appendNumber)]
theorem σok_i_toBits : ∀ f s, σ_i_toBits f = some s → FnOK G0 Tryz.prog f s := sig_ok ⟨ok_i_appendNumber, trivial⟩
def q_i_toBits_3 : LRow := ⟨[3, 7, 8, 9], (.pair (.own 2 (.int .i64)) (.pair (.list (.int .i64)) TCrc)), 0, [3], (.pair (.own 2 (.int .i64)) .unit), [], .unit⟩
noncomputable def ls_i_toBits : List LSpec := [q_i_toBits_3.spec b_i_toBits_3]
theorem lok_i_toBits_3 : Lok Γ0 E0 σ_i_toBits (lam Tryz.f156 ls_i_toBits) Tryz.f156 0 q_i_toBits_3 b_i_toBits_3 := fun x => by kernel_rfl
theorem ok_i_toBits : FnOK G0 Tryz.prog 156 S_i_toBits := fn_okS tab0 σok_i_toBits Tryz.func156 ls_i_toBits (by kernel_rfl) (by exact ⟨(lok_i_toBits_3).lok, trivial⟩) fun x => by kernel_rfl

noncomputable def i_checkNumber (x : Ty.T (.pair (.int .i64) (.pair (.list (.int .i64)) (.pair (.int .i64) (.pair TState .unit))))) : Option (Ty.T (.pair (.int .i64) .unit)) :=
match (x.1 == (0 : Int)) with
| true =>
 match i_StandardCrc (()) with
 | none => none
 | some v1 =>
 match i_stateBits ((x.2.2.2.1.1, x.2.2.2.1.2.1, x.2.2.2.1.2.2.1, x.2.2.2.1.2.2.2.1, x.2.2.2.1.2.2.2.2.1, ()), ()) with
 | none => none
 | some v2 =>
 match i_Crc_feed (v1.1, x.2.2.1, v2.1, ()) with
 | none => none
 | some v3 =>
 match i_StandardCrc (()) with
 | none => none
 | some v4 =>
 match i_toBits (x.2.1, ()) with
 | none => none
 | some v5 =>
 match i_Crc_feed (v4.1, v3.1, v5.1, ()) with
 | none => none
 | some v6 =>
 some (v6.1, ())
| false =>
 match i_StandardCrc (()) with
 | none => none
 | some v7 =>
 match i_toBits (x.2.1, ()) with
 | none => none
 | some v8 =>
 match i_Crc_feed (v7.1, x.2.2.1, v8.1, ()) with
 | none => none
 | some v9 =>
 some (v9.1, ())
noncomputable def S_i_checkNumber : Spec := ⟨(.pair (.int .i64) (.pair (.list (.int .i64)) (.pair (.int .i64) (.pair TState .unit)))), (.pair (.int .i64) .unit), .unit, rfl, i_checkNumber⟩
noncomputable def σ_i_checkNumber : FuncId → Option Spec := sig [(153, S_i_StandardCrc), (154, S_i_Crc_feed), (155, S_i_stateBits), (156, S_i_toBits)]
theorem σok_i_checkNumber : ∀ f s, σ_i_checkNumber f = some s → FnOK G0 Tryz.prog f s := sig_ok ⟨ok_i_StandardCrc, ok_i_Crc_feed, ok_i_stateBits, ok_i_toBits, trivial⟩
theorem ok_i_checkNumber : FnOK G0 Tryz.prog 108 S_i_checkNumber := fn_okS tab0 σok_i_checkNumber Tryz.func108 [] (by kernel_rfl) (by exact trivial) fun x => by kernel_rfl

noncomputable def b_i_numberOf_3 (x : (Ty.T (.pair (.int .i64) (.pair (.list (.int .i64)) TCrc)))) : Option ((Ty.T (.pair (.int .i64) (.pair (.list (.int .i64)) TCrc))) ⊕ ((Ty.T (.pair (.int .i64) .unit)) ⊕ (Ty.T .unit))) :=
match (decide (x.2.2.2.1 < x.2.2.1)) with
| true =>
 onSome (idx x.2.1 x.2.2.2.1) fun v1 =>
 some (.inl ((IntKind.i64.wrap ((IntKind.i64.wrap ((2 : Int) * x.1)) + v1)), x.2.1, x.2.2.1, (IntKind.i64.wrap (x.2.2.2.1 + (1 : Int))), ()))
| false =>
 some (.inr (.inl (x.1, ())))
noncomputable def i_numberOf (x : Ty.T (.pair (.list (.int .i64)) .unit)) : Option (Ty.T (.pair (.int .i64) .unit)) :=
match loopL b_i_numberOf_3 ((0 : Int), x.1, (x.1.length : Int), (0 : Int), ()) with
| none => none
| some (.inl v2) =>
 some (v2.1, ())
| some (.inr v4) =>
 none
noncomputable def S_i_numberOf : Spec := ⟨(.pair (.list (.int .i64)) .unit), (.pair (.int .i64) .unit), .unit, rfl, i_numberOf⟩
noncomputable def σ_i_numberOf : FuncId → Option Spec := sig []
theorem σok_i_numberOf : ∀ f s, σ_i_numberOf f = some s → FnOK G0 Tryz.prog f s := sig_ok trivial
def q_i_numberOf_3 : LRow := ⟨[3, 6, 7, 8], (.pair (.int .i64) (.pair (.list (.int .i64)) TCrc)), 0, [3], (.pair (.int .i64) .unit), [], .unit⟩
noncomputable def ls_i_numberOf : List LSpec := [q_i_numberOf_3.spec b_i_numberOf_3]
theorem lok_i_numberOf_3 : Lok Γ0 E0 σ_i_numberOf (lam Tryz.f194 ls_i_numberOf) Tryz.f194 0 q_i_numberOf_3 b_i_numberOf_3 := fun x => by kernel_rfl
theorem ok_i_numberOf : FnOK G0 Tryz.prog 194 S_i_numberOf := fn_okS tab0 σok_i_numberOf Tryz.func194 ls_i_numberOf (by kernel_rfl) (by exact ⟨(lok_i_numberOf_3).lok, trivial⟩) fun x => by kernel_rfl

noncomputable def i_stateFrom (x : Ty.T (.pair (.list (.int .i64)) .unit)) : Option (Ty.T (.pair TState .unit)) :=
onSome (bounds x.1.length none (some (.dat (.int .i64) (16 : Int)))) fun v1 =>
onSome (bounds x.1.length (some (.dat (.int .i64) (16 : Int))) (some (.dat (.int .i64) (20 : Int)))) fun v2 =>
onSome (bounds x.1.length (some (.dat (.int .i64) (20 : Int))) (some (.dat (.int .i64) (24 : Int)))) fun v3 =>
onSome (bounds x.1.length (some (.dat (.int .i64) (24 : Int))) (some (.dat (.int .i64) (32 : Int)))) fun v4 =>
onSome (bounds x.1.length (some (.dat (.int .i64) (32 : Int))) (some (.dat (.int .i64) (64 : Int)))) fun v5 =>
match i_numberOf ((List.drop v1.1 (List.take v1.2 x.1)), ()) with
| none => none
| some v6 =>
match i_numberOf ((List.drop v2.1 (List.take v2.2 x.1)), ()) with
| none => none
| some v7 =>
match i_numberOf ((List.drop v3.1 (List.take v3.2 x.1)), ()) with
| none => none
| some v8 =>
match i_numberOf ((List.drop v4.1 (List.take v4.2 x.1)), ()) with
| none => none
| some v9 =>
match i_numberOf ((List.drop v5.1 (List.take v5.2 x.1)), ()) with
| none => none
| some v10 =>
some ((v6.1, v7.1, v8.1, v9.1, v10.1, ()), ())
noncomputable def S_i_stateFrom : Spec := ⟨(.pair (.list (.int .i64)) .unit), (.pair TState .unit), .unit, rfl, i_stateFrom⟩
noncomputable def σ_i_stateFrom : FuncId → Option Spec := sig [(194, S_i_numberOf)]
theorem σok_i_stateFrom : ∀ f s, σ_i_stateFrom f = some s → FnOK G0 Tryz.prog f s := sig_ok ⟨ok_i_numberOf, trivial⟩
theorem ok_i_stateFrom : FnOK G0 Tryz.prog 157 S_i_stateFrom := fn_okS tab0 σok_i_stateFrom Tryz.func157 [] (by kernel_rfl) (by exact trivial) fun x => by kernel_rfl

noncomputable def slices_Clone_int64 (x : Ty.T (.pair (.list (.int .i64)) .unit)) : Option (Ty.T (.pair (.own 2 (.int .i64)) .unit)) :=
nilK x.1 fun v1 =>
match v1 with
| true =>
 some ([], ())
| false =>
 room (([] : List (Ty.T (.int .i64))).length + x.1.length) (
  some ((([] : List (Ty.T (.int .i64))) ++ x.1), ()))
noncomputable def S_slices_Clone_int64 : Spec := ⟨(.pair (.list (.int .i64)) .unit), (.pair (.own 2 (.int .i64)) .unit), .unit, rfl, slices_Clone_int64⟩
noncomputable def σ_slices_Clone_int64 : FuncId → Option Spec := sig []
theorem σok_slices_Clone_int64 : ∀ f s, σ_slices_Clone_int64 f = some s → FnOK G0 Tryz.prog f s := sig_ok trivial
theorem ok_slices_Clone_int64 : FnOK G0 Tryz.prog 159 S_slices_Clone_int64 := fn_okS tab0 σok_slices_Clone_int64 Tryz.func159 [] (by kernel_rfl) (by exact trivial) fun x => by kernel_rfl

noncomputable def i_IsFrame (x : Ty.T (.pair TFrame .unit)) : Option (Ty.T (.pair .bool .unit)) :=
match i_isKind (x.1.1, ()) with
| none => none
| some v1 =>
match (!v1.1) with
| true =>
 some (false, ())
| false =>
 match i_within (x.1.2.1, (0 : Int), (7 : Int), ()) with
 | none => none
 | some v2 =>
 match (!v2.1) with
 | true =>
  some (false, ())
 | false =>
  match i_isDataSize (x.1.1, (x.1.2.2.2.1.length : Int), ()) with
  | none => none
  | some v3 =>
  match (!v3.1) with
  | true =>
   some (false, ())
  | false =>
   match i_IsBytes (x.1.2.2.2.1, ()) with
   | none => none
   | some v4 =>
   match (!v4.1) with
   | true =>
    some (false, ())
   | false =>
    match (x.1.1 == (0 : Int)) with
    | true =>
     some ((eqT TState (x.1.2.2.1.1, x.1.2.2.1.2.1, x.1.2.2.1.2.2.1, x.1.2.2.1.2.2.2.1, x.1.2.2.1.2.2.2.2.1, ()) ((0 : Int), (0 : Int), (0 : Int), (0 : Int), (0 : Int), ())), ())
    | false =>
     match (x.1.1 == (3 : Int)) with
     | true =>
      match i_IsState ((x.1.2.2.1.1, x.1.2.2.1.2.1, x.1.2.2.1.2.2.1, x.1.2.2.1.2.2.2.1, x.1.2.2.1.2.2.2.2.1, ()), ()) with
      | none => none
      | some v5 =>
      match v5.1 with
      | true =>
       match (x.1.2.2.1.2.1 == (0 : Int)) with
       | true =>
        match (x.1.2.2.1.2.2.2.2.1 != (0 : Int)) with
        | true =>
         match ((bits BinOp.and .i64 x.1.2.2.1.2.2.2.2.1 (IntKind.i64.wrap (x.1.2.2.1.2.2.2.2.1 - (1 : Int)))) == (0 : Int)) with
         | true =>
          some ((x.1.2.1 == (0 : Int)), ())
         | false =>
          some (false, ())
        | false =>
         some (false, ())
       | false =>
        some (false, ())
      | false =>
       some (false, ())
     | false =>
      match i_IsState ((x.1.2.2.1.1, x.1.2.2.1.2.1, x.1.2.2.1.2.2.1, x.1.2.2.1.2.2.2.1, x.1.2.2.1.2.2.2.2.1, ()), ()) with
      | none => none
      | some v6 =>
      some (v6.1, ())
noncomputable def S_i_IsFrame : Spec := ⟨(.pair TFrame .unit), (.pair .bool .unit), .unit, rfl, i_IsFrame⟩
noncomputable def σ_i_IsFrame : FuncId → Option Spec := sig [(98, S_i_IsState), (105, S_i_IsBytes), (140, S_i_within), (195, S_i_isKind), (196, S_i_isDataSize)]
theorem σok_i_IsFrame : ∀ f s, σ_i_IsFrame f = some s → FnOK G0 Tryz.prog f s := sig_ok ⟨ok_i_IsState, ok_i_IsBytes, ok_i_within, ok_i_isKind, ok_i_isDataSize, trivial⟩
theorem ok_i_IsFrame : FnOK G0 Tryz.prog 160 S_i_IsFrame := fn_okS tab0 σok_i_IsFrame Tryz.func160 [] (by kernel_rfl) (by exact trivial) fun x => by kernel_rfl

noncomputable def i_toBytes (x : Ty.T (.pair (.list (.int .i64)) .unit)) : Option (Ty.T (.pair (.own 2 (.int .i64)) .unit)) := onSome (toBytesG i_numberOf x.1) fun s => some (s, ())
noncomputable def S_i_toBytes : Spec := ⟨(.pair (.list (.int .i64)) .unit), (.pair (.own 2 (.int .i64)) .unit), .unit, rfl, i_toBytes⟩
theorem ok_i_toBytes : FnOK G0 Tryz.prog 197 S_i_toBytes := toBytes_ok (entersF_of Tryz.func197 (by kernel_rfl) (show Tryz.f197.body = some (bodyOf Tryz.f197) by kernel_rfl)) ok_i_numberOf

noncomputable def i_bodyOf (x : Ty.T (.pair TFrame .unit)) : Option (Ty.T (.pair (.own 2 (.int .i64)) .unit)) :=
match i_hasState (x.1.1, ()) with
| none => none
| some v1 =>
match v1.1 with
| true =>
 match i_stateBits ((x.1.2.2.1.1, x.1.2.2.1.2.1, x.1.2.2.1.2.2.1, x.1.2.2.1.2.2.2.1, x.1.2.2.1.2.2.2.2.1, ()), ()) with
 | none => none
 | some v2 =>
 match i_toBytes (v2.1, ()) with
 | none => none
 | some v3 =>
 room ([(IntKind.i64.wrap ((IntKind.i64.wrap (x.1.1 * (64 : Int))) + (IntKind.i64.wrap (x.1.2.1 * (8 : Int)))))].length + v3.1.length) (
  match i_hasData (x.1.1, ()) with
  | none => none
  | some v4 =>
  match v4.1 with
  | true =>
   room (([(IntKind.i64.wrap ((IntKind.i64.wrap (x.1.1 * (64 : Int))) + (IntKind.i64.wrap (x.1.2.1 * (8 : Int)))))] ++ v3.1).length + [(x.1.2.2.2.1.length : Int)].length) (
    room ((([(IntKind.i64.wrap ((IntKind.i64.wrap (x.1.1 * (64 : Int))) + (IntKind.i64.wrap (x.1.2.1 * (8 : Int)))))] ++ v3.1) ++ [(x.1.2.2.2.1.length : Int)]).length + x.1.2.2.2.1.length) (
     some (((([(IntKind.i64.wrap ((IntKind.i64.wrap (x.1.1 * (64 : Int))) + (IntKind.i64.wrap (x.1.2.1 * (8 : Int)))))] ++ v3.1) ++ [(x.1.2.2.2.1.length : Int)]) ++ x.1.2.2.2.1), ())))
  | false =>
   some (([(IntKind.i64.wrap ((IntKind.i64.wrap (x.1.1 * (64 : Int))) + (IntKind.i64.wrap (x.1.2.1 * (8 : Int)))))] ++ v3.1), ()))
| false =>
 match i_hasData (x.1.1, ()) with
 | none => none
 | some v5 =>
 match v5.1 with
 | true =>
  room ([(IntKind.i64.wrap ((IntKind.i64.wrap (x.1.1 * (64 : Int))) + (IntKind.i64.wrap (x.1.2.1 * (8 : Int)))))].length + [(x.1.2.2.2.1.length : Int)].length) (
   room (([(IntKind.i64.wrap ((IntKind.i64.wrap (x.1.1 * (64 : Int))) + (IntKind.i64.wrap (x.1.2.1 * (8 : Int)))))] ++ [(x.1.2.2.2.1.length : Int)]).length + x.1.2.2.2.1.length) (
    some ((([(IntKind.i64.wrap ((IntKind.i64.wrap (x.1.1 * (64 : Int))) + (IntKind.i64.wrap (x.1.2.1 * (8 : Int)))))] ++ [(x.1.2.2.2.1.length : Int)]) ++ x.1.2.2.2.1), ())))
 | false =>
  some ([(IntKind.i64.wrap ((IntKind.i64.wrap (x.1.1 * (64 : Int))) + (IntKind.i64.wrap (x.1.2.1 * (8 : Int)))))], ())
noncomputable def S_i_bodyOf : Spec := ⟨(.pair TFrame .unit), (.pair (.own 2 (.int .i64)) .unit), .unit, rfl, i_bodyOf⟩
noncomputable def σ_i_bodyOf : FuncId → Option Spec := sig [(110, S_i_hasState), (155, S_i_stateBits), (158, S_i_hasData), (197, S_i_toBytes)]
theorem σok_i_bodyOf : ∀ f s, σ_i_bodyOf f = some s → FnOK G0 Tryz.prog f s := sig_ok ⟨ok_i_hasState, ok_i_stateBits, ok_i_hasData, ok_i_toBytes, trivial⟩
theorem ok_i_bodyOf : FnOK G0 Tryz.prog 161 S_i_bodyOf := fn_okS tab0 σok_i_bodyOf Tryz.func161 [] (by kernel_rfl) (by exact trivial) fun x => by kernel_rfl

noncomputable def i_frameFrom (x : Ty.T (.pair (.list (.int .i64)) .unit)) : Option (Ty.T (.pair (.pair (.int .i64) (.pair (.int .i64) (.pair TState (.pair (.own 2 (.int .i64)) .unit)))) (.pair .bool .unit))) :=
match ((x.1.length : Int) == (0 : Int)) with
| true =>
 some (((0 : Int), (0 : Int), ((0 : Int), (0 : Int), (0 : Int), (0 : Int), (0 : Int), ()), [], ()), false, ())
| false =>
 onSome (idx x.1 (0 : Int)) fun v1 =>
 onSome (idx x.1 (0 : Int)) fun v2 =>
 onSome (bounds x.1.length (some (.dat (.int .i64) (1 : Int))) none) fun v3 =>
 same (
  match i_hasState ((IntKind.i64.wrap (Int.tdiv v1 (64 : Int))), ()) with
  | none => none
  | some v4 =>
  match v4.1 with
  | true =>
   match (decide (((List.drop v3.1 (List.take v3.2 x.1)).length : Int) < (8 : Int))) with
   | true =>
    some (((0 : Int), (0 : Int), ((0 : Int), (0 : Int), (0 : Int), (0 : Int), (0 : Int), ()), [], ()), false, ())
   | false =>
    onSome (bounds (List.drop v3.1 (List.take v3.2 x.1)).length none (some (.dat (.int .i64) (8 : Int)))) fun v5 =>
    match i_toBits ((List.drop v5.1 (List.take v5.2 (List.drop v3.1 (List.take v3.2 x.1)))), ()) with
    | none => none
    | some v6 =>
    match i_stateFrom (v6.1, ()) with
    | none => none
    | some v7 =>
    onSome (bounds (List.drop v3.1 (List.take v3.2 x.1)).length (some (.dat (.int .i64) (8 : Int))) none) fun v8 =>
    match i_hasData ((IntKind.i64.wrap (Int.tdiv v1 (64 : Int))), ()) with
    | none => none
    | some v9 =>
    match v9.1 with
    | true =>
     match (decide (((List.drop v8.1 (List.take v8.2 (List.drop v3.1 (List.take v3.2 x.1)))).length : Int) > (0 : Int))) with
     | true =>
      onSome (bounds (List.drop v8.1 (List.take v8.2 (List.drop v3.1 (List.take v3.2 x.1)))).length (some (.dat (.int .i64) (1 : Int))) none) fun v10 =>
      match slices_Clone_int64 ((List.drop v10.1 (List.take v10.2 (List.drop v8.1 (List.take v8.2 (List.drop v3.1 (List.take v3.2 x.1)))))), ()) with
      | none => none
      | some v11 =>
      match i_IsFrame (((IntKind.i64.wrap (Int.tdiv v1 (64 : Int))), (Int.tmod (IntKind.i64.wrap (Int.tdiv v2 (8 : Int))) (8 : Int)), (v7.1.1, v7.1.2.1, v7.1.2.2.1, v7.1.2.2.2.1, v7.1.2.2.2.2.1, ()), v11.1, ()), ()) with
      | none => none
      | some v12 =>
      match (!v12.1) with
      | true =>
       some (((0 : Int), (0 : Int), ((0 : Int), (0 : Int), (0 : Int), (0 : Int), (0 : Int), ()), [], ()), false, ())
      | false =>
       match i_bodyOf (((IntKind.i64.wrap (Int.tdiv v1 (64 : Int))), (Int.tmod (IntKind.i64.wrap (Int.tdiv v2 (8 : Int))) (8 : Int)), (v7.1.1, v7.1.2.1, v7.1.2.2.1, v7.1.2.2.2.1, v7.1.2.2.2.2.1, ()), v11.1, ()), ()) with
       | none => none
       | some v13 =>
       match slices_Equal_int64 (v13.1, x.1, ()) with
       | none => none
       | some v14 =>
       match (!v14.1) with
       | true =>
        some (((0 : Int), (0 : Int), ((0 : Int), (0 : Int), (0 : Int), (0 : Int), (0 : Int), ()), [], ()), false, ())
       | false =>
        some (((IntKind.i64.wrap (Int.tdiv v1 (64 : Int))), (Int.tmod (IntKind.i64.wrap (Int.tdiv v2 (8 : Int))) (8 : Int)), (v7.1.1, v7.1.2.1, v7.1.2.2.1, v7.1.2.2.2.1, v7.1.2.2.2.2.1, ()), v11.1, ()), true, ())
     | false =>
      match i_IsFrame (((IntKind.i64.wrap (Int.tdiv v1 (64 : Int))), (Int.tmod (IntKind.i64.wrap (Int.tdiv v2 (8 : Int))) (8 : Int)), (v7.1.1, v7.1.2.1, v7.1.2.2.1, v7.1.2.2.2.1, v7.1.2.2.2.2.1, ()), [], ()), ()) with
      | none => none
      | some v15 =>
      match (!v15.1) with
      | true =>
       some (((0 : Int), (0 : Int), ((0 : Int), (0 : Int), (0 : Int), (0 : Int), (0 : Int), ()), [], ()), false, ())
      | false =>
       match i_bodyOf (((IntKind.i64.wrap (Int.tdiv v1 (64 : Int))), (Int.tmod (IntKind.i64.wrap (Int.tdiv v2 (8 : Int))) (8 : Int)), (v7.1.1, v7.1.2.1, v7.1.2.2.1, v7.1.2.2.2.1, v7.1.2.2.2.2.1, ()), [], ()), ()) with
       | none => none
       | some v16 =>
       match slices_Equal_int64 (v16.1, x.1, ()) with
       | none => none
       | some v17 =>
       match (!v17.1) with
       | true =>
        some (((0 : Int), (0 : Int), ((0 : Int), (0 : Int), (0 : Int), (0 : Int), (0 : Int), ()), [], ()), false, ())
       | false =>
        some (((IntKind.i64.wrap (Int.tdiv v1 (64 : Int))), (Int.tmod (IntKind.i64.wrap (Int.tdiv v2 (8 : Int))) (8 : Int)), (v7.1.1, v7.1.2.1, v7.1.2.2.1, v7.1.2.2.2.1, v7.1.2.2.2.2.1, ()), [], ()), true, ())
    | false =>
     match i_IsFrame (((IntKind.i64.wrap (Int.tdiv v1 (64 : Int))), (Int.tmod (IntKind.i64.wrap (Int.tdiv v2 (8 : Int))) (8 : Int)), (v7.1.1, v7.1.2.1, v7.1.2.2.1, v7.1.2.2.2.1, v7.1.2.2.2.2.1, ()), [], ()), ()) with
     | none => none
     | some v18 =>
     match (!v18.1) with
     | true =>
      some (((0 : Int), (0 : Int), ((0 : Int), (0 : Int), (0 : Int), (0 : Int), (0 : Int), ()), [], ()), false, ())
     | false =>
      match i_bodyOf (((IntKind.i64.wrap (Int.tdiv v1 (64 : Int))), (Int.tmod (IntKind.i64.wrap (Int.tdiv v2 (8 : Int))) (8 : Int)), (v7.1.1, v7.1.2.1, v7.1.2.2.1, v7.1.2.2.2.1, v7.1.2.2.2.2.1, ()), [], ()), ()) with
      | none => none
      | some v19 =>
      match slices_Equal_int64 (v19.1, x.1, ()) with
      | none => none
      | some v20 =>
      match (!v20.1) with
      | true =>
       some (((0 : Int), (0 : Int), ((0 : Int), (0 : Int), (0 : Int), (0 : Int), (0 : Int), ()), [], ()), false, ())
      | false =>
       some (((IntKind.i64.wrap (Int.tdiv v1 (64 : Int))), (Int.tmod (IntKind.i64.wrap (Int.tdiv v2 (8 : Int))) (8 : Int)), (v7.1.1, v7.1.2.1, v7.1.2.2.1, v7.1.2.2.2.1, v7.1.2.2.2.2.1, ()), [], ()), true, ())
  | false =>
   match i_hasData ((IntKind.i64.wrap (Int.tdiv v1 (64 : Int))), ()) with
   | none => none
   | some v21 =>
   match v21.1 with
   | true =>
    match (decide (((List.drop v3.1 (List.take v3.2 x.1)).length : Int) > (0 : Int))) with
    | true =>
     onSome (bounds (List.drop v3.1 (List.take v3.2 x.1)).length (some (.dat (.int .i64) (1 : Int))) none) fun v22 =>
     match slices_Clone_int64 ((List.drop v22.1 (List.take v22.2 (List.drop v3.1 (List.take v3.2 x.1)))), ()) with
     | none => none
     | some v23 =>
     match i_IsFrame (((IntKind.i64.wrap (Int.tdiv v1 (64 : Int))), (Int.tmod (IntKind.i64.wrap (Int.tdiv v2 (8 : Int))) (8 : Int)), ((0 : Int), (0 : Int), (0 : Int), (0 : Int), (0 : Int), ()), v23.1, ()), ()) with
     | none => none
     | some v24 =>
     match (!v24.1) with
     | true =>
      some (((0 : Int), (0 : Int), ((0 : Int), (0 : Int), (0 : Int), (0 : Int), (0 : Int), ()), [], ()), false, ())
     | false =>
      match i_bodyOf (((IntKind.i64.wrap (Int.tdiv v1 (64 : Int))), (Int.tmod (IntKind.i64.wrap (Int.tdiv v2 (8 : Int))) (8 : Int)), ((0 : Int), (0 : Int), (0 : Int), (0 : Int), (0 : Int), ()), v23.1, ()), ()) with
      | none => none
      | some v25 =>
      match slices_Equal_int64 (v25.1, x.1, ()) with
      | none => none
      | some v26 =>
      match (!v26.1) with
      | true =>
       some (((0 : Int), (0 : Int), ((0 : Int), (0 : Int), (0 : Int), (0 : Int), (0 : Int), ()), [], ()), false, ())
      | false =>
       some (((IntKind.i64.wrap (Int.tdiv v1 (64 : Int))), (Int.tmod (IntKind.i64.wrap (Int.tdiv v2 (8 : Int))) (8 : Int)), ((0 : Int), (0 : Int), (0 : Int), (0 : Int), (0 : Int), ()), v23.1, ()), true, ())
    | false =>
     match i_IsFrame (((IntKind.i64.wrap (Int.tdiv v1 (64 : Int))), (Int.tmod (IntKind.i64.wrap (Int.tdiv v2 (8 : Int))) (8 : Int)), ((0 : Int), (0 : Int), (0 : Int), (0 : Int), (0 : Int), ()), [], ()), ()) with
     | none => none
     | some v27 =>
     match (!v27.1) with
     | true =>
      some (((0 : Int), (0 : Int), ((0 : Int), (0 : Int), (0 : Int), (0 : Int), (0 : Int), ()), [], ()), false, ())
     | false =>
      match i_bodyOf (((IntKind.i64.wrap (Int.tdiv v1 (64 : Int))), (Int.tmod (IntKind.i64.wrap (Int.tdiv v2 (8 : Int))) (8 : Int)), ((0 : Int), (0 : Int), (0 : Int), (0 : Int), (0 : Int), ()), [], ()), ()) with
      | none => none
      | some v28 =>
      match slices_Equal_int64 (v28.1, x.1, ()) with
      | none => none
      | some v29 =>
      match (!v29.1) with
      | true =>
       some (((0 : Int), (0 : Int), ((0 : Int), (0 : Int), (0 : Int), (0 : Int), (0 : Int), ()), [], ()), false, ())
      | false =>
       some (((IntKind.i64.wrap (Int.tdiv v1 (64 : Int))), (Int.tmod (IntKind.i64.wrap (Int.tdiv v2 (8 : Int))) (8 : Int)), ((0 : Int), (0 : Int), (0 : Int), (0 : Int), (0 : Int), ()), [], ()), true, ())
   | false =>
    match i_IsFrame (((IntKind.i64.wrap (Int.tdiv v1 (64 : Int))), (Int.tmod (IntKind.i64.wrap (Int.tdiv v2 (8 : Int))) (8 : Int)), ((0 : Int), (0 : Int), (0 : Int), (0 : Int), (0 : Int), ()), [], ()), ()) with
    | none => none
    | some v30 =>
    match (!v30.1) with
    | true =>
     some (((0 : Int), (0 : Int), ((0 : Int), (0 : Int), (0 : Int), (0 : Int), (0 : Int), ()), [], ()), false, ())
    | false =>
     match i_bodyOf (((IntKind.i64.wrap (Int.tdiv v1 (64 : Int))), (Int.tmod (IntKind.i64.wrap (Int.tdiv v2 (8 : Int))) (8 : Int)), ((0 : Int), (0 : Int), (0 : Int), (0 : Int), (0 : Int), ()), [], ()), ()) with
     | none => none
     | some v31 =>
     match slices_Equal_int64 (v31.1, x.1, ()) with
     | none => none
     | some v32 =>
     match (!v32.1) with
     | true =>
      some (((0 : Int), (0 : Int), ((0 : Int), (0 : Int), (0 : Int), (0 : Int), (0 : Int), ()), [], ()), false, ())
     | false =>
      some (((IntKind.i64.wrap (Int.tdiv v1 (64 : Int))), (Int.tmod (IntKind.i64.wrap (Int.tdiv v2 (8 : Int))) (8 : Int)), ((0 : Int), (0 : Int), (0 : Int), (0 : Int), (0 : Int), ()), [], ()), true, ()))
noncomputable def S_i_frameFrom : Spec := ⟨(.pair (.list (.int .i64)) .unit), (.pair (.pair (.int .i64) (.pair (.int .i64) (.pair TState (.pair (.own 2 (.int .i64)) .unit)))) (.pair .bool .unit)), .unit, rfl, i_frameFrom⟩
noncomputable def σ_i_frameFrom : FuncId → Option Spec := sig [(106, S_slices_Equal_int64), (110, S_i_hasState), (156, S_i_toBits), (157, S_i_stateFrom), (158, S_i_hasData), (159, S_slices_Clone_int64), (160, S_i_IsFrame), (161, S_i_bodyOf)]
theorem σok_i_frameFrom : ∀ f s, σ_i_frameFrom f = some s → FnOK G0 Tryz.prog f s := sig_ok ⟨ok_slices_Equal_int64, ok_i_hasState, ok_i_toBits, ok_i_stateFrom, ok_i_hasData, ok_slices_Clone_int64, ok_i_IsFrame, ok_i_bodyOf, trivial⟩
theorem ok_i_frameFrom : FnOK G0 Tryz.prog 109 S_i_frameFrom := fn_okS tab0 σok_i_frameFrom Tryz.func109 [] (by kernel_rfl) (by exact trivial) fun x => by kernel_rfl

noncomputable def i_OpenFrame (x : Ty.T (.pair (.list (.int .i64)) (.pair (.int .i64) (.pair TState .unit)))) : Option (Ty.T (.pair (.pair (.int .i64) (.pair (.int .i64) (.pair TState (.pair (.own 2 (.int .i64)) .unit)))) (.pair (.int .i64) .unit))) :=
match i_IsState ((x.2.2.1.1, x.2.2.1.2.1, x.2.2.1.2.2.1, x.2.2.1.2.2.2.1, x.2.2.1.2.2.2.2.1, ()), ()) with
| none => none
| some v1 =>
match (!v1.1) with
| true =>
 some (((0 : Int), (0 : Int), ((0 : Int), (0 : Int), (0 : Int), (0 : Int), (0 : Int), ()), [], ()), (1 : Int), ())
| false =>
 match i_isId (x.2.1, ()) with
 | none => none
 | some v2 =>
 match (!v2.1) with
 | true =>
  some (((0 : Int), (0 : Int), ((0 : Int), (0 : Int), (0 : Int), (0 : Int), (0 : Int), ()), [], ()), (2 : Int), ())
 | false =>
  match i_IsBytes (x.1, ()) with
  | none => none
  | some v3 =>
  match (!v3.1) with
  | true =>
   some (((0 : Int), (0 : Int), ((0 : Int), (0 : Int), (0 : Int), (0 : Int), (0 : Int), ()), [], ()), (2 : Int), ())
  | false =>
   match (decide ((IntKind.i64.wrap ((x.1.length : Int) - (3 : Int))) < (1 : Int))) with
   | true =>
    some (((0 : Int), (0 : Int), ((0 : Int), (0 : Int), (0 : Int), (0 : Int), (0 : Int), ()), [], ()), (6 : Int), ())
   | false =>
    onSome (idx x.1 (0 : Int)) fun v4 =>
    onSome (bounds x.1.length none (some (.dat (.int .i64) (IntKind.i64.wrap ((x.1.length : Int) - (3 : Int)))))) fun v5 =>
    onSome (bounds x.1.length (some (.dat (.int .i64) (IntKind.i64.wrap ((x.1.length : Int) - (3 : Int))))) none) fun v6 =>
    match i_checkNumber ((IntKind.i64.wrap (Int.tdiv v4 (64 : Int))), (List.drop v5.1 (List.take v5.2 x.1)), x.2.1, (x.2.2.1.1, x.2.2.1.2.1, x.2.2.1.2.2.1, x.2.2.1.2.2.2.1, x.2.2.1.2.2.2.2.1, ()), ()) with
    | none => none
    | some v7 =>
    match i_threeBytes (v7.1, ()) with
    | none => none
    | some v8 =>
    match slices_Equal_int64 (v8.1, (List.drop v6.1 (List.take v6.2 x.1)), ()) with
    | none => none
    | some v9 =>
    match (!v9.1) with
    | true =>
     some (((0 : Int), (0 : Int), ((0 : Int), (0 : Int), (0 : Int), (0 : Int), (0 : Int), ()), [], ()), (7 : Int), ())
    | false =>
     onSome (bounds x.1.length none (some (.dat (.int .i64) (IntKind.i64.wrap ((x.1.length : Int) - (3 : Int)))))) fun v10 =>
     match i_frameFrom ((List.drop v10.1 (List.take v10.2 x.1)), ()) with
     | none => none
     | some v11 =>
     match (!v11.2.1) with
     | true =>
      some (((0 : Int), (0 : Int), ((0 : Int), (0 : Int), (0 : Int), (0 : Int), (0 : Int), ()), [], ()), (6 : Int), ())
     | false =>
      match i_hasState (v11.1.1, ()) with
      | none => none
      | some v12 =>
      match v12.1 with
      | true =>
       match (!(eqT TState (v11.1.2.2.1.1, v11.1.2.2.1.2.1, v11.1.2.2.1.2.2.1, v11.1.2.2.1.2.2.2.1, v11.1.2.2.1.2.2.2.2.1, ()) (x.2.2.1.1, x.2.2.1.2.1, x.2.2.1.2.2.1, x.2.2.1.2.2.2.1, x.2.2.1.2.2.2.2.1, ()))) with
       | true =>
        some (((0 : Int), (0 : Int), ((0 : Int), (0 : Int), (0 : Int), (0 : Int), (0 : Int), ()), [], ()), (5 : Int), ())
       | false =>
        some ((v11.1.1, v11.1.2.1, (v11.1.2.2.1.1, v11.1.2.2.1.2.1, v11.1.2.2.1.2.2.1, v11.1.2.2.1.2.2.2.1, v11.1.2.2.1.2.2.2.2.1, ()), v11.1.2.2.2.1, ()), (0 : Int), ())
      | false =>
       some ((v11.1.1, v11.1.2.1, (v11.1.2.2.1.1, v11.1.2.2.1.2.1, v11.1.2.2.1.2.2.1, v11.1.2.2.1.2.2.2.1, v11.1.2.2.1.2.2.2.2.1, ()), v11.1.2.2.2.1, ()), (0 : Int), ())
noncomputable def S_i_OpenFrame : Spec := ⟨(.pair (.list (.int .i64)) (.pair (.int .i64) (.pair TState .unit))), (.pair (.pair (.int .i64) (.pair (.int .i64) (.pair TState (.pair (.own 2 (.int .i64)) .unit)))) (.pair (.int .i64) .unit)), .unit, rfl, i_OpenFrame⟩
noncomputable def σ_i_OpenFrame : FuncId → Option Spec := sig [(98, S_i_IsState), (104, S_i_isId), (105, S_i_IsBytes), (106, S_slices_Equal_int64), (107, S_i_threeBytes), (108, S_i_checkNumber), (109, S_i_frameFrom), (110, S_i_hasState)]
theorem σok_i_OpenFrame : ∀ f s, σ_i_OpenFrame f = some s → FnOK G0 Tryz.prog f s := sig_ok ⟨ok_i_IsState, ok_i_isId, ok_i_IsBytes, ok_slices_Equal_int64, ok_i_threeBytes, ok_i_checkNumber, ok_i_frameFrom, ok_i_hasState, trivial⟩
theorem ok_i_OpenFrame : FnOK G0 Tryz.prog 77 S_i_OpenFrame := fn_okS tab0 σok_i_OpenFrame Tryz.func77 [] (by kernel_rfl) (by exact trivial) fun x => by kernel_rfl

noncomputable def i_fits (x : Ty.T (.pair TDescriptor (.pair TFrame .unit))) : Option (Ty.T (.pair .bool .unit)) :=
match (x.2.1.1 == x.1.2.1) with
| true =>
 match ((x.2.1.2.2.2.1.length : Int) == x.1.2.2.1) with
 | true =>
  match (x.2.1.2.1 == (0 : Int)) with
  | true =>
   some (true, ())
  | false =>
   some (x.1.2.2.2.2.1, ())
 | false =>
  some (false, ())
| false =>
 some (false, ())
noncomputable def S_i_fits : Spec := ⟨(.pair TDescriptor (.pair TFrame .unit)), (.pair .bool .unit), .unit, rfl, i_fits⟩
noncomputable def σ_i_fits : FuncId → Option Spec := sig []
theorem σok_i_fits : ∀ f s, σ_i_fits f = some s → FnOK G0 Tryz.prog f s := sig_ok trivial
theorem ok_i_fits : FnOK G0 Tryz.prog 78 S_i_fits := fn_okS tab0 σok_i_fits Tryz.func78 [] (by kernel_rfl) (by exact trivial) fun x => by kernel_rfl

noncomputable def i_descriptorFor (x : Ty.T (.pair TMedl (.pair TState .unit))) : Option (Ty.T (.pair TDescriptor .unit)) :=
match i_findSlot (x.1.2.2.2.1, x.2.1.2.1, x.2.1.2.2.1, x.2.1.2.2.2.1, ()) with
| none => none
| some v1 =>
onSome (idx x.1.2.2.2.1 v1.1) fun v2 =>
some ((v2.2.2.2.1.1, v2.2.2.2.1.2.1, v2.2.2.2.1.2.2.1, v2.2.2.2.1.2.2.2.1, v2.2.2.2.1.2.2.2.2.1, ()), ())
noncomputable def S_i_descriptorFor : Spec := ⟨(.pair TMedl (.pair TState .unit)), (.pair TDescriptor .unit), .unit, rfl, i_descriptorFor⟩
noncomputable def σ_i_descriptorFor : FuncId → Option Spec := sig [(111, S_i_findSlot)]
theorem σok_i_descriptorFor : ∀ f s, σ_i_descriptorFor f = some s → FnOK G0 Tryz.prog f s := sig_ok ⟨ok_i_findSlot, trivial⟩
theorem ok_i_descriptorFor : FnOK G0 Tryz.prog 79 S_i_descriptorFor := fn_okS tab0 σok_i_descriptorFor Tryz.func79 [] (by kernel_rfl) (by exact trivial) fun x => by kernel_rfl

noncomputable def i_judge (x : Ty.T (.pair TMedl (.pair TState (.pair (.list (.int .i64)) .unit)))) : Option (Ty.T (.pair (.pair (.int .i64) (.pair (.pair (.int .i64) (.pair (.int .i64) (.pair TState (.pair (.own 2 (.int .i64)) .unit)))) .unit)) (.pair (.int .i64) .unit))) :=
match i_OpenFrame (x.2.2.1, x.1.1, (x.2.1.1, x.2.1.2.1, x.2.1.2.2.1, x.2.1.2.2.2.1, x.2.1.2.2.2.2.1, ()), ()) with
| none => none
| some v1 =>
match (v1.2.1 == (0 : Int)) with
| true =>
 match i_descriptorFor ((x.1.1, x.1.2.1, x.1.2.2.1, x.1.2.2.2.1, ()), (x.2.1.1, x.2.1.2.1, x.2.1.2.2.1, x.2.1.2.2.2.1, x.2.1.2.2.2.2.1, ()), ()) with
 | none => none
 | some v2 =>
 match i_fits (v2.1, (v1.1.1, v1.1.2.1, (v1.1.2.2.1.1, v1.1.2.2.1.2.1, v1.1.2.2.1.2.2.1, v1.1.2.2.1.2.2.2.1, v1.1.2.2.1.2.2.2.2.1, ()), v1.1.2.2.2.1, ()), ()) with
 | none => none
 | some v3 =>
 match (!v3.1) with
 | true =>
  match ((5 : Int) != (0 : Int)) with
  | true =>
   some (((2 : Int), ((0 : Int), (0 : Int), ((0 : Int), (0 : Int), (0 : Int), (0 : Int), (0 : Int), ()), [], ()), ()), (5 : Int), ())
  | false =>
   some (((3 : Int), (v1.1.1, v1.1.2.1, (v1.1.2.2.1.1, v1.1.2.2.1.2.1, v1.1.2.2.1.2.2.1, v1.1.2.2.1.2.2.2.1, v1.1.2.2.1.2.2.2.2.1, ()), v1.1.2.2.2.1, ()), ()), (0 : Int), ())
 | false =>
  match (v1.2.1 != (0 : Int)) with
  | true =>
   some (((2 : Int), ((0 : Int), (0 : Int), ((0 : Int), (0 : Int), (0 : Int), (0 : Int), (0 : Int), ()), [], ()), ()), v1.2.1, ())
  | false =>
   some (((3 : Int), (v1.1.1, v1.1.2.1, (v1.1.2.2.1.1, v1.1.2.2.1.2.1, v1.1.2.2.1.2.2.1, v1.1.2.2.1.2.2.2.1, v1.1.2.2.1.2.2.2.2.1, ()), v1.1.2.2.2.1, ()), ()), (0 : Int), ())
| false =>
 match (v1.2.1 != (0 : Int)) with
 | true =>
  some (((2 : Int), ((0 : Int), (0 : Int), ((0 : Int), (0 : Int), (0 : Int), (0 : Int), (0 : Int), ()), [], ()), ()), v1.2.1, ())
 | false =>
  some (((3 : Int), (v1.1.1, v1.1.2.1, (v1.1.2.2.1.1, v1.1.2.2.1.2.1, v1.1.2.2.1.2.2.1, v1.1.2.2.1.2.2.2.1, v1.1.2.2.1.2.2.2.2.1, ()), v1.1.2.2.2.1, ()), ()), (0 : Int), ())
noncomputable def S_i_judge : Spec := ⟨(.pair TMedl (.pair TState (.pair (.list (.int .i64)) .unit))), (.pair (.pair (.int .i64) (.pair (.pair (.int .i64) (.pair (.int .i64) (.pair TState (.pair (.own 2 (.int .i64)) .unit)))) .unit)) (.pair (.int .i64) .unit)), .unit, rfl, i_judge⟩
noncomputable def σ_i_judge : FuncId → Option Spec := sig [(77, S_i_OpenFrame), (78, S_i_fits), (79, S_i_descriptorFor)]
theorem σok_i_judge : ∀ f s, σ_i_judge f = some s → FnOK G0 Tryz.prog f s := sig_ok ⟨ok_i_OpenFrame, ok_i_fits, ok_i_descriptorFor, trivial⟩
theorem ok_i_judge : FnOK G0 Tryz.prog 54 S_i_judge := fn_okS tab0 σok_i_judge Tryz.func54 [] (by kernel_rfl) (by exact trivial) fun x => by kernel_rfl

noncomputable def i_receive (x : Ty.T (.pair TMedl (.pair TState (.pair (.list (.int .i64)) .unit)))) : Option (Ty.T (.pair (.pair (.int .i64) (.pair (.pair (.int .i64) (.pair (.int .i64) (.pair TState (.pair (.own 2 (.int .i64)) .unit)))) .unit)) (.pair (.int .i64) .unit))) :=
match i_DecodeSamples (x.2.2.1, ()) with
| none => none
| some v1 =>
match (v1.2.1 == (0 : Int)) with
| true =>
 match i_judge ((x.1.1, x.1.2.1, x.1.2.2.1, x.1.2.2.2.1, ()), (x.2.1.1, x.2.1.2.1, x.2.1.2.2.1, x.2.1.2.2.2.1, x.2.1.2.2.2.2.1, ()), v1.1, ()) with
 | none => none
 | some v2 =>
 some ((v2.1.1, (v2.1.2.1.1, v2.1.2.1.2.1, (v2.1.2.1.2.2.1.1, v2.1.2.1.2.2.1.2.1, v2.1.2.1.2.2.1.2.2.1, v2.1.2.1.2.2.1.2.2.2.1, v2.1.2.1.2.2.1.2.2.2.2.1, ()), v2.1.2.1.2.2.2.1, ()), ()), v2.2.1, ())
| false =>
 match (v1.2.1 == (4 : Int)) with
 | true =>
  some (((0 : Int), ((0 : Int), (0 : Int), ((0 : Int), (0 : Int), (0 : Int), (0 : Int), (0 : Int), ()), [], ()), ()), v1.2.1, ())
 | false =>
  some (((1 : Int), ((0 : Int), (0 : Int), ((0 : Int), (0 : Int), (0 : Int), (0 : Int), (0 : Int), ()), [], ()), ()), v1.2.1, ())
noncomputable def S_i_receive : Spec := ⟨(.pair TMedl (.pair TState (.pair (.list (.int .i64)) .unit))), (.pair (.pair (.int .i64) (.pair (.pair (.int .i64) (.pair (.int .i64) (.pair TState (.pair (.own 2 (.int .i64)) .unit)))) .unit)) (.pair (.int .i64) .unit)), .unit, rfl, i_receive⟩
noncomputable def σ_i_receive : FuncId → Option Spec := sig [(53, S_i_DecodeSamples), (54, S_i_judge)]
theorem σok_i_receive : ∀ f s, σ_i_receive f = some s → FnOK G0 Tryz.prog f s := sig_ok ⟨ok_i_DecodeSamples, ok_i_judge, trivial⟩
theorem ok_i_receive : FnOK G0 Tryz.prog 30 S_i_receive := fn_okS tab0 σok_i_receive Tryz.func30 [] (by kernel_rfl) (by exact trivial) fun x => by kernel_rfl

noncomputable def i_ReceiveChannel (x : Ty.T (.pair TMedl (.pair TState (.pair (.list (.int .i64)) .unit)))) : Option (Ty.T (.pair (.pair (.int .i64) (.pair (.pair (.int .i64) (.pair (.int .i64) (.pair TState (.pair (.own 2 (.int .i64)) .unit)))) .unit)) (.pair (.int .i64) .unit))) :=
match i_IsBits (x.2.2.1, ()) with
| none => none
| some v1 =>
match i_receiveCode ((x.1.1, x.1.2.1, x.1.2.2.1, x.1.2.2.2.1, ()), (x.2.1.1, x.2.1.2.1, x.2.1.2.2.1, x.2.1.2.2.2.1, x.2.1.2.2.2.2.1, ()), v1.1, ()) with
| none => none
| some v2 =>
match (v2.1 != (0 : Int)) with
| true =>
 some (((0 : Int), ((0 : Int), (0 : Int), ((0 : Int), (0 : Int), (0 : Int), (0 : Int), (0 : Int), ()), [], ()), ()), v2.1, ())
| false =>
 match i_receive ((x.1.1, x.1.2.1, x.1.2.2.1, x.1.2.2.2.1, ()), (x.2.1.1, x.2.1.2.1, x.2.1.2.2.1, x.2.1.2.2.2.1, x.2.1.2.2.2.2.1, ()), x.2.2.1, ()) with
 | none => none
 | some v3 =>
 some ((v3.1.1, (v3.1.2.1.1, v3.1.2.1.2.1, (v3.1.2.1.2.2.1.1, v3.1.2.1.2.2.1.2.1, v3.1.2.1.2.2.1.2.2.1, v3.1.2.1.2.2.1.2.2.2.1, v3.1.2.1.2.2.1.2.2.2.2.1, ()), v3.1.2.1.2.2.2.1, ()), ()), (0 : Int), ())
noncomputable def S_i_ReceiveChannel : Spec := ⟨(.pair TMedl (.pair TState (.pair (.list (.int .i64)) .unit))), (.pair (.pair (.int .i64) (.pair (.pair (.int .i64) (.pair (.int .i64) (.pair TState (.pair (.own 2 (.int .i64)) .unit)))) .unit)) (.pair (.int .i64) .unit)), .unit, rfl, i_ReceiveChannel⟩
noncomputable def σ_i_ReceiveChannel : FuncId → Option Spec := sig [(28, S_i_receiveCode), (29, S_i_IsBits), (30, S_i_receive)]
theorem σok_i_ReceiveChannel : ∀ f s, σ_i_ReceiveChannel f = some s → FnOK G0 Tryz.prog f s := sig_ok ⟨ok_i_receiveCode, ok_i_IsBits, ok_i_receive, trivial⟩
theorem ok_i_ReceiveChannel : FnOK G0 Tryz.prog 10 S_i_ReceiveChannel := fn_okS tab0 σok_i_ReceiveChannel Tryz.func10 [] (by kernel_rfl) (by exact trivial) fun x => by kernel_rfl

noncomputable def i_sameFrame (x : Ty.T (.pair TFrame (.pair TFrame .unit))) : Option (Ty.T (.pair .bool .unit)) :=
match (x.1.1 == x.2.1.1) with
| true =>
 match (x.1.2.1 == x.2.1.2.1) with
 | true =>
  match (eqT TState (x.1.2.2.1.1, x.1.2.2.1.2.1, x.1.2.2.1.2.2.1, x.1.2.2.1.2.2.2.1, x.1.2.2.1.2.2.2.2.1, ()) (x.2.1.2.2.1.1, x.2.1.2.2.1.2.1, x.2.1.2.2.1.2.2.1, x.2.1.2.2.1.2.2.2.1, x.2.1.2.2.1.2.2.2.2.1, ())) with
  | true =>
   match slices_Equal_int64 (x.1.2.2.2.1, x.2.1.2.2.2.1, ()) with
   | none => none
   | some v1 =>
   some (v1.1, ())
  | false =>
   some (false, ())
 | false =>
  some (false, ())
| false =>
 some (false, ())
noncomputable def S_i_sameFrame : Spec := ⟨(.pair TFrame (.pair TFrame .unit)), (.pair .bool .unit), .unit, rfl, i_sameFrame⟩
noncomputable def σ_i_sameFrame : FuncId → Option Spec := sig [(106, S_slices_Equal_int64)]
theorem σok_i_sameFrame : ∀ f s, σ_i_sameFrame f = some s → FnOK G0 Tryz.prog f s := sig_ok ⟨ok_slices_Equal_int64, trivial⟩
theorem ok_i_sameFrame : FnOK G0 Tryz.prog 82 S_i_sameFrame := fn_okS tab0 σok_i_sameFrame Tryz.func82 [] (by kernel_rfl) (by exact trivial) fun x => by kernel_rfl

noncomputable def i_SameVerdict (x : Ty.T (.pair TVerdict (.pair TVerdict .unit))) : Option (Ty.T (.pair .bool .unit)) :=
match (x.1.1 == x.2.1.1) with
| true =>
 match i_sameFrame ((x.1.2.1.1, x.1.2.1.2.1, (x.1.2.1.2.2.1.1, x.1.2.1.2.2.1.2.1, x.1.2.1.2.2.1.2.2.1, x.1.2.1.2.2.1.2.2.2.1, x.1.2.1.2.2.1.2.2.2.2.1, ()), x.1.2.1.2.2.2.1, ()), (x.2.1.2.1.1, x.2.1.2.1.2.1, (x.2.1.2.1.2.2.1.1, x.2.1.2.1.2.2.1.2.1, x.2.1.2.1.2.2.1.2.2.1, x.2.1.2.1.2.2.1.2.2.2.1, x.2.1.2.1.2.2.1.2.2.2.2.1, ()), x.2.1.2.1.2.2.2.1, ()), ()) with
 | none => none
 | some v1 =>
 some (v1.1, ())
| false =>
 some (false, ())
noncomputable def S_i_SameVerdict : Spec := ⟨(.pair TVerdict (.pair TVerdict .unit)), (.pair .bool .unit), .unit, rfl, i_SameVerdict⟩
noncomputable def σ_i_SameVerdict : FuncId → Option Spec := sig [(82, S_i_sameFrame)]
theorem σok_i_SameVerdict : ∀ f s, σ_i_SameVerdict f = some s → FnOK G0 Tryz.prog f s := sig_ok ⟨ok_i_sameFrame, trivial⟩
theorem ok_i_SameVerdict : FnOK G0 Tryz.prog 62 S_i_SameVerdict := fn_okS tab0 σok_i_SameVerdict Tryz.func62 [] (by kernel_rfl) (by exact trivial) fun x => by kernel_rfl

noncomputable def i_merge (x : Ty.T (.pair (.pair (.int .i64) (.pair (.pair (.int .i64) (.pair (.int .i64) (.pair TState (.pair (.own 2 (.int .i64)) .unit)))) .unit)) (.pair (.pair (.int .i64) (.pair (.pair (.int .i64) (.pair (.int .i64) (.pair TState (.pair (.own 2 (.int .i64)) .unit)))) .unit)) .unit))) : Option (Ty.T (.pair (.pair (.int .i64) (.pair (.pair (.int .i64) (.pair (.int .i64) (.pair TState (.pair (.own 2 (.int .i64)) .unit)))) .unit)) .unit)) :=
match (x.1.1 == (3 : Int)) with
| true =>
 match i_SameVerdict ((x.1.1, (x.1.2.1.1, x.1.2.1.2.1, (x.1.2.1.2.2.1.1, x.1.2.1.2.2.1.2.1, x.1.2.1.2.2.1.2.2.1, x.1.2.1.2.2.1.2.2.2.1, x.1.2.1.2.2.1.2.2.2.2.1, ()), x.1.2.1.2.2.2.1, ()), ()), (x.2.1.1, (x.2.1.2.1.1, x.2.1.2.1.2.1, (x.2.1.2.1.2.2.1.1, x.2.1.2.1.2.2.1.2.1, x.2.1.2.1.2.2.1.2.2.1, x.2.1.2.1.2.2.1.2.2.2.1, x.2.1.2.1.2.2.1.2.2.2.2.1, ()), x.2.1.2.1.2.2.2.1, ()), ()), ()) with
 | none => none
 | some v1 =>
 match v1.1 with
 | true =>
  some ((x.1.1, (x.1.2.1.1, x.1.2.1.2.1, (x.1.2.1.2.2.1.1, x.1.2.1.2.2.1.2.1, x.1.2.1.2.2.1.2.2.1, x.1.2.1.2.2.1.2.2.2.1, x.1.2.1.2.2.1.2.2.2.2.1, ()), x.1.2.1.2.2.2.1, ()), ()), ())
 | false =>
  match (x.1.1 == (3 : Int)) with
  | true =>
   match (x.2.1.1 == (3 : Int)) with
   | true =>
    some (((4 : Int), ((0 : Int), (0 : Int), ((0 : Int), (0 : Int), (0 : Int), (0 : Int), (0 : Int), ()), [], ()), ()), ())
   | false =>
    match (x.1.1 == (4 : Int)) with
    | true =>
     some (((4 : Int), ((0 : Int), (0 : Int), ((0 : Int), (0 : Int), (0 : Int), (0 : Int), (0 : Int), ()), [], ()), ()), ())
    | false =>
     match (x.2.1.1 == (4 : Int)) with
     | true =>
      some (((4 : Int), ((0 : Int), (0 : Int), ((0 : Int), (0 : Int), (0 : Int), (0 : Int), (0 : Int), ()), [], ()), ()), ())
     | false =>
      match (decide (x.1.1 ≥ x.2.1.1)) with
      | true =>
       some ((x.1.1, (x.1.2.1.1, x.1.2.1.2.1, (x.1.2.1.2.2.1.1, x.1.2.1.2.2.1.2.1, x.1.2.1.2.2.1.2.2.1, x.1.2.1.2.2.1.2.2.2.1, x.1.2.1.2.2.1.2.2.2.2.1, ()), x.1.2.1.2.2.2.1, ()), ()), ())
      | false =>
       some ((x.2.1.1, (x.2.1.2.1.1, x.2.1.2.1.2.1, (x.2.1.2.1.2.2.1.1, x.2.1.2.1.2.2.1.2.1, x.2.1.2.1.2.2.1.2.2.1, x.2.1.2.1.2.2.1.2.2.2.1, x.2.1.2.1.2.2.1.2.2.2.2.1, ()), x.2.1.2.1.2.2.2.1, ()), ()), ())
  | false =>
   match (x.1.1 == (4 : Int)) with
   | true =>
    some (((4 : Int), ((0 : Int), (0 : Int), ((0 : Int), (0 : Int), (0 : Int), (0 : Int), (0 : Int), ()), [], ()), ()), ())
   | false =>
    match (x.2.1.1 == (4 : Int)) with
    | true =>
     some (((4 : Int), ((0 : Int), (0 : Int), ((0 : Int), (0 : Int), (0 : Int), (0 : Int), (0 : Int), ()), [], ()), ()), ())
    | false =>
     match (decide (x.1.1 ≥ x.2.1.1)) with
     | true =>
      some ((x.1.1, (x.1.2.1.1, x.1.2.1.2.1, (x.1.2.1.2.2.1.1, x.1.2.1.2.2.1.2.1, x.1.2.1.2.2.1.2.2.1, x.1.2.1.2.2.1.2.2.2.1, x.1.2.1.2.2.1.2.2.2.2.1, ()), x.1.2.1.2.2.2.1, ()), ()), ())
     | false =>
      some ((x.2.1.1, (x.2.1.2.1.1, x.2.1.2.1.2.1, (x.2.1.2.1.2.2.1.1, x.2.1.2.1.2.2.1.2.1, x.2.1.2.1.2.2.1.2.2.1, x.2.1.2.1.2.2.1.2.2.2.1, x.2.1.2.1.2.2.1.2.2.2.2.1, ()), x.2.1.2.1.2.2.2.1, ()), ()), ())
| false =>
 match (x.1.1 == (3 : Int)) with
 | true =>
  match (x.2.1.1 == (3 : Int)) with
  | true =>
   some (((4 : Int), ((0 : Int), (0 : Int), ((0 : Int), (0 : Int), (0 : Int), (0 : Int), (0 : Int), ()), [], ()), ()), ())
  | false =>
   match (x.1.1 == (4 : Int)) with
   | true =>
    some (((4 : Int), ((0 : Int), (0 : Int), ((0 : Int), (0 : Int), (0 : Int), (0 : Int), (0 : Int), ()), [], ()), ()), ())
   | false =>
    match (x.2.1.1 == (4 : Int)) with
    | true =>
     some (((4 : Int), ((0 : Int), (0 : Int), ((0 : Int), (0 : Int), (0 : Int), (0 : Int), (0 : Int), ()), [], ()), ()), ())
    | false =>
     match (decide (x.1.1 ≥ x.2.1.1)) with
     | true =>
      some ((x.1.1, (x.1.2.1.1, x.1.2.1.2.1, (x.1.2.1.2.2.1.1, x.1.2.1.2.2.1.2.1, x.1.2.1.2.2.1.2.2.1, x.1.2.1.2.2.1.2.2.2.1, x.1.2.1.2.2.1.2.2.2.2.1, ()), x.1.2.1.2.2.2.1, ()), ()), ())
     | false =>
      some ((x.2.1.1, (x.2.1.2.1.1, x.2.1.2.1.2.1, (x.2.1.2.1.2.2.1.1, x.2.1.2.1.2.2.1.2.1, x.2.1.2.1.2.2.1.2.2.1, x.2.1.2.1.2.2.1.2.2.2.1, x.2.1.2.1.2.2.1.2.2.2.2.1, ()), x.2.1.2.1.2.2.2.1, ()), ()), ())
 | false =>
  match (x.1.1 == (4 : Int)) with
  | true =>
   some (((4 : Int), ((0 : Int), (0 : Int), ((0 : Int), (0 : Int), (0 : Int), (0 : Int), (0 : Int), ()), [], ()), ()), ())
  | false =>
   match (x.2.1.1 == (4 : Int)) with
   | true =>
    some (((4 : Int), ((0 : Int), (0 : Int), ((0 : Int), (0 : Int), (0 : Int), (0 : Int), (0 : Int), ()), [], ()), ()), ())
   | false =>
    match (decide (x.1.1 ≥ x.2.1.1)) with
    | true =>
     some ((x.1.1, (x.1.2.1.1, x.1.2.1.2.1, (x.1.2.1.2.2.1.1, x.1.2.1.2.2.1.2.1, x.1.2.1.2.2.1.2.2.1, x.1.2.1.2.2.1.2.2.2.1, x.1.2.1.2.2.1.2.2.2.2.1, ()), x.1.2.1.2.2.2.1, ()), ()), ())
    | false =>
     some ((x.2.1.1, (x.2.1.2.1.1, x.2.1.2.1.2.1, (x.2.1.2.1.2.2.1.1, x.2.1.2.1.2.2.1.2.1, x.2.1.2.1.2.2.1.2.2.1, x.2.1.2.1.2.2.1.2.2.2.1, x.2.1.2.1.2.2.1.2.2.2.2.1, ()), x.2.1.2.1.2.2.2.1, ()), ()), ())
noncomputable def S_i_merge : Spec := ⟨(.pair (.pair (.int .i64) (.pair (.pair (.int .i64) (.pair (.int .i64) (.pair TState (.pair (.own 2 (.int .i64)) .unit)))) .unit)) (.pair (.pair (.int .i64) (.pair (.pair (.int .i64) (.pair (.int .i64) (.pair TState (.pair (.own 2 (.int .i64)) .unit)))) .unit)) .unit)), (.pair (.pair (.int .i64) (.pair (.pair (.int .i64) (.pair (.int .i64) (.pair TState (.pair (.own 2 (.int .i64)) .unit)))) .unit)) .unit), .unit, rfl, i_merge⟩
noncomputable def σ_i_merge : FuncId → Option Spec := sig [(62, S_i_SameVerdict)]
theorem σok_i_merge : ∀ f s, σ_i_merge f = some s → FnOK G0 Tryz.prog f s := sig_ok ⟨ok_i_SameVerdict, trivial⟩
theorem ok_i_merge : FnOK G0 Tryz.prog 41 S_i_merge := fn_okS tab0 σok_i_merge Tryz.func41 [] (by kernel_rfl) (by exact trivial) fun x => by kernel_rfl

noncomputable def i_ReceiveBoth (x : Ty.T (.pair TMedl (.pair TState (.pair (.list (.int .i64)) (.pair (.list (.int .i64)) .unit))))) : Option (Ty.T (.pair (.pair (.int .i64) (.pair (.pair (.int .i64) (.pair (.int .i64) (.pair TState (.pair (.own 2 (.int .i64)) .unit)))) .unit)) (.pair (.int .i64) .unit))) :=
match i_ReceiveChannel ((x.1.1, x.1.2.1, x.1.2.2.1, x.1.2.2.2.1, ()), (x.2.1.1, x.2.1.2.1, x.2.1.2.2.1, x.2.1.2.2.2.1, x.2.1.2.2.2.2.1, ()), x.2.2.1, ()) with
| none => none
| some v1 =>
match (v1.2.1 != (0 : Int)) with
| true =>
 some (((0 : Int), ((0 : Int), (0 : Int), ((0 : Int), (0 : Int), (0 : Int), (0 : Int), (0 : Int), ()), [], ()), ()), v1.2.1, ())
| false =>
 match i_ReceiveChannel ((x.1.1, x.1.2.1, x.1.2.2.1, x.1.2.2.2.1, ()), (x.2.1.1, x.2.1.2.1, x.2.1.2.2.1, x.2.1.2.2.2.1, x.2.1.2.2.2.2.1, ()), x.2.2.2.1, ()) with
 | none => none
 | some v2 =>
 match (v2.2.1 != (0 : Int)) with
 | true =>
  some (((0 : Int), ((0 : Int), (0 : Int), ((0 : Int), (0 : Int), (0 : Int), (0 : Int), (0 : Int), ()), [], ()), ()), v2.2.1, ())
 | false =>
  match i_merge ((v1.1.1, (v1.1.2.1.1, v1.1.2.1.2.1, (v1.1.2.1.2.2.1.1, v1.1.2.1.2.2.1.2.1, v1.1.2.1.2.2.1.2.2.1, v1.1.2.1.2.2.1.2.2.2.1, v1.1.2.1.2.2.1.2.2.2.2.1, ()), v1.1.2.1.2.2.2.1, ()), ()), (v2.1.1, (v2.1.2.1.1, v2.1.2.1.2.1, (v2.1.2.1.2.2.1.1, v2.1.2.1.2.2.1.2.1, v2.1.2.1.2.2.1.2.2.1, v2.1.2.1.2.2.1.2.2.2.1, v2.1.2.1.2.2.1.2.2.2.2.1, ()), v2.1.2.1.2.2.2.1, ()), ()), ()) with
  | none => none
  | some v3 =>
  some ((v3.1.1, (v3.1.2.1.1, v3.1.2.1.2.1, (v3.1.2.1.2.2.1.1, v3.1.2.1.2.2.1.2.1, v3.1.2.1.2.2.1.2.2.1, v3.1.2.1.2.2.1.2.2.2.1, v3.1.2.1.2.2.1.2.2.2.2.1, ()), v3.1.2.1.2.2.2.1, ()), ()), (0 : Int), ())
noncomputable def S_i_ReceiveBoth : Spec := ⟨(.pair TMedl (.pair TState (.pair (.list (.int .i64)) (.pair (.list (.int .i64)) .unit)))), (.pair (.pair (.int .i64) (.pair (.pair (.int .i64) (.pair (.int .i64) (.pair TState (.pair (.own 2 (.int .i64)) .unit)))) .unit)) (.pair (.int .i64) .unit)), .unit, rfl, i_ReceiveBoth⟩
noncomputable def σ_i_ReceiveBoth : FuncId → Option Spec := sig [(10, S_i_ReceiveChannel), (41, S_i_merge)]
theorem σok_i_ReceiveBoth : ∀ f s, σ_i_ReceiveBoth f = some s → FnOK G0 Tryz.prog f s := sig_ok ⟨ok_i_ReceiveChannel, ok_i_merge, trivial⟩
theorem ok_i_ReceiveBoth : FnOK G0 Tryz.prog 19 S_i_ReceiveBoth := fn_okS tab0 σok_i_ReceiveBoth Tryz.func19 [] (by kernel_rfl) (by exact trivial) fun x => by kernel_rfl

noncomputable def c_l_FnExactReceiveBoth_37 (x : Ty.T (.pair (.box (.pair (.int .i64) (.pair (.pair (.int .i64) (.pair (.int .i64) (.pair TState (.pair (.own 2 (.int .i64)) .unit)))) .unit))) (.pair (.int .i64) (.pair (.box (.pair (.int .i64) (.pair (.pair (.int .i64) (.pair (.int .i64) (.pair TState (.pair (.own 2 (.int .i64)) .unit)))) .unit))) (.pair (.int .i64) (.pair (.box (.pair (.int .i64) (.pair (.pair (.int .i64) (.pair (.int .i64) (.pair TState (.pair (.own 2 (.int .i64)) .unit)))) .unit))) (.pair (.int .i64) .unit))))))) : Option (Unit ⊕ (Ty.T (.pair .bool .unit))) :=
match l_eqVerdict ((x.2.2.2.2.1.1, (x.2.2.2.2.1.2.1.1, x.2.2.2.2.1.2.1.2.1, (x.2.2.2.2.1.2.1.2.2.1.1, x.2.2.2.2.1.2.1.2.2.1.2.1, x.2.2.2.2.1.2.1.2.2.1.2.2.1, x.2.2.2.2.1.2.1.2.2.1.2.2.2.1, x.2.2.2.2.1.2.1.2.2.1.2.2.2.2.1, ()), x.2.2.2.2.1.2.1.2.2.2.1, ()), ()), (x.1.1, (x.1.2.1.1, x.1.2.1.2.1, (x.1.2.1.2.2.1.1, x.1.2.1.2.2.1.2.1, x.1.2.1.2.2.1.2.2.1, x.1.2.1.2.2.1.2.2.2.1, x.1.2.1.2.2.1.2.2.2.2.1, ()), x.1.2.1.2.2.2.1, ()), ()), ()) with
| none => none
| some v18 =>
match (!v18.1) with
| true =>
 some (.inr (false, ()))
| false =>
 match (x.2.2.2.2.2.1 != x.2.1) with
 | true =>
  some (.inr (false, ()))
 | false =>
  match l_heldVerdict ((x.2.2.1.1, (x.2.2.1.2.1.1, x.2.2.1.2.1.2.1, (x.2.2.1.2.1.2.2.1.1, x.2.2.1.2.1.2.2.1.2.1, x.2.2.1.2.1.2.2.1.2.2.1, x.2.2.1.2.1.2.2.1.2.2.2.1, x.2.2.1.2.1.2.2.1.2.2.2.2.1, ()), x.2.2.1.2.1.2.2.2.1, ()), ()), (1 : Int), ()) with
  | none => none
  | some v19 =>
  match (decide (v19.1 < (0 : Int))) with
  | true =>
   some (.inr (false, ()))
  | false =>
   match (v19.1 != x.2.2.2.1) with
   | true =>
    some (.inr (false, ()))
   | false =>
    some (.inr (true, ()))
noncomputable def c_l_FnExactReceiveBoth_14 (x : Ty.T (.pair (.list (.int .i64)) (.pair (.list (.int .i64)) (.pair (.ptr TMedl) (.pair (.ptr TState) (.pair (.box (.pair (.int .i64) (.pair (.pair (.int .i64) (.pair (.int .i64) (.pair TState (.pair (.own 2 (.int .i64)) .unit)))) .unit))) (.pair (.int .i64) (.pair (.box (.pair (.int .i64) (.pair (.own 82 TNodeInfo) (.pair (.own 84 (.pair (.int .i64) (.pair (.int .i64) (.pair (.own 2 (.int .i64)) .unit)))) (.pair (.own 89 TSlotInfo) .unit))))) (.pair (.own 2 (.int .i64)) (.pair (.own 2 (.int .i64)) (.pair (.box (.pair (.int .i64) (.pair (.pair (.int .i64) (.pair (.int .i64) (.pair TState (.pair (.own 2 (.int .i64)) .unit)))) .unit))) (.pair (.int .i64) .unit)))))))))))) : Option (Unit ⊕ (Ty.T (.pair .bool .unit))) :=
match l_eqVerdict ((x.2.2.2.2.2.2.2.2.2.1.1, (x.2.2.2.2.2.2.2.2.2.1.2.1.1, x.2.2.2.2.2.2.2.2.2.1.2.1.2.1, (x.2.2.2.2.2.2.2.2.2.1.2.1.2.2.1.1, x.2.2.2.2.2.2.2.2.2.1.2.1.2.2.1.2.1, x.2.2.2.2.2.2.2.2.2.1.2.1.2.2.1.2.2.1, x.2.2.2.2.2.2.2.2.2.1.2.1.2.2.1.2.2.2.1, x.2.2.2.2.2.2.2.2.2.1.2.1.2.2.1.2.2.2.2.1, ()), x.2.2.2.2.2.2.2.2.2.1.2.1.2.2.2.1, ()), ()), (x.2.2.2.2.1.1, (x.2.2.2.2.1.2.1.1, x.2.2.2.2.1.2.1.2.1, (x.2.2.2.2.1.2.1.2.2.1.1, x.2.2.2.2.1.2.1.2.2.1.2.1, x.2.2.2.2.1.2.1.2.2.1.2.2.1, x.2.2.2.2.1.2.1.2.2.1.2.2.2.1, x.2.2.2.2.1.2.1.2.2.1.2.2.2.2.1, ()), x.2.2.2.2.1.2.1.2.2.2.1, ()), ()), ()) with
| none => none
| some v5 =>
match (!v5.1) with
| true =>
 some (.inr (false, ()))
| false =>
 match (x.2.2.2.2.2.2.2.2.2.2.1 != x.2.2.2.2.2.1) with
 | true =>
  some (.inr (false, ()))
 | false =>
  match l_toMedl (x.2.2.1, ()) with
  | none => none
  | some v6 =>
  match l_eqMedl ((x.2.2.2.2.2.2.1.1, x.2.2.2.2.2.2.1.2.1, x.2.2.2.2.2.2.1.2.2.1, x.2.2.2.2.2.2.1.2.2.2.1, ()), (v6.1.1, v6.1.2.1, v6.1.2.2.1, v6.1.2.2.2.1, ()), ()) with
  | none => none
  | some v7 =>
  match (!v7.1) with
  | true =>
   some (.inr (false, ()))
  | false =>
   match l_toInt64S (x.1, ()) with
   | none => none
   | some v8 =>
   match l_eqInt64S (x.2.2.2.2.2.2.2.1, v8.1, ()) with
   | none => none
   | some v9 =>
   match (!v9.1) with
   | true =>
    some (.inr (false, ()))
   | false =>
    match l_toInt64S (x.2.1, ()) with
    | none => none
    | some v10 =>
    match l_eqInt64S (x.2.2.2.2.2.2.2.2.1, v10.1, ()) with
    | none => none
    | some v11 =>
    match (!v11.1) with
    | true =>
     some (.inr (false, ()))
    | false =>
     match l_markMedl ((x.2.2.2.2.2.2.1.1, x.2.2.2.2.2.2.1.2.1, x.2.2.2.2.2.2.1.2.2.1, x.2.2.2.2.2.2.1.2.2.2.1, ()), (1 : Int), ()) with
     | none => none
     | some v12 =>
     match l_markInt64S (x.2.2.2.2.2.2.2.1, v12.1, ()) with
     | none => none
     | some v13 =>
     match l_markInt64S (x.2.2.2.2.2.2.2.2.1, v13.1, ()) with
     | none => none
     | some v14 =>
     match (decide (v14.1 < (0 : Int))) with
     | true =>
      some (.inr (false, ()))
     | false =>
      match l_eqVerdict ((x.2.2.2.2.2.2.2.2.2.1.1, (x.2.2.2.2.2.2.2.2.2.1.2.1.1, x.2.2.2.2.2.2.2.2.2.1.2.1.2.1, (x.2.2.2.2.2.2.2.2.2.1.2.1.2.2.1.1, x.2.2.2.2.2.2.2.2.2.1.2.1.2.2.1.2.1, x.2.2.2.2.2.2.2.2.2.1.2.1.2.2.1.2.2.1, x.2.2.2.2.2.2.2.2.2.1.2.1.2.2.1.2.2.2.1, x.2.2.2.2.2.2.2.2.2.1.2.1.2.2.1.2.2.2.2.1, ()), x.2.2.2.2.2.2.2.2.2.1.2.1.2.2.2.1, ()), ()), (x.2.2.2.2.1.1, (x.2.2.2.2.1.2.1.1, x.2.2.2.2.1.2.1.2.1, (x.2.2.2.2.1.2.1.2.2.1.1, x.2.2.2.2.1.2.1.2.2.1.2.1, x.2.2.2.2.1.2.1.2.2.1.2.2.1, x.2.2.2.2.1.2.1.2.2.1.2.2.2.1, x.2.2.2.2.1.2.1.2.2.1.2.2.2.2.1, ()), x.2.2.2.2.1.2.1.2.2.2.1, ()), ()), ()) with
      | none => none
      | some v15 =>
      match (!v15.1) with
      | true =>
       some (.inr (false, ()))
      | false =>
       match (x.2.2.2.2.2.2.2.2.2.2.1 != x.2.2.2.2.2.1) with
       | true =>
        some (.inr (false, ()))
       | false =>
        match l_markVerdict ((x.2.2.2.2.2.2.2.2.2.1.1, (x.2.2.2.2.2.2.2.2.2.1.2.1.1, x.2.2.2.2.2.2.2.2.2.1.2.1.2.1, (x.2.2.2.2.2.2.2.2.2.1.2.1.2.2.1.1, x.2.2.2.2.2.2.2.2.2.1.2.1.2.2.1.2.1, x.2.2.2.2.2.2.2.2.2.1.2.1.2.2.1.2.2.1, x.2.2.2.2.2.2.2.2.2.1.2.1.2.2.1.2.2.2.1, x.2.2.2.2.2.2.2.2.2.1.2.1.2.2.1.2.2.2.2.1, ()), x.2.2.2.2.2.2.2.2.2.1.2.1.2.2.2.1, ()), ()), (1 : Int), ()) with
        | none => none
        | some v16 =>
        match l_heldVerdict ((x.2.2.2.2.2.2.2.2.2.1.1, (x.2.2.2.2.2.2.2.2.2.1.2.1.1, x.2.2.2.2.2.2.2.2.2.1.2.1.2.1, (x.2.2.2.2.2.2.2.2.2.1.2.1.2.2.1.1, x.2.2.2.2.2.2.2.2.2.1.2.1.2.2.1.2.1, x.2.2.2.2.2.2.2.2.2.1.2.1.2.2.1.2.2.1, x.2.2.2.2.2.2.2.2.2.1.2.1.2.2.1.2.2.2.1, x.2.2.2.2.2.2.2.2.2.1.2.1.2.2.1.2.2.2.2.1, ()), v16.2.1.2.1.2.2.2.1, ()), ()), (1 : Int), ()) with
        | none => none
        | some v17 =>
        match (decide (v17.1 < (0 : Int))) with
        | true =>
         some (.inr (false, ()))
        | false =>
         match (v17.1 != v16.1) with
         | true =>
          some (.inr (false, ()))
         | false =>
          both (
           match l_toMedl (x.2.2.1, ()) with
           | none => none
           | some v20 =>
           both (
            match l_toState (x.2.2.2.1, ()) with
            | none => none
            | some v21 =>
            both (
             match l_toInt64S (x.1, ()) with
             | none => none
             | some v22 =>
             both (
              match l_toInt64S (x.2.1, ()) with
              | none => none
              | some v23 =>
              same (
               match i_ReceiveBoth ((v20.1.1, v20.1.2.1, v20.1.2.2.1, v20.1.2.2.2.1, ()), v21.1, v22.1, v23.1, ()) with
               | none => none
               | some v24 =>
               match c_l_FnExactReceiveBoth_37 ((x.2.2.2.2.1.1, (x.2.2.2.2.1.2.1.1, x.2.2.2.2.1.2.1.2.1, (x.2.2.2.2.1.2.1.2.2.1.1, x.2.2.2.2.1.2.1.2.2.1.2.1, x.2.2.2.2.1.2.1.2.2.1.2.2.1, x.2.2.2.2.1.2.1.2.2.1.2.2.2.1, x.2.2.2.2.1.2.1.2.2.1.2.2.2.2.1, ()), x.2.2.2.2.1.2.1.2.2.2.1, ()), ()), x.2.2.2.2.2.1, (x.2.2.2.2.2.2.2.2.2.1.1, (x.2.2.2.2.2.2.2.2.2.1.2.1.1, x.2.2.2.2.2.2.2.2.2.1.2.1.2.1, (x.2.2.2.2.2.2.2.2.2.1.2.1.2.2.1.1, x.2.2.2.2.2.2.2.2.2.1.2.1.2.2.1.2.1, x.2.2.2.2.2.2.2.2.2.1.2.1.2.2.1.2.2.1, x.2.2.2.2.2.2.2.2.2.1.2.1.2.2.1.2.2.2.1, x.2.2.2.2.2.2.2.2.2.1.2.1.2.2.1.2.2.2.2.1, ()), v16.2.1.2.1.2.2.2.1, ()), ()), v16.1, (v24.1.1, (v24.1.2.1.1, v24.1.2.1.2.1, (v24.1.2.1.2.2.1.1, v24.1.2.1.2.2.1.2.1, v24.1.2.1.2.2.1.2.2.1, v24.1.2.1.2.2.1.2.2.2.1, v24.1.2.1.2.2.1.2.2.2.2.1, ()), v24.1.2.1.2.2.2.1, ()), ()), v24.2.1, ()) with
               | none => none
               | some (.inl v26) => none
               | some (.inr v25) =>
                some (.inr (v25.1, ())))) (
              match l_toInt64S (x.2.1, ()) with
              | none => none
              | some v23 =>
              match i_ReceiveBoth ((v20.1.1, v20.1.2.1, v20.1.2.2.1, v20.1.2.2.2.1, ()), v21.1, v22.1, v23.1, ()) with
              | none => none
              | some v24 =>
              match c_l_FnExactReceiveBoth_37 ((x.2.2.2.2.1.1, (x.2.2.2.2.1.2.1.1, x.2.2.2.2.1.2.1.2.1, (x.2.2.2.2.1.2.1.2.2.1.1, x.2.2.2.2.1.2.1.2.2.1.2.1, x.2.2.2.2.1.2.1.2.2.1.2.2.1, x.2.2.2.2.1.2.1.2.2.1.2.2.2.1, x.2.2.2.2.1.2.1.2.2.1.2.2.2.2.1, ()), x.2.2.2.2.1.2.1.2.2.2.1, ()), ()), x.2.2.2.2.2.1, (x.2.2.2.2.2.2.2.2.2.1.1, (x.2.2.2.2.2.2.2.2.2.1.2.1.1, x.2.2.2.2.2.2.2.2.2.1.2.1.2.1, (x.2.2.2.2.2.2.2.2.2.1.2.1.2.2.1.1, x.2.2.2.2.2.2.2.2.2.1.2.1.2.2.1.2.1, x.2.2.2.2.2.2.2.2.2.1.2.1.2.2.1.2.2.1, x.2.2.2.2.2.2.2.2.2.1.2.1.2.2.1.2.2.2.1, x.2.2.2.2.2.2.2.2.2.1.2.1.2.2.1.2.2.2.2.1, ()), v16.2.1.2.1.2.2.2.1, ()), ()), v16.1, (v24.1.1, (v24.1.2.1.1, v24.1.2.1.2.1, (v24.1.2.1.2.2.1.1, v24.1.2.1.2.2.1.2.1, v24.1.2.1.2.2.1.2.2.1, v24.1.2.1.2.2.1.2.2.2.1, v24.1.2.1.2.2.1.2.2.2.2.1, ()), v24.1.2.1.2.2.2.1, ()), ()), v24.2.1, ()) with
              | none => none
              | some (.inl v26) => none
              | some (.inr v25) =>
               some (.inr (v25.1, ())))) (
             match l_toInt64S (x.1, ()) with
             | none => none
             | some v22 =>
             match l_toInt64S (x.2.1, ()) with
             | none => none
             | some v23 =>
             match i_ReceiveBoth ((v20.1.1, v20.1.2.1, v20.1.2.2.1, v20.1.2.2.2.1, ()), v21.1, v22.1, v23.1, ()) with
             | none => none
             | some v24 =>
             match c_l_FnExactReceiveBoth_37 ((x.2.2.2.2.1.1, (x.2.2.2.2.1.2.1.1, x.2.2.2.2.1.2.1.2.1, (x.2.2.2.2.1.2.1.2.2.1.1, x.2.2.2.2.1.2.1.2.2.1.2.1, x.2.2.2.2.1.2.1.2.2.1.2.2.1, x.2.2.2.2.1.2.1.2.2.1.2.2.2.1, x.2.2.2.2.1.2.1.2.2.1.2.2.2.2.1, ()), x.2.2.2.2.1.2.1.2.2.2.1, ()), ()), x.2.2.2.2.2.1, (x.2.2.2.2.2.2.2.2.2.1.1, (x.2.2.2.2.2.2.2.2.2.1.2.1.1, x.2.2.2.2.2.2.2.2.2.1.2.1.2.1, (x.2.2.2.2.2.2.2.2.2.1.2.1.2.2.1.1, x.2.2.2.2.2.2.2.2.2.1.2.1.2.2.1.2.1, x.2.2.2.2.2.2.2.2.2.1.2.1.2.2.1.2.2.1, x.2.2.2.2.2.2.2.2.2.1.2.1.2.2.1.2.2.2.1, x.2.2.2.2.2.2.2.2.2.1.2.1.2.2.1.2.2.2.2.1, ()), v16.2.1.2.1.2.2.2.1, ()), ()), v16.1, (v24.1.1, (v24.1.2.1.1, v24.1.2.1.2.1, (v24.1.2.1.2.2.1.1, v24.1.2.1.2.2.1.2.1, v24.1.2.1.2.2.1.2.2.1, v24.1.2.1.2.2.1.2.2.2.1, v24.1.2.1.2.2.1.2.2.2.2.1, ()), v24.1.2.1.2.2.2.1, ()), ()), v24.2.1, ()) with
             | none => none
             | some (.inl v26) => none
             | some (.inr v25) =>
              some (.inr (v25.1, ())))) (
            match l_toState (x.2.2.2.1, ()) with
            | none => none
            | some v21 =>
            match l_toInt64S (x.1, ()) with
            | none => none
            | some v22 =>
            match l_toInt64S (x.2.1, ()) with
            | none => none
            | some v23 =>
            match i_ReceiveBoth ((v20.1.1, v20.1.2.1, v20.1.2.2.1, v20.1.2.2.2.1, ()), v21.1, v22.1, v23.1, ()) with
            | none => none
            | some v24 =>
            match c_l_FnExactReceiveBoth_37 ((x.2.2.2.2.1.1, (x.2.2.2.2.1.2.1.1, x.2.2.2.2.1.2.1.2.1, (x.2.2.2.2.1.2.1.2.2.1.1, x.2.2.2.2.1.2.1.2.2.1.2.1, x.2.2.2.2.1.2.1.2.2.1.2.2.1, x.2.2.2.2.1.2.1.2.2.1.2.2.2.1, x.2.2.2.2.1.2.1.2.2.1.2.2.2.2.1, ()), x.2.2.2.2.1.2.1.2.2.2.1, ()), ()), x.2.2.2.2.2.1, (x.2.2.2.2.2.2.2.2.2.1.1, (x.2.2.2.2.2.2.2.2.2.1.2.1.1, x.2.2.2.2.2.2.2.2.2.1.2.1.2.1, (x.2.2.2.2.2.2.2.2.2.1.2.1.2.2.1.1, x.2.2.2.2.2.2.2.2.2.1.2.1.2.2.1.2.1, x.2.2.2.2.2.2.2.2.2.1.2.1.2.2.1.2.2.1, x.2.2.2.2.2.2.2.2.2.1.2.1.2.2.1.2.2.2.1, x.2.2.2.2.2.2.2.2.2.1.2.1.2.2.1.2.2.2.2.1, ()), v16.2.1.2.1.2.2.2.1, ()), ()), v16.1, (v24.1.1, (v24.1.2.1.1, v24.1.2.1.2.1, (v24.1.2.1.2.2.1.1, v24.1.2.1.2.2.1.2.1, v24.1.2.1.2.2.1.2.2.1, v24.1.2.1.2.2.1.2.2.2.1, v24.1.2.1.2.2.1.2.2.2.2.1, ()), v24.1.2.1.2.2.2.1, ()), ()), v24.2.1, ()) with
            | none => none
            | some (.inl v26) => none
            | some (.inr v25) =>
             some (.inr (v25.1, ())))) (
           match l_toMedl (x.2.2.1, ()) with
           | none => none
           | some v20 =>
           match l_toState (x.2.2.2.1, ()) with
           | none => none
           | some v21 =>
           match l_toInt64S (x.1, ()) with
           | none => none
           | some v22 =>
           match l_toInt64S (x.2.1, ()) with
           | none => none
           | some v23 =>
           match i_ReceiveBoth ((v20.1.1, v20.1.2.1, v20.1.2.2.1, v20.1.2.2.2.1, ()), v21.1, v22.1, v23.1, ()) with
           | none => none
           | some v24 =>
           match c_l_FnExactReceiveBoth_37 ((x.2.2.2.2.1.1, (x.2.2.2.2.1.2.1.1, x.2.2.2.2.1.2.1.2.1, (x.2.2.2.2.1.2.1.2.2.1.1, x.2.2.2.2.1.2.1.2.2.1.2.1, x.2.2.2.2.1.2.1.2.2.1.2.2.1, x.2.2.2.2.1.2.1.2.2.1.2.2.2.1, x.2.2.2.2.1.2.1.2.2.1.2.2.2.2.1, ()), x.2.2.2.2.1.2.1.2.2.2.1, ()), ()), x.2.2.2.2.2.1, (x.2.2.2.2.2.2.2.2.2.1.1, (x.2.2.2.2.2.2.2.2.2.1.2.1.1, x.2.2.2.2.2.2.2.2.2.1.2.1.2.1, (x.2.2.2.2.2.2.2.2.2.1.2.1.2.2.1.1, x.2.2.2.2.2.2.2.2.2.1.2.1.2.2.1.2.1, x.2.2.2.2.2.2.2.2.2.1.2.1.2.2.1.2.2.1, x.2.2.2.2.2.2.2.2.2.1.2.1.2.2.1.2.2.2.1, x.2.2.2.2.2.2.2.2.2.1.2.1.2.2.1.2.2.2.2.1, ()), v16.2.1.2.1.2.2.2.1, ()), ()), v16.1, (v24.1.1, (v24.1.2.1.1, v24.1.2.1.2.1, (v24.1.2.1.2.2.1.1, v24.1.2.1.2.2.1.2.1, v24.1.2.1.2.2.1.2.2.1, v24.1.2.1.2.2.1.2.2.2.1, v24.1.2.1.2.2.1.2.2.2.2.1, ()), v24.1.2.1.2.2.2.1, ()), ()), v24.2.1, ()) with
           | none => none
           | some (.inl v26) => none
           | some (.inr v25) =>
            some (.inr (v25.1, ())))
noncomputable def c_l_FnExactReceiveBoth_10 (x : Ty.T (.pair (.list (.int .i64)) (.pair (.list (.int .i64)) (.pair (.ptr TMedl) (.pair (.ptr TState) (.pair (.box (.pair (.int .i64) (.pair (.pair (.int .i64) (.pair (.int .i64) (.pair TState (.pair (.own 2 (.int .i64)) .unit)))) .unit))) (.pair (.int .i64) .unit))))))) : Option (Unit ⊕ (Ty.T (.pair .bool .unit))) :=
match l_toMedl (x.2.2.1, ()) with
| none => none
| some v2 =>
match l_toInt64S (x.1, ()) with
| none => none
| some v3 =>
match l_toInt64S (x.2.1, ()) with
| none => none
| some v4 =>
both (
 both (
  match l_toState (x.2.2.2.1, ()) with
  | none => none
  | some v27 =>
  same (
   match i_ReceiveBoth ((v2.1.1, v2.1.2.1, v2.1.2.2.1, v2.1.2.2.2.1, ()), v27.1, v3.1, v4.1, ()) with
   | none => none
   | some v28 =>
   match c_l_FnExactReceiveBoth_14 (x.1, x.2.1, x.2.2.1, x.2.2.2.1, (x.2.2.2.2.1.1, (x.2.2.2.2.1.2.1.1, x.2.2.2.2.1.2.1.2.1, (x.2.2.2.2.1.2.1.2.2.1.1, x.2.2.2.2.1.2.1.2.2.1.2.1, x.2.2.2.2.1.2.1.2.2.1.2.2.1, x.2.2.2.2.1.2.1.2.2.1.2.2.2.1, x.2.2.2.2.1.2.1.2.2.1.2.2.2.2.1, ()), x.2.2.2.2.1.2.1.2.2.2.1, ()), ()), x.2.2.2.2.2.1, (v2.1.1, v2.1.2.1, v2.1.2.2.1, v2.1.2.2.2.1, ()), v3.1, v4.1, (v28.1.1, (v28.1.2.1.1, v28.1.2.1.2.1, (v28.1.2.1.2.2.1.1, v28.1.2.1.2.2.1.2.1, v28.1.2.1.2.2.1.2.2.1, v28.1.2.1.2.2.1.2.2.2.1, v28.1.2.1.2.2.1.2.2.2.2.1, ()), v28.1.2.1.2.2.2.1, ()), ()), v28.2.1, ()) with
   | none => none
   | some (.inl v30) => none
   | some (.inr v29) =>
    some (.inr (v29.1, ())))) (
  match l_toState (x.2.2.2.1, ()) with
  | none => none
  | some v27 =>
  match i_ReceiveBoth ((v2.1.1, v2.1.2.1, v2.1.2.2.1, v2.1.2.2.2.1, ()), v27.1, v3.1, v4.1, ()) with
  | none => none
  | some v28 =>
  match c_l_FnExactReceiveBoth_14 (x.1, x.2.1, x.2.2.1, x.2.2.2.1, (x.2.2.2.2.1.1, (x.2.2.2.2.1.2.1.1, x.2.2.2.2.1.2.1.2.1, (x.2.2.2.2.1.2.1.2.2.1.1, x.2.2.2.2.1.2.1.2.2.1.2.1, x.2.2.2.2.1.2.1.2.2.1.2.2.1, x.2.2.2.2.1.2.1.2.2.1.2.2.2.1, x.2.2.2.2.1.2.1.2.2.1.2.2.2.2.1, ()), x.2.2.2.2.1.2.1.2.2.2.1, ()), ()), x.2.2.2.2.2.1, (v2.1.1, v2.1.2.1, v2.1.2.2.1, v2.1.2.2.2.1, ()), v3.1, v4.1, (v28.1.1, (v28.1.2.1.1, v28.1.2.1.2.1, (v28.1.2.1.2.2.1.1, v28.1.2.1.2.2.1.2.1, v28.1.2.1.2.2.1.2.2.1, v28.1.2.1.2.2.1.2.2.2.1, v28.1.2.1.2.2.1.2.2.2.2.1, ()), v28.1.2.1.2.2.2.1, ()), ()), v28.2.1, ()) with
  | none => none
  | some (.inl v30) => none
  | some (.inr v29) =>
   some (.inr (v29.1, ())))) (
 both (
  match l_toState (x.2.2.2.1, ()) with
  | none => none
  | some v27 =>
  both (
   same (
    match i_ReceiveBoth ((v2.1.1, v2.1.2.1, v2.1.2.2.1, v2.1.2.2.2.1, ()), v27.1, v3.1, v4.1, ()) with
    | none => none
    | some v28 =>
    match c_l_FnExactReceiveBoth_14 (x.1, x.2.1, x.2.2.1, x.2.2.2.1, (x.2.2.2.2.1.1, (x.2.2.2.2.1.2.1.1, x.2.2.2.2.1.2.1.2.1, (x.2.2.2.2.1.2.1.2.2.1.1, x.2.2.2.2.1.2.1.2.2.1.2.1, x.2.2.2.2.1.2.1.2.2.1.2.2.1, x.2.2.2.2.1.2.1.2.2.1.2.2.2.1, x.2.2.2.2.1.2.1.2.2.1.2.2.2.2.1, ()), x.2.2.2.2.1.2.1.2.2.2.1, ()), ()), x.2.2.2.2.2.1, (v2.1.1, v2.1.2.1, v2.1.2.2.1, v2.1.2.2.2.1, ()), v3.1, v4.1, (v28.1.1, (v28.1.2.1.1, v28.1.2.1.2.1, (v28.1.2.1.2.2.1.1, v28.1.2.1.2.2.1.2.1, v28.1.2.1.2.2.1.2.2.1, v28.1.2.1.2.2.1.2.2.2.1, v28.1.2.1.2.2.1.2.2.2.2.1, ()), v28.1.2.1.2.2.2.1, ()), ()), v28.2.1, ()) with
    | none => none
    | some (.inl v30) => none
    | some (.inr v29) =>
     some (.inr (v29.1, ())))) (
   match i_ReceiveBoth ((v2.1.1, v2.1.2.1, v2.1.2.2.1, v2.1.2.2.2.1, ()), v27.1, v3.1, v4.1, ()) with
   | none => none
   | some v28 =>
   match c_l_FnExactReceiveBoth_14 (x.1, x.2.1, x.2.2.1, x.2.2.2.1, (x.2.2.2.2.1.1, (x.2.2.2.2.1.2.1.1, x.2.2.2.2.1.2.1.2.1, (x.2.2.2.2.1.2.1.2.2.1.1, x.2.2.2.2.1.2.1.2.2.1.2.1, x.2.2.2.2.1.2.1.2.2.1.2.2.1, x.2.2.2.2.1.2.1.2.2.1.2.2.2.1, x.2.2.2.2.1.2.1.2.2.1.2.2.2.2.1, ()), x.2.2.2.2.1.2.1.2.2.2.1, ()), ()), x.2.2.2.2.2.1, (v2.1.1, v2.1.2.1, v2.1.2.2.1, v2.1.2.2.2.1, ()), v3.1, v4.1, (v28.1.1, (v28.1.2.1.1, v28.1.2.1.2.1, (v28.1.2.1.2.2.1.1, v28.1.2.1.2.2.1.2.1, v28.1.2.1.2.2.1.2.2.1, v28.1.2.1.2.2.1.2.2.2.1, v28.1.2.1.2.2.1.2.2.2.2.1, ()), v28.1.2.1.2.2.2.1, ()), ()), v28.2.1, ()) with
   | none => none
   | some (.inl v30) => none
   | some (.inr v29) =>
    some (.inr (v29.1, ())))) (
  same (
   match l_toState (x.2.2.2.1, ()) with
   | none => none
   | some v27 =>
   match i_ReceiveBoth ((v2.1.1, v2.1.2.1, v2.1.2.2.1, v2.1.2.2.2.1, ()), v27.1, v3.1, v4.1, ()) with
   | none => none
   | some v28 =>
   match c_l_FnExactReceiveBoth_14 (x.1, x.2.1, x.2.2.1, x.2.2.2.1, (x.2.2.2.2.1.1, (x.2.2.2.2.1.2.1.1, x.2.2.2.2.1.2.1.2.1, (x.2.2.2.2.1.2.1.2.2.1.1, x.2.2.2.2.1.2.1.2.2.1.2.1, x.2.2.2.2.1.2.1.2.2.1.2.2.1, x.2.2.2.2.1.2.1.2.2.1.2.2.2.1, x.2.2.2.2.1.2.1.2.2.1.2.2.2.2.1, ()), x.2.2.2.2.1.2.1.2.2.2.1, ()), ()), x.2.2.2.2.2.1, (v2.1.1, v2.1.2.1, v2.1.2.2.1, v2.1.2.2.2.1, ()), v3.1, v4.1, (v28.1.1, (v28.1.2.1.1, v28.1.2.1.2.1, (v28.1.2.1.2.2.1.1, v28.1.2.1.2.2.1.2.1, v28.1.2.1.2.2.1.2.2.1, v28.1.2.1.2.2.1.2.2.2.1, v28.1.2.1.2.2.1.2.2.2.2.1, ()), v28.1.2.1.2.2.2.1, ()), ()), v28.2.1, ()) with
   | none => none
   | some (.inl v30) => none
   | some (.inr v29) =>
    some (.inr (v29.1, ())))))
noncomputable def l_FnExactReceiveBoth (x : Ty.T (.pair TMedl (.pair TState (.pair (.list (.int .i64)) (.pair (.list (.int .i64)) .unit))))) : Option (Ty.T (.pair .bool .unit)) :=
match (decide ((x.2.2.1.length : Int) > (1048576 : Int))) with
| true =>
 some (true, ())
| false =>
 match (decide ((x.2.2.2.1.length : Int) > (1048576 : Int))) with
 | true =>
  some (true, ())
 | false =>
  match l_szMedl ((x.1.1, x.1.2.1, x.1.2.2.1, x.1.2.2.2.1, ()), (1048576 : Int), ()) with
  | none => none
  | some v1 =>
  match (decide (v1.1 < (0 : Int))) with
  | true =>
   some (true, ())
  | false =>
   both (
    match l_toMedl ((x.1.1, x.1.2.1, x.1.2.2.1, x.1.2.2.2.1, ()), ()) with
    | none => none
    | some v31 =>
    both (
     match l_toState ((x.2.1.1, x.2.1.2.1, x.2.1.2.2.1, x.2.1.2.2.2.1, x.2.1.2.2.2.2.1, ()), ()) with
     | none => none
     | some v32 =>
     both (
      match l_toInt64S (x.2.2.1, ()) with
      | none => none
      | some v33 =>
      both (
       match l_toInt64S (x.2.2.2.1, ()) with
       | none => none
       | some v34 =>
       same (
        match s_ReceiveBoth ((v31.1.1, v31.1.2.1, v31.1.2.2.1, v31.1.2.2.2.1, ()), v32.1, v33.1, v34.1, ()) with
        | none => none
        | some v35 =>
        match c_l_FnExactReceiveBoth_10 (x.2.2.1, x.2.2.2.1, (x.1.1, x.1.2.1, x.1.2.2.1, x.1.2.2.2.1, ()), (x.2.1.1, x.2.1.2.1, x.2.1.2.2.1, x.2.1.2.2.2.1, x.2.1.2.2.2.2.1, ()), (v35.1.1, (v35.1.2.1.1, v35.1.2.1.2.1, (v35.1.2.1.2.2.1.1, v35.1.2.1.2.2.1.2.1, v35.1.2.1.2.2.1.2.2.1, v35.1.2.1.2.2.1.2.2.2.1, v35.1.2.1.2.2.1.2.2.2.2.1, ()), v35.1.2.1.2.2.2.1, ()), ()), v35.2.1, ()) with
        | none => none
        | some (.inl v37) => none
        | some (.inr v36) =>
         some (v36.1, ()))) (
       match l_toInt64S (x.2.2.2.1, ()) with
       | none => none
       | some v34 =>
       match s_ReceiveBoth ((v31.1.1, v31.1.2.1, v31.1.2.2.1, v31.1.2.2.2.1, ()), v32.1, v33.1, v34.1, ()) with
       | none => none
       | some v35 =>
       match c_l_FnExactReceiveBoth_10 (x.2.2.1, x.2.2.2.1, (x.1.1, x.1.2.1, x.1.2.2.1, x.1.2.2.2.1, ()), (x.2.1.1, x.2.1.2.1, x.2.1.2.2.1, x.2.1.2.2.2.1, x.2.1.2.2.2.2.1, ()), (v35.1.1, (v35.1.2.1.1, v35.1.2.1.2.1, (v35.1.2.1.2.2.1.1, v35.1.2.1.2.2.1.2.1, v35.1.2.1.2.2.1.2.2.1, v35.1.2.1.2.2.1.2.2.2.1, v35.1.2.1.2.2.1.2.2.2.2.1, ()), v35.1.2.1.2.2.2.1, ()), ()), v35.2.1, ()) with
       | none => none
       | some (.inl v37) => none
       | some (.inr v36) =>
        some (v36.1, ()))) (
      match l_toInt64S (x.2.2.1, ()) with
      | none => none
      | some v33 =>
      match l_toInt64S (x.2.2.2.1, ()) with
      | none => none
      | some v34 =>
      match s_ReceiveBoth ((v31.1.1, v31.1.2.1, v31.1.2.2.1, v31.1.2.2.2.1, ()), v32.1, v33.1, v34.1, ()) with
      | none => none
      | some v35 =>
      match c_l_FnExactReceiveBoth_10 (x.2.2.1, x.2.2.2.1, (x.1.1, x.1.2.1, x.1.2.2.1, x.1.2.2.2.1, ()), (x.2.1.1, x.2.1.2.1, x.2.1.2.2.1, x.2.1.2.2.2.1, x.2.1.2.2.2.2.1, ()), (v35.1.1, (v35.1.2.1.1, v35.1.2.1.2.1, (v35.1.2.1.2.2.1.1, v35.1.2.1.2.2.1.2.1, v35.1.2.1.2.2.1.2.2.1, v35.1.2.1.2.2.1.2.2.2.1, v35.1.2.1.2.2.1.2.2.2.2.1, ()), v35.1.2.1.2.2.2.1, ()), ()), v35.2.1, ()) with
      | none => none
      | some (.inl v37) => none
      | some (.inr v36) =>
       some (v36.1, ()))) (
     match l_toState ((x.2.1.1, x.2.1.2.1, x.2.1.2.2.1, x.2.1.2.2.2.1, x.2.1.2.2.2.2.1, ()), ()) with
     | none => none
     | some v32 =>
     match l_toInt64S (x.2.2.1, ()) with
     | none => none
     | some v33 =>
     match l_toInt64S (x.2.2.2.1, ()) with
     | none => none
     | some v34 =>
     match s_ReceiveBoth ((v31.1.1, v31.1.2.1, v31.1.2.2.1, v31.1.2.2.2.1, ()), v32.1, v33.1, v34.1, ()) with
     | none => none
     | some v35 =>
     match c_l_FnExactReceiveBoth_10 (x.2.2.1, x.2.2.2.1, (x.1.1, x.1.2.1, x.1.2.2.1, x.1.2.2.2.1, ()), (x.2.1.1, x.2.1.2.1, x.2.1.2.2.1, x.2.1.2.2.2.1, x.2.1.2.2.2.2.1, ()), (v35.1.1, (v35.1.2.1.1, v35.1.2.1.2.1, (v35.1.2.1.2.2.1.1, v35.1.2.1.2.2.1.2.1, v35.1.2.1.2.2.1.2.2.1, v35.1.2.1.2.2.1.2.2.2.1, v35.1.2.1.2.2.1.2.2.2.2.1, ()), v35.1.2.1.2.2.2.1, ()), ()), v35.2.1, ()) with
     | none => none
     | some (.inl v37) => none
     | some (.inr v36) =>
      some (v36.1, ()))) (
    match l_toMedl ((x.1.1, x.1.2.1, x.1.2.2.1, x.1.2.2.2.1, ()), ()) with
    | none => none
    | some v31 =>
    match l_toState ((x.2.1.1, x.2.1.2.1, x.2.1.2.2.1, x.2.1.2.2.2.1, x.2.1.2.2.2.2.1, ()), ()) with
    | none => none
    | some v32 =>
    match l_toInt64S (x.2.2.1, ()) with
    | none => none
    | some v33 =>
    match l_toInt64S (x.2.2.2.1, ()) with
    | none => none
    | some v34 =>
    match s_ReceiveBoth ((v31.1.1, v31.1.2.1, v31.1.2.2.1, v31.1.2.2.2.1, ()), v32.1, v33.1, v34.1, ()) with
    | none => none
    | some v35 =>
    match c_l_FnExactReceiveBoth_10 (x.2.2.1, x.2.2.2.1, (x.1.1, x.1.2.1, x.1.2.2.1, x.1.2.2.2.1, ()), (x.2.1.1, x.2.1.2.1, x.2.1.2.2.1, x.2.1.2.2.2.1, x.2.1.2.2.2.2.1, ()), (v35.1.1, (v35.1.2.1.1, v35.1.2.1.2.1, (v35.1.2.1.2.2.1.1, v35.1.2.1.2.2.1.2.1, v35.1.2.1.2.2.1.2.2.1, v35.1.2.1.2.2.1.2.2.2.1, v35.1.2.1.2.2.1.2.2.2.2.1, ()), v35.1.2.1.2.2.2.1, ()), ()), v35.2.1, ()) with
    | none => none
    | some (.inl v37) => none
    | some (.inr v36) =>
     some (v36.1, ()))
noncomputable def S_l_FnExactReceiveBoth : Spec := ⟨(.pair TMedl (.pair TState (.pair (.list (.int .i64)) (.pair (.list (.int .i64)) .unit)))), (.pair .bool .unit), .unit, rfl, l_FnExactReceiveBoth⟩
noncomputable def σ_l_FnExactReceiveBoth : FuncId → Option Spec := sig [(5, S_l_szMedl), (7, S_l_toMedl), (8, S_l_toState), (9, S_l_toInt64S), (11, S_l_eqVerdict), (12, S_l_eqMedl), (13, S_l_eqInt64S), (14, S_l_markMedl), (15, S_l_markInt64S), (16, S_l_markVerdict), (17, S_l_heldVerdict), (18, S_s_ReceiveBoth), (19, S_i_ReceiveBoth)]
theorem σok_l_FnExactReceiveBoth : ∀ f s, σ_l_FnExactReceiveBoth f = some s → FnOK G0 Tryz.prog f s := sig_ok ⟨ok_l_szMedl, ok_l_toMedl, ok_l_toState, ok_l_toInt64S, ok_l_eqVerdict, ok_l_eqMedl, ok_l_eqInt64S, ok_l_markMedl, ok_l_markInt64S, ok_l_markVerdict, ok_l_heldVerdict, ok_s_ReceiveBoth, ok_i_ReceiveBoth, trivial⟩
noncomputable def cuts_l_FnExactReceiveBoth : List (Nat × LSpec) := [(10, ⟨[2, 3, 4, 5, 10, 11], (.pair (.list (.int .i64)) (.pair (.list (.int .i64)) (.pair (.ptr TMedl) (.pair (.ptr TState) (.pair (.box (.pair (.int .i64) (.pair (.pair (.int .i64) (.pair (.int .i64) (.pair TState (.pair (.own 2 (.int .i64)) .unit)))) .unit))) (.pair (.int .i64) .unit)))))), 1000010, [], .unit, [8], (.pair .bool .unit), c_l_FnExactReceiveBoth_10⟩), (14, ⟨[2, 3, 4, 5, 10, 11, 12, 13, 14, 15, 16], (.pair (.list (.int .i64)) (.pair (.list (.int .i64)) (.pair (.ptr TMedl) (.pair (.ptr TState) (.pair (.box (.pair (.int .i64) (.pair (.pair (.int .i64) (.pair (.int .i64) (.pair TState (.pair (.own 2 (.int .i64)) .unit)))) .unit))) (.pair (.int .i64) (.pair (.box (.pair (.int .i64) (.pair (.own 82 TNodeInfo) (.pair (.own 84 (.pair (.int .i64) (.pair (.int .i64) (.pair (.own 2 (.int .i64)) .unit)))) (.pair (.own 89 TSlotInfo) .unit))))) (.pair (.own 2 (.int .i64)) (.pair (.own 2 (.int .i64)) (.pair (.box (.pair (.int .i64) (.pair (.pair (.int .i64) (.pair (.int .i64) (.pair TState (.pair (.own 2 (.int .i64)) .unit)))) .unit))) (.pair (.int .i64) .unit))))))))))), 1000014, [], .unit, [8], (.pair .bool .unit), c_l_FnExactReceiveBoth_14⟩), (37, ⟨[10, 11, 15, 18, 20, 21], (.pair (.box (.pair (.int .i64) (.pair (.pair (.int .i64) (.pair (.int .i64) (.pair TState (.pair (.own 2 (.int .i64)) .unit)))) .unit))) (.pair (.int .i64) (.pair (.box (.pair (.int .i64) (.pair (.pair (.int .i64) (.pair (.int .i64) (.pair TState (.pair (.own 2 (.int .i64)) .unit)))) .unit))) (.pair (.int .i64) (.pair (.box (.pair (.int .i64) (.pair (.pair (.int .i64) (.pair (.int .i64) (.pair TState (.pair (.own 2 (.int .i64)) .unit)))) .unit))) (.pair (.int .i64) .unit)))))), 1000037, [], .unit, [8], (.pair .bool .unit), c_l_FnExactReceiveBoth_37⟩)]
noncomputable def Λ_l_FnExactReceiveBoth : Nat → Option LSpec := lkp2 (loopList (bodyOf Tryz.f4)) [] cuts_l_FnExactReceiveBoth
theorem cok_l_FnExactReceiveBoth_10 (x) : codeK Γ0 E0 σ_l_FnExactReceiveBoth Λ_l_FnExactReceiveBoth Tryz.f4.ntmps (nthCut Tryz.f4 12) (mkF Tryz.f4.ntmps [2, 3, 4, 5, 10, 11] (.pair (.list (.int .i64)) (.pair (.list (.int .i64)) (.pair (.ptr TMedl) (.pair (.ptr TState) (.pair (.box (.pair (.int .i64) (.pair (.pair (.int .i64) (.pair (.int .i64) (.pair TState (.pair (.own 2 (.int .i64)) .unit)))) .unit))) (.pair (.int .i64) .unit)))))) x) (readC σ_l_FnExactReceiveBoth Tryz.f4.ntmps 1000010 [] .unit [8] (.pair .bool .unit)) = c_l_FnExactReceiveBoth_10 x := by kernel_rfl
theorem cok_l_FnExactReceiveBoth_14 (x) : codeK Γ0 E0 σ_l_FnExactReceiveBoth Λ_l_FnExactReceiveBoth Tryz.f4.ntmps (nthCut Tryz.f4 16) (mkF Tryz.f4.ntmps [2, 3, 4, 5, 10, 11, 12, 13, 14, 15, 16] (.pair (.list (.int .i64)) (.pair (.list (.int .i64)) (.pair (.ptr TMedl) (.pair (.ptr TState) (.pair (.box (.pair (.int .i64) (.pair (.pair (.int .i64) (.pair (.int .i64) (.pair TState (.pair (.own 2 (.int .i64)) .unit)))) .unit))) (.pair (.int .i64) (.pair (.box (.pair (.int .i64) (.pair (.own 82 TNodeInfo) (.pair (.own 84 (.pair (.int .i64) (.pair (.int .i64) (.pair (.own 2 (.int .i64)) .unit)))) (.pair (.own 89 TSlotInfo) .unit))))) (.pair (.own 2 (.int .i64)) (.pair (.own 2 (.int .i64)) (.pair (.box (.pair (.int .i64) (.pair (.pair (.int .i64) (.pair (.int .i64) (.pair TState (.pair (.own 2 (.int .i64)) .unit)))) .unit))) (.pair (.int .i64) .unit))))))))))) x) (readC σ_l_FnExactReceiveBoth Tryz.f4.ntmps 1000014 [] .unit [8] (.pair .bool .unit)) = c_l_FnExactReceiveBoth_14 x := by kernel_rfl
theorem cok_l_FnExactReceiveBoth_37 (x) : codeK Γ0 E0 σ_l_FnExactReceiveBoth Λ_l_FnExactReceiveBoth Tryz.f4.ntmps (nthCut Tryz.f4 46) (mkF Tryz.f4.ntmps [10, 11, 15, 18, 20, 21] (.pair (.box (.pair (.int .i64) (.pair (.pair (.int .i64) (.pair (.int .i64) (.pair TState (.pair (.own 2 (.int .i64)) .unit)))) .unit))) (.pair (.int .i64) (.pair (.box (.pair (.int .i64) (.pair (.pair (.int .i64) (.pair (.int .i64) (.pair TState (.pair (.own 2 (.int .i64)) .unit)))) .unit))) (.pair (.int .i64) (.pair (.box (.pair (.int .i64) (.pair (.pair (.int .i64) (.pair (.int .i64) (.pair TState (.pair (.own 2 (.int .i64)) .unit)))) .unit))) (.pair (.int .i64) .unit)))))) x) (readC σ_l_FnExactReceiveBoth Tryz.f4.ntmps 1000037 [] .unit [8] (.pair .bool .unit)) = c_l_FnExactReceiveBoth_37 x := by kernel_rfl
theorem ok_l_FnExactReceiveBoth : FnOK G0 Tryz.prog 4 S_l_FnExactReceiveBoth := fn_okC (Λ := Λ_l_FnExactReceiveBoth) tab0 σok_l_FnExactReceiveBoth Tryz.func4 (by kernel_rfl) (show Tryz.f4.body = some (bodyOf Tryz.f4) by kernel_rfl) [] cuts_l_FnExactReceiveBoth rfl (by kernel_rfl) (by exact trivial) (by exact ⟨trivial, trivial, trivial, trivial, trivial, trivial, trivial, trivial, trivial, trivial, trivial, trivial, cut_COK cok_l_FnExactReceiveBoth_10, trivial, trivial, trivial, cut_COK cok_l_FnExactReceiveBoth_14, trivial, trivial, trivial, trivial, trivial, trivial, trivial, trivial, trivial, trivial, trivial, trivial, trivial, trivial, trivial, trivial, trivial, trivial, trivial, trivial, trivial, trivial, trivial, trivial, trivial, trivial, trivial, trivial, trivial, cut_COK cok_l_FnExactReceiveBoth_37, trivial, trivial, trivial, trivial, trivial, trivial, trivial, trivial, trivial, trivial, trivial, trivial, trivial⟩) (by kernel_rfl)
  fun x y h => (show execFn Γ0 E0 σ_l_FnExactReceiveBoth Λ_l_FnExactReceiveBoth Tryz.f4 S_l_FnExactReceiveBoth x = l_FnExactReceiveBoth x by kernel_rfl).trans h

end Go.Proofs.YtieajgkcadmchaaGreatDoor
