/- What the functions of the claim do, on data; written by the program gen.py. -/
import Derived.Test.YtieajgkcadmchaaGreatDoorSho
import Derived.Test.YtieajgkcadmchaaGreatDoorLibS
import Derived.Test.YtieajgkcadmchaaGreatDoorSh
import Derived.Test.YtieajgkcadmchaaGreatDoorTdW
import Derived.Test.YtieajgkcadmchaaGreatDoorTrW
import Derived.Test.YtieajgkcadmchaaGreatDoorProg
import Derived.KernelRfl
namespace Go.Proofs.YtieajgkcadmchaaGreatDoor
open Go.RowKit
set_option linter.unusedVariables false

abbrev TerrorAddressString : Ty := (.pair .str (.pair (.int .u64) .unit))
abbrev TMedl : Ty := (.pair (.int .i64) (.pair (.list (.pair (.int .i64) (.pair .str (.pair (.int .i64) (.pair .bool .unit))))) (.pair (.list (.pair (.int .i64) (.pair (.int .i64) (.pair (.list (.int .i64)) .unit)))) (.pair (.list (.pair (.int .i64) (.pair (.int .i64) (.pair (.int .i64) (.pair (.pair (.int .i64) (.pair (.int .i64) (.pair (.int .i64) (.pair (.int .i64) (.pair .bool .unit))))) .unit))))) .unit))))
abbrev TState : Ty := (.pair (.int .i64) (.pair (.int .i64) (.pair (.int .i64) (.pair (.int .i64) (.pair (.int .i64) .unit)))))
abbrev TFrame : Ty := (.pair (.int .i64) (.pair (.int .i64) (.pair TState (.pair (.list (.int .i64)) .unit))))
abbrev TVerdict : Ty := (.pair (.int .i64) (.pair TFrame .unit))
abbrev TNodeInfo : Ty := (.pair (.int .i64) (.pair .str (.pair (.int .i64) (.pair .bool .unit))))
abbrev TModeInfo : Ty := (.pair (.int .i64) (.pair (.int .i64) (.pair (.list (.int .i64)) .unit)))
abbrev TDescriptor : Ty := (.pair (.int .i64) (.pair (.int .i64) (.pair (.int .i64) (.pair (.int .i64) (.pair .bool .unit)))))
abbrev TSlotInfo : Ty := (.pair (.int .i64) (.pair (.int .i64) (.pair (.int .i64) (.pair TDescriptor .unit))))
abbrev Tl23Result : Ty := (.pair (.int .i64) (.pair (.list (.int .i64)) (.pair (.int .i64) .unit)))
abbrev Tdecoding : Ty := (.pair (.list (.int .i64)) (.pair (.int .i64) (.pair (.list (.int .i64)) .unit)))
abbrev TCrc : Ty := (.pair (.int .i64) (.pair (.int .i64) .unit))
abbrev TacceptRange : Ty := (.pair (.int .u8) (.pair (.int .u8) .unit))
abbrev TboundsError : Ty := (.pair (.int .i64) (.pair (.int .i64) (.pair .bool (.pair (.int .u8) .unit))))
def Γ0 : Tab := [(2, (.int .i64)), (3, (.int .i64)), (4, .bool), (5, (.int .u8)), (9, .str), (22, (.list TNodeInfo)), (23, (.list TModeInfo)), (24, (.list TSlotInfo)), (26, TMedl), (28, TState), (29, (.list (.int .i64))), (31, TState), (33, TFrame), (35, TVerdict), (38, (.list TNodeInfo)), (39, (.list TModeInfo)), (40, (.list TSlotInfo)), (42, TMedl), (75, TNodeInfo), (78, TModeInfo), (82, TNodeInfo), (84, TModeInfo), (87, TDescriptor), (89, TSlotInfo), (91, TDescriptor), (93, TSlotInfo), (108, (.list (.int .u8))), (115, Tl23Result), (131, Tdecoding), (143, TCrc), (156, (.int .u64))]
def E0 : Elems := [(22, 75), (23, 78), (24, 93), (29, 2), (38, 82), (39, 84), (40, 89), (108, 5)]
theorem tab0 : tabB Tryz.prog Γ0 E0 = true := by kernel_rfl

def Γ1 : Tab := [(2, (.int .i64)), (22, (.list TNodeInfo)), (23, (.list TModeInfo)), (24, (.list TSlotInfo)), (26, TMedl), (29, (.list (.int .i64))), (38, (.list TNodeInfo)), (39, (.list (.pair (.int .i64) (.pair (.int .i64) (.pair (.own 2 (.int .i64)) .unit))))), (40, (.list TSlotInfo)), (42, TMedl), (78, TModeInfo), (84, TModeInfo)]
def E1 : Elems := [(23, 78), (39, 84)]
theorem tab1 : tabB Tryz.prog Γ1 E1 = true := by kernel_rfl

abbrev G0 : Gl := Gl.none
noncomputable def l_szNodeInfo (x : Ty.T (.pair TNodeInfo (.pair (.int .i64) .unit))) : Option (Ty.T (.pair (.int .i64) .unit)) :=
match (decide ((IntKind.i64.wrap (x.2.1 - (x.1.2.1.length : Int))) < (0 : Int))) with
| true =>
 some ((-1 : Int), ())
| false =>
 some ((IntKind.i64.wrap (x.2.1 - (x.1.2.1.length : Int))), ())
noncomputable def S_l_szNodeInfo : Spec := ⟨(.pair TNodeInfo (.pair (.int .i64) .unit)), (.pair (.int .i64) .unit), .unit, rfl, l_szNodeInfo⟩
noncomputable def σ_l_szNodeInfo : FuncId → Option Spec := sig []
theorem σok_l_szNodeInfo : ∀ f s, σ_l_szNodeInfo f = some s → FnOK G0 Tryz.prog f s := sig_ok trivial
theorem ok_l_szNodeInfo : FnOK G0 Tryz.prog 42 S_l_szNodeInfo := fn_okS tab0 σok_l_szNodeInfo Tryz.func42 [] (by kernel_rfl) (by exact trivial) fun x => by kernel_rfl

noncomputable def b_l_szNodeInfoS_5 (x : (Ty.T (.pair (.list TNodeInfo) TCrc))) : Option ((Ty.T (.pair (.list TNodeInfo) TCrc)) ⊕ ((Ty.T (.pair (.int .i64) .unit)) ⊕ (Ty.T (.pair (.int .i64) .unit)))) :=
match (decide (x.2.2.1 < (x.1.length : Int))) with
| true =>
 onSome (idx x.1 x.2.2.1) fun v1 =>
 match l_szNodeInfo (v1, x.2.1, ()) with
 | none => none
 | some v2 =>
 match (decide (v2.1 < (0 : Int))) with
 | true =>
  some (.inr (.inr ((-1 : Int), ())))
 | false =>
  some (.inl (x.1, v2.1, (IntKind.i64.wrap (x.2.2.1 + (1 : Int))), ()))
| false =>
 some (.inr (.inl (x.2.1, ())))
noncomputable def l_szNodeInfoS (x : Ty.T (.pair (.list TNodeInfo) (.pair (.int .i64) .unit))) : Option (Ty.T (.pair (.int .i64) .unit)) :=
match (decide ((IntKind.i64.wrap (x.2.1 - (x.1.length : Int))) < (0 : Int))) with
| true =>
 some ((-1 : Int), ())
| false =>
 match loopL b_l_szNodeInfoS_5 (x.1, (IntKind.i64.wrap (x.2.1 - (x.1.length : Int))), (0 : Int), ()) with
 | none => none
 | some (.inl v3) =>
  some (v3.1, ())
 | some (.inr v4) =>
  some (v4.1, ())
noncomputable def S_l_szNodeInfoS : Spec := ⟨(.pair (.list TNodeInfo) (.pair (.int .i64) .unit)), (.pair (.int .i64) .unit), .unit, rfl, l_szNodeInfoS⟩
noncomputable def σ_l_szNodeInfoS : FuncId → Option Spec := sig [(42, S_l_szNodeInfo)]
theorem σok_l_szNodeInfoS : ∀ f s, σ_l_szNodeInfoS f = some s → FnOK G0 Tryz.prog f s := sig_ok ⟨ok_l_szNodeInfo, trivial⟩
def q_l_szNodeInfoS_5 : LRow := ⟨[0, 1, 5], (.pair (.list TNodeInfo) TCrc), 0, [1], (.pair (.int .i64) .unit), [4], (.pair (.int .i64) .unit)⟩
noncomputable def ls_l_szNodeInfoS : List LSpec := [q_l_szNodeInfoS_5.spec b_l_szNodeInfoS_5]
theorem lok_l_szNodeInfoS_5 : Lok Γ0 E0 σ_l_szNodeInfoS (lam Tryz.f20 ls_l_szNodeInfoS) Tryz.f20 0 q_l_szNodeInfoS_5 b_l_szNodeInfoS_5 := fun x => by kernel_rfl
theorem ok_l_szNodeInfoS : FnOK G0 Tryz.prog 20 S_l_szNodeInfoS := fn_okS tab0 σok_l_szNodeInfoS Tryz.func20 ls_l_szNodeInfoS (by kernel_rfl) (by exact ⟨(lok_l_szNodeInfoS_5).lok, trivial⟩) fun x => by kernel_rfl

noncomputable def l_szInt64S (x : Ty.T (.pair (.list (.int .i64)) (.pair (.int .i64) .unit))) : Option (Ty.T (.pair (.int .i64) .unit)) :=
match (decide ((IntKind.i64.wrap (x.2.1 - (x.1.length : Int))) < (0 : Int))) with
| true =>
 some ((-1 : Int), ())
| false =>
 some ((IntKind.i64.wrap (x.2.1 - (x.1.length : Int))), ())
noncomputable def S_l_szInt64S : Spec := ⟨(.pair (.list (.int .i64)) (.pair (.int .i64) .unit)), (.pair (.int .i64) .unit), .unit, rfl, l_szInt64S⟩
noncomputable def σ_l_szInt64S : FuncId → Option Spec := sig []
theorem σok_l_szInt64S : ∀ f s, σ_l_szInt64S f = some s → FnOK G0 Tryz.prog f s := sig_ok trivial
theorem ok_l_szInt64S : FnOK G0 Tryz.prog 63 S_l_szInt64S := fn_okS tab0 σok_l_szInt64S Tryz.func63 [] (by kernel_rfl) (by exact trivial) fun x => by kernel_rfl

noncomputable def l_szModeInfo (x : Ty.T (.pair TModeInfo (.pair (.int .i64) .unit))) : Option (Ty.T (.pair (.int .i64) .unit)) :=
match l_szInt64S (x.1.2.2.1, x.2.1, ()) with
| none => none
| some v1 =>
match (decide (v1.1 < (0 : Int))) with
| true =>
 some ((-1 : Int), ())
| false =>
 some (v1.1, ())
noncomputable def S_l_szModeInfo : Spec := ⟨(.pair TModeInfo (.pair (.int .i64) .unit)), (.pair (.int .i64) .unit), .unit, rfl, l_szModeInfo⟩
noncomputable def σ_l_szModeInfo : FuncId → Option Spec := sig [(63, S_l_szInt64S)]
theorem σok_l_szModeInfo : ∀ f s, σ_l_szModeInfo f = some s → FnOK G0 Tryz.prog f s := sig_ok ⟨ok_l_szInt64S, trivial⟩
theorem ok_l_szModeInfo : FnOK G0 Tryz.prog 43 S_l_szModeInfo := fn_okS tab0 σok_l_szModeInfo Tryz.func43 [] (by kernel_rfl) (by exact trivial) fun x => by kernel_rfl

noncomputable def b_l_szModeInfoS_5 (x : (Ty.T (.pair (.list TModeInfo) TCrc))) : Option ((Ty.T (.pair (.list TModeInfo) TCrc)) ⊕ ((Ty.T (.pair (.int .i64) .unit)) ⊕ (Ty.T (.pair (.int .i64) .unit)))) :=
match (decide (x.2.2.1 < (x.1.length : Int))) with
| true =>
 onSome (idx x.1 x.2.2.1) fun v1 =>
 match l_szModeInfo (v1, x.2.1, ()) with
 | none => none
 | some v2 =>
 match (decide (v2.1 < (0 : Int))) with
 | true =>
  some (.inr (.inr ((-1 : Int), ())))
 | false =>
  some (.inl (x.1, v2.1, (IntKind.i64.wrap (x.2.2.1 + (1 : Int))), ()))
| false =>
 some (.inr (.inl (x.2.1, ())))
noncomputable def l_szModeInfoS (x : Ty.T (.pair (.list TModeInfo) (.pair (.int .i64) .unit))) : Option (Ty.T (.pair (.int .i64) .unit)) :=
match (decide ((IntKind.i64.wrap (x.2.1 - (x.1.length : Int))) < (0 : Int))) with
| true =>
 some ((-1 : Int), ())
| false =>
 match loopL b_l_szModeInfoS_5 (x.1, (IntKind.i64.wrap (x.2.1 - (x.1.length : Int))), (0 : Int), ()) with
 | none => none
 | some (.inl v3) =>
  some (v3.1, ())
 | some (.inr v4) =>
  some (v4.1, ())
noncomputable def S_l_szModeInfoS : Spec := ⟨(.pair (.list TModeInfo) (.pair (.int .i64) .unit)), (.pair (.int .i64) .unit), .unit, rfl, l_szModeInfoS⟩
noncomputable def σ_l_szModeInfoS : FuncId → Option Spec := sig [(43, S_l_szModeInfo)]
theorem σok_l_szModeInfoS : ∀ f s, σ_l_szModeInfoS f = some s → FnOK G0 Tryz.prog f s := sig_ok ⟨ok_l_szModeInfo, trivial⟩
def q_l_szModeInfoS_5 : LRow := ⟨[0, 1, 5], (.pair (.list TModeInfo) TCrc), 0, [1], (.pair (.int .i64) .unit), [4], (.pair (.int .i64) .unit)⟩
noncomputable def ls_l_szModeInfoS : List LSpec := [q_l_szModeInfoS_5.spec b_l_szModeInfoS_5]
theorem lok_l_szModeInfoS_5 : Lok Γ0 E0 σ_l_szModeInfoS (lam Tryz.f21 ls_l_szModeInfoS) Tryz.f21 0 q_l_szModeInfoS_5 b_l_szModeInfoS_5 := fun x => by kernel_rfl
theorem ok_l_szModeInfoS : FnOK G0 Tryz.prog 21 S_l_szModeInfoS := fn_okS tab0 σok_l_szModeInfoS Tryz.func21 ls_l_szModeInfoS (by kernel_rfl) (by exact ⟨(lok_l_szModeInfoS_5).lok, trivial⟩) fun x => by kernel_rfl

noncomputable def l_szSlotInfoS (x : Ty.T (.pair (.list TSlotInfo) (.pair (.int .i64) .unit))) : Option (Ty.T (.pair (.int .i64) .unit)) :=
match (decide ((IntKind.i64.wrap (x.2.1 - (x.1.length : Int))) < (0 : Int))) with
| true =>
 some ((-1 : Int), ())
| false =>
 some ((IntKind.i64.wrap (x.2.1 - (x.1.length : Int))), ())
noncomputable def S_l_szSlotInfoS : Spec := ⟨(.pair (.list TSlotInfo) (.pair (.int .i64) .unit)), (.pair (.int .i64) .unit), .unit, rfl, l_szSlotInfoS⟩
noncomputable def σ_l_szSlotInfoS : FuncId → Option Spec := sig []
theorem σok_l_szSlotInfoS : ∀ f s, σ_l_szSlotInfoS f = some s → FnOK G0 Tryz.prog f s := sig_ok trivial
theorem ok_l_szSlotInfoS : FnOK G0 Tryz.prog 22 S_l_szSlotInfoS := fn_okS tab0 σok_l_szSlotInfoS Tryz.func22 [] (by kernel_rfl) (by exact trivial) fun x => by kernel_rfl

noncomputable def l_szMedl (x : Ty.T (.pair TMedl (.pair (.int .i64) .unit))) : Option (Ty.T (.pair (.int .i64) .unit)) :=
match l_szNodeInfoS (x.1.2.1, x.2.1, ()) with
| none => none
| some v1 =>
match (decide (v1.1 < (0 : Int))) with
| true =>
 some ((-1 : Int), ())
| false =>
 match l_szModeInfoS (x.1.2.2.1, v1.1, ()) with
 | none => none
 | some v2 =>
 match (decide (v2.1 < (0 : Int))) with
 | true =>
  some ((-1 : Int), ())
 | false =>
  match l_szSlotInfoS (x.1.2.2.2.1, v2.1, ()) with
  | none => none
  | some v3 =>
  match (decide (v3.1 < (0 : Int))) with
  | true =>
   some ((-1 : Int), ())
  | false =>
   some (v3.1, ())
noncomputable def S_l_szMedl : Spec := ⟨(.pair TMedl (.pair (.int .i64) .unit)), (.pair (.int .i64) .unit), .unit, rfl, l_szMedl⟩
noncomputable def σ_l_szMedl : FuncId → Option Spec := sig [(20, S_l_szNodeInfoS), (21, S_l_szModeInfoS), (22, S_l_szSlotInfoS)]
theorem σok_l_szMedl : ∀ f s, σ_l_szMedl f = some s → FnOK G0 Tryz.prog f s := sig_ok ⟨ok_l_szNodeInfoS, ok_l_szModeInfoS, ok_l_szSlotInfoS, trivial⟩
theorem ok_l_szMedl : FnOK G0 Tryz.prog 5 S_l_szMedl := fn_okS tab0 σok_l_szMedl Tryz.func5 [] (by kernel_rfl) (by exact trivial) fun x => by kernel_rfl

noncomputable def l_toNodeInfo (x : Ty.T (.pair TNodeInfo .unit)) : Option (Ty.T (.pair TNodeInfo .unit)) :=
some ((x.1.1, x.1.2.1, x.1.2.2.1, x.1.2.2.2.1, ()), ())
noncomputable def S_l_toNodeInfo : Spec := ⟨(.pair TNodeInfo .unit), (.pair TNodeInfo .unit), .unit, rfl, l_toNodeInfo⟩
noncomputable def σ_l_toNodeInfo : FuncId → Option Spec := sig []
theorem σok_l_toNodeInfo : ∀ f s, σ_l_toNodeInfo f = some s → FnOK G0 Tryz.prog f s := sig_ok trivial
theorem ok_l_toNodeInfo : FnOK G0 Tryz.prog 48 S_l_toNodeInfo := fn_okS tab0 σok_l_toNodeInfo Tryz.func48 [] (by kernel_rfl) (by exact trivial) fun x => by kernel_rfl

noncomputable def b_l_toNodeInfoS_3 (x : (Ty.T (.pair (.list TNodeInfo) (.pair (.own 82 TNodeInfo) (.pair (.int .i64) .unit))))) : Option ((Ty.T (.pair (.list TNodeInfo) (.pair (.own 82 TNodeInfo) (.pair (.int .i64) .unit)))) ⊕ ((Ty.T (.pair (.own 82 TNodeInfo) .unit)) ⊕ (Ty.T .unit))) :=
match (decide (x.2.2.1 < (x.1.length : Int))) with
| true =>
 onSome (idx x.1 x.2.2.1) fun v1 =>
 match l_toNodeInfo (v1, ()) with
 | none => none
 | some v2 =>
 onSome (idx x.2.1 x.2.2.1) fun _ =>
 match x.2.1[x.2.2.1.toNat]? with
 | none => none
 | some v4 =>
 some (.inl (x.1, (x.2.1.set x.2.2.1.toNat (v2.1.1, v2.1.2.1, v2.1.2.2.1, v2.1.2.2.2.1, ())), (IntKind.i64.wrap (x.2.2.1 + (1 : Int))), ()))
| false =>
 some (.inr (.inl (x.2.1, ())))
noncomputable def l_toNodeInfoS (x : Ty.T (.pair (.list TNodeInfo) .unit)) : Option (Ty.T (.pair (.own 82 TNodeInfo) .unit)) :=
if 0 ≤ (x.1.length : Int) ∧ (x.1.length : Int) ≤ (x.1.length : Int) then
 room ((x.1.length : Int).toNat) (
  match loopL b_l_toNodeInfoS_3 (x.1, (List.replicate (x.1.length : Int).toNat ((0 : Int), [], (0 : Int), false, ())), (0 : Int), ()) with
  | none => none
  | some (.inl v5) =>
   some (v5.1, ())
  | some (.inr v7) =>
   none)
else none
noncomputable def S_l_toNodeInfoS : Spec := ⟨(.pair (.list TNodeInfo) .unit), (.pair (.own 82 TNodeInfo) .unit), .unit, rfl, l_toNodeInfoS⟩
noncomputable def σ_l_toNodeInfoS : FuncId → Option Spec := sig [(48, S_l_toNodeInfo)]
theorem σok_l_toNodeInfoS : ∀ f s, σ_l_toNodeInfoS f = some s → FnOK G0 Tryz.prog f s := sig_ok ⟨ok_l_toNodeInfo, trivial⟩
def q_l_toNodeInfoS_3 : LRow := ⟨[0, 3, 4], (.pair (.list TNodeInfo) (.pair (.own 82 TNodeInfo) (.pair (.int .i64) .unit))), 0, [3], (.pair (.own 82 TNodeInfo) .unit), [], .unit⟩
noncomputable def ls_l_toNodeInfoS : List LSpec := [q_l_toNodeInfoS_3.spec b_l_toNodeInfoS_3]
theorem lok_l_toNodeInfoS_3 : Lok Γ0 E0 σ_l_toNodeInfoS (lam Tryz.f25 ls_l_toNodeInfoS) Tryz.f25 0 q_l_toNodeInfoS_3 b_l_toNodeInfoS_3 := fun x => by kernel_rfl
theorem ok_l_toNodeInfoS : FnOK G0 Tryz.prog 25 S_l_toNodeInfoS := fn_okS tab0 σok_l_toNodeInfoS Tryz.func25 ls_l_toNodeInfoS (by kernel_rfl) (by exact ⟨(lok_l_toNodeInfoS_3).lok, trivial⟩) fun x => by kernel_rfl

noncomputable def b_l_toInt64S_3 (x : (Ty.T (.pair (.list (.int .i64)) (.pair (.own 2 (.int .i64)) (.pair (.int .i64) .unit))))) : Option ((Ty.T (.pair (.list (.int .i64)) (.pair (.own 2 (.int .i64)) (.pair (.int .i64) .unit)))) ⊕ ((Ty.T (.pair (.own 2 (.int .i64)) .unit)) ⊕ (Ty.T .unit))) :=
match (decide (x.2.2.1 < (x.1.length : Int))) with
| true =>
 onSome (idx x.1 x.2.2.1) fun v1 =>
 onSome (idx x.2.1 x.2.2.1) fun _ =>
 match x.2.1[x.2.2.1.toNat]? with
 | none => none
 | some v3 =>
 some (.inl (x.1, (x.2.1.set x.2.2.1.toNat v1), (IntKind.i64.wrap (x.2.2.1 + (1 : Int))), ()))
| false =>
 some (.inr (.inl (x.2.1, ())))
noncomputable def l_toInt64S (x : Ty.T (.pair (.list (.int .i64)) .unit)) : Option (Ty.T (.pair (.own 2 (.int .i64)) .unit)) :=
if 0 ≤ (x.1.length : Int) ∧ (x.1.length : Int) ≤ (x.1.length : Int) then
 room ((x.1.length : Int).toNat) (
  match loopL b_l_toInt64S_3 (x.1, (List.replicate (x.1.length : Int).toNat (0 : Int)), (0 : Int), ()) with
  | none => none
  | some (.inl v4) =>
   some (v4.1, ())
  | some (.inr v6) =>
   none)
else none
noncomputable def S_l_toInt64S : Spec := ⟨(.pair (.list (.int .i64)) .unit), (.pair (.own 2 (.int .i64)) .unit), .unit, rfl, l_toInt64S⟩
noncomputable def σ_l_toInt64S : FuncId → Option Spec := sig []
theorem σok_l_toInt64S : ∀ f s, σ_l_toInt64S f = some s → FnOK G0 Tryz.prog f s := sig_ok trivial
def q_l_toInt64S_3 : LRow := ⟨[0, 3, 4], (.pair (.list (.int .i64)) (.pair (.own 2 (.int .i64)) (.pair (.int .i64) .unit))), 0, [3], (.pair (.own 2 (.int .i64)) .unit), [], .unit⟩
noncomputable def ls_l_toInt64S : List LSpec := [q_l_toInt64S_3.spec b_l_toInt64S_3]
theorem lok_l_toInt64S_3 : Lok Γ0 E0 σ_l_toInt64S (lam Tryz.f9 ls_l_toInt64S) Tryz.f9 0 q_l_toInt64S_3 b_l_toInt64S_3 := fun x => by kernel_rfl
theorem ok_l_toInt64S : FnOK G0 Tryz.prog 9 S_l_toInt64S := fn_okS tab0 σok_l_toInt64S Tryz.func9 ls_l_toInt64S (by kernel_rfl) (by exact ⟨(lok_l_toInt64S_3).lok, trivial⟩) fun x => by kernel_rfl

noncomputable def l_toModeInfo (x : Ty.T (.pair TModeInfo .unit)) : Option (Ty.T (.pair (.pair (.int .i64) (.pair (.int .i64) (.pair (.own 2 (.int .i64)) .unit))) .unit)) :=
match l_toInt64S (x.1.2.2.1, ()) with
| none => none
| some v1 =>
some ((x.1.1, x.1.2.1, v1.1, ()), ())
noncomputable def S_l_toModeInfo : Spec := ⟨(.pair TModeInfo .unit), (.pair (.pair (.int .i64) (.pair (.int .i64) (.pair (.own 2 (.int .i64)) .unit))) .unit), .unit, rfl, l_toModeInfo⟩
noncomputable def σ_l_toModeInfo : FuncId → Option Spec := sig [(9, S_l_toInt64S)]
theorem σok_l_toModeInfo : ∀ f s, σ_l_toModeInfo f = some s → FnOK G0 Tryz.prog f s := sig_ok ⟨ok_l_toInt64S, trivial⟩
theorem ok_l_toModeInfo : FnOK G0 Tryz.prog 49 S_l_toModeInfo := fn_okS tab0 σok_l_toModeInfo Tryz.func49 [] (by kernel_rfl) (by exact trivial) fun x => by kernel_rfl

noncomputable def b_l_toModeInfoS_3 (x : (Ty.T (.pair (.list TModeInfo) (.pair (.own 84 (.pair (.int .i64) (.pair (.int .i64) (.pair (.own 2 (.int .i64)) .unit)))) (.pair (.int .i64) .unit))))) : Option ((Ty.T (.pair (.list TModeInfo) (.pair (.own 84 (.pair (.int .i64) (.pair (.int .i64) (.pair (.own 2 (.int .i64)) .unit)))) (.pair (.int .i64) .unit)))) ⊕ ((Ty.T (.pair (.own 84 (.pair (.int .i64) (.pair (.int .i64) (.pair (.own 2 (.int .i64)) .unit)))) .unit)) ⊕ (Ty.T .unit))) :=
match (decide (x.2.2.1 < (x.1.length : Int))) with
| true =>
 onSome (idx x.1 x.2.2.1) fun v1 =>
 match l_toModeInfo (v1, ()) with
 | none => none
 | some v2 =>
 onSome (idx x.2.1 x.2.2.1) fun _ =>
 match x.2.1[x.2.2.1.toNat]? with
 | none => none
 | some v4 =>
 some (.inl (x.1, (x.2.1.set x.2.2.1.toNat (v2.1.1, v2.1.2.1, v2.1.2.2.1, ())), (IntKind.i64.wrap (x.2.2.1 + (1 : Int))), ()))
| false =>
 some (.inr (.inl (x.2.1, ())))
noncomputable def l_toModeInfoS (x : Ty.T (.pair (.list TModeInfo) .unit)) : Option (Ty.T (.pair (.own 84 (.pair (.int .i64) (.pair (.int .i64) (.pair (.own 2 (.int .i64)) .unit)))) .unit)) :=
if 0 ≤ (x.1.length : Int) ∧ (x.1.length : Int) ≤ (x.1.length : Int) then
 room ((x.1.length : Int).toNat) (
  match loopL b_l_toModeInfoS_3 (x.1, (List.replicate (x.1.length : Int).toNat ((0 : Int), (0 : Int), [], ())), (0 : Int), ()) with
  | none => none
  | some (.inl v5) =>
   some (v5.1, ())
  | some (.inr v7) =>
   none)
else none
noncomputable def S_l_toModeInfoS : Spec := ⟨(.pair (.list TModeInfo) .unit), (.pair (.own 84 (.pair (.int .i64) (.pair (.int .i64) (.pair (.own 2 (.int .i64)) .unit)))) .unit), .unit, rfl, l_toModeInfoS⟩
noncomputable def σ_l_toModeInfoS : FuncId → Option Spec := sig [(49, S_l_toModeInfo)]
theorem σok_l_toModeInfoS : ∀ f s, σ_l_toModeInfoS f = some s → FnOK G0 Tryz.prog f s := sig_ok ⟨ok_l_toModeInfo, trivial⟩
def q_l_toModeInfoS_3 : LRow := ⟨[0, 3, 4], (.pair (.list TModeInfo) (.pair (.own 84 (.pair (.int .i64) (.pair (.int .i64) (.pair (.own 2 (.int .i64)) .unit)))) (.pair (.int .i64) .unit))), 0, [3], (.pair (.own 84 (.pair (.int .i64) (.pair (.int .i64) (.pair (.own 2 (.int .i64)) .unit)))) .unit), [], .unit⟩
noncomputable def ls_l_toModeInfoS : List LSpec := [q_l_toModeInfoS_3.spec b_l_toModeInfoS_3]
theorem lok_l_toModeInfoS_3 : Lok Γ1 E1 σ_l_toModeInfoS (lam Tryz.f26 ls_l_toModeInfoS) Tryz.f26 0 q_l_toModeInfoS_3 b_l_toModeInfoS_3 := fun x => by kernel_rfl
theorem ok_l_toModeInfoS : FnOK G0 Tryz.prog 26 S_l_toModeInfoS := fn_okS tab1 σok_l_toModeInfoS Tryz.func26 ls_l_toModeInfoS (by kernel_rfl) (by exact ⟨(lok_l_toModeInfoS_3).lok, trivial⟩) fun x => by kernel_rfl

noncomputable def l_toDescriptor (x : Ty.T (.pair TDescriptor .unit)) : Option (Ty.T (.pair TDescriptor .unit)) :=
some ((x.1.1, x.1.2.1, x.1.2.2.1, x.1.2.2.2.1, x.1.2.2.2.2.1, ()), ())
noncomputable def S_l_toDescriptor : Spec := ⟨(.pair TDescriptor .unit), (.pair TDescriptor .unit), .unit, rfl, l_toDescriptor⟩
noncomputable def σ_l_toDescriptor : FuncId → Option Spec := sig []
theorem σok_l_toDescriptor : ∀ f s, σ_l_toDescriptor f = some s → FnOK G0 Tryz.prog f s := sig_ok trivial
theorem ok_l_toDescriptor : FnOK G0 Tryz.prog 72 S_l_toDescriptor := fn_okS tab0 σok_l_toDescriptor Tryz.func72 [] (by kernel_rfl) (by exact trivial) fun x => by kernel_rfl

noncomputable def l_toSlotInfo (x : Ty.T (.pair TSlotInfo .unit)) : Option (Ty.T (.pair TSlotInfo .unit)) :=
match l_toDescriptor ((x.1.2.2.2.1.1, x.1.2.2.2.1.2.1, x.1.2.2.2.1.2.2.1, x.1.2.2.2.1.2.2.2.1, x.1.2.2.2.1.2.2.2.2.1, ()), ()) with
| none => none
| some v1 =>
some ((x.1.1, x.1.2.1, x.1.2.2.1, (v1.1.1, v1.1.2.1, v1.1.2.2.1, v1.1.2.2.2.1, v1.1.2.2.2.2.1, ()), ()), ())
noncomputable def S_l_toSlotInfo : Spec := ⟨(.pair TSlotInfo .unit), (.pair TSlotInfo .unit), .unit, rfl, l_toSlotInfo⟩
noncomputable def σ_l_toSlotInfo : FuncId → Option Spec := sig [(72, S_l_toDescriptor)]
theorem σok_l_toSlotInfo : ∀ f s, σ_l_toSlotInfo f = some s → FnOK G0 Tryz.prog f s := sig_ok ⟨ok_l_toDescriptor, trivial⟩
theorem ok_l_toSlotInfo : FnOK G0 Tryz.prog 50 S_l_toSlotInfo := fn_okS tab0 σok_l_toSlotInfo Tryz.func50 [] (by kernel_rfl) (by exact trivial) fun x => by kernel_rfl

noncomputable def b_l_toSlotInfoS_3 (x : (Ty.T (.pair (.list TSlotInfo) (.pair (.own 89 TSlotInfo) (.pair (.int .i64) .unit))))) : Option ((Ty.T (.pair (.list TSlotInfo) (.pair (.own 89 TSlotInfo) (.pair (.int .i64) .unit)))) ⊕ ((Ty.T (.pair (.own 89 TSlotInfo) .unit)) ⊕ (Ty.T .unit))) :=
match (decide (x.2.2.1 < (x.1.length : Int))) with
| true =>
 onSome (idx x.1 x.2.2.1) fun v1 =>
 match l_toSlotInfo (v1, ()) with
 | none => none
 | some v2 =>
 onSome (idx x.2.1 x.2.2.1) fun _ =>
 match x.2.1[x.2.2.1.toNat]? with
 | none => none
 | some v4 =>
 some (.inl (x.1, (x.2.1.set x.2.2.1.toNat (v2.1.1, v2.1.2.1, v2.1.2.2.1, (v2.1.2.2.2.1.1, v2.1.2.2.2.1.2.1, v2.1.2.2.2.1.2.2.1, v2.1.2.2.2.1.2.2.2.1, v2.1.2.2.2.1.2.2.2.2.1, ()), ())), (IntKind.i64.wrap (x.2.2.1 + (1 : Int))), ()))
| false =>
 some (.inr (.inl (x.2.1, ())))
noncomputable def l_toSlotInfoS (x : Ty.T (.pair (.list TSlotInfo) .unit)) : Option (Ty.T (.pair (.own 89 TSlotInfo) .unit)) :=
if 0 ≤ (x.1.length : Int) ∧ (x.1.length : Int) ≤ (x.1.length : Int) then
 room ((x.1.length : Int).toNat) (
  match loopL b_l_toSlotInfoS_3 (x.1, (List.replicate (x.1.length : Int).toNat ((0 : Int), (0 : Int), (0 : Int), ((0 : Int), (0 : Int), (0 : Int), (0 : Int), false, ()), ())), (0 : Int), ()) with
  | none => none
  | some (.inl v5) =>
   some (v5.1, ())
  | some (.inr v7) =>
   none)
else none
noncomputable def S_l_toSlotInfoS : Spec := ⟨(.pair (.list TSlotInfo) .unit), (.pair (.own 89 TSlotInfo) .unit), .unit, rfl, l_toSlotInfoS⟩
noncomputable def σ_l_toSlotInfoS : FuncId → Option Spec := sig [(50, S_l_toSlotInfo)]
theorem σok_l_toSlotInfoS : ∀ f s, σ_l_toSlotInfoS f = some s → FnOK G0 Tryz.prog f s := sig_ok ⟨ok_l_toSlotInfo, trivial⟩
def q_l_toSlotInfoS_3 : LRow := ⟨[0, 3, 4], (.pair (.list TSlotInfo) (.pair (.own 89 TSlotInfo) (.pair (.int .i64) .unit))), 0, [3], (.pair (.own 89 TSlotInfo) .unit), [], .unit⟩
noncomputable def ls_l_toSlotInfoS : List LSpec := [q_l_toSlotInfoS_3.spec b_l_toSlotInfoS_3]
theorem lok_l_toSlotInfoS_3 : Lok Γ0 E0 σ_l_toSlotInfoS (lam Tryz.f27 ls_l_toSlotInfoS) Tryz.f27 0 q_l_toSlotInfoS_3 b_l_toSlotInfoS_3 := fun x => by kernel_rfl
theorem ok_l_toSlotInfoS : FnOK G0 Tryz.prog 27 S_l_toSlotInfoS := fn_okS tab0 σok_l_toSlotInfoS Tryz.func27 ls_l_toSlotInfoS (by kernel_rfl) (by exact ⟨(lok_l_toSlotInfoS_3).lok, trivial⟩) fun x => by kernel_rfl

noncomputable def l_toMedl (x : Ty.T (.pair TMedl .unit)) : Option (Ty.T (.pair (.pair (.int .i64) (.pair (.own 82 TNodeInfo) (.pair (.own 84 (.pair (.int .i64) (.pair (.int .i64) (.pair (.own 2 (.int .i64)) .unit)))) (.pair (.own 89 TSlotInfo) .unit)))) .unit)) :=
match l_toNodeInfoS (x.1.2.1, ()) with
| none => none
| some v1 =>
match l_toModeInfoS (x.1.2.2.1, ()) with
| none => none
| some v2 =>
match l_toSlotInfoS (x.1.2.2.2.1, ()) with
| none => none
| some v3 =>
some ((x.1.1, v1.1, v2.1, v3.1, ()), ())
noncomputable def S_l_toMedl : Spec := ⟨(.pair TMedl .unit), (.pair (.pair (.int .i64) (.pair (.own 82 TNodeInfo) (.pair (.own 84 (.pair (.int .i64) (.pair (.int .i64) (.pair (.own 2 (.int .i64)) .unit)))) (.pair (.own 89 TSlotInfo) .unit)))) .unit), .unit, rfl, l_toMedl⟩
noncomputable def σ_l_toMedl : FuncId → Option Spec := sig [(25, S_l_toNodeInfoS), (26, S_l_toModeInfoS), (27, S_l_toSlotInfoS)]
theorem σok_l_toMedl : ∀ f s, σ_l_toMedl f = some s → FnOK G0 Tryz.prog f s := sig_ok ⟨ok_l_toNodeInfoS, ok_l_toModeInfoS, ok_l_toSlotInfoS, trivial⟩
theorem ok_l_toMedl : FnOK G0 Tryz.prog 7 S_l_toMedl := fn_okS tab1 σok_l_toMedl Tryz.func7 [] (by kernel_rfl) (by exact trivial) fun x => by kernel_rfl

noncomputable def l_toState (x : Ty.T (.pair TState .unit)) : Option (Ty.T (.pair TState .unit)) :=
some ((x.1.1, x.1.2.1, x.1.2.2.1, x.1.2.2.2.1, x.1.2.2.2.2.1, ()), ())
noncomputable def S_l_toState : Spec := ⟨(.pair TState .unit), (.pair TState .unit), .unit, rfl, l_toState⟩
noncomputable def σ_l_toState : FuncId → Option Spec := sig []
theorem σok_l_toState : ∀ f s, σ_l_toState f = some s → FnOK G0 Tryz.prog f s := sig_ok trivial
theorem ok_l_toState : FnOK G0 Tryz.prog 8 S_l_toState := fn_okS tab0 σok_l_toState Tryz.func8 [] (by kernel_rfl) (by exact trivial) fun x => by kernel_rfl

noncomputable def b_l_eqInt64S_4 (x : (Ty.T (.pair (.list (.int .i64)) (.pair (.list (.int .i64)) (.pair (.int .i64) .unit))))) : Option ((Ty.T (.pair (.list (.int .i64)) (.pair (.list (.int .i64)) (.pair (.int .i64) .unit)))) ⊕ ((Ty.T .unit) ⊕ (Ty.T (.pair .bool .unit)))) :=
match (decide (x.2.2.1 < (x.1.length : Int))) with
| true =>
 onSome (idx x.1 x.2.2.1) fun v1 =>
 onSome (idx x.2.1 x.2.2.1) fun v2 =>
 match (v1 != v2) with
 | true =>
  some (.inr (.inr (false, ())))
 | false =>
  some (.inl (x.1, x.2.1, (IntKind.i64.wrap (x.2.2.1 + (1 : Int))), ()))
| false =>
 some (.inr (.inl (())))
noncomputable def l_eqInt64S (x : Ty.T (.pair (.list (.int .i64)) (.pair (.list (.int .i64)) .unit))) : Option (Ty.T (.pair .bool .unit)) :=
match ((x.1.length : Int) != (x.2.1.length : Int)) with
| true =>
 some (false, ())
| false =>
 match loopL b_l_eqInt64S_4 (x.1, x.2.1, (0 : Int), ()) with
 | none => none
 | some (.inl v3) =>
  some (true, ())
 | some (.inr v4) =>
  some (v4.1, ())
noncomputable def S_l_eqInt64S : Spec := ⟨(.pair (.list (.int .i64)) (.pair (.list (.int .i64)) .unit)), (.pair .bool .unit), .unit, rfl, l_eqInt64S⟩
noncomputable def σ_l_eqInt64S : FuncId → Option Spec := sig []
theorem σok_l_eqInt64S : ∀ f s, σ_l_eqInt64S f = some s → FnOK G0 Tryz.prog f s := sig_ok trivial
def q_l_eqInt64S_4 : LRow := ⟨[0, 1, 5], (.pair (.list (.int .i64)) (.pair (.list (.int .i64)) (.pair (.int .i64) .unit))), 0, [], .unit, [4], (.pair .bool .unit)⟩
noncomputable def ls_l_eqInt64S : List LSpec := [q_l_eqInt64S_4.spec b_l_eqInt64S_4]
theorem lok_l_eqInt64S_4 : Lok Γ0 E0 σ_l_eqInt64S (lam Tryz.f13 ls_l_eqInt64S) Tryz.f13 0 q_l_eqInt64S_4 b_l_eqInt64S_4 := fun x => by kernel_rfl
theorem ok_l_eqInt64S : FnOK G0 Tryz.prog 13 S_l_eqInt64S := fn_okS tab0 σok_l_eqInt64S Tryz.func13 ls_l_eqInt64S (by kernel_rfl) (by exact ⟨(lok_l_eqInt64S_4).lok, trivial⟩) fun x => by kernel_rfl

noncomputable def l_eqState (x : Ty.T (.pair TState (.pair TState .unit))) : Option (Ty.T (.pair .bool .unit)) :=
match (x.1.1 != x.2.1.1) with
| true =>
 some (false, ())
| false =>
 match (x.1.2.1 != x.2.1.2.1) with
 | true =>
  some (false, ())
 | false =>
  match (x.1.2.2.1 != x.2.1.2.2.1) with
  | true =>
   some (false, ())
  | false =>
   match (x.1.2.2.2.1 != x.2.1.2.2.2.1) with
   | true =>
    some (false, ())
   | false =>
    match (x.1.2.2.2.2.1 != x.2.1.2.2.2.2.1) with
    | true =>
     some (false, ())
    | false =>
     some (true, ())
noncomputable def S_l_eqState : Spec := ⟨(.pair TState (.pair TState .unit)), (.pair .bool .unit), .unit, rfl, l_eqState⟩
noncomputable def σ_l_eqState : FuncId → Option Spec := sig []
theorem σok_l_eqState : ∀ f s, σ_l_eqState f = some s → FnOK G0 Tryz.prog f s := sig_ok trivial
theorem ok_l_eqState : FnOK G0 Tryz.prog 55 S_l_eqState := fn_okS tab0 σok_l_eqState Tryz.func55 [] (by kernel_rfl) (by exact trivial) fun x => by kernel_rfl

noncomputable def l_eqFrame (x : Ty.T (.pair TFrame (.pair TFrame .unit))) : Option (Ty.T (.pair .bool .unit)) :=
match (x.1.1 != x.2.1.1) with
| true =>
 some (false, ())
| false =>
 match (x.1.2.1 != x.2.1.2.1) with
 | true =>
  some (false, ())
 | false =>
  match l_eqState ((x.1.2.2.1.1, x.1.2.2.1.2.1, x.1.2.2.1.2.2.1, x.1.2.2.1.2.2.2.1, x.1.2.2.1.2.2.2.2.1, ()), (x.2.1.2.2.1.1, x.2.1.2.2.1.2.1, x.2.1.2.2.1.2.2.1, x.2.1.2.2.1.2.2.2.1, x.2.1.2.2.1.2.2.2.2.1, ()), ()) with
  | none => none
  | some v1 =>
  match (!v1.1) with
  | true =>
   some (false, ())
  | false =>
   match l_eqInt64S (x.1.2.2.2.1, x.2.1.2.2.2.1, ()) with
   | none => none
   | some v2 =>
   match (!v2.1) with
   | true =>
    some (false, ())
   | false =>
    some (true, ())
noncomputable def S_l_eqFrame : Spec := ⟨(.pair TFrame (.pair TFrame .unit)), (.pair .bool .unit), .unit, rfl, l_eqFrame⟩
noncomputable def σ_l_eqFrame : FuncId → Option Spec := sig [(13, S_l_eqInt64S), (55, S_l_eqState)]
theorem σok_l_eqFrame : ∀ f s, σ_l_eqFrame f = some s → FnOK G0 Tryz.prog f s := sig_ok ⟨ok_l_eqInt64S, ok_l_eqState, trivial⟩
theorem ok_l_eqFrame : FnOK G0 Tryz.prog 31 S_l_eqFrame := fn_okS tab0 σok_l_eqFrame Tryz.func31 [] (by kernel_rfl) (by exact trivial) fun x => by kernel_rfl

noncomputable def l_eqVerdict (x : Ty.T (.pair TVerdict (.pair TVerdict .unit))) : Option (Ty.T (.pair .bool .unit)) :=
match (x.1.1 != x.2.1.1) with
| true =>
 some (false, ())
| false =>
 match l_eqFrame ((x.1.2.1.1, x.1.2.1.2.1, (x.1.2.1.2.2.1.1, x.1.2.1.2.2.1.2.1, x.1.2.1.2.2.1.2.2.1, x.1.2.1.2.2.1.2.2.2.1, x.1.2.1.2.2.1.2.2.2.2.1, ()), x.1.2.1.2.2.2.1, ()), (x.2.1.2.1.1, x.2.1.2.1.2.1, (x.2.1.2.1.2.2.1.1, x.2.1.2.1.2.2.1.2.1, x.2.1.2.1.2.2.1.2.2.1, x.2.1.2.1.2.2.1.2.2.2.1, x.2.1.2.1.2.2.1.2.2.2.2.1, ()), x.2.1.2.1.2.2.2.1, ()), ()) with
 | none => none
 | some v1 =>
 match (!v1.1) with
 | true =>
  some (false, ())
 | false =>
  some (true, ())
noncomputable def S_l_eqVerdict : Spec := ⟨(.pair TVerdict (.pair TVerdict .unit)), (.pair .bool .unit), .unit, rfl, l_eqVerdict⟩
noncomputable def σ_l_eqVerdict : FuncId → Option Spec := sig [(31, S_l_eqFrame)]
theorem σok_l_eqVerdict : ∀ f s, σ_l_eqVerdict f = some s → FnOK G0 Tryz.prog f s := sig_ok ⟨ok_l_eqFrame, trivial⟩
theorem ok_l_eqVerdict : FnOK G0 Tryz.prog 11 S_l_eqVerdict := fn_okS tab0 σok_l_eqVerdict Tryz.func11 [] (by kernel_rfl) (by exact trivial) fun x => by kernel_rfl

noncomputable def l_eqNodeInfo (x : Ty.T (.pair TNodeInfo (.pair TNodeInfo .unit))) : Option (Ty.T (.pair .bool .unit)) :=
match (x.1.1 != x.2.1.1) with
| true =>
 some (false, ())
| false =>
 match (!(x.1.2.1 == x.2.1.2.1)) with
 | true =>
  some (false, ())
 | false =>
  match (x.1.2.2.1 != x.2.1.2.2.1) with
  | true =>
   some (false, ())
  | false =>
   match (x.1.2.2.2.1 != x.2.1.2.2.2.1) with
   | true =>
    some (false, ())
   | false =>
    some (true, ())
noncomputable def S_l_eqNodeInfo : Spec := ⟨(.pair TNodeInfo (.pair TNodeInfo .unit)), (.pair .bool .unit), .unit, rfl, l_eqNodeInfo⟩
noncomputable def σ_l_eqNodeInfo : FuncId → Option Spec := sig []
theorem σok_l_eqNodeInfo : ∀ f s, σ_l_eqNodeInfo f = some s → FnOK G0 Tryz.prog f s := sig_ok trivial
theorem ok_l_eqNodeInfo : FnOK G0 Tryz.prog 56 S_l_eqNodeInfo := fn_okS tab0 σok_l_eqNodeInfo Tryz.func56 [] (by kernel_rfl) (by exact trivial) fun x => by kernel_rfl

noncomputable def b_l_eqNodeInfoS_4 (x : (Ty.T (.pair (.list TNodeInfo) (.pair (.list TNodeInfo) (.pair (.int .i64) .unit))))) : Option ((Ty.T (.pair (.list TNodeInfo) (.pair (.list TNodeInfo) (.pair (.int .i64) .unit)))) ⊕ ((Ty.T .unit) ⊕ (Ty.T (.pair .bool .unit)))) :=
match (decide (x.2.2.1 < (x.1.length : Int))) with
| true =>
 onSome (idx x.1 x.2.2.1) fun v1 =>
 onSome (idx x.2.1 x.2.2.1) fun v2 =>
 match l_eqNodeInfo (v1, v2, ()) with
 | none => none
 | some v3 =>
 match (!v3.1) with
 | true =>
  some (.inr (.inr (false, ())))
 | false =>
  some (.inl (x.1, x.2.1, (IntKind.i64.wrap (x.2.2.1 + (1 : Int))), ()))
| false =>
 some (.inr (.inl (())))
noncomputable def l_eqNodeInfoS (x : Ty.T (.pair (.list TNodeInfo) (.pair (.list TNodeInfo) .unit))) : Option (Ty.T (.pair .bool .unit)) :=
match ((x.1.length : Int) != (x.2.1.length : Int)) with
| true =>
 some (false, ())
| false =>
 match loopL b_l_eqNodeInfoS_4 (x.1, x.2.1, (0 : Int), ()) with
 | none => none
 | some (.inl v4) =>
  some (true, ())
 | some (.inr v5) =>
  some (v5.1, ())
noncomputable def S_l_eqNodeInfoS : Spec := ⟨(.pair (.list TNodeInfo) (.pair (.list TNodeInfo) .unit)), (.pair .bool .unit), .unit, rfl, l_eqNodeInfoS⟩
noncomputable def σ_l_eqNodeInfoS : FuncId → Option Spec := sig [(56, S_l_eqNodeInfo)]
theorem σok_l_eqNodeInfoS : ∀ f s, σ_l_eqNodeInfoS f = some s → FnOK G0 Tryz.prog f s := sig_ok ⟨ok_l_eqNodeInfo, trivial⟩
def q_l_eqNodeInfoS_4 : LRow := ⟨[0, 1, 5], (.pair (.list TNodeInfo) (.pair (.list TNodeInfo) (.pair (.int .i64) .unit))), 0, [], .unit, [4], (.pair .bool .unit)⟩
noncomputable def ls_l_eqNodeInfoS : List LSpec := [q_l_eqNodeInfoS_4.spec b_l_eqNodeInfoS_4]
theorem lok_l_eqNodeInfoS_4 : Lok Γ0 E0 σ_l_eqNodeInfoS (lam Tryz.f32 ls_l_eqNodeInfoS) Tryz.f32 0 q_l_eqNodeInfoS_4 b_l_eqNodeInfoS_4 := fun x => by kernel_rfl
theorem ok_l_eqNodeInfoS : FnOK G0 Tryz.prog 32 S_l_eqNodeInfoS := fn_okS tab0 σok_l_eqNodeInfoS Tryz.func32 ls_l_eqNodeInfoS (by kernel_rfl) (by exact ⟨(lok_l_eqNodeInfoS_4).lok, trivial⟩) fun x => by kernel_rfl

noncomputable def l_eqModeInfo (x : Ty.T (.pair TModeInfo (.pair TModeInfo .unit))) : Option (Ty.T (.pair .bool .unit)) :=
match (x.1.1 != x.2.1.1) with
| true =>
 some (false, ())
| false =>
 match (x.1.2.1 != x.2.1.2.1) with
 | true =>
  some (false, ())
 | false =>
  match l_eqInt64S (x.1.2.2.1, x.2.1.2.2.1, ()) with
  | none => none
  | some v1 =>
  match (!v1.1) with
  | true =>
   some (false, ())
  | false =>
   some (true, ())
noncomputable def S_l_eqModeInfo : Spec := ⟨(.pair TModeInfo (.pair TModeInfo .unit)), (.pair .bool .unit), .unit, rfl, l_eqModeInfo⟩
noncomputable def σ_l_eqModeInfo : FuncId → Option Spec := sig [(13, S_l_eqInt64S)]
theorem σok_l_eqModeInfo : ∀ f s, σ_l_eqModeInfo f = some s → FnOK G0 Tryz.prog f s := sig_ok ⟨ok_l_eqInt64S, trivial⟩
theorem ok_l_eqModeInfo : FnOK G0 Tryz.prog 57 S_l_eqModeInfo := fn_okS tab0 σok_l_eqModeInfo Tryz.func57 [] (by kernel_rfl) (by exact trivial) fun x => by kernel_rfl

noncomputable def b_l_eqModeInfoS_4 (x : (Ty.T (.pair (.list TModeInfo) (.pair (.list TModeInfo) (.pair (.int .i64) .unit))))) : Option ((Ty.T (.pair (.list TModeInfo) (.pair (.list TModeInfo) (.pair (.int .i64) .unit)))) ⊕ ((Ty.T .unit) ⊕ (Ty.T (.pair .bool .unit)))) :=
match (decide (x.2.2.1 < (x.1.length : Int))) with
| true =>
 onSome (idx x.1 x.2.2.1) fun v1 =>
 onSome (idx x.2.1 x.2.2.1) fun v2 =>
 match l_eqModeInfo (v1, v2, ()) with
 | none => none
 | some v3 =>
 match (!v3.1) with
 | true =>
  some (.inr (.inr (false, ())))
 | false =>
  some (.inl (x.1, x.2.1, (IntKind.i64.wrap (x.2.2.1 + (1 : Int))), ()))
| false =>
 some (.inr (.inl (())))
noncomputable def l_eqModeInfoS (x : Ty.T (.pair (.list TModeInfo) (.pair (.list TModeInfo) .unit))) : Option (Ty.T (.pair .bool .unit)) :=
match ((x.1.length : Int) != (x.2.1.length : Int)) with
| true =>
 some (false, ())
| false =>
 match loopL b_l_eqModeInfoS_4 (x.1, x.2.1, (0 : Int), ()) with
 | none => none
 | some (.inl v4) =>
  some (true, ())
 | some (.inr v5) =>
  some (v5.1, ())
noncomputable def S_l_eqModeInfoS : Spec := ⟨(.pair (.list TModeInfo) (.pair (.list TModeInfo) .unit)), (.pair .bool .unit), .unit, rfl, l_eqModeInfoS⟩
noncomputable def σ_l_eqModeInfoS : FuncId → Option Spec := sig [(57, S_l_eqModeInfo)]
theorem σok_l_eqModeInfoS : ∀ f s, σ_l_eqModeInfoS f = some s → FnOK G0 Tryz.prog f s := sig_ok ⟨ok_l_eqModeInfo, trivial⟩
def q_l_eqModeInfoS_4 : LRow := ⟨[0, 1, 5], (.pair (.list TModeInfo) (.pair (.list TModeInfo) (.pair (.int .i64) .unit))), 0, [], .unit, [4], (.pair .bool .unit)⟩
noncomputable def ls_l_eqModeInfoS : List LSpec := [q_l_eqModeInfoS_4.spec b_l_eqModeInfoS_4]
theorem lok_l_eqModeInfoS_4 : Lok Γ0 E0 σ_l_eqModeInfoS (lam Tryz.f33 ls_l_eqModeInfoS) Tryz.f33 0 q_l_eqModeInfoS_4 b_l_eqModeInfoS_4 := fun x => by kernel_rfl
theorem ok_l_eqModeInfoS : FnOK G0 Tryz.prog 33 S_l_eqModeInfoS := fn_okS tab0 σok_l_eqModeInfoS Tryz.func33 ls_l_eqModeInfoS (by kernel_rfl) (by exact ⟨(lok_l_eqModeInfoS_4).lok, trivial⟩) fun x => by kernel_rfl

noncomputable def l_eqDescriptor (x : Ty.T (.pair TDescriptor (.pair TDescriptor .unit))) : Option (Ty.T (.pair .bool .unit)) :=
match (x.1.1 != x.2.1.1) with
| true =>
 some (false, ())
| false =>
 match (x.1.2.1 != x.2.1.2.1) with
 | true =>
  some (false, ())
 | false =>
  match (x.1.2.2.1 != x.2.1.2.2.1) with
  | true =>
   some (false, ())
  | false =>
   match (x.1.2.2.2.1 != x.2.1.2.2.2.1) with
   | true =>
    some (false, ())
   | false =>
    match (x.1.2.2.2.2.1 != x.2.1.2.2.2.2.1) with
    | true =>
     some (false, ())
    | false =>
     some (true, ())
noncomputable def S_l_eqDescriptor : Spec := ⟨(.pair TDescriptor (.pair TDescriptor .unit)), (.pair .bool .unit), .unit, rfl, l_eqDescriptor⟩
noncomputable def σ_l_eqDescriptor : FuncId → Option Spec := sig []
theorem σok_l_eqDescriptor : ∀ f s, σ_l_eqDescriptor f = some s → FnOK G0 Tryz.prog f s := sig_ok trivial
theorem ok_l_eqDescriptor : FnOK G0 Tryz.prog 80 S_l_eqDescriptor := fn_okS tab0 σok_l_eqDescriptor Tryz.func80 [] (by kernel_rfl) (by exact trivial) fun x => by kernel_rfl

noncomputable def l_eqSlotInfo (x : Ty.T (.pair TSlotInfo (.pair TSlotInfo .unit))) : Option (Ty.T (.pair .bool .unit)) :=
match (x.1.1 != x.2.1.1) with
| true =>
 some (false, ())
| false =>
 match (x.1.2.1 != x.2.1.2.1) with
 | true =>
  some (false, ())
 | false =>
  match (x.1.2.2.1 != x.2.1.2.2.1) with
  | true =>
   some (false, ())
  | false =>
   match l_eqDescriptor ((x.1.2.2.2.1.1, x.1.2.2.2.1.2.1, x.1.2.2.2.1.2.2.1, x.1.2.2.2.1.2.2.2.1, x.1.2.2.2.1.2.2.2.2.1, ()), (x.2.1.2.2.2.1.1, x.2.1.2.2.2.1.2.1, x.2.1.2.2.2.1.2.2.1, x.2.1.2.2.2.1.2.2.2.1, x.2.1.2.2.2.1.2.2.2.2.1, ()), ()) with
   | none => none
   | some v1 =>
   match (!v1.1) with
   | true =>
    some (false, ())
   | false =>
    some (true, ())
noncomputable def S_l_eqSlotInfo : Spec := ⟨(.pair TSlotInfo (.pair TSlotInfo .unit)), (.pair .bool .unit), .unit, rfl, l_eqSlotInfo⟩
noncomputable def σ_l_eqSlotInfo : FuncId → Option Spec := sig [(80, S_l_eqDescriptor)]
theorem σok_l_eqSlotInfo : ∀ f s, σ_l_eqSlotInfo f = some s → FnOK G0 Tryz.prog f s := sig_ok ⟨ok_l_eqDescriptor, trivial⟩
theorem ok_l_eqSlotInfo : FnOK G0 Tryz.prog 58 S_l_eqSlotInfo := fn_okS tab0 σok_l_eqSlotInfo Tryz.func58 [] (by kernel_rfl) (by exact trivial) fun x => by kernel_rfl

noncomputable def b_l_eqSlotInfoS_4 (x : (Ty.T (.pair (.list TSlotInfo) (.pair (.list TSlotInfo) (.pair (.int .i64) .unit))))) : Option ((Ty.T (.pair (.list TSlotInfo) (.pair (.list TSlotInfo) (.pair (.int .i64) .unit)))) ⊕ ((Ty.T .unit) ⊕ (Ty.T (.pair .bool .unit)))) :=
match (decide (x.2.2.1 < (x.1.length : Int))) with
| true =>
 onSome (idx x.1 x.2.2.1) fun v1 =>
 onSome (idx x.2.1 x.2.2.1) fun v2 =>
 match l_eqSlotInfo (v1, v2, ()) with
 | none => none
 | some v3 =>
 match (!v3.1) with
 | true =>
  some (.inr (.inr (false, ())))
 | false =>
  some (.inl (x.1, x.2.1, (IntKind.i64.wrap (x.2.2.1 + (1 : Int))), ()))
| false =>
 some (.inr (.inl (())))
noncomputable def l_eqSlotInfoS (x : Ty.T (.pair (.list TSlotInfo) (.pair (.list TSlotInfo) .unit))) : Option (Ty.T (.pair .bool .unit)) :=
match ((x.1.length : Int) != (x.2.1.length : Int)) with
| true =>
 some (false, ())
| false =>
 match loopL b_l_eqSlotInfoS_4 (x.1, x.2.1, (0 : Int), ()) with
 | none => none
 | some (.inl v4) =>
  some (true, ())
 | some (.inr v5) =>
  some (v5.1, ())
noncomputable def S_l_eqSlotInfoS : Spec := ⟨(.pair (.list TSlotInfo) (.pair (.list TSlotInfo) .unit)), (.pair .bool .unit), .unit, rfl, l_eqSlotInfoS⟩
noncomputable def σ_l_eqSlotInfoS : FuncId → Option Spec := sig [(58, S_l_eqSlotInfo)]
theorem σok_l_eqSlotInfoS : ∀ f s, σ_l_eqSlotInfoS f = some s → FnOK G0 Tryz.prog f s := sig_ok ⟨ok_l_eqSlotInfo, trivial⟩
def q_l_eqSlotInfoS_4 : LRow := ⟨[0, 1, 5], (.pair (.list TSlotInfo) (.pair (.list TSlotInfo) (.pair (.int .i64) .unit))), 0, [], .unit, [4], (.pair .bool .unit)⟩
noncomputable def ls_l_eqSlotInfoS : List LSpec := [q_l_eqSlotInfoS_4.spec b_l_eqSlotInfoS_4]
theorem lok_l_eqSlotInfoS_4 : Lok Γ0 E0 σ_l_eqSlotInfoS (lam Tryz.f34 ls_l_eqSlotInfoS) Tryz.f34 0 q_l_eqSlotInfoS_4 b_l_eqSlotInfoS_4 := fun x => by kernel_rfl
theorem ok_l_eqSlotInfoS : FnOK G0 Tryz.prog 34 S_l_eqSlotInfoS := fn_okS tab0 σok_l_eqSlotInfoS Tryz.func34 ls_l_eqSlotInfoS (by kernel_rfl) (by exact ⟨(lok_l_eqSlotInfoS_4).lok, trivial⟩) fun x => by kernel_rfl

noncomputable def l_eqMedl (x : Ty.T (.pair TMedl (.pair TMedl .unit))) : Option (Ty.T (.pair .bool .unit)) :=
match (x.1.1 != x.2.1.1) with
| true =>
 some (false, ())
| false =>
 match l_eqNodeInfoS (x.1.2.1, x.2.1.2.1, ()) with
 | none => none
 | some v1 =>
 match (!v1.1) with
 | true =>
  some (false, ())
 | false =>
  match l_eqModeInfoS (x.1.2.2.1, x.2.1.2.2.1, ()) with
  | none => none
  | some v2 =>
  match (!v2.1) with
  | true =>
   some (false, ())
  | false =>
   match l_eqSlotInfoS (x.1.2.2.2.1, x.2.1.2.2.2.1, ()) with
   | none => none
   | some v3 =>
   match (!v3.1) with
   | true =>
    some (false, ())
   | false =>
    some (true, ())
noncomputable def S_l_eqMedl : Spec := ⟨(.pair TMedl (.pair TMedl .unit)), (.pair .bool .unit), .unit, rfl, l_eqMedl⟩
noncomputable def σ_l_eqMedl : FuncId → Option Spec := sig [(32, S_l_eqNodeInfoS), (33, S_l_eqModeInfoS), (34, S_l_eqSlotInfoS)]
theorem σok_l_eqMedl : ∀ f s, σ_l_eqMedl f = some s → FnOK G0 Tryz.prog f s := sig_ok ⟨ok_l_eqNodeInfoS, ok_l_eqModeInfoS, ok_l_eqSlotInfoS, trivial⟩
theorem ok_l_eqMedl : FnOK G0 Tryz.prog 12 S_l_eqMedl := fn_okS tab0 σok_l_eqMedl Tryz.func12 [] (by kernel_rfl) (by exact trivial) fun x => by kernel_rfl

noncomputable def b_l_markText_4 (x : (Ty.T (.pair (.int .i64) (.pair .str .unit)))) : Option ((Ty.T (.pair (.int .i64) (.pair .str .unit))) ⊕ ((Ty.T (.pair .str .unit)) ⊕ (Ty.T .unit))) :=
match (decide (x.1 > (0 : Int))) with
| true =>
 room ((List.map (fun n => UInt8.ofNat (Int.toNat n)) ([(IntKind.u8.wrap (IntKind.i64.wrap ((48 : Int) + (Int.tmod x.1 (10 : Int)))))] : List Int)).length + x.2.1.length) (
  some (.inl ((IntKind.i64.wrap (Int.tdiv x.1 (10 : Int))), ((List.map (fun n => UInt8.ofNat (Int.toNat n)) ([(IntKind.u8.wrap (IntKind.i64.wrap ((48 : Int) + (Int.tmod x.1 (10 : Int)))))] : List Int)) ++ x.2.1), ())))
| false =>
 some (.inr (.inl (x.2.1, ())))
noncomputable def l_markText (x : Ty.T (.pair (.int .i64) .unit)) : Option (Ty.T (.pair .str .unit)) :=
match (decide (x.1 ≤ (0 : Int))) with
| true =>
 some (([109, 48] : List UInt8), ())
| false =>
 match loopL b_l_markText_4 (x.1, [], ()) with
 | none => none
 | some (.inl v1) =>
  room (([109] : List UInt8).length + v1.1.length) (
   some ((([109] : List UInt8) ++ v1.1), ()))
 | some (.inr v3) =>
  none
noncomputable def S_l_markText : Spec := ⟨(.pair (.int .i64) .unit), (.pair .str .unit), .unit, rfl, l_markText⟩
noncomputable def σ_l_markText : FuncId → Option Spec := sig []
theorem σok_l_markText : ∀ f s, σ_l_markText f = some s → FnOK G0 Tryz.prog f s := sig_ok trivial
def q_l_markText_4 : LRow := ⟨[0, 3], (.pair (.int .i64) (.pair .str .unit)), 0, [3], (.pair .str .unit), [], .unit⟩
noncomputable def ls_l_markText : List LSpec := [q_l_markText_4.spec b_l_markText_4]
theorem lok_l_markText_4 : Lok Γ0 E0 σ_l_markText (lam Tryz.f59 ls_l_markText) Tryz.f59 0 q_l_markText_4 b_l_markText_4 := fun x => by kernel_rfl
theorem ok_l_markText : FnOK G0 Tryz.prog 59 S_l_markText := fn_okS tab0 σok_l_markText Tryz.func59 ls_l_markText (by kernel_rfl) (by exact ⟨(lok_l_markText_4).lok, trivial⟩) fun x => by kernel_rfl

noncomputable def b_l_markNodeInfoS_2 (x : (Ty.T (.pair (.own 82 TNodeInfo) TCrc))) : Option ((Ty.T (.pair (.own 82 TNodeInfo) TCrc)) ⊕ ((Ty.T (.pair (.own 82 TNodeInfo) (.pair (.int .i64) .unit))) ⊕ (Ty.T .unit))) :=
match (decide (x.2.2.1 < (x.1.length : Int))) with
| true =>
 onSome (idx x.1 x.2.2.1) fun _ =>
 match x.1[x.2.2.1.toNat]? with
 | none => none
 | some v2 =>
 match l_markText ((IntKind.i64.wrap (x.2.1 + (1 : Int))), ()) with
 | none => none
 | some v3 =>
 onSome (idx (x.1.set x.2.2.1.toNat (x.2.1, v2.2.1, v2.2.2.1, v2.2.2.2.1, ())) x.2.2.1) fun _ =>
 match (x.1.set x.2.2.1.toNat (x.2.1, v2.2.1, v2.2.2.1, v2.2.2.2.1, ()))[x.2.2.1.toNat]? with
 | none => none
 | some v5 =>
 onSome (idx ((x.1.set x.2.2.1.toNat (x.2.1, v2.2.1, v2.2.2.1, v2.2.2.2.1, ())).set x.2.2.1.toNat (v5.1, v3.1, v5.2.2.1, v5.2.2.2.1, ())) x.2.2.1) fun _ =>
 match ((x.1.set x.2.2.1.toNat (x.2.1, v2.2.1, v2.2.2.1, v2.2.2.2.1, ())).set x.2.2.1.toNat (v5.1, v3.1, v5.2.2.1, v5.2.2.2.1, ()))[x.2.2.1.toNat]? with
 | none => none
 | some v7 =>
 onSome (idx (((x.1.set x.2.2.1.toNat (x.2.1, v2.2.1, v2.2.2.1, v2.2.2.2.1, ())).set x.2.2.1.toNat (v5.1, v3.1, v5.2.2.1, v5.2.2.2.1, ())).set x.2.2.1.toNat (v7.1, v7.2.1, (IntKind.i64.wrap ((IntKind.i64.wrap (x.2.1 + (1 : Int))) + (1 : Int))), v7.2.2.2.1, ())) x.2.2.1) fun _ =>
 match (((x.1.set x.2.2.1.toNat (x.2.1, v2.2.1, v2.2.2.1, v2.2.2.2.1, ())).set x.2.2.1.toNat (v5.1, v3.1, v5.2.2.1, v5.2.2.2.1, ())).set x.2.2.1.toNat (v7.1, v7.2.1, (IntKind.i64.wrap ((IntKind.i64.wrap (x.2.1 + (1 : Int))) + (1 : Int))), v7.2.2.2.1, ()))[x.2.2.1.toNat]? with
 | none => none
 | some v9 =>
 some (.inl (((((x.1.set x.2.2.1.toNat (x.2.1, v2.2.1, v2.2.2.1, v2.2.2.2.1, ())).set x.2.2.1.toNat (v5.1, v3.1, v5.2.2.1, v5.2.2.2.1, ())).set x.2.2.1.toNat (v7.1, v7.2.1, (IntKind.i64.wrap ((IntKind.i64.wrap (x.2.1 + (1 : Int))) + (1 : Int))), v7.2.2.2.1, ())).set x.2.2.1.toNat (v9.1, v9.2.1, v9.2.2.1, ((Int.tmod (IntKind.i64.wrap ((IntKind.i64.wrap ((IntKind.i64.wrap (x.2.1 + (1 : Int))) + (1 : Int))) + (1 : Int))) (3 : Int)) == (0 : Int)), ())), (IntKind.i64.wrap ((IntKind.i64.wrap ((IntKind.i64.wrap ((IntKind.i64.wrap (x.2.1 + (1 : Int))) + (1 : Int))) + (1 : Int))) + (1 : Int))), (IntKind.i64.wrap (x.2.2.1 + (1 : Int))), ()))
| false =>
 some (.inr (.inl (x.1, x.2.1, ())))
noncomputable def l_markNodeInfoS (x : Ty.T (.pair (.own 82 TNodeInfo) (.pair (.int .i64) .unit))) : Option (Ty.T (.pair (.int .i64) (.pair (.own 82 TNodeInfo) .unit))) :=
match loopL b_l_markNodeInfoS_2 (x.1, x.2.1, (0 : Int), ()) with
| none => none
| some (.inl v10) =>
 some (v10.2.1, v10.1, ())
| some (.inr v12) =>
 none
noncomputable def S_l_markNodeInfoS : Spec := ⟨(.pair (.own 82 TNodeInfo) (.pair (.int .i64) .unit)), (.pair (.int .i64) .unit), (.pair (.own 82 TNodeInfo) .unit), rfl, l_markNodeInfoS⟩
noncomputable def σ_l_markNodeInfoS : FuncId → Option Spec := sig [(59, S_l_markText)]
theorem σok_l_markNodeInfoS : ∀ f s, σ_l_markNodeInfoS f = some s → FnOK G0 Tryz.prog f s := sig_ok ⟨ok_l_markText, trivial⟩
def q_l_markNodeInfoS_2 : LRow := ⟨[0, 1, 5], (.pair (.own 82 TNodeInfo) TCrc), 0, [0, 1], (.pair (.own 82 TNodeInfo) (.pair (.int .i64) .unit)), [], .unit⟩
noncomputable def ls_l_markNodeInfoS : List LSpec := [q_l_markNodeInfoS_2.spec b_l_markNodeInfoS_2]
theorem lok_l_markNodeInfoS_2 : Lok Γ0 E0 σ_l_markNodeInfoS (lam Tryz.f35 ls_l_markNodeInfoS) Tryz.f35 0 q_l_markNodeInfoS_2 b_l_markNodeInfoS_2 := fun x => by kernel_rfl
theorem ok_l_markNodeInfoS : FnOK G0 Tryz.prog 35 S_l_markNodeInfoS := fn_okS tab0 σok_l_markNodeInfoS Tryz.func35 ls_l_markNodeInfoS (by kernel_rfl) (by exact ⟨(lok_l_markNodeInfoS_2).lok, trivial⟩) fun x => by kernel_rfl

noncomputable def b_l_markInt64S_2 (x : (Ty.T (.pair (.own 2 (.int .i64)) TCrc))) : Option ((Ty.T (.pair (.own 2 (.int .i64)) TCrc)) ⊕ ((Ty.T (.pair (.own 2 (.int .i64)) (.pair (.int .i64) .unit))) ⊕ (Ty.T .unit))) :=
match (decide (x.2.2.1 < (x.1.length : Int))) with
| true =>
 onSome (idx x.1 x.2.2.1) fun _ =>
 match x.1[x.2.2.1.toNat]? with
 | none => none
 | some v2 =>
 some (.inl ((x.1.set x.2.2.1.toNat x.2.1), (IntKind.i64.wrap (x.2.1 + (1 : Int))), (IntKind.i64.wrap (x.2.2.1 + (1 : Int))), ()))
| false =>
 some (.inr (.inl (x.1, x.2.1, ())))
noncomputable def l_markInt64S (x : Ty.T (.pair (.own 2 (.int .i64)) (.pair (.int .i64) .unit))) : Option (Ty.T (.pair (.int .i64) (.pair (.own 2 (.int .i64)) .unit))) :=
match loopL b_l_markInt64S_2 (x.1, x.2.1, (0 : Int), ()) with
| none => none
| some (.inl v3) =>
 some (v3.2.1, v3.1, ())
| some (.inr v5) =>
 none
noncomputable def S_l_markInt64S : Spec := ⟨(.pair (.own 2 (.int .i64)) (.pair (.int .i64) .unit)), (.pair (.int .i64) .unit), (.pair (.own 2 (.int .i64)) .unit), rfl, l_markInt64S⟩
noncomputable def σ_l_markInt64S : FuncId → Option Spec := sig []
theorem σok_l_markInt64S : ∀ f s, σ_l_markInt64S f = some s → FnOK G0 Tryz.prog f s := sig_ok trivial
def q_l_markInt64S_2 : LRow := ⟨[0, 1, 5], (.pair (.own 2 (.int .i64)) TCrc), 0, [0, 1], (.pair (.own 2 (.int .i64)) (.pair (.int .i64) .unit)), [], .unit⟩
noncomputable def ls_l_markInt64S : List LSpec := [q_l_markInt64S_2.spec b_l_markInt64S_2]
theorem lok_l_markInt64S_2 : Lok Γ0 E0 σ_l_markInt64S (lam Tryz.f15 ls_l_markInt64S) Tryz.f15 0 q_l_markInt64S_2 b_l_markInt64S_2 := fun x => by kernel_rfl
theorem ok_l_markInt64S : FnOK G0 Tryz.prog 15 S_l_markInt64S := fn_okS tab0 σok_l_markInt64S Tryz.func15 ls_l_markInt64S (by kernel_rfl) (by exact ⟨(lok_l_markInt64S_2).lok, trivial⟩) fun x => by kernel_rfl

noncomputable def b_l_markModeInfoS_2 (x : (Ty.T (.pair (.own 84 (.pair (.int .i64) (.pair (.int .i64) (.pair (.own 2 (.int .i64)) .unit)))) TCrc))) : Option ((Ty.T (.pair (.own 84 (.pair (.int .i64) (.pair (.int .i64) (.pair (.own 2 (.int .i64)) .unit)))) TCrc)) ⊕ ((Ty.T (.pair (.own 84 (.pair (.int .i64) (.pair (.int .i64) (.pair (.own 2 (.int .i64)) .unit)))) (.pair (.int .i64) .unit))) ⊕ (Ty.T .unit))) :=
match (decide (x.2.2.1 < (x.1.length : Int))) with
| true =>
 onSome (idx x.1 x.2.2.1) fun _ =>
 match x.1[x.2.2.1.toNat]? with
 | none => none
 | some v2 =>
 onSome (idx (x.1.set x.2.2.1.toNat (x.2.1, v2.2)) x.2.2.1) fun _ =>
 match (x.1.set x.2.2.1.toNat (x.2.1, v2.2))[x.2.2.1.toNat]? with
 | none => none
 | some v4 =>
 onSome (idx ((x.1.set x.2.2.1.toNat (x.2.1, v2.2)).set x.2.2.1.toNat (v4.1, ((IntKind.i64.wrap (x.2.1 + (1 : Int))), v4.2.2))) x.2.2.1) fun _ =>
 match ((x.1.set x.2.2.1.toNat (x.2.1, v2.2)).set x.2.2.1.toNat (v4.1, ((IntKind.i64.wrap (x.2.1 + (1 : Int))), v4.2.2)))[x.2.2.1.toNat]? with
 | none => none
 | some v6 =>
 match l_markInt64S (v6.2.2.1, (IntKind.i64.wrap ((IntKind.i64.wrap (x.2.1 + (1 : Int))) + (1 : Int))), ()) with
 | none => none
 | some v7 =>
 some (.inl ((((x.1.set x.2.2.1.toNat (x.2.1, v2.2)).set x.2.2.1.toNat (v4.1, ((IntKind.i64.wrap (x.2.1 + (1 : Int))), v4.2.2))).set x.2.2.1.toNat (v6.1, (v6.2.1, (v7.2.1, v6.2.2.2)))), v7.1, (IntKind.i64.wrap (x.2.2.1 + (1 : Int))), ()))
| false =>
 some (.inr (.inl (x.1, x.2.1, ())))
noncomputable def l_markModeInfoS (x : Ty.T (.pair (.own 84 (.pair (.int .i64) (.pair (.int .i64) (.pair (.own 2 (.int .i64)) .unit)))) (.pair (.int .i64) .unit))) : Option (Ty.T (.pair (.int .i64) (.pair (.own 84 (.pair (.int .i64) (.pair (.int .i64) (.pair (.own 2 (.int .i64)) .unit)))) .unit))) :=
match loopL b_l_markModeInfoS_2 (x.1, x.2.1, (0 : Int), ()) with
| none => none
| some (.inl v8) =>
 some (v8.2.1, v8.1, ())
| some (.inr v10) =>
 none
noncomputable def S_l_markModeInfoS : Spec := ⟨(.pair (.own 84 (.pair (.int .i64) (.pair (.int .i64) (.pair (.own 2 (.int .i64)) .unit)))) (.pair (.int .i64) .unit)), (.pair (.int .i64) .unit), (.pair (.own 84 (.pair (.int .i64) (.pair (.int .i64) (.pair (.own 2 (.int .i64)) .unit)))) .unit), rfl, l_markModeInfoS⟩
noncomputable def σ_l_markModeInfoS : FuncId → Option Spec := sig [(15, S_l_markInt64S)]
theorem σok_l_markModeInfoS : ∀ f s, σ_l_markModeInfoS f = some s → FnOK G0 Tryz.prog f s := sig_ok ⟨ok_l_markInt64S, trivial⟩
def q_l_markModeInfoS_2 : LRow := ⟨[0, 1, 5], (.pair (.own 84 (.pair (.int .i64) (.pair (.int .i64) (.pair (.own 2 (.int .i64)) .unit)))) TCrc), 0, [0, 1], (.pair (.own 84 (.pair (.int .i64) (.pair (.int .i64) (.pair (.own 2 (.int .i64)) .unit)))) (.pair (.int .i64) .unit)), [], .unit⟩
noncomputable def ls_l_markModeInfoS : List LSpec := [q_l_markModeInfoS_2.spec b_l_markModeInfoS_2]
theorem lok_l_markModeInfoS_2 : Lok Γ1 E1 σ_l_markModeInfoS (lam Tryz.f36 ls_l_markModeInfoS) Tryz.f36 0 q_l_markModeInfoS_2 b_l_markModeInfoS_2 := fun x => by kernel_rfl
theorem ok_l_markModeInfoS : FnOK G0 Tryz.prog 36 S_l_markModeInfoS := fn_okS tab1 σok_l_markModeInfoS Tryz.func36 ls_l_markModeInfoS (by kernel_rfl) (by exact ⟨(lok_l_markModeInfoS_2).lok, trivial⟩) fun x => by kernel_rfl

noncomputable def b_l_markSlotInfoS_2 (x : (Ty.T (.pair (.own 89 TSlotInfo) TCrc))) : Option ((Ty.T (.pair (.own 89 TSlotInfo) TCrc)) ⊕ ((Ty.T (.pair (.own 89 TSlotInfo) (.pair (.int .i64) .unit))) ⊕ (Ty.T .unit))) :=
match (decide (x.2.2.1 < (x.1.length : Int))) with
| true =>
 onSome (idx x.1 x.2.2.1) fun _ =>
 match x.1[x.2.2.1.toNat]? with
 | none => none
 | some v2 =>
 onSome (idx (x.1.set x.2.2.1.toNat (x.2.1, v2.2.1, v2.2.2.1, (v2.2.2.2.1.1, v2.2.2.2.1.2.1, v2.2.2.2.1.2.2.1, v2.2.2.2.1.2.2.2.1, v2.2.2.2.1.2.2.2.2.1, ()), ())) x.2.2.1) fun _ =>
 match (x.1.set x.2.2.1.toNat (x.2.1, v2.2.1, v2.2.2.1, (v2.2.2.2.1.1, v2.2.2.2.1.2.1, v2.2.2.2.1.2.2.1, v2.2.2.2.1.2.2.2.1, v2.2.2.2.1.2.2.2.2.1, ()), ()))[x.2.2.1.toNat]? with
 | none => none
 | some v4 =>
 onSome (idx ((x.1.set x.2.2.1.toNat (x.2.1, v2.2.1, v2.2.2.1, (v2.2.2.2.1.1, v2.2.2.2.1.2.1, v2.2.2.2.1.2.2.1, v2.2.2.2.1.2.2.2.1, v2.2.2.2.1.2.2.2.2.1, ()), ())).set x.2.2.1.toNat (v4.1, (IntKind.i64.wrap (x.2.1 + (1 : Int))), v4.2.2.1, (v4.2.2.2.1.1, v4.2.2.2.1.2.1, v4.2.2.2.1.2.2.1, v4.2.2.2.1.2.2.2.1, v4.2.2.2.1.2.2.2.2.1, ()), ())) x.2.2.1) fun _ =>
 match ((x.1.set x.2.2.1.toNat (x.2.1, v2.2.1, v2.2.2.1, (v2.2.2.2.1.1, v2.2.2.2.1.2.1, v2.2.2.2.1.2.2.1, v2.2.2.2.1.2.2.2.1, v2.2.2.2.1.2.2.2.2.1, ()), ())).set x.2.2.1.toNat (v4.1, (IntKind.i64.wrap (x.2.1 + (1 : Int))), v4.2.2.1, (v4.2.2.2.1.1, v4.2.2.2.1.2.1, v4.2.2.2.1.2.2.1, v4.2.2.2.1.2.2.2.1, v4.2.2.2.1.2.2.2.2.1, ()), ()))[x.2.2.1.toNat]? with
 | none => none
 | some v6 =>
 onSome (idx (((x.1.set x.2.2.1.toNat (x.2.1, v2.2.1, v2.2.2.1, (v2.2.2.2.1.1, v2.2.2.2.1.2.1, v2.2.2.2.1.2.2.1, v2.2.2.2.1.2.2.2.1, v2.2.2.2.1.2.2.2.2.1, ()), ())).set x.2.2.1.toNat (v4.1, (IntKind.i64.wrap (x.2.1 + (1 : Int))), v4.2.2.1, (v4.2.2.2.1.1, v4.2.2.2.1.2.1, v4.2.2.2.1.2.2.1, v4.2.2.2.1.2.2.2.1, v4.2.2.2.1.2.2.2.2.1, ()), ())).set x.2.2.1.toNat (v6.1, v6.2.1, (IntKind.i64.wrap ((IntKind.i64.wrap (x.2.1 + (1 : Int))) + (1 : Int))), (v6.2.2.2.1.1, v6.2.2.2.1.2.1, v6.2.2.2.1.2.2.1, v6.2.2.2.1.2.2.2.1, v6.2.2.2.1.2.2.2.2.1, ()), ())) x.2.2.1) fun _ =>
 match (((x.1.set x.2.2.1.toNat (x.2.1, v2.2.1, v2.2.2.1, (v2.2.2.2.1.1, v2.2.2.2.1.2.1, v2.2.2.2.1.2.2.1, v2.2.2.2.1.2.2.2.1, v2.2.2.2.1.2.2.2.2.1, ()), ())).set x.2.2.1.toNat (v4.1, (IntKind.i64.wrap (x.2.1 + (1 : Int))), v4.2.2.1, (v4.2.2.2.1.1, v4.2.2.2.1.2.1, v4.2.2.2.1.2.2.1, v4.2.2.2.1.2.2.2.1, v4.2.2.2.1.2.2.2.2.1, ()), ())).set x.2.2.1.toNat (v6.1, v6.2.1, (IntKind.i64.wrap ((IntKind.i64.wrap (x.2.1 + (1 : Int))) + (1 : Int))), (v6.2.2.2.1.1, v6.2.2.2.1.2.1, v6.2.2.2.1.2.2.1, v6.2.2.2.1.2.2.2.1, v6.2.2.2.1.2.2.2.2.1, ()), ()))[x.2.2.1.toNat]? with
 | none => none
 | some v8 =>
 onSome (idx ((((x.1.set x.2.2.1.toNat (x.2.1, v2.2.1, v2.2.2.1, (v2.2.2.2.1.1, v2.2.2.2.1.2.1, v2.2.2.2.1.2.2.1, v2.2.2.2.1.2.2.2.1, v2.2.2.2.1.2.2.2.2.1, ()), ())).set x.2.2.1.toNat (v4.1, (IntKind.i64.wrap (x.2.1 + (1 : Int))), v4.2.2.1, (v4.2.2.2.1.1, v4.2.2.2.1.2.1, v4.2.2.2.1.2.2.1, v4.2.2.2.1.2.2.2.1, v4.2.2.2.1.2.2.2.2.1, ()), ())).set x.2.2.1.toNat (v6.1, v6.2.1, (IntKind.i64.wrap ((IntKind.i64.wrap (x.2.1 + (1 : Int))) + (1 : Int))), (v6.2.2.2.1.1, v6.2.2.2.1.2.1, v6.2.2.2.1.2.2.1, v6.2.2.2.1.2.2.2.1, v6.2.2.2.1.2.2.2.2.1, ()), ())).set x.2.2.1.toNat (v8.1, v8.2.1, v8.2.2.1, ((IntKind.i64.wrap ((IntKind.i64.wrap ((IntKind.i64.wrap (x.2.1 + (1 : Int))) + (1 : Int))) + (1 : Int))), v8.2.2.2.1.2.1, v8.2.2.2.1.2.2.1, v8.2.2.2.1.2.2.2.1, v8.2.2.2.1.2.2.2.2.1, ()), ())) x.2.2.1) fun _ =>
 match ((((x.1.set x.2.2.1.toNat (x.2.1, v2.2.1, v2.2.2.1, (v2.2.2.2.1.1, v2.2.2.2.1.2.1, v2.2.2.2.1.2.2.1, v2.2.2.2.1.2.2.2.1, v2.2.2.2.1.2.2.2.2.1, ()), ())).set x.2.2.1.toNat (v4.1, (IntKind.i64.wrap (x.2.1 + (1 : Int))), v4.2.2.1, (v4.2.2.2.1.1, v4.2.2.2.1.2.1, v4.2.2.2.1.2.2.1, v4.2.2.2.1.2.2.2.1, v4.2.2.2.1.2.2.2.2.1, ()), ())).set x.2.2.1.toNat (v6.1, v6.2.1, (IntKind.i64.wrap ((IntKind.i64.wrap (x.2.1 + (1 : Int))) + (1 : Int))), (v6.2.2.2.1.1, v6.2.2.2.1.2.1, v6.2.2.2.1.2.2.1, v6.2.2.2.1.2.2.2.1, v6.2.2.2.1.2.2.2.2.1, ()), ())).set x.2.2.1.toNat (v8.1, v8.2.1, v8.2.2.1, ((IntKind.i64.wrap ((IntKind.i64.wrap ((IntKind.i64.wrap (x.2.1 + (1 : Int))) + (1 : Int))) + (1 : Int))), v8.2.2.2.1.2.1, v8.2.2.2.1.2.2.1, v8.2.2.2.1.2.2.2.1, v8.2.2.2.1.2.2.2.2.1, ()), ()))[x.2.2.1.toNat]? with
 | none => none
 | some v10 =>
 onSome (idx (((((x.1.set x.2.2.1.toNat (x.2.1, v2.2.1, v2.2.2.1, (v2.2.2.2.1.1, v2.2.2.2.1.2.1, v2.2.2.2.1.2.2.1, v2.2.2.2.1.2.2.2.1, v2.2.2.2.1.2.2.2.2.1, ()), ())).set x.2.2.1.toNat (v4.1, (IntKind.i64.wrap (x.2.1 + (1 : Int))), v4.2.2.1, (v4.2.2.2.1.1, v4.2.2.2.1.2.1, v4.2.2.2.1.2.2.1, v4.2.2.2.1.2.2.2.1, v4.2.2.2.1.2.2.2.2.1, ()), ())).set x.2.2.1.toNat (v6.1, v6.2.1, (IntKind.i64.wrap ((IntKind.i64.wrap (x.2.1 + (1 : Int))) + (1 : Int))), (v6.2.2.2.1.1, v6.2.2.2.1.2.1, v6.2.2.2.1.2.2.1, v6.2.2.2.1.2.2.2.1, v6.2.2.2.1.2.2.2.2.1, ()), ())).set x.2.2.1.toNat (v8.1, v8.2.1, v8.2.2.1, ((IntKind.i64.wrap ((IntKind.i64.wrap ((IntKind.i64.wrap (x.2.1 + (1 : Int))) + (1 : Int))) + (1 : Int))), v8.2.2.2.1.2.1, v8.2.2.2.1.2.2.1, v8.2.2.2.1.2.2.2.1, v8.2.2.2.1.2.2.2.2.1, ()), ())).set x.2.2.1.toNat (v10.1, v10.2.1, v10.2.2.1, (v10.2.2.2.1.1, (IntKind.i64.wrap ((IntKind.i64.wrap ((IntKind.i64.wrap ((IntKind.i64.wrap (x.2.1 + (1 : Int))) + (1 : Int))) + (1 : Int))) + (1 : Int))), v10.2.2.2.1.2.2.1, v10.2.2.2.1.2.2.2.1, v10.2.2.2.1.2.2.2.2.1, ()), ())) x.2.2.1) fun _ =>
 match (((((x.1.set x.2.2.1.toNat (x.2.1, v2.2.1, v2.2.2.1, (v2.2.2.2.1.1, v2.2.2.2.1.2.1, v2.2.2.2.1.2.2.1, v2.2.2.2.1.2.2.2.1, v2.2.2.2.1.2.2.2.2.1, ()), ())).set x.2.2.1.toNat (v4.1, (IntKind.i64.wrap (x.2.1 + (1 : Int))), v4.2.2.1, (v4.2.2.2.1.1, v4.2.2.2.1.2.1, v4.2.2.2.1.2.2.1, v4.2.2.2.1.2.2.2.1, v4.2.2.2.1.2.2.2.2.1, ()), ())).set x.2.2.1.toNat (v6.1, v6.2.1, (IntKind.i64.wrap ((IntKind.i64.wrap (x.2.1 + (1 : Int))) + (1 : Int))), (v6.2.2.2.1.1, v6.2.2.2.1.2.1, v6.2.2.2.1.2.2.1, v6.2.2.2.1.2.2.2.1, v6.2.2.2.1.2.2.2.2.1, ()), ())).set x.2.2.1.toNat (v8.1, v8.2.1, v8.2.2.1, ((IntKind.i64.wrap ((IntKind.i64.wrap ((IntKind.i64.wrap (x.2.1 + (1 : Int))) + (1 : Int))) + (1 : Int))), v8.2.2.2.1.2.1, v8.2.2.2.1.2.2.1, v8.2.2.2.1.2.2.2.1, v8.2.2.2.1.2.2.2.2.1, ()), ())).set x.2.2.1.toNat (v10.1, v10.2.1, v10.2.2.1, (v10.2.2.2.1.1, (IntKind.i64.wrap ((IntKind.i64.wrap ((IntKind.i64.wrap ((IntKind.i64.wrap (x.2.1 + (1 : Int))) + (1 : Int))) + (1 : Int))) + (1 : Int))), v10.2.2.2.1.2.2.1, v10.2.2.2.1.2.2.2.1, v10.2.2.2.1.2.2.2.2.1, ()), ()))[x.2.2.1.toNat]? with
 | none => none
 | some v12 =>
 onSome (idx ((((((x.1.set x.2.2.1.toNat (x.2.1, v2.2.1, v2.2.2.1, (v2.2.2.2.1.1, v2.2.2.2.1.2.1, v2.2.2.2.1.2.2.1, v2.2.2.2.1.2.2.2.1, v2.2.2.2.1.2.2.2.2.1, ()), ())).set x.2.2.1.toNat (v4.1, (IntKind.i64.wrap (x.2.1 + (1 : Int))), v4.2.2.1, (v4.2.2.2.1.1, v4.2.2.2.1.2.1, v4.2.2.2.1.2.2.1, v4.2.2.2.1.2.2.2.1, v4.2.2.2.1.2.2.2.2.1, ()), ())).set x.2.2.1.toNat (v6.1, v6.2.1, (IntKind.i64.wrap ((IntKind.i64.wrap (x.2.1 + (1 : Int))) + (1 : Int))), (v6.2.2.2.1.1, v6.2.2.2.1.2.1, v6.2.2.2.1.2.2.1, v6.2.2.2.1.2.2.2.1, v6.2.2.2.1.2.2.2.2.1, ()), ())).set x.2.2.1.toNat (v8.1, v8.2.1, v8.2.2.1, ((IntKind.i64.wrap ((IntKind.i64.wrap ((IntKind.i64.wrap (x.2.1 + (1 : Int))) + (1 : Int))) + (1 : Int))), v8.2.2.2.1.2.1, v8.2.2.2.1.2.2.1, v8.2.2.2.1.2.2.2.1, v8.2.2.2.1.2.2.2.2.1, ()), ())).set x.2.2.1.toNat (v10.1, v10.2.1, v10.2.2.1, (v10.2.2.2.1.1, (IntKind.i64.wrap ((IntKind.i64.wrap ((IntKind.i64.wrap ((IntKind.i64.wrap (x.2.1 + (1 : Int))) + (1 : Int))) + (1 : Int))) + (1 : Int))), v10.2.2.2.1.2.2.1, v10.2.2.2.1.2.2.2.1, v10.2.2.2.1.2.2.2.2.1, ()), ())).set x.2.2.1.toNat (v12.1, v12.2.1, v12.2.2.1, (v12.2.2.2.1.1, v12.2.2.2.1.2.1, (IntKind.i64.wrap ((IntKind.i64.wrap ((IntKind.i64.wrap ((IntKind.i64.wrap ((IntKind.i64.wrap (x.2.1 + (1 : Int))) + (1 : Int))) + (1 : Int))) + (1 : Int))) + (1 : Int))), v12.2.2.2.1.2.2.2.1, v12.2.2.2.1.2.2.2.2.1, ()), ())) x.2.2.1) fun _ =>
 match ((((((x.1.set x.2.2.1.toNat (x.2.1, v2.2.1, v2.2.2.1, (v2.2.2.2.1.1, v2.2.2.2.1.2.1, v2.2.2.2.1.2.2.1, v2.2.2.2.1.2.2.2.1, v2.2.2.2.1.2.2.2.2.1, ()), ())).set x.2.2.1.toNat (v4.1, (IntKind.i64.wrap (x.2.1 + (1 : Int))), v4.2.2.1, (v4.2.2.2.1.1, v4.2.2.2.1.2.1, v4.2.2.2.1.2.2.1, v4.2.2.2.1.2.2.2.1, v4.2.2.2.1.2.2.2.2.1, ()), ())).set x.2.2.1.toNat (v6.1, v6.2.1, (IntKind.i64.wrap ((IntKind.i64.wrap (x.2.1 + (1 : Int))) + (1 : Int))), (v6.2.2.2.1.1, v6.2.2.2.1.2.1, v6.2.2.2.1.2.2.1, v6.2.2.2.1.2.2.2.1, v6.2.2.2.1.2.2.2.2.1, ()), ())).set x.2.2.1.toNat (v8.1, v8.2.1, v8.2.2.1, ((IntKind.i64.wrap ((IntKind.i64.wrap ((IntKind.i64.wrap (x.2.1 + (1 : Int))) + (1 : Int))) + (1 : Int))), v8.2.2.2.1.2.1, v8.2.2.2.1.2.2.1, v8.2.2.2.1.2.2.2.1, v8.2.2.2.1.2.2.2.2.1, ()), ())).set x.2.2.1.toNat (v10.1, v10.2.1, v10.2.2.1, (v10.2.2.2.1.1, (IntKind.i64.wrap ((IntKind.i64.wrap ((IntKind.i64.wrap ((IntKind.i64.wrap (x.2.1 + (1 : Int))) + (1 : Int))) + (1 : Int))) + (1 : Int))), v10.2.2.2.1.2.2.1, v10.2.2.2.1.2.2.2.1, v10.2.2.2.1.2.2.2.2.1, ()), ())).set x.2.2.1.toNat (v12.1, v12.2.1, v12.2.2.1, (v12.2.2.2.1.1, v12.2.2.2.1.2.1, (IntKind.i64.wrap ((IntKind.i64.wrap ((IntKind.i64.wrap ((IntKind.i64.wrap ((IntKind.i64.wrap (x.2.1 + (1 : Int))) + (1 : Int))) + (1 : Int))) + (1 : Int))) + (1 : Int))), v12.2.2.2.1.2.2.2.1, v12.2.2.2.1.2.2.2.2.1, ()), ()))[x.2.2.1.toNat]? with
 | none => none
 | some v14 =>
 onSome (idx (((((((x.1.set x.2.2.1.toNat (x.2.1, v2.2.1, v2.2.2.1, (v2.2.2.2.1.1, v2.2.2.2.1.2.1, v2.2.2.2.1.2.2.1, v2.2.2.2.1.2.2.2.1, v2.2.2.2.1.2.2.2.2.1, ()), ())).set x.2.2.1.toNat (v4.1, (IntKind.i64.wrap (x.2.1 + (1 : Int))), v4.2.2.1, (v4.2.2.2.1.1, v4.2.2.2.1.2.1, v4.2.2.2.1.2.2.1, v4.2.2.2.1.2.2.2.1, v4.2.2.2.1.2.2.2.2.1, ()), ())).set x.2.2.1.toNat (v6.1, v6.2.1, (IntKind.i64.wrap ((IntKind.i64.wrap (x.2.1 + (1 : Int))) + (1 : Int))), (v6.2.2.2.1.1, v6.2.2.2.1.2.1, v6.2.2.2.1.2.2.1, v6.2.2.2.1.2.2.2.1, v6.2.2.2.1.2.2.2.2.1, ()), ())).set x.2.2.1.toNat (v8.1, v8.2.1, v8.2.2.1, ((IntKind.i64.wrap ((IntKind.i64.wrap ((IntKind.i64.wrap (x.2.1 + (1 : Int))) + (1 : Int))) + (1 : Int))), v8.2.2.2.1.2.1, v8.2.2.2.1.2.2.1, v8.2.2.2.1.2.2.2.1, v8.2.2.2.1.2.2.2.2.1, ()), ())).set x.2.2.1.toNat (v10.1, v10.2.1, v10.2.2.1, (v10.2.2.2.1.1, (IntKind.i64.wrap ((IntKind.i64.wrap ((IntKind.i64.wrap ((IntKind.i64.wrap (x.2.1 + (1 : Int))) + (1 : Int))) + (1 : Int))) + (1 : Int))), v10.2.2.2.1.2.2.1, v10.2.2.2.1.2.2.2.1, v10.2.2.2.1.2.2.2.2.1, ()), ())).set x.2.2.1.toNat (v12.1, v12.2.1, v12.2.2.1, (v12.2.2.2.1.1, v12.2.2.2.1.2.1, (IntKind.i64.wrap ((IntKind.i64.wrap ((IntKind.i64.wrap ((IntKind.i64.wrap ((IntKind.i64.wrap (x.2.1 + (1 : Int))) + (1 : Int))) + (1 : Int))) + (1 : Int))) + (1 : Int))), v12.2.2.2.1.2.2.2.1, v12.2.2.2.1.2.2.2.2.1, ()), ())).set x.2.2.1.toNat (v14.1, v14.2.1, v14.2.2.1, (v14.2.2.2.1.1, v14.2.2.2.1.2.1, v14.2.2.2.1.2.2.1, (IntKind.i64.wrap ((IntKind.i64.wrap ((IntKind.i64.wrap ((IntKind.i64.wrap ((IntKind.i64.wrap ((IntKind.i64.wrap (x.2.1 + (1 : Int))) + (1 : Int))) + (1 : Int))) + (1 : Int))) + (1 : Int))) + (1 : Int))), v14.2.2.2.1.2.2.2.2.1, ()), ())) x.2.2.1) fun _ =>
 match (((((((x.1.set x.2.2.1.toNat (x.2.1, v2.2.1, v2.2.2.1, (v2.2.2.2.1.1, v2.2.2.2.1.2.1, v2.2.2.2.1.2.2.1, v2.2.2.2.1.2.2.2.1, v2.2.2.2.1.2.2.2.2.1, ()), ())).set x.2.2.1.toNat (v4.1, (IntKind.i64.wrap (x.2.1 + (1 : Int))), v4.2.2.1, (v4.2.2.2.1.1, v4.2.2.2.1.2.1, v4.2.2.2.1.2.2.1, v4.2.2.2.1.2.2.2.1, v4.2.2.2.1.2.2.2.2.1, ()), ())).set x.2.2.1.toNat (v6.1, v6.2.1, (IntKind.i64.wrap ((IntKind.i64.wrap (x.2.1 + (1 : Int))) + (1 : Int))), (v6.2.2.2.1.1, v6.2.2.2.1.2.1, v6.2.2.2.1.2.2.1, v6.2.2.2.1.2.2.2.1, v6.2.2.2.1.2.2.2.2.1, ()), ())).set x.2.2.1.toNat (v8.1, v8.2.1, v8.2.2.1, ((IntKind.i64.wrap ((IntKind.i64.wrap ((IntKind.i64.wrap (x.2.1 + (1 : Int))) + (1 : Int))) + (1 : Int))), v8.2.2.2.1.2.1, v8.2.2.2.1.2.2.1, v8.2.2.2.1.2.2.2.1, v8.2.2.2.1.2.2.2.2.1, ()), ())).set x.2.2.1.toNat (v10.1, v10.2.1, v10.2.2.1, (v10.2.2.2.1.1, (IntKind.i64.wrap ((IntKind.i64.wrap ((IntKind.i64.wrap ((IntKind.i64.wrap (x.2.1 + (1 : Int))) + (1 : Int))) + (1 : Int))) + (1 : Int))), v10.2.2.2.1.2.2.1, v10.2.2.2.1.2.2.2.1, v10.2.2.2.1.2.2.2.2.1, ()), ())).set x.2.2.1.toNat (v12.1, v12.2.1, v12.2.2.1, (v12.2.2.2.1.1, v12.2.2.2.1.2.1, (IntKind.i64.wrap ((IntKind.i64.wrap ((IntKind.i64.wrap ((IntKind.i64.wrap ((IntKind.i64.wrap (x.2.1 + (1 : Int))) + (1 : Int))) + (1 : Int))) + (1 : Int))) + (1 : Int))), v12.2.2.2.1.2.2.2.1, v12.2.2.2.1.2.2.2.2.1, ()), ())).set x.2.2.1.toNat (v14.1, v14.2.1, v14.2.2.1, (v14.2.2.2.1.1, v14.2.2.2.1.2.1, v14.2.2.2.1.2.2.1, (IntKind.i64.wrap ((IntKind.i64.wrap ((IntKind.i64.wrap ((IntKind.i64.wrap ((IntKind.i64.wrap ((IntKind.i64.wrap (x.2.1 + (1 : Int))) + (1 : Int))) + (1 : Int))) + (1 : Int))) + (1 : Int))) + (1 : Int))), v14.2.2.2.1.2.2.2.2.1, ()), ()))[x.2.2.1.toNat]? with
 | none => none
 | some v16 =>
 some (.inl (((((((((x.1.set x.2.2.1.toNat (x.2.1, v2.2.1, v2.2.2.1, (v2.2.2.2.1.1, v2.2.2.2.1.2.1, v2.2.2.2.1.2.2.1, v2.2.2.2.1.2.2.2.1, v2.2.2.2.1.2.2.2.2.1, ()), ())).set x.2.2.1.toNat (v4.1, (IntKind.i64.wrap (x.2.1 + (1 : Int))), v4.2.2.1, (v4.2.2.2.1.1, v4.2.2.2.1.2.1, v4.2.2.2.1.2.2.1, v4.2.2.2.1.2.2.2.1, v4.2.2.2.1.2.2.2.2.1, ()), ())).set x.2.2.1.toNat (v6.1, v6.2.1, (IntKind.i64.wrap ((IntKind.i64.wrap (x.2.1 + (1 : Int))) + (1 : Int))), (v6.2.2.2.1.1, v6.2.2.2.1.2.1, v6.2.2.2.1.2.2.1, v6.2.2.2.1.2.2.2.1, v6.2.2.2.1.2.2.2.2.1, ()), ())).set x.2.2.1.toNat (v8.1, v8.2.1, v8.2.2.1, ((IntKind.i64.wrap ((IntKind.i64.wrap ((IntKind.i64.wrap (x.2.1 + (1 : Int))) + (1 : Int))) + (1 : Int))), v8.2.2.2.1.2.1, v8.2.2.2.1.2.2.1, v8.2.2.2.1.2.2.2.1, v8.2.2.2.1.2.2.2.2.1, ()), ())).set x.2.2.1.toNat (v10.1, v10.2.1, v10.2.2.1, (v10.2.2.2.1.1, (IntKind.i64.wrap ((IntKind.i64.wrap ((IntKind.i64.wrap ((IntKind.i64.wrap (x.2.1 + (1 : Int))) + (1 : Int))) + (1 : Int))) + (1 : Int))), v10.2.2.2.1.2.2.1, v10.2.2.2.1.2.2.2.1, v10.2.2.2.1.2.2.2.2.1, ()), ())).set x.2.2.1.toNat (v12.1, v12.2.1, v12.2.2.1, (v12.2.2.2.1.1, v12.2.2.2.1.2.1, (IntKind.i64.wrap ((IntKind.i64.wrap ((IntKind.i64.wrap ((IntKind.i64.wrap ((IntKind.i64.wrap (x.2.1 + (1 : Int))) + (1 : Int))) + (1 : Int))) + (1 : Int))) + (1 : Int))), v12.2.2.2.1.2.2.2.1, v12.2.2.2.1.2.2.2.2.1, ()), ())).set x.2.2.1.toNat (v14.1, v14.2.1, v14.2.2.1, (v14.2.2.2.1.1, v14.2.2.2.1.2.1, v14.2.2.2.1.2.2.1, (IntKind.i64.wrap ((IntKind.i64.wrap ((IntKind.i64.wrap ((IntKind.i64.wrap ((IntKind.i64.wrap ((IntKind.i64.wrap (x.2.1 + (1 : Int))) + (1 : Int))) + (1 : Int))) + (1 : Int))) + (1 : Int))) + (1 : Int))), v14.2.2.2.1.2.2.2.2.1, ()), ())).set x.2.2.1.toNat (v16.1, v16.2.1, v16.2.2.1, (v16.2.2.2.1.1, v16.2.2.2.1.2.1, v16.2.2.2.1.2.2.1, v16.2.2.2.1.2.2.2.1, ((Int.tmod (IntKind.i64.wrap ((IntKind.i64.wrap ((IntKind.i64.wrap ((IntKind.i64.wrap ((IntKind.i64.wrap ((IntKind.i64.wrap ((IntKind.i64.wrap (x.2.1 + (1 : Int))) + (1 : Int))) + (1 : Int))) + (1 : Int))) + (1 : Int))) + (1 : Int))) + (1 : Int))) (3 : Int)) == (0 : Int)), ()), ())), (IntKind.i64.wrap ((IntKind.i64.wrap ((IntKind.i64.wrap ((IntKind.i64.wrap ((IntKind.i64.wrap ((IntKind.i64.wrap ((IntKind.i64.wrap ((IntKind.i64.wrap (x.2.1 + (1 : Int))) + (1 : Int))) + (1 : Int))) + (1 : Int))) + (1 : Int))) + (1 : Int))) + (1 : Int))) + (1 : Int))), (IntKind.i64.wrap (x.2.2.1 + (1 : Int))), ()))
| false =>
 some (.inr (.inl (x.1, x.2.1, ())))
noncomputable def l_markSlotInfoS (x : Ty.T (.pair (.own 89 TSlotInfo) (.pair (.int .i64) .unit))) : Option (Ty.T (.pair (.int .i64) (.pair (.own 89 TSlotInfo) .unit))) :=
match loopL b_l_markSlotInfoS_2 (x.1, x.2.1, (0 : Int), ()) with
| none => none
| some (.inl v17) =>
 some (v17.2.1, v17.1, ())
| some (.inr v19) =>
 none
noncomputable def S_l_markSlotInfoS : Spec := ⟨(.pair (.own 89 TSlotInfo) (.pair (.int .i64) .unit)), (.pair (.int .i64) .unit), (.pair (.own 89 TSlotInfo) .unit), rfl, l_markSlotInfoS⟩
noncomputable def σ_l_markSlotInfoS : FuncId → Option Spec := sig []
theorem σok_l_markSlotInfoS : ∀ f s, σ_l_markSlotInfoS f = some s → FnOK G0 Tryz.prog f s := sig_ok trivial
def q_l_markSlotInfoS_2 : LRow := ⟨[0, 1, 5], (.pair (.own 89 TSlotInfo) TCrc), 0, [0, 1], (.pair (.own 89 TSlotInfo) (.pair (.int .i64) .unit)), [], .unit⟩
noncomputable def ls_l_markSlotInfoS : List LSpec := [q_l_markSlotInfoS_2.spec b_l_markSlotInfoS_2]
theorem lok_l_markSlotInfoS_2 : Lok Γ0 E0 σ_l_markSlotInfoS (lam Tryz.f37 ls_l_markSlotInfoS) Tryz.f37 0 q_l_markSlotInfoS_2 b_l_markSlotInfoS_2 := fun x => by kernel_rfl
theorem ok_l_markSlotInfoS : FnOK G0 Tryz.prog 37 S_l_markSlotInfoS := fn_okS tab0 σok_l_markSlotInfoS Tryz.func37 ls_l_markSlotInfoS (by kernel_rfl) (by exact ⟨(lok_l_markSlotInfoS_2).lok, trivial⟩) fun x => by kernel_rfl

noncomputable def l_markMedl (x : Ty.T (.pair (.pair (.int .i64) (.pair (.own 82 TNodeInfo) (.pair (.own 84 (.pair (.int .i64) (.pair (.int .i64) (.pair (.own 2 (.int .i64)) .unit)))) (.pair (.own 89 TSlotInfo) .unit)))) (.pair (.int .i64) .unit))) : Option (Ty.T (.pair (.int .i64) (.pair (.pair (.int .i64) (.pair (.own 82 TNodeInfo) (.pair (.own 84 (.pair (.int .i64) (.pair (.int .i64) (.pair (.own 2 (.int .i64)) .unit)))) (.pair (.own 89 TSlotInfo) .unit)))) .unit))) :=
match l_markNodeInfoS (x.1.2.1, x.2.1, ()) with
| none => none
| some v1 =>
match l_markModeInfoS (x.1.2.2.1, v1.1, ()) with
| none => none
| some v2 =>
match l_markSlotInfoS (x.1.2.2.2.1, v2.1, ()) with
| none => none
| some v3 =>
some (v3.1, (x.1.1, v1.2.1, v2.2.1, v3.2.1, ()), ())
noncomputable def S_l_markMedl : Spec := ⟨(.pair (.pair (.int .i64) (.pair (.own 82 TNodeInfo) (.pair (.own 84 (.pair (.int .i64) (.pair (.int .i64) (.pair (.own 2 (.int .i64)) .unit)))) (.pair (.own 89 TSlotInfo) .unit)))) (.pair (.int .i64) .unit)), (.pair (.int .i64) .unit), (.pair (.pair (.int .i64) (.pair (.own 82 TNodeInfo) (.pair (.own 84 (.pair (.int .i64) (.pair (.int .i64) (.pair (.own 2 (.int .i64)) .unit)))) (.pair (.own 89 TSlotInfo) .unit)))) .unit), rfl, l_markMedl⟩
noncomputable def σ_l_markMedl : FuncId → Option Spec := sig [(35, S_l_markNodeInfoS), (36, S_l_markModeInfoS), (37, S_l_markSlotInfoS)]
theorem σok_l_markMedl : ∀ f s, σ_l_markMedl f = some s → FnOK G0 Tryz.prog f s := sig_ok ⟨ok_l_markNodeInfoS, ok_l_markModeInfoS, ok_l_markSlotInfoS, trivial⟩
theorem ok_l_markMedl : FnOK G0 Tryz.prog 14 S_l_markMedl := fn_okS tab1 σok_l_markMedl Tryz.func14 [] (by kernel_rfl) (by exact trivial) fun x => by kernel_rfl

noncomputable def l_markFrame (x : Ty.T (.pair (.pair (.int .i64) (.pair (.int .i64) (.pair TState (.pair (.own 2 (.int .i64)) .unit)))) (.pair (.int .i64) .unit))) : Option (Ty.T (.pair (.int .i64) (.pair (.pair (.int .i64) (.pair (.int .i64) (.pair TState (.pair (.own 2 (.int .i64)) .unit)))) .unit))) :=
match l_markInt64S (x.1.2.2.2.1, x.2.1, ()) with
| none => none
| some v1 =>
some (v1.1, (x.1.1, x.1.2.1, (x.1.2.2.1.1, x.1.2.2.1.2.1, x.1.2.2.1.2.2.1, x.1.2.2.1.2.2.2.1, x.1.2.2.1.2.2.2.2.1, ()), v1.2.1, ()), ())
noncomputable def S_l_markFrame : Spec := ⟨(.pair (.pair (.int .i64) (.pair (.int .i64) (.pair TState (.pair (.own 2 (.int .i64)) .unit)))) (.pair (.int .i64) .unit)), (.pair (.int .i64) .unit), (.pair (.pair (.int .i64) (.pair (.int .i64) (.pair TState (.pair (.own 2 (.int .i64)) .unit)))) .unit), rfl, l_markFrame⟩
noncomputable def σ_l_markFrame : FuncId → Option Spec := sig [(15, S_l_markInt64S)]
theorem σok_l_markFrame : ∀ f s, σ_l_markFrame f = some s → FnOK G0 Tryz.prog f s := sig_ok ⟨ok_l_markInt64S, trivial⟩
theorem ok_l_markFrame : FnOK G0 Tryz.prog 38 S_l_markFrame := fn_okS tab0 σok_l_markFrame Tryz.func38 [] (by kernel_rfl) (by exact trivial) fun x => by kernel_rfl

noncomputable def l_markVerdict (x : Ty.T (.pair (.pair (.int .i64) (.pair (.pair (.int .i64) (.pair (.int .i64) (.pair TState (.pair (.own 2 (.int .i64)) .unit)))) .unit)) (.pair (.int .i64) .unit))) : Option (Ty.T (.pair (.int .i64) (.pair (.pair (.int .i64) (.pair (.pair (.int .i64) (.pair (.int .i64) (.pair TState (.pair (.own 2 (.int .i64)) .unit)))) .unit)) .unit))) :=
match l_markFrame ((x.1.2.1.1, x.1.2.1.2.1, (x.1.2.1.2.2.1.1, x.1.2.1.2.2.1.2.1, x.1.2.1.2.2.1.2.2.1, x.1.2.1.2.2.1.2.2.2.1, x.1.2.1.2.2.1.2.2.2.2.1, ()), x.1.2.1.2.2.2.1, ()), x.2.1, ()) with
| none => none
| some v1 =>
some (v1.1, (x.1.1, (x.1.2.1.1, x.1.2.1.2.1, (x.1.2.1.2.2.1.1, x.1.2.1.2.2.1.2.1, x.1.2.1.2.2.1.2.2.1, x.1.2.1.2.2.1.2.2.2.1, x.1.2.1.2.2.1.2.2.2.2.1, ()), v1.2.1.2.2.2.1, ()), ()), ())
noncomputable def S_l_markVerdict : Spec := ⟨(.pair (.pair (.int .i64) (.pair (.pair (.int .i64) (.pair (.int .i64) (.pair TState (.pair (.own 2 (.int .i64)) .unit)))) .unit)) (.pair (.int .i64) .unit)), (.pair (.int .i64) .unit), (.pair (.pair (.int .i64) (.pair (.pair (.int .i64) (.pair (.int .i64) (.pair TState (.pair (.own 2 (.int .i64)) .unit)))) .unit)) .unit), rfl, l_markVerdict⟩
noncomputable def σ_l_markVerdict : FuncId → Option Spec := sig [(38, S_l_markFrame)]
theorem σok_l_markVerdict : ∀ f s, σ_l_markVerdict f = some s → FnOK G0 Tryz.prog f s := sig_ok ⟨ok_l_markFrame, trivial⟩
theorem ok_l_markVerdict : FnOK G0 Tryz.prog 16 S_l_markVerdict := fn_okS tab0 σok_l_markVerdict Tryz.func16 [] (by kernel_rfl) (by exact trivial) fun x => by kernel_rfl

noncomputable def b_l_heldInt64S_2 (x : (Ty.T (.pair (.list (.int .i64)) TCrc))) : Option ((Ty.T (.pair (.list (.int .i64)) TCrc)) ⊕ ((Ty.T (.pair (.int .i64) .unit)) ⊕ (Ty.T (.pair (.int .i64) .unit)))) :=
match (decide (x.2.2.1 < (x.1.length : Int))) with
| true =>
 onSome (idx x.1 x.2.2.1) fun v1 =>
 match (v1 != x.2.1) with
 | true =>
  some (.inr (.inr ((-1 : Int), ())))
 | false =>
  some (.inl (x.1, (IntKind.i64.wrap (x.2.1 + (1 : Int))), (IntKind.i64.wrap (x.2.2.1 + (1 : Int))), ()))
| false =>
 some (.inr (.inl (x.2.1, ())))
noncomputable def l_heldInt64S (x : Ty.T (.pair (.list (.int .i64)) (.pair (.int .i64) .unit))) : Option (Ty.T (.pair (.int .i64) .unit)) :=
match loopL b_l_heldInt64S_2 (x.1, x.2.1, (0 : Int), ()) with
| none => none
| some (.inl v2) =>
 some (v2.1, ())
| some (.inr v3) =>
 some (v3.1, ())
noncomputable def S_l_heldInt64S : Spec := ⟨(.pair (.list (.int .i64)) (.pair (.int .i64) .unit)), (.pair (.int .i64) .unit), .unit, rfl, l_heldInt64S⟩
noncomputable def σ_l_heldInt64S : FuncId → Option Spec := sig []
theorem σok_l_heldInt64S : ∀ f s, σ_l_heldInt64S f = some s → FnOK G0 Tryz.prog f s := sig_ok trivial
def q_l_heldInt64S_2 : LRow := ⟨[0, 1, 5], (.pair (.list (.int .i64)) TCrc), 0, [1], (.pair (.int .i64) .unit), [4], (.pair (.int .i64) .unit)⟩
noncomputable def ls_l_heldInt64S : List LSpec := [q_l_heldInt64S_2.spec b_l_heldInt64S_2]
theorem lok_l_heldInt64S_2 : Lok Γ0 E0 σ_l_heldInt64S (lam Tryz.f60 ls_l_heldInt64S) Tryz.f60 0 q_l_heldInt64S_2 b_l_heldInt64S_2 := fun x => by kernel_rfl
theorem ok_l_heldInt64S : FnOK G0 Tryz.prog 60 S_l_heldInt64S := fn_okS tab0 σok_l_heldInt64S Tryz.func60 ls_l_heldInt64S (by kernel_rfl) (by exact ⟨(lok_l_heldInt64S_2).lok, trivial⟩) fun x => by kernel_rfl

noncomputable def l_heldFrame (x : Ty.T (.pair TFrame (.pair (.int .i64) .unit))) : Option (Ty.T (.pair (.int .i64) .unit)) :=
match l_heldInt64S (x.1.2.2.2.1, x.2.1, ()) with
| none => none
| some v1 =>
match (decide (v1.1 < (0 : Int))) with
| true =>
 some ((-1 : Int), ())
| false =>
 some (v1.1, ())
noncomputable def S_l_heldFrame : Spec := ⟨(.pair TFrame (.pair (.int .i64) .unit)), (.pair (.int .i64) .unit), .unit, rfl, l_heldFrame⟩
noncomputable def σ_l_heldFrame : FuncId → Option Spec := sig [(60, S_l_heldInt64S)]
theorem σok_l_heldFrame : ∀ f s, σ_l_heldFrame f = some s → FnOK G0 Tryz.prog f s := sig_ok ⟨ok_l_heldInt64S, trivial⟩
theorem ok_l_heldFrame : FnOK G0 Tryz.prog 39 S_l_heldFrame := fn_okS tab0 σok_l_heldFrame Tryz.func39 [] (by kernel_rfl) (by exact trivial) fun x => by kernel_rfl

noncomputable def l_heldVerdict (x : Ty.T (.pair TVerdict (.pair (.int .i64) .unit))) : Option (Ty.T (.pair (.int .i64) .unit)) :=
match l_heldFrame ((x.1.2.1.1, x.1.2.1.2.1, (x.1.2.1.2.2.1.1, x.1.2.1.2.2.1.2.1, x.1.2.1.2.2.1.2.2.1, x.1.2.1.2.2.1.2.2.2.1, x.1.2.1.2.2.1.2.2.2.2.1, ()), x.1.2.1.2.2.2.1, ()), x.2.1, ()) with
| none => none
| some v1 =>
match (decide (v1.1 < (0 : Int))) with
| true =>
 some ((-1 : Int), ())
| false =>
 some (v1.1, ())
noncomputable def S_l_heldVerdict : Spec := ⟨(.pair TVerdict (.pair (.int .i64) .unit)), (.pair (.int .i64) .unit), .unit, rfl, l_heldVerdict⟩
noncomputable def σ_l_heldVerdict : FuncId → Option Spec := sig [(39, S_l_heldFrame)]
theorem σok_l_heldVerdict : ∀ f s, σ_l_heldVerdict f = some s → FnOK G0 Tryz.prog f s := sig_ok ⟨ok_l_heldFrame, trivial⟩
theorem ok_l_heldVerdict : FnOK G0 Tryz.prog 17 S_l_heldVerdict := fn_okS tab0 σok_l_heldVerdict Tryz.func17 [] (by kernel_rfl) (by exact trivial) fun x => by kernel_rfl

noncomputable def s_l01In (x : Ty.T (.pair (.int .i64) TCrc)) : Option (Ty.T (.pair .bool .unit)) :=
match (decide (x.1 ≥ x.2.1)) with
| true =>
 some ((decide (x.1 ≤ x.2.2.1)), ())
| false =>
 some (false, ())
noncomputable def S_s_l01In : Spec := ⟨(.pair (.int .i64) TCrc), (.pair .bool .unit), .unit, rfl, s_l01In⟩
noncomputable def σ_s_l01In : FuncId → Option Spec := sig []
theorem σok_s_l01In : ∀ f s, σ_s_l01In f = some s → FnOK G0 Tryz.prog f s := sig_ok trivial
theorem ok_s_l01In : FnOK G0 Tryz.prog 87 S_s_l01In := fn_okS tab0 σok_s_l01In Tryz.func87 [] (by kernel_rfl) (by exact trivial) fun x => by kernel_rfl

noncomputable def s_l05Node (x : Ty.T (.pair (.int .i64) .unit)) : Option (Ty.T (.pair .bool .unit)) :=
match s_l01In (x.1, (0 : Int), (31 : Int), ()) with
| none => none
| some v1 =>
some (v1.1, ())
noncomputable def S_s_l05Node : Spec := ⟨(.pair (.int .i64) .unit), (.pair .bool .unit), .unit, rfl, s_l05Node⟩
noncomputable def σ_s_l05Node : FuncId → Option Spec := sig [(87, S_s_l01In)]
theorem σok_s_l05Node : ∀ f s, σ_s_l05Node f = some s → FnOK G0 Tryz.prog f s := sig_ok ⟨ok_s_l01In, trivial⟩
theorem ok_s_l05Node : FnOK G0 Tryz.prog 131 S_s_l05Node := fn_okS tab0 σok_s_l05Node Tryz.func131 [] (by kernel_rfl) (by exact trivial) fun x => by kernel_rfl

noncomputable def b_s_l10Name_2 (x : (Ty.T (.pair .str (.pair (.int .i64) .unit)))) : Option ((Ty.T (.pair .str (.pair (.int .i64) .unit))) ⊕ ((Ty.T (.pair .str .unit)) ⊕ (Ty.T (.pair .bool .unit)))) :=
match (decide (x.2.1 < (x.1.length : Int))) with
| true =>
 onSome (idx x.1 x.2.1) fun v1 =>
 match (decide ((v1.toNat : Int) < (97 : Int))) with
 | true =>
  onSome (idx x.1 x.2.1) fun v2 =>
  match (decide ((v2.toNat : Int) < (48 : Int))) with
  | true =>
   some (.inr (.inr (false, ())))
  | false =>
   onSome (idx x.1 x.2.1) fun v3 =>
   match (decide ((v3.toNat : Int) > (57 : Int))) with
   | true =>
    some (.inr (.inr (false, ())))
   | false =>
    some (.inl (x.1, (IntKind.i64.wrap (x.2.1 + (1 : Int))), ()))
 | false =>
  onSome (idx x.1 x.2.1) fun v4 =>
  match (decide ((v4.toNat : Int) > (122 : Int))) with
  | true =>
   onSome (idx x.1 x.2.1) fun v5 =>
   match (decide ((v5.toNat : Int) < (48 : Int))) with
   | true =>
    some (.inr (.inr (false, ())))
   | false =>
    onSome (idx x.1 x.2.1) fun v6 =>
    match (decide ((v6.toNat : Int) > (57 : Int))) with
    | true =>
     some (.inr (.inr (false, ())))
    | false =>
     some (.inl (x.1, (IntKind.i64.wrap (x.2.1 + (1 : Int))), ()))
  | false =>
   some (.inl (x.1, (IntKind.i64.wrap (x.2.1 + (1 : Int))), ()))
| false =>
 some (.inr (.inl (x.1, ())))
noncomputable def s_l10Name (x : Ty.T (.pair .str .unit)) : Option (Ty.T (.pair .bool .unit)) :=
match loopL b_s_l10Name_2 (x.1, (0 : Int), ()) with
| none => none
| some (.inl v7) =>
 match (decide ((v7.1.length : Int) ≥ (1 : Int))) with
 | true =>
  some ((decide ((v7.1.length : Int) ≤ (6 : Int))), ())
 | false =>
  some (false, ())
| some (.inr v8) =>
 some (v8.1, ())
noncomputable def S_s_l10Name : Spec := ⟨(.pair .str .unit), (.pair .bool .unit), .unit, rfl, s_l10Name⟩
noncomputable def σ_s_l10Name : FuncId → Option Spec := sig []
theorem σok_s_l10Name : ∀ f s, σ_s_l10Name f = some s → FnOK G0 Tryz.prog f s := sig_ok trivial
def q_s_l10Name_2 : LRow := ⟨[0, 3], (.pair .str (.pair (.int .i64) .unit)), 0, [0], (.pair .str .unit), [2], (.pair .bool .unit)⟩
noncomputable def ls_s_l10Name : List LSpec := [q_s_l10Name_2.spec b_s_l10Name_2]
theorem lok_s_l10Name_2 : Lok Γ0 E0 σ_s_l10Name (lam Tryz.f198 ls_s_l10Name) Tryz.f198 0 q_s_l10Name_2 b_s_l10Name_2 := fun x => by kernel_rfl
theorem ok_s_l10Name : FnOK G0 Tryz.prog 198 S_s_l10Name := fn_okS tab0 σok_s_l10Name Tryz.func198 ls_s_l10Name (by kernel_rfl) (by exact ⟨(lok_s_l10Name_2).lok, trivial⟩) fun x => by kernel_rfl

noncomputable def s_IsNodeInfo (x : Ty.T (.pair TNodeInfo .unit)) : Option (Ty.T (.pair .bool .unit)) :=
match s_l05Node (x.1.1, ()) with
| none => none
| some v1 =>
match v1.1 with
| true =>
 match s_l10Name (x.1.2.1, ()) with
 | none => none
 | some v2 =>
 match v2.1 with
 | true =>
  match s_l01In (x.1.2.2.1, (0 : Int), (1000 : Int), ()) with
  | none => none
  | some v3 =>
  some (v3.1, ())
 | false =>
  some (false, ())
| false =>
 some (false, ())
noncomputable def S_s_IsNodeInfo : Spec := ⟨(.pair TNodeInfo .unit), (.pair .bool .unit), .unit, rfl, s_IsNodeInfo⟩
noncomputable def σ_s_IsNodeInfo : FuncId → Option Spec := sig [(87, S_s_l01In), (131, S_s_l05Node), (198, S_s_l10Name)]
theorem σok_s_IsNodeInfo : ∀ f s, σ_s_IsNodeInfo f = some s → FnOK G0 Tryz.prog f s := sig_ok ⟨ok_s_l01In, ok_s_l05Node, ok_s_l10Name, trivial⟩
theorem ok_s_IsNodeInfo : FnOK G0 Tryz.prog 164 S_s_IsNodeInfo := fn_okS tab0 σok_s_IsNodeInfo Tryz.func164 [] (by kernel_rfl) (by exact trivial) fun x => by kernel_rfl

noncomputable def b_s_IsNodeTable_9 (x : (Ty.T (.pair (.list TNodeInfo) TCrc))) : Option ((Ty.T (.pair (.list TNodeInfo) TCrc)) ⊕ ((Ty.T (.pair (.list TNodeInfo) (.pair (.int .i64) .unit))) ⊕ (Ty.T (.pair .bool .unit)))) :=
match (decide (x.2.2.1 < x.2.1)) with
| true =>
 onSome (idx x.1 x.2.2.1) fun v6 =>
 onSome (idx x.1 x.2.1) fun v7 =>
 match (v6.2.1 == v7.2.1) with
 | true =>
  some (.inr (.inr (false, ())))
 | false =>
  some (.inl (x.1, x.2.1, (IntKind.i64.wrap (x.2.2.1 + (1 : Int))), ()))
| false =>
 some (.inr (.inl (x.1, x.2.1, ())))
noncomputable def b_s_IsNodeTable_4 (x : (Ty.T (.pair (.list TNodeInfo) (.pair (.int .i64) .unit)))) : Option ((Ty.T (.pair (.list TNodeInfo) (.pair (.int .i64) .unit))) ⊕ ((Ty.T .unit) ⊕ (Ty.T (.pair .bool .unit)))) :=
match (decide (x.2.1 < (x.1.length : Int))) with
| true =>
 onSome (idx x.1 x.2.1) fun v2 =>
 match s_IsNodeInfo (v2, ()) with
 | none => none
 | some v3 =>
 match (!v3.1) with
 | true =>
  some (.inr (.inr (false, ())))
 | false =>
  match (decide (x.2.1 > (0 : Int))) with
  | true =>
   onSome (idx x.1 x.2.1) fun v4 =>
   onSome (idx x.1 (IntKind.i64.wrap (x.2.1 - (1 : Int)))) fun v5 =>
   match (decide (v4.1 ≤ v5.1)) with
   | true =>
    some (.inr (.inr (false, ())))
   | false =>
    match loopL b_s_IsNodeTable_9 (x.1, x.2.1, (0 : Int), ()) with
    | none => none
    | some (.inl v6) =>
     some (.inl (v6.1, (IntKind.i64.wrap (v6.2.1 + (1 : Int))), ()))
    | some (.inr v7) =>
     some (.inr (.inr (v7.1, ())))
  | false =>
   match loopL b_s_IsNodeTable_9 (x.1, x.2.1, (0 : Int), ()) with
   | none => none
   | some (.inl v8) =>
    some (.inl (v8.1, (IntKind.i64.wrap (v8.2.1 + (1 : Int))), ()))
   | some (.inr v9) =>
    some (.inr (.inr (v9.1, ())))
| false =>
 some (.inr (.inl (())))
noncomputable def s_IsNodeTable (x : Ty.T (.pair (.list TNodeInfo) .unit)) : Option (Ty.T (.pair .bool .unit)) :=
match s_l01In ((x.1.length : Int), (1 : Int), (32 : Int), ()) with
| none => none
| some v1 =>
match (!v1.1) with
| true =>
 some (false, ())
| false =>
 match loopL b_s_IsNodeTable_4 (x.1, (0 : Int), ()) with
 | none => none
 | some (.inl v10) =>
  some (true, ())
 | some (.inr v11) =>
  some (v11.1, ())
noncomputable def S_s_IsNodeTable : Spec := ⟨(.pair (.list TNodeInfo) .unit), (.pair .bool .unit), .unit, rfl, s_IsNodeTable⟩
noncomputable def σ_s_IsNodeTable : FuncId → Option Spec := sig [(87, S_s_l01In), (164, S_s_IsNodeInfo)]
theorem σok_s_IsNodeTable : ∀ f s, σ_s_IsNodeTable f = some s → FnOK G0 Tryz.prog f s := sig_ok ⟨ok_s_l01In, ok_s_IsNodeInfo, trivial⟩
def q_s_IsNodeTable_4 : LRow := ⟨[0, 3], (.pair (.list TNodeInfo) (.pair (.int .i64) .unit)), 0, [], .unit, [2], (.pair .bool .unit)⟩
def q_s_IsNodeTable_9 : LRow := ⟨[0, 3, 4], (.pair (.list TNodeInfo) TCrc), 2, [0, 3], (.pair (.list TNodeInfo) (.pair (.int .i64) .unit)), [2], (.pair .bool .unit)⟩
noncomputable def ls_s_IsNodeTable : List LSpec := [q_s_IsNodeTable_4.spec b_s_IsNodeTable_4, q_s_IsNodeTable_9.spec b_s_IsNodeTable_9]
theorem lok_s_IsNodeTable_4 : Lok Γ0 E0 σ_s_IsNodeTable (lam Tryz.f112 ls_s_IsNodeTable) Tryz.f112 0 q_s_IsNodeTable_4 b_s_IsNodeTable_4 := fun x => by kernel_rfl
theorem lok_s_IsNodeTable_9 : Lok Γ0 E0 σ_s_IsNodeTable (lam Tryz.f112 ls_s_IsNodeTable) Tryz.f112 1 q_s_IsNodeTable_9 b_s_IsNodeTable_9 := fun x => by kernel_rfl
theorem ok_s_IsNodeTable : FnOK G0 Tryz.prog 112 S_s_IsNodeTable := fn_okS tab0 σok_s_IsNodeTable Tryz.func112 ls_s_IsNodeTable (by kernel_rfl) (by exact ⟨(lok_s_IsNodeTable_4).lok, (lok_s_IsNodeTable_9).lok, trivial⟩) fun x => by kernel_rfl

noncomputable def b_s_l01Rises_2 (x : (Ty.T (.pair (.list (.int .i64)) TCrc))) : Option ((Ty.T (.pair (.list (.int .i64)) TCrc)) ⊕ ((Ty.T .unit) ⊕ (Ty.T (.pair .bool .unit)))) :=
match (decide (x.2.2.1 < (x.1.length : Int))) with
| true =>
 onSome (idx x.1 x.2.2.1) fun v1 =>
 match s_l01In (v1, (0 : Int), (IntKind.i64.wrap (x.2.1 - (1 : Int))), ()) with
 | none => none
 | some v2 =>
 match (!v2.1) with
 | true =>
  some (.inr (.inr (false, ())))
 | false =>
  match (decide (x.2.2.1 > (0 : Int))) with
  | true =>
   onSome (idx x.1 x.2.2.1) fun v3 =>
   onSome (idx x.1 (IntKind.i64.wrap (x.2.2.1 - (1 : Int)))) fun v4 =>
   match (decide (v3 ≤ v4)) with
   | true =>
    some (.inr (.inr (false, ())))
   | false =>
    some (.inl (x.1, x.2.1, (IntKind.i64.wrap (x.2.2.1 + (1 : Int))), ()))
  | false =>
   some (.inl (x.1, x.2.1, (IntKind.i64.wrap (x.2.2.1 + (1 : Int))), ()))
| false =>
 some (.inr (.inl (())))
noncomputable def s_l01Rises (x : Ty.T (.pair (.list (.int .i64)) (.pair (.int .i64) .unit))) : Option (Ty.T (.pair .bool .unit)) :=
match loopL b_s_l01Rises_2 (x.1, x.2.1, (0 : Int), ()) with
| none => none
| some (.inl v5) =>
 some (true, ())
| some (.inr v6) =>
 some (v6.1, ())
noncomputable def S_s_l01Rises : Spec := ⟨(.pair (.list (.int .i64)) (.pair (.int .i64) .unit)), (.pair .bool .unit), .unit, rfl, s_l01Rises⟩
noncomputable def σ_s_l01Rises : FuncId → Option Spec := sig [(87, S_s_l01In)]
theorem σok_s_l01Rises : ∀ f s, σ_s_l01Rises f = some s → FnOK G0 Tryz.prog f s := sig_ok ⟨ok_s_l01In, trivial⟩
def q_s_l01Rises_2 : LRow := ⟨[0, 1, 5], (.pair (.list (.int .i64)) TCrc), 0, [], .unit, [4], (.pair .bool .unit)⟩
noncomputable def ls_s_l01Rises : List LSpec := [q_s_l01Rises_2.spec b_s_l01Rises_2]
theorem lok_s_l01Rises_2 : Lok Γ0 E0 σ_s_l01Rises (lam Tryz.f165 ls_s_l01Rises) Tryz.f165 0 q_s_l01Rises_2 b_s_l01Rises_2 := fun x => by kernel_rfl
theorem ok_s_l01Rises : FnOK G0 Tryz.prog 165 S_s_l01Rises := fn_okS tab0 σok_s_l01Rises Tryz.func165 ls_s_l01Rises (by kernel_rfl) (by exact ⟨(lok_s_l01Rises_2).lok, trivial⟩) fun x => by kernel_rfl

noncomputable def b_s_l01Has_2 (x : (Ty.T (.pair (.list (.int .i64)) TCrc))) : Option ((Ty.T (.pair (.list (.int .i64)) TCrc)) ⊕ ((Ty.T .unit) ⊕ (Ty.T (.pair .bool .unit)))) :=
match (decide (x.2.2.1 < (x.1.length : Int))) with
| true =>
 onSome (idx x.1 x.2.2.1) fun v1 =>
 match (v1 == x.2.1) with
 | true =>
  some (.inr (.inr (true, ())))
 | false =>
  some (.inl (x.1, x.2.1, (IntKind.i64.wrap (x.2.2.1 + (1 : Int))), ()))
| false =>
 some (.inr (.inl (())))
noncomputable def s_l01Has (x : Ty.T (.pair (.list (.int .i64)) (.pair (.int .i64) .unit))) : Option (Ty.T (.pair .bool .unit)) :=
match loopL b_s_l01Has_2 (x.1, x.2.1, (0 : Int), ()) with
| none => none
| some (.inl v2) =>
 some (false, ())
| some (.inr v3) =>
 some (v3.1, ())
noncomputable def S_s_l01Has : Spec := ⟨(.pair (.list (.int .i64)) (.pair (.int .i64) .unit)), (.pair .bool .unit), .unit, rfl, s_l01Has⟩
noncomputable def σ_s_l01Has : FuncId → Option Spec := sig []
theorem σok_s_l01Has : ∀ f s, σ_s_l01Has f = some s → FnOK G0 Tryz.prog f s := sig_ok trivial
def q_s_l01Has_2 : LRow := ⟨[0, 1, 5], (.pair (.list (.int .i64)) TCrc), 0, [], .unit, [4], (.pair .bool .unit)⟩
noncomputable def ls_s_l01Has : List LSpec := [q_s_l01Has_2.spec b_s_l01Has_2]
theorem lok_s_l01Has_2 : Lok Γ0 E0 σ_s_l01Has (lam Tryz.f166 ls_s_l01Has) Tryz.f166 0 q_s_l01Has_2 b_s_l01Has_2 := fun x => by kernel_rfl
theorem ok_s_l01Has : FnOK G0 Tryz.prog 166 S_s_l01Has := fn_okS tab0 σok_s_l01Has Tryz.func166 ls_s_l01Has (by kernel_rfl) (by exact ⟨(lok_s_l01Has_2).lok, trivial⟩) fun x => by kernel_rfl

noncomputable def b_s_IsModeTable_4 (x : (Ty.T (.pair (.list TModeInfo) (.pair (.int .i64) .unit)))) : Option ((Ty.T (.pair (.list TModeInfo) (.pair (.int .i64) .unit))) ⊕ ((Ty.T .unit) ⊕ (Ty.T (.pair .bool .unit)))) :=
match (decide (x.2.1 < (x.1.length : Int))) with
| true =>
 onSome (idx x.1 x.2.1) fun v2 =>
 match s_l01In (v2.1, (1 : Int), (8 : Int), ()) with
 | none => none
 | some v3 =>
 match (!v3.1) with
 | true =>
  some (.inr (.inr (false, ())))
 | false =>
  match s_l01In (v2.2.1, (1 : Int), (16 : Int), ()) with
  | none => none
  | some v4 =>
  match (!v4.1) with
  | true =>
   some (.inr (.inr (false, ())))
  | false =>
   match s_l01Rises (v2.2.2.1, (x.1.length : Int), ()) with
   | none => none
   | some v5 =>
   match (!v5.1) with
   | true =>
    some (.inr (.inr (false, ())))
   | false =>
    match s_l01Has (v2.2.2.1, x.2.1, ()) with
    | none => none
    | some v6 =>
    match v6.1 with
    | true =>
     some (.inr (.inr (false, ())))
    | false =>
     some (.inl (x.1, (IntKind.i64.wrap (x.2.1 + (1 : Int))), ()))
| false =>
 some (.inr (.inl (())))
noncomputable def s_IsModeTable (x : Ty.T (.pair (.list TModeInfo) .unit)) : Option (Ty.T (.pair .bool .unit)) :=
match s_l01In ((x.1.length : Int), (1 : Int), (16 : Int), ()) with
| none => none
| some v1 =>
match (!v1.1) with
| true =>
 some (false, ())
| false =>
 match loopL b_s_IsModeTable_4 (x.1, (0 : Int), ()) with
 | none => none
 | some (.inl v7) =>
  some (true, ())
 | some (.inr v8) =>
  some (v8.1, ())
noncomputable def S_s_IsModeTable : Spec := ⟨(.pair (.list TModeInfo) .unit), (.pair .bool .unit), .unit, rfl, s_IsModeTable⟩
noncomputable def σ_s_IsModeTable : FuncId → Option Spec := sig [(87, S_s_l01In), (165, S_s_l01Rises), (166, S_s_l01Has)]
theorem σok_s_IsModeTable : ∀ f s, σ_s_IsModeTable f = some s → FnOK G0 Tryz.prog f s := sig_ok ⟨ok_s_l01In, ok_s_l01Rises, ok_s_l01Has, trivial⟩
def q_s_IsModeTable_4 : LRow := ⟨[0, 3], (.pair (.list TModeInfo) (.pair (.int .i64) .unit)), 0, [], .unit, [2], (.pair .bool .unit)⟩
noncomputable def ls_s_IsModeTable : List LSpec := [q_s_IsModeTable_4.spec b_s_IsModeTable_4]
theorem lok_s_IsModeTable_4 : Lok Γ0 E0 σ_s_IsModeTable (lam Tryz.f113 ls_s_IsModeTable) Tryz.f113 0 q_s_IsModeTable_4 b_s_IsModeTable_4 := fun x => by kernel_rfl
theorem ok_s_IsModeTable : FnOK G0 Tryz.prog 113 S_s_IsModeTable := fn_okS tab0 σok_s_IsModeTable Tryz.func113 ls_s_IsModeTable (by kernel_rfl) (by exact ⟨(lok_s_IsModeTable_4).lok, trivial⟩) fun x => by kernel_rfl

noncomputable def s_l06Kind (x : Ty.T (.pair (.int .i64) .unit)) : Option (Ty.T (.pair .bool .unit)) :=
match s_l01In (x.1, (0 : Int), (3 : Int), ()) with
| none => none
| some v1 =>
some (v1.1, ())
noncomputable def S_s_l06Kind : Spec := ⟨(.pair (.int .i64) .unit), (.pair .bool .unit), .unit, rfl, s_l06Kind⟩
noncomputable def σ_s_l06Kind : FuncId → Option Spec := sig [(87, S_s_l01In)]
theorem σok_s_l06Kind : ∀ f s, σ_s_l06Kind f = some s → FnOK G0 Tryz.prog f s := sig_ok ⟨ok_s_l01In, trivial⟩
theorem ok_s_l06Kind : FnOK G0 Tryz.prog 132 S_s_l06Kind := fn_okS tab0 σok_s_l06Kind Tryz.func132 [] (by kernel_rfl) (by exact trivial) fun x => by kernel_rfl

noncomputable def s_l06Size (x : Ty.T TCrc) : Option (Ty.T (.pair .bool .unit)) :=
match (x.1 == (0 : Int)) with
| true =>
 match s_l01In (x.2.1, (0 : Int), (32 : Int), ()) with
 | none => none
 | some v1 =>
 some (v1.1, ())
| false =>
 match (x.1 == (2 : Int)) with
 | true =>
  match s_l01In (x.2.1, (1 : Int), (32 : Int), ()) with
  | none => none
  | some v2 =>
  some (v2.1, ())
 | false =>
  some ((x.2.1 == (0 : Int)), ())
noncomputable def S_s_l06Size : Spec := ⟨TCrc, (.pair .bool .unit), .unit, rfl, s_l06Size⟩
noncomputable def σ_s_l06Size : FuncId → Option Spec := sig [(87, S_s_l01In)]
theorem σok_s_l06Size : ∀ f s, σ_s_l06Size f = some s → FnOK G0 Tryz.prog f s := sig_ok ⟨ok_s_l01In, trivial⟩
theorem ok_s_l06Size : FnOK G0 Tryz.prog 133 S_s_l06Size := fn_okS tab0 σok_s_l06Size Tryz.func133 [] (by kernel_rfl) (by exact trivial) fun x => by kernel_rfl

noncomputable def s_l06State (x : Ty.T (.pair (.int .i64) .unit)) : Option (Ty.T (.pair .bool .unit)) :=
some ((x.1 != (0 : Int)), ())
noncomputable def S_s_l06State : Spec := ⟨(.pair (.int .i64) .unit), (.pair .bool .unit), .unit, rfl, s_l06State⟩
noncomputable def σ_s_l06State : FuncId → Option Spec := sig []
theorem σok_s_l06State : ∀ f s, σ_s_l06State f = some s → FnOK G0 Tryz.prog f s := sig_ok trivial
theorem ok_s_l06State : FnOK G0 Tryz.prog 93 S_s_l06State := fn_okS tab0 σok_s_l06State Tryz.func93 [] (by kernel_rfl) (by exact trivial) fun x => by kernel_rfl

noncomputable def s_l06Data (x : Ty.T (.pair (.int .i64) .unit)) : Option (Ty.T (.pair .bool .unit)) :=
match (x.1 == (0 : Int)) with
| true =>
 some (true, ())
| false =>
 some ((x.1 == (2 : Int)), ())
noncomputable def S_s_l06Data : Spec := ⟨(.pair (.int .i64) .unit), (.pair .bool .unit), .unit, rfl, s_l06Data⟩
noncomputable def σ_s_l06Data : FuncId → Option Spec := sig []
theorem σok_s_l06Data : ∀ f s, σ_s_l06Data f = some s → FnOK G0 Tryz.prog f s := sig_ok trivial
theorem ok_s_l06Data : FnOK G0 Tryz.prog 128 S_s_l06Data := fn_okS tab0 σok_s_l06Data Tryz.func128 [] (by kernel_rfl) (by exact trivial) fun x => by kernel_rfl

noncomputable def s_l06BodySize (x : Ty.T TCrc) : Option (Ty.T (.pair (.int .i64) .unit)) :=
match s_l06State (x.1, ()) with
| none => none
| some v1 =>
match v1.1 with
| true =>
 match s_l06Data (x.1, ()) with
 | none => none
 | some v2 =>
 match v2.1 with
 | true =>
  some ((IntKind.i64.wrap ((IntKind.i64.wrap ((IntKind.i64.wrap ((1 : Int) + (8 : Int))) + (1 : Int))) + x.2.1)), ())
 | false =>
  some ((IntKind.i64.wrap ((1 : Int) + (8 : Int))), ())
| false =>
 match s_l06Data (x.1, ()) with
 | none => none
 | some v3 =>
 match v3.1 with
 | true =>
  some ((IntKind.i64.wrap ((IntKind.i64.wrap ((1 : Int) + (1 : Int))) + x.2.1)), ())
 | false =>
  some ((1 : Int), ())
noncomputable def S_s_l06BodySize : Spec := ⟨TCrc, (.pair (.int .i64) .unit), .unit, rfl, s_l06BodySize⟩
noncomputable def σ_s_l06BodySize : FuncId → Option Spec := sig [(93, S_s_l06State), (128, S_s_l06Data)]
theorem σok_s_l06BodySize : ∀ f s, σ_s_l06BodySize f = some s → FnOK G0 Tryz.prog f s := sig_ok ⟨ok_s_l06State, ok_s_l06Data, trivial⟩
theorem ok_s_l06BodySize : FnOK G0 Tryz.prog 178 S_s_l06BodySize := fn_okS tab0 σok_s_l06BodySize Tryz.func178 [] (by kernel_rfl) (by exact trivial) fun x => by kernel_rfl

noncomputable def s_l08Cells (x : Ty.T TCrc) : Option (Ty.T (.pair (.int .i64) .unit)) :=
match s_l06BodySize (x.1, x.2.1, ()) with
| none => none
| some v1 =>
some ((IntKind.i64.wrap ((11 : Int) + (IntKind.i64.wrap ((10 : Int) * (IntKind.i64.wrap (v1.1 + (3 : Int))))))), ())
noncomputable def S_s_l08Cells : Spec := ⟨TCrc, (.pair (.int .i64) .unit), .unit, rfl, s_l08Cells⟩
noncomputable def σ_s_l08Cells : FuncId → Option Spec := sig [(178, S_s_l06BodySize)]
theorem σok_s_l08Cells : ∀ f s, σ_s_l08Cells f = some s → FnOK G0 Tryz.prog f s := sig_ok ⟨ok_s_l06BodySize, trivial⟩
theorem ok_s_l08Cells : FnOK G0 Tryz.prog 134 S_s_l08Cells := fn_okS tab0 σok_s_l08Cells Tryz.func134 [] (by kernel_rfl) (by exact trivial) fun x => by kernel_rfl

noncomputable def s_IsDescriptor (x : Ty.T (.pair TDescriptor .unit)) : Option (Ty.T (.pair .bool .unit)) :=
match s_l05Node (x.1.1, ()) with
| none => none
| some v1 =>
match (!v1.1) with
| true =>
 some (false, ())
| false =>
 match s_l06Kind (x.1.2.1, ()) with
 | none => none
 | some v2 =>
 match (!v2.1) with
 | true =>
  some (false, ())
 | false =>
  match s_l06Size (x.1.2.1, x.1.2.2.1, ()) with
  | none => none
  | some v3 =>
  match (!v3.1) with
  | true =>
   some (false, ())
  | false =>
   match (x.1.2.1 == (3 : Int)) with
   | true =>
    match x.1.2.2.2.2.1 with
    | true =>
     some (false, ())
    | false =>
     match s_l08Cells (x.1.2.1, x.1.2.2.1, ()) with
     | none => none
     | some v4 =>
     match s_l01In (x.1.2.2.2.1, (IntKind.i64.wrap (v4.1 + (20 : Int))), (1000 : Int), ()) with
     | none => none
     | some v5 =>
     some (v5.1, ())
   | false =>
    match s_l08Cells (x.1.2.1, x.1.2.2.1, ()) with
    | none => none
    | some v6 =>
    match s_l01In (x.1.2.2.2.1, (IntKind.i64.wrap (v6.1 + (20 : Int))), (1000 : Int), ()) with
    | none => none
    | some v7 =>
    some (v7.1, ())
noncomputable def S_s_IsDescriptor : Spec := ⟨(.pair TDescriptor .unit), (.pair .bool .unit), .unit, rfl, s_IsDescriptor⟩
noncomputable def σ_s_IsDescriptor : FuncId → Option Spec := sig [(87, S_s_l01In), (131, S_s_l05Node), (132, S_s_l06Kind), (133, S_s_l06Size), (134, S_s_l08Cells)]
theorem σok_s_IsDescriptor : ∀ f s, σ_s_IsDescriptor f = some s → FnOK G0 Tryz.prog f s := sig_ok ⟨ok_s_l01In, ok_s_l05Node, ok_s_l06Kind, ok_s_l06Size, ok_s_l08Cells, trivial⟩
theorem ok_s_IsDescriptor : FnOK G0 Tryz.prog 94 S_s_IsDescriptor := fn_okS tab0 σok_s_IsDescriptor Tryz.func94 [] (by kernel_rfl) (by exact trivial) fun x => by kernel_rfl

noncomputable def s_l12Is (x : Ty.T (.pair TSlotInfo .unit)) : Option (Ty.T (.pair .bool .unit)) :=
match s_l01In (x.1.1, (0 : Int), (15 : Int), ()) with
| none => none
| some v1 =>
match v1.1 with
| true =>
 match s_l01In (x.1.2.1, (0 : Int), (7 : Int), ()) with
 | none => none
 | some v2 =>
 match v2.1 with
 | true =>
  match s_l01In (x.1.2.2.1, (0 : Int), (15 : Int), ()) with
  | none => none
  | some v3 =>
  match v3.1 with
  | true =>
   match s_IsDescriptor ((x.1.2.2.2.1.1, x.1.2.2.2.1.2.1, x.1.2.2.2.1.2.2.1, x.1.2.2.2.1.2.2.2.1, x.1.2.2.2.1.2.2.2.2.1, ()), ()) with
   | none => none
   | some v4 =>
   some (v4.1, ())
  | false =>
   some (false, ())
 | false =>
  some (false, ())
| false =>
 some (false, ())
noncomputable def S_s_l12Is : Spec := ⟨(.pair TSlotInfo .unit), (.pair .bool .unit), .unit, rfl, s_l12Is⟩
noncomputable def σ_s_l12Is : FuncId → Option Spec := sig [(87, S_s_l01In), (94, S_s_IsDescriptor)]
theorem σok_s_l12Is : ∀ f s, σ_s_l12Is f = some s → FnOK G0 Tryz.prog f s := sig_ok ⟨ok_s_l01In, ok_s_IsDescriptor, trivial⟩
theorem ok_s_l12Is : FnOK G0 Tryz.prog 167 S_s_l12Is := fn_okS tab0 σok_s_l12Is Tryz.func167 [] (by kernel_rfl) (by exact trivial) fun x => by kernel_rfl

noncomputable def b_s_CompareSlots_3 (x : (Ty.T (.pair (.own 2 (.int .i64)) (.pair (.own 2 (.int .i64)) (.pair (.int .i64) .unit))))) : Option ((Ty.T (.pair (.own 2 (.int .i64)) (.pair (.own 2 (.int .i64)) (.pair (.int .i64) .unit)))) ⊕ ((Ty.T .unit) ⊕ (Ty.T (.pair (.int .i64) .unit)))) :=
match (decide (x.2.2.1 < (3 : Int))) with
| true =>
 onSome (idx x.1 x.2.2.1) fun _ =>
 match x.1[x.2.2.1.toNat]? with
 | none => none
 | some v2 =>
 onSome (idx x.2.1 x.2.2.1) fun _ =>
 match x.2.1[x.2.2.1.toNat]? with
 | none => none
 | some v4 =>
 match (decide (v2 < v4)) with
 | true =>
  some (.inr (.inr ((-1 : Int), ())))
 | false =>
  onSome (idx x.1 x.2.2.1) fun _ =>
  match x.1[x.2.2.1.toNat]? with
  | none => none
  | some v6 =>
  onSome (idx x.2.1 x.2.2.1) fun _ =>
  match x.2.1[x.2.2.1.toNat]? with
  | none => none
  | some v8 =>
  match (decide (v6 > v8)) with
  | true =>
   some (.inr (.inr ((1 : Int), ())))
  | false =>
   some (.inl (x.1, x.2.1, (IntKind.i64.wrap (x.2.2.1 + (1 : Int))), ()))
| false =>
 some (.inr (.inl (())))
noncomputable def s_CompareSlots (x : Ty.T (.pair TSlotInfo (.pair TSlotInfo .unit))) : Option (Ty.T (.pair (.int .i64) .unit)) :=
both (
 match loopL b_s_CompareSlots_3 ([x.1.1, x.1.2.1, x.1.2.2.1], [x.2.1.1, x.2.1.2.1, x.2.1.2.2.1], (0 : Int), ()) with
 | none => none
 | some (.inl v9) =>
  some ((0 : Int), ())
 | some (.inr v10) =>
  some (v10.1, ())) (
 match loopL b_s_CompareSlots_3 ([x.1.1, x.1.2.1, x.1.2.2.1], [x.2.1.1, x.2.1.2.1, x.2.1.2.2.1], (0 : Int), ()) with
 | none => none
 | some (.inl v1) =>
  some ((0 : Int), ())
 | some (.inr v2) =>
  some (v2.1, ()))
noncomputable def S_s_CompareSlots : Spec := ⟨(.pair TSlotInfo (.pair TSlotInfo .unit)), (.pair (.int .i64) .unit), .unit, rfl, s_CompareSlots⟩
noncomputable def σ_s_CompareSlots : FuncId → Option Spec := sig []
theorem σok_s_CompareSlots : ∀ f s, σ_s_CompareSlots f = some s → FnOK G0 Tryz.prog f s := sig_ok trivial
def q_s_CompareSlots_3 : LRow := ⟨[5, 6, 7], (.pair (.own 2 (.int .i64)) (.pair (.own 2 (.int .i64)) (.pair (.int .i64) .unit))), 0, [], .unit, [4], (.pair (.int .i64) .unit)⟩
noncomputable def ls_s_CompareSlots : List LSpec := [q_s_CompareSlots_3.spec b_s_CompareSlots_3]
theorem lok_s_CompareSlots_3 : Lok Γ0 E0 σ_s_CompareSlots (lam Tryz.f168 ls_s_CompareSlots) Tryz.f168 0 q_s_CompareSlots_3 b_s_CompareSlots_3 := fun x => by kernel_rfl
theorem ok_s_CompareSlots : FnOK G0 Tryz.prog 168 S_s_CompareSlots := fn_okS tab0 σok_s_CompareSlots Tryz.func168 ls_s_CompareSlots (by kernel_rfl) (by exact ⟨(lok_s_CompareSlots_3).lok, trivial⟩) fun x => by kernel_rfl

noncomputable def b_s_IsSlotTable_4 (x : (Ty.T (.pair (.list TSlotInfo) (.pair (.int .i64) .unit)))) : Option ((Ty.T (.pair (.list TSlotInfo) (.pair (.int .i64) .unit))) ⊕ ((Ty.T .unit) ⊕ (Ty.T (.pair .bool .unit)))) :=
match (decide (x.2.1 < (x.1.length : Int))) with
| true =>
 onSome (idx x.1 x.2.1) fun v1 =>
 match s_l12Is (v1, ()) with
 | none => none
 | some v2 =>
 match (!v2.1) with
 | true =>
  some (.inr (.inr (false, ())))
 | false =>
  match (decide (x.2.1 > (0 : Int))) with
  | true =>
   onSome (idx x.1 (IntKind.i64.wrap (x.2.1 - (1 : Int)))) fun v3 =>
   onSome (idx x.1 x.2.1) fun v4 =>
   match s_CompareSlots (v3, v4, ()) with
   | none => none
   | some v5 =>
   match (decide (v5.1 ≥ (0 : Int))) with
   | true =>
    some (.inr (.inr (false, ())))
   | false =>
    some (.inl (x.1, (IntKind.i64.wrap (x.2.1 + (1 : Int))), ()))
  | false =>
   some (.inl (x.1, (IntKind.i64.wrap (x.2.1 + (1 : Int))), ()))
| false =>
 some (.inr (.inl (())))
noncomputable def s_IsSlotTable (x : Ty.T (.pair (.list TSlotInfo) .unit)) : Option (Ty.T (.pair .bool .unit)) :=
match (decide ((x.1.length : Int) > (120 : Int))) with
| true =>
 some (false, ())
| false =>
 match loopL b_s_IsSlotTable_4 (x.1, (0 : Int), ()) with
 | none => none
 | some (.inl v6) =>
  some (true, ())
 | some (.inr v7) =>
  some (v7.1, ())
noncomputable def S_s_IsSlotTable : Spec := ⟨(.pair (.list TSlotInfo) .unit), (.pair .bool .unit), .unit, rfl, s_IsSlotTable⟩
noncomputable def σ_s_IsSlotTable : FuncId → Option Spec := sig [(167, S_s_l12Is), (168, S_s_CompareSlots)]
theorem σok_s_IsSlotTable : ∀ f s, σ_s_IsSlotTable f = some s → FnOK G0 Tryz.prog f s := sig_ok ⟨ok_s_l12Is, ok_s_CompareSlots, trivial⟩
def q_s_IsSlotTable_4 : LRow := ⟨[0, 3], (.pair (.list TSlotInfo) (.pair (.int .i64) .unit)), 0, [], .unit, [2], (.pair .bool .unit)⟩
noncomputable def ls_s_IsSlotTable : List LSpec := [q_s_IsSlotTable_4.spec b_s_IsSlotTable_4]
theorem lok_s_IsSlotTable_4 : Lok Γ0 E0 σ_s_IsSlotTable (lam Tryz.f114 ls_s_IsSlotTable) Tryz.f114 0 q_s_IsSlotTable_4 b_s_IsSlotTable_4 := fun x => by kernel_rfl
theorem ok_s_IsSlotTable : FnOK G0 Tryz.prog 114 S_s_IsSlotTable := fn_okS tab0 σok_s_IsSlotTable Tryz.func114 ls_s_IsSlotTable (by kernel_rfl) (by exact ⟨(lok_s_IsSlotTable_4).lok, trivial⟩) fun x => by kernel_rfl

noncomputable def b_s_l12Find_2 (x : (Ty.T (.pair (.list TSlotInfo) (.pair (.int .i64) (.pair (.int .i64) TCrc))))) : Option ((Ty.T (.pair (.list TSlotInfo) (.pair (.int .i64) (.pair (.int .i64) TCrc)))) ⊕ ((Ty.T .unit) ⊕ (Ty.T (.pair (.int .i64) .unit)))) :=
match (decide (x.2.2.2.2.1 < (x.1.length : Int))) with
| true =>
 onSome (idx x.1 x.2.2.2.2.1) fun v1 =>
 match (v1.1 == x.2.1) with
 | true =>
  onSome (idx x.1 x.2.2.2.2.1) fun v2 =>
  match (v2.2.1 == x.2.2.1) with
  | true =>
   onSome (idx x.1 x.2.2.2.2.1) fun v3 =>
   match (v3.2.2.1 == x.2.2.2.1) with
   | true =>
    some (.inr (.inr (x.2.2.2.2.1, ())))
   | false =>
    some (.inl (x.1, x.2.1, x.2.2.1, x.2.2.2.1, (IntKind.i64.wrap (x.2.2.2.2.1 + (1 : Int))), ()))
  | false =>
   some (.inl (x.1, x.2.1, x.2.2.1, x.2.2.2.1, (IntKind.i64.wrap (x.2.2.2.2.1 + (1 : Int))), ()))
 | false =>
  some (.inl (x.1, x.2.1, x.2.2.1, x.2.2.2.1, (IntKind.i64.wrap (x.2.2.2.2.1 + (1 : Int))), ()))
| false =>
 some (.inr (.inl (())))
noncomputable def s_l12Find (x : Ty.T (.pair (.list TSlotInfo) (.pair (.int .i64) TCrc))) : Option (Ty.T (.pair (.int .i64) .unit)) :=
match loopL b_s_l12Find_2 (x.1, x.2.1, x.2.2.1, x.2.2.2.1, (0 : Int), ()) with
| none => none
| some (.inl v4) =>
 some ((-1 : Int), ())
| some (.inr v5) =>
 some (v5.1, ())
noncomputable def S_s_l12Find : Spec := ⟨(.pair (.list TSlotInfo) (.pair (.int .i64) TCrc)), (.pair (.int .i64) .unit), .unit, rfl, s_l12Find⟩
noncomputable def σ_s_l12Find : FuncId → Option Spec := sig []
theorem σok_s_l12Find : ∀ f s, σ_s_l12Find f = some s → FnOK G0 Tryz.prog f s := sig_ok trivial
def q_s_l12Find_2 : LRow := ⟨[0, 1, 2, 3, 9], (.pair (.list TSlotInfo) (.pair (.int .i64) (.pair (.int .i64) TCrc))), 0, [], .unit, [8], (.pair (.int .i64) .unit)⟩
noncomputable def ls_s_l12Find : List LSpec := [q_s_l12Find_2.spec b_s_l12Find_2]
theorem lok_s_l12Find_2 : Lok Γ0 E0 σ_s_l12Find (lam Tryz.f96 ls_s_l12Find) Tryz.f96 0 q_s_l12Find_2 b_s_l12Find_2 := fun x => by kernel_rfl
theorem ok_s_l12Find : FnOK G0 Tryz.prog 96 S_s_l12Find := fn_okS tab0 σok_s_l12Find Tryz.func96 ls_s_l12Find (by kernel_rfl) (by exact ⟨(lok_s_l12Find_2).lok, trivial⟩) fun x => by kernel_rfl

noncomputable def b_s_l13Complete_9 (x : (Ty.T (.pair (.box TMedl) (.pair (.int .i64) (.pair (.int .i64) TCrc))))) : Option ((Ty.T (.pair (.box TMedl) (.pair (.int .i64) (.pair (.int .i64) TCrc)))) ⊕ ((Ty.T (.pair (.box TMedl) (.pair (.int .i64) TCrc))) ⊕ (Ty.T (.pair .bool .unit)))) :=
onSome (idx x.1.2.2.1 x.2.2.1) fun v2 =>
match (decide (x.2.2.2.2.1 < v2.2.1)) with
| true =>
 match s_l12Find (x.1.2.2.2.1, x.2.2.1, x.2.2.2.1, x.2.2.2.2.1, ()) with
 | none => none
 | some v3 =>
 match (decide (v3.1 < (0 : Int))) with
 | true =>
  some (.inr (.inr (false, ())))
 | false =>
  some (.inl ((x.1.1, x.1.2.1, x.1.2.2.1, x.1.2.2.2.1, ()), (IntKind.i64.wrap (x.2.1 + (1 : Int))), x.2.2.1, x.2.2.2.1, (IntKind.i64.wrap (x.2.2.2.2.1 + (1 : Int))), ()))
| false =>
 some (.inr (.inl ((x.1.1, x.1.2.1, x.1.2.2.1, x.1.2.2.2.1, ()), x.2.1, x.2.2.1, x.2.2.2.1, ())))
noncomputable def b_s_l13Complete_6 (x : (Ty.T (.pair (.box TMedl) (.pair (.int .i64) TCrc)))) : Option ((Ty.T (.pair (.box TMedl) (.pair (.int .i64) TCrc))) ⊕ ((Ty.T (.pair (.box TMedl) TCrc)) ⊕ (Ty.T (.pair .bool .unit)))) :=
onSome (idx x.1.2.2.1 x.2.2.1) fun v1 =>
match (decide (x.2.2.2.1 < v1.1)) with
| true =>
 match loopL b_s_l13Complete_9 ((x.1.1, x.1.2.1, x.1.2.2.1, x.1.2.2.2.1, ()), x.2.1, x.2.2.1, x.2.2.2.1, (0 : Int), ()) with
 | none => none
 | some (.inl v2) =>
  some (.inl ((v2.1.1, v2.1.2.1, v2.1.2.2.1, v2.1.2.2.2.1, ()), v2.2.1, v2.2.2.1, (IntKind.i64.wrap (v2.2.2.2.1 + (1 : Int))), ()))
 | some (.inr v3) =>
  some (.inr (.inr (v3.1, ())))
| false =>
 some (.inr (.inl ((x.1.1, x.1.2.1, x.1.2.2.1, x.1.2.2.2.1, ()), x.2.1, x.2.2.1, ())))
noncomputable def b_s_l13Complete_3 (x : (Ty.T (.pair (.box TMedl) TCrc))) : Option ((Ty.T (.pair (.box TMedl) TCrc)) ⊕ ((Ty.T (.pair (.box TMedl) (.pair (.int .i64) .unit))) ⊕ (Ty.T (.pair .bool .unit)))) :=
match (decide (x.2.2.1 < (x.1.2.2.1.length : Int))) with
| true =>
 match loopL b_s_l13Complete_6 ((x.1.1, x.1.2.1, x.1.2.2.1, x.1.2.2.2.1, ()), x.2.1, x.2.2.1, (0 : Int), ()) with
 | none => none
 | some (.inl v1) =>
  some (.inl ((v1.1.1, v1.1.2.1, v1.1.2.2.1, v1.1.2.2.2.1, ()), v1.2.1, (IntKind.i64.wrap (v1.2.2.1 + (1 : Int))), ()))
 | some (.inr v2) =>
  some (.inr (.inr (v2.1, ())))
| false =>
 some (.inr (.inl ((x.1.1, x.1.2.1, x.1.2.2.1, x.1.2.2.2.1, ()), x.2.1, ())))
noncomputable def s_l13Complete (x : Ty.T (.pair TMedl .unit)) : Option (Ty.T (.pair .bool .unit)) :=
match loopL b_s_l13Complete_3 ((x.1.1, x.1.2.1, x.1.2.2.1, x.1.2.2.2.1, ()), (0 : Int), (0 : Int), ()) with
| none => none
| some (.inl v3) =>
 some ((v3.2.1 == (v3.1.2.2.2.1.length : Int)), ())
| some (.inr v4) =>
 some (v4.1, ())
noncomputable def S_s_l13Complete : Spec := ⟨(.pair TMedl .unit), (.pair .bool .unit), .unit, rfl, s_l13Complete⟩
noncomputable def σ_s_l13Complete : FuncId → Option Spec := sig [(96, S_s_l12Find)]
theorem σok_s_l13Complete : ∀ f s, σ_s_l13Complete f = some s → FnOK G0 Tryz.prog f s := sig_ok ⟨ok_s_l12Find, trivial⟩
def q_s_l13Complete_3 : LRow := ⟨[1, 3, 4], (.pair (.box TMedl) TCrc), 0, [1, 3], (.pair (.box TMedl) (.pair (.int .i64) .unit)), [2], (.pair .bool .unit)⟩
def q_s_l13Complete_6 : LRow := ⟨[1, 3, 4, 5], (.pair (.box TMedl) (.pair (.int .i64) TCrc)), 2, [1, 3, 4], (.pair (.box TMedl) TCrc), [2], (.pair .bool .unit)⟩
def q_s_l13Complete_9 : LRow := ⟨[1, 3, 4, 5, 6], (.pair (.box TMedl) (.pair (.int .i64) (.pair (.int .i64) TCrc))), 4, [1, 3, 4, 5], (.pair (.box TMedl) (.pair (.int .i64) TCrc)), [2], (.pair .bool .unit)⟩
noncomputable def ls_s_l13Complete : List LSpec := [q_s_l13Complete_3.spec b_s_l13Complete_3, q_s_l13Complete_6.spec b_s_l13Complete_6, q_s_l13Complete_9.spec b_s_l13Complete_9]
theorem lok_s_l13Complete_3 : Lok Γ0 E0 σ_s_l13Complete (lam Tryz.f115 ls_s_l13Complete) Tryz.f115 0 q_s_l13Complete_3 b_s_l13Complete_3 := fun x => by kernel_rfl
theorem lok_s_l13Complete_6 : Lok Γ0 E0 σ_s_l13Complete (lam Tryz.f115 ls_s_l13Complete) Tryz.f115 1 q_s_l13Complete_6 b_s_l13Complete_6 := fun x => by kernel_rfl
theorem lok_s_l13Complete_9 : Lok Γ0 E0 σ_s_l13Complete (lam Tryz.f115 ls_s_l13Complete) Tryz.f115 2 q_s_l13Complete_9 b_s_l13Complete_9 := fun x => by kernel_rfl
theorem ok_s_l13Complete : FnOK G0 Tryz.prog 115 S_s_l13Complete := fn_okS tab0 σok_s_l13Complete Tryz.func115 ls_s_l13Complete (by kernel_rfl) (by exact ⟨(lok_s_l13Complete_3).lok, (lok_s_l13Complete_6).lok, (lok_s_l13Complete_9).lok, trivial⟩) fun x => by kernel_rfl

noncomputable def s_l05Has (x : Ty.T TCrc) : Option (Ty.T (.pair .bool .unit)) :=
if (IntKind.u64.wrap x.2.1) < 0 then none else
some (((bits BinOp.and .i64 (Int.fdiv x.1 (2 ^ min (IntKind.u64.wrap x.2.1).toNat IntKind.i64.bits)) (1 : Int)) == (1 : Int)), ())
noncomputable def S_s_l05Has : Spec := ⟨TCrc, (.pair .bool .unit), .unit, rfl, s_l05Has⟩
noncomputable def σ_s_l05Has : FuncId → Option Spec := sig []
theorem σok_s_l05Has : ∀ f s, σ_s_l05Has f = some s → FnOK G0 Tryz.prog f s := sig_ok trivial
theorem ok_s_l05Has : FnOK G0 Tryz.prog 169 S_s_l05Has := fn_okS tab0 σok_s_l05Has Tryz.func169 [] (by kernel_rfl) (by exact trivial) fun x => by kernel_rfl

noncomputable def s_l05Set (x : Ty.T (.pair (.int .i64) (.pair (.int .i64) (.pair .bool .unit)))) : Option (Ty.T (.pair (.int .i64) .unit)) :=
match s_l05Has (x.1, x.2.1, ()) with
| none => none
| some v1 =>
match (v1.1 == x.2.2.1) with
| true =>
 some (x.1, ())
| false =>
 if (IntKind.u64.wrap x.2.1) < 0 then none else
 some ((bits BinOp.xor .i64 x.1 (IntKind.i64.wrap ((1 : Int) * 2 ^ min (IntKind.u64.wrap x.2.1).toNat IntKind.i64.bits))), ())
noncomputable def S_s_l05Set : Spec := ⟨(.pair (.int .i64) (.pair (.int .i64) (.pair .bool .unit))), (.pair (.int .i64) .unit), .unit, rfl, s_l05Set⟩
noncomputable def σ_s_l05Set : FuncId → Option Spec := sig [(169, S_s_l05Has)]
theorem σok_s_l05Set : ∀ f s, σ_s_l05Set f = some s → FnOK G0 Tryz.prog f s := sig_ok ⟨ok_s_l05Has, trivial⟩
theorem ok_s_l05Set : FnOK G0 Tryz.prog 120 S_s_l05Set := fn_okS tab0 σok_s_l05Set Tryz.func120 [] (by kernel_rfl) (by exact trivial) fun x => by kernel_rfl

noncomputable def b_s_l10Active_3 (x : (Ty.T (.pair (.list TNodeInfo) TCrc))) : Option ((Ty.T (.pair (.list TNodeInfo) TCrc)) ⊕ ((Ty.T (.pair (.int .i64) .unit)) ⊕ (Ty.T .unit))) :=
match (decide (x.2.2.1 < (x.1.length : Int))) with
| true =>
 onSome (idx x.1 x.2.2.1) fun v1 =>
 match (!v1.2.2.2.1) with
 | true =>
  onSome (idx x.1 x.2.2.1) fun v2 =>
  match s_l05Set (x.2.1, v2.1, true, ()) with
  | none => none
  | some v3 =>
  some (.inl (x.1, v3.1, (IntKind.i64.wrap (x.2.2.1 + (1 : Int))), ()))
 | false =>
  some (.inl (x.1, x.2.1, (IntKind.i64.wrap (x.2.2.1 + (1 : Int))), ()))
| false =>
 some (.inr (.inl (x.2.1, ())))
noncomputable def s_l10Active (x : Ty.T (.pair (.list TNodeInfo) .unit)) : Option (Ty.T (.pair (.int .i64) .unit)) :=
match loopL b_s_l10Active_3 (x.1, (0 : Int), (0 : Int), ()) with
| none => none
| some (.inl v4) =>
 some (v4.1, ())
| some (.inr v6) =>
 none
noncomputable def S_s_l10Active : Spec := ⟨(.pair (.list TNodeInfo) .unit), (.pair (.int .i64) .unit), .unit, rfl, s_l10Active⟩
noncomputable def σ_s_l10Active : FuncId → Option Spec := sig [(120, S_s_l05Set)]
theorem σok_s_l10Active : ∀ f s, σ_s_l10Active f = some s → FnOK G0 Tryz.prog f s := sig_ok ⟨ok_s_l05Set, trivial⟩
def q_s_l10Active_3 : LRow := ⟨[0, 3, 4], (.pair (.list TNodeInfo) TCrc), 0, [3], (.pair (.int .i64) .unit), [], .unit⟩
noncomputable def ls_s_l10Active : List LSpec := [q_s_l10Active_3.spec b_s_l10Active_3]
theorem lok_s_l10Active_3 : Lok Γ0 E0 σ_s_l10Active (lam Tryz.f86 ls_s_l10Active) Tryz.f86 0 q_s_l10Active_3 b_s_l10Active_3 := fun x => by kernel_rfl
theorem ok_s_l10Active : FnOK G0 Tryz.prog 86 S_s_l10Active := fn_okS tab0 σok_s_l10Active Tryz.func86 ls_s_l10Active (by kernel_rfl) (by exact ⟨(lok_s_l10Active_3).lok, trivial⟩) fun x => by kernel_rfl

noncomputable def b_s_l13Senders_3 (x : (Ty.T (.pair (.box TMedl) TCrc))) : Option ((Ty.T (.pair (.box TMedl) TCrc)) ⊕ ((Ty.T .unit) ⊕ (Ty.T (.pair .bool .unit)))) :=
match (decide (x.2.2.1 < (x.1.2.2.2.1.length : Int))) with
| true =>
 onSome (idx x.1.2.2.2.1 x.2.2.1) fun v2 =>
 match s_l05Has (x.2.1, v2.2.2.2.1.1, ()) with
 | none => none
 | some v3 =>
 match (!v3.1) with
 | true =>
  some (.inr (.inr (false, ())))
 | false =>
  some (.inl ((x.1.1, x.1.2.1, x.1.2.2.1, x.1.2.2.2.1, ()), x.2.1, (IntKind.i64.wrap (x.2.2.1 + (1 : Int))), ()))
| false =>
 some (.inr (.inl (())))
noncomputable def s_l13Senders (x : Ty.T (.pair TMedl .unit)) : Option (Ty.T (.pair .bool .unit)) :=
match s_l10Active (x.1.2.1, ()) with
| none => none
| some v1 =>
match loopL b_s_l13Senders_3 ((x.1.1, x.1.2.1, x.1.2.2.1, x.1.2.2.2.1, ()), v1.1, (0 : Int), ()) with
| none => none
| some (.inl v4) =>
 some (true, ())
| some (.inr v5) =>
 some (v5.1, ())
noncomputable def S_s_l13Senders : Spec := ⟨(.pair TMedl .unit), (.pair .bool .unit), .unit, rfl, s_l13Senders⟩
noncomputable def σ_s_l13Senders : FuncId → Option Spec := sig [(86, S_s_l10Active), (169, S_s_l05Has)]
theorem σok_s_l13Senders : ∀ f s, σ_s_l13Senders f = some s → FnOK G0 Tryz.prog f s := sig_ok ⟨ok_s_l10Active, ok_s_l05Has, trivial⟩
def q_s_l13Senders_3 : LRow := ⟨[1, 3, 4], (.pair (.box TMedl) TCrc), 0, [], .unit, [2], (.pair .bool .unit)⟩
noncomputable def ls_s_l13Senders : List LSpec := [q_s_l13Senders_3.spec b_s_l13Senders_3]
theorem lok_s_l13Senders_3 : Lok Γ0 E0 σ_s_l13Senders (lam Tryz.f116 ls_s_l13Senders) Tryz.f116 0 q_s_l13Senders_3 b_s_l13Senders_3 := fun x => by kernel_rfl
theorem ok_s_l13Senders : FnOK G0 Tryz.prog 116 S_s_l13Senders := fn_okS tab0 σok_s_l13Senders Tryz.func116 ls_s_l13Senders (by kernel_rfl) (by exact ⟨(lok_s_l13Senders_3).lok, trivial⟩) fun x => by kernel_rfl

noncomputable def b_s_l13Durations_5 (x : (Ty.T (.pair (.ptr TMedl) TCrc))) : Option ((Ty.T (.pair (.ptr TMedl) TCrc)) ⊕ ((Ty.T (.pair (.ptr TMedl) (.pair (.int .i64) .unit))) ⊕ (Ty.T (.pair .bool .unit)))) :=
match (decide (x.2.2.1 < x.2.1)) with
| true =>
 onSome (idx x.1.2.2.2.1 x.2.1) fun v1 =>
 onSome (idx x.1.2.2.2.1 x.2.2.1) fun v2 =>
 same (
  match (v1.1 == v2.1) with
  | true =>
   match (v1.2.2.1 == v2.2.2.1) with
   | true =>
    match (v1.2.2.2.1.2.2.2.1 != v2.2.2.2.1.2.2.2.1) with
    | true =>
     some (.inr (.inr (false, ())))
    | false =>
     some (.inl (x.1, x.2.1, (IntKind.i64.wrap (x.2.2.1 + (1 : Int))), ()))
   | false =>
    some (.inl (x.1, x.2.1, (IntKind.i64.wrap (x.2.2.1 + (1 : Int))), ()))
  | false =>
   some (.inl (x.1, x.2.1, (IntKind.i64.wrap (x.2.2.1 + (1 : Int))), ())))
| false =>
 some (.inr (.inl (x.1, x.2.1, ())))
noncomputable def b_s_l13Durations_2 (x : (Ty.T (.pair (.ptr TMedl) (.pair (.int .i64) .unit)))) : Option ((Ty.T (.pair (.ptr TMedl) (.pair (.int .i64) .unit))) ⊕ ((Ty.T .unit) ⊕ (Ty.T (.pair .bool .unit)))) :=
match (decide (x.2.1 < (x.1.2.2.2.1.length : Int))) with
| true =>
 match loopL b_s_l13Durations_5 (x.1, x.2.1, (0 : Int), ()) with
 | none => none
 | some (.inl v1) =>
  some (.inl (v1.1, (IntKind.i64.wrap (v1.2.1 + (1 : Int))), ()))
 | some (.inr v2) =>
  some (.inr (.inr (v2.1, ())))
| false =>
 some (.inr (.inl (())))
noncomputable def s_l13Durations (x : Ty.T (.pair TMedl .unit)) : Option (Ty.T (.pair .bool .unit)) :=
match loopL b_s_l13Durations_2 ((x.1.1, x.1.2.1, x.1.2.2.1, x.1.2.2.2.1, ()), (0 : Int), ()) with
| none => none
| some (.inl v3) =>
 some (true, ())
| some (.inr v4) =>
 some (v4.1, ())
noncomputable def S_s_l13Durations : Spec := ⟨(.pair TMedl .unit), (.pair .bool .unit), .unit, rfl, s_l13Durations⟩
noncomputable def σ_s_l13Durations : FuncId → Option Spec := sig []
theorem σok_s_l13Durations : ∀ f s, σ_s_l13Durations f = some s → FnOK G0 Tryz.prog f s := sig_ok trivial
def q_s_l13Durations_2 : LRow := ⟨[1, 3], (.pair (.ptr TMedl) (.pair (.int .i64) .unit)), 0, [], .unit, [2], (.pair .bool .unit)⟩
def q_s_l13Durations_5 : LRow := ⟨[1, 3, 4], (.pair (.ptr TMedl) TCrc), 2, [1, 3], (.pair (.ptr TMedl) (.pair (.int .i64) .unit)), [2], (.pair .bool .unit)⟩
noncomputable def ls_s_l13Durations : List LSpec := [q_s_l13Durations_2.spec b_s_l13Durations_2, q_s_l13Durations_5.spec b_s_l13Durations_5]
theorem lok_s_l13Durations_2 : Lok Γ0 E0 σ_s_l13Durations (lam Tryz.f117 ls_s_l13Durations) Tryz.f117 0 q_s_l13Durations_2 b_s_l13Durations_2 := fun x => by kernel_rfl
theorem lok_s_l13Durations_5 : Lok Γ0 E0 σ_s_l13Durations (lam Tryz.f117 ls_s_l13Durations) Tryz.f117 1 q_s_l13Durations_5 b_s_l13Durations_5 := fun x => by kernel_rfl
theorem ok_s_l13Durations : FnOK G0 Tryz.prog 117 S_s_l13Durations := fn_okS tab0 σok_s_l13Durations Tryz.func117 ls_s_l13Durations (by kernel_rfl) (by exact ⟨(lok_s_l13Durations_2).lok, (lok_s_l13Durations_5).lok, trivial⟩) fun x => by kernel_rfl

noncomputable def b_s_l13Cycle_3 (x : (Ty.T (.pair (.int .i64) (.pair (.box TMedl) TCrc)))) : Option ((Ty.T (.pair (.int .i64) (.pair (.box TMedl) TCrc))) ⊕ ((Ty.T (.pair (.int .i64) .unit)) ⊕ (Ty.T .unit))) :=
match (decide (x.2.2.2.1 < (x.2.1.2.2.2.1.length : Int))) with
| true =>
 onSome (idx x.2.1.2.2.2.1 x.2.2.2.1) fun v1 =>
 match (v1.1 == x.1) with
 | true =>
  onSome (idx x.2.1.2.2.2.1 x.2.2.2.1) fun v2 =>
  some (.inl (x.1, (x.2.1.1, x.2.1.2.1, x.2.1.2.2.1, x.2.1.2.2.2.1, ()), (IntKind.i64.wrap (x.2.2.1 + v2.2.2.2.1.2.2.2.1)), (IntKind.i64.wrap (x.2.2.2.1 + (1 : Int))), ()))
 | false =>
  some (.inl (x.1, (x.2.1.1, x.2.1.2.1, x.2.1.2.2.1, x.2.1.2.2.2.1, ()), x.2.2.1, (IntKind.i64.wrap (x.2.2.2.1 + (1 : Int))), ()))
| false =>
 some (.inr (.inl (x.2.2.1, ())))
noncomputable def s_l13Cycle (x : Ty.T (.pair TMedl (.pair (.int .i64) .unit))) : Option (Ty.T (.pair (.int .i64) .unit)) :=
match loopL b_s_l13Cycle_3 (x.2.1, (x.1.1, x.1.2.1, x.1.2.2.1, x.1.2.2.2.1, ()), (0 : Int), (0 : Int), ()) with
| none => none
| some (.inl v3) =>
 some (v3.1, ())
| some (.inr v5) =>
 none
noncomputable def S_s_l13Cycle : Spec := ⟨(.pair TMedl (.pair (.int .i64) .unit)), (.pair (.int .i64) .unit), .unit, rfl, s_l13Cycle⟩
noncomputable def σ_s_l13Cycle : FuncId → Option Spec := sig []
theorem σok_s_l13Cycle : ∀ f s, σ_s_l13Cycle f = some s → FnOK G0 Tryz.prog f s := sig_ok trivial
def q_s_l13Cycle_3 : LRow := ⟨[1, 2, 5, 6], (.pair (.int .i64) (.pair (.box TMedl) TCrc)), 0, [5], (.pair (.int .i64) .unit), [], .unit⟩
noncomputable def ls_s_l13Cycle : List LSpec := [q_s_l13Cycle_3.spec b_s_l13Cycle_3]
theorem lok_s_l13Cycle_3 : Lok Γ0 E0 σ_s_l13Cycle (lam Tryz.f118 ls_s_l13Cycle) Tryz.f118 0 q_s_l13Cycle_3 b_s_l13Cycle_3 := fun x => by kernel_rfl
theorem ok_s_l13Cycle : FnOK G0 Tryz.prog 118 S_s_l13Cycle := fn_okS tab0 σok_s_l13Cycle Tryz.func118 ls_s_l13Cycle (by kernel_rfl) (by exact ⟨(lok_s_l13Cycle_3).lok, trivial⟩) fun x => by kernel_rfl

noncomputable def b_s_l13Served_10 (x : (Ty.T (.pair (.box TMedl) TState))) : Option ((Ty.T (.pair (.box TMedl) TState)) ⊕ ((Ty.T (.pair (.box TMedl) (.pair (.int .i64) (.pair (.int .i64) TCrc)))) ⊕ (Ty.T .unit))) :=
match (decide (x.2.2.2.2.2.1 < (x.1.2.2.2.1.length : Int))) with
| true =>
 onSome (idx x.1.2.2.2.1 x.2.2.2.2.2.1) fun v3 =>
 match (v3.1 == x.2.2.1) with
 | true =>
  onSome (idx x.1.2.2.2.1 x.2.2.2.2.2.1) fun v4 =>
  match (v4.2.1 == x.2.2.2.1) with
  | true =>
   onSome (idx x.1.2.2.2.1 x.2.2.2.2.2.1) fun v5 =>
   match s_l05Set (x.2.2.2.2.1, v5.2.2.2.1.1, true, ()) with
   | none => none
   | some v6 =>
   some (.inl ((x.1.1, x.1.2.1, x.1.2.2.1, x.1.2.2.2.1, ()), x.2.1, x.2.2.1, x.2.2.2.1, v6.1, (IntKind.i64.wrap (x.2.2.2.2.2.1 + (1 : Int))), ()))
  | false =>
   some (.inl ((x.1.1, x.1.2.1, x.1.2.2.1, x.1.2.2.2.1, ()), x.2.1, x.2.2.1, x.2.2.2.1, x.2.2.2.2.1, (IntKind.i64.wrap (x.2.2.2.2.2.1 + (1 : Int))), ()))
 | false =>
  some (.inl ((x.1.1, x.1.2.1, x.1.2.2.1, x.1.2.2.2.1, ()), x.2.1, x.2.2.1, x.2.2.2.1, x.2.2.2.2.1, (IntKind.i64.wrap (x.2.2.2.2.2.1 + (1 : Int))), ()))
| false =>
 some (.inr (.inl ((x.1.1, x.1.2.1, x.1.2.2.1, x.1.2.2.2.1, ()), x.2.1, x.2.2.1, x.2.2.2.1, x.2.2.2.2.1, ())))
noncomputable def b_s_l13Served_6 (x : (Ty.T (.pair (.box TMedl) (.pair (.int .i64) TCrc)))) : Option ((Ty.T (.pair (.box TMedl) (.pair (.int .i64) TCrc))) ⊕ ((Ty.T (.pair (.box TMedl) TCrc)) ⊕ (Ty.T (.pair .bool .unit)))) :=
onSome (idx x.1.2.2.1 x.2.2.1) fun v2 =>
match (decide (x.2.2.2.1 < v2.1)) with
| true =>
 match loopL b_s_l13Served_10 ((x.1.1, x.1.2.1, x.1.2.2.1, x.1.2.2.2.1, ()), x.2.1, x.2.2.1, x.2.2.2.1, (0 : Int), (0 : Int), ()) with
 | none => none
 | some (.inl v3) =>
  match (v3.2.2.2.2.1 != v3.2.1) with
  | true =>
   some (.inr (.inr (false, ())))
  | false =>
   some (.inl ((v3.1.1, v3.1.2.1, v3.1.2.2.1, v3.1.2.2.2.1, ()), v3.2.1, v3.2.2.1, (IntKind.i64.wrap (v3.2.2.2.1 + (1 : Int))), ()))
 | some (.inr v5) =>
  none
| false =>
 some (.inr (.inl ((x.1.1, x.1.2.1, x.1.2.2.1, x.1.2.2.2.1, ()), x.2.1, x.2.2.1, ())))
noncomputable def b_s_l13Served_3 (x : (Ty.T (.pair (.box TMedl) TCrc))) : Option ((Ty.T (.pair (.box TMedl) TCrc)) ⊕ ((Ty.T .unit) ⊕ (Ty.T (.pair .bool .unit)))) :=
match (decide (x.2.2.1 < (x.1.2.2.1.length : Int))) with
| true =>
 match loopL b_s_l13Served_6 ((x.1.1, x.1.2.1, x.1.2.2.1, x.1.2.2.2.1, ()), x.2.1, x.2.2.1, (0 : Int), ()) with
 | none => none
 | some (.inl v2) =>
  some (.inl ((v2.1.1, v2.1.2.1, v2.1.2.2.1, v2.1.2.2.2.1, ()), v2.2.1, (IntKind.i64.wrap (v2.2.2.1 + (1 : Int))), ()))
 | some (.inr v3) =>
  some (.inr (.inr (v3.1, ())))
| false =>
 some (.inr (.inl (())))
noncomputable def s_l13Served (x : Ty.T (.pair TMedl .unit)) : Option (Ty.T (.pair .bool .unit)) :=
match s_l10Active (x.1.2.1, ()) with
| none => none
| some v1 =>
match loopL b_s_l13Served_3 ((x.1.1, x.1.2.1, x.1.2.2.1, x.1.2.2.2.1, ()), v1.1, (0 : Int), ()) with
| none => none
| some (.inl v4) =>
 some (true, ())
| some (.inr v5) =>
 some (v5.1, ())
noncomputable def S_s_l13Served : Spec := ⟨(.pair TMedl .unit), (.pair .bool .unit), .unit, rfl, s_l13Served⟩
noncomputable def σ_s_l13Served : FuncId → Option Spec := sig [(86, S_s_l10Active), (120, S_s_l05Set)]
theorem σok_s_l13Served : ∀ f s, σ_s_l13Served f = some s → FnOK G0 Tryz.prog f s := sig_ok ⟨ok_s_l10Active, ok_s_l05Set, trivial⟩
def q_s_l13Served_3 : LRow := ⟨[1, 3, 4], (.pair (.box TMedl) TCrc), 0, [], .unit, [2], (.pair .bool .unit)⟩
def q_s_l13Served_6 : LRow := ⟨[1, 3, 4, 5], (.pair (.box TMedl) (.pair (.int .i64) TCrc)), 2, [1, 3, 4], (.pair (.box TMedl) TCrc), [2], (.pair .bool .unit)⟩
def q_s_l13Served_10 : LRow := ⟨[1, 3, 4, 5, 6, 7], (.pair (.box TMedl) TState), 4, [1, 3, 4, 5, 6], (.pair (.box TMedl) (.pair (.int .i64) (.pair (.int .i64) TCrc))), [], .unit⟩
noncomputable def ls_s_l13Served : List LSpec := [q_s_l13Served_3.spec b_s_l13Served_3, q_s_l13Served_6.spec b_s_l13Served_6, q_s_l13Served_10.spec b_s_l13Served_10]
theorem lok_s_l13Served_3 : Lok Γ0 E0 σ_s_l13Served (lam Tryz.f119 ls_s_l13Served) Tryz.f119 0 q_s_l13Served_3 b_s_l13Served_3 := fun x => by kernel_rfl
theorem lok_s_l13Served_6 : Lok Γ0 E0 σ_s_l13Served (lam Tryz.f119 ls_s_l13Served) Tryz.f119 1 q_s_l13Served_6 b_s_l13Served_6 := fun x => by kernel_rfl
theorem lok_s_l13Served_10 : Lok Γ0 E0 σ_s_l13Served (lam Tryz.f119 ls_s_l13Served) Tryz.f119 2 q_s_l13Served_10 b_s_l13Served_10 := fun x => by kernel_rfl
theorem ok_s_l13Served : FnOK G0 Tryz.prog 119 S_s_l13Served := fn_okS tab0 σok_s_l13Served Tryz.func119 ls_s_l13Served (by kernel_rfl) (by exact ⟨(lok_s_l13Served_3).lok, (lok_s_l13Served_6).lok, (lok_s_l13Served_10).lok, trivial⟩) fun x => by kernel_rfl

noncomputable def b_s_FirstFault_16 (x : (Ty.T (.pair (.box TMedl) (.pair (.int .i64) .unit)))) : Option ((Ty.T (.pair (.box TMedl) (.pair (.int .i64) .unit))) ⊕ ((Ty.T (.pair (.box TMedl) .unit)) ⊕ (Ty.T (.pair (.int .i64) .unit)))) :=
match (decide (x.2.1 < (x.1.2.2.1.length : Int))) with
| true =>
 match s_l13Cycle ((x.1.1, x.1.2.1, x.1.2.2.1, x.1.2.2.2.1, ()), x.2.1, ()) with
 | none => none
 | some v8 =>
 match (decide (v8.1 > (32000 : Int))) with
 | true =>
  some (.inr (.inr ((8 : Int), ())))
 | false =>
  some (.inl ((x.1.1, x.1.2.1, x.1.2.2.1, x.1.2.2.2.1, ()), (IntKind.i64.wrap (x.2.1 + (1 : Int))), ()))
| false =>
 some (.inr (.inl ((x.1.1, x.1.2.1, x.1.2.2.1, x.1.2.2.2.1, ()), ())))
noncomputable def b_s_FirstFault_23 (x : (Ty.T (.pair (.box TMedl) (.pair (.int .i64) .unit)))) : Option ((Ty.T (.pair (.box TMedl) (.pair (.int .i64) .unit))) ⊕ ((Ty.T .unit) ⊕ (Ty.T (.pair (.int .i64) .unit)))) :=
match (decide (x.2.1 < (x.1.2.2.2.1.length : Int))) with
| true =>
 onSome (idx x.1.2.2.2.1 x.2.1) fun v12 =>
 match (v12.2.2.2.1.2.1 == (3 : Int)) with
 | true =>
  onSome (idx x.1.2.2.2.1 x.2.1) fun v13 =>
  match (v13.1 != (0 : Int)) with
  | true =>
   some (.inr (.inr ((10 : Int), ())))
  | false =>
   some (.inl ((x.1.1, x.1.2.1, x.1.2.2.1, x.1.2.2.2.1, ()), (IntKind.i64.wrap (x.2.1 + (1 : Int))), ()))
 | false =>
  some (.inl ((x.1.1, x.1.2.1, x.1.2.2.1, x.1.2.2.2.1, ()), (IntKind.i64.wrap (x.2.1 + (1 : Int))), ()))
| false =>
 some (.inr (.inl (())))
noncomputable def s_FirstFault (x : Ty.T (.pair TMedl .unit)) : Option (Ty.T (.pair (.int .i64) .unit)) :=
match s_l01In (x.1.1, (1 : Int), (16777215 : Int), ()) with
| none => none
| some v1 =>
match (!v1.1) with
| true =>
 some ((1 : Int), ())
| false =>
 match s_IsNodeTable (x.1.2.1, ()) with
 | none => none
 | some v2 =>
 match (!v2.1) with
 | true =>
  some ((2 : Int), ())
 | false =>
  match s_IsModeTable (x.1.2.2.1, ()) with
  | none => none
  | some v3 =>
  match (!v3.1) with
  | true =>
   some ((3 : Int), ())
  | false =>
   match s_IsSlotTable (x.1.2.2.2.1, ()) with
   | none => none
   | some v4 =>
   match (!v4.1) with
   | true =>
    some ((4 : Int), ())
   | false =>
    match s_l13Complete ((x.1.1, x.1.2.1, x.1.2.2.1, x.1.2.2.2.1, ()), ()) with
    | none => none
    | some v5 =>
    match (!v5.1) with
    | true =>
     some ((5 : Int), ())
    | false =>
     match s_l13Senders ((x.1.1, x.1.2.1, x.1.2.2.1, x.1.2.2.2.1, ()), ()) with
     | none => none
     | some v6 =>
     match (!v6.1) with
     | true =>
      some ((6 : Int), ())
     | false =>
      match s_l13Durations ((x.1.1, x.1.2.1, x.1.2.2.1, x.1.2.2.2.1, ()), ()) with
      | none => none
      | some v7 =>
      match (!v7.1) with
      | true =>
       some ((7 : Int), ())
      | false =>
       match loopL b_s_FirstFault_16 ((x.1.1, x.1.2.1, x.1.2.2.1, x.1.2.2.2.1, ()), (0 : Int), ()) with
       | none => none
       | some (.inl v9) =>
        match s_l13Served ((v9.1.1, v9.1.2.1, v9.1.2.2.1, v9.1.2.2.2.1, ()), ()) with
        | none => none
        | some v11 =>
        match (!v11.1) with
        | true =>
         some ((9 : Int), ())
        | false =>
         match loopL b_s_FirstFault_23 ((v9.1.1, v9.1.2.1, v9.1.2.2.1, v9.1.2.2.2.1, ()), (0 : Int), ()) with
         | none => none
         | some (.inl v14) =>
          some ((0 : Int), ())
         | some (.inr v15) =>
          some (v15.1, ())
       | some (.inr v10) =>
        some (v10.1, ())
noncomputable def S_s_FirstFault : Spec := ⟨(.pair TMedl .unit), (.pair (.int .i64) .unit), .unit, rfl, s_FirstFault⟩
noncomputable def σ_s_FirstFault : FuncId → Option Spec := sig [(87, S_s_l01In), (112, S_s_IsNodeTable), (113, S_s_IsModeTable), (114, S_s_IsSlotTable), (115, S_s_l13Complete), (116, S_s_l13Senders), (117, S_s_l13Durations), (118, S_s_l13Cycle), (119, S_s_l13Served)]
theorem σok_s_FirstFault : ∀ f s, σ_s_FirstFault f = some s → FnOK G0 Tryz.prog f s := sig_ok ⟨ok_s_l01In, ok_s_IsNodeTable, ok_s_IsModeTable, ok_s_IsSlotTable, ok_s_l13Complete, ok_s_l13Senders, ok_s_l13Durations, ok_s_l13Cycle, ok_s_l13Served, trivial⟩
def q_s_FirstFault_16 : LRow := ⟨[1, 3], (.pair (.box TMedl) (.pair (.int .i64) .unit)), 1, [1], (.pair (.box TMedl) .unit), [2], (.pair (.int .i64) .unit)⟩
def q_s_FirstFault_23 : LRow := ⟨[1, 4], (.pair (.box TMedl) (.pair (.int .i64) .unit)), 3, [], .unit, [2], (.pair (.int .i64) .unit)⟩
noncomputable def ls_s_FirstFault : List LSpec := [q_s_FirstFault_16.spec b_s_FirstFault_16, q_s_FirstFault_23.spec b_s_FirstFault_23]
theorem lok_s_FirstFault_16 : Lok Γ0 E0 σ_s_FirstFault (lam Tryz.f83 ls_s_FirstFault) Tryz.f83 0 q_s_FirstFault_16 b_s_FirstFault_16 := fun x => by kernel_rfl
theorem lok_s_FirstFault_23 : Lok Γ0 E0 σ_s_FirstFault (lam Tryz.f83 ls_s_FirstFault) Tryz.f83 1 q_s_FirstFault_23 b_s_FirstFault_23 := fun x => by kernel_rfl
theorem ok_s_FirstFault : FnOK G0 Tryz.prog 83 S_s_FirstFault := fn_okS tab0 σok_s_FirstFault Tryz.func83 ls_s_FirstFault (by kernel_rfl) (by exact ⟨(lok_s_FirstFault_16).lok, (lok_s_FirstFault_23).lok, trivial⟩) fun x => by kernel_rfl

noncomputable def s_IsMedl (x : Ty.T (.pair TMedl .unit)) : Option (Ty.T (.pair .bool .unit)) :=
match s_FirstFault ((x.1.1, x.1.2.1, x.1.2.2.1, x.1.2.2.2.1, ()), ()) with
| none => none
| some v1 =>
some ((v1.1 == (0 : Int)), ())
noncomputable def S_s_IsMedl : Spec := ⟨(.pair TMedl .unit), (.pair .bool .unit), .unit, rfl, s_IsMedl⟩
noncomputable def σ_s_IsMedl : FuncId → Option Spec := sig [(83, S_s_FirstFault)]
theorem σok_s_IsMedl : ∀ f s, σ_s_IsMedl f = some s → FnOK G0 Tryz.prog f s := sig_ok ⟨ok_s_FirstFault, trivial⟩
theorem ok_s_IsMedl : FnOK G0 Tryz.prog 64 S_s_IsMedl := fn_okS tab0 σok_s_IsMedl Tryz.func64 [] (by kernel_rfl) (by exact trivial) fun x => by kernel_rfl

noncomputable def s_IsState (x : Ty.T (.pair TState .unit)) : Option (Ty.T (.pair .bool .unit)) :=
match s_l01In (x.1.1, (0 : Int), (65535 : Int), ()) with
| none => none
| some v1 =>
match v1.1 with
| true =>
 match s_l01In (x.1.2.1, (0 : Int), (15 : Int), ()) with
 | none => none
 | some v2 =>
 match v2.1 with
 | true =>
  match s_l01In (x.1.2.2.1, (0 : Int), (15 : Int), ()) with
  | none => none
  | some v3 =>
  match v3.1 with
  | true =>
   match s_l01In (x.1.2.2.2.1, (0 : Int), (255 : Int), ()) with
   | none => none
   | some v4 =>
   match v4.1 with
   | true =>
    match s_l01In (x.1.2.2.2.2.1, (0 : Int), (4294967295 : Int), ()) with
    | none => none
    | some v5 =>
    some (v5.1, ())
   | false =>
    some (false, ())
  | false =>
   some (false, ())
 | false =>
  some (false, ())
| false =>
 some (false, ())
noncomputable def S_s_IsState : Spec := ⟨(.pair TState .unit), (.pair .bool .unit), .unit, rfl, s_IsState⟩
noncomputable def σ_s_IsState : FuncId → Option Spec := sig [(87, S_s_l01In)]
theorem σok_s_IsState : ∀ f s, σ_s_IsState f = some s → FnOK G0 Tryz.prog f s := sig_ok ⟨ok_s_l01In, trivial⟩
theorem ok_s_IsState : FnOK G0 Tryz.prog 84 S_s_IsState := fn_okS tab0 σok_s_IsState Tryz.func84 [] (by kernel_rfl) (by exact trivial) fun x => by kernel_rfl

noncomputable def s_l11Mode (x : Ty.T (.pair (.list TModeInfo) (.pair (.int .i64) .unit))) : Option (Ty.T (.pair .bool .unit)) :=
match s_l01In (x.2.1, (0 : Int), (IntKind.i64.wrap ((x.1.length : Int) - (1 : Int))), ()) with
| none => none
| some v1 =>
some (v1.1, ())
noncomputable def S_s_l11Mode : Spec := ⟨(.pair (.list TModeInfo) (.pair (.int .i64) .unit)), (.pair .bool .unit), .unit, rfl, s_l11Mode⟩
noncomputable def σ_s_l11Mode : FuncId → Option Spec := sig [(87, S_s_l01In)]
theorem σok_s_l11Mode : ∀ f s, σ_s_l11Mode f = some s → FnOK G0 Tryz.prog f s := sig_ok ⟨ok_s_l01In, trivial⟩
theorem ok_s_l11Mode : FnOK G0 Tryz.prog 85 S_s_l11Mode := fn_okS tab0 σok_s_l11Mode Tryz.func85 [] (by kernel_rfl) (by exact trivial) fun x => by kernel_rfl

noncomputable def s_l15Belongs (x : Ty.T (.pair TMedl (.pair TState .unit))) : Option (Ty.T (.pair .bool .unit)) :=
match s_IsState ((x.2.1.1, x.2.1.2.1, x.2.1.2.2.1, x.2.1.2.2.2.1, x.2.1.2.2.2.2.1, ()), ()) with
| none => none
| some v1 =>
match (!v1.1) with
| true =>
 some (false, ())
| false =>
 match s_l11Mode (x.1.2.2.1, x.2.1.2.1, ()) with
 | none => none
 | some v2 =>
 match (!v2.1) with
 | true =>
  some (false, ())
 | false =>
  onSome (idx x.1.2.2.1 x.2.1.2.1) fun v3 =>
  match (decide (x.2.1.2.2.1 ≥ v3.1)) with
  | true =>
   some (false, ())
  | false =>
   onSome (idx x.1.2.2.1 x.2.1.2.1) fun v4 =>
   match (decide (x.2.1.2.2.2.1 ≥ v4.2.1)) with
   | true =>
    some (false, ())
   | false =>
    match s_l10Active (x.1.2.1, ()) with
    | none => none
    | some v5 =>
    some (((bits BinOp.and .i64 x.2.1.2.2.2.2.1 v5.1) == x.2.1.2.2.2.2.1), ())
noncomputable def S_s_l15Belongs : Spec := ⟨(.pair TMedl (.pair TState .unit)), (.pair .bool .unit), .unit, rfl, s_l15Belongs⟩
noncomputable def σ_s_l15Belongs : FuncId → Option Spec := sig [(84, S_s_IsState), (85, S_s_l11Mode), (86, S_s_l10Active)]
theorem σok_s_l15Belongs : ∀ f s, σ_s_l15Belongs f = some s → FnOK G0 Tryz.prog f s := sig_ok ⟨ok_s_IsState, ok_s_l11Mode, ok_s_l10Active, trivial⟩
theorem ok_s_l15Belongs : FnOK G0 Tryz.prog 65 S_s_l15Belongs := fn_okS tab0 σok_s_l15Belongs Tryz.func65 [] (by kernel_rfl) (by exact trivial) fun x => by kernel_rfl

noncomputable def s_l15Code (x : Ty.T (.pair TMedl (.pair TState .unit))) : Option (Ty.T (.pair (.int .i64) .unit)) :=
match s_IsMedl ((x.1.1, x.1.2.1, x.1.2.2.1, x.1.2.2.2.1, ()), ()) with
| none => none
| some v1 =>
match (!v1.1) with
| true =>
 some ((1 : Int), ())
| false =>
 match s_l15Belongs ((x.1.1, x.1.2.1, x.1.2.2.1, x.1.2.2.2.1, ()), (x.2.1.1, x.2.1.2.1, x.2.1.2.2.1, x.2.1.2.2.2.1, x.2.1.2.2.2.2.1, ()), ()) with
 | none => none
 | some v2 =>
 match (!v2.1) with
 | true =>
  some ((2 : Int), ())
 | false =>
  some ((0 : Int), ())
noncomputable def S_s_l15Code : Spec := ⟨(.pair TMedl (.pair TState .unit)), (.pair (.int .i64) .unit), .unit, rfl, s_l15Code⟩
noncomputable def σ_s_l15Code : FuncId → Option Spec := sig [(64, S_s_IsMedl), (65, S_s_l15Belongs)]
theorem σok_s_l15Code : ∀ f s, σ_s_l15Code f = some s → FnOK G0 Tryz.prog f s := sig_ok ⟨ok_s_IsMedl, ok_s_l15Belongs, trivial⟩
theorem ok_s_l15Code : FnOK G0 Tryz.prog 44 S_s_l15Code := fn_okS tab0 σok_s_l15Code Tryz.func44 [] (by kernel_rfl) (by exact trivial) fun x => by kernel_rfl

noncomputable def b_s_l01All_4 (x : (Ty.T (.pair (.list (.int .i64)) TCrc))) : Option ((Ty.T (.pair (.list (.int .i64)) TCrc)) ⊕ ((Ty.T .unit) ⊕ (Ty.T (.pair .bool .unit)))) :=
match (decide (x.2.2.1 < (x.1.length : Int))) with
| true =>
 onSome (idx x.1 x.2.2.1) fun v1 =>
 match s_l01In (v1, (0 : Int), x.2.1, ()) with
 | none => none
 | some v2 =>
 match (!v2.1) with
 | true =>
  some (.inr (.inr (false, ())))
 | false =>
  some (.inl (x.1, x.2.1, (IntKind.i64.wrap (x.2.2.1 + (1 : Int))), ()))
| false =>
 some (.inr (.inl (())))
noncomputable def s_l01All (x : Ty.T (.pair (.list (.int .i64)) TCrc)) : Option (Ty.T (.pair .bool .unit)) :=
match (decide ((x.1.length : Int) > x.2.1)) with
| true =>
 some (false, ())
| false =>
 match loopL b_s_l01All_4 (x.1, x.2.2.1, (0 : Int), ()) with
 | none => none
 | some (.inl v3) =>
  some (true, ())
 | some (.inr v4) =>
  some (v4.1, ())
noncomputable def S_s_l01All : Spec := ⟨(.pair (.list (.int .i64)) TCrc), (.pair .bool .unit), .unit, rfl, s_l01All⟩
noncomputable def σ_s_l01All : FuncId → Option Spec := sig [(87, S_s_l01In)]
theorem σok_s_l01All : ∀ f s, σ_s_l01All f = some s → FnOK G0 Tryz.prog f s := sig_ok ⟨ok_s_l01In, trivial⟩
def q_s_l01All_4 : LRow := ⟨[0, 2, 7], (.pair (.list (.int .i64)) TCrc), 0, [], .unit, [6], (.pair .bool .unit)⟩
noncomputable def ls_s_l01All : List LSpec := [q_s_l01All_4.spec b_s_l01All_4]
theorem lok_s_l01All_4 : Lok Γ0 E0 σ_s_l01All (lam Tryz.f66 ls_s_l01All) Tryz.f66 0 q_s_l01All_4 b_s_l01All_4 := fun x => by kernel_rfl
theorem ok_s_l01All : FnOK G0 Tryz.prog 66 S_s_l01All := fn_okS tab0 σok_s_l01All Tryz.func66 ls_s_l01All (by kernel_rfl) (by exact ⟨(lok_s_l01All_4).lok, trivial⟩) fun x => by kernel_rfl

noncomputable def s_IsBits (x : Ty.T (.pair (.list (.int .i64)) .unit)) : Option (Ty.T (.pair .bool .unit)) :=
match s_l01All (x.1, (8192 : Int), (1 : Int), ()) with
| none => none
| some v1 =>
some (v1.1, ())
noncomputable def S_s_IsBits : Spec := ⟨(.pair (.list (.int .i64)) .unit), (.pair .bool .unit), .unit, rfl, s_IsBits⟩
noncomputable def σ_s_IsBits : FuncId → Option Spec := sig [(66, S_s_l01All)]
theorem σok_s_IsBits : ∀ f s, σ_s_IsBits f = some s → FnOK G0 Tryz.prog f s := sig_ok ⟨ok_s_l01All, trivial⟩
theorem ok_s_IsBits : FnOK G0 Tryz.prog 45 S_s_IsBits := fn_okS tab0 σok_s_IsBits Tryz.func45 [] (by kernel_rfl) (by exact trivial) fun x => by kernel_rfl

noncomputable def s_l28Code (x : Ty.T (.pair TMedl (.pair TState (.pair (.list (.int .i64)) .unit)))) : Option (Ty.T (.pair (.int .i64) .unit)) :=
match s_l15Code ((x.1.1, x.1.2.1, x.1.2.2.1, x.1.2.2.2.1, ()), (x.2.1.1, x.2.1.2.1, x.2.1.2.2.1, x.2.1.2.2.2.1, x.2.1.2.2.2.2.1, ()), ()) with
| none => none
| some v1 =>
match (v1.1 == (0 : Int)) with
| true =>
 match s_IsBits (x.2.2.1, ()) with
 | none => none
 | some v2 =>
 match (!v2.1) with
 | true =>
  some ((2 : Int), ())
 | false =>
  some (v1.1, ())
| false =>
 some (v1.1, ())
noncomputable def S_s_l28Code : Spec := ⟨(.pair TMedl (.pair TState (.pair (.list (.int .i64)) .unit))), (.pair (.int .i64) .unit), .unit, rfl, s_l28Code⟩
noncomputable def σ_s_l28Code : FuncId → Option Spec := sig [(44, S_s_l15Code), (45, S_s_IsBits)]
theorem σok_s_l28Code : ∀ f s, σ_s_l28Code f = some s → FnOK G0 Tryz.prog f s := sig_ok ⟨ok_s_l15Code, ok_s_IsBits, trivial⟩
theorem ok_s_l28Code : FnOK G0 Tryz.prog 23 S_s_l28Code := fn_okS tab0 σok_s_l28Code Tryz.func23 [] (by kernel_rfl) (by exact trivial) fun x => by kernel_rfl

noncomputable def b_s_l23First_2 (x : (Ty.T (.pair (.list (.int .i64)) TCrc))) : Option ((Ty.T (.pair (.list (.int .i64)) TCrc)) ⊕ ((Ty.T .unit) ⊕ (Ty.T (.pair (.int .i64) .unit)))) :=
match (decide (x.2.2.1 < (x.1.length : Int))) with
| true =>
 onSome (idx x.1 x.2.2.1) fun v1 =>
 match (v1 == x.2.1) with
 | true =>
  some (.inr (.inr (x.2.2.1, ())))
 | false =>
  some (.inl (x.1, x.2.1, (IntKind.i64.wrap (x.2.2.1 + (1 : Int))), ()))
| false =>
 some (.inr (.inl (())))
noncomputable def s_l23First (x : Ty.T (.pair (.list (.int .i64)) TCrc)) : Option (Ty.T (.pair (.int .i64) .unit)) :=
match loopL b_s_l23First_2 (x.1, x.2.2.1, (IntKind.i64.wrap (x.2.1 + (1 : Int))), ()) with
| none => none
| some (.inl v2) =>
 some ((-1 : Int), ())
| some (.inr v3) =>
 some (v3.1, ())
noncomputable def S_s_l23First : Spec := ⟨(.pair (.list (.int .i64)) TCrc), (.pair (.int .i64) .unit), .unit, rfl, s_l23First⟩
noncomputable def σ_s_l23First : FuncId → Option Spec := sig []
theorem σok_s_l23First : ∀ f s, σ_s_l23First f = some s → FnOK G0 Tryz.prog f s := sig_ok trivial
def q_s_l23First_2 : LRow := ⟨[0, 2, 7], (.pair (.list (.int .i64)) TCrc), 0, [], .unit, [6], (.pair (.int .i64) .unit)⟩
noncomputable def ls_s_l23First : List LSpec := [q_s_l23First_2.spec b_s_l23First_2]
theorem lok_s_l23First_2 : Lok Γ0 E0 σ_s_l23First (lam Tryz.f170 ls_s_l23First) Tryz.f170 0 q_s_l23First_2 b_s_l23First_2 := fun x => by kernel_rfl
theorem ok_s_l23First : FnOK G0 Tryz.prog 170 S_s_l23First := fn_okS tab0 σok_s_l23First Tryz.func170 ls_s_l23First (by kernel_rfl) (by exact ⟨(lok_s_l23First_2).lok, trivial⟩) fun x => by kernel_rfl

noncomputable def s_l22Round (x : Ty.T (.pair (.int .i64) .unit)) : Option (Ty.T (.pair (.int .i64) .unit)) :=
some ((IntKind.i64.wrap (Int.tdiv (IntKind.i64.wrap (x.1 + (4 : Int))) (8 : Int))), ())
noncomputable def S_s_l22Round : Spec := ⟨(.pair (.int .i64) .unit), (.pair (.int .i64) .unit), .unit, rfl, s_l22Round⟩
noncomputable def σ_s_l22Round : FuncId → Option Spec := sig []
theorem σok_s_l22Round : ∀ f s, σ_s_l22Round f = some s → FnOK G0 Tryz.prog f s := sig_ok trivial
theorem ok_s_l22Round : FnOK G0 Tryz.prog 171 S_s_l22Round := fn_okS tab0 σok_s_l22Round Tryz.func171 [] (by kernel_rfl) (by exact trivial) fun x => by kernel_rfl

noncomputable def s_l18Preamble (x : Ty.T (.pair (.int .i64) .unit)) : Option (Ty.T (.pair .bool .unit)) :=
match s_l01In (x.1, (3 : Int), (15 : Int), ()) with
| none => none
| some v1 =>
some (v1.1, ())
noncomputable def S_s_l18Preamble : Spec := ⟨(.pair (.int .i64) .unit), (.pair .bool .unit), .unit, rfl, s_l18Preamble⟩
noncomputable def σ_s_l18Preamble : FuncId → Option Spec := sig [(87, S_s_l01In)]
theorem σok_s_l18Preamble : ∀ f s, σ_s_l18Preamble f = some s → FnOK G0 Tryz.prog f s := sig_ok ⟨ok_s_l01In, trivial⟩
theorem ok_s_l18Preamble : FnOK G0 Tryz.prog 172 S_s_l18Preamble := fn_okS tab0 σok_s_l18Preamble Tryz.func172 [] (by kernel_rfl) (by exact trivial) fun x => by kernel_rfl

noncomputable def s_l23Tail (x : Ty.T (.pair (.list (.int .i64)) (.pair (.int .i64) .unit))) : Option (Ty.T (.pair (.int .i64) .unit)) :=
match s_l23First (x.1, (IntKind.i64.wrap (x.2.1 + (11 : Int))), (0 : Int), ()) with
| none => none
| some v1 =>
match (decide (v1.1 ≥ (0 : Int))) with
| true =>
 some ((6 : Int), ())
| false =>
 some ((0 : Int), ())
noncomputable def S_s_l23Tail : Spec := ⟨(.pair (.list (.int .i64)) (.pair (.int .i64) .unit)), (.pair (.int .i64) .unit), .unit, rfl, s_l23Tail⟩
noncomputable def σ_s_l23Tail : FuncId → Option Spec := sig [(170, S_s_l23First)]
theorem σok_s_l23Tail : ∀ f s, σ_s_l23Tail f = some s → FnOK G0 Tryz.prog f s := sig_ok ⟨ok_s_l23First, trivial⟩
theorem ok_s_l23Tail : FnOK G0 Tryz.prog 173 S_s_l23Tail := fn_okS tab0 σok_s_l23Tail Tryz.func173 [] (by kernel_rfl) (by exact trivial) fun x => by kernel_rfl

noncomputable def s_l23At (x : Ty.T (.pair (.list (.int .i64)) (.pair (.int .i64) .unit))) : Option (Ty.T (.pair (.int .i64) .unit)) :=
match (decide (x.2.1 ≥ (x.1.length : Int))) with
| true =>
 some ((1 : Int), ())
| false =>
 onSome (idx x.1 x.2.1) fun v1 =>
 some (v1, ())
noncomputable def S_s_l23At : Spec := ⟨(.pair (.list (.int .i64)) (.pair (.int .i64) .unit)), (.pair (.int .i64) .unit), .unit, rfl, s_l23At⟩
noncomputable def σ_s_l23At : FuncId → Option Spec := sig []
theorem σok_s_l23At : ∀ f s, σ_s_l23At f = some s → FnOK G0 Tryz.prog f s := sig_ok trivial
theorem ok_s_l23At : FnOK G0 Tryz.prog 122 S_s_l23At := fn_okS tab0 σok_s_l23At Tryz.func122 [] (by kernel_rfl) (by exact trivial) fun x => by kernel_rfl

noncomputable def b_s_l23Edges_2 (x : (Ty.T (.pair (.list (.int .i64)) (.pair (.int .i64) (.pair (.own 2 (.int .i64)) .unit))))) : Option ((Ty.T (.pair (.list (.int .i64)) (.pair (.int .i64) (.pair (.own 2 (.int .i64)) .unit)))) ⊕ ((Ty.T .unit) ⊕ (Ty.T (.pair (.own 2 (.int .i64)) (.pair (.int .i64) .unit))))) :=
room (x.2.2.1.length + [x.2.1].length) (
 match s_l23At (x.1, (IntKind.i64.wrap (x.2.1 + (76 : Int))), ()) with
 | none => none
 | some v1 =>
 match (v1.1 == (0 : Int)) with
 | true =>
  match s_l23Tail (x.1, (IntKind.i64.wrap (x.2.1 + (72 : Int))), ()) with
  | none => none
  | some v2 =>
  some (.inr (.inr ((x.2.2.1 ++ [x.2.1]), v2.1, ())))
 | false =>
  match s_l23First (x.1, (IntKind.i64.wrap (x.2.1 + (76 : Int))), (0 : Int), ()) with
  | none => none
  | some v3 =>
  match (decide (v3.1 < (0 : Int))) with
  | true =>
   some (.inr (.inr ([], (6 : Int), ())))
  | false =>
   match (decide (v3.1 > (IntKind.i64.wrap (x.2.1 + (84 : Int))))) with
   | true =>
    some (.inr (.inr ([], (6 : Int), ())))
   | false =>
    some (.inl (x.1, v3.1, (x.2.2.1 ++ [x.2.1]), ())))
noncomputable def s_l23Edges (x : Ty.T (.pair (.list (.int .i64)) (.pair (.int .i64) .unit))) : Option (Ty.T (.pair (.own 2 (.int .i64)) (.pair (.int .i64) .unit))) :=
match loopL b_s_l23Edges_2 (x.1, x.2.1, [], ()) with
| none => none
| some (.inl v4) =>
 none
| some (.inr v5) =>
 some (v5.1, v5.2.1, ())
noncomputable def S_s_l23Edges : Spec := ⟨(.pair (.list (.int .i64)) (.pair (.int .i64) .unit)), (.pair (.own 2 (.int .i64)) (.pair (.int .i64) .unit)), .unit, rfl, s_l23Edges⟩
noncomputable def σ_s_l23Edges : FuncId → Option Spec := sig [(122, S_s_l23At), (170, S_s_l23First), (173, S_s_l23Tail)]
theorem σok_s_l23Edges : ∀ f s, σ_s_l23Edges f = some s → FnOK G0 Tryz.prog f s := sig_ok ⟨ok_s_l23At, ok_s_l23First, ok_s_l23Tail, trivial⟩
def q_s_l23Edges_2 : LRow := ⟨[0, 1, 6], (.pair (.list (.int .i64)) (.pair (.int .i64) (.pair (.own 2 (.int .i64)) .unit))), 999999, [], .unit, [4, 5], (.pair (.own 2 (.int .i64)) (.pair (.int .i64) .unit))⟩
noncomputable def ls_s_l23Edges : List LSpec := [q_s_l23Edges_2.spec b_s_l23Edges_2]
theorem lok_s_l23Edges_2 : Lok Γ0 E0 σ_s_l23Edges (lam Tryz.f174 ls_s_l23Edges) Tryz.f174 0 q_s_l23Edges_2 b_s_l23Edges_2 := fun x => by kernel_rfl
theorem ok_s_l23Edges : FnOK G0 Tryz.prog 174 S_s_l23Edges := fn_okS tab0 σok_s_l23Edges Tryz.func174 ls_s_l23Edges (by kernel_rfl) (by exact ⟨(lok_s_l23Edges_2).lok, trivial⟩) fun x => by kernel_rfl

noncomputable def s_l23Run (x : Ty.T (.pair (.list (.int .i64)) .unit)) : Option (Ty.T (.pair Tl23Result .unit)) :=
match s_l23First (x.1, (-1 : Int), (0 : Int), ()) with
| none => none
| some v1 =>
match (decide (v1.1 < (0 : Int))) with
| true =>
 some (((0 : Int), [], (4 : Int), ()), ())
| false =>
 match s_l23First (x.1, v1.1, (1 : Int), ()) with
 | none => none
 | some v2 =>
 match (decide (v2.1 < (0 : Int))) with
 | true =>
  match s_l22Round ((IntKind.i64.wrap ((x.1.length : Int) - v1.1)), ()) with
  | none => none
  | some v3 =>
  match s_l23First (x.1, (x.1.length : Int), (0 : Int), ()) with
  | none => none
  | some v4 =>
  match s_l18Preamble (v3.1, ()) with
  | none => none
  | some v5 =>
  match (!v5.1) with
  | true =>
   some (((0 : Int), [], (6 : Int), ()), ())
  | false =>
   match (decide (v4.1 < (0 : Int))) with
   | true =>
    some (((0 : Int), [], (6 : Int), ()), ())
   | false =>
    match (decide ((IntKind.i64.wrap (v4.1 - (x.1.length : Int))) > (19 : Int))) with
    | true =>
     some (((0 : Int), [], (6 : Int), ()), ())
    | false =>
     match (decide ((IntKind.i64.wrap (v4.1 - (x.1.length : Int))) < (5 : Int))) with
     | true =>
      some (((0 : Int), [], (6 : Int), ()), ())
     | false =>
      match ((IntKind.i64.wrap (v4.1 - (x.1.length : Int))) == (12 : Int)) with
      | true =>
       some (((0 : Int), [], (6 : Int), ()), ())
      | false =>
       match (decide ((IntKind.i64.wrap (v4.1 - (x.1.length : Int))) < (12 : Int))) with
       | true =>
        match s_l23Tail (x.1, v4.1, ()) with
        | none => none
        | some v6 =>
        some ((v3.1, [], v6.1, ()), ())
       | false =>
        match s_l23Edges (x.1, v4.1, ()) with
        | none => none
        | some v7 =>
        some ((v3.1, v7.1, v7.2.1, ()), ())
 | false =>
  match s_l22Round ((IntKind.i64.wrap (v2.1 - v1.1)), ()) with
  | none => none
  | some v8 =>
  match s_l23First (x.1, v2.1, (0 : Int), ()) with
  | none => none
  | some v9 =>
  match s_l18Preamble (v8.1, ()) with
  | none => none
  | some v10 =>
  match (!v10.1) with
  | true =>
   some (((0 : Int), [], (6 : Int), ()), ())
  | false =>
   match (decide (v9.1 < (0 : Int))) with
   | true =>
    some (((0 : Int), [], (6 : Int), ()), ())
   | false =>
    match (decide ((IntKind.i64.wrap (v9.1 - v2.1)) > (19 : Int))) with
    | true =>
     some (((0 : Int), [], (6 : Int), ()), ())
    | false =>
     match (decide ((IntKind.i64.wrap (v9.1 - v2.1)) < (5 : Int))) with
     | true =>
      some (((0 : Int), [], (6 : Int), ()), ())
     | false =>
      match ((IntKind.i64.wrap (v9.1 - v2.1)) == (12 : Int)) with
      | true =>
       some (((0 : Int), [], (6 : Int), ()), ())
      | false =>
       match (decide ((IntKind.i64.wrap (v9.1 - v2.1)) < (12 : Int))) with
       | true =>
        match s_l23Tail (x.1, v9.1, ()) with
        | none => none
        | some v11 =>
        some ((v8.1, [], v11.1, ()), ())
       | false =>
        match s_l23Edges (x.1, v9.1, ()) with
        | none => none
        | some v12 =>
        some ((v8.1, v12.1, v12.2.1, ()), ())
noncomputable def S_s_l23Run : Spec := ⟨(.pair (.list (.int .i64)) .unit), (.pair Tl23Result .unit), .unit, rfl, s_l23Run⟩
noncomputable def σ_s_l23Run : FuncId → Option Spec := sig [(170, S_s_l23First), (171, S_s_l22Round), (172, S_s_l18Preamble), (173, S_s_l23Tail), (174, S_s_l23Edges)]
theorem σok_s_l23Run : ∀ f s, σ_s_l23Run f = some s → FnOK G0 Tryz.prog f s := sig_ok ⟨ok_s_l23First, ok_s_l22Round, ok_s_l18Preamble, ok_s_l23Tail, ok_s_l23Edges, trivial⟩
theorem ok_s_l23Run : FnOK G0 Tryz.prog 121 S_s_l23Run := fn_okS tab0 σok_s_l23Run Tryz.func121 [] (by kernel_rfl) (by exact trivial) fun x => by kernel_rfl

noncomputable def s_l23Code (x : Ty.T (.pair (.list (.int .i64)) .unit)) : Option (Ty.T (.pair Tl23Result (.pair (.int .i64) .unit))) :=
match s_IsBits (x.1, ()) with
| none => none
| some v1 =>
match (!v1.1) with
| true =>
 some (((0 : Int), [], (0 : Int), ()), (1 : Int), ())
| false =>
 match s_l23Run (x.1, ()) with
 | none => none
 | some v2 =>
 some ((v2.1.1, v2.1.2.1, v2.1.2.2.1, ()), v2.1.2.2.1, ())
noncomputable def S_s_l23Code : Spec := ⟨(.pair (.list (.int .i64)) .unit), (.pair Tl23Result (.pair (.int .i64) .unit)), .unit, rfl, s_l23Code⟩
noncomputable def σ_s_l23Code : FuncId → Option Spec := sig [(45, S_s_IsBits), (121, S_s_l23Run)]
theorem σok_s_l23Code : ∀ f s, σ_s_l23Code f = some s → FnOK G0 Tryz.prog f s := sig_ok ⟨ok_s_IsBits, ok_s_l23Run, trivial⟩
theorem ok_s_l23Code : FnOK G0 Tryz.prog 88 S_s_l23Code := fn_okS tab0 σok_s_l23Code Tryz.func88 [] (by kernel_rfl) (by exact trivial) fun x => by kernel_rfl

noncomputable def b_s_l23Bytes_7 (x : (Ty.T (.pair (.list (.int .i64)) (.pair (.list (.int .i64)) (.pair (.own 2 (.int .i64)) (.pair (.int .i64) TCrc)))))) : Option ((Ty.T (.pair (.list (.int .i64)) (.pair (.list (.int .i64)) (.pair (.own 2 (.int .i64)) (.pair (.int .i64) TCrc))))) ⊕ ((Ty.T (.pair (.list (.int .i64)) (.pair (.list (.int .i64)) (.pair (.own 2 (.int .i64)) TCrc)))) ⊕ (Ty.T .unit))) :=
match (decide (x.2.2.2.2.2.1 < (8 : Int))) with
| true =>
 onSome (idx x.2.1 x.2.2.2.1) fun v1 =>
 match s_l23At (x.1, (IntKind.i64.wrap ((IntKind.i64.wrap (v1 + (IntKind.i64.wrap ((8 : Int) * x.2.2.2.2.2.1)))) + (12 : Int))), ()) with
 | none => none
 | some v2 =>
 some (.inl (x.1, x.2.1, x.2.2.1, x.2.2.2.1, (IntKind.i64.wrap ((IntKind.i64.wrap ((2 : Int) * x.2.2.2.2.1)) + v2.1)), (IntKind.i64.wrap (x.2.2.2.2.2.1 + (1 : Int))), ()))
| false =>
 some (.inr (.inl (x.1, x.2.1, x.2.2.1, x.2.2.2.1, x.2.2.2.2.1, ())))
noncomputable def b_s_l23Bytes_3 (x : (Ty.T (.pair (.list (.int .i64)) (.pair (.list (.int .i64)) (.pair (.own 2 (.int .i64)) (.pair (.int .i64) .unit)))))) : Option ((Ty.T (.pair (.list (.int .i64)) (.pair (.list (.int .i64)) (.pair (.own 2 (.int .i64)) (.pair (.int .i64) .unit))))) ⊕ ((Ty.T (.pair (.own 2 (.int .i64)) .unit)) ⊕ (Ty.T .unit))) :=
match (decide (x.2.2.2.1 < (x.2.1.length : Int))) with
| true =>
 match loopL b_s_l23Bytes_7 (x.1, x.2.1, x.2.2.1, x.2.2.2.1, (0 : Int), (0 : Int), ()) with
 | none => none
 | some (.inl v1) =>
  room (v1.2.2.1.length + [v1.2.2.2.2.1].length) (
   some (.inl (v1.1, v1.2.1, (v1.2.2.1 ++ [v1.2.2.2.2.1]), (IntKind.i64.wrap (v1.2.2.2.1 + (1 : Int))), ())))
 | some (.inr v3) =>
  some (.inr (.inr (())))
| false =>
 some (.inr (.inl (x.2.2.1, ())))
noncomputable def s_l23Bytes (x : Ty.T (.pair (.list (.int .i64)) (.pair (.list (.int .i64)) .unit))) : Option (Ty.T (.pair (.own 2 (.int .i64)) .unit)) :=
match loopL b_s_l23Bytes_3 (x.1, x.2.1, [], (0 : Int), ()) with
| none => none
| some (.inl v4) =>
 some (v4.1, ())
| some (.inr v6) =>
 none
noncomputable def S_s_l23Bytes : Spec := ⟨(.pair (.list (.int .i64)) (.pair (.list (.int .i64)) .unit)), (.pair (.own 2 (.int .i64)) .unit), .unit, rfl, s_l23Bytes⟩
noncomputable def σ_s_l23Bytes : FuncId → Option Spec := sig [(122, S_s_l23At)]
theorem σok_s_l23Bytes : ∀ f s, σ_s_l23Bytes f = some s → FnOK G0 Tryz.prog f s := sig_ok ⟨ok_s_l23At, trivial⟩
def q_s_l23Bytes_3 : LRow := ⟨[0, 1, 5, 6], (.pair (.list (.int .i64)) (.pair (.list (.int .i64)) (.pair (.own 2 (.int .i64)) (.pair (.int .i64) .unit)))), 0, [5], (.pair (.own 2 (.int .i64)) .unit), [], .unit⟩
def q_s_l23Bytes_7 : LRow := ⟨[0, 1, 5, 6, 7, 8], (.pair (.list (.int .i64)) (.pair (.list (.int .i64)) (.pair (.own 2 (.int .i64)) (.pair (.int .i64) TCrc)))), 2, [0, 1, 5, 6, 7], (.pair (.list (.int .i64)) (.pair (.list (.int .i64)) (.pair (.own 2 (.int .i64)) TCrc))), [], .unit⟩
noncomputable def ls_s_l23Bytes : List LSpec := [q_s_l23Bytes_3.spec b_s_l23Bytes_3, q_s_l23Bytes_7.spec b_s_l23Bytes_7]
theorem lok_s_l23Bytes_3 : Lok Γ0 E0 σ_s_l23Bytes (lam Tryz.f89 ls_s_l23Bytes) Tryz.f89 0 q_s_l23Bytes_3 b_s_l23Bytes_3 := fun x => by kernel_rfl
theorem lok_s_l23Bytes_7 : Lok Γ0 E0 σ_s_l23Bytes (lam Tryz.f89 ls_s_l23Bytes) Tryz.f89 1 q_s_l23Bytes_7 b_s_l23Bytes_7 := fun x => by kernel_rfl
theorem ok_s_l23Bytes : FnOK G0 Tryz.prog 89 S_s_l23Bytes := fn_okS tab0 σok_s_l23Bytes Tryz.func89 ls_s_l23Bytes (by kernel_rfl) (by exact ⟨(lok_s_l23Bytes_3).lok, (lok_s_l23Bytes_7).lok, trivial⟩) fun x => by kernel_rfl

noncomputable def s_DecodeVoted (x : Ty.T (.pair (.list (.int .i64)) .unit)) : Option (Ty.T (.pair (.own 2 (.int .i64)) (.pair (.int .i64) .unit))) :=
match s_l23Code (x.1, ()) with
| none => none
| some v1 =>
match (v1.2.1 != (0 : Int)) with
| true =>
 some ([], v1.2.1, ())
| false =>
 match s_l23Bytes (x.1, v1.1.2.1, ()) with
 | none => none
 | some v2 =>
 some (v2.1, (0 : Int), ())
noncomputable def S_s_DecodeVoted : Spec := ⟨(.pair (.list (.int .i64)) .unit), (.pair (.own 2 (.int .i64)) (.pair (.int .i64) .unit)), .unit, rfl, s_DecodeVoted⟩
noncomputable def σ_s_DecodeVoted : FuncId → Option Spec := sig [(88, S_s_l23Code), (89, S_s_l23Bytes)]
theorem σok_s_DecodeVoted : ∀ f s, σ_s_DecodeVoted f = some s → FnOK G0 Tryz.prog f s := sig_ok ⟨ok_s_l23Code, ok_s_l23Bytes, trivial⟩
theorem ok_s_DecodeVoted : FnOK G0 Tryz.prog 67 S_s_DecodeVoted := fn_okS tab0 σok_s_DecodeVoted Tryz.func67 [] (by kernel_rfl) (by exact trivial) fun x => by kernel_rfl

noncomputable def b_s_l21Ones_3 (x : (Ty.T (.pair (.list (.int .i64)) (.pair (.int .i64) TCrc)))) : Option ((Ty.T (.pair (.list (.int .i64)) (.pair (.int .i64) TCrc))) ⊕ ((Ty.T (.pair (.int .i64) .unit)) ⊕ (Ty.T .unit))) :=
match (decide (x.2.2.2.1 ≤ x.2.1)) with
| true =>
 match (decide (x.2.2.2.1 < (0 : Int))) with
 | true =>
  some (.inl (x.1, x.2.1, (IntKind.i64.wrap (x.2.2.1 + (1 : Int))), (IntKind.i64.wrap (x.2.2.2.1 + (1 : Int))), ()))
 | false =>
  onSome (idx x.1 x.2.2.2.1) fun v1 =>
  some (.inl (x.1, x.2.1, (IntKind.i64.wrap (x.2.2.1 + v1)), (IntKind.i64.wrap (x.2.2.2.1 + (1 : Int))), ()))
| false =>
 some (.inr (.inl (x.2.2.1, ())))
noncomputable def s_l21Ones (x : Ty.T (.pair (.list (.int .i64)) (.pair (.int .i64) .unit))) : Option (Ty.T (.pair (.int .i64) .unit)) :=
match loopL b_s_l21Ones_3 (x.1, x.2.1, (0 : Int), (IntKind.i64.wrap ((IntKind.i64.wrap (x.2.1 - (5 : Int))) + (1 : Int))), ()) with
| none => none
| some (.inl v2) =>
 some (v2.1, ())
| some (.inr v4) =>
 none
noncomputable def S_s_l21Ones : Spec := ⟨(.pair (.list (.int .i64)) (.pair (.int .i64) .unit)), (.pair (.int .i64) .unit), .unit, rfl, s_l21Ones⟩
noncomputable def σ_s_l21Ones : FuncId → Option Spec := sig []
theorem σok_s_l21Ones : ∀ f s, σ_s_l21Ones f = some s → FnOK G0 Tryz.prog f s := sig_ok trivial
def q_s_l21Ones_3 : LRow := ⟨[0, 1, 5, 6], (.pair (.list (.int .i64)) (.pair (.int .i64) TCrc)), 0, [5], (.pair (.int .i64) .unit), [], .unit⟩
noncomputable def ls_s_l21Ones : List LSpec := [q_s_l21Ones_3.spec b_s_l21Ones_3]
theorem lok_s_l21Ones_3 : Lok Γ0 E0 σ_s_l21Ones (lam Tryz.f90 ls_s_l21Ones) Tryz.f90 0 q_s_l21Ones_3 b_s_l21Ones_3 := fun x => by kernel_rfl
theorem ok_s_l21Ones : FnOK G0 Tryz.prog 90 S_s_l21Ones := fn_okS tab0 σok_s_l21Ones Tryz.func90 ls_s_l21Ones (by kernel_rfl) (by exact ⟨(lok_s_l21Ones_3).lok, trivial⟩) fun x => by kernel_rfl

noncomputable def b_s_l21Vote_3 (x : (Ty.T (.pair (.list (.int .i64)) (.pair (.own 2 (.int .i64)) (.pair (.int .i64) .unit))))) : Option ((Ty.T (.pair (.list (.int .i64)) (.pair (.own 2 (.int .i64)) (.pair (.int .i64) .unit)))) ⊕ ((Ty.T (.pair (.own 2 (.int .i64)) .unit)) ⊕ (Ty.T .unit))) :=
match (decide (x.2.2.1 < (x.1.length : Int))) with
| true =>
 match s_l21Ones (x.1, x.2.2.1, ()) with
 | none => none
 | some v1 =>
 match (decide (v1.1 ≥ (3 : Int))) with
 | true =>
  room (x.2.1.length + [(1 : Int)].length) (
   some (.inl (x.1, (x.2.1 ++ [(1 : Int)]), (IntKind.i64.wrap (x.2.2.1 + (1 : Int))), ())))
 | false =>
  room (x.2.1.length + [(0 : Int)].length) (
   some (.inl (x.1, (x.2.1 ++ [(0 : Int)]), (IntKind.i64.wrap (x.2.2.1 + (1 : Int))), ())))
| false =>
 some (.inr (.inl (x.2.1, ())))
noncomputable def s_l21Vote (x : Ty.T (.pair (.list (.int .i64)) .unit)) : Option (Ty.T (.pair (.own 2 (.int .i64)) .unit)) :=
match loopL b_s_l21Vote_3 (x.1, [], (0 : Int), ()) with
| none => none
| some (.inl v2) =>
 some (v2.1, ())
| some (.inr v4) =>
 none
noncomputable def S_s_l21Vote : Spec := ⟨(.pair (.list (.int .i64)) .unit), (.pair (.own 2 (.int .i64)) .unit), .unit, rfl, s_l21Vote⟩
noncomputable def σ_s_l21Vote : FuncId → Option Spec := sig [(90, S_s_l21Ones)]
theorem σok_s_l21Vote : ∀ f s, σ_s_l21Vote f = some s → FnOK G0 Tryz.prog f s := sig_ok ⟨ok_s_l21Ones, trivial⟩
def q_s_l21Vote_3 : LRow := ⟨[0, 3, 4], (.pair (.list (.int .i64)) (.pair (.own 2 (.int .i64)) (.pair (.int .i64) .unit))), 0, [3], (.pair (.own 2 (.int .i64)) .unit), [], .unit⟩
noncomputable def ls_s_l21Vote : List LSpec := [q_s_l21Vote_3.spec b_s_l21Vote_3]
theorem lok_s_l21Vote_3 : Lok Γ0 E0 σ_s_l21Vote (lam Tryz.f68 ls_s_l21Vote) Tryz.f68 0 q_s_l21Vote_3 b_s_l21Vote_3 := fun x => by kernel_rfl
theorem ok_s_l21Vote : FnOK G0 Tryz.prog 68 S_s_l21Vote := fn_okS tab0 σok_s_l21Vote Tryz.func68 ls_s_l21Vote (by kernel_rfl) (by exact ⟨(lok_s_l21Vote_3).lok, trivial⟩) fun x => by kernel_rfl

noncomputable def s_DecodeSamples (x : Ty.T (.pair (.list (.int .i64)) .unit)) : Option (Ty.T (.pair (.own 2 (.int .i64)) (.pair (.int .i64) .unit))) :=
match s_IsBits (x.1, ()) with
| none => none
| some v1 =>
match (!v1.1) with
| true =>
 some ([], (1 : Int), ())
| false =>
 match s_l21Vote (x.1, ()) with
 | none => none
 | some v2 =>
 match s_DecodeVoted (v2.1, ()) with
 | none => none
 | some v3 =>
 some (v3.1, v3.2.1, ())
noncomputable def S_s_DecodeSamples : Spec := ⟨(.pair (.list (.int .i64)) .unit), (.pair (.own 2 (.int .i64)) (.pair (.int .i64) .unit)), .unit, rfl, s_DecodeSamples⟩
noncomputable def σ_s_DecodeSamples : FuncId → Option Spec := sig [(45, S_s_IsBits), (67, S_s_DecodeVoted), (68, S_s_l21Vote)]
theorem σok_s_DecodeSamples : ∀ f s, σ_s_DecodeSamples f = some s → FnOK G0 Tryz.prog f s := sig_ok ⟨ok_s_IsBits, ok_s_DecodeVoted, ok_s_l21Vote, trivial⟩
theorem ok_s_DecodeSamples : FnOK G0 Tryz.prog 46 S_s_DecodeSamples := fn_okS tab0 σok_s_DecodeSamples Tryz.func46 [] (by kernel_rfl) (by exact trivial) fun x => by kernel_rfl

noncomputable def b_s_l02Feed_3 (x : (Ty.T (.pair (.int .i64) (.pair (.list (.int .i64)) (.pair (.box TCrc) TCrc))))) : Option ((Ty.T (.pair (.int .i64) (.pair (.list (.int .i64)) (.pair (.box TCrc) TCrc)))) ⊕ ((Ty.T (.pair (.int .i64) .unit)) ⊕ (Ty.T .unit))) :=
match (decide (x.2.2.2.2.1 < (x.2.1.length : Int))) with
| true =>
 if x.2.2.2.1 = 0 then none else
 onSome (idx x.2.1 x.2.2.2.2.1) fun v1 =>
 if x.2.2.2.1 = 0 then none else
 match ((bits BinOp.xor .i64 (IntKind.i64.wrap (Int.tdiv x.1 x.2.2.2.1)) v1) == (1 : Int)) with
 | true =>
  some (.inl ((bits BinOp.xor .i64 (IntKind.i64.wrap ((Int.tmod x.1 x.2.2.2.1) * (2 : Int))) x.2.2.1.2.1), x.2.1, (x.2.2.1.1, x.2.2.1.2.1, ()), x.2.2.2.1, (IntKind.i64.wrap (x.2.2.2.2.1 + (1 : Int))), ()))
 | false =>
  some (.inl ((IntKind.i64.wrap ((Int.tmod x.1 x.2.2.2.1) * (2 : Int))), x.2.1, (x.2.2.1.1, x.2.2.1.2.1, ()), x.2.2.2.1, (IntKind.i64.wrap (x.2.2.2.2.1 + (1 : Int))), ()))
| false =>
 some (.inr (.inl (x.1, ())))
noncomputable def s_l02Feed (x : Ty.T (.pair TCrc (.pair (.int .i64) (.pair (.list (.int .i64)) .unit)))) : Option (Ty.T (.pair (.int .i64) .unit)) :=
if (IntKind.u64.wrap (IntKind.i64.wrap (x.1.1 - (1 : Int)))) < 0 then none else
match loopL b_s_l02Feed_3 (x.2.1, x.2.2.1, (x.1.1, x.1.2.1, ()), (IntKind.i64.wrap ((1 : Int) * 2 ^ min (IntKind.u64.wrap (IntKind.i64.wrap (x.1.1 - (1 : Int)))).toNat IntKind.i64.bits)), (0 : Int), ()) with
| none => none
| some (.inl v2) =>
 some (v2.1, ())
| some (.inr v4) =>
 none
noncomputable def S_s_l02Feed : Spec := ⟨(.pair TCrc (.pair (.int .i64) (.pair (.list (.int .i64)) .unit))), (.pair (.int .i64) .unit), .unit, rfl, s_l02Feed⟩
noncomputable def σ_s_l02Feed : FuncId → Option Spec := sig []
theorem σok_s_l02Feed : ∀ f s, σ_s_l02Feed f = some s → FnOK G0 Tryz.prog f s := sig_ok trivial
def q_s_l02Feed_3 : LRow := ⟨[1, 2, 3, 7, 8], (.pair (.int .i64) (.pair (.list (.int .i64)) (.pair (.box TCrc) TCrc))), 0, [1], (.pair (.int .i64) .unit), [], .unit⟩
noncomputable def ls_s_l02Feed : List LSpec := [q_s_l02Feed_3.spec b_s_l02Feed_3]
theorem lok_s_l02Feed_3 : Lok Γ0 E0 σ_s_l02Feed (lam Tryz.f123 ls_s_l02Feed) Tryz.f123 0 q_s_l02Feed_3 b_s_l02Feed_3 := fun x => by kernel_rfl
theorem ok_s_l02Feed : FnOK G0 Tryz.prog 123 S_s_l02Feed := fn_okS tab0 σok_s_l02Feed Tryz.func123 ls_s_l02Feed (by kernel_rfl) (by exact ⟨(lok_s_l02Feed_3).lok, trivial⟩) fun x => by kernel_rfl

noncomputable def s_StandardCrc (x : Ty.T .unit) : Option (Ty.T (.pair TCrc .unit)) :=
some (((24 : Int), (6122955 : Int), ()), ())
noncomputable def S_s_StandardCrc : Spec := ⟨.unit, (.pair TCrc .unit), .unit, rfl, s_StandardCrc⟩
noncomputable def σ_s_StandardCrc : FuncId → Option Spec := sig []
theorem σok_s_StandardCrc : ∀ f s, σ_s_StandardCrc f = some s → FnOK G0 Tryz.prog f s := sig_ok trivial
theorem ok_s_StandardCrc : FnOK G0 Tryz.prog 124 S_s_StandardCrc := fn_okS tab0 σok_s_StandardCrc Tryz.func124 [] (by kernel_rfl) (by exact trivial) fun x => by kernel_rfl

noncomputable def b_s_l01Append_3 (x : (Ty.T (.pair (.int .i64) (.pair (.own 2 (.int .i64)) (.pair (.int .i64) .unit))))) : Option ((Ty.T (.pair (.int .i64) (.pair (.own 2 (.int .i64)) (.pair (.int .i64) .unit)))) ⊕ ((Ty.T (.pair (.own 2 (.int .i64)) .unit)) ⊕ (Ty.T .unit))) :=
match (decide (x.2.2.1 ≥ (0 : Int))) with
| true =>
 if (IntKind.u64.wrap x.2.2.1) < 0 then none else
 room (x.2.1.length + [(bits BinOp.and .i64 (Int.fdiv x.1 (2 ^ min (IntKind.u64.wrap x.2.2.1).toNat IntKind.i64.bits)) (1 : Int))].length) (
  some (.inl (x.1, (x.2.1 ++ [(bits BinOp.and .i64 (Int.fdiv x.1 (2 ^ min (IntKind.u64.wrap x.2.2.1).toNat IntKind.i64.bits)) (1 : Int))]), (IntKind.i64.wrap (x.2.2.1 - (1 : Int))), ())))
| false =>
 some (.inr (.inl (x.2.1, ())))
noncomputable def s_l01Append (x : Ty.T (.pair (.list (.int .i64)) TCrc)) : Option (Ty.T (.pair (.own 2 (.int .i64)) .unit)) :=
room (([] : List (Ty.T (.int .i64))).length + x.1.length) (
 match loopL b_s_l01Append_3 (x.2.1, (([] : List (Ty.T (.int .i64))) ++ x.1), (IntKind.i64.wrap (x.2.2.1 - (1 : Int))), ()) with
 | none => none
 | some (.inl v1) =>
  some (v1.1, ())
 | some (.inr v3) =>
  none)
noncomputable def S_s_l01Append : Spec := ⟨(.pair (.list (.int .i64)) TCrc), (.pair (.own 2 (.int .i64)) .unit), .unit, rfl, s_l01Append⟩
noncomputable def σ_s_l01Append : FuncId → Option Spec := sig []
theorem σok_s_l01Append : ∀ f s, σ_s_l01Append f = some s → FnOK G0 Tryz.prog f s := sig_ok trivial
def q_s_l01Append_3 : LRow := ⟨[1, 7, 8], (.pair (.int .i64) (.pair (.own 2 (.int .i64)) (.pair (.int .i64) .unit))), 0, [7], (.pair (.own 2 (.int .i64)) .unit), [], .unit⟩
noncomputable def ls_s_l01Append : List LSpec := [q_s_l01Append_3.spec b_s_l01Append_3]
theorem lok_s_l01Append_3 : Lok Γ0 E0 σ_s_l01Append (lam Tryz.f175 ls_s_l01Append) Tryz.f175 0 q_s_l01Append_3 b_s_l01Append_3 := fun x => by kernel_rfl
theorem ok_s_l01Append : FnOK G0 Tryz.prog 175 S_s_l01Append := fn_okS tab0 σok_s_l01Append Tryz.func175 ls_s_l01Append (by kernel_rfl) (by exact ⟨(lok_s_l01Append_3).lok, trivial⟩) fun x => by kernel_rfl

noncomputable def s_l04Bits (x : Ty.T (.pair TState .unit)) : Option (Ty.T (.pair (.own 2 (.int .i64)) .unit)) :=
match s_l01Append ([], x.1.1, (16 : Int), ()) with
| none => none
| some v1 =>
match s_l01Append (v1.1, x.1.2.1, (4 : Int), ()) with
| none => none
| some v2 =>
match s_l01Append (v2.1, x.1.2.2.1, (4 : Int), ()) with
| none => none
| some v3 =>
match s_l01Append (v3.1, x.1.2.2.2.1, (8 : Int), ()) with
| none => none
| some v4 =>
match s_l01Append (v4.1, x.1.2.2.2.2.1, (32 : Int), ()) with
| none => none
| some v5 =>
some (v5.1, ())
noncomputable def S_s_l04Bits : Spec := ⟨(.pair TState .unit), (.pair (.own 2 (.int .i64)) .unit), .unit, rfl, s_l04Bits⟩
noncomputable def σ_s_l04Bits : FuncId → Option Spec := sig [(175, S_s_l01Append)]
theorem σok_s_l04Bits : ∀ f s, σ_s_l04Bits f = some s → FnOK G0 Tryz.prog f s := sig_ok ⟨ok_s_l01Append, trivial⟩
theorem ok_s_l04Bits : FnOK G0 Tryz.prog 125 S_s_l04Bits := fn_okS tab0 σok_s_l04Bits Tryz.func125 [] (by kernel_rfl) (by exact trivial) fun x => by kernel_rfl

noncomputable def b_s_l01Bits_6 (x : (Ty.T (.pair (.list (.int .i64)) (.pair (.own 2 (.int .i64)) TCrc)))) : Option ((Ty.T (.pair (.list (.int .i64)) (.pair (.own 2 (.int .i64)) TCrc))) ⊕ ((Ty.T (.pair (.list (.int .i64)) (.pair (.own 2 (.int .i64)) (.pair (.int .i64) .unit)))) ⊕ (Ty.T .unit))) :=
match (decide (x.2.2.2.1 ≥ (0 : Int))) with
| true =>
 onSome (idx x.1 x.2.2.1) fun v1 =>
 if (IntKind.u64.wrap x.2.2.2.1) < 0 then none else
 room (x.2.1.length + [(bits BinOp.and .i64 (Int.fdiv v1 (2 ^ min (IntKind.u64.wrap x.2.2.2.1).toNat IntKind.i64.bits)) (1 : Int))].length) (
  some (.inl (x.1, (x.2.1 ++ [(bits BinOp.and .i64 (Int.fdiv v1 (2 ^ min (IntKind.u64.wrap x.2.2.2.1).toNat IntKind.i64.bits)) (1 : Int))]), x.2.2.1, (IntKind.i64.wrap (x.2.2.2.1 - (1 : Int))), ())))
| false =>
 some (.inr (.inl (x.1, x.2.1, x.2.2.1, ())))
noncomputable def b_s_l01Bits_3 (x : (Ty.T (.pair (.list (.int .i64)) (.pair (.own 2 (.int .i64)) (.pair (.int .i64) .unit))))) : Option ((Ty.T (.pair (.list (.int .i64)) (.pair (.own 2 (.int .i64)) (.pair (.int .i64) .unit)))) ⊕ ((Ty.T (.pair (.own 2 (.int .i64)) .unit)) ⊕ (Ty.T .unit))) :=
match (decide (x.2.2.1 < (x.1.length : Int))) with
| true =>
 match loopL b_s_l01Bits_6 (x.1, x.2.1, x.2.2.1, (7 : Int), ()) with
 | none => none
 | some (.inl v1) =>
  some (.inl (v1.1, v1.2.1, (IntKind.i64.wrap (v1.2.2.1 + (1 : Int))), ()))
 | some (.inr v3) =>
  some (.inr (.inr (())))
| false =>
 some (.inr (.inl (x.2.1, ())))
noncomputable def s_l01Bits (x : Ty.T (.pair (.list (.int .i64)) .unit)) : Option (Ty.T (.pair (.own 2 (.int .i64)) .unit)) :=
match loopL b_s_l01Bits_3 (x.1, [], (0 : Int), ()) with
| none => none
| some (.inl v4) =>
 some (v4.1, ())
| some (.inr v6) =>
 none
noncomputable def S_s_l01Bits : Spec := ⟨(.pair (.list (.int .i64)) .unit), (.pair (.own 2 (.int .i64)) .unit), .unit, rfl, s_l01Bits⟩
noncomputable def σ_s_l01Bits : FuncId → Option Spec := sig []
theorem σok_s_l01Bits : ∀ f s, σ_s_l01Bits f = some s → FnOK G0 Tryz.prog f s := sig_ok trivial
def q_s_l01Bits_3 : LRow := ⟨[0, 3, 4], (.pair (.list (.int .i64)) (.pair (.own 2 (.int .i64)) (.pair (.int .i64) .unit))), 0, [3], (.pair (.own 2 (.int .i64)) .unit), [], .unit⟩
def q_s_l01Bits_6 : LRow := ⟨[0, 3, 4, 5], (.pair (.list (.int .i64)) (.pair (.own 2 (.int .i64)) TCrc)), 2, [0, 3, 4], (.pair (.list (.int .i64)) (.pair (.own 2 (.int .i64)) (.pair (.int .i64) .unit))), [], .unit⟩
noncomputable def ls_s_l01Bits : List LSpec := [q_s_l01Bits_3.spec b_s_l01Bits_3, q_s_l01Bits_6.spec b_s_l01Bits_6]
theorem lok_s_l01Bits_3 : Lok Γ0 E0 σ_s_l01Bits (lam Tryz.f126 ls_s_l01Bits) Tryz.f126 0 q_s_l01Bits_3 b_s_l01Bits_3 := fun x => by kernel_rfl
theorem lok_s_l01Bits_6 : Lok Γ0 E0 σ_s_l01Bits (lam Tryz.f126 ls_s_l01Bits) Tryz.f126 1 q_s_l01Bits_6 b_s_l01Bits_6 := fun x => by kernel_rfl
theorem ok_s_l01Bits : FnOK G0 Tryz.prog 126 S_s_l01Bits := fn_okS tab0 σok_s_l01Bits Tryz.func126 ls_s_l01Bits (by kernel_rfl) (by exact ⟨(lok_s_l01Bits_3).lok, (lok_s_l01Bits_6).lok, trivial⟩) fun x => by kernel_rfl

noncomputable def s_l07Number (x : Ty.T (.pair (.int .i64) (.pair (.list (.int .i64)) (.pair (.int .i64) (.pair TState .unit))))) : Option (Ty.T (.pair (.int .i64) .unit)) :=
match (x.1 == (0 : Int)) with
| true =>
 match s_StandardCrc (()) with
 | none => none
 | some v1 =>
 match s_l04Bits ((x.2.2.2.1.1, x.2.2.2.1.2.1, x.2.2.2.1.2.2.1, x.2.2.2.1.2.2.2.1, x.2.2.2.1.2.2.2.2.1, ()), ()) with
 | none => none
 | some v2 =>
 match s_l02Feed (v1.1, x.2.2.1, v2.1, ()) with
 | none => none
 | some v3 =>
 match s_StandardCrc (()) with
 | none => none
 | some v4 =>
 match s_l01Bits (x.2.1, ()) with
 | none => none
 | some v5 =>
 match s_l02Feed (v4.1, v3.1, v5.1, ()) with
 | none => none
 | some v6 =>
 some (v6.1, ())
| false =>
 match s_StandardCrc (()) with
 | none => none
 | some v7 =>
 match s_l01Bits (x.2.1, ()) with
 | none => none
 | some v8 =>
 match s_l02Feed (v7.1, x.2.2.1, v8.1, ()) with
 | none => none
 | some v9 =>
 some (v9.1, ())
noncomputable def S_s_l07Number : Spec := ⟨(.pair (.int .i64) (.pair (.list (.int .i64)) (.pair (.int .i64) (.pair TState .unit)))), (.pair (.int .i64) .unit), .unit, rfl, s_l07Number⟩
noncomputable def σ_s_l07Number : FuncId → Option Spec := sig [(123, S_s_l02Feed), (124, S_s_StandardCrc), (125, S_s_l04Bits), (126, S_s_l01Bits)]
theorem σok_s_l07Number : ∀ f s, σ_s_l07Number f = some s → FnOK G0 Tryz.prog f s := sig_ok ⟨ok_s_l02Feed, ok_s_StandardCrc, ok_s_l04Bits, ok_s_l01Bits, trivial⟩
theorem ok_s_l07Number : FnOK G0 Tryz.prog 91 S_s_l07Number := fn_okS tab0 σok_s_l07Number Tryz.func91 [] (by kernel_rfl) (by exact trivial) fun x => by kernel_rfl

noncomputable def b_s_l01Same_4 (x : (Ty.T (.pair (.list (.int .i64)) (.pair (.list (.int .i64)) (.pair (.int .i64) .unit))))) : Option ((Ty.T (.pair (.list (.int .i64)) (.pair (.list (.int .i64)) (.pair (.int .i64) .unit)))) ⊕ ((Ty.T .unit) ⊕ (Ty.T (.pair .bool .unit)))) :=
match (decide (x.2.2.1 < (x.1.length : Int))) with
| true =>
 onSome (idx x.1 x.2.2.1) fun v1 =>
 onSome (idx x.2.1 x.2.2.1) fun v2 =>
 match (v1 != v2) with
 | true =>
  some (.inr (.inr (false, ())))
 | false =>
  some (.inl (x.1, x.2.1, (IntKind.i64.wrap (x.2.2.1 + (1 : Int))), ()))
| false =>
 some (.inr (.inl (())))
noncomputable def s_l01Same (x : Ty.T (.pair (.list (.int .i64)) (.pair (.list (.int .i64)) .unit))) : Option (Ty.T (.pair .bool .unit)) :=
match ((x.1.length : Int) != (x.2.1.length : Int)) with
| true =>
 some (false, ())
| false =>
 match loopL b_s_l01Same_4 (x.1, x.2.1, (0 : Int), ()) with
 | none => none
 | some (.inl v3) =>
  some (true, ())
 | some (.inr v4) =>
  some (v4.1, ())
noncomputable def S_s_l01Same : Spec := ⟨(.pair (.list (.int .i64)) (.pair (.list (.int .i64)) .unit)), (.pair .bool .unit), .unit, rfl, s_l01Same⟩
noncomputable def σ_s_l01Same : FuncId → Option Spec := sig []
theorem σok_s_l01Same : ∀ f s, σ_s_l01Same f = some s → FnOK G0 Tryz.prog f s := sig_ok trivial
def q_s_l01Same_4 : LRow := ⟨[0, 1, 5], (.pair (.list (.int .i64)) (.pair (.list (.int .i64)) (.pair (.int .i64) .unit))), 0, [], .unit, [4], (.pair .bool .unit)⟩
noncomputable def ls_s_l01Same : List LSpec := [q_s_l01Same_4.spec b_s_l01Same_4]
theorem lok_s_l01Same_4 : Lok Γ0 E0 σ_s_l01Same (lam Tryz.f81 ls_s_l01Same) Tryz.f81 0 q_s_l01Same_4 b_s_l01Same_4 := fun x => by kernel_rfl
theorem ok_s_l01Same : FnOK G0 Tryz.prog 81 S_s_l01Same := fn_okS tab0 σok_s_l01Same Tryz.func81 ls_s_l01Same (by kernel_rfl) (by exact ⟨(lok_s_l01Same_4).lok, trivial⟩) fun x => by kernel_rfl

noncomputable def s_IsBytes (x : Ty.T (.pair (.list (.int .i64)) .unit)) : Option (Ty.T (.pair .bool .unit)) :=
match s_l01All (x.1, (1024 : Int), (255 : Int), ()) with
| none => none
| some v1 =>
some (v1.1, ())
noncomputable def S_s_IsBytes : Spec := ⟨(.pair (.list (.int .i64)) .unit), (.pair .bool .unit), .unit, rfl, s_IsBytes⟩
noncomputable def σ_s_IsBytes : FuncId → Option Spec := sig [(66, S_s_l01All)]
theorem σok_s_IsBytes : ∀ f s, σ_s_IsBytes f = some s → FnOK G0 Tryz.prog f s := sig_ok ⟨ok_s_l01All, trivial⟩
theorem ok_s_IsBytes : FnOK G0 Tryz.prog 135 S_s_IsBytes := fn_okS tab0 σok_s_IsBytes Tryz.func135 [] (by kernel_rfl) (by exact trivial) fun x => by kernel_rfl

noncomputable def b_s_l05Vector_2 (x : (Ty.T (.pair (.list (.int .i64)) (.pair (.int .i64) .unit)))) : Option ((Ty.T (.pair (.list (.int .i64)) (.pair (.int .i64) .unit))) ⊕ ((Ty.T .unit) ⊕ (Ty.T (.pair .bool .unit)))) :=
match (decide (x.2.1 < (x.1.length : Int))) with
| true =>
 onSome (idx x.1 x.2.1) fun v1 =>
 match s_l01In (v1, (0 : Int), (4294967295 : Int), ()) with
 | none => none
 | some v2 =>
 match (!v2.1) with
 | true =>
  some (.inr (.inr (false, ())))
 | false =>
  some (.inl (x.1, (IntKind.i64.wrap (x.2.1 + (1 : Int))), ()))
| false =>
 some (.inr (.inl (())))
noncomputable def s_l05Vector (x : Ty.T (.pair (.list (.int .i64)) .unit)) : Option (Ty.T (.pair .bool .unit)) :=
match loopL b_s_l05Vector_2 (x.1, (0 : Int), ()) with
| none => none
| some (.inl v3) =>
 some (true, ())
| some (.inr v4) =>
 some (v4.1, ())
noncomputable def S_s_l05Vector : Spec := ⟨(.pair (.list (.int .i64)) .unit), (.pair .bool .unit), .unit, rfl, s_l05Vector⟩
noncomputable def σ_s_l05Vector : FuncId → Option Spec := sig [(87, S_s_l01In)]
theorem σok_s_l05Vector : ∀ f s, σ_s_l05Vector f = some s → FnOK G0 Tryz.prog f s := sig_ok ⟨ok_s_l01In, trivial⟩
def q_s_l05Vector_2 : LRow := ⟨[0, 3], (.pair (.list (.int .i64)) (.pair (.int .i64) .unit)), 0, [], .unit, [2], (.pair .bool .unit)⟩
noncomputable def ls_s_l05Vector : List LSpec := [q_s_l05Vector_2.spec b_s_l05Vector_2]
theorem lok_s_l05Vector_2 : Lok Γ0 E0 σ_s_l05Vector (lam Tryz.f179 ls_s_l05Vector) Tryz.f179 0 q_s_l05Vector_2 b_s_l05Vector_2 := fun x => by kernel_rfl
theorem ok_s_l05Vector : FnOK G0 Tryz.prog 179 S_s_l05Vector := fn_okS tab0 σok_s_l05Vector Tryz.func179 ls_s_l05Vector (by kernel_rfl) (by exact ⟨(lok_s_l05Vector_2).lok, trivial⟩) fun x => by kernel_rfl

noncomputable def b_s_MembersOf_5 (x : (Ty.T (.pair (.int .i64) (.pair (.own 2 (.int .i64)) (.pair (.int .i64) .unit))))) : Option ((Ty.T (.pair (.int .i64) (.pair (.own 2 (.int .i64)) (.pair (.int .i64) .unit)))) ⊕ ((Ty.T (.pair (.own 2 (.int .i64)) .unit)) ⊕ (Ty.T .unit))) :=
match (decide (x.2.2.1 < (32 : Int))) with
| true =>
 match s_l05Has (x.1, x.2.2.1, ()) with
 | none => none
 | some v2 =>
 match v2.1 with
 | true =>
  room (x.2.1.length + [x.2.2.1].length) (
   some (.inl (x.1, (x.2.1 ++ [x.2.2.1]), (IntKind.i64.wrap (x.2.2.1 + (1 : Int))), ())))
 | false =>
  some (.inl (x.1, x.2.1, (IntKind.i64.wrap (x.2.2.1 + (1 : Int))), ()))
| false =>
 some (.inr (.inl (x.2.1, ())))
noncomputable def s_MembersOf (x : Ty.T (.pair (.int .i64) .unit)) : Option (Ty.T (.pair (.own 2 (.int .i64)) (.pair (.int .i64) .unit))) :=
match s_l05Vector ([x.1], ()) with
| none => none
| some v1 =>
match (!v1.1) with
| true =>
 some ([], (2 : Int), ())
| false =>
 match loopL b_s_MembersOf_5 (x.1, [], (0 : Int), ()) with
 | none => none
 | some (.inl v3) =>
  some (v3.1, (0 : Int), ())
 | some (.inr v5) =>
  none
noncomputable def S_s_MembersOf : Spec := ⟨(.pair (.int .i64) .unit), (.pair (.own 2 (.int .i64)) (.pair (.int .i64) .unit)), .unit, rfl, s_MembersOf⟩
noncomputable def σ_s_MembersOf : FuncId → Option Spec := sig [(169, S_s_l05Has), (179, S_s_l05Vector)]
theorem σok_s_MembersOf : ∀ f s, σ_s_MembersOf f = some s → FnOK G0 Tryz.prog f s := sig_ok ⟨ok_s_l05Has, ok_s_l05Vector, trivial⟩
def q_s_MembersOf_5 : LRow := ⟨[0, 4, 5], (.pair (.int .i64) (.pair (.own 2 (.int .i64)) (.pair (.int .i64) .unit))), 0, [4], (.pair (.own 2 (.int .i64)) .unit), [], .unit⟩
noncomputable def ls_s_MembersOf : List LSpec := [q_s_MembersOf_5.spec b_s_MembersOf_5]
theorem lok_s_MembersOf_5 : Lok Γ0 E0 σ_s_MembersOf (lam Tryz.f136 ls_s_MembersOf) Tryz.f136 0 q_s_MembersOf_5 b_s_MembersOf_5 := fun x => by kernel_rfl
theorem ok_s_MembersOf : FnOK G0 Tryz.prog 136 S_s_MembersOf := fn_okS tab0 σok_s_MembersOf Tryz.func136 ls_s_MembersOf (by kernel_rfl) (by exact ⟨(lok_s_MembersOf_5).lok, trivial⟩) fun x => by kernel_rfl

noncomputable def s_IsFrame (x : Ty.T (.pair TFrame .unit)) : Option (Ty.T (.pair .bool .unit)) :=
match s_l06Kind (x.1.1, ()) with
| none => none
| some v1 =>
match (!v1.1) with
| true =>
 some (false, ())
| false =>
 match s_l01In (x.1.2.1, (0 : Int), (7 : Int), ()) with
 | none => none
 | some v2 =>
 match (!v2.1) with
 | true =>
  some (false, ())
 | false =>
  match s_l06Size (x.1.1, (x.1.2.2.2.1.length : Int), ()) with
  | none => none
  | some v3 =>
  match (!v3.1) with
  | true =>
   some (false, ())
  | false =>
   match s_IsBytes (x.1.2.2.2.1, ()) with
   | none => none
   | some v4 =>
   match (!v4.1) with
   | true =>
    some (false, ())
   | false =>
    match (x.1.1 == (0 : Int)) with
    | true =>
     some ((eqT TState (x.1.2.2.1.1, x.1.2.2.1.2.1, x.1.2.2.1.2.2.1, x.1.2.2.1.2.2.2.1, x.1.2.2.1.2.2.2.2.1, ()) ((0 : Int), (0 : Int), (0 : Int), (0 : Int), (0 : Int), ())), ())
    | false =>
     match (x.1.1 == (3 : Int)) with
     | true =>
      match s_MembersOf (x.1.2.2.1.2.2.2.2.1, ()) with
      | none => none
      | some v5 =>
      match s_IsState ((x.1.2.2.1.1, x.1.2.2.1.2.1, x.1.2.2.1.2.2.1, x.1.2.2.1.2.2.2.1, x.1.2.2.1.2.2.2.2.1, ()), ()) with
      | none => none
      | some v6 =>
      match v6.1 with
      | true =>
       match (x.1.2.2.1.2.1 == (0 : Int)) with
       | true =>
        match ((v5.1.length : Int) == (1 : Int)) with
        | true =>
         some ((x.1.2.1 == (0 : Int)), ())
        | false =>
         some (false, ())
       | false =>
        some (false, ())
      | false =>
       some (false, ())
     | false =>
      match s_IsState ((x.1.2.2.1.1, x.1.2.2.1.2.1, x.1.2.2.1.2.2.1, x.1.2.2.1.2.2.2.1, x.1.2.2.1.2.2.2.2.1, ()), ()) with
      | none => none
      | some v7 =>
      some (v7.1, ())
noncomputable def S_s_IsFrame : Spec := ⟨(.pair TFrame .unit), (.pair .bool .unit), .unit, rfl, s_IsFrame⟩
noncomputable def σ_s_IsFrame : FuncId → Option Spec := sig [(84, S_s_IsState), (87, S_s_l01In), (132, S_s_l06Kind), (133, S_s_l06Size), (135, S_s_IsBytes), (136, S_s_MembersOf)]
theorem σok_s_IsFrame : ∀ f s, σ_s_IsFrame f = some s → FnOK G0 Tryz.prog f s := sig_ok ⟨ok_s_IsState, ok_s_l01In, ok_s_l06Kind, ok_s_l06Size, ok_s_IsBytes, ok_s_MembersOf, trivial⟩
theorem ok_s_IsFrame : FnOK G0 Tryz.prog 95 S_s_IsFrame := fn_okS tab0 σok_s_IsFrame Tryz.func95 [] (by kernel_rfl) (by exact trivial) fun x => by kernel_rfl

noncomputable def b_s_l01Number_3 (x : (Ty.T (.pair (.list (.int .i64)) (.pair (.int .i64) (.pair (.int .i64) TCrc))))) : Option ((Ty.T (.pair (.list (.int .i64)) (.pair (.int .i64) (.pair (.int .i64) TCrc)))) ⊕ ((Ty.T (.pair (.int .i64) .unit)) ⊕ (Ty.T .unit))) :=
match (decide (x.2.2.2.2.1 < x.2.2.1)) with
| true =>
 onSome (idx x.1 (IntKind.i64.wrap (x.2.1 + x.2.2.2.2.1))) fun v1 =>
 some (.inl (x.1, x.2.1, x.2.2.1, (IntKind.i64.wrap ((IntKind.i64.wrap ((2 : Int) * x.2.2.2.1)) + v1)), (IntKind.i64.wrap (x.2.2.2.2.1 + (1 : Int))), ()))
| false =>
 some (.inr (.inl (x.2.2.2.1, ())))
noncomputable def s_l01Number (x : Ty.T (.pair (.list (.int .i64)) TCrc)) : Option (Ty.T (.pair (.int .i64) .unit)) :=
match loopL b_s_l01Number_3 (x.1, x.2.1, x.2.2.1, (0 : Int), (0 : Int), ()) with
| none => none
| some (.inl v2) =>
 some (v2.1, ())
| some (.inr v4) =>
 none
noncomputable def S_s_l01Number : Spec := ⟨(.pair (.list (.int .i64)) TCrc), (.pair (.int .i64) .unit), .unit, rfl, s_l01Number⟩
noncomputable def σ_s_l01Number : FuncId → Option Spec := sig []
theorem σok_s_l01Number : ∀ f s, σ_s_l01Number f = some s → FnOK G0 Tryz.prog f s := sig_ok trivial
def q_s_l01Number_3 : LRow := ⟨[0, 1, 2, 7, 8], (.pair (.list (.int .i64)) (.pair (.int .i64) (.pair (.int .i64) TCrc))), 0, [7], (.pair (.int .i64) .unit), [], .unit⟩
noncomputable def ls_s_l01Number : List LSpec := [q_s_l01Number_3.spec b_s_l01Number_3]
theorem lok_s_l01Number_3 : Lok Γ0 E0 σ_s_l01Number (lam Tryz.f176 ls_s_l01Number) Tryz.f176 0 q_s_l01Number_3 b_s_l01Number_3 := fun x => by kernel_rfl
theorem ok_s_l01Number : FnOK G0 Tryz.prog 176 S_s_l01Number := fn_okS tab0 σok_s_l01Number Tryz.func176 ls_s_l01Number (by kernel_rfl) (by exact ⟨(lok_s_l01Number_3).lok, trivial⟩) fun x => by kernel_rfl

noncomputable def s_l04State (x : Ty.T (.pair (.list (.int .i64)) .unit)) : Option (Ty.T (.pair TState .unit)) :=
match s_l01Number (x.1, (0 : Int), (16 : Int), ()) with
| none => none
| some v1 =>
match s_l01Number (x.1, (16 : Int), (4 : Int), ()) with
| none => none
| some v2 =>
match s_l01Number (x.1, (20 : Int), (4 : Int), ()) with
| none => none
| some v3 =>
match s_l01Number (x.1, (24 : Int), (8 : Int), ()) with
| none => none
| some v4 =>
match s_l01Number (x.1, (32 : Int), (32 : Int), ()) with
| none => none
| some v5 =>
some ((v1.1, v2.1, v3.1, v4.1, v5.1, ()), ())
noncomputable def S_s_l04State : Spec := ⟨(.pair (.list (.int .i64)) .unit), (.pair TState .unit), .unit, rfl, s_l04State⟩
noncomputable def σ_s_l04State : FuncId → Option Spec := sig [(176, S_s_l01Number)]
theorem σok_s_l04State : ∀ f s, σ_s_l04State f = some s → FnOK G0 Tryz.prog f s := sig_ok ⟨ok_s_l01Number, trivial⟩
theorem ok_s_l04State : FnOK G0 Tryz.prog 127 S_s_l04State := fn_okS tab0 σok_s_l04State Tryz.func127 [] (by kernel_rfl) (by exact trivial) fun x => by kernel_rfl

noncomputable def s_l01Own (x : Ty.T (.pair (.list (.int .i64)) .unit)) : Option (Ty.T (.pair (.own 2 (.int .i64)) .unit)) :=
room (([] : List (Ty.T (.int .i64))).length + x.1.length) (
 some ((([] : List (Ty.T (.int .i64))) ++ x.1), ()))
noncomputable def S_s_l01Own : Spec := ⟨(.pair (.list (.int .i64)) .unit), (.pair (.own 2 (.int .i64)) .unit), .unit, rfl, s_l01Own⟩
noncomputable def σ_s_l01Own : FuncId → Option Spec := sig []
theorem σok_s_l01Own : ∀ f s, σ_s_l01Own f = some s → FnOK G0 Tryz.prog f s := sig_ok trivial
theorem ok_s_l01Own : FnOK G0 Tryz.prog 129 S_s_l01Own := fn_okS tab0 σok_s_l01Own Tryz.func129 [] (by kernel_rfl) (by exact trivial) fun x => by kernel_rfl

noncomputable def b_s_l01Bytes_3 (x : (Ty.T (.pair (.list (.int .i64)) (.pair (.own 2 (.int .i64)) (.pair (.int .i64) .unit))))) : Option ((Ty.T (.pair (.list (.int .i64)) (.pair (.own 2 (.int .i64)) (.pair (.int .i64) .unit)))) ⊕ ((Ty.T (.pair (.own 2 (.int .i64)) .unit)) ⊕ (Ty.T .unit))) :=
match (decide ((IntKind.i64.wrap (x.2.2.1 + (8 : Int))) ≤ (x.1.length : Int))) with
| true =>
 match s_l01Number (x.1, x.2.2.1, (8 : Int), ()) with
 | none => none
 | some v1 =>
 room (x.2.1.length + [v1.1].length) (
  some (.inl (x.1, (x.2.1 ++ [v1.1]), (IntKind.i64.wrap (x.2.2.1 + (8 : Int))), ())))
| false =>
 some (.inr (.inl (x.2.1, ())))
noncomputable def s_l01Bytes (x : Ty.T (.pair (.list (.int .i64)) .unit)) : Option (Ty.T (.pair (.own 2 (.int .i64)) .unit)) :=
match loopL b_s_l01Bytes_3 (x.1, [], (0 : Int), ()) with
| none => none
| some (.inl v2) =>
 some (v2.1, ())
| some (.inr v4) =>
 none
noncomputable def S_s_l01Bytes : Spec := ⟨(.pair (.list (.int .i64)) .unit), (.pair (.own 2 (.int .i64)) .unit), .unit, rfl, s_l01Bytes⟩
noncomputable def σ_s_l01Bytes : FuncId → Option Spec := sig [(176, S_s_l01Number)]
theorem σok_s_l01Bytes : ∀ f s, σ_s_l01Bytes f = some s → FnOK G0 Tryz.prog f s := sig_ok ⟨ok_s_l01Number, trivial⟩
def q_s_l01Bytes_3 : LRow := ⟨[0, 3, 4], (.pair (.list (.int .i64)) (.pair (.own 2 (.int .i64)) (.pair (.int .i64) .unit))), 0, [3], (.pair (.own 2 (.int .i64)) .unit), [], .unit⟩
noncomputable def ls_s_l01Bytes : List LSpec := [q_s_l01Bytes_3.spec b_s_l01Bytes_3]
theorem lok_s_l01Bytes_3 : Lok Γ0 E0 σ_s_l01Bytes (lam Tryz.f177 ls_s_l01Bytes) Tryz.f177 0 q_s_l01Bytes_3 b_s_l01Bytes_3 := fun x => by kernel_rfl
theorem ok_s_l01Bytes : FnOK G0 Tryz.prog 177 S_s_l01Bytes := fn_okS tab0 σok_s_l01Bytes Tryz.func177 ls_s_l01Bytes (by kernel_rfl) (by exact ⟨(lok_s_l01Bytes_3).lok, trivial⟩) fun x => by kernel_rfl

noncomputable def s_l06Body (x : Ty.T (.pair TFrame .unit)) : Option (Ty.T (.pair (.own 2 (.int .i64)) .unit)) :=
match s_l06State (x.1.1, ()) with
| none => none
| some v1 =>
match v1.1 with
| true =>
 match s_l04Bits ((x.1.2.2.1.1, x.1.2.2.1.2.1, x.1.2.2.1.2.2.1, x.1.2.2.1.2.2.2.1, x.1.2.2.1.2.2.2.2.1, ()), ()) with
 | none => none
 | some v2 =>
 match s_l01Bytes (v2.1, ()) with
 | none => none
 | some v3 =>
 room ([(IntKind.i64.wrap ((IntKind.i64.wrap (x.1.1 * (64 : Int))) + (IntKind.i64.wrap (x.1.2.1 * (8 : Int)))))].length + v3.1.length) (
  match s_l06Data (x.1.1, ()) with
  | none => none
  | some v4 =>
  match v4.1 with
  | true =>
   room (([(IntKind.i64.wrap ((IntKind.i64.wrap (x.1.1 * (64 : Int))) + (IntKind.i64.wrap (x.1.2.1 * (8 : Int)))))] ++ v3.1).length + [(x.1.2.2.2.1.length : Int)].length) (
    room ((([(IntKind.i64.wrap ((IntKind.i64.wrap (x.1.1 * (64 : Int))) + (IntKind.i64.wrap (x.1.2.1 * (8 : Int)))))] ++ v3.1) ++ [(x.1.2.2.2.1.length : Int)]).length + x.1.2.2.2.1.length) (
     some (((([(IntKind.i64.wrap ((IntKind.i64.wrap (x.1.1 * (64 : Int))) + (IntKind.i64.wrap (x.1.2.1 * (8 : Int)))))] ++ v3.1) ++ [(x.1.2.2.2.1.length : Int)]) ++ x.1.2.2.2.1), ())))
  | false =>
   some (([(IntKind.i64.wrap ((IntKind.i64.wrap (x.1.1 * (64 : Int))) + (IntKind.i64.wrap (x.1.2.1 * (8 : Int)))))] ++ v3.1), ()))
| false =>
 match s_l06Data (x.1.1, ()) with
 | none => none
 | some v5 =>
 match v5.1 with
 | true =>
  room ([(IntKind.i64.wrap ((IntKind.i64.wrap (x.1.1 * (64 : Int))) + (IntKind.i64.wrap (x.1.2.1 * (8 : Int)))))].length + [(x.1.2.2.2.1.length : Int)].length) (
   room (([(IntKind.i64.wrap ((IntKind.i64.wrap (x.1.1 * (64 : Int))) + (IntKind.i64.wrap (x.1.2.1 * (8 : Int)))))] ++ [(x.1.2.2.2.1.length : Int)]).length + x.1.2.2.2.1.length) (
    some ((([(IntKind.i64.wrap ((IntKind.i64.wrap (x.1.1 * (64 : Int))) + (IntKind.i64.wrap (x.1.2.1 * (8 : Int)))))] ++ [(x.1.2.2.2.1.length : Int)]) ++ x.1.2.2.2.1), ())))
 | false =>
  some ([(IntKind.i64.wrap ((IntKind.i64.wrap (x.1.1 * (64 : Int))) + (IntKind.i64.wrap (x.1.2.1 * (8 : Int)))))], ())
noncomputable def S_s_l06Body : Spec := ⟨(.pair TFrame .unit), (.pair (.own 2 (.int .i64)) .unit), .unit, rfl, s_l06Body⟩
noncomputable def σ_s_l06Body : FuncId → Option Spec := sig [(93, S_s_l06State), (125, S_s_l04Bits), (128, S_s_l06Data), (177, S_s_l01Bytes)]
theorem σok_s_l06Body : ∀ f s, σ_s_l06Body f = some s → FnOK G0 Tryz.prog f s := sig_ok ⟨ok_s_l06State, ok_s_l04Bits, ok_s_l06Data, ok_s_l01Bytes, trivial⟩
theorem ok_s_l06Body : FnOK G0 Tryz.prog 130 S_s_l06Body := fn_okS tab0 σok_s_l06Body Tryz.func130 [] (by kernel_rfl) (by exact trivial) fun x => by kernel_rfl

noncomputable def s_l06Frame (x : Ty.T (.pair (.list (.int .i64)) .unit)) : Option (Ty.T (.pair (.pair (.int .i64) (.pair (.int .i64) (.pair TState (.pair (.own 2 (.int .i64)) .unit)))) (.pair .bool .unit))) :=
match ((x.1.length : Int) == (0 : Int)) with
| true =>
 some (((0 : Int), (0 : Int), ((0 : Int), (0 : Int), (0 : Int), (0 : Int), (0 : Int), ()), [], ()), false, ())
| false =>
 onSome (idx x.1 (0 : Int)) fun v1 =>
 onSome (idx x.1 (0 : Int)) fun v2 =>
 same (
  onSome (bounds x.1.length (some (.dat (.int .i64) (1 : Int))) none) fun v3 =>
  match s_l06State ((IntKind.i64.wrap (Int.tdiv v1 (64 : Int))), ()) with
  | none => none
  | some v4 =>
  match v4.1 with
  | true =>
   match (decide (((List.drop v3.1 (List.take v3.2 x.1)).length : Int) < (8 : Int))) with
   | true =>
    some (((0 : Int), (0 : Int), ((0 : Int), (0 : Int), (0 : Int), (0 : Int), (0 : Int), ()), [], ()), false, ())
   | false =>
    onSome (bounds (List.drop v3.1 (List.take v3.2 x.1)).length none (some (.dat (.int .i64) (8 : Int)))) fun v5 =>
    match s_l01Bits ((List.drop v5.1 (List.take v5.2 (List.drop v3.1 (List.take v3.2 x.1)))), ()) with
    | none => none
    | some v6 =>
    match s_l04State (v6.1, ()) with
    | none => none
    | some v7 =>
    onSome (bounds (List.drop v3.1 (List.take v3.2 x.1)).length (some (.dat (.int .i64) (8 : Int))) none) fun v8 =>
    match s_l06Data ((IntKind.i64.wrap (Int.tdiv v1 (64 : Int))), ()) with
    | none => none
    | some v9 =>
    match v9.1 with
    | true =>
     match (((List.drop v8.1 (List.take v8.2 (List.drop v3.1 (List.take v3.2 x.1)))).length : Int) == (0 : Int)) with
     | true =>
      some (((0 : Int), (0 : Int), ((0 : Int), (0 : Int), (0 : Int), (0 : Int), (0 : Int), ()), [], ()), false, ())
     | false =>
      onSome (bounds (List.drop v8.1 (List.take v8.2 (List.drop v3.1 (List.take v3.2 x.1)))).length (some (.dat (.int .i64) (1 : Int))) none) fun v10 =>
      match s_l01Own ((List.drop v10.1 (List.take v10.2 (List.drop v8.1 (List.take v8.2 (List.drop v3.1 (List.take v3.2 x.1)))))), ()) with
      | none => none
      | some v11 =>
      both (
       match s_IsFrame (((IntKind.i64.wrap (Int.tdiv v1 (64 : Int))), (Int.tmod (IntKind.i64.wrap (Int.tdiv v2 (8 : Int))) (8 : Int)), (v7.1.1, v7.1.2.1, v7.1.2.2.1, v7.1.2.2.2.1, v7.1.2.2.2.2.1, ()), v11.1, ()), ()) with
       | none => none
       | some v12 =>
       match v12.1 with
       | true =>
        match s_l06Body (((IntKind.i64.wrap (Int.tdiv v1 (64 : Int))), (Int.tmod (IntKind.i64.wrap (Int.tdiv v2 (8 : Int))) (8 : Int)), (v7.1.1, v7.1.2.1, v7.1.2.2.1, v7.1.2.2.2.1, v7.1.2.2.2.2.1, ()), v11.1, ()), ()) with
        | none => none
        | some v13 =>
        match s_l01Same (v13.1, x.1, ()) with
        | none => none
        | some v14 =>
        some (((IntKind.i64.wrap (Int.tdiv v1 (64 : Int))), (Int.tmod (IntKind.i64.wrap (Int.tdiv v2 (8 : Int))) (8 : Int)), (v7.1.1, v7.1.2.1, v7.1.2.2.1, v7.1.2.2.2.1, v7.1.2.2.2.2.1, ()), v11.1, ()), v14.1, ())
       | false =>
        some (((IntKind.i64.wrap (Int.tdiv v1 (64 : Int))), (Int.tmod (IntKind.i64.wrap (Int.tdiv v2 (8 : Int))) (8 : Int)), (v7.1.1, v7.1.2.1, v7.1.2.2.1, v7.1.2.2.2.1, v7.1.2.2.2.2.1, ()), v11.1, ()), false, ())) (
       both (
        match s_IsFrame (((IntKind.i64.wrap (Int.tdiv v1 (64 : Int))), (Int.tmod (IntKind.i64.wrap (Int.tdiv v2 (8 : Int))) (8 : Int)), (v7.1.1, v7.1.2.1, v7.1.2.2.1, v7.1.2.2.2.1, v7.1.2.2.2.2.1, ()), v11.1, ()), ()) with
        | none => none
        | some v12 =>
        match v12.1 with
        | true =>
         match s_l06Body (((IntKind.i64.wrap (Int.tdiv v1 (64 : Int))), (Int.tmod (IntKind.i64.wrap (Int.tdiv v2 (8 : Int))) (8 : Int)), (v7.1.1, v7.1.2.1, v7.1.2.2.1, v7.1.2.2.2.1, v7.1.2.2.2.2.1, ()), v11.1, ()), ()) with
         | none => none
         | some v13 =>
         match s_l01Same (v13.1, x.1, ()) with
         | none => none
         | some v14 =>
         some (((IntKind.i64.wrap (Int.tdiv v1 (64 : Int))), (Int.tmod (IntKind.i64.wrap (Int.tdiv v2 (8 : Int))) (8 : Int)), (v7.1.1, v7.1.2.1, v7.1.2.2.1, v7.1.2.2.2.1, v7.1.2.2.2.2.1, ()), v11.1, ()), v14.1, ())
        | false =>
         some (((IntKind.i64.wrap (Int.tdiv v1 (64 : Int))), (Int.tmod (IntKind.i64.wrap (Int.tdiv v2 (8 : Int))) (8 : Int)), (v7.1.1, v7.1.2.1, v7.1.2.2.1, v7.1.2.2.2.1, v7.1.2.2.2.2.1, ()), v11.1, ()), false, ())) (
        match s_IsFrame (((IntKind.i64.wrap (Int.tdiv v1 (64 : Int))), (Int.tmod (IntKind.i64.wrap (Int.tdiv v2 (8 : Int))) (8 : Int)), (v7.1.1, v7.1.2.1, v7.1.2.2.1, v7.1.2.2.2.1, v7.1.2.2.2.2.1, ()), v11.1, ()), ()) with
        | none => none
        | some v12 =>
        match v12.1 with
        | true =>
         both (
          match s_l06Body (((IntKind.i64.wrap (Int.tdiv v1 (64 : Int))), (Int.tmod (IntKind.i64.wrap (Int.tdiv v2 (8 : Int))) (8 : Int)), (v7.1.1, v7.1.2.1, v7.1.2.2.1, v7.1.2.2.2.1, v7.1.2.2.2.2.1, ()), v11.1, ()), ()) with
          | none => none
          | some v13 =>
          match s_l01Same (v13.1, x.1, ()) with
          | none => none
          | some v14 =>
          some (((IntKind.i64.wrap (Int.tdiv v1 (64 : Int))), (Int.tmod (IntKind.i64.wrap (Int.tdiv v2 (8 : Int))) (8 : Int)), (v7.1.1, v7.1.2.1, v7.1.2.2.1, v7.1.2.2.2.1, v7.1.2.2.2.2.1, ()), v11.1, ()), v14.1, ())) (
          both (
           match s_l06Body (((IntKind.i64.wrap (Int.tdiv v1 (64 : Int))), (Int.tmod (IntKind.i64.wrap (Int.tdiv v2 (8 : Int))) (8 : Int)), (v7.1.1, v7.1.2.1, v7.1.2.2.1, v7.1.2.2.2.1, v7.1.2.2.2.2.1, ()), v11.1, ()), ()) with
           | none => none
           | some v13 =>
           match s_l01Same (v13.1, x.1, ()) with
           | none => none
           | some v14 =>
           some (((IntKind.i64.wrap (Int.tdiv v1 (64 : Int))), (Int.tmod (IntKind.i64.wrap (Int.tdiv v2 (8 : Int))) (8 : Int)), (v7.1.1, v7.1.2.1, v7.1.2.2.1, v7.1.2.2.2.1, v7.1.2.2.2.2.1, ()), v11.1, ()), v14.1, ())) (
           match s_l06Body (((IntKind.i64.wrap (Int.tdiv v1 (64 : Int))), (Int.tmod (IntKind.i64.wrap (Int.tdiv v2 (8 : Int))) (8 : Int)), (v7.1.1, v7.1.2.1, v7.1.2.2.1, v7.1.2.2.2.1, v7.1.2.2.2.2.1, ()), v11.1, ()), ()) with
           | none => none
           | some v13 =>
           same (
            match s_l01Same (v13.1, x.1, ()) with
            | none => none
            | some v14 =>
            some (((IntKind.i64.wrap (Int.tdiv v1 (64 : Int))), (Int.tmod (IntKind.i64.wrap (Int.tdiv v2 (8 : Int))) (8 : Int)), (v7.1.1, v7.1.2.1, v7.1.2.2.1, v7.1.2.2.2.1, v7.1.2.2.2.2.1, ()), v11.1, ()), v14.1, ()))))
        | false =>
         both (
          some (((IntKind.i64.wrap (Int.tdiv v1 (64 : Int))), (Int.tmod (IntKind.i64.wrap (Int.tdiv v2 (8 : Int))) (8 : Int)), (v7.1.1, v7.1.2.1, v7.1.2.2.1, v7.1.2.2.2.1, v7.1.2.2.2.2.1, ()), v11.1, ()), false, ())) (
          both (
           some (((IntKind.i64.wrap (Int.tdiv v1 (64 : Int))), (Int.tmod (IntKind.i64.wrap (Int.tdiv v2 (8 : Int))) (8 : Int)), (v7.1.1, v7.1.2.1, v7.1.2.2.1, v7.1.2.2.2.1, v7.1.2.2.2.2.1, ()), v11.1, ()), false, ())) (
           same (
            some (((IntKind.i64.wrap (Int.tdiv v1 (64 : Int))), (Int.tmod (IntKind.i64.wrap (Int.tdiv v2 (8 : Int))) (8 : Int)), (v7.1.1, v7.1.2.1, v7.1.2.2.1, v7.1.2.2.2.1, v7.1.2.2.2.2.1, ()), v11.1, ()), false, ()))))))
    | false =>
     both (
      match s_IsFrame (((IntKind.i64.wrap (Int.tdiv v1 (64 : Int))), (Int.tmod (IntKind.i64.wrap (Int.tdiv v2 (8 : Int))) (8 : Int)), (v7.1.1, v7.1.2.1, v7.1.2.2.1, v7.1.2.2.2.1, v7.1.2.2.2.2.1, ()), [], ()), ()) with
      | none => none
      | some v15 =>
      match v15.1 with
      | true =>
       match s_l06Body (((IntKind.i64.wrap (Int.tdiv v1 (64 : Int))), (Int.tmod (IntKind.i64.wrap (Int.tdiv v2 (8 : Int))) (8 : Int)), (v7.1.1, v7.1.2.1, v7.1.2.2.1, v7.1.2.2.2.1, v7.1.2.2.2.2.1, ()), [], ()), ()) with
       | none => none
       | some v16 =>
       match s_l01Same (v16.1, x.1, ()) with
       | none => none
       | some v17 =>
       some (((IntKind.i64.wrap (Int.tdiv v1 (64 : Int))), (Int.tmod (IntKind.i64.wrap (Int.tdiv v2 (8 : Int))) (8 : Int)), (v7.1.1, v7.1.2.1, v7.1.2.2.1, v7.1.2.2.2.1, v7.1.2.2.2.2.1, ()), [], ()), v17.1, ())
      | false =>
       some (((IntKind.i64.wrap (Int.tdiv v1 (64 : Int))), (Int.tmod (IntKind.i64.wrap (Int.tdiv v2 (8 : Int))) (8 : Int)), (v7.1.1, v7.1.2.1, v7.1.2.2.1, v7.1.2.2.2.1, v7.1.2.2.2.2.1, ()), [], ()), false, ())) (
      both (
       match s_IsFrame (((IntKind.i64.wrap (Int.tdiv v1 (64 : Int))), (Int.tmod (IntKind.i64.wrap (Int.tdiv v2 (8 : Int))) (8 : Int)), (v7.1.1, v7.1.2.1, v7.1.2.2.1, v7.1.2.2.2.1, v7.1.2.2.2.2.1, ()), [], ()), ()) with
       | none => none
       | some v15 =>
       match v15.1 with
       | true =>
        match s_l06Body (((IntKind.i64.wrap (Int.tdiv v1 (64 : Int))), (Int.tmod (IntKind.i64.wrap (Int.tdiv v2 (8 : Int))) (8 : Int)), (v7.1.1, v7.1.2.1, v7.1.2.2.1, v7.1.2.2.2.1, v7.1.2.2.2.2.1, ()), [], ()), ()) with
        | none => none
        | some v16 =>
        match s_l01Same (v16.1, x.1, ()) with
        | none => none
        | some v17 =>
        some (((IntKind.i64.wrap (Int.tdiv v1 (64 : Int))), (Int.tmod (IntKind.i64.wrap (Int.tdiv v2 (8 : Int))) (8 : Int)), (v7.1.1, v7.1.2.1, v7.1.2.2.1, v7.1.2.2.2.1, v7.1.2.2.2.2.1, ()), [], ()), v17.1, ())
       | false =>
        some (((IntKind.i64.wrap (Int.tdiv v1 (64 : Int))), (Int.tmod (IntKind.i64.wrap (Int.tdiv v2 (8 : Int))) (8 : Int)), (v7.1.1, v7.1.2.1, v7.1.2.2.1, v7.1.2.2.2.1, v7.1.2.2.2.2.1, ()), [], ()), false, ())) (
       match s_IsFrame (((IntKind.i64.wrap (Int.tdiv v1 (64 : Int))), (Int.tmod (IntKind.i64.wrap (Int.tdiv v2 (8 : Int))) (8 : Int)), (v7.1.1, v7.1.2.1, v7.1.2.2.1, v7.1.2.2.2.1, v7.1.2.2.2.2.1, ()), [], ()), ()) with
       | none => none
       | some v15 =>
       match v15.1 with
       | true =>
        both (
         match s_l06Body (((IntKind.i64.wrap (Int.tdiv v1 (64 : Int))), (Int.tmod (IntKind.i64.wrap (Int.tdiv v2 (8 : Int))) (8 : Int)), (v7.1.1, v7.1.2.1, v7.1.2.2.1, v7.1.2.2.2.1, v7.1.2.2.2.2.1, ()), [], ()), ()) with
         | none => none
         | some v16 =>
         match s_l01Same (v16.1, x.1, ()) with
         | none => none
         | some v17 =>
         some (((IntKind.i64.wrap (Int.tdiv v1 (64 : Int))), (Int.tmod (IntKind.i64.wrap (Int.tdiv v2 (8 : Int))) (8 : Int)), (v7.1.1, v7.1.2.1, v7.1.2.2.1, v7.1.2.2.2.1, v7.1.2.2.2.2.1, ()), [], ()), v17.1, ())) (
         both (
          match s_l06Body (((IntKind.i64.wrap (Int.tdiv v1 (64 : Int))), (Int.tmod (IntKind.i64.wrap (Int.tdiv v2 (8 : Int))) (8 : Int)), (v7.1.1, v7.1.2.1, v7.1.2.2.1, v7.1.2.2.2.1, v7.1.2.2.2.2.1, ()), [], ()), ()) with
          | none => none
          | some v16 =>
          match s_l01Same (v16.1, x.1, ()) with
          | none => none
          | some v17 =>
          some (((IntKind.i64.wrap (Int.tdiv v1 (64 : Int))), (Int.tmod (IntKind.i64.wrap (Int.tdiv v2 (8 : Int))) (8 : Int)), (v7.1.1, v7.1.2.1, v7.1.2.2.1, v7.1.2.2.2.1, v7.1.2.2.2.2.1, ()), [], ()), v17.1, ())) (
          match s_l06Body (((IntKind.i64.wrap (Int.tdiv v1 (64 : Int))), (Int.tmod (IntKind.i64.wrap (Int.tdiv v2 (8 : Int))) (8 : Int)), (v7.1.1, v7.1.2.1, v7.1.2.2.1, v7.1.2.2.2.1, v7.1.2.2.2.2.1, ()), [], ()), ()) with
          | none => none
          | some v16 =>
          same (
           match s_l01Same (v16.1, x.1, ()) with
           | none => none
           | some v17 =>
           some (((IntKind.i64.wrap (Int.tdiv v1 (64 : Int))), (Int.tmod (IntKind.i64.wrap (Int.tdiv v2 (8 : Int))) (8 : Int)), (v7.1.1, v7.1.2.1, v7.1.2.2.1, v7.1.2.2.2.1, v7.1.2.2.2.2.1, ()), [], ()), v17.1, ()))))
       | false =>
        both (
         some (((IntKind.i64.wrap (Int.tdiv v1 (64 : Int))), (Int.tmod (IntKind.i64.wrap (Int.tdiv v2 (8 : Int))) (8 : Int)), (v7.1.1, v7.1.2.1, v7.1.2.2.1, v7.1.2.2.2.1, v7.1.2.2.2.2.1, ()), [], ()), false, ())) (
         both (
          some (((IntKind.i64.wrap (Int.tdiv v1 (64 : Int))), (Int.tmod (IntKind.i64.wrap (Int.tdiv v2 (8 : Int))) (8 : Int)), (v7.1.1, v7.1.2.1, v7.1.2.2.1, v7.1.2.2.2.1, v7.1.2.2.2.2.1, ()), [], ()), false, ())) (
          same (
           some (((IntKind.i64.wrap (Int.tdiv v1 (64 : Int))), (Int.tmod (IntKind.i64.wrap (Int.tdiv v2 (8 : Int))) (8 : Int)), (v7.1.1, v7.1.2.1, v7.1.2.2.1, v7.1.2.2.2.1, v7.1.2.2.2.2.1, ()), [], ()), false, ()))))))
  | false =>
   match s_l06Data ((IntKind.i64.wrap (Int.tdiv v1 (64 : Int))), ()) with
   | none => none
   | some v18 =>
   match v18.1 with
   | true =>
    match (((List.drop v3.1 (List.take v3.2 x.1)).length : Int) == (0 : Int)) with
    | true =>
     some (((0 : Int), (0 : Int), ((0 : Int), (0 : Int), (0 : Int), (0 : Int), (0 : Int), ()), [], ()), false, ())
    | false =>
     onSome (bounds (List.drop v3.1 (List.take v3.2 x.1)).length (some (.dat (.int .i64) (1 : Int))) none) fun v19 =>
     match s_l01Own ((List.drop v19.1 (List.take v19.2 (List.drop v3.1 (List.take v3.2 x.1)))), ()) with
     | none => none
     | some v20 =>
     both (
      match s_IsFrame (((IntKind.i64.wrap (Int.tdiv v1 (64 : Int))), (Int.tmod (IntKind.i64.wrap (Int.tdiv v2 (8 : Int))) (8 : Int)), ((0 : Int), (0 : Int), (0 : Int), (0 : Int), (0 : Int), ()), v20.1, ()), ()) with
      | none => none
      | some v21 =>
      match v21.1 with
      | true =>
       match s_l06Body (((IntKind.i64.wrap (Int.tdiv v1 (64 : Int))), (Int.tmod (IntKind.i64.wrap (Int.tdiv v2 (8 : Int))) (8 : Int)), ((0 : Int), (0 : Int), (0 : Int), (0 : Int), (0 : Int), ()), v20.1, ()), ()) with
       | none => none
       | some v22 =>
       match s_l01Same (v22.1, x.1, ()) with
       | none => none
       | some v23 =>
       some (((IntKind.i64.wrap (Int.tdiv v1 (64 : Int))), (Int.tmod (IntKind.i64.wrap (Int.tdiv v2 (8 : Int))) (8 : Int)), ((0 : Int), (0 : Int), (0 : Int), (0 : Int), (0 : Int), ()), v20.1, ()), v23.1, ())
      | false =>
       some (((IntKind.i64.wrap (Int.tdiv v1 (64 : Int))), (Int.tmod (IntKind.i64.wrap (Int.tdiv v2 (8 : Int))) (8 : Int)), ((0 : Int), (0 : Int), (0 : Int), (0 : Int), (0 : Int), ()), v20.1, ()), false, ())) (
      both (
       match s_IsFrame (((IntKind.i64.wrap (Int.tdiv v1 (64 : Int))), (Int.tmod (IntKind.i64.wrap (Int.tdiv v2 (8 : Int))) (8 : Int)), ((0 : Int), (0 : Int), (0 : Int), (0 : Int), (0 : Int), ()), v20.1, ()), ()) with
       | none => none
       | some v21 =>
       match v21.1 with
       | true =>
        match s_l06Body (((IntKind.i64.wrap (Int.tdiv v1 (64 : Int))), (Int.tmod (IntKind.i64.wrap (Int.tdiv v2 (8 : Int))) (8 : Int)), ((0 : Int), (0 : Int), (0 : Int), (0 : Int), (0 : Int), ()), v20.1, ()), ()) with
        | none => none
        | some v22 =>
        match s_l01Same (v22.1, x.1, ()) with
        | none => none
        | some v23 =>
        some (((IntKind.i64.wrap (Int.tdiv v1 (64 : Int))), (Int.tmod (IntKind.i64.wrap (Int.tdiv v2 (8 : Int))) (8 : Int)), ((0 : Int), (0 : Int), (0 : Int), (0 : Int), (0 : Int), ()), v20.1, ()), v23.1, ())
       | false =>
        some (((IntKind.i64.wrap (Int.tdiv v1 (64 : Int))), (Int.tmod (IntKind.i64.wrap (Int.tdiv v2 (8 : Int))) (8 : Int)), ((0 : Int), (0 : Int), (0 : Int), (0 : Int), (0 : Int), ()), v20.1, ()), false, ())) (
       match s_IsFrame (((IntKind.i64.wrap (Int.tdiv v1 (64 : Int))), (Int.tmod (IntKind.i64.wrap (Int.tdiv v2 (8 : Int))) (8 : Int)), ((0 : Int), (0 : Int), (0 : Int), (0 : Int), (0 : Int), ()), v20.1, ()), ()) with
       | none => none
       | some v21 =>
       match v21.1 with
       | true =>
        both (
         match s_l06Body (((IntKind.i64.wrap (Int.tdiv v1 (64 : Int))), (Int.tmod (IntKind.i64.wrap (Int.tdiv v2 (8 : Int))) (8 : Int)), ((0 : Int), (0 : Int), (0 : Int), (0 : Int), (0 : Int), ()), v20.1, ()), ()) with
         | none => none
         | some v22 =>
         match s_l01Same (v22.1, x.1, ()) with
         | none => none
         | some v23 =>
         some (((IntKind.i64.wrap (Int.tdiv v1 (64 : Int))), (Int.tmod (IntKind.i64.wrap (Int.tdiv v2 (8 : Int))) (8 : Int)), ((0 : Int), (0 : Int), (0 : Int), (0 : Int), (0 : Int), ()), v20.1, ()), v23.1, ())) (
         both (
          match s_l06Body (((IntKind.i64.wrap (Int.tdiv v1 (64 : Int))), (Int.tmod (IntKind.i64.wrap (Int.tdiv v2 (8 : Int))) (8 : Int)), ((0 : Int), (0 : Int), (0 : Int), (0 : Int), (0 : Int), ()), v20.1, ()), ()) with
          | none => none
          | some v22 =>
          match s_l01Same (v22.1, x.1, ()) with
          | none => none
          | some v23 =>
          some (((IntKind.i64.wrap (Int.tdiv v1 (64 : Int))), (Int.tmod (IntKind.i64.wrap (Int.tdiv v2 (8 : Int))) (8 : Int)), ((0 : Int), (0 : Int), (0 : Int), (0 : Int), (0 : Int), ()), v20.1, ()), v23.1, ())) (
          match s_l06Body (((IntKind.i64.wrap (Int.tdiv v1 (64 : Int))), (Int.tmod (IntKind.i64.wrap (Int.tdiv v2 (8 : Int))) (8 : Int)), ((0 : Int), (0 : Int), (0 : Int), (0 : Int), (0 : Int), ()), v20.1, ()), ()) with
          | none => none
          | some v22 =>
          same (
           match s_l01Same (v22.1, x.1, ()) with
           | none => none
           | some v23 =>
           some (((IntKind.i64.wrap (Int.tdiv v1 (64 : Int))), (Int.tmod (IntKind.i64.wrap (Int.tdiv v2 (8 : Int))) (8 : Int)), ((0 : Int), (0 : Int), (0 : Int), (0 : Int), (0 : Int), ()), v20.1, ()), v23.1, ()))))
       | false =>
        both (
         some (((IntKind.i64.wrap (Int.tdiv v1 (64 : Int))), (Int.tmod (IntKind.i64.wrap (Int.tdiv v2 (8 : Int))) (8 : Int)), ((0 : Int), (0 : Int), (0 : Int), (0 : Int), (0 : Int), ()), v20.1, ()), false, ())) (
         both (
          some (((IntKind.i64.wrap (Int.tdiv v1 (64 : Int))), (Int.tmod (IntKind.i64.wrap (Int.tdiv v2 (8 : Int))) (8 : Int)), ((0 : Int), (0 : Int), (0 : Int), (0 : Int), (0 : Int), ()), v20.1, ()), false, ())) (
          same (
           some (((IntKind.i64.wrap (Int.tdiv v1 (64 : Int))), (Int.tmod (IntKind.i64.wrap (Int.tdiv v2 (8 : Int))) (8 : Int)), ((0 : Int), (0 : Int), (0 : Int), (0 : Int), (0 : Int), ()), v20.1, ()), false, ()))))))
   | false =>
    both (
     match s_IsFrame (((IntKind.i64.wrap (Int.tdiv v1 (64 : Int))), (Int.tmod (IntKind.i64.wrap (Int.tdiv v2 (8 : Int))) (8 : Int)), ((0 : Int), (0 : Int), (0 : Int), (0 : Int), (0 : Int), ()), [], ()), ()) with
     | none => none
     | some v24 =>
     match v24.1 with
     | true =>
      match s_l06Body (((IntKind.i64.wrap (Int.tdiv v1 (64 : Int))), (Int.tmod (IntKind.i64.wrap (Int.tdiv v2 (8 : Int))) (8 : Int)), ((0 : Int), (0 : Int), (0 : Int), (0 : Int), (0 : Int), ()), [], ()), ()) with
      | none => none
      | some v25 =>
      match s_l01Same (v25.1, x.1, ()) with
      | none => none
      | some v26 =>
      some (((IntKind.i64.wrap (Int.tdiv v1 (64 : Int))), (Int.tmod (IntKind.i64.wrap (Int.tdiv v2 (8 : Int))) (8 : Int)), ((0 : Int), (0 : Int), (0 : Int), (0 : Int), (0 : Int), ()), [], ()), v26.1, ())
     | false =>
      some (((IntKind.i64.wrap (Int.tdiv v1 (64 : Int))), (Int.tmod (IntKind.i64.wrap (Int.tdiv v2 (8 : Int))) (8 : Int)), ((0 : Int), (0 : Int), (0 : Int), (0 : Int), (0 : Int), ()), [], ()), false, ())) (
     both (
      match s_IsFrame (((IntKind.i64.wrap (Int.tdiv v1 (64 : Int))), (Int.tmod (IntKind.i64.wrap (Int.tdiv v2 (8 : Int))) (8 : Int)), ((0 : Int), (0 : Int), (0 : Int), (0 : Int), (0 : Int), ()), [], ()), ()) with
      | none => none
      | some v24 =>
      match v24.1 with
      | true =>
       match s_l06Body (((IntKind.i64.wrap (Int.tdiv v1 (64 : Int))), (Int.tmod (IntKind.i64.wrap (Int.tdiv v2 (8 : Int))) (8 : Int)), ((0 : Int), (0 : Int), (0 : Int), (0 : Int), (0 : Int), ()), [], ()), ()) with
       | none => none
       | some v25 =>
       match s_l01Same (v25.1, x.1, ()) with
       | none => none
       | some v26 =>
       some (((IntKind.i64.wrap (Int.tdiv v1 (64 : Int))), (Int.tmod (IntKind.i64.wrap (Int.tdiv v2 (8 : Int))) (8 : Int)), ((0 : Int), (0 : Int), (0 : Int), (0 : Int), (0 : Int), ()), [], ()), v26.1, ())
      | false =>
       some (((IntKind.i64.wrap (Int.tdiv v1 (64 : Int))), (Int.tmod (IntKind.i64.wrap (Int.tdiv v2 (8 : Int))) (8 : Int)), ((0 : Int), (0 : Int), (0 : Int), (0 : Int), (0 : Int), ()), [], ()), false, ())) (
      match s_IsFrame (((IntKind.i64.wrap (Int.tdiv v1 (64 : Int))), (Int.tmod (IntKind.i64.wrap (Int.tdiv v2 (8 : Int))) (8 : Int)), ((0 : Int), (0 : Int), (0 : Int), (0 : Int), (0 : Int), ()), [], ()), ()) with
      | none => none
      | some v24 =>
      match v24.1 with
      | true =>
       both (
        match s_l06Body (((IntKind.i64.wrap (Int.tdiv v1 (64 : Int))), (Int.tmod (IntKind.i64.wrap (Int.tdiv v2 (8 : Int))) (8 : Int)), ((0 : Int), (0 : Int), (0 : Int), (0 : Int), (0 : Int), ()), [], ()), ()) with
        | none => none
        | some v25 =>
        match s_l01Same (v25.1, x.1, ()) with
        | none => none
        | some v26 =>
        some (((IntKind.i64.wrap (Int.tdiv v1 (64 : Int))), (Int.tmod (IntKind.i64.wrap (Int.tdiv v2 (8 : Int))) (8 : Int)), ((0 : Int), (0 : Int), (0 : Int), (0 : Int), (0 : Int), ()), [], ()), v26.1, ())) (
        both (
         match s_l06Body (((IntKind.i64.wrap (Int.tdiv v1 (64 : Int))), (Int.tmod (IntKind.i64.wrap (Int.tdiv v2 (8 : Int))) (8 : Int)), ((0 : Int), (0 : Int), (0 : Int), (0 : Int), (0 : Int), ()), [], ()), ()) with
         | none => none
         | some v25 =>
         match s_l01Same (v25.1, x.1, ()) with
         | none => none
         | some v26 =>
         some (((IntKind.i64.wrap (Int.tdiv v1 (64 : Int))), (Int.tmod (IntKind.i64.wrap (Int.tdiv v2 (8 : Int))) (8 : Int)), ((0 : Int), (0 : Int), (0 : Int), (0 : Int), (0 : Int), ()), [], ()), v26.1, ())) (
         match s_l06Body (((IntKind.i64.wrap (Int.tdiv v1 (64 : Int))), (Int.tmod (IntKind.i64.wrap (Int.tdiv v2 (8 : Int))) (8 : Int)), ((0 : Int), (0 : Int), (0 : Int), (0 : Int), (0 : Int), ()), [], ()), ()) with
         | none => none
         | some v25 =>
         same (
          match s_l01Same (v25.1, x.1, ()) with
          | none => none
          | some v26 =>
          some (((IntKind.i64.wrap (Int.tdiv v1 (64 : Int))), (Int.tmod (IntKind.i64.wrap (Int.tdiv v2 (8 : Int))) (8 : Int)), ((0 : Int), (0 : Int), (0 : Int), (0 : Int), (0 : Int), ()), [], ()), v26.1, ()))))
      | false =>
       both (
        some (((IntKind.i64.wrap (Int.tdiv v1 (64 : Int))), (Int.tmod (IntKind.i64.wrap (Int.tdiv v2 (8 : Int))) (8 : Int)), ((0 : Int), (0 : Int), (0 : Int), (0 : Int), (0 : Int), ()), [], ()), false, ())) (
        both (
         some (((IntKind.i64.wrap (Int.tdiv v1 (64 : Int))), (Int.tmod (IntKind.i64.wrap (Int.tdiv v2 (8 : Int))) (8 : Int)), ((0 : Int), (0 : Int), (0 : Int), (0 : Int), (0 : Int), ()), [], ()), false, ())) (
         same (
          some (((IntKind.i64.wrap (Int.tdiv v1 (64 : Int))), (Int.tmod (IntKind.i64.wrap (Int.tdiv v2 (8 : Int))) (8 : Int)), ((0 : Int), (0 : Int), (0 : Int), (0 : Int), (0 : Int), ()), [], ()), false, ())))))))
noncomputable def S_s_l06Frame : Spec := ⟨(.pair (.list (.int .i64)) .unit), (.pair (.pair (.int .i64) (.pair (.int .i64) (.pair TState (.pair (.own 2 (.int .i64)) .unit)))) (.pair .bool .unit)), .unit, rfl, s_l06Frame⟩
noncomputable def σ_s_l06Frame : FuncId → Option Spec := sig [(81, S_s_l01Same), (93, S_s_l06State), (95, S_s_IsFrame), (126, S_s_l01Bits), (127, S_s_l04State), (128, S_s_l06Data), (129, S_s_l01Own), (130, S_s_l06Body)]
theorem σok_s_l06Frame : ∀ f s, σ_s_l06Frame f = some s → FnOK G0 Tryz.prog f s := sig_ok ⟨ok_s_l01Same, ok_s_l06State, ok_s_IsFrame, ok_s_l01Bits, ok_s_l04State, ok_s_l06Data, ok_s_l01Own, ok_s_l06Body, trivial⟩
theorem ok_s_l06Frame : FnOK G0 Tryz.prog 92 S_s_l06Frame := fn_okS tab0 σok_s_l06Frame Tryz.func92 [] (by kernel_rfl) (by exact trivial) fun x => by kernel_rfl

noncomputable def s_l07Open (x : Ty.T (.pair (.list (.int .i64)) (.pair (.int .i64) (.pair TState .unit)))) : Option (Ty.T (.pair (.pair (.int .i64) (.pair (.int .i64) (.pair TState (.pair (.own 2 (.int .i64)) .unit)))) (.pair (.int .i64) .unit))) :=
match (decide ((IntKind.i64.wrap ((x.1.length : Int) - (3 : Int))) < (1 : Int))) with
| true =>
 some (((0 : Int), (0 : Int), ((0 : Int), (0 : Int), (0 : Int), (0 : Int), (0 : Int), ()), [], ()), (6 : Int), ())
| false =>
 onSome (idx x.1 (IntKind.i64.wrap ((x.1.length : Int) - (3 : Int)))) fun v1 =>
 onSome (idx x.1 (IntKind.i64.wrap ((IntKind.i64.wrap ((x.1.length : Int) - (3 : Int))) + (1 : Int)))) fun v2 =>
 onSome (idx x.1 (IntKind.i64.wrap ((IntKind.i64.wrap ((x.1.length : Int) - (3 : Int))) + (2 : Int)))) fun v3 =>
 onSome (idx x.1 (0 : Int)) fun v4 =>
 onSome (bounds x.1.length none (some (.dat (.int .i64) (IntKind.i64.wrap ((x.1.length : Int) - (3 : Int)))))) fun v5 =>
 match s_l07Number ((IntKind.i64.wrap (Int.tdiv v4 (64 : Int))), (List.drop v5.1 (List.take v5.2 x.1)), x.2.1, (x.2.2.1.1, x.2.2.1.2.1, x.2.2.1.2.2.1, x.2.2.1.2.2.2.1, x.2.2.1.2.2.2.2.1, ()), ()) with
 | none => none
 | some v6 =>
 match (v6.1 != (IntKind.i64.wrap ((IntKind.i64.wrap ((IntKind.i64.wrap (v1 * (65536 : Int))) + (IntKind.i64.wrap (v2 * (256 : Int))))) + v3))) with
 | true =>
  some (((0 : Int), (0 : Int), ((0 : Int), (0 : Int), (0 : Int), (0 : Int), (0 : Int), ()), [], ()), (7 : Int), ())
 | false =>
  onSome (bounds x.1.length none (some (.dat (.int .i64) (IntKind.i64.wrap ((x.1.length : Int) - (3 : Int)))))) fun v7 =>
  match s_l06Frame ((List.drop v7.1 (List.take v7.2 x.1)), ()) with
  | none => none
  | some v8 =>
  match (!v8.2.1) with
  | true =>
   some (((0 : Int), (0 : Int), ((0 : Int), (0 : Int), (0 : Int), (0 : Int), (0 : Int), ()), [], ()), (6 : Int), ())
  | false =>
   match s_l06State (v8.1.1, ()) with
   | none => none
   | some v9 =>
   match v9.1 with
   | true =>
    match (!(eqT TState (v8.1.2.2.1.1, v8.1.2.2.1.2.1, v8.1.2.2.1.2.2.1, v8.1.2.2.1.2.2.2.1, v8.1.2.2.1.2.2.2.2.1, ()) (x.2.2.1.1, x.2.2.1.2.1, x.2.2.1.2.2.1, x.2.2.1.2.2.2.1, x.2.2.1.2.2.2.2.1, ()))) with
    | true =>
     some (((0 : Int), (0 : Int), ((0 : Int), (0 : Int), (0 : Int), (0 : Int), (0 : Int), ()), [], ()), (5 : Int), ())
    | false =>
     some ((v8.1.1, v8.1.2.1, (v8.1.2.2.1.1, v8.1.2.2.1.2.1, v8.1.2.2.1.2.2.1, v8.1.2.2.1.2.2.2.1, v8.1.2.2.1.2.2.2.2.1, ()), v8.1.2.2.2.1, ()), (0 : Int), ())
   | false =>
    some ((v8.1.1, v8.1.2.1, (v8.1.2.2.1.1, v8.1.2.2.1.2.1, v8.1.2.2.1.2.2.1, v8.1.2.2.1.2.2.2.1, v8.1.2.2.1.2.2.2.2.1, ()), v8.1.2.2.2.1, ()), (0 : Int), ())
noncomputable def S_s_l07Open : Spec := ⟨(.pair (.list (.int .i64)) (.pair (.int .i64) (.pair TState .unit))), (.pair (.pair (.int .i64) (.pair (.int .i64) (.pair TState (.pair (.own 2 (.int .i64)) .unit)))) (.pair (.int .i64) .unit)), .unit, rfl, s_l07Open⟩
noncomputable def σ_s_l07Open : FuncId → Option Spec := sig [(91, S_s_l07Number), (92, S_s_l06Frame), (93, S_s_l06State)]
theorem σok_s_l07Open : ∀ f s, σ_s_l07Open f = some s → FnOK G0 Tryz.prog f s := sig_ok ⟨ok_s_l07Number, ok_s_l06Frame, ok_s_l06State, trivial⟩
theorem ok_s_l07Open : FnOK G0 Tryz.prog 69 S_s_l07Open := fn_okS tab0 σok_s_l07Open Tryz.func69 [] (by kernel_rfl) (by exact trivial) fun x => by kernel_rfl

noncomputable def s_FitsDescriptor (x : Ty.T (.pair TDescriptor (.pair TFrame .unit))) : Option (Ty.T (.pair .bool .unit)) :=
match s_IsDescriptor ((x.1.1, x.1.2.1, x.1.2.2.1, x.1.2.2.2.1, x.1.2.2.2.2.1, ()), ()) with
| none => none
| some v1 =>
match v1.1 with
| true =>
 match s_IsFrame ((x.2.1.1, x.2.1.2.1, (x.2.1.2.2.1.1, x.2.1.2.2.1.2.1, x.2.1.2.2.1.2.2.1, x.2.1.2.2.1.2.2.2.1, x.2.1.2.2.1.2.2.2.2.1, ()), x.2.1.2.2.2.1, ()), ()) with
 | none => none
 | some v2 =>
 match v2.1 with
 | true =>
  match (x.2.1.1 == x.1.2.1) with
  | true =>
   match ((x.2.1.2.2.2.1.length : Int) == x.1.2.2.1) with
   | true =>
    match x.1.2.2.2.2.1 with
    | true =>
     some (true, ())
    | false =>
     some ((x.2.1.2.1 == (0 : Int)), ())
   | false =>
    some (false, ())
  | false =>
   some (false, ())
 | false =>
  some (false, ())
| false =>
 some (false, ())
noncomputable def S_s_FitsDescriptor : Spec := ⟨(.pair TDescriptor (.pair TFrame .unit)), (.pair .bool .unit), .unit, rfl, s_FitsDescriptor⟩
noncomputable def σ_s_FitsDescriptor : FuncId → Option Spec := sig [(94, S_s_IsDescriptor), (95, S_s_IsFrame)]
theorem σok_s_FitsDescriptor : ∀ f s, σ_s_FitsDescriptor f = some s → FnOK G0 Tryz.prog f s := sig_ok ⟨ok_s_IsDescriptor, ok_s_IsFrame, trivial⟩
theorem ok_s_FitsDescriptor : FnOK G0 Tryz.prog 70 S_s_FitsDescriptor := fn_okS tab0 σok_s_FitsDescriptor Tryz.func70 [] (by kernel_rfl) (by exact trivial) fun x => by kernel_rfl

noncomputable def s_l15Desc (x : Ty.T (.pair TMedl (.pair TState .unit))) : Option (Ty.T (.pair TDescriptor .unit)) :=
match s_l12Find (x.1.2.2.2.1, x.2.1.2.1, x.2.1.2.2.1, x.2.1.2.2.2.1, ()) with
| none => none
| some v1 =>
onSome (idx x.1.2.2.2.1 v1.1) fun v2 =>
some ((v2.2.2.2.1.1, v2.2.2.2.1.2.1, v2.2.2.2.1.2.2.1, v2.2.2.2.1.2.2.2.1, v2.2.2.2.1.2.2.2.2.1, ()), ())
noncomputable def S_s_l15Desc : Spec := ⟨(.pair TMedl (.pair TState .unit)), (.pair TDescriptor .unit), .unit, rfl, s_l15Desc⟩
noncomputable def σ_s_l15Desc : FuncId → Option Spec := sig [(96, S_s_l12Find)]
theorem σok_s_l15Desc : ∀ f s, σ_s_l15Desc f = some s → FnOK G0 Tryz.prog f s := sig_ok ⟨ok_s_l12Find, trivial⟩
theorem ok_s_l15Desc : FnOK G0 Tryz.prog 71 S_s_l15Desc := fn_okS tab0 σok_s_l15Desc Tryz.func71 [] (by kernel_rfl) (by exact trivial) fun x => by kernel_rfl

noncomputable def s_l28Bytes (x : Ty.T (.pair TMedl (.pair TState (.pair (.list (.int .i64)) .unit)))) : Option (Ty.T (.pair (.pair (.int .i64) (.pair (.pair (.int .i64) (.pair (.int .i64) (.pair TState (.pair (.own 2 (.int .i64)) .unit)))) .unit)) (.pair (.int .i64) .unit))) :=
match s_l07Open (x.2.2.1, x.1.1, (x.2.1.1, x.2.1.2.1, x.2.1.2.2.1, x.2.1.2.2.2.1, x.2.1.2.2.2.2.1, ()), ()) with
| none => none
| some v1 =>
match (v1.2.1 == (0 : Int)) with
| true =>
 match s_l15Desc ((x.1.1, x.1.2.1, x.1.2.2.1, x.1.2.2.2.1, ()), (x.2.1.1, x.2.1.2.1, x.2.1.2.2.1, x.2.1.2.2.2.1, x.2.1.2.2.2.2.1, ()), ()) with
 | none => none
 | some v2 =>
 match s_FitsDescriptor (v2.1, (v1.1.1, v1.1.2.1, (v1.1.2.2.1.1, v1.1.2.2.1.2.1, v1.1.2.2.1.2.2.1, v1.1.2.2.1.2.2.2.1, v1.1.2.2.1.2.2.2.2.1, ()), v1.1.2.2.2.1, ()), ()) with
 | none => none
 | some v3 =>
 match (!v3.1) with
 | true =>
  match ((5 : Int) != (0 : Int)) with
  | true =>
   some (((2 : Int), ((0 : Int), (0 : Int), ((0 : Int), (0 : Int), (0 : Int), (0 : Int), (0 : Int), ()), [], ()), ()), (5 : Int), ())
  | false =>
   some (((3 : Int), (v1.1.1, v1.1.2.1, (v1.1.2.2.1.1, v1.1.2.2.1.2.1, v1.1.2.2.1.2.2.1, v1.1.2.2.1.2.2.2.1, v1.1.2.2.1.2.2.2.2.1, ()), v1.1.2.2.2.1, ()), ()), (0 : Int), ())
 | false =>
  match (v1.2.1 != (0 : Int)) with
  | true =>
   some (((2 : Int), ((0 : Int), (0 : Int), ((0 : Int), (0 : Int), (0 : Int), (0 : Int), (0 : Int), ()), [], ()), ()), v1.2.1, ())
  | false =>
   some (((3 : Int), (v1.1.1, v1.1.2.1, (v1.1.2.2.1.1, v1.1.2.2.1.2.1, v1.1.2.2.1.2.2.1, v1.1.2.2.1.2.2.2.1, v1.1.2.2.1.2.2.2.2.1, ()), v1.1.2.2.2.1, ()), ()), (0 : Int), ())
| false =>
 match (v1.2.1 != (0 : Int)) with
 | true =>
  some (((2 : Int), ((0 : Int), (0 : Int), ((0 : Int), (0 : Int), (0 : Int), (0 : Int), (0 : Int), ()), [], ()), ()), v1.2.1, ())
 | false =>
  some (((3 : Int), (v1.1.1, v1.1.2.1, (v1.1.2.2.1.1, v1.1.2.2.1.2.1, v1.1.2.2.1.2.2.1, v1.1.2.2.1.2.2.2.1, v1.1.2.2.1.2.2.2.2.1, ()), v1.1.2.2.2.1, ()), ()), (0 : Int), ())
noncomputable def S_s_l28Bytes : Spec := ⟨(.pair TMedl (.pair TState (.pair (.list (.int .i64)) .unit))), (.pair (.pair (.int .i64) (.pair (.pair (.int .i64) (.pair (.int .i64) (.pair TState (.pair (.own 2 (.int .i64)) .unit)))) .unit)) (.pair (.int .i64) .unit)), .unit, rfl, s_l28Bytes⟩
noncomputable def σ_s_l28Bytes : FuncId → Option Spec := sig [(69, S_s_l07Open), (70, S_s_FitsDescriptor), (71, S_s_l15Desc)]
theorem σok_s_l28Bytes : ∀ f s, σ_s_l28Bytes f = some s → FnOK G0 Tryz.prog f s := sig_ok ⟨ok_s_l07Open, ok_s_FitsDescriptor, ok_s_l15Desc, trivial⟩
theorem ok_s_l28Bytes : FnOK G0 Tryz.prog 47 S_s_l28Bytes := fn_okS tab0 σok_s_l28Bytes Tryz.func47 [] (by kernel_rfl) (by exact trivial) fun x => by kernel_rfl

noncomputable def s_l28Samples (x : Ty.T (.pair TMedl (.pair TState (.pair (.list (.int .i64)) .unit)))) : Option (Ty.T (.pair (.pair (.int .i64) (.pair (.pair (.int .i64) (.pair (.int .i64) (.pair TState (.pair (.own 2 (.int .i64)) .unit)))) .unit)) (.pair (.int .i64) .unit))) :=
match s_DecodeSamples (x.2.2.1, ()) with
| none => none
| some v1 =>
match (v1.2.1 == (0 : Int)) with
| true =>
 match s_l28Bytes ((x.1.1, x.1.2.1, x.1.2.2.1, x.1.2.2.2.1, ()), (x.2.1.1, x.2.1.2.1, x.2.1.2.2.1, x.2.1.2.2.2.1, x.2.1.2.2.2.2.1, ()), v1.1, ()) with
 | none => none
 | some v2 =>
 some ((v2.1.1, (v2.1.2.1.1, v2.1.2.1.2.1, (v2.1.2.1.2.2.1.1, v2.1.2.1.2.2.1.2.1, v2.1.2.1.2.2.1.2.2.1, v2.1.2.1.2.2.1.2.2.2.1, v2.1.2.1.2.2.1.2.2.2.2.1, ()), v2.1.2.1.2.2.2.1, ()), ()), v2.2.1, ())
| false =>
 match (v1.2.1 == (4 : Int)) with
 | true =>
  some (((0 : Int), ((0 : Int), (0 : Int), ((0 : Int), (0 : Int), (0 : Int), (0 : Int), (0 : Int), ()), [], ()), ()), v1.2.1, ())
 | false =>
  some (((1 : Int), ((0 : Int), (0 : Int), ((0 : Int), (0 : Int), (0 : Int), (0 : Int), (0 : Int), ()), [], ()), ()), v1.2.1, ())
noncomputable def S_s_l28Samples : Spec := ⟨(.pair TMedl (.pair TState (.pair (.list (.int .i64)) .unit))), (.pair (.pair (.int .i64) (.pair (.pair (.int .i64) (.pair (.int .i64) (.pair TState (.pair (.own 2 (.int .i64)) .unit)))) .unit)) (.pair (.int .i64) .unit)), .unit, rfl, s_l28Samples⟩
noncomputable def σ_s_l28Samples : FuncId → Option Spec := sig [(46, S_s_DecodeSamples), (47, S_s_l28Bytes)]
theorem σok_s_l28Samples : ∀ f s, σ_s_l28Samples f = some s → FnOK G0 Tryz.prog f s := sig_ok ⟨ok_s_DecodeSamples, ok_s_l28Bytes, trivial⟩
theorem ok_s_l28Samples : FnOK G0 Tryz.prog 24 S_s_l28Samples := fn_okS tab0 σok_s_l28Samples Tryz.func24 [] (by kernel_rfl) (by exact trivial) fun x => by kernel_rfl

noncomputable def s_ReceiveChannel (x : Ty.T (.pair TMedl (.pair TState (.pair (.list (.int .i64)) .unit)))) : Option (Ty.T (.pair (.pair (.int .i64) (.pair (.pair (.int .i64) (.pair (.int .i64) (.pair TState (.pair (.own 2 (.int .i64)) .unit)))) .unit)) (.pair (.int .i64) .unit))) :=
match s_l28Code ((x.1.1, x.1.2.1, x.1.2.2.1, x.1.2.2.2.1, ()), (x.2.1.1, x.2.1.2.1, x.2.1.2.2.1, x.2.1.2.2.2.1, x.2.1.2.2.2.2.1, ()), x.2.2.1, ()) with
| none => none
| some v1 =>
match (v1.1 != (0 : Int)) with
| true =>
 some (((0 : Int), ((0 : Int), (0 : Int), ((0 : Int), (0 : Int), (0 : Int), (0 : Int), (0 : Int), ()), [], ()), ()), v1.1, ())
| false =>
 match s_l28Samples ((x.1.1, x.1.2.1, x.1.2.2.1, x.1.2.2.2.1, ()), (x.2.1.1, x.2.1.2.1, x.2.1.2.2.1, x.2.1.2.2.2.1, x.2.1.2.2.2.2.1, ()), x.2.2.1, ()) with
 | none => none
 | some v2 =>
 some ((v2.1.1, (v2.1.2.1.1, v2.1.2.1.2.1, (v2.1.2.1.2.2.1.1, v2.1.2.1.2.2.1.2.1, v2.1.2.1.2.2.1.2.2.1, v2.1.2.1.2.2.1.2.2.2.1, v2.1.2.1.2.2.1.2.2.2.2.1, ()), v2.1.2.1.2.2.2.1, ()), ()), (0 : Int), ())
noncomputable def S_s_ReceiveChannel : Spec := ⟨(.pair TMedl (.pair TState (.pair (.list (.int .i64)) .unit))), (.pair (.pair (.int .i64) (.pair (.pair (.int .i64) (.pair (.int .i64) (.pair TState (.pair (.own 2 (.int .i64)) .unit)))) .unit)) (.pair (.int .i64) .unit)), .unit, rfl, s_ReceiveChannel⟩
noncomputable def σ_s_ReceiveChannel : FuncId → Option Spec := sig [(23, S_s_l28Code), (24, S_s_l28Samples)]
theorem σok_s_ReceiveChannel : ∀ f s, σ_s_ReceiveChannel f = some s → FnOK G0 Tryz.prog f s := sig_ok ⟨ok_s_l28Code, ok_s_l28Samples, trivial⟩
theorem ok_s_ReceiveChannel : FnOK G0 Tryz.prog 6 S_s_ReceiveChannel := fn_okS tab0 σok_s_ReceiveChannel Tryz.func6 [] (by kernel_rfl) (by exact trivial) fun x => by kernel_rfl

noncomputable def s_l28Same (x : Ty.T (.pair TFrame (.pair TFrame .unit))) : Option (Ty.T (.pair .bool .unit)) :=
match (x.1.1 == x.2.1.1) with
| true =>
 match (x.1.2.1 == x.2.1.2.1) with
 | true =>
  match (eqT TState (x.1.2.2.1.1, x.1.2.2.1.2.1, x.1.2.2.1.2.2.1, x.1.2.2.1.2.2.2.1, x.1.2.2.1.2.2.2.2.1, ()) (x.2.1.2.2.1.1, x.2.1.2.2.1.2.1, x.2.1.2.2.1.2.2.1, x.2.1.2.2.1.2.2.2.1, x.2.1.2.2.1.2.2.2.2.1, ())) with
  | true =>
   match s_l01Same (x.1.2.2.2.1, x.2.1.2.2.2.1, ()) with
   | none => none
   | some v1 =>
   some (v1.1, ())
  | false =>
   some (false, ())
 | false =>
  some (false, ())
| false =>
 some (false, ())
noncomputable def S_s_l28Same : Spec := ⟨(.pair TFrame (.pair TFrame .unit)), (.pair .bool .unit), .unit, rfl, s_l28Same⟩
noncomputable def σ_s_l28Same : FuncId → Option Spec := sig [(81, S_s_l01Same)]
theorem σok_s_l28Same : ∀ f s, σ_s_l28Same f = some s → FnOK G0 Tryz.prog f s := sig_ok ⟨ok_s_l01Same, trivial⟩
theorem ok_s_l28Same : FnOK G0 Tryz.prog 61 S_s_l28Same := fn_okS tab0 σok_s_l28Same Tryz.func61 [] (by kernel_rfl) (by exact trivial) fun x => by kernel_rfl

noncomputable def s_l29Merge (x : Ty.T (.pair (.pair (.int .i64) (.pair (.pair (.int .i64) (.pair (.int .i64) (.pair TState (.pair (.own 2 (.int .i64)) .unit)))) .unit)) (.pair (.pair (.int .i64) (.pair (.pair (.int .i64) (.pair (.int .i64) (.pair TState (.pair (.own 2 (.int .i64)) .unit)))) .unit)) .unit))) : Option (Ty.T (.pair (.pair (.int .i64) (.pair (.pair (.int .i64) (.pair (.int .i64) (.pair TState (.pair (.own 2 (.int .i64)) .unit)))) .unit)) .unit)) :=
match (x.1.1 == (3 : Int)) with
| true =>
 match (x.2.1.1 == (3 : Int)) with
 | true =>
  match s_l28Same ((x.1.2.1.1, x.1.2.1.2.1, (x.1.2.1.2.2.1.1, x.1.2.1.2.2.1.2.1, x.1.2.1.2.2.1.2.2.1, x.1.2.1.2.2.1.2.2.2.1, x.1.2.1.2.2.1.2.2.2.2.1, ()), x.1.2.1.2.2.2.1, ()), (x.2.1.2.1.1, x.2.1.2.1.2.1, (x.2.1.2.1.2.2.1.1, x.2.1.2.1.2.2.1.2.1, x.2.1.2.1.2.2.1.2.2.1, x.2.1.2.1.2.2.1.2.2.2.1, x.2.1.2.1.2.2.1.2.2.2.2.1, ()), x.2.1.2.1.2.2.2.1, ()), ()) with
  | none => none
  | some v1 =>
  match v1.1 with
  | true =>
   some ((x.1.1, (x.1.2.1.1, x.1.2.1.2.1, (x.1.2.1.2.2.1.1, x.1.2.1.2.2.1.2.1, x.1.2.1.2.2.1.2.2.1, x.1.2.1.2.2.1.2.2.2.1, x.1.2.1.2.2.1.2.2.2.2.1, ()), x.1.2.1.2.2.2.1, ()), ()), ())
  | false =>
   match (x.1.1 == (3 : Int)) with
   | true =>
    match (x.2.1.1 == (3 : Int)) with
    | true =>
     some (((4 : Int), ((0 : Int), (0 : Int), ((0 : Int), (0 : Int), (0 : Int), (0 : Int), (0 : Int), ()), [], ()), ()), ())
    | false =>
     match (x.1.1 == (4 : Int)) with
     | true =>
      some (((4 : Int), ((0 : Int), (0 : Int), ((0 : Int), (0 : Int), (0 : Int), (0 : Int), (0 : Int), ()), [], ()), ()), ())
     | false =>
      match (x.2.1.1 == (4 : Int)) with
      | true =>
       some (((4 : Int), ((0 : Int), (0 : Int), ((0 : Int), (0 : Int), (0 : Int), (0 : Int), (0 : Int), ()), [], ()), ()), ())
      | false =>
       match (x.1.1 == (3 : Int)) with
       | true =>
        some ((x.1.1, (x.1.2.1.1, x.1.2.1.2.1, (x.1.2.1.2.2.1.1, x.1.2.1.2.2.1.2.1, x.1.2.1.2.2.1.2.2.1, x.1.2.1.2.2.1.2.2.2.1, x.1.2.1.2.2.1.2.2.2.2.1, ()), x.1.2.1.2.2.2.1, ()), ()), ())
       | false =>
        match (x.2.1.1 == (3 : Int)) with
        | true =>
         some ((x.2.1.1, (x.2.1.2.1.1, x.2.1.2.1.2.1, (x.2.1.2.1.2.2.1.1, x.2.1.2.1.2.2.1.2.1, x.2.1.2.1.2.2.1.2.2.1, x.2.1.2.1.2.2.1.2.2.2.1, x.2.1.2.1.2.2.1.2.2.2.2.1, ()), x.2.1.2.1.2.2.2.1, ()), ()), ())
        | false =>
         some (((if x.2.1.1 > x.1.1 then x.2.1.1 else x.1.1), ((0 : Int), (0 : Int), ((0 : Int), (0 : Int), (0 : Int), (0 : Int), (0 : Int), ()), [], ()), ()), ())
   | false =>
    match (x.1.1 == (4 : Int)) with
    | true =>
     some (((4 : Int), ((0 : Int), (0 : Int), ((0 : Int), (0 : Int), (0 : Int), (0 : Int), (0 : Int), ()), [], ()), ()), ())
    | false =>
     match (x.2.1.1 == (4 : Int)) with
     | true =>
      some (((4 : Int), ((0 : Int), (0 : Int), ((0 : Int), (0 : Int), (0 : Int), (0 : Int), (0 : Int), ()), [], ()), ()), ())
     | false =>
      match (x.1.1 == (3 : Int)) with
      | true =>
       some ((x.1.1, (x.1.2.1.1, x.1.2.1.2.1, (x.1.2.1.2.2.1.1, x.1.2.1.2.2.1.2.1, x.1.2.1.2.2.1.2.2.1, x.1.2.1.2.2.1.2.2.2.1, x.1.2.1.2.2.1.2.2.2.2.1, ()), x.1.2.1.2.2.2.1, ()), ()), ())
      | false =>
       match (x.2.1.1 == (3 : Int)) with
       | true =>
        some ((x.2.1.1, (x.2.1.2.1.1, x.2.1.2.1.2.1, (x.2.1.2.1.2.2.1.1, x.2.1.2.1.2.2.1.2.1, x.2.1.2.1.2.2.1.2.2.1, x.2.1.2.1.2.2.1.2.2.2.1, x.2.1.2.1.2.2.1.2.2.2.2.1, ()), x.2.1.2.1.2.2.2.1, ()), ()), ())
       | false =>
        some (((if x.2.1.1 > x.1.1 then x.2.1.1 else x.1.1), ((0 : Int), (0 : Int), ((0 : Int), (0 : Int), (0 : Int), (0 : Int), (0 : Int), ()), [], ()), ()), ())
 | false =>
  match (x.1.1 == (3 : Int)) with
  | true =>
   match (x.2.1.1 == (3 : Int)) with
   | true =>
    some (((4 : Int), ((0 : Int), (0 : Int), ((0 : Int), (0 : Int), (0 : Int), (0 : Int), (0 : Int), ()), [], ()), ()), ())
   | false =>
    match (x.1.1 == (4 : Int)) with
    | true =>
     some (((4 : Int), ((0 : Int), (0 : Int), ((0 : Int), (0 : Int), (0 : Int), (0 : Int), (0 : Int), ()), [], ()), ()), ())
    | false =>
     match (x.2.1.1 == (4 : Int)) with
     | true =>
      some (((4 : Int), ((0 : Int), (0 : Int), ((0 : Int), (0 : Int), (0 : Int), (0 : Int), (0 : Int), ()), [], ()), ()), ())
     | false =>
      match (x.1.1 == (3 : Int)) with
      | true =>
       some ((x.1.1, (x.1.2.1.1, x.1.2.1.2.1, (x.1.2.1.2.2.1.1, x.1.2.1.2.2.1.2.1, x.1.2.1.2.2.1.2.2.1, x.1.2.1.2.2.1.2.2.2.1, x.1.2.1.2.2.1.2.2.2.2.1, ()), x.1.2.1.2.2.2.1, ()), ()), ())
      | false =>
       match (x.2.1.1 == (3 : Int)) with
       | true =>
        some ((x.2.1.1, (x.2.1.2.1.1, x.2.1.2.1.2.1, (x.2.1.2.1.2.2.1.1, x.2.1.2.1.2.2.1.2.1, x.2.1.2.1.2.2.1.2.2.1, x.2.1.2.1.2.2.1.2.2.2.1, x.2.1.2.1.2.2.1.2.2.2.2.1, ()), x.2.1.2.1.2.2.2.1, ()), ()), ())
       | false =>
        some (((if x.2.1.1 > x.1.1 then x.2.1.1 else x.1.1), ((0 : Int), (0 : Int), ((0 : Int), (0 : Int), (0 : Int), (0 : Int), (0 : Int), ()), [], ()), ()), ())
  | false =>
   match (x.1.1 == (4 : Int)) with
   | true =>
    some (((4 : Int), ((0 : Int), (0 : Int), ((0 : Int), (0 : Int), (0 : Int), (0 : Int), (0 : Int), ()), [], ()), ()), ())
   | false =>
    match (x.2.1.1 == (4 : Int)) with
    | true =>
     some (((4 : Int), ((0 : Int), (0 : Int), ((0 : Int), (0 : Int), (0 : Int), (0 : Int), (0 : Int), ()), [], ()), ()), ())
    | false =>
     match (x.1.1 == (3 : Int)) with
     | true =>
      some ((x.1.1, (x.1.2.1.1, x.1.2.1.2.1, (x.1.2.1.2.2.1.1, x.1.2.1.2.2.1.2.1, x.1.2.1.2.2.1.2.2.1, x.1.2.1.2.2.1.2.2.2.1, x.1.2.1.2.2.1.2.2.2.2.1, ()), x.1.2.1.2.2.2.1, ()), ()), ())
     | false =>
      match (x.2.1.1 == (3 : Int)) with
      | true =>
       some ((x.2.1.1, (x.2.1.2.1.1, x.2.1.2.1.2.1, (x.2.1.2.1.2.2.1.1, x.2.1.2.1.2.2.1.2.1, x.2.1.2.1.2.2.1.2.2.1, x.2.1.2.1.2.2.1.2.2.2.1, x.2.1.2.1.2.2.1.2.2.2.2.1, ()), x.2.1.2.1.2.2.2.1, ()), ()), ())
      | false =>
       some (((if x.2.1.1 > x.1.1 then x.2.1.1 else x.1.1), ((0 : Int), (0 : Int), ((0 : Int), (0 : Int), (0 : Int), (0 : Int), (0 : Int), ()), [], ()), ()), ())
| false =>
 match (x.1.1 == (3 : Int)) with
 | true =>
  match (x.2.1.1 == (3 : Int)) with
  | true =>
   some (((4 : Int), ((0 : Int), (0 : Int), ((0 : Int), (0 : Int), (0 : Int), (0 : Int), (0 : Int), ()), [], ()), ()), ())
  | false =>
   match (x.1.1 == (4 : Int)) with
   | true =>
    some (((4 : Int), ((0 : Int), (0 : Int), ((0 : Int), (0 : Int), (0 : Int), (0 : Int), (0 : Int), ()), [], ()), ()), ())
   | false =>
    match (x.2.1.1 == (4 : Int)) with
    | true =>
     some (((4 : Int), ((0 : Int), (0 : Int), ((0 : Int), (0 : Int), (0 : Int), (0 : Int), (0 : Int), ()), [], ()), ()), ())
    | false =>
     match (x.1.1 == (3 : Int)) with
     | true =>
      some ((x.1.1, (x.1.2.1.1, x.1.2.1.2.1, (x.1.2.1.2.2.1.1, x.1.2.1.2.2.1.2.1, x.1.2.1.2.2.1.2.2.1, x.1.2.1.2.2.1.2.2.2.1, x.1.2.1.2.2.1.2.2.2.2.1, ()), x.1.2.1.2.2.2.1, ()), ()), ())
     | false =>
      match (x.2.1.1 == (3 : Int)) with
      | true =>
       some ((x.2.1.1, (x.2.1.2.1.1, x.2.1.2.1.2.1, (x.2.1.2.1.2.2.1.1, x.2.1.2.1.2.2.1.2.1, x.2.1.2.1.2.2.1.2.2.1, x.2.1.2.1.2.2.1.2.2.2.1, x.2.1.2.1.2.2.1.2.2.2.2.1, ()), x.2.1.2.1.2.2.2.1, ()), ()), ())
      | false =>
       some (((if x.2.1.1 > x.1.1 then x.2.1.1 else x.1.1), ((0 : Int), (0 : Int), ((0 : Int), (0 : Int), (0 : Int), (0 : Int), (0 : Int), ()), [], ()), ()), ())
 | false =>
  match (x.1.1 == (4 : Int)) with
  | true =>
   some (((4 : Int), ((0 : Int), (0 : Int), ((0 : Int), (0 : Int), (0 : Int), (0 : Int), (0 : Int), ()), [], ()), ()), ())
  | false =>
   match (x.2.1.1 == (4 : Int)) with
   | true =>
    some (((4 : Int), ((0 : Int), (0 : Int), ((0 : Int), (0 : Int), (0 : Int), (0 : Int), (0 : Int), ()), [], ()), ()), ())
   | false =>
    match (x.1.1 == (3 : Int)) with
    | true =>
     some ((x.1.1, (x.1.2.1.1, x.1.2.1.2.1, (x.1.2.1.2.2.1.1, x.1.2.1.2.2.1.2.1, x.1.2.1.2.2.1.2.2.1, x.1.2.1.2.2.1.2.2.2.1, x.1.2.1.2.2.1.2.2.2.2.1, ()), x.1.2.1.2.2.2.1, ()), ()), ())
    | false =>
     match (x.2.1.1 == (3 : Int)) with
     | true =>
      some ((x.2.1.1, (x.2.1.2.1.1, x.2.1.2.1.2.1, (x.2.1.2.1.2.2.1.1, x.2.1.2.1.2.2.1.2.1, x.2.1.2.1.2.2.1.2.2.1, x.2.1.2.1.2.2.1.2.2.2.1, x.2.1.2.1.2.2.1.2.2.2.2.1, ()), x.2.1.2.1.2.2.2.1, ()), ()), ())
     | false =>
      some (((if x.2.1.1 > x.1.1 then x.2.1.1 else x.1.1), ((0 : Int), (0 : Int), ((0 : Int), (0 : Int), (0 : Int), (0 : Int), (0 : Int), ()), [], ()), ()), ())
noncomputable def S_s_l29Merge : Spec := ⟨(.pair (.pair (.int .i64) (.pair (.pair (.int .i64) (.pair (.int .i64) (.pair TState (.pair (.own 2 (.int .i64)) .unit)))) .unit)) (.pair (.pair (.int .i64) (.pair (.pair (.int .i64) (.pair (.int .i64) (.pair TState (.pair (.own 2 (.int .i64)) .unit)))) .unit)) .unit)), (.pair (.pair (.int .i64) (.pair (.pair (.int .i64) (.pair (.int .i64) (.pair TState (.pair (.own 2 (.int .i64)) .unit)))) .unit)) .unit), .unit, rfl, s_l29Merge⟩
noncomputable def σ_s_l29Merge : FuncId → Option Spec := sig [(61, S_s_l28Same)]
theorem σok_s_l29Merge : ∀ f s, σ_s_l29Merge f = some s → FnOK G0 Tryz.prog f s := sig_ok ⟨ok_s_l28Same, trivial⟩
theorem ok_s_l29Merge : FnOK G0 Tryz.prog 40 S_s_l29Merge := fn_okS tab0 σok_s_l29Merge Tryz.func40 [] (by kernel_rfl) (by exact trivial) fun x => by kernel_rfl

noncomputable def s_ReceiveBoth (x : Ty.T (.pair TMedl (.pair TState (.pair (.list (.int .i64)) (.pair (.list (.int .i64)) .unit))))) : Option (Ty.T (.pair (.pair (.int .i64) (.pair (.pair (.int .i64) (.pair (.int .i64) (.pair TState (.pair (.own 2 (.int .i64)) .unit)))) .unit)) (.pair (.int .i64) .unit))) :=
match s_ReceiveChannel ((x.1.1, x.1.2.1, x.1.2.2.1, x.1.2.2.2.1, ()), (x.2.1.1, x.2.1.2.1, x.2.1.2.2.1, x.2.1.2.2.2.1, x.2.1.2.2.2.2.1, ()), x.2.2.1, ()) with
| none => none
| some v1 =>
match (v1.2.1 != (0 : Int)) with
| true =>
 some (((0 : Int), ((0 : Int), (0 : Int), ((0 : Int), (0 : Int), (0 : Int), (0 : Int), (0 : Int), ()), [], ()), ()), v1.2.1, ())
| false =>
 match s_ReceiveChannel ((x.1.1, x.1.2.1, x.1.2.2.1, x.1.2.2.2.1, ()), (x.2.1.1, x.2.1.2.1, x.2.1.2.2.1, x.2.1.2.2.2.1, x.2.1.2.2.2.2.1, ()), x.2.2.2.1, ()) with
 | none => none
 | some v2 =>
 match (v2.2.1 != (0 : Int)) with
 | true =>
  some (((0 : Int), ((0 : Int), (0 : Int), ((0 : Int), (0 : Int), (0 : Int), (0 : Int), (0 : Int), ()), [], ()), ()), v2.2.1, ())
 | false =>
  match s_l29Merge ((v1.1.1, (v1.1.2.1.1, v1.1.2.1.2.1, (v1.1.2.1.2.2.1.1, v1.1.2.1.2.2.1.2.1, v1.1.2.1.2.2.1.2.2.1, v1.1.2.1.2.2.1.2.2.2.1, v1.1.2.1.2.2.1.2.2.2.2.1, ()), v1.1.2.1.2.2.2.1, ()), ()), (v2.1.1, (v2.1.2.1.1, v2.1.2.1.2.1, (v2.1.2.1.2.2.1.1, v2.1.2.1.2.2.1.2.1, v2.1.2.1.2.2.1.2.2.1, v2.1.2.1.2.2.1.2.2.2.1, v2.1.2.1.2.2.1.2.2.2.2.1, ()), v2.1.2.1.2.2.2.1, ()), ()), ()) with
  | none => none
  | some v3 =>
  some ((v3.1.1, (v3.1.2.1.1, v3.1.2.1.2.1, (v3.1.2.1.2.2.1.1, v3.1.2.1.2.2.1.2.1, v3.1.2.1.2.2.1.2.2.1, v3.1.2.1.2.2.1.2.2.2.1, v3.1.2.1.2.2.1.2.2.2.2.1, ()), v3.1.2.1.2.2.2.1, ()), ()), (0 : Int), ())
noncomputable def S_s_ReceiveBoth : Spec := ⟨(.pair TMedl (.pair TState (.pair (.list (.int .i64)) (.pair (.list (.int .i64)) .unit)))), (.pair (.pair (.int .i64) (.pair (.pair (.int .i64) (.pair (.int .i64) (.pair TState (.pair (.own 2 (.int .i64)) .unit)))) .unit)) (.pair (.int .i64) .unit)), .unit, rfl, s_ReceiveBoth⟩
noncomputable def σ_s_ReceiveBoth : FuncId → Option Spec := sig [(6, S_s_ReceiveChannel), (40, S_s_l29Merge)]
theorem σok_s_ReceiveBoth : ∀ f s, σ_s_ReceiveBoth f = some s → FnOK G0 Tryz.prog f s := sig_ok ⟨ok_s_ReceiveChannel, ok_s_l29Merge, trivial⟩
theorem ok_s_ReceiveBoth : FnOK G0 Tryz.prog 18 S_s_ReceiveBoth := fn_okS tab0 σok_s_ReceiveBoth Tryz.func18 [] (by kernel_rfl) (by exact trivial) fun x => by kernel_rfl

end Go.Proofs.YtieajgkcadmchaaGreatDoor
