/- What the functions of the claim do, on data; written by the program gen.py. -/
import Derived.Test.YtieajgkcadmchaaGreatDoorLoop
import Derived.Test.YtieajgkcadmchaaGreatDoorLibS
import Derived.Test.YtieajgkcadmchaaGreatDoorSh
import Derived.Test.YtieajgkcadmchaaGreatDoorTdW
import Derived.Test.YtieajgkcadmchaaGreatDoorTrW
import Derived.Test.YtieajgkcadmchaaGreatDoorProg
import Derived.KernelRfl
namespace Go.Proofs.YtieajgkcadmchaaGreatDoor
open Go.RowKit
set_option linter.unusedVariables false

def bodyOf (f : Func) : Code := match f.body with | some c => c | none => .skip
def nthLoop (f : Func) (i : Nat) : Code := (loopList (bodyOf f)).getD i .skip
def nthCut (f : Func) (i : Nat) : Code := (cutList (bodyOf f)).getD i .skip
abbrev TerrorAddressString : Ty := (.pair .str (.pair (.int .u64) .unit))
abbrev TMedl : Ty := (.pair (.int .i64) (.pair (.list (.pair (.int .i64) (.pair .str (.pair (.int .i64) (.pair .bool .unit))))) (.pair (.list (.pair (.int .i64) (.pair (.int .i64) (.pair (.list (.int .i64)) .unit)))) (.pair (.list (.pair (.int .i64) (.pair (.int .i64) (.pair (.int .i64) (.pair (.pair (.int .i64) (.pair (.int .i64) (.pair (.int .i64) (.pair (.int .i64) (.pair .bool .unit))))) .unit))))) .unit))))
abbrev TState : Ty := (.pair (.int .i64) (.pair (.int .i64) (.pair (.int .i64) (.pair (.int .i64) (.pair (.int .i64) .unit)))))
abbrev TFrame : Ty := (.pair (.int .i64) (.pair (.int .i64) (.pair TState (.pair (.list (.int .i64)) .unit))))
abbrev TVerdict : Ty := (.pair (.int .i64) (.pair TFrame .unit))
abbrev TNodeInfo : Ty := (.pair (.int .i64) (.pair .str (.pair (.int .i64) (.pair .bool .unit))))
abbrev TModeInfo : Ty := (.pair (.int .i64) (.pair (.int .i64) (.pair (.list (.int .i64)) .unit)))
abbrev TDescriptor : Ty := (.pair (.int .i64) (.pair (.int .i64) (.pair (.int .i64) (.pair (.int .i64) (.pair .bool .unit)))))
abbrev TSlotInfo : Ty := (.pair (.int .i64) (.pair (.int .i64) (.pair (.int .i64) (.pair TDescriptor .unit))))
abbrev Tl23Result : Ty := (.pair (.int .i64) (.pair (.list (.int .i64)) (.pair (.int .i64) .unit)))
abbrev Tdecoding : Ty := (.pair (.list (.int .i64)) (.pair (.int .i64) (.pair (.list (.int .i64)) .unit)))
abbrev TCrc : Ty := (.pair (.int .i64) (.pair (.int .i64) .unit))
abbrev TacceptRange : Ty := (.pair (.int .u8) (.pair (.int .u8) .unit))
abbrev TboundsError : Ty := (.pair (.int .i64) (.pair (.int .i64) (.pair .bool (.pair (.int .u8) .unit))))
def Γ0 : Tab := [(2, (.int .i64)), (3, (.int .i64)), (4, .bool), (5, (.int .u8)), (9, .str), (22, (.list TNodeInfo)), (23, (.list TModeInfo)), (24, (.list TSlotInfo)), (26, TMedl), (28, TState), (29, (.list (.int .i64))), (31, TState), (33, TFrame), (35, TVerdict), (38, (.list TNodeInfo)), (39, (.list TModeInfo)), (40, (.list TSlotInfo)), (42, TMedl), (75, TNodeInfo), (78, TModeInfo), (82, TNodeInfo), (84, TModeInfo), (87, TDescriptor), (89, TSlotInfo), (91, TDescriptor), (93, TSlotInfo), (108, (.list (.int .u8))), (115, Tl23Result), (131, Tdecoding), (143, TCrc), (156, (.int .u64))]
def E0 : Elems := [(22, 75), (23, 78), (24, 93), (29, 2), (38, 82), (39, 84), (40, 89), (108, 5)]
theorem tab0 : tabB Tryz.prog Γ0 E0 = true := by kernel_rfl

def Γ1 : Tab := [(2, (.int .i64)), (22, (.list TNodeInfo)), (23, (.list TModeInfo)), (24, (.list TSlotInfo)), (26, TMedl), (29, (.list (.int .i64))), (38, (.list TNodeInfo)), (39, (.list (.pair (.int .i64) (.pair (.int .i64) (.pair (.own 2 (.int .i64)) .unit))))), (40, (.list TSlotInfo)), (42, TMedl), (78, TModeInfo), (84, TModeInfo)]
def E1 : Elems := [(23, 78), (39, 84)]
theorem tab1 : tabB Tryz.prog Γ1 E1 = true := by kernel_rfl

abbrev G0 : Gl := Gl.none
noncomputable def l_szNodeInfo (x : Ty.T (.pair TNodeInfo (.pair (.int .i64) .unit))) : Option (Ty.T (.pair (.int .i64) .unit)) :=
match (decide ((IntKind.i64.wrap (x.2.1 - (x.1.2.1.length : Int))) < (0 : Int))) with
| true =>
 some ((-1 : Int), ())
| false =>
 some ((IntKind.i64.wrap (x.2.1 - (x.1.2.1.length : Int))), ())
noncomputable def S_l_szNodeInfo : Spec := ⟨(.pair TNodeInfo (.pair (.int .i64) .unit)), (.pair (.int .i64) .unit), .unit, rfl, l_szNodeInfo⟩
noncomputable def σ_l_szNodeInfo : FuncId → Option Spec := sig []
theorem σok_l_szNodeInfo : ∀ f s, σ_l_szNodeInfo f = some s → FnOK G0 Tryz.prog f s := sig_ok (l := []) trivial
noncomputable def Λ_l_szNodeInfo : Nat → Option LSpec := lkp (loopList (bodyOf Tryz.f42)) []
theorem ok_l_szNodeInfo : FnOK G0 Tryz.prog 42 S_l_szNodeInfo := fn_ok (Λ := Λ_l_szNodeInfo) tab0 σok_l_szNodeInfo Tryz.func42 (by kernel_rfl) (show Tryz.f42.body = some (bodyOf Tryz.f42) by kernel_rfl) [] rfl (by kernel_rfl) (by exact trivial) (by kernel_rfl)
  fun x y h => (show execFn Γ0 E0 σ_l_szNodeInfo Λ_l_szNodeInfo Tryz.f42 S_l_szNodeInfo x = l_szNodeInfo x by kernel_rfl).trans h

noncomputable def b_l_szNodeInfoS_5 (x : (Ty.T (.pair (.list TNodeInfo) TCrc))) : Option ((Ty.T (.pair (.list TNodeInfo) TCrc)) ⊕ ((Ty.T (.pair (.int .i64) .unit)) ⊕ (Ty.T (.pair (.int .i64) .unit)))) :=
match (decide (x.2.2.1 < (x.1.length : Int))) with
| true =>
 onSome (idx x.1 x.2.2.1) fun v1 =>
 match l_szNodeInfo (v1, x.2.1, ()) with
 | none => none
 | some v2 =>
 match (decide (v2.1 < (0 : Int))) with
 | true =>
  some (.inr (.inr ((-1 : Int), ())))
 | false =>
  some (.inl (x.1, v2.1, (IntKind.i64.wrap (x.2.2.1 + (1 : Int))), ()))
| false =>
 some (.inr (.inl (x.2.1, ())))
noncomputable def l_szNodeInfoS (x : Ty.T (.pair (.list TNodeInfo) (.pair (.int .i64) .unit))) : Option (Ty.T (.pair (.int .i64) .unit)) :=
match (decide ((IntKind.i64.wrap (x.2.1 - (x.1.length : Int))) < (0 : Int))) with
| true =>
 some ((-1 : Int), ())
| false =>
 match loopL b_l_szNodeInfoS_5 (x.1, (IntKind.i64.wrap (x.2.1 - (x.1.length : Int))), (0 : Int), ()) with
 | none => none
 | some (.inl v3) =>
  some (v3.1, ())
 | some (.inr v4) =>
  some (v4.1, ())
noncomputable def S_l_szNodeInfoS : Spec := ⟨(.pair (.list TNodeInfo) (.pair (.int .i64) .unit)), (.pair (.int .i64) .unit), .unit, rfl, l_szNodeInfoS⟩
noncomputable def σ_l_szNodeInfoS : FuncId → Option Spec := sig [(42, S_l_szNodeInfo)]
theorem σok_l_szNodeInfoS : ∀ f s, σ_l_szNodeInfoS f = some s → FnOK G0 Tryz.prog f s := sig_ok (l := [(42, S_l_szNodeInfo)]) ⟨ok_l_szNodeInfo, trivial⟩
noncomputable def Λ_l_szNodeInfoS : Nat → Option LSpec := lkp (loopList (bodyOf Tryz.f20)) [⟨[0, 1, 5], (.pair (.list TNodeInfo) TCrc), 0, [1], (.pair (.int .i64) .unit), [4], (.pair (.int .i64) .unit), loopL b_l_szNodeInfoS_5⟩]
theorem lok_l_szNodeInfoS_5 (x) : codeK Γ0 E0 σ_l_szNodeInfoS Λ_l_szNodeInfoS Tryz.f20.ntmps (nthLoop Tryz.f20 0) (mkF Tryz.f20.ntmps [0, 1, 5] (.pair (.list TNodeInfo) TCrc) x) (readK σ_l_szNodeInfoS Tryz.f20.ntmps [0, 1, 5] (.pair (.list TNodeInfo) TCrc) 0 [1] (.pair (.int .i64) .unit) [4] (.pair (.int .i64) .unit)) = b_l_szNodeInfoS_5 x := by kernel_rfl
theorem ok_l_szNodeInfoS : FnOK G0 Tryz.prog 20 S_l_szNodeInfoS := fn_ok (Λ := Λ_l_szNodeInfoS) tab0 σok_l_szNodeInfoS Tryz.func20 (by kernel_rfl) (show Tryz.f20.body = some (bodyOf Tryz.f20) by kernel_rfl) [⟨[0, 1, 5], (.pair (.list TNodeInfo) TCrc), 0, [1], (.pair (.int .i64) .unit), [4], (.pair (.int .i64) .unit), loopL b_l_szNodeInfoS_5⟩] rfl (by kernel_rfl) (by exact ⟨loop_LOK (lok_l_szNodeInfoS_5), trivial⟩) (by kernel_rfl)
  fun x y h => (show execFn Γ0 E0 σ_l_szNodeInfoS Λ_l_szNodeInfoS Tryz.f20 S_l_szNodeInfoS x = l_szNodeInfoS x by kernel_rfl).trans h

noncomputable def l_szInt64S (x : Ty.T (.pair (.list (.int .i64)) (.pair (.int .i64) .unit))) : Option (Ty.T (.pair (.int .i64) .unit)) :=
match (decide ((IntKind.i64.wrap (x.2.1 - (x.1.length : Int))) < (0 : Int))) with
| true =>
 some ((-1 : Int), ())
| false =>
 some ((IntKind.i64.wrap (x.2.1 - (x.1.length : Int))), ())
noncomputable def S_l_szInt64S : Spec := ⟨(.pair (.list (.int .i64)) (.pair (.int .i64) .unit)), (.pair (.int .i64) .unit), .unit, rfl, l_szInt64S⟩
noncomputable def σ_l_szInt64S : FuncId → Option Spec := sig []
theorem σok_l_szInt64S : ∀ f s, σ_l_szInt64S f = some s → FnOK G0 Tryz.prog f s := sig_ok (l := []) trivial
noncomputable def Λ_l_szInt64S : Nat → Option LSpec := lkp (loopList (bodyOf Tryz.f63)) []
theorem ok_l_szInt64S : FnOK G0 Tryz.prog 63 S_l_szInt64S := fn_ok (Λ := Λ_l_szInt64S) tab0 σok_l_szInt64S Tryz.func63 (by kernel_rfl) (show Tryz.f63.body = some (bodyOf Tryz.f63) by kernel_rfl) [] rfl (by kernel_rfl) (by exact trivial) (by kernel_rfl)
  fun x y h => (show execFn Γ0 E0 σ_l_szInt64S Λ_l_szInt64S Tryz.f63 S_l_szInt64S x = l_szInt64S x by kernel_rfl).trans h

noncomputable def l_szModeInfo (x : Ty.T (.pair TModeInfo (.pair (.int .i64) .unit))) : Option (Ty.T (.pair (.int .i64) .unit)) :=
match l_szInt64S (x.1.2.2.1, x.2.1, ()) with
| none => none
| some v1 =>
match (decide (v1.1 < (0 : Int))) with
| true =>
 some ((-1 : Int), ())
| false =>
 some (v1.1, ())
noncomputable def S_l_szModeInfo : Spec := ⟨(.pair TModeInfo (.pair (.int .i64) .unit)), (.pair (.int .i64) .unit), .unit, rfl, l_szModeInfo⟩
noncomputable def σ_l_szModeInfo : FuncId → Option Spec := sig [(63, S_l_szInt64S)]
theorem σok_l_szModeInfo : ∀ f s, σ_l_szModeInfo f = some s → FnOK G0 Tryz.prog f s := sig_ok (l := [(63, S_l_szInt64S)]) ⟨ok_l_szInt64S, trivial⟩
noncomputable def Λ_l_szModeInfo : Nat → Option LSpec := lkp (loopList (bodyOf Tryz.f43)) []
theorem ok_l_szModeInfo : FnOK G0 Tryz.prog 43 S_l_szModeInfo := fn_ok (Λ := Λ_l_szModeInfo) tab0 σok_l_szModeInfo Tryz.func43 (by kernel_rfl) (show Tryz.f43.body = some (bodyOf Tryz.f43) by kernel_rfl) [] rfl (by kernel_rfl) (by exact trivial) (by kernel_rfl)
  fun x y h => (show execFn Γ0 E0 σ_l_szModeInfo Λ_l_szModeInfo Tryz.f43 S_l_szModeInfo x = l_szModeInfo x by kernel_rfl).trans h

noncomputable def b_l_szModeInfoS_5 (x : (Ty.T (.pair (.list TModeInfo) TCrc))) : Option ((Ty.T (.pair (.list TModeInfo) TCrc)) ⊕ ((Ty.T (.pair (.int .i64) .unit)) ⊕ (Ty.T (.pair (.int .i64) .unit)))) :=
match (decide (x.2.2.1 < (x.1.length : Int))) with
| true =>
 onSome (idx x.1 x.2.2.1) fun v1 =>
 match l_szModeInfo (v1, x.2.1, ()) with
 | none => none
 | some v2 =>
 match (decide (v2.1 < (0 : Int))) with
 | true =>
  some (.inr (.inr ((-1 : Int), ())))
 | false =>
  some (.inl (x.1, v2.1, (IntKind.i64.wrap (x.2.2.1 + (1 : Int))), ()))
| false =>
 some (.inr (.inl (x.2.1, ())))
noncomputable def l_szModeInfoS (x : Ty.T (.pair (.list TModeInfo) (.pair (.int .i64) .unit))) : Option (Ty.T (.pair (.int .i64) .unit)) :=
match (decide ((IntKind.i64.wrap (x.2.1 - (x.1.length : Int))) < (0 : Int))) with
| true =>
 some ((-1 : Int), ())
| false =>
 match loopL b_l_szModeInfoS_5 (x.1, (IntKind.i64.wrap (x.2.1 - (x.1.length : Int))), (0 : Int), ()) with
 | none => none
 | some (.inl v3) =>
  some (v3.1, ())
 | some (.inr v4) =>
  some (v4.1, ())
noncomputable def S_l_szModeInfoS : Spec := ⟨(.pair (.list TModeInfo) (.pair (.int .i64) .unit)), (.pair (.int .i64) .unit), .unit, rfl, l_szModeInfoS⟩
noncomputable def σ_l_szModeInfoS : FuncId → Option Spec := sig [(43, S_l_szModeInfo)]
theorem σok_l_szModeInfoS : ∀ f s, σ_l_szModeInfoS f = some s → FnOK G0 Tryz.prog f s := sig_ok (l := [(43, S_l_szModeInfo)]) ⟨ok_l_szModeInfo, trivial⟩
noncomputable def Λ_l_szModeInfoS : Nat → Option LSpec := lkp (loopList (bodyOf Tryz.f21)) [⟨[0, 1, 5], (.pair (.list TModeInfo) TCrc), 0, [1], (.pair (.int .i64) .unit), [4], (.pair (.int .i64) .unit), loopL b_l_szModeInfoS_5⟩]
theorem lok_l_szModeInfoS_5 (x) : codeK Γ0 E0 σ_l_szModeInfoS Λ_l_szModeInfoS Tryz.f21.ntmps (nthLoop Tryz.f21 0) (mkF Tryz.f21.ntmps [0, 1, 5] (.pair (.list TModeInfo) TCrc) x) (readK σ_l_szModeInfoS Tryz.f21.ntmps [0, 1, 5] (.pair (.list TModeInfo) TCrc) 0 [1] (.pair (.int .i64) .unit) [4] (.pair (.int .i64) .unit)) = b_l_szModeInfoS_5 x := by kernel_rfl
theorem ok_l_szModeInfoS : FnOK G0 Tryz.prog 21 S_l_szModeInfoS := fn_ok (Λ := Λ_l_szModeInfoS) tab0 σok_l_szModeInfoS Tryz.func21 (by kernel_rfl) (show Tryz.f21.body = some (bodyOf Tryz.f21) by kernel_rfl) [⟨[0, 1, 5], (.pair (.list TModeInfo) TCrc), 0, [1], (.pair (.int .i64) .unit), [4], (.pair (.int .i64) .unit), loopL b_l_szModeInfoS_5⟩] rfl (by kernel_rfl) (by exact ⟨loop_LOK (lok_l_szModeInfoS_5), trivial⟩) (by kernel_rfl)
  fun x y h => (show execFn Γ0 E0 σ_l_szModeInfoS Λ_l_szModeInfoS Tryz.f21 S_l_szModeInfoS x = l_szModeInfoS x by kernel_rfl).trans h

noncomputable def l_szSlotInfoS (x : Ty.T (.pair (.list TSlotInfo) (.pair (.int .i64) .unit))) : Option (Ty.T (.pair (.int .i64) .unit)) :=
match (decide ((IntKind.i64.wrap (x.2.1 - (x.1.length : Int))) < (0 : Int))) with
| true =>
 some ((-1 : Int), ())
| false =>
 some ((IntKind.i64.wrap (x.2.1 - (x.1.length : Int))), ())
noncomputable def S_l_szSlotInfoS : Spec := ⟨(.pair (.list TSlotInfo) (.pair (.int .i64) .unit)), (.pair (.int .i64) .unit), .unit, rfl, l_szSlotInfoS⟩
noncomputable def σ_l_szSlotInfoS : FuncId → Option Spec := sig []
theorem σok_l_szSlotInfoS : ∀ f s, σ_l_szSlotInfoS f = some s → FnOK G0 Tryz.prog f s := sig_ok (l := []) trivial
noncomputable def Λ_l_szSlotInfoS : Nat → Option LSpec := lkp (loopList (bodyOf Tryz.f22)) []
theorem ok_l_szSlotInfoS : FnOK G0 Tryz.prog 22 S_l_szSlotInfoS := fn_ok (Λ := Λ_l_szSlotInfoS) tab0 σok_l_szSlotInfoS Tryz.func22 (by kernel_rfl) (show Tryz.f22.body = some (bodyOf Tryz.f22) by kernel_rfl) [] rfl (by kernel_rfl) (by exact trivial) (by kernel_rfl)
  fun x y h => (show execFn Γ0 E0 σ_l_szSlotInfoS Λ_l_szSlotInfoS Tryz.f22 S_l_szSlotInfoS x = l_szSlotInfoS x by kernel_rfl).trans h

noncomputable def l_szMedl (x : Ty.T (.pair TMedl (.pair (.int .i64) .unit))) : Option (Ty.T (.pair (.int .i64) .unit)) :=
match l_szNodeInfoS (x.1.2.1, x.2.1, ()) with
| none => none
| some v1 =>
match (decide (v1.1 < (0 : Int))) with
| true =>
 some ((-1 : Int), ())
| false =>
 match l_szModeInfoS (x.1.2.2.1, v1.1, ()) with
 | none => none
 | some v2 =>
 match (decide (v2.1 < (0 : Int))) with
 | true =>
  some ((-1 : Int), ())
 | false =>
  match l_szSlotInfoS (x.1.2.2.2.1, v2.1, ()) with
  | none => none
  | some v3 =>
  match (decide (v3.1 < (0 : Int))) with
  | true =>
   some ((-1 : Int), ())
  | false =>
   some (v3.1, ())
noncomputable def S_l_szMedl : Spec := ⟨(.pair TMedl (.pair (.int .i64) .unit)), (.pair (.int .i64) .unit), .unit, rfl, l_szMedl⟩
noncomputable def σ_l_szMedl : FuncId → Option Spec := sig [(20, S_l_szNodeInfoS), (21, S_l_szModeInfoS), (22, S_l_szSlotInfoS)]
theorem σok_l_szMedl : ∀ f s, σ_l_szMedl f = some s → FnOK G0 Tryz.prog f s := sig_ok (l := [(20, S_l_szNodeInfoS), (21, S_l_szModeInfoS), (22, S_l_szSlotInfoS)]) ⟨ok_l_szNodeInfoS, ok_l_szModeInfoS, ok_l_szSlotInfoS, trivial⟩
noncomputable def Λ_l_szMedl : Nat → Option LSpec := lkp (loopList (bodyOf Tryz.f5)) []
theorem ok_l_szMedl : FnOK G0 Tryz.prog 5 S_l_szMedl := fn_ok (Λ := Λ_l_szMedl) tab0 σok_l_szMedl Tryz.func5 (by kernel_rfl) (show Tryz.f5.body = some (bodyOf Tryz.f5) by kernel_rfl) [] rfl (by kernel_rfl) (by exact trivial) (by kernel_rfl)
  fun x y h => (show execFn Γ0 E0 σ_l_szMedl Λ_l_szMedl Tryz.f5 S_l_szMedl x = l_szMedl x by kernel_rfl).trans h

noncomputable def s_l01In (x : Ty.T (.pair (.int .i64) TCrc)) : Option (Ty.T (.pair .bool .unit)) :=
match (decide (x.1 ≥ x.2.1)) with
| true =>
 some ((decide (x.1 ≤ x.2.2.1)), ())
| false =>
 some (false, ())
noncomputable def S_s_l01In : Spec := ⟨(.pair (.int .i64) TCrc), (.pair .bool .unit), .unit, rfl, s_l01In⟩
noncomputable def σ_s_l01In : FuncId → Option Spec := sig []
theorem σok_s_l01In : ∀ f s, σ_s_l01In f = some s → FnOK G0 Tryz.prog f s := sig_ok (l := []) trivial
noncomputable def Λ_s_l01In : Nat → Option LSpec := lkp (loopList (bodyOf Tryz.f87)) []
theorem ok_s_l01In : FnOK G0 Tryz.prog 87 S_s_l01In := fn_ok (Λ := Λ_s_l01In) tab0 σok_s_l01In Tryz.func87 (by kernel_rfl) (show Tryz.f87.body = some (bodyOf Tryz.f87) by kernel_rfl) [] rfl (by kernel_rfl) (by exact trivial) (by kernel_rfl)
  fun x y h => (show execFn Γ0 E0 σ_s_l01In Λ_s_l01In Tryz.f87 S_s_l01In x = s_l01In x by kernel_rfl).trans h

noncomputable def s_l05Node (x : Ty.T (.pair (.int .i64) .unit)) : Option (Ty.T (.pair .bool .unit)) :=
match s_l01In (x.1, (0 : Int), (31 : Int), ()) with
| none => none
| some v1 =>
some (v1.1, ())
noncomputable def S_s_l05Node : Spec := ⟨(.pair (.int .i64) .unit), (.pair .bool .unit), .unit, rfl, s_l05Node⟩
noncomputable def σ_s_l05Node : FuncId → Option Spec := sig [(87, S_s_l01In)]
theorem σok_s_l05Node : ∀ f s, σ_s_l05Node f = some s → FnOK G0 Tryz.prog f s := sig_ok (l := [(87, S_s_l01In)]) ⟨ok_s_l01In, trivial⟩
noncomputable def Λ_s_l05Node : Nat → Option LSpec := lkp (loopList (bodyOf Tryz.f131)) []
theorem ok_s_l05Node : FnOK G0 Tryz.prog 131 S_s_l05Node := fn_ok (Λ := Λ_s_l05Node) tab0 σok_s_l05Node Tryz.func131 (by kernel_rfl) (show Tryz.f131.body = some (bodyOf Tryz.f131) by kernel_rfl) [] rfl (by kernel_rfl) (by exact trivial) (by kernel_rfl)
  fun x y h => (show execFn Γ0 E0 σ_s_l05Node Λ_s_l05Node Tryz.f131 S_s_l05Node x = s_l05Node x by kernel_rfl).trans h

noncomputable def b_s_l10Name_2 (x : (Ty.T (.pair .str (.pair (.int .i64) .unit)))) : Option ((Ty.T (.pair .str (.pair (.int .i64) .unit))) ⊕ ((Ty.T (.pair .str .unit)) ⊕ (Ty.T (.pair .bool .unit)))) :=
match (decide (x.2.1 < (x.1.length : Int))) with
| true =>
 onSome (idx x.1 x.2.1) fun v1 =>
 match (decide ((v1.toNat : Int) < (97 : Int))) with
 | true =>
  onSome (idx x.1 x.2.1) fun v2 =>
  match (decide ((v2.toNat : Int) < (48 : Int))) with
  | true =>
   some (.inr (.inr (false, ())))
  | false =>
   onSome (idx x.1 x.2.1) fun v3 =>
   match (decide ((v3.toNat : Int) > (57 : Int))) with
   | true =>
    some (.inr (.inr (false, ())))
   | false =>
    some (.inl (x.1, (IntKind.i64.wrap (x.2.1 + (1 : Int))), ()))
 | false =>
  onSome (idx x.1 x.2.1) fun v4 =>
  match (decide ((v4.toNat : Int) > (122 : Int))) with
  | true =>
   onSome (idx x.1 x.2.1) fun v5 =>
   match (decide ((v5.toNat : Int) < (48 : Int))) with
   | true =>
    some (.inr (.inr (false, ())))
   | false =>
    onSome (idx x.1 x.2.1) fun v6 =>
    match (decide ((v6.toNat : Int) > (57 : Int))) with
    | true =>
     some (.inr (.inr (false, ())))
    | false =>
     some (.inl (x.1, (IntKind.i64.wrap (x.2.1 + (1 : Int))), ()))
  | false =>
   some (.inl (x.1, (IntKind.i64.wrap (x.2.1 + (1 : Int))), ()))
| false =>
 some (.inr (.inl (x.1, ())))
noncomputable def s_l10Name (x : Ty.T (.pair .str .unit)) : Option (Ty.T (.pair .bool .unit)) :=
match loopL b_s_l10Name_2 (x.1, (0 : Int), ()) with
| none => none
| some (.inl v7) =>
 match (decide ((v7.1.length : Int) ≥ (1 : Int))) with
 | true =>
  some ((decide ((v7.1.length : Int) ≤ (6 : Int))), ())
 | false =>
  some (false, ())
| some (.inr v8) =>
 some (v8.1, ())
noncomputable def S_s_l10Name : Spec := ⟨(.pair .str .unit), (.pair .bool .unit), .unit, rfl, s_l10Name⟩
noncomputable def σ_s_l10Name : FuncId → Option Spec := sig []
theorem σok_s_l10Name : ∀ f s, σ_s_l10Name f = some s → FnOK G0 Tryz.prog f s := sig_ok (l := []) trivial
noncomputable def Λ_s_l10Name : Nat → Option LSpec := lkp (loopList (bodyOf Tryz.f198)) [⟨[0, 3], (.pair .str (.pair (.int .i64) .unit)), 0, [0], (.pair .str .unit), [2], (.pair .bool .unit), loopL b_s_l10Name_2⟩]
theorem lok_s_l10Name_2 (x) : codeK Γ0 E0 σ_s_l10Name Λ_s_l10Name Tryz.f198.ntmps (nthLoop Tryz.f198 0) (mkF Tryz.f198.ntmps [0, 3] (.pair .str (.pair (.int .i64) .unit)) x) (readK σ_s_l10Name Tryz.f198.ntmps [0, 3] (.pair .str (.pair (.int .i64) .unit)) 0 [0] (.pair .str .unit) [2] (.pair .bool .unit)) = b_s_l10Name_2 x := by kernel_rfl
theorem ok_s_l10Name : FnOK G0 Tryz.prog 198 S_s_l10Name := fn_ok (Λ := Λ_s_l10Name) tab0 σok_s_l10Name Tryz.func198 (by kernel_rfl) (show Tryz.f198.body = some (bodyOf Tryz.f198) by kernel_rfl) [⟨[0, 3], (.pair .str (.pair (.int .i64) .unit)), 0, [0], (.pair .str .unit), [2], (.pair .bool .unit), loopL b_s_l10Name_2⟩] rfl (by kernel_rfl) (by exact ⟨loop_LOK (lok_s_l10Name_2), trivial⟩) (by kernel_rfl)
  fun x y h => (show execFn Γ0 E0 σ_s_l10Name Λ_s_l10Name Tryz.f198 S_s_l10Name x = s_l10Name x by kernel_rfl).trans h

noncomputable def s_IsNodeInfo (x : Ty.T (.pair TNodeInfo .unit)) : Option (Ty.T (.pair .bool .unit)) :=
match s_l05Node (x.1.1, ()) with
| none => none
| some v1 =>
match v1.1 with
| true =>
 match s_l10Name (x.1.2.1, ()) with
 | none => none
 | some v2 =>
 match v2.1 with
 | true =>
  match s_l01In (x.1.2.2.1, (0 : Int), (1000 : Int), ()) with
  | none => none
  | some v3 =>
  some (v3.1, ())
 | false =>
  some (false, ())
| false =>
 some (false, ())
noncomputable def S_s_IsNodeInfo : Spec := ⟨(.pair TNodeInfo .unit), (.pair .bool .unit), .unit, rfl, s_IsNodeInfo⟩
noncomputable def σ_s_IsNodeInfo : FuncId → Option Spec := sig [(87, S_s_l01In), (131, S_s_l05Node), (198, S_s_l10Name)]
theorem σok_s_IsNodeInfo : ∀ f s, σ_s_IsNodeInfo f = some s → FnOK G0 Tryz.prog f s := sig_ok (l := [(87, S_s_l01In), (131, S_s_l05Node), (198, S_s_l10Name)]) ⟨ok_s_l01In, ok_s_l05Node, ok_s_l10Name, trivial⟩
noncomputable def Λ_s_IsNodeInfo : Nat → Option LSpec := lkp (loopList (bodyOf Tryz.f164)) []
theorem ok_s_IsNodeInfo : FnOK G0 Tryz.prog 164 S_s_IsNodeInfo := fn_ok (Λ := Λ_s_IsNodeInfo) tab0 σok_s_IsNodeInfo Tryz.func164 (by kernel_rfl) (show Tryz.f164.body = some (bodyOf Tryz.f164) by kernel_rfl) [] rfl (by kernel_rfl) (by exact trivial) (by kernel_rfl)
  fun x y h => (show execFn Γ0 E0 σ_s_IsNodeInfo Λ_s_IsNodeInfo Tryz.f164 S_s_IsNodeInfo x = s_IsNodeInfo x by kernel_rfl).trans h

noncomputable def b_s_IsNodeTable_9 (x : (Ty.T (.pair (.list TNodeInfo) TCrc))) : Option ((Ty.T (.pair (.list TNodeInfo) TCrc)) ⊕ ((Ty.T (.pair (.list TNodeInfo) (.pair (.int .i64) .unit))) ⊕ (Ty.T (.pair .bool .unit)))) :=
match (decide (x.2.2.1 < x.2.1)) with
| true =>
 onSome (idx x.1 x.2.2.1) fun v6 =>
 onSome (idx x.1 x.2.1) fun v7 =>
 match (v6.2.1 == v7.2.1) with
 | true =>
  some (.inr (.inr (false, ())))
 | false =>
  some (.inl (x.1, x.2.1, (IntKind.i64.wrap (x.2.2.1 + (1 : Int))), ()))
| false =>
 some (.inr (.inl (x.1, x.2.1, ())))
noncomputable def b_s_IsNodeTable_4 (x : (Ty.T (.pair (.list TNodeInfo) (.pair (.int .i64) .unit)))) : Option ((Ty.T (.pair (.list TNodeInfo) (.pair (.int .i64) .unit))) ⊕ ((Ty.T .unit) ⊕ (Ty.T (.pair .bool .unit)))) :=
match (decide (x.2.1 < (x.1.length : Int))) with
| true =>
 onSome (idx x.1 x.2.1) fun v2 =>
 match s_IsNodeInfo (v2, ()) with
 | none => none
 | some v3 =>
 match (!v3.1) with
 | true =>
  some (.inr (.inr (false, ())))
 | false =>
  match (decide (x.2.1 > (0 : Int))) with
  | true =>
   onSome (idx x.1 x.2.1) fun v4 =>
   onSome (idx x.1 (IntKind.i64.wrap (x.2.1 - (1 : Int)))) fun v5 =>
   match (decide (v4.1 ≤ v5.1)) with
   | true =>
    some (.inr (.inr (false, ())))
   | false =>
    match loopL b_s_IsNodeTable_9 (x.1, x.2.1, (0 : Int), ()) with
    | none => none
    | some (.inl v6) =>
     some (.inl (v6.1, (IntKind.i64.wrap (v6.2.1 + (1 : Int))), ()))
    | some (.inr v7) =>
     some (.inr (.inr (v7.1, ())))
  | false =>
   match loopL b_s_IsNodeTable_9 (x.1, x.2.1, (0 : Int), ()) with
   | none => none
   | some (.inl v8) =>
    some (.inl (v8.1, (IntKind.i64.wrap (v8.2.1 + (1 : Int))), ()))
   | some (.inr v9) =>
    some (.inr (.inr (v9.1, ())))
| false =>
 some (.inr (.inl (())))
noncomputable def s_IsNodeTable (x : Ty.T (.pair (.list TNodeInfo) .unit)) : Option (Ty.T (.pair .bool .unit)) :=
match s_l01In ((x.1.length : Int), (1 : Int), (32 : Int), ()) with
| none => none
| some v1 =>
match (!v1.1) with
| true =>
 some (false, ())
| false =>
 match loopL b_s_IsNodeTable_4 (x.1, (0 : Int), ()) with
 | none => none
 | some (.inl v10) =>
  some (true, ())
 | some (.inr v11) =>
  some (v11.1, ())
noncomputable def S_s_IsNodeTable : Spec := ⟨(.pair (.list TNodeInfo) .unit), (.pair .bool .unit), .unit, rfl, s_IsNodeTable⟩
noncomputable def σ_s_IsNodeTable : FuncId → Option Spec := sig [(87, S_s_l01In), (164, S_s_IsNodeInfo)]
theorem σok_s_IsNodeTable : ∀ f s, σ_s_IsNodeTable f = some s → FnOK G0 Tryz.prog f s := sig_ok (l := [(87, S_s_l01In), (164, S_s_IsNodeInfo)]) ⟨ok_s_l01In, ok_s_IsNodeInfo, trivial⟩
noncomputable def Λ_s_IsNodeTable : Nat → Option LSpec := lkp (loopList (bodyOf Tryz.f112)) [⟨[0, 3], (.pair (.list TNodeInfo) (.pair (.int .i64) .unit)), 0, [], .unit, [2], (.pair .bool .unit), loopL b_s_IsNodeTable_4⟩, ⟨[0, 3, 4], (.pair (.list TNodeInfo) TCrc), 2, [0, 3], (.pair (.list TNodeInfo) (.pair (.int .i64) .unit)), [2], (.pair .bool .unit), loopL b_s_IsNodeTable_9⟩]
theorem lok_s_IsNodeTable_4 (x) : codeK Γ0 E0 σ_s_IsNodeTable Λ_s_IsNodeTable Tryz.f112.ntmps (nthLoop Tryz.f112 0) (mkF Tryz.f112.ntmps [0, 3] (.pair (.list TNodeInfo) (.pair (.int .i64) .unit)) x) (readK σ_s_IsNodeTable Tryz.f112.ntmps [0, 3] (.pair (.list TNodeInfo) (.pair (.int .i64) .unit)) 0 [] .unit [2] (.pair .bool .unit)) = b_s_IsNodeTable_4 x := by kernel_rfl
theorem lok_s_IsNodeTable_9 (x) : codeK Γ0 E0 σ_s_IsNodeTable Λ_s_IsNodeTable Tryz.f112.ntmps (nthLoop Tryz.f112 1) (mkF Tryz.f112.ntmps [0, 3, 4] (.pair (.list TNodeInfo) TCrc) x) (readK σ_s_IsNodeTable Tryz.f112.ntmps [0, 3, 4] (.pair (.list TNodeInfo) TCrc) 2 [0, 3] (.pair (.list TNodeInfo) (.pair (.int .i64) .unit)) [2] (.pair .bool .unit)) = b_s_IsNodeTable_9 x := by kernel_rfl
theorem ok_s_IsNodeTable : FnOK G0 Tryz.prog 112 S_s_IsNodeTable := fn_ok (Λ := Λ_s_IsNodeTable) tab0 σok_s_IsNodeTable Tryz.func112 (by kernel_rfl) (show Tryz.f112.body = some (bodyOf Tryz.f112) by kernel_rfl) [⟨[0, 3], (.pair (.list TNodeInfo) (.pair (.int .i64) .unit)), 0, [], .unit, [2], (.pair .bool .unit), loopL b_s_IsNodeTable_4⟩, ⟨[0, 3, 4], (.pair (.list TNodeInfo) TCrc), 2, [0, 3], (.pair (.list TNodeInfo) (.pair (.int .i64) .unit)), [2], (.pair .bool .unit), loopL b_s_IsNodeTable_9⟩] rfl (by kernel_rfl) (by exact ⟨loop_LOK (lok_s_IsNodeTable_4), loop_LOK (lok_s_IsNodeTable_9), trivial⟩) (by kernel_rfl)
  fun x y h => (show execFn Γ0 E0 σ_s_IsNodeTable Λ_s_IsNodeTable Tryz.f112 S_s_IsNodeTable x = s_IsNodeTable x by kernel_rfl).trans h

noncomputable def b_s_l01Rises_2 (x : (Ty.T (.pair (.list (.int .i64)) TCrc))) : Option ((Ty.T (.pair (.list (.int .i64)) TCrc)) ⊕ ((Ty.T .unit) ⊕ (Ty.T (.pair .bool .unit)))) :=
match (decide (x.2.2.1 < (x.1.length : Int))) with
| true =>
 onSome (idx x.1 x.2.2.1) fun v1 =>
 match s_l01In (v1, (0 : Int), (IntKind.i64.wrap (x.2.1 - (1 : Int))), ()) with
 | none => none
 | some v2 =>
 match (!v2.1) with
 | true =>
  some (.inr (.inr (false, ())))
 | false =>
  match (decide (x.2.2.1 > (0 : Int))) with
  | true =>
   onSome (idx x.1 x.2.2.1) fun v3 =>
   onSome (idx x.1 (IntKind.i64.wrap (x.2.2.1 - (1 : Int)))) fun v4 =>
   match (decide (v3 ≤ v4)) with
   | true =>
    some (.inr (.inr (false, ())))
   | false =>
    some (.inl (x.1, x.2.1, (IntKind.i64.wrap (x.2.2.1 + (1 : Int))), ()))
  | false =>
   some (.inl (x.1, x.2.1, (IntKind.i64.wrap (x.2.2.1 + (1 : Int))), ()))
| false =>
 some (.inr (.inl (())))
noncomputable def s_l01Rises (x : Ty.T (.pair (.list (.int .i64)) (.pair (.int .i64) .unit))) : Option (Ty.T (.pair .bool .unit)) :=
match loopL b_s_l01Rises_2 (x.1, x.2.1, (0 : Int), ()) with
| none => none
| some (.inl v5) =>
 some (true, ())
| some (.inr v6) =>
 some (v6.1, ())
noncomputable def S_s_l01Rises : Spec := ⟨(.pair (.list (.int .i64)) (.pair (.int .i64) .unit)), (.pair .bool .unit), .unit, rfl, s_l01Rises⟩
noncomputable def σ_s_l01Rises : FuncId → Option Spec := sig [(87, S_s_l01In)]
theorem σok_s_l01Rises : ∀ f s, σ_s_l01Rises f = some s → FnOK G0 Tryz.prog f s := sig_ok (l := [(87, S_s_l01In)]) ⟨ok_s_l01In, trivial⟩
noncomputable def Λ_s_l01Rises : Nat → Option LSpec := lkp (loopList (bodyOf Tryz.f165)) [⟨[0, 1, 5], (.pair (.list (.int .i64)) TCrc), 0, [], .unit, [4], (.pair .bool .unit), loopL b_s_l01Rises_2⟩]
theorem lok_s_l01Rises_2 (x) : codeK Γ0 E0 σ_s_l01Rises Λ_s_l01Rises Tryz.f165.ntmps (nthLoop Tryz.f165 0) (mkF Tryz.f165.ntmps [0, 1, 5] (.pair (.list (.int .i64)) TCrc) x) (readK σ_s_l01Rises Tryz.f165.ntmps [0, 1, 5] (.pair (.list (.int .i64)) TCrc) 0 [] .unit [4] (.pair .bool .unit)) = b_s_l01Rises_2 x := by kernel_rfl
theorem ok_s_l01Rises : FnOK G0 Tryz.prog 165 S_s_l01Rises := fn_ok (Λ := Λ_s_l01Rises) tab0 σok_s_l01Rises Tryz.func165 (by kernel_rfl) (show Tryz.f165.body = some (bodyOf Tryz.f165) by kernel_rfl) [⟨[0, 1, 5], (.pair (.list (.int .i64)) TCrc), 0, [], .unit, [4], (.pair .bool .unit), loopL b_s_l01Rises_2⟩] rfl (by kernel_rfl) (by exact ⟨loop_LOK (lok_s_l01Rises_2), trivial⟩) (by kernel_rfl)
  fun x y h => (show execFn Γ0 E0 σ_s_l01Rises Λ_s_l01Rises Tryz.f165 S_s_l01Rises x = s_l01Rises x by kernel_rfl).trans h

noncomputable def b_s_l01Has_2 (x : (Ty.T (.pair (.list (.int .i64)) TCrc))) : Option ((Ty.T (.pair (.list (.int .i64)) TCrc)) ⊕ ((Ty.T .unit) ⊕ (Ty.T (.pair .bool .unit)))) :=
match (decide (x.2.2.1 < (x.1.length : Int))) with
| true =>
 onSome (idx x.1 x.2.2.1) fun v1 =>
 match (v1 == x.2.1) with
 | true =>
  some (.inr (.inr (true, ())))
 | false =>
  some (.inl (x.1, x.2.1, (IntKind.i64.wrap (x.2.2.1 + (1 : Int))), ()))
| false =>
 some (.inr (.inl (())))
noncomputable def s_l01Has (x : Ty.T (.pair (.list (.int .i64)) (.pair (.int .i64) .unit))) : Option (Ty.T (.pair .bool .unit)) :=
match loopL b_s_l01Has_2 (x.1, x.2.1, (0 : Int), ()) with
| none => none
| some (.inl v2) =>
 some (false, ())
| some (.inr v3) =>
 some (v3.1, ())
noncomputable def S_s_l01Has : Spec := ⟨(.pair (.list (.int .i64)) (.pair (.int .i64) .unit)), (.pair .bool .unit), .unit, rfl, s_l01Has⟩
noncomputable def σ_s_l01Has : FuncId → Option Spec := sig []
theorem σok_s_l01Has : ∀ f s, σ_s_l01Has f = some s → FnOK G0 Tryz.prog f s := sig_ok (l := []) trivial
noncomputable def Λ_s_l01Has : Nat → Option LSpec := lkp (loopList (bodyOf Tryz.f166)) [⟨[0, 1, 5], (.pair (.list (.int .i64)) TCrc), 0, [], .unit, [4], (.pair .bool .unit), loopL b_s_l01Has_2⟩]
theorem lok_s_l01Has_2 (x) : codeK Γ0 E0 σ_s_l01Has Λ_s_l01Has Tryz.f166.ntmps (nthLoop Tryz.f166 0) (mkF Tryz.f166.ntmps [0, 1, 5] (.pair (.list (.int .i64)) TCrc) x) (readK σ_s_l01Has Tryz.f166.ntmps [0, 1, 5] (.pair (.list (.int .i64)) TCrc) 0 [] .unit [4] (.pair .bool .unit)) = b_s_l01Has_2 x := by kernel_rfl
theorem ok_s_l01Has : FnOK G0 Tryz.prog 166 S_s_l01Has := fn_ok (Λ := Λ_s_l01Has) tab0 σok_s_l01Has Tryz.func166 (by kernel_rfl) (show Tryz.f166.body = some (bodyOf Tryz.f166) by kernel_rfl) [⟨[0, 1, 5], (.pair (.list (.int .i64)) TCrc), 0, [], .unit, [4], (.pair .bool .unit), loopL b_s_l01Has_2⟩] rfl (by kernel_rfl) (by exact ⟨loop_LOK (lok_s_l01Has_2), trivial⟩) (by kernel_rfl)
  fun x y h => (show execFn Γ0 E0 σ_s_l01Has Λ_s_l01Has Tryz.f166 S_s_l01Has x = s_l01Has x by kernel_rfl).trans h

noncomputable def b_s_IsModeTable_4 (x : (Ty.T (.pair (.list TModeInfo) (.pair (.int .i64) .unit)))) : Option ((Ty.T (.pair (.list TModeInfo) (.pair (.int .i64) .unit))) ⊕ ((Ty.T .unit) ⊕ (Ty.T (.pair .bool .unit)))) :=
match (decide (x.2.1 < (x.1.length : Int))) with
| true =>
 onSome (idx x.1 x.2.1) fun v2 =>
 match s_l01In (v2.1, (1 : Int), (8 : Int), ()) with
 | none => none
 | some v3 =>
 match (!v3.1) with
 | true =>
  some (.inr (.inr (false, ())))
 | false =>
  match s_l01In (v2.2.1, (1 : Int), (16 : Int), ()) with
  | none => none
  | some v4 =>
  match (!v4.1) with
  | true =>
   some (.inr (.inr (false, ())))
  | false =>
   match s_l01Rises (v2.2.2.1, (x.1.length : Int), ()) with
   | none => none
   | some v5 =>
   match (!v5.1) with
   | true =>
    some (.inr (.inr (false, ())))
   | false =>
    match s_l01Has (v2.2.2.1, x.2.1, ()) with
    | none => none
    | some v6 =>
    match v6.1 with
    | true =>
     some (.inr (.inr (false, ())))
    | false =>
     some (.inl (x.1, (IntKind.i64.wrap (x.2.1 + (1 : Int))), ()))
| false =>
 some (.inr (.inl (())))
noncomputable def s_IsModeTable (x : Ty.T (.pair (.list TModeInfo) .unit)) : Option (Ty.T (.pair .bool .unit)) :=
match s_l01In ((x.1.length : Int), (1 : Int), (16 : Int), ()) with
| none => none
| some v1 =>
match (!v1.1) with
| true =>
 some (false, ())
| false =>
 match loopL b_s_IsModeTable_4 (x.1, (0 : Int), ()) with
 | none => none
 | some (.inl v7) =>
  some (true, ())
 | some (.inr v8) =>
  some (v8.1, ())
noncomputable def S_s_IsModeTable : Spec := ⟨(.pair (.list TModeInfo) .unit), (.pair .bool .unit), .unit, rfl, s_IsModeTable⟩
noncomputable def σ_s_IsModeTable : FuncId → Option Spec := sig [(87, S_s_l01In), (165, S_s_l01Rises), (166, S_s_l01Has)]
theorem σok_s_IsModeTable : ∀ f s, σ_s_IsModeTable f = some s → FnOK G0 Tryz.prog f s := sig_ok (l := [(87, S_s_l01In), (165, S_s_l01Rises), (166, S_s_l01Has)]) ⟨ok_s_l01In, ok_s_l01Rises, ok_s_l01Has, trivial⟩
noncomputable def Λ_s_IsModeTable : Nat → Option LSpec := lkp (loopList (bodyOf Tryz.f113)) [⟨[0, 3], (.pair (.list TModeInfo) (.pair (.int .i64) .unit)), 0, [], .unit, [2], (.pair .bool .unit), loopL b_s_IsModeTable_4⟩]
theorem lok_s_IsModeTable_4 (x) : codeK Γ0 E0 σ_s_IsModeTable Λ_s_IsModeTable Tryz.f113.ntmps (nthLoop Tryz.f113 0) (mkF Tryz.f113.ntmps [0, 3] (.pair (.list TModeInfo) (.pair (.int .i64) .unit)) x) (readK σ_s_IsModeTable Tryz.f113.ntmps [0, 3] (.pair (.list TModeInfo) (.pair (.int .i64) .unit)) 0 [] .unit [2] (.pair .bool .unit)) = b_s_IsModeTable_4 x := by kernel_rfl
theorem ok_s_IsModeTable : FnOK G0 Tryz.prog 113 S_s_IsModeTable := fn_ok (Λ := Λ_s_IsModeTable) tab0 σok_s_IsModeTable Tryz.func113 (by kernel_rfl) (show Tryz.f113.body = some (bodyOf Tryz.f113) by kernel_rfl) [⟨[0, 3], (.pair (.list TModeInfo) (.pair (.int .i64) .unit)), 0, [], .unit, [2], (.pair .bool .unit), loopL b_s_IsModeTable_4⟩] rfl (by kernel_rfl) (by exact ⟨loop_LOK (lok_s_IsModeTable_4), trivial⟩) (by kernel_rfl)
  fun x y h => (show execFn Γ0 E0 σ_s_IsModeTable Λ_s_IsModeTable Tryz.f113 S_s_IsModeTable x = s_IsModeTable x by kernel_rfl).trans h

noncomputable def s_l06Kind (x : Ty.T (.pair (.int .i64) .unit)) : Option (Ty.T (.pair .bool .unit)) :=
match s_l01In (x.1, (0 : Int), (3 : Int), ()) with
| none => none
| some v1 =>
some (v1.1, ())
noncomputable def S_s_l06Kind : Spec := ⟨(.pair (.int .i64) .unit), (.pair .bool .unit), .unit, rfl, s_l06Kind⟩
noncomputable def σ_s_l06Kind : FuncId → Option Spec := sig [(87, S_s_l01In)]
theorem σok_s_l06Kind : ∀ f s, σ_s_l06Kind f = some s → FnOK G0 Tryz.prog f s := sig_ok (l := [(87, S_s_l01In)]) ⟨ok_s_l01In, trivial⟩
noncomputable def Λ_s_l06Kind : Nat → Option LSpec := lkp (loopList (bodyOf Tryz.f132)) []
theorem ok_s_l06Kind : FnOK G0 Tryz.prog 132 S_s_l06Kind := fn_ok (Λ := Λ_s_l06Kind) tab0 σok_s_l06Kind Tryz.func132 (by kernel_rfl) (show Tryz.f132.body = some (bodyOf Tryz.f132) by kernel_rfl) [] rfl (by kernel_rfl) (by exact trivial) (by kernel_rfl)
  fun x y h => (show execFn Γ0 E0 σ_s_l06Kind Λ_s_l06Kind Tryz.f132 S_s_l06Kind x = s_l06Kind x by kernel_rfl).trans h

noncomputable def s_l06Size (x : Ty.T TCrc) : Option (Ty.T (.pair .bool .unit)) :=
match (x.1 == (0 : Int)) with
| true =>
 match s_l01In (x.2.1, (0 : Int), (32 : Int), ()) with
 | none => none
 | some v1 =>
 some (v1.1, ())
| false =>
 match (x.1 == (2 : Int)) with
 | true =>
  match s_l01In (x.2.1, (1 : Int), (32 : Int), ()) with
  | none => none
  | some v2 =>
  some (v2.1, ())
 | false =>
  some ((x.2.1 == (0 : Int)), ())
noncomputable def S_s_l06Size : Spec := ⟨TCrc, (.pair .bool .unit), .unit, rfl, s_l06Size⟩
noncomputable def σ_s_l06Size : FuncId → Option Spec := sig [(87, S_s_l01In)]
theorem σok_s_l06Size : ∀ f s, σ_s_l06Size f = some s → FnOK G0 Tryz.prog f s := sig_ok (l := [(87, S_s_l01In)]) ⟨ok_s_l01In, trivial⟩
noncomputable def Λ_s_l06Size : Nat → Option LSpec := lkp (loopList (bodyOf Tryz.f133)) []
theorem ok_s_l06Size : FnOK G0 Tryz.prog 133 S_s_l06Size := fn_ok (Λ := Λ_s_l06Size) tab0 σok_s_l06Size Tryz.func133 (by kernel_rfl) (show Tryz.f133.body = some (bodyOf Tryz.f133) by kernel_rfl) [] rfl (by kernel_rfl) (by exact trivial) (by kernel_rfl)
  fun x y h => (show execFn Γ0 E0 σ_s_l06Size Λ_s_l06Size Tryz.f133 S_s_l06Size x = s_l06Size x by kernel_rfl).trans h

noncomputable def s_l06State (x : Ty.T (.pair (.int .i64) .unit)) : Option (Ty.T (.pair .bool .unit)) :=
some ((x.1 != (0 : Int)), ())
noncomputable def S_s_l06State : Spec := ⟨(.pair (.int .i64) .unit), (.pair .bool .unit), .unit, rfl, s_l06State⟩
noncomputable def σ_s_l06State : FuncId → Option Spec := sig []
theorem σok_s_l06State : ∀ f s, σ_s_l06State f = some s → FnOK G0 Tryz.prog f s := sig_ok (l := []) trivial
noncomputable def Λ_s_l06State : Nat → Option LSpec := lkp (loopList (bodyOf Tryz.f93)) []
theorem ok_s_l06State : FnOK G0 Tryz.prog 93 S_s_l06State := fn_ok (Λ := Λ_s_l06State) tab0 σok_s_l06State Tryz.func93 (by kernel_rfl) (show Tryz.f93.body = some (bodyOf Tryz.f93) by kernel_rfl) [] rfl (by kernel_rfl) (by exact trivial) (by kernel_rfl)
  fun x y h => (show execFn Γ0 E0 σ_s_l06State Λ_s_l06State Tryz.f93 S_s_l06State x = s_l06State x by kernel_rfl).trans h

noncomputable def s_l06Data (x : Ty.T (.pair (.int .i64) .unit)) : Option (Ty.T (.pair .bool .unit)) :=
match (x.1 == (0 : Int)) with
| true =>
 some (true, ())
| false =>
 some ((x.1 == (2 : Int)), ())
noncomputable def S_s_l06Data : Spec := ⟨(.pair (.int .i64) .unit), (.pair .bool .unit), .unit, rfl, s_l06Data⟩
noncomputable def σ_s_l06Data : FuncId → Option Spec := sig []
theorem σok_s_l06Data : ∀ f s, σ_s_l06Data f = some s → FnOK G0 Tryz.prog f s := sig_ok (l := []) trivial
noncomputable def Λ_s_l06Data : Nat → Option LSpec := lkp (loopList (bodyOf Tryz.f128)) []
theorem ok_s_l06Data : FnOK G0 Tryz.prog 128 S_s_l06Data := fn_ok (Λ := Λ_s_l06Data) tab0 σok_s_l06Data Tryz.func128 (by kernel_rfl) (show Tryz.f128.body = some (bodyOf Tryz.f128) by kernel_rfl) [] rfl (by kernel_rfl) (by exact trivial) (by kernel_rfl)
  fun x y h => (show execFn Γ0 E0 σ_s_l06Data Λ_s_l06Data Tryz.f128 S_s_l06Data x = s_l06Data x by kernel_rfl).trans h

noncomputable def s_l06BodySize (x : Ty.T TCrc) : Option (Ty.T (.pair (.int .i64) .unit)) :=
match s_l06State (x.1, ()) with
| none => none
| some v1 =>
match v1.1 with
| true =>
 match s_l06Data (x.1, ()) with
 | none => none
 | some v2 =>
 match v2.1 with
 | true =>
  some ((IntKind.i64.wrap ((IntKind.i64.wrap ((IntKind.i64.wrap ((1 : Int) + (8 : Int))) + (1 : Int))) + x.2.1)), ())
 | false =>
  some ((IntKind.i64.wrap ((1 : Int) + (8 : Int))), ())
| false =>
 match s_l06Data (x.1, ()) with
 | none => none
 | some v3 =>
 match v3.1 with
 | true =>
  some ((IntKind.i64.wrap ((IntKind.i64.wrap ((1 : Int) + (1 : Int))) + x.2.1)), ())
 | false =>
  some ((1 : Int), ())
noncomputable def S_s_l06BodySize : Spec := ⟨TCrc, (.pair (.int .i64) .unit), .unit, rfl, s_l06BodySize⟩
noncomputable def σ_s_l06BodySize : FuncId → Option Spec := sig [(93, S_s_l06State), (128, S_s_l06Data)]
theorem σok_s_l06BodySize : ∀ f s, σ_s_l06BodySize f = some s → FnOK G0 Tryz.prog f s := sig_ok (l := [(93, S_s_l06State), (128, S_s_l06Data)]) ⟨ok_s_l06State, ok_s_l06Data, trivial⟩
noncomputable def Λ_s_l06BodySize : Nat → Option LSpec := lkp (loopList (bodyOf Tryz.f178)) []
theorem ok_s_l06BodySize : FnOK G0 Tryz.prog 178 S_s_l06BodySize := fn_ok (Λ := Λ_s_l06BodySize) tab0 σok_s_l06BodySize Tryz.func178 (by kernel_rfl) (show Tryz.f178.body = some (bodyOf Tryz.f178) by kernel_rfl) [] rfl (by kernel_rfl) (by exact trivial) (by kernel_rfl)
  fun x y h => (show execFn Γ0 E0 σ_s_l06BodySize Λ_s_l06BodySize Tryz.f178 S_s_l06BodySize x = s_l06BodySize x by kernel_rfl).trans h

noncomputable def s_l08Cells (x : Ty.T TCrc) : Option (Ty.T (.pair (.int .i64) .unit)) :=
match s_l06BodySize (x.1, x.2.1, ()) with
| none => none
| some v1 =>
some ((IntKind.i64.wrap ((11 : Int) + (IntKind.i64.wrap ((10 : Int) * (IntKind.i64.wrap (v1.1 + (3 : Int))))))), ())
noncomputable def S_s_l08Cells : Spec := ⟨TCrc, (.pair (.int .i64) .unit), .unit, rfl, s_l08Cells⟩
noncomputable def σ_s_l08Cells : FuncId → Option Spec := sig [(178, S_s_l06BodySize)]
theorem σok_s_l08Cells : ∀ f s, σ_s_l08Cells f = some s → FnOK G0 Tryz.prog f s := sig_ok (l := [(178, S_s_l06BodySize)]) ⟨ok_s_l06BodySize, trivial⟩
noncomputable def Λ_s_l08Cells : Nat → Option LSpec := lkp (loopList (bodyOf Tryz.f134)) []
theorem ok_s_l08Cells : FnOK G0 Tryz.prog 134 S_s_l08Cells := fn_ok (Λ := Λ_s_l08Cells) tab0 σok_s_l08Cells Tryz.func134 (by kernel_rfl) (show Tryz.f134.body = some (bodyOf Tryz.f134) by kernel_rfl) [] rfl (by kernel_rfl) (by exact trivial) (by kernel_rfl)
  fun x y h => (show execFn Γ0 E0 σ_s_l08Cells Λ_s_l08Cells Tryz.f134 S_s_l08Cells x = s_l08Cells x by kernel_rfl).trans h

noncomputable def s_IsDescriptor (x : Ty.T (.pair TDescriptor .unit)) : Option (Ty.T (.pair .bool .unit)) :=
match s_l05Node (x.1.1, ()) with
| none => none
| some v1 =>
match (!v1.1) with
| true =>
 some (false, ())
| false =>
 match s_l06Kind (x.1.2.1, ()) with
 | none => none
 | some v2 =>
 match (!v2.1) with
 | true =>
  some (false, ())
 | false =>
  match s_l06Size (x.1.2.1, x.1.2.2.1, ()) with
  | none => none
  | some v3 =>
  match (!v3.1) with
  | true =>
   some (false, ())
  | false =>
   match (x.1.2.1 == (3 : Int)) with
   | true =>
    match x.1.2.2.2.2.1 with
    | true =>
     some (false, ())
    | false =>
     match s_l08Cells (x.1.2.1, x.1.2.2.1, ()) with
     | none => none
     | some v4 =>
     match s_l01In (x.1.2.2.2.1, (IntKind.i64.wrap (v4.1 + (20 : Int))), (1000 : Int), ()) with
     | none => none
     | some v5 =>
     some (v5.1, ())
   | false =>
    match s_l08Cells (x.1.2.1, x.1.2.2.1, ()) with
    | none => none
    | some v6 =>
    match s_l01In (x.1.2.2.2.1, (IntKind.i64.wrap (v6.1 + (20 : Int))), (1000 : Int), ()) with
    | none => none
    | some v7 =>
    some (v7.1, ())
noncomputable def S_s_IsDescriptor : Spec := ⟨(.pair TDescriptor .unit), (.pair .bool .unit), .unit, rfl, s_IsDescriptor⟩
noncomputable def σ_s_IsDescriptor : FuncId → Option Spec := sig [(87, S_s_l01In), (131, S_s_l05Node), (132, S_s_l06Kind), (133, S_s_l06Size), (134, S_s_l08Cells)]
theorem σok_s_IsDescriptor : ∀ f s, σ_s_IsDescriptor f = some s → FnOK G0 Tryz.prog f s := sig_ok (l := [(87, S_s_l01In), (131, S_s_l05Node), (132, S_s_l06Kind), (133, S_s_l06Size), (134, S_s_l08Cells)]) ⟨ok_s_l01In, ok_s_l05Node, ok_s_l06Kind, ok_s_l06Size, ok_s_l08Cells, trivial⟩
noncomputable def Λ_s_IsDescriptor : Nat → Option LSpec := lkp (loopList (bodyOf Tryz.f94)) []
theorem ok_s_IsDescriptor : FnOK G0 Tryz.prog 94 S_s_IsDescriptor := fn_ok (Λ := Λ_s_IsDescriptor) tab0 σok_s_IsDescriptor Tryz.func94 (by kernel_rfl) (show Tryz.f94.body = some (bodyOf Tryz.f94) by kernel_rfl) [] rfl (by kernel_rfl) (by exact trivial) (by kernel_rfl)
  fun x y h => (show execFn Γ0 E0 σ_s_IsDescriptor Λ_s_IsDescriptor Tryz.f94 S_s_IsDescriptor x = s_IsDescriptor x by kernel_rfl).trans h

noncomputable def s_l12Is (x : Ty.T (.pair TSlotInfo .unit)) : Option (Ty.T (.pair .bool .unit)) :=
match s_l01In (x.1.1, (0 : Int), (15 : Int), ()) with
| none => none
| some v1 =>
match v1.1 with
| true =>
 match s_l01In (x.1.2.1, (0 : Int), (7 : Int), ()) with
 | none => none
 | some v2 =>
 match v2.1 with
 | true =>
  match s_l01In (x.1.2.2.1, (0 : Int), (15 : Int), ()) with
  | none => none
  | some v3 =>
  match v3.1 with
  | true =>
   match s_IsDescriptor ((x.1.2.2.2.1.1, x.1.2.2.2.1.2.1, x.1.2.2.2.1.2.2.1, x.1.2.2.2.1.2.2.2.1, x.1.2.2.2.1.2.2.2.2.1, ()), ()) with
   | none => none
   | some v4 =>
   some (v4.1, ())
  | false =>
   some (false, ())
 | false =>
  some (false, ())
| false =>
 some (false, ())
noncomputable def S_s_l12Is : Spec := ⟨(.pair TSlotInfo .unit), (.pair .bool .unit), .unit, rfl, s_l12Is⟩
noncomputable def σ_s_l12Is : FuncId → Option Spec := sig [(87, S_s_l01In), (94, S_s_IsDescriptor)]
theorem σok_s_l12Is : ∀ f s, σ_s_l12Is f = some s → FnOK G0 Tryz.prog f s := sig_ok (l := [(87, S_s_l01In), (94, S_s_IsDescriptor)]) ⟨ok_s_l01In, ok_s_IsDescriptor, trivial⟩
noncomputable def Λ_s_l12Is : Nat → Option LSpec := lkp (loopList (bodyOf Tryz.f167)) []
theorem ok_s_l12Is : FnOK G0 Tryz.prog 167 S_s_l12Is := fn_ok (Λ := Λ_s_l12Is) tab0 σok_s_l12Is Tryz.func167 (by kernel_rfl) (show Tryz.f167.body = some (bodyOf Tryz.f167) by kernel_rfl) [] rfl (by kernel_rfl) (by exact trivial) (by kernel_rfl)
  fun x y h => (show execFn Γ0 E0 σ_s_l12Is Λ_s_l12Is Tryz.f167 S_s_l12Is x = s_l12Is x by kernel_rfl).trans h

noncomputable def b_s_CompareSlots_3 (x : (Ty.T (.pair (.own 2 (.int .i64)) (.pair (.own 2 (.int .i64)) (.pair (.int .i64) .unit))))) : Option ((Ty.T (.pair (.own 2 (.int .i64)) (.pair (.own 2 (.int .i64)) (.pair (.int .i64) .unit)))) ⊕ ((Ty.T .unit) ⊕ (Ty.T (.pair (.int .i64) .unit)))) :=
match (decide (x.2.2.1 < (3 : Int))) with
| true =>
 onSome (idx x.1 x.2.2.1) fun _ =>
 match x.1[x.2.2.1.toNat]? with
 | none => none
 | some v2 =>
 onSome (idx x.2.1 x.2.2.1) fun _ =>
 match x.2.1[x.2.2.1.toNat]? with
 | none => none
 | some v4 =>
 match (decide (v2 < v4)) with
 | true =>
  some (.inr (.inr ((-1 : Int), ())))
 | false =>
  onSome (idx x.1 x.2.2.1) fun _ =>
  match x.1[x.2.2.1.toNat]? with
  | none => none
  | some v6 =>
  onSome (idx x.2.1 x.2.2.1) fun _ =>
  match x.2.1[x.2.2.1.toNat]? with
  | none => none
  | some v8 =>
  match (decide (v6 > v8)) with
  | true =>
   some (.inr (.inr ((1 : Int), ())))
  | false =>
   some (.inl (x.1, x.2.1, (IntKind.i64.wrap (x.2.2.1 + (1 : Int))), ()))
| false =>
 some (.inr (.inl (())))
noncomputable def s_CompareSlots (x : Ty.T (.pair TSlotInfo (.pair TSlotInfo .unit))) : Option (Ty.T (.pair (.int .i64) .unit)) :=
both (
 match loopL b_s_CompareSlots_3 ([x.1.1, x.1.2.1, x.1.2.2.1], [x.2.1.1, x.2.1.2.1, x.2.1.2.2.1], (0 : Int), ()) with
 | none => none
 | some (.inl v9) =>
  some ((0 : Int), ())
 | some (.inr v10) =>
  some (v10.1, ())) (
 match loopL b_s_CompareSlots_3 ([x.1.1, x.1.2.1, x.1.2.2.1], [x.2.1.1, x.2.1.2.1, x.2.1.2.2.1], (0 : Int), ()) with
 | none => none
 | some (.inl v1) =>
  some ((0 : Int), ())
 | some (.inr v2) =>
  some (v2.1, ()))
noncomputable def S_s_CompareSlots : Spec := ⟨(.pair TSlotInfo (.pair TSlotInfo .unit)), (.pair (.int .i64) .unit), .unit, rfl, s_CompareSlots⟩
noncomputable def σ_s_CompareSlots : FuncId → Option Spec := sig []
theorem σok_s_CompareSlots : ∀ f s, σ_s_CompareSlots f = some s → FnOK G0 Tryz.prog f s := sig_ok (l := []) trivial
noncomputable def Λ_s_CompareSlots : Nat → Option LSpec := lkp (loopList (bodyOf Tryz.f168)) [⟨[5, 6, 7], (.pair (.own 2 (.int .i64)) (.pair (.own 2 (.int .i64)) (.pair (.int .i64) .unit))), 0, [], .unit, [4], (.pair (.int .i64) .unit), loopL b_s_CompareSlots_3⟩]
theorem lok_s_CompareSlots_3 (x) : codeK Γ0 E0 σ_s_CompareSlots Λ_s_CompareSlots Tryz.f168.ntmps (nthLoop Tryz.f168 0) (mkF Tryz.f168.ntmps [5, 6, 7] (.pair (.own 2 (.int .i64)) (.pair (.own 2 (.int .i64)) (.pair (.int .i64) .unit))) x) (readK σ_s_CompareSlots Tryz.f168.ntmps [5, 6, 7] (.pair (.own 2 (.int .i64)) (.pair (.own 2 (.int .i64)) (.pair (.int .i64) .unit))) 0 [] .unit [4] (.pair (.int .i64) .unit)) = b_s_CompareSlots_3 x := by kernel_rfl
theorem ok_s_CompareSlots : FnOK G0 Tryz.prog 168 S_s_CompareSlots := fn_ok (Λ := Λ_s_CompareSlots) tab0 σok_s_CompareSlots Tryz.func168 (by kernel_rfl) (show Tryz.f168.body = some (bodyOf Tryz.f168) by kernel_rfl) [⟨[5, 6, 7], (.pair (.own 2 (.int .i64)) (.pair (.own 2 (.int .i64)) (.pair (.int .i64) .unit))), 0, [], .unit, [4], (.pair (.int .i64) .unit), loopL b_s_CompareSlots_3⟩] rfl (by kernel_rfl) (by exact ⟨loop_LOK (lok_s_CompareSlots_3), trivial⟩) (by kernel_rfl)
  fun x y h => (show execFn Γ0 E0 σ_s_CompareSlots Λ_s_CompareSlots Tryz.f168 S_s_CompareSlots x = s_CompareSlots x by kernel_rfl).trans h

noncomputable def b_s_IsSlotTable_4 (x : (Ty.T (.pair (.list TSlotInfo) (.pair (.int .i64) .unit)))) : Option ((Ty.T (.pair (.list TSlotInfo) (.pair (.int .i64) .unit))) ⊕ ((Ty.T .unit) ⊕ (Ty.T (.pair .bool .unit)))) :=
match (decide (x.2.1 < (x.1.length : Int))) with
| true =>
 onSome (idx x.1 x.2.1) fun v1 =>
 match s_l12Is (v1, ()) with
 | none => none
 | some v2 =>
 match (!v2.1) with
 | true =>
  some (.inr (.inr (false, ())))
 | false =>
  match (decide (x.2.1 > (0 : Int))) with
  | true =>
   onSome (idx x.1 (IntKind.i64.wrap (x.2.1 - (1 : Int)))) fun v3 =>
   onSome (idx x.1 x.2.1) fun v4 =>
   match s_CompareSlots (v3, v4, ()) with
   | none => none
   | some v5 =>
   match (decide (v5.1 ≥ (0 : Int))) with
   | true =>
    some (.inr (.inr (false, ())))
   | false =>
    some (.inl (x.1, (IntKind.i64.wrap (x.2.1 + (1 : Int))), ()))
  | false =>
   some (.inl (x.1, (IntKind.i64.wrap (x.2.1 + (1 : Int))), ()))
| false =>
 some (.inr (.inl (())))
noncomputable def s_IsSlotTable (x : Ty.T (.pair (.list TSlotInfo) .unit)) : Option (Ty.T (.pair .bool .unit)) :=
match (decide ((x.1.length : Int) > (120 : Int))) with
| true =>
 some (false, ())
| false =>
 match loopL b_s_IsSlotTable_4 (x.1, (0 : Int), ()) with
 | none => none
 | some (.inl v6) =>
  some (true, ())
 | some (.inr v7) =>
  some (v7.1, ())
noncomputable def S_s_IsSlotTable : Spec := ⟨(.pair (.list TSlotInfo) .unit), (.pair .bool .unit), .unit, rfl, s_IsSlotTable⟩
noncomputable def σ_s_IsSlotTable : FuncId → Option Spec := sig [(167, S_s_l12Is), (168, S_s_CompareSlots)]
theorem σok_s_IsSlotTable : ∀ f s, σ_s_IsSlotTable f = some s → FnOK G0 Tryz.prog f s := sig_ok (l := [(167, S_s_l12Is), (168, S_s_CompareSlots)]) ⟨ok_s_l12Is, ok_s_CompareSlots, trivial⟩
noncomputable def Λ_s_IsSlotTable : Nat → Option LSpec := lkp (loopList (bodyOf Tryz.f114)) [⟨[0, 3], (.pair (.list TSlotInfo) (.pair (.int .i64) .unit)), 0, [], .unit, [2], (.pair .bool .unit), loopL b_s_IsSlotTable_4⟩]
theorem lok_s_IsSlotTable_4 (x) : codeK Γ0 E0 σ_s_IsSlotTable Λ_s_IsSlotTable Tryz.f114.ntmps (nthLoop Tryz.f114 0) (mkF Tryz.f114.ntmps [0, 3] (.pair (.list TSlotInfo) (.pair (.int .i64) .unit)) x) (readK σ_s_IsSlotTable Tryz.f114.ntmps [0, 3] (.pair (.list TSlotInfo) (.pair (.int .i64) .unit)) 0 [] .unit [2] (.pair .bool .unit)) = b_s_IsSlotTable_4 x := by kernel_rfl
theorem ok_s_IsSlotTable : FnOK G0 Tryz.prog 114 S_s_IsSlotTable := fn_ok (Λ := Λ_s_IsSlotTable) tab0 σok_s_IsSlotTable Tryz.func114 (by kernel_rfl) (show Tryz.f114.body = some (bodyOf Tryz.f114) by kernel_rfl) [⟨[0, 3], (.pair (.list TSlotInfo) (.pair (.int .i64) .unit)), 0, [], .unit, [2], (.pair .bool .unit), loopL b_s_IsSlotTable_4⟩] rfl (by kernel_rfl) (by exact ⟨loop_LOK (lok_s_IsSlotTable_4), trivial⟩) (by kernel_rfl)
  fun x y h => (show execFn Γ0 E0 σ_s_IsSlotTable Λ_s_IsSlotTable Tryz.f114 S_s_IsSlotTable x = s_IsSlotTable x by kernel_rfl).trans h

noncomputable def b_s_l12Find_2 (x : (Ty.T (.pair (.list TSlotInfo) (.pair (.int .i64) (.pair (.int .i64) TCrc))))) : Option ((Ty.T (.pair (.list TSlotInfo) (.pair (.int .i64) (.pair (.int .i64) TCrc)))) ⊕ ((Ty.T .unit) ⊕ (Ty.T (.pair (.int .i64) .unit)))) :=
match (decide (x.2.2.2.2.1 < (x.1.length : Int))) with
| true =>
 onSome (idx x.1 x.2.2.2.2.1) fun v1 =>
 match (v1.1 == x.2.1) with
 | true =>
  onSome (idx x.1 x.2.2.2.2.1) fun v2 =>
  match (v2.2.1 == x.2.2.1) with
  | true =>
   onSome (idx x.1 x.2.2.2.2.1) fun v3 =>
   match (v3.2.2.1 == x.2.2.2.1) with
   | true =>
    some (.inr (.inr (x.2.2.2.2.1, ())))
   | false =>
    some (.inl (x.1, x.2.1, x.2.2.1, x.2.2.2.1, (IntKind.i64.wrap (x.2.2.2.2.1 + (1 : Int))), ()))
  | false =>
   some (.inl (x.1, x.2.1, x.2.2.1, x.2.2.2.1, (IntKind.i64.wrap (x.2.2.2.2.1 + (1 : Int))), ()))
 | false =>
  some (.inl (x.1, x.2.1, x.2.2.1, x.2.2.2.1, (IntKind.i64.wrap (x.2.2.2.2.1 + (1 : Int))), ()))
| false =>
 some (.inr (.inl (())))
noncomputable def s_l12Find (x : Ty.T (.pair (.list TSlotInfo) (.pair (.int .i64) TCrc))) : Option (Ty.T (.pair (.int .i64) .unit)) :=
match loopL b_s_l12Find_2 (x.1, x.2.1, x.2.2.1, x.2.2.2.1, (0 : Int), ()) with
| none => none
| some (.inl v4) =>
 some ((-1 : Int), ())
| some (.inr v5) =>
 some (v5.1, ())
noncomputable def S_s_l12Find : Spec := ⟨(.pair (.list TSlotInfo) (.pair (.int .i64) TCrc)), (.pair (.int .i64) .unit), .unit, rfl, s_l12Find⟩
noncomputable def σ_s_l12Find : FuncId → Option Spec := sig []
theorem σok_s_l12Find : ∀ f s, σ_s_l12Find f = some s → FnOK G0 Tryz.prog f s := sig_ok (l := []) trivial
noncomputable def Λ_s_l12Find : Nat → Option LSpec := lkp (loopList (bodyOf Tryz.f96)) [⟨[0, 1, 2, 3, 9], (.pair (.list TSlotInfo) (.pair (.int .i64) (.pair (.int .i64) TCrc))), 0, [], .unit, [8], (.pair (.int .i64) .unit), loopL b_s_l12Find_2⟩]
theorem lok_s_l12Find_2 (x) : codeK Γ0 E0 σ_s_l12Find Λ_s_l12Find Tryz.f96.ntmps (nthLoop Tryz.f96 0) (mkF Tryz.f96.ntmps [0, 1, 2, 3, 9] (.pair (.list TSlotInfo) (.pair (.int .i64) (.pair (.int .i64) TCrc))) x) (readK σ_s_l12Find Tryz.f96.ntmps [0, 1, 2, 3, 9] (.pair (.list TSlotInfo) (.pair (.int .i64) (.pair (.int .i64) TCrc))) 0 [] .unit [8] (.pair (.int .i64) .unit)) = b_s_l12Find_2 x := by kernel_rfl
theorem ok_s_l12Find : FnOK G0 Tryz.prog 96 S_s_l12Find := fn_ok (Λ := Λ_s_l12Find) tab0 σok_s_l12Find Tryz.func96 (by kernel_rfl) (show Tryz.f96.body = some (bodyOf Tryz.f96) by kernel_rfl) [⟨[0, 1, 2, 3, 9], (.pair (.list TSlotInfo) (.pair (.int .i64) (.pair (.int .i64) TCrc))), 0, [], .unit, [8], (.pair (.int .i64) .unit), loopL b_s_l12Find_2⟩] rfl (by kernel_rfl) (by exact ⟨loop_LOK (lok_s_l12Find_2), trivial⟩) (by kernel_rfl)
  fun x y h => (show execFn Γ0 E0 σ_s_l12Find Λ_s_l12Find Tryz.f96 S_s_l12Find x = s_l12Find x by kernel_rfl).trans h

noncomputable def b_s_l13Complete_9 (x : (Ty.T (.pair (.box TMedl) (.pair (.int .i64) (.pair (.int .i64) TCrc))))) : Option ((Ty.T (.pair (.box TMedl) (.pair (.int .i64) (.pair (.int .i64) TCrc)))) ⊕ ((Ty.T (.pair (.box TMedl) (.pair (.int .i64) TCrc))) ⊕ (Ty.T (.pair .bool .unit)))) :=
onSome (idx x.1.2.2.1 x.2.2.1) fun v2 =>
match (decide (x.2.2.2.2.1 < v2.2.1)) with
| true =>
 match s_l12Find (x.1.2.2.2.1, x.2.2.1, x.2.2.2.1, x.2.2.2.2.1, ()) with
 | none => none
 | some v3 =>
 match (decide (v3.1 < (0 : Int))) with
 | true =>
  some (.inr (.inr (false, ())))
 | false =>
  some (.inl ((x.1.1, x.1.2.1, x.1.2.2.1, x.1.2.2.2.1, ()), (IntKind.i64.wrap (x.2.1 + (1 : Int))), x.2.2.1, x.2.2.2.1, (IntKind.i64.wrap (x.2.2.2.2.1 + (1 : Int))), ()))
| false =>
 some (.inr (.inl ((x.1.1, x.1.2.1, x.1.2.2.1, x.1.2.2.2.1, ()), x.2.1, x.2.2.1, x.2.2.2.1, ())))
noncomputable def b_s_l13Complete_6 (x : (Ty.T (.pair (.box TMedl) (.pair (.int .i64) TCrc)))) : Option ((Ty.T (.pair (.box TMedl) (.pair (.int .i64) TCrc))) ⊕ ((Ty.T (.pair (.box TMedl) TCrc)) ⊕ (Ty.T (.pair .bool .unit)))) :=
onSome (idx x.1.2.2.1 x.2.2.1) fun v1 =>
match (decide (x.2.2.2.1 < v1.1)) with
| true =>
 match loopL b_s_l13Complete_9 ((x.1.1, x.1.2.1, x.1.2.2.1, x.1.2.2.2.1, ()), x.2.1, x.2.2.1, x.2.2.2.1, (0 : Int), ()) with
 | none => none
 | some (.inl v2) =>
  some (.inl ((v2.1.1, v2.1.2.1, v2.1.2.2.1, v2.1.2.2.2.1, ()), v2.2.1, v2.2.2.1, (IntKind.i64.wrap (v2.2.2.2.1 + (1 : Int))), ()))
 | some (.inr v3) =>
  some (.inr (.inr (v3.1, ())))
| false =>
 some (.inr (.inl ((x.1.1, x.1.2.1, x.1.2.2.1, x.1.2.2.2.1, ()), x.2.1, x.2.2.1, ())))
noncomputable def b_s_l13Complete_3 (x : (Ty.T (.pair (.box TMedl) TCrc))) : Option ((Ty.T (.pair (.box TMedl) TCrc)) ⊕ ((Ty.T (.pair (.box TMedl) (.pair (.int .i64) .unit))) ⊕ (Ty.T (.pair .bool .unit)))) :=
match (decide (x.2.2.1 < (x.1.2.2.1.length : Int))) with
| true =>
 match loopL b_s_l13Complete_6 ((x.1.1, x.1.2.1, x.1.2.2.1, x.1.2.2.2.1, ()), x.2.1, x.2.2.1, (0 : Int), ()) with
 | none => none
 | some (.inl v1) =>
  some (.inl ((v1.1.1, v1.1.2.1, v1.1.2.2.1, v1.1.2.2.2.1, ()), v1.2.1, (IntKind.i64.wrap (v1.2.2.1 + (1 : Int))), ()))
 | some (.inr v2) =>
  some (.inr (.inr (v2.1, ())))
| false =>
 some (.inr (.inl ((x.1.1, x.1.2.1, x.1.2.2.1, x.1.2.2.2.1, ()), x.2.1, ())))
noncomputable def s_l13Complete (x : Ty.T (.pair TMedl .unit)) : Option (Ty.T (.pair .bool .unit)) :=
match loopL b_s_l13Complete_3 ((x.1.1, x.1.2.1, x.1.2.2.1, x.1.2.2.2.1, ()), (0 : Int), (0 : Int), ()) with
| none => none
| some (.inl v3) =>
 some ((v3.2.1 == (v3.1.2.2.2.1.length : Int)), ())
| some (.inr v4) =>
 some (v4.1, ())
noncomputable def S_s_l13Complete : Spec := ⟨(.pair TMedl .unit), (.pair .bool .unit), .unit, rfl, s_l13Complete⟩
noncomputable def σ_s_l13Complete : FuncId → Option Spec := sig [(96, S_s_l12Find)]
theorem σok_s_l13Complete : ∀ f s, σ_s_l13Complete f = some s → FnOK G0 Tryz.prog f s := sig_ok (l := [(96, S_s_l12Find)]) ⟨ok_s_l12Find, trivial⟩
noncomputable def Λ_s_l13Complete : Nat → Option LSpec := lkp (loopList (bodyOf Tryz.f115)) [⟨[1, 3, 4], (.pair (.box TMedl) TCrc), 0, [1, 3], (.pair (.box TMedl) (.pair (.int .i64) .unit)), [2], (.pair .bool .unit), loopL b_s_l13Complete_3⟩, ⟨[1, 3, 4, 5], (.pair (.box TMedl) (.pair (.int .i64) TCrc)), 2, [1, 3, 4], (.pair (.box TMedl) TCrc), [2], (.pair .bool .unit), loopL b_s_l13Complete_6⟩, ⟨[1, 3, 4, 5, 6], (.pair (.box TMedl) (.pair (.int .i64) (.pair (.int .i64) TCrc))), 4, [1, 3, 4, 5], (.pair (.box TMedl) (.pair (.int .i64) TCrc)), [2], (.pair .bool .unit), loopL b_s_l13Complete_9⟩]
theorem lok_s_l13Complete_3 (x) : codeK Γ0 E0 σ_s_l13Complete Λ_s_l13Complete Tryz.f115.ntmps (nthLoop Tryz.f115 0) (mkF Tryz.f115.ntmps [1, 3, 4] (.pair (.box TMedl) TCrc) x) (readK σ_s_l13Complete Tryz.f115.ntmps [1, 3, 4] (.pair (.box TMedl) TCrc) 0 [1, 3] (.pair (.box TMedl) (.pair (.int .i64) .unit)) [2] (.pair .bool .unit)) = b_s_l13Complete_3 x := by kernel_rfl
theorem lok_s_l13Complete_6 (x) : codeK Γ0 E0 σ_s_l13Complete Λ_s_l13Complete Tryz.f115.ntmps (nthLoop Tryz.f115 1) (mkF Tryz.f115.ntmps [1, 3, 4, 5] (.pair (.box TMedl) (.pair (.int .i64) TCrc)) x) (readK σ_s_l13Complete Tryz.f115.ntmps [1, 3, 4, 5] (.pair (.box TMedl) (.pair (.int .i64) TCrc)) 2 [1, 3, 4] (.pair (.box TMedl) TCrc) [2] (.pair .bool .unit)) = b_s_l13Complete_6 x := by kernel_rfl
theorem lok_s_l13Complete_9 (x) : codeK Γ0 E0 σ_s_l13Complete Λ_s_l13Complete Tryz.f115.ntmps (nthLoop Tryz.f115 2) (mkF Tryz.f115.ntmps [1, 3, 4, 5, 6] (.pair (.box TMedl) (.pair (.int .i64) (.pair (.int .i64) TCrc))) x) (readK σ_s_l13Complete Tryz.f115.ntmps [1, 3, 4, 5, 6] (.pair (.box TMedl) (.pair (.int .i64) (.pair (.int .i64) TCrc))) 4 [1, 3, 4, 5] (.pair (.box TMedl) (.pair (.int .i64) TCrc)) [2] (.pair .bool .unit)) = b_s_l13Complete_9 x := by kernel_rfl
theorem ok_s_l13Complete : FnOK G0 Tryz.prog 115 S_s_l13Complete := fn_ok (Λ := Λ_s_l13Complete) tab0 σok_s_l13Complete Tryz.func115 (by kernel_rfl) (show Tryz.f115.body = some (bodyOf Tryz.f115) by kernel_rfl) [⟨[1, 3, 4], (.pair (.box TMedl) TCrc), 0, [1, 3], (.pair (.box TMedl) (.pair (.int .i64) .unit)), [2], (.pair .bool .unit), loopL b_s_l13Complete_3⟩, ⟨[1, 3, 4, 5], (.pair (.box TMedl) (.pair (.int .i64) TCrc)), 2, [1, 3, 4], (.pair (.box TMedl) TCrc), [2], (.pair .bool .unit), loopL b_s_l13Complete_6⟩, ⟨[1, 3, 4, 5, 6], (.pair (.box TMedl) (.pair (.int .i64) (.pair (.int .i64) TCrc))), 4, [1, 3, 4, 5], (.pair (.box TMedl) (.pair (.int .i64) TCrc)), [2], (.pair .bool .unit), loopL b_s_l13Complete_9⟩] rfl (by kernel_rfl) (by exact ⟨loop_LOK (lok_s_l13Complete_3), loop_LOK (lok_s_l13Complete_6), loop_LOK (lok_s_l13Complete_9), trivial⟩) (by kernel_rfl)
  fun x y h => (show execFn Γ0 E0 σ_s_l13Complete Λ_s_l13Complete Tryz.f115 S_s_l13Complete x = s_l13Complete x by kernel_rfl).trans h

noncomputable def s_l05Has (x : Ty.T TCrc) : Option (Ty.T (.pair .bool .unit)) :=
if (IntKind.u64.wrap x.2.1) < 0 then none else
some (((bits BinOp.and .i64 (Int.fdiv x.1 (2 ^ min (IntKind.u64.wrap x.2.1).toNat IntKind.i64.bits)) (1 : Int)) == (1 : Int)), ())
noncomputable def S_s_l05Has : Spec := ⟨TCrc, (.pair .bool .unit), .unit, rfl, s_l05Has⟩
noncomputable def σ_s_l05Has : FuncId → Option Spec := sig []
theorem σok_s_l05Has : ∀ f s, σ_s_l05Has f = some s → FnOK G0 Tryz.prog f s := sig_ok (l := []) trivial
noncomputable def Λ_s_l05Has : Nat → Option LSpec := lkp (loopList (bodyOf Tryz.f169)) []
theorem ok_s_l05Has : FnOK G0 Tryz.prog 169 S_s_l05Has := fn_ok (Λ := Λ_s_l05Has) tab0 σok_s_l05Has Tryz.func169 (by kernel_rfl) (show Tryz.f169.body = some (bodyOf Tryz.f169) by kernel_rfl) [] rfl (by kernel_rfl) (by exact trivial) (by kernel_rfl)
  fun x y h => (show execFn Γ0 E0 σ_s_l05Has Λ_s_l05Has Tryz.f169 S_s_l05Has x = s_l05Has x by kernel_rfl).trans h

noncomputable def s_l05Set (x : Ty.T (.pair (.int .i64) (.pair (.int .i64) (.pair .bool .unit)))) : Option (Ty.T (.pair (.int .i64) .unit)) :=
match s_l05Has (x.1, x.2.1, ()) with
| none => none
| some v1 =>
match (v1.1 == x.2.2.1) with
| true =>
 some (x.1, ())
| false =>
 if (IntKind.u64.wrap x.2.1) < 0 then none else
 some ((bits BinOp.xor .i64 x.1 (IntKind.i64.wrap ((1 : Int) * 2 ^ min (IntKind.u64.wrap x.2.1).toNat IntKind.i64.bits))), ())
noncomputable def S_s_l05Set : Spec := ⟨(.pair (.int .i64) (.pair (.int .i64) (.pair .bool .unit))), (.pair (.int .i64) .unit), .unit, rfl, s_l05Set⟩
noncomputable def σ_s_l05Set : FuncId → Option Spec := sig [(169, S_s_l05Has)]
theorem σok_s_l05Set : ∀ f s, σ_s_l05Set f = some s → FnOK G0 Tryz.prog f s := sig_ok (l := [(169, S_s_l05Has)]) ⟨ok_s_l05Has, trivial⟩
noncomputable def Λ_s_l05Set : Nat → Option LSpec := lkp (loopList (bodyOf Tryz.f120)) []
theorem ok_s_l05Set : FnOK G0 Tryz.prog 120 S_s_l05Set := fn_ok (Λ := Λ_s_l05Set) tab0 σok_s_l05Set Tryz.func120 (by kernel_rfl) (show Tryz.f120.body = some (bodyOf Tryz.f120) by kernel_rfl) [] rfl (by kernel_rfl) (by exact trivial) (by kernel_rfl)
  fun x y h => (show execFn Γ0 E0 σ_s_l05Set Λ_s_l05Set Tryz.f120 S_s_l05Set x = s_l05Set x by kernel_rfl).trans h

noncomputable def b_s_l10Active_3 (x : (Ty.T (.pair (.list TNodeInfo) TCrc))) : Option ((Ty.T (.pair (.list TNodeInfo) TCrc)) ⊕ ((Ty.T (.pair (.int .i64) .unit)) ⊕ (Ty.T .unit))) :=
match (decide (x.2.2.1 < (x.1.length : Int))) with
| true =>
 onSome (idx x.1 x.2.2.1) fun v1 =>
 match (!v1.2.2.2.1) with
 | true =>
  onSome (idx x.1 x.2.2.1) fun v2 =>
  match s_l05Set (x.2.1, v2.1, true, ()) with
  | none => none
  | some v3 =>
  some (.inl (x.1, v3.1, (IntKind.i64.wrap (x.2.2.1 + (1 : Int))), ()))
 | false =>
  some (.inl (x.1, x.2.1, (IntKind.i64.wrap (x.2.2.1 + (1 : Int))), ()))
| false =>
 some (.inr (.inl (x.2.1, ())))
noncomputable def s_l10Active (x : Ty.T (.pair (.list TNodeInfo) .unit)) : Option (Ty.T (.pair (.int .i64) .unit)) :=
match loopL b_s_l10Active_3 (x.1, (0 : Int), (0 : Int), ()) with
| none => none
| some (.inl v4) =>
 some (v4.1, ())
| some (.inr v6) =>
 none
noncomputable def S_s_l10Active : Spec := ⟨(.pair (.list TNodeInfo) .unit), (.pair (.int .i64) .unit), .unit, rfl, s_l10Active⟩
noncomputable def σ_s_l10Active : FuncId → Option Spec := sig [(120, S_s_l05Set)]
theorem σok_s_l10Active : ∀ f s, σ_s_l10Active f = some s → FnOK G0 Tryz.prog f s := sig_ok (l := [(120, S_s_l05Set)]) ⟨ok_s_l05Set, trivial⟩
noncomputable def Λ_s_l10Active : Nat → Option LSpec := lkp (loopList (bodyOf Tryz.f86)) [⟨[0, 3, 4], (.pair (.list TNodeInfo) TCrc), 0, [3], (.pair (.int .i64) .unit), [], .unit, loopL b_s_l10Active_3⟩]
theorem lok_s_l10Active_3 (x) : codeK Γ0 E0 σ_s_l10Active Λ_s_l10Active Tryz.f86.ntmps (nthLoop Tryz.f86 0) (mkF Tryz.f86.ntmps [0, 3, 4] (.pair (.list TNodeInfo) TCrc) x) (readK σ_s_l10Active Tryz.f86.ntmps [0, 3, 4] (.pair (.list TNodeInfo) TCrc) 0 [3] (.pair (.int .i64) .unit) [] .unit) = b_s_l10Active_3 x := by kernel_rfl
theorem ok_s_l10Active : FnOK G0 Tryz.prog 86 S_s_l10Active := fn_ok (Λ := Λ_s_l10Active) tab0 σok_s_l10Active Tryz.func86 (by kernel_rfl) (show Tryz.f86.body = some (bodyOf Tryz.f86) by kernel_rfl) [⟨[0, 3, 4], (.pair (.list TNodeInfo) TCrc), 0, [3], (.pair (.int .i64) .unit), [], .unit, loopL b_s_l10Active_3⟩] rfl (by kernel_rfl) (by exact ⟨loop_LOK (lok_s_l10Active_3), trivial⟩) (by kernel_rfl)
  fun x y h => (show execFn Γ0 E0 σ_s_l10Active Λ_s_l10Active Tryz.f86 S_s_l10Active x = s_l10Active x by kernel_rfl).trans h

noncomputable def b_s_l13Senders_3 (x : (Ty.T (.pair (.box TMedl) TCrc))) : Option ((Ty.T (.pair (.box TMedl) TCrc)) ⊕ ((Ty.T .unit) ⊕ (Ty.T (.pair .bool .unit)))) :=
match (decide (x.2.2.1 < (x.1.2.2.2.1.length : Int))) with
| true =>
 onSome (idx x.1.2.2.2.1 x.2.2.1) fun v2 =>
 match s_l05Has (x.2.1, v2.2.2.2.1.1, ()) with
 | none => none
 | some v3 =>
 match (!v3.1) with
 | true =>
  some (.inr (.inr (false, ())))
 | false =>
  some (.inl ((x.1.1, x.1.2.1, x.1.2.2.1, x.1.2.2.2.1, ()), x.2.1, (IntKind.i64.wrap (x.2.2.1 + (1 : Int))), ()))
| false =>
 some (.inr (.inl (())))
noncomputable def s_l13Senders (x : Ty.T (.pair TMedl .unit)) : Option (Ty.T (.pair .bool .unit)) :=
match s_l10Active (x.1.2.1, ()) with
| none => none
| some v1 =>
match loopL b_s_l13Senders_3 ((x.1.1, x.1.2.1, x.1.2.2.1, x.1.2.2.2.1, ()), v1.1, (0 : Int), ()) with
| none => none
| some (.inl v4) =>
 some (true, ())
| some (.inr v5) =>
 some (v5.1, ())
noncomputable def S_s_l13Senders : Spec := ⟨(.pair TMedl .unit), (.pair .bool .unit), .unit, rfl, s_l13Senders⟩
noncomputable def σ_s_l13Senders : FuncId → Option Spec := sig [(86, S_s_l10Active), (169, S_s_l05Has)]
theorem σok_s_l13Senders : ∀ f s, σ_s_l13Senders f = some s → FnOK G0 Tryz.prog f s := sig_ok (l := [(86, S_s_l10Active), (169, S_s_l05Has)]) ⟨ok_s_l10Active, ok_s_l05Has, trivial⟩
noncomputable def Λ_s_l13Senders : Nat → Option LSpec := lkp (loopList (bodyOf Tryz.f116)) [⟨[1, 3, 4], (.pair (.box TMedl) TCrc), 0, [], .unit, [2], (.pair .bool .unit), loopL b_s_l13Senders_3⟩]
theorem lok_s_l13Senders_3 (x) : codeK Γ0 E0 σ_s_l13Senders Λ_s_l13Senders Tryz.f116.ntmps (nthLoop Tryz.f116 0) (mkF Tryz.f116.ntmps [1, 3, 4] (.pair (.box TMedl) TCrc) x) (readK σ_s_l13Senders Tryz.f116.ntmps [1, 3, 4] (.pair (.box TMedl) TCrc) 0 [] .unit [2] (.pair .bool .unit)) = b_s_l13Senders_3 x := by kernel_rfl
theorem ok_s_l13Senders : FnOK G0 Tryz.prog 116 S_s_l13Senders := fn_ok (Λ := Λ_s_l13Senders) tab0 σok_s_l13Senders Tryz.func116 (by kernel_rfl) (show Tryz.f116.body = some (bodyOf Tryz.f116) by kernel_rfl) [⟨[1, 3, 4], (.pair (.box TMedl) TCrc), 0, [], .unit, [2], (.pair .bool .unit), loopL b_s_l13Senders_3⟩] rfl (by kernel_rfl) (by exact ⟨loop_LOK (lok_s_l13Senders_3), trivial⟩) (by kernel_rfl)
  fun x y h => (show execFn Γ0 E0 σ_s_l13Senders Λ_s_l13Senders Tryz.f116 S_s_l13Senders x = s_l13Senders x by kernel_rfl).trans h

noncomputable def b_s_l13Durations_5 (x : (Ty.T (.pair (.ptr TMedl) TCrc))) : Option ((Ty.T (.pair (.ptr TMedl) TCrc)) ⊕ ((Ty.T (.pair (.ptr TMedl) (.pair (.int .i64) .unit))) ⊕ (Ty.T (.pair .bool .unit)))) :=
match (decide (x.2.2.1 < x.2.1)) with
| true =>
 onSome (idx x.1.2.2.2.1 x.2.1) fun v1 =>
 onSome (idx x.1.2.2.2.1 x.2.2.1) fun v2 =>
 same (
  match (v1.1 == v2.1) with
  | true =>
   match (v1.2.2.1 == v2.2.2.1) with
   | true =>
    match (v1.2.2.2.1.2.2.2.1 != v2.2.2.2.1.2.2.2.1) with
    | true =>
     some (.inr (.inr (false, ())))
    | false =>
     some (.inl (x.1, x.2.1, (IntKind.i64.wrap (x.2.2.1 + (1 : Int))), ()))
   | false =>
    some (.inl (x.1, x.2.1, (IntKind.i64.wrap (x.2.2.1 + (1 : Int))), ()))
  | false =>
   some (.inl (x.1, x.2.1, (IntKind.i64.wrap (x.2.2.1 + (1 : Int))), ())))
| false =>
 some (.inr (.inl (x.1, x.2.1, ())))
noncomputable def b_s_l13Durations_2 (x : (Ty.T (.pair (.ptr TMedl) (.pair (.int .i64) .unit)))) : Option ((Ty.T (.pair (.ptr TMedl) (.pair (.int .i64) .unit))) ⊕ ((Ty.T .unit) ⊕ (Ty.T (.pair .bool .unit)))) :=
match (decide (x.2.1 < (x.1.2.2.2.1.length : Int))) with
| true =>
 match loopL b_s_l13Durations_5 (x.1, x.2.1, (0 : Int), ()) with
 | none => none
 | some (.inl v1) =>
  some (.inl (v1.1, (IntKind.i64.wrap (v1.2.1 + (1 : Int))), ()))
 | some (.inr v2) =>
  some (.inr (.inr (v2.1, ())))
| false =>
 some (.inr (.inl (())))
noncomputable def s_l13Durations (x : Ty.T (.pair TMedl .unit)) : Option (Ty.T (.pair .bool .unit)) :=
match loopL b_s_l13Durations_2 ((x.1.1, x.1.2.1, x.1.2.2.1, x.1.2.2.2.1, ()), (0 : Int), ()) with
| none => none
| some (.inl v3) =>
 some (true, ())
| some (.inr v4) =>
 some (v4.1, ())
noncomputable def S_s_l13Durations : Spec := ⟨(.pair TMedl .unit), (.pair .bool .unit), .unit, rfl, s_l13Durations⟩
noncomputable def σ_s_l13Durations : FuncId → Option Spec := sig []
theorem σok_s_l13Durations : ∀ f s, σ_s_l13Durations f = some s → FnOK G0 Tryz.prog f s := sig_ok (l := []) trivial
noncomputable def Λ_s_l13Durations : Nat → Option LSpec := lkp (loopList (bodyOf Tryz.f117)) [⟨[1, 3], (.pair (.ptr TMedl) (.pair (.int .i64) .unit)), 0, [], .unit, [2], (.pair .bool .unit), loopL b_s_l13Durations_2⟩, ⟨[1, 3, 4], (.pair (.ptr TMedl) TCrc), 2, [1, 3], (.pair (.ptr TMedl) (.pair (.int .i64) .unit)), [2], (.pair .bool .unit), loopL b_s_l13Durations_5⟩]
theorem lok_s_l13Durations_2 (x) : codeK Γ0 E0 σ_s_l13Durations Λ_s_l13Durations Tryz.f117.ntmps (nthLoop Tryz.f117 0) (mkF Tryz.f117.ntmps [1, 3] (.pair (.ptr TMedl) (.pair (.int .i64) .unit)) x) (readK σ_s_l13Durations Tryz.f117.ntmps [1, 3] (.pair (.ptr TMedl) (.pair (.int .i64) .unit)) 0 [] .unit [2] (.pair .bool .unit)) = b_s_l13Durations_2 x := by kernel_rfl
theorem lok_s_l13Durations_5 (x) : codeK Γ0 E0 σ_s_l13Durations Λ_s_l13Durations Tryz.f117.ntmps (nthLoop Tryz.f117 1) (mkF Tryz.f117.ntmps [1, 3, 4] (.pair (.ptr TMedl) TCrc) x) (readK σ_s_l13Durations Tryz.f117.ntmps [1, 3, 4] (.pair (.ptr TMedl) TCrc) 2 [1, 3] (.pair (.ptr TMedl) (.pair (.int .i64) .unit)) [2] (.pair .bool .unit)) = b_s_l13Durations_5 x := by kernel_rfl
theorem ok_s_l13Durations : FnOK G0 Tryz.prog 117 S_s_l13Durations := fn_ok (Λ := Λ_s_l13Durations) tab0 σok_s_l13Durations Tryz.func117 (by kernel_rfl) (show Tryz.f117.body = some (bodyOf Tryz.f117) by kernel_rfl) [⟨[1, 3], (.pair (.ptr TMedl) (.pair (.int .i64) .unit)), 0, [], .unit, [2], (.pair .bool .unit), loopL b_s_l13Durations_2⟩, ⟨[1, 3, 4], (.pair (.ptr TMedl) TCrc), 2, [1, 3], (.pair (.ptr TMedl) (.pair (.int .i64) .unit)), [2], (.pair .bool .unit), loopL b_s_l13Durations_5⟩] rfl (by kernel_rfl) (by exact ⟨loop_LOK (lok_s_l13Durations_2), loop_LOK (lok_s_l13Durations_5), trivial⟩) (by kernel_rfl)
  fun x y h => (show execFn Γ0 E0 σ_s_l13Durations Λ_s_l13Durations Tryz.f117 S_s_l13Durations x = s_l13Durations x by kernel_rfl).trans h

noncomputable def b_s_l13Cycle_3 (x : (Ty.T (.pair (.int .i64) (.pair (.box TMedl) TCrc)))) : Option ((Ty.T (.pair (.int .i64) (.pair (.box TMedl) TCrc))) ⊕ ((Ty.T (.pair (.int .i64) .unit)) ⊕ (Ty.T .unit))) :=
match (decide (x.2.2.2.1 < (x.2.1.2.2.2.1.length : Int))) with
| true =>
 onSome (idx x.2.1.2.2.2.1 x.2.2.2.1) fun v1 =>
 match (v1.1 == x.1) with
 | true =>
  onSome (idx x.2.1.2.2.2.1 x.2.2.2.1) fun v2 =>
  some (.inl (x.1, (x.2.1.1, x.2.1.2.1, x.2.1.2.2.1, x.2.1.2.2.2.1, ()), (IntKind.i64.wrap (x.2.2.1 + v2.2.2.2.1.2.2.2.1)), (IntKind.i64.wrap (x.2.2.2.1 + (1 : Int))), ()))
 | false =>
  some (.inl (x.1, (x.2.1.1, x.2.1.2.1, x.2.1.2.2.1, x.2.1.2.2.2.1, ()), x.2.2.1, (IntKind.i64.wrap (x.2.2.2.1 + (1 : Int))), ()))
| false =>
 some (.inr (.inl (x.2.2.1, ())))
noncomputable def s_l13Cycle (x : Ty.T (.pair TMedl (.pair (.int .i64) .unit))) : Option (Ty.T (.pair (.int .i64) .unit)) :=
match loopL b_s_l13Cycle_3 (x.2.1, (x.1.1, x.1.2.1, x.1.2.2.1, x.1.2.2.2.1, ()), (0 : Int), (0 : Int), ()) with
| none => none
| some (.inl v3) =>
 some (v3.1, ())
| some (.inr v5) =>
 none
noncomputable def S_s_l13Cycle : Spec := ⟨(.pair TMedl (.pair (.int .i64) .unit)), (.pair (.int .i64) .unit), .unit, rfl, s_l13Cycle⟩
noncomputable def σ_s_l13Cycle : FuncId → Option Spec := sig []
theorem σok_s_l13Cycle : ∀ f s, σ_s_l13Cycle f = some s → FnOK G0 Tryz.prog f s := sig_ok (l := []) trivial
noncomputable def Λ_s_l13Cycle : Nat → Option LSpec := lkp (loopList (bodyOf Tryz.f118)) [⟨[1, 2, 5, 6], (.pair (.int .i64) (.pair (.box TMedl) TCrc)), 0, [5], (.pair (.int .i64) .unit), [], .unit, loopL b_s_l13Cycle_3⟩]
theorem lok_s_l13Cycle_3 (x) : codeK Γ0 E0 σ_s_l13Cycle Λ_s_l13Cycle Tryz.f118.ntmps (nthLoop Tryz.f118 0) (mkF Tryz.f118.ntmps [1, 2, 5, 6] (.pair (.int .i64) (.pair (.box TMedl) TCrc)) x) (readK σ_s_l13Cycle Tryz.f118.ntmps [1, 2, 5, 6] (.pair (.int .i64) (.pair (.box TMedl) TCrc)) 0 [5] (.pair (.int .i64) .unit) [] .unit) = b_s_l13Cycle_3 x := by kernel_rfl
theorem ok_s_l13Cycle : FnOK G0 Tryz.prog 118 S_s_l13Cycle := fn_ok (Λ := Λ_s_l13Cycle) tab0 σok_s_l13Cycle Tryz.func118 (by kernel_rfl) (show Tryz.f118.body = some (bodyOf Tryz.f118) by kernel_rfl) [⟨[1, 2, 5, 6], (.pair (.int .i64) (.pair (.box TMedl) TCrc)), 0, [5], (.pair (.int .i64) .unit), [], .unit, loopL b_s_l13Cycle_3⟩] rfl (by kernel_rfl) (by exact ⟨loop_LOK (lok_s_l13Cycle_3), trivial⟩) (by kernel_rfl)
  fun x y h => (show execFn Γ0 E0 σ_s_l13Cycle Λ_s_l13Cycle Tryz.f118 S_s_l13Cycle x = s_l13Cycle x by kernel_rfl).trans h

noncomputable def b_s_l13Served_10 (x : (Ty.T (.pair (.box TMedl) TState))) : Option ((Ty.T (.pair (.box TMedl) TState)) ⊕ ((Ty.T (.pair (.box TMedl) (.pair (.int .i64) (.pair (.int .i64) TCrc)))) ⊕ (Ty.T .unit))) :=
match (decide (x.2.2.2.2.2.1 < (x.1.2.2.2.1.length : Int))) with
| true =>
 onSome (idx x.1.2.2.2.1 x.2.2.2.2.2.1) fun v3 =>
 match (v3.1 == x.2.2.1) with
 | true =>
  onSome (idx x.1.2.2.2.1 x.2.2.2.2.2.1) fun v4 =>
  match (v4.2.1 == x.2.2.2.1) with
  | true =>
   onSome (idx x.1.2.2.2.1 x.2.2.2.2.2.1) fun v5 =>
   match s_l05Set (x.2.2.2.2.1, v5.2.2.2.1.1, true, ()) with
   | none => none
   | some v6 =>
   some (.inl ((x.1.1, x.1.2.1, x.1.2.2.1, x.1.2.2.2.1, ()), x.2.1, x.2.2.1, x.2.2.2.1, v6.1, (IntKind.i64.wrap (x.2.2.2.2.2.1 + (1 : Int))), ()))
  | false =>
   some (.inl ((x.1.1, x.1.2.1, x.1.2.2.1, x.1.2.2.2.1, ()), x.2.1, x.2.2.1, x.2.2.2.1, x.2.2.2.2.1, (IntKind.i64.wrap (x.2.2.2.2.2.1 + (1 : Int))), ()))
 | false =>
  some (.inl ((x.1.1, x.1.2.1, x.1.2.2.1, x.1.2.2.2.1, ()), x.2.1, x.2.2.1, x.2.2.2.1, x.2.2.2.2.1, (IntKind.i64.wrap (x.2.2.2.2.2.1 + (1 : Int))), ()))
| false =>
 some (.inr (.inl ((x.1.1, x.1.2.1, x.1.2.2.1, x.1.2.2.2.1, ()), x.2.1, x.2.2.1, x.2.2.2.1, x.2.2.2.2.1, ())))
noncomputable def b_s_l13Served_6 (x : (Ty.T (.pair (.box TMedl) (.pair (.int .i64) TCrc)))) : Option ((Ty.T (.pair (.box TMedl) (.pair (.int .i64) TCrc))) ⊕ ((Ty.T (.pair (.box TMedl) TCrc)) ⊕ (Ty.T (.pair .bool .unit)))) :=
onSome (idx x.1.2.2.1 x.2.2.1) fun v2 =>
match (decide (x.2.2.2.1 < v2.1)) with
| true =>
 match loopL b_s_l13Served_10 ((x.1.1, x.1.2.1, x.1.2.2.1, x.1.2.2.2.1, ()), x.2.1, x.2.2.1, x.2.2.2.1, (0 : Int), (0 : Int), ()) with
 | none => none
 | some (.inl v3) =>
  match (v3.2.2.2.2.1 != v3.2.1) with
  | true =>
   some (.inr (.inr (false, ())))
  | false =>
   some (.inl ((v3.1.1, v3.1.2.1, v3.1.2.2.1, v3.1.2.2.2.1, ()), v3.2.1, v3.2.2.1, (IntKind.i64.wrap (v3.2.2.2.1 + (1 : Int))), ()))
 | some (.inr v5) =>
  none
| false =>
 some (.inr (.inl ((x.1.1, x.1.2.1, x.1.2.2.1, x.1.2.2.2.1, ()), x.2.1, x.2.2.1, ())))
noncomputable def b_s_l13Served_3 (x : (Ty.T (.pair (.box TMedl) TCrc))) : Option ((Ty.T (.pair (.box TMedl) TCrc)) ⊕ ((Ty.T .unit) ⊕ (Ty.T (.pair .bool .unit)))) :=
match (decide (x.2.2.1 < (x.1.2.2.1.length : Int))) with
| true =>
 match loopL b_s_l13Served_6 ((x.1.1, x.1.2.1, x.1.2.2.1, x.1.2.2.2.1, ()), x.2.1, x.2.2.1, (0 : Int), ()) with
 | none => none
 | some (.inl v2) =>
  some (.inl ((v2.1.1, v2.1.2.1, v2.1.2.2.1, v2.1.2.2.2.1, ()), v2.2.1, (IntKind.i64.wrap (v2.2.2.1 + (1 : Int))), ()))
 | some (.inr v3) =>
  some (.inr (.inr (v3.1, ())))
| false =>
 some (.inr (.inl (())))
noncomputable def s_l13Served (x : Ty.T (.pair TMedl .unit)) : Option (Ty.T (.pair .bool .unit)) :=
match s_l10Active (x.1.2.1, ()) with
| none => none
| some v1 =>
match loopL b_s_l13Served_3 ((x.1.1, x.1.2.1, x.1.2.2.1, x.1.2.2.2.1, ()), v1.1, (0 : Int), ()) with
| none => none
| some (.inl v4) =>
 some (true, ())
| some (.inr v5) =>
 some (v5.1, ())
noncomputable def S_s_l13Served : Spec := ⟨(.pair TMedl .unit), (.pair .bool .unit), .unit, rfl, s_l13Served⟩
noncomputable def σ_s_l13Served : FuncId → Option Spec := sig [(86, S_s_l10Active), (120, S_s_l05Set)]
theorem σok_s_l13Served : ∀ f s, σ_s_l13Served f = some s → FnOK G0 Tryz.prog f s := sig_ok (l := [(86, S_s_l10Active), (120, S_s_l05Set)]) ⟨ok_s_l10Active, ok_s_l05Set, trivial⟩
noncomputable def Λ_s_l13Served : Nat → Option LSpec := lkp (loopList (bodyOf Tryz.f119)) [⟨[1, 3, 4], (.pair (.box TMedl) TCrc), 0, [], .unit, [2], (.pair .bool .unit), loopL b_s_l13Served_3⟩, ⟨[1, 3, 4, 5], (.pair (.box TMedl) (.pair (.int .i64) TCrc)), 2, [1, 3, 4], (.pair (.box TMedl) TCrc), [2], (.pair .bool .unit), loopL b_s_l13Served_6⟩, ⟨[1, 3, 4, 5, 6, 7], (.pair (.box TMedl) TState), 4, [1, 3, 4, 5, 6], (.pair (.box TMedl) (.pair (.int .i64) (.pair (.int .i64) TCrc))), [], .unit, loopL b_s_l13Served_10⟩]
theorem lok_s_l13Served_3 (x) : codeK Γ0 E0 σ_s_l13Served Λ_s_l13Served Tryz.f119.ntmps (nthLoop Tryz.f119 0) (mkF Tryz.f119.ntmps [1, 3, 4] (.pair (.box TMedl) TCrc) x) (readK σ_s_l13Served Tryz.f119.ntmps [1, 3, 4] (.pair (.box TMedl) TCrc) 0 [] .unit [2] (.pair .bool .unit)) = b_s_l13Served_3 x := by kernel_rfl
theorem lok_s_l13Served_6 (x) : codeK Γ0 E0 σ_s_l13Served Λ_s_l13Served Tryz.f119.ntmps (nthLoop Tryz.f119 1) (mkF Tryz.f119.ntmps [1, 3, 4, 5] (.pair (.box TMedl) (.pair (.int .i64) TCrc)) x) (readK σ_s_l13Served Tryz.f119.ntmps [1, 3, 4, 5] (.pair (.box TMedl) (.pair (.int .i64) TCrc)) 2 [1, 3, 4] (.pair (.box TMedl) TCrc) [2] (.pair .bool .unit)) = b_s_l13Served_6 x := by kernel_rfl
theorem lok_s_l13Served_10 (x) : codeK Γ0 E0 σ_s_l13Served Λ_s_l13Served Tryz.f119.ntmps (nthLoop Tryz.f119 2) (mkF Tryz.f119.ntmps [1, 3, 4, 5, 6, 7] (.pair (.box TMedl) TState) x) (readK σ_s_l13Served Tryz.f119.ntmps [1, 3, 4, 5, 6, 7] (.pair (.box TMedl) TState) 4 [1, 3, 4, 5, 6] (.pair (.box TMedl) (.pair (.int .i64) (.pair (.int .i64) TCrc))) [] .unit) = b_s_l13Served_10 x := by kernel_rfl
theorem ok_s_l13Served : FnOK G0 Tryz.prog 119 S_s_l13Served := fn_ok (Λ := Λ_s_l13Served) tab0 σok_s_l13Served Tryz.func119 (by kernel_rfl) (show Tryz.f119.body = some (bodyOf Tryz.f119) by kernel_rfl) [⟨[1, 3, 4], (.pair (.box TMedl) TCrc), 0, [], .unit, [2], (.pair .bool .unit), loopL b_s_l13Served_3⟩, ⟨[1, 3, 4, 5], (.pair (.box TMedl) (.pair (.int .i64) TCrc)), 2, [1, 3, 4], (.pair (.box TMedl) TCrc), [2], (.pair .bool .unit), loopL b_s_l13Served_6⟩, ⟨[1, 3, 4, 5, 6, 7], (.pair (.box TMedl) TState), 4, [1, 3, 4, 5, 6], (.pair (.box TMedl) (.pair (.int .i64) (.pair (.int .i64) TCrc))), [], .unit, loopL b_s_l13Served_10⟩] rfl (by kernel_rfl) (by exact ⟨loop_LOK (lok_s_l13Served_3), loop_LOK (lok_s_l13Served_6), loop_LOK (lok_s_l13Served_10), trivial⟩) (by kernel_rfl)
  fun x y h => (show execFn Γ0 E0 σ_s_l13Served Λ_s_l13Served Tryz.f119 S_s_l13Served x = s_l13Served x by kernel_rfl).trans h

noncomputable def b_s_FirstFault_16 (x : (Ty.T (.pair (.box TMedl) (.pair (.int .i64) .unit)))) : Option ((Ty.T (.pair (.box TMedl) (.pair (.int .i64) .unit))) ⊕ ((Ty.T (.pair (.box TMedl) .unit)) ⊕ (Ty.T (.pair (.int .i64) .unit)))) :=
match (decide (x.2.1 < (x.1.2.2.1.length : Int))) with
| true =>
 match s_l13Cycle ((x.1.1, x.1.2.1, x.1.2.2.1, x.1.2.2.2.1, ()), x.2.1, ()) with
 | none => none
 | some v8 =>
 match (decide (v8.1 > (32000 : Int))) with
 | true =>
  some (.inr (.inr ((8 : Int), ())))
 | false =>
  some (.inl ((x.1.1, x.1.2.1, x.1.2.2.1, x.1.2.2.2.1, ()), (IntKind.i64.wrap (x.2.1 + (1 : Int))), ()))
| false =>
 some (.inr (.inl ((x.1.1, x.1.2.1, x.1.2.2.1, x.1.2.2.2.1, ()), ())))
noncomputable def b_s_FirstFault_23 (x : (Ty.T (.pair (.box TMedl) (.pair (.int .i64) .unit)))) : Option ((Ty.T (.pair (.box TMedl) (.pair (.int .i64) .unit))) ⊕ ((Ty.T .unit) ⊕ (Ty.T (.pair (.int .i64) .unit)))) :=
match (decide (x.2.1 < (x.1.2.2.2.1.length : Int))) with
| true =>
 onSome (idx x.1.2.2.2.1 x.2.1) fun v12 =>
 match (v12.2.2.2.1.2.1 == (3 : Int)) with
 | true =>
  onSome (idx x.1.2.2.2.1 x.2.1) fun v13 =>
  match (v13.1 != (0 : Int)) with
  | true =>
   some (.inr (.inr ((10 : Int), ())))
  | false =>
   some (.inl ((x.1.1, x.1.2.1, x.1.2.2.1, x.1.2.2.2.1, ()), (IntKind.i64.wrap (x.2.1 + (1 : Int))), ()))
 | false =>
  some (.inl ((x.1.1, x.1.2.1, x.1.2.2.1, x.1.2.2.2.1, ()), (IntKind.i64.wrap (x.2.1 + (1 : Int))), ()))
| false =>
 some (.inr (.inl (())))
noncomputable def s_FirstFault (x : Ty.T (.pair TMedl .unit)) : Option (Ty.T (.pair (.int .i64) .unit)) :=
match s_l01In (x.1.1, (1 : Int), (16777215 : Int), ()) with
| none => none
| some v1 =>
match (!v1.1) with
| true =>
 some ((1 : Int), ())
| false =>
 match s_IsNodeTable (x.1.2.1, ()) with
 | none => none
 | some v2 =>
 match (!v2.1) with
 | true =>
  some ((2 : Int), ())
 | false =>
  match s_IsModeTable (x.1.2.2.1, ()) with
  | none => none
  | some v3 =>
  match (!v3.1) with
  | true =>
   some ((3 : Int), ())
  | false =>
   match s_IsSlotTable (x.1.2.2.2.1, ()) with
   | none => none
   | some v4 =>
   match (!v4.1) with
   | true =>
    some ((4 : Int), ())
   | false =>
    match s_l13Complete ((x.1.1, x.1.2.1, x.1.2.2.1, x.1.2.2.2.1, ()), ()) with
    | none => none
    | some v5 =>
    match (!v5.1) with
    | true =>
     some ((5 : Int), ())
    | false =>
     match s_l13Senders ((x.1.1, x.1.2.1, x.1.2.2.1, x.1.2.2.2.1, ()), ()) with
     | none => none
     | some v6 =>
     match (!v6.1) with
     | true =>
      some ((6 : Int), ())
     | false =>
      match s_l13Durations ((x.1.1, x.1.2.1, x.1.2.2.1, x.1.2.2.2.1, ()), ()) with
      | none => none
      | some v7 =>
      match (!v7.1) with
      | true =>
       some ((7 : Int), ())
      | false =>
       match loopL b_s_FirstFault_16 ((x.1.1, x.1.2.1, x.1.2.2.1, x.1.2.2.2.1, ()), (0 : Int), ()) with
       | none => none
       | some (.inl v9) =>
        match s_l13Served ((v9.1.1, v9.1.2.1, v9.1.2.2.1, v9.1.2.2.2.1, ()), ()) with
        | none => none
        | some v11 =>
        match (!v11.1) with
        | true =>
         some ((9 : Int), ())
        | false =>
         match loopL b_s_FirstFault_23 ((v9.1.1, v9.1.2.1, v9.1.2.2.1, v9.1.2.2.2.1, ()), (0 : Int), ()) with
         | none => none
         | some (.inl v14) =>
          some ((0 : Int), ())
         | some (.inr v15) =>
          some (v15.1, ())
       | some (.inr v10) =>
        some (v10.1, ())
noncomputable def S_s_FirstFault : Spec := ⟨(.pair TMedl .unit), (.pair (.int .i64) .unit), .unit, rfl, s_FirstFault⟩
noncomputable def σ_s_FirstFault : FuncId → Option Spec := sig [(87, S_s_l01In), (112, S_s_IsNodeTable), (113, S_s_IsModeTable), (114, S_s_IsSlotTable), (115, S_s_l13Complete), (116, S_s_l13Senders), (117, S_s_l13Durations), (118, S_s_l13Cycle), (119, S_s_l13Served)]
theorem σok_s_FirstFault : ∀ f s, σ_s_FirstFault f = some s → FnOK G0 Tryz.prog f s := sig_ok (l := [(87, S_s_l01In), (112, S_s_IsNodeTable), (113, S_s_IsModeTable), (114, S_s_IsSlotTable), (115, S_s_l13Complete), (116, S_s_l13Senders), (117, S_s_l13Durations), (118, S_s_l13Cycle), (119, S_s_l13Served)]) ⟨ok_s_l01In, ok_s_IsNodeTable, ok_s_IsModeTable, ok_s_IsSlotTable, ok_s_l13Complete, ok_s_l13Senders, ok_s_l13Durations, ok_s_l13Cycle, ok_s_l13Served, trivial⟩
noncomputable def Λ_s_FirstFault : Nat → Option LSpec := lkp (loopList (bodyOf Tryz.f83)) [⟨[1, 3], (.pair (.box TMedl) (.pair (.int .i64) .unit)), 1, [1], (.pair (.box TMedl) .unit), [2], (.pair (.int .i64) .unit), loopL b_s_FirstFault_16⟩, ⟨[1, 4], (.pair (.box TMedl) (.pair (.int .i64) .unit)), 3, [], .unit, [2], (.pair (.int .i64) .unit), loopL b_s_FirstFault_23⟩]
theorem lok_s_FirstFault_16 (x) : codeK Γ0 E0 σ_s_FirstFault Λ_s_FirstFault Tryz.f83.ntmps (nthLoop Tryz.f83 0) (mkF Tryz.f83.ntmps [1, 3] (.pair (.box TMedl) (.pair (.int .i64) .unit)) x) (readK σ_s_FirstFault Tryz.f83.ntmps [1, 3] (.pair (.box TMedl) (.pair (.int .i64) .unit)) 1 [1] (.pair (.box TMedl) .unit) [2] (.pair (.int .i64) .unit)) = b_s_FirstFault_16 x := by kernel_rfl
theorem lok_s_FirstFault_23 (x) : codeK Γ0 E0 σ_s_FirstFault Λ_s_FirstFault Tryz.f83.ntmps (nthLoop Tryz.f83 1) (mkF Tryz.f83.ntmps [1, 4] (.pair (.box TMedl) (.pair (.int .i64) .unit)) x) (readK σ_s_FirstFault Tryz.f83.ntmps [1, 4] (.pair (.box TMedl) (.pair (.int .i64) .unit)) 3 [] .unit [2] (.pair (.int .i64) .unit)) = b_s_FirstFault_23 x := by kernel_rfl
theorem ok_s_FirstFault : FnOK G0 Tryz.prog 83 S_s_FirstFault := fn_ok (Λ := Λ_s_FirstFault) tab0 σok_s_FirstFault Tryz.func83 (by kernel_rfl) (show Tryz.f83.body = some (bodyOf Tryz.f83) by kernel_rfl) [⟨[1, 3], (.pair (.box TMedl) (.pair (.int .i64) .unit)), 1, [1], (.pair (.box TMedl) .unit), [2], (.pair (.int .i64) .unit), loopL b_s_FirstFault_16⟩, ⟨[1, 4], (.pair (.box TMedl) (.pair (.int .i64) .unit)), 3, [], .unit, [2], (.pair (.int .i64) .unit), loopL b_s_FirstFault_23⟩] rfl (by kernel_rfl) (by exact ⟨loop_LOK (lok_s_FirstFault_16), loop_LOK (lok_s_FirstFault_23), trivial⟩) (by kernel_rfl)
  fun x y h => (show execFn Γ0 E0 σ_s_FirstFault Λ_s_FirstFault Tryz.f83 S_s_FirstFault x = s_FirstFault x by kernel_rfl).trans h

noncomputable def s_IsMedl (x : Ty.T (.pair TMedl .unit)) : Option (Ty.T (.pair .bool .unit)) :=
match s_FirstFault ((x.1.1, x.1.2.1, x.1.2.2.1, x.1.2.2.2.1, ()), ()) with
| none => none
| some v1 =>
some ((v1.1 == (0 : Int)), ())
noncomputable def S_s_IsMedl : Spec := ⟨(.pair TMedl .unit), (.pair .bool .unit), .unit, rfl, s_IsMedl⟩
noncomputable def σ_s_IsMedl : FuncId → Option Spec := sig [(83, S_s_FirstFault)]
theorem σok_s_IsMedl : ∀ f s, σ_s_IsMedl f = some s → FnOK G0 Tryz.prog f s := sig_ok (l := [(83, S_s_FirstFault)]) ⟨ok_s_FirstFault, trivial⟩
noncomputable def Λ_s_IsMedl : Nat → Option LSpec := lkp (loopList (bodyOf Tryz.f64)) []
theorem ok_s_IsMedl : FnOK G0 Tryz.prog 64 S_s_IsMedl := fn_ok (Λ := Λ_s_IsMedl) tab0 σok_s_IsMedl Tryz.func64 (by kernel_rfl) (show Tryz.f64.body = some (bodyOf Tryz.f64) by kernel_rfl) [] rfl (by kernel_rfl) (by exact trivial) (by kernel_rfl)
  fun x y h => (show execFn Γ0 E0 σ_s_IsMedl Λ_s_IsMedl Tryz.f64 S_s_IsMedl x = s_IsMedl x by kernel_rfl).trans h

noncomputable def s_IsState (x : Ty.T (.pair TState .unit)) : Option (Ty.T (.pair .bool .unit)) :=
match s_l01In (x.1.1, (0 : Int), (65535 : Int), ()) with
| none => none
| some v1 =>
match v1.1 with
| true =>
 match s_l01In (x.1.2.1, (0 : Int), (15 : Int), ()) with
 | none => none
 | some v2 =>
 match v2.1 with
 | true =>
  match s_l01In (x.1.2.2.1, (0 : Int), (15 : Int), ()) with
  | none => none
  | some v3 =>
  match v3.1 with
  | true =>
   match s_l01In (x.1.2.2.2.1, (0 : Int), (255 : Int), ()) with
   | none => none
   | some v4 =>
   match v4.1 with
   | true =>
    match s_l01In (x.1.2.2.2.2.1, (0 : Int), (4294967295 : Int), ()) with
    | none => none
    | some v5 =>
    some (v5.1, ())
   | false =>
    some (false, ())
  | false =>
   some (false, ())
 | false =>
  some (false, ())
| false =>
 some (false, ())
noncomputable def S_s_IsState : Spec := ⟨(.pair TState .unit), (.pair .bool .unit), .unit, rfl, s_IsState⟩
noncomputable def σ_s_IsState : FuncId → Option Spec := sig [(87, S_s_l01In)]
theorem σok_s_IsState : ∀ f s, σ_s_IsState f = some s → FnOK G0 Tryz.prog f s := sig_ok (l := [(87, S_s_l01In)]) ⟨ok_s_l01In, trivial⟩
noncomputable def Λ_s_IsState : Nat → Option LSpec := lkp (loopList (bodyOf Tryz.f84)) []
theorem ok_s_IsState : FnOK G0 Tryz.prog 84 S_s_IsState := fn_ok (Λ := Λ_s_IsState) tab0 σok_s_IsState Tryz.func84 (by kernel_rfl) (show Tryz.f84.body = some (bodyOf Tryz.f84) by kernel_rfl) [] rfl (by kernel_rfl) (by exact trivial) (by kernel_rfl)
  fun x y h => (show execFn Γ0 E0 σ_s_IsState Λ_s_IsState Tryz.f84 S_s_IsState x = s_IsState x by kernel_rfl).trans h

noncomputable def s_l11Mode (x : Ty.T (.pair (.list TModeInfo) (.pair (.int .i64) .unit))) : Option (Ty.T (.pair .bool .unit)) :=
match s_l01In (x.2.1, (0 : Int), (IntKind.i64.wrap ((x.1.length : Int) - (1 : Int))), ()) with
| none => none
| some v1 =>
some (v1.1, ())
noncomputable def S_s_l11Mode : Spec := ⟨(.pair (.list TModeInfo) (.pair (.int .i64) .unit)), (.pair .bool .unit), .unit, rfl, s_l11Mode⟩
noncomputable def σ_s_l11Mode : FuncId → Option Spec := sig [(87, S_s_l01In)]
theorem σok_s_l11Mode : ∀ f s, σ_s_l11Mode f = some s → FnOK G0 Tryz.prog f s := sig_ok (l := [(87, S_s_l01In)]) ⟨ok_s_l01In, trivial⟩
noncomputable def Λ_s_l11Mode : Nat → Option LSpec := lkp (loopList (bodyOf Tryz.f85)) []
theorem ok_s_l11Mode : FnOK G0 Tryz.prog 85 S_s_l11Mode := fn_ok (Λ := Λ_s_l11Mode) tab0 σok_s_l11Mode Tryz.func85 (by kernel_rfl) (show Tryz.f85.body = some (bodyOf Tryz.f85) by kernel_rfl) [] rfl (by kernel_rfl) (by exact trivial) (by kernel_rfl)
  fun x y h => (show execFn Γ0 E0 σ_s_l11Mode Λ_s_l11Mode Tryz.f85 S_s_l11Mode x = s_l11Mode x by kernel_rfl).trans h

noncomputable def s_l15Belongs (x : Ty.T (.pair TMedl (.pair TState .unit))) : Option (Ty.T (.pair .bool .unit)) :=
match s_IsState ((x.2.1.1, x.2.1.2.1, x.2.1.2.2.1, x.2.1.2.2.2.1, x.2.1.2.2.2.2.1, ()), ()) with
| none => none
| some v1 =>
match (!v1.1) with
| true =>
 some (false, ())
| false =>
 match s_l11Mode (x.1.2.2.1, x.2.1.2.1, ()) with
 | none => none
 | some v2 =>
 match (!v2.1) with
 | true =>
  some (false, ())
 | false =>
  onSome (idx x.1.2.2.1 x.2.1.2.1) fun v3 =>
  match (decide (x.2.1.2.2.1 ≥ v3.1)) with
  | true =>
   some (false, ())
  | false =>
   onSome (idx x.1.2.2.1 x.2.1.2.1) fun v4 =>
   match (decide (x.2.1.2.2.2.1 ≥ v4.2.1)) with
   | true =>
    some (false, ())
   | false =>
    match s_l10Active (x.1.2.1, ()) with
    | none => none
    | some v5 =>
    some (((bits BinOp.and .i64 x.2.1.2.2.2.2.1 v5.1) == x.2.1.2.2.2.2.1), ())
noncomputable def S_s_l15Belongs : Spec := ⟨(.pair TMedl (.pair TState .unit)), (.pair .bool .unit), .unit, rfl, s_l15Belongs⟩
noncomputable def σ_s_l15Belongs : FuncId → Option Spec := sig [(84, S_s_IsState), (85, S_s_l11Mode), (86, S_s_l10Active)]
theorem σok_s_l15Belongs : ∀ f s, σ_s_l15Belongs f = some s → FnOK G0 Tryz.prog f s := sig_ok (l := [(84, S_s_IsState), (85, S_s_l11Mode), (86, S_s_l10Active)]) ⟨ok_s_IsState, ok_s_l11Mode, ok_s_l10Active, trivial⟩
noncomputable def Λ_s_l15Belongs : Nat → Option LSpec := lkp (loopList (bodyOf Tryz.f65)) []
theorem ok_s_l15Belongs : FnOK G0 Tryz.prog 65 S_s_l15Belongs := fn_ok (Λ := Λ_s_l15Belongs) tab0 σok_s_l15Belongs Tryz.func65 (by kernel_rfl) (show Tryz.f65.body = some (bodyOf Tryz.f65) by kernel_rfl) [] rfl (by kernel_rfl) (by exact trivial) (by kernel_rfl)
  fun x y h => (show execFn Γ0 E0 σ_s_l15Belongs Λ_s_l15Belongs Tryz.f65 S_s_l15Belongs x = s_l15Belongs x by kernel_rfl).trans h

noncomputable def s_l15Code (x : Ty.T (.pair TMedl (.pair TState .unit))) : Option (Ty.T (.pair (.int .i64) .unit)) :=
match s_IsMedl ((x.1.1, x.1.2.1, x.1.2.2.1, x.1.2.2.2.1, ()), ()) with
| none => none
| some v1 =>
match (!v1.1) with
| true =>
 some ((1 : Int), ())
| false =>
 match s_l15Belongs ((x.1.1, x.1.2.1, x.1.2.2.1, x.1.2.2.2.1, ()), (x.2.1.1, x.2.1.2.1, x.2.1.2.2.1, x.2.1.2.2.2.1, x.2.1.2.2.2.2.1, ()), ()) with
 | none => none
 | some v2 =>
 match (!v2.1) with
 | true =>
  some ((2 : Int), ())
 | false =>
  some ((0 : Int), ())
noncomputable def S_s_l15Code : Spec := ⟨(.pair TMedl (.pair TState .unit)), (.pair (.int .i64) .unit), .unit, rfl, s_l15Code⟩
noncomputable def σ_s_l15Code : FuncId → Option Spec := sig [(64, S_s_IsMedl), (65, S_s_l15Belongs)]
theorem σok_s_l15Code : ∀ f s, σ_s_l15Code f = some s → FnOK G0 Tryz.prog f s := sig_ok (l := [(64, S_s_IsMedl), (65, S_s_l15Belongs)]) ⟨ok_s_IsMedl, ok_s_l15Belongs, trivial⟩
noncomputable def Λ_s_l15Code : Nat → Option LSpec := lkp (loopList (bodyOf Tryz.f44)) []
theorem ok_s_l15Code : FnOK G0 Tryz.prog 44 S_s_l15Code := fn_ok (Λ := Λ_s_l15Code) tab0 σok_s_l15Code Tryz.func44 (by kernel_rfl) (show Tryz.f44.body = some (bodyOf Tryz.f44) by kernel_rfl) [] rfl (by kernel_rfl) (by exact trivial) (by kernel_rfl)
  fun x y h => (show execFn Γ0 E0 σ_s_l15Code Λ_s_l15Code Tryz.f44 S_s_l15Code x = s_l15Code x by kernel_rfl).trans h

noncomputable def b_s_l01All_4 (x : (Ty.T (.pair (.list (.int .i64)) TCrc))) : Option ((Ty.T (.pair (.list (.int .i64)) TCrc)) ⊕ ((Ty.T .unit) ⊕ (Ty.T (.pair .bool .unit)))) :=
match (decide (x.2.2.1 < (x.1.length : Int))) with
| true =>
 onSome (idx x.1 x.2.2.1) fun v1 =>
 match s_l01In (v1, (0 : Int), x.2.1, ()) with
 | none => none
 | some v2 =>
 match (!v2.1) with
 | true =>
  some (.inr (.inr (false, ())))
 | false =>
  some (.inl (x.1, x.2.1, (IntKind.i64.wrap (x.2.2.1 + (1 : Int))), ()))
| false =>
 some (.inr (.inl (())))
noncomputable def s_l01All (x : Ty.T (.pair (.list (.int .i64)) TCrc)) : Option (Ty.T (.pair .bool .unit)) :=
match (decide ((x.1.length : Int) > x.2.1)) with
| true =>
 some (false, ())
| false =>
 match loopL b_s_l01All_4 (x.1, x.2.2.1, (0 : Int), ()) with
 | none => none
 | some (.inl v3) =>
  some (true, ())
 | some (.inr v4) =>
  some (v4.1, ())
noncomputable def S_s_l01All : Spec := ⟨(.pair (.list (.int .i64)) TCrc), (.pair .bool .unit), .unit, rfl, s_l01All⟩
noncomputable def σ_s_l01All : FuncId → Option Spec := sig [(87, S_s_l01In)]
theorem σok_s_l01All : ∀ f s, σ_s_l01All f = some s → FnOK G0 Tryz.prog f s := sig_ok (l := [(87, S_s_l01In)]) ⟨ok_s_l01In, trivial⟩
noncomputable def Λ_s_l01All : Nat → Option LSpec := lkp (loopList (bodyOf Tryz.f66)) [⟨[0, 2, 7], (.pair (.list (.int .i64)) TCrc), 0, [], .unit, [6], (.pair .bool .unit), loopL b_s_l01All_4⟩]
theorem lok_s_l01All_4 (x) : codeK Γ0 E0 σ_s_l01All Λ_s_l01All Tryz.f66.ntmps (nthLoop Tryz.f66 0) (mkF Tryz.f66.ntmps [0, 2, 7] (.pair (.list (.int .i64)) TCrc) x) (readK σ_s_l01All Tryz.f66.ntmps [0, 2, 7] (.pair (.list (.int .i64)) TCrc) 0 [] .unit [6] (.pair .bool .unit)) = b_s_l01All_4 x := by kernel_rfl
theorem ok_s_l01All : FnOK G0 Tryz.prog 66 S_s_l01All := fn_ok (Λ := Λ_s_l01All) tab0 σok_s_l01All Tryz.func66 (by kernel_rfl) (show Tryz.f66.body = some (bodyOf Tryz.f66) by kernel_rfl) [⟨[0, 2, 7], (.pair (.list (.int .i64)) TCrc), 0, [], .unit, [6], (.pair .bool .unit), loopL b_s_l01All_4⟩] rfl (by kernel_rfl) (by exact ⟨loop_LOK (lok_s_l01All_4), trivial⟩) (by kernel_rfl)
  fun x y h => (show execFn Γ0 E0 σ_s_l01All Λ_s_l01All Tryz.f66 S_s_l01All x = s_l01All x by kernel_rfl).trans h

noncomputable def s_IsBits (x : Ty.T (.pair (.list (.int .i64)) .unit)) : Option (Ty.T (.pair .bool .unit)) :=
match s_l01All (x.1, (8192 : Int), (1 : Int), ()) with
| none => none
| some v1 =>
some (v1.1, ())
noncomputable def S_s_IsBits : Spec := ⟨(.pair (.list (.int .i64)) .unit), (.pair .bool .unit), .unit, rfl, s_IsBits⟩
noncomputable def σ_s_IsBits : FuncId → Option Spec := sig [(66, S_s_l01All)]
theorem σok_s_IsBits : ∀ f s, σ_s_IsBits f = some s → FnOK G0 Tryz.prog f s := sig_ok (l := [(66, S_s_l01All)]) ⟨ok_s_l01All, trivial⟩
noncomputable def Λ_s_IsBits : Nat → Option LSpec := lkp (loopList (bodyOf Tryz.f45)) []
theorem ok_s_IsBits : FnOK G0 Tryz.prog 45 S_s_IsBits := fn_ok (Λ := Λ_s_IsBits) tab0 σok_s_IsBits Tryz.func45 (by kernel_rfl) (show Tryz.f45.body = some (bodyOf Tryz.f45) by kernel_rfl) [] rfl (by kernel_rfl) (by exact trivial) (by kernel_rfl)
  fun x y h => (show execFn Γ0 E0 σ_s_IsBits Λ_s_IsBits Tryz.f45 S_s_IsBits x = s_IsBits x by kernel_rfl).trans h

noncomputable def s_l28Code (x : Ty.T (.pair TMedl (.pair TState (.pair (.list (.int .i64)) .unit)))) : Option (Ty.T (.pair (.int .i64) .unit)) :=
match s_l15Code ((x.1.1, x.1.2.1, x.1.2.2.1, x.1.2.2.2.1, ()), (x.2.1.1, x.2.1.2.1, x.2.1.2.2.1, x.2.1.2.2.2.1, x.2.1.2.2.2.2.1, ()), ()) with
| none => none
| some v1 =>
match (v1.1 == (0 : Int)) with
| true =>
 match s_IsBits (x.2.2.1, ()) with
 | none => none
 | some v2 =>
 match (!v2.1) with
 | true =>
  some ((2 : Int), ())
 | false =>
  some (v1.1, ())
| false =>
 some (v1.1, ())
noncomputable def S_s_l28Code : Spec := ⟨(.pair TMedl (.pair TState (.pair (.list (.int .i64)) .unit))), (.pair (.int .i64) .unit), .unit, rfl, s_l28Code⟩
noncomputable def σ_s_l28Code : FuncId → Option Spec := sig [(44, S_s_l15Code), (45, S_s_IsBits)]
theorem σok_s_l28Code : ∀ f s, σ_s_l28Code f = some s → FnOK G0 Tryz.prog f s := sig_ok (l := [(44, S_s_l15Code), (45, S_s_IsBits)]) ⟨ok_s_l15Code, ok_s_IsBits, trivial⟩
noncomputable def Λ_s_l28Code : Nat → Option LSpec := lkp (loopList (bodyOf Tryz.f23)) []
theorem ok_s_l28Code : FnOK G0 Tryz.prog 23 S_s_l28Code := fn_ok (Λ := Λ_s_l28Code) tab0 σok_s_l28Code Tryz.func23 (by kernel_rfl) (show Tryz.f23.body = some (bodyOf Tryz.f23) by kernel_rfl) [] rfl (by kernel_rfl) (by exact trivial) (by kernel_rfl)
  fun x y h => (show execFn Γ0 E0 σ_s_l28Code Λ_s_l28Code Tryz.f23 S_s_l28Code x = s_l28Code x by kernel_rfl).trans h

noncomputable def b_s_l23First_2 (x : (Ty.T (.pair (.list (.int .i64)) TCrc))) : Option ((Ty.T (.pair (.list (.int .i64)) TCrc)) ⊕ ((Ty.T .unit) ⊕ (Ty.T (.pair (.int .i64) .unit)))) :=
match (decide (x.2.2.1 < (x.1.length : Int))) with
| true =>
 onSome (idx x.1 x.2.2.1) fun v1 =>
 match (v1 == x.2.1) with
 | true =>
  some (.inr (.inr (x.2.2.1, ())))
 | false =>
  some (.inl (x.1, x.2.1, (IntKind.i64.wrap (x.2.2.1 + (1 : Int))), ()))
| false =>
 some (.inr (.inl (())))
noncomputable def s_l23First (x : Ty.T (.pair (.list (.int .i64)) TCrc)) : Option (Ty.T (.pair (.int .i64) .unit)) :=
match loopL b_s_l23First_2 (x.1, x.2.2.1, (IntKind.i64.wrap (x.2.1 + (1 : Int))), ()) with
| none => none
| some (.inl v2) =>
 some ((-1 : Int), ())
| some (.inr v3) =>
 some (v3.1, ())
noncomputable def S_s_l23First : Spec := ⟨(.pair (.list (.int .i64)) TCrc), (.pair (.int .i64) .unit), .unit, rfl, s_l23First⟩
noncomputable def σ_s_l23First : FuncId → Option Spec := sig []
theorem σok_s_l23First : ∀ f s, σ_s_l23First f = some s → FnOK G0 Tryz.prog f s := sig_ok (l := []) trivial
noncomputable def Λ_s_l23First : Nat → Option LSpec := lkp (loopList (bodyOf Tryz.f170)) [⟨[0, 2, 7], (.pair (.list (.int .i64)) TCrc), 0, [], .unit, [6], (.pair (.int .i64) .unit), loopL b_s_l23First_2⟩]
theorem lok_s_l23First_2 (x) : codeK Γ0 E0 σ_s_l23First Λ_s_l23First Tryz.f170.ntmps (nthLoop Tryz.f170 0) (mkF Tryz.f170.ntmps [0, 2, 7] (.pair (.list (.int .i64)) TCrc) x) (readK σ_s_l23First Tryz.f170.ntmps [0, 2, 7] (.pair (.list (.int .i64)) TCrc) 0 [] .unit [6] (.pair (.int .i64) .unit)) = b_s_l23First_2 x := by kernel_rfl
theorem ok_s_l23First : FnOK G0 Tryz.prog 170 S_s_l23First := fn_ok (Λ := Λ_s_l23First) tab0 σok_s_l23First Tryz.func170 (by kernel_rfl) (show Tryz.f170.body = some (bodyOf Tryz.f170) by kernel_rfl) [⟨[0, 2, 7], (.pair (.list (.int .i64)) TCrc), 0, [], .unit, [6], (.pair (.int .i64) .unit), loopL b_s_l23First_2⟩] rfl (by kernel_rfl) (by exact ⟨loop_LOK (lok_s_l23First_2), trivial⟩) (by kernel_rfl)
  fun x y h => (show execFn Γ0 E0 σ_s_l23First Λ_s_l23First Tryz.f170 S_s_l23First x = s_l23First x by kernel_rfl).trans h

noncomputable def s_l22Round (x : Ty.T (.pair (.int .i64) .unit)) : Option (Ty.T (.pair (.int .i64) .unit)) :=
some ((IntKind.i64.wrap (Int.tdiv (IntKind.i64.wrap (x.1 + (4 : Int))) (8 : Int))), ())
noncomputable def S_s_l22Round : Spec := ⟨(.pair (.int .i64) .unit), (.pair (.int .i64) .unit), .unit, rfl, s_l22Round⟩
noncomputable def σ_s_l22Round : FuncId → Option Spec := sig []
theorem σok_s_l22Round : ∀ f s, σ_s_l22Round f = some s → FnOK G0 Tryz.prog f s := sig_ok (l := []) trivial
noncomputable def Λ_s_l22Round : Nat → Option LSpec := lkp (loopList (bodyOf Tryz.f171)) []
theorem ok_s_l22Round : FnOK G0 Tryz.prog 171 S_s_l22Round := fn_ok (Λ := Λ_s_l22Round) tab0 σok_s_l22Round Tryz.func171 (by kernel_rfl) (show Tryz.f171.body = some (bodyOf Tryz.f171) by kernel_rfl) [] rfl (by kernel_rfl) (by exact trivial) (by kernel_rfl)
  fun x y h => (show execFn Γ0 E0 σ_s_l22Round Λ_s_l22Round Tryz.f171 S_s_l22Round x = s_l22Round x by kernel_rfl).trans h

noncomputable def s_l18Preamble (x : Ty.T (.pair (.int .i64) .unit)) : Option (Ty.T (.pair .bool .unit)) :=
match s_l01In (x.1, (3 : Int), (15 : Int), ()) with
| none => none
| some v1 =>
some (v1.1, ())
noncomputable def S_s_l18Preamble : Spec := ⟨(.pair (.int .i64) .unit), (.pair .bool .unit), .unit, rfl, s_l18Preamble⟩
noncomputable def σ_s_l18Preamble : FuncId → Option Spec := sig [(87, S_s_l01In)]
theorem σok_s_l18Preamble : ∀ f s, σ_s_l18Preamble f = some s → FnOK G0 Tryz.prog f s := sig_ok (l := [(87, S_s_l01In)]) ⟨ok_s_l01In, trivial⟩
noncomputable def Λ_s_l18Preamble : Nat → Option LSpec := lkp (loopList (bodyOf Tryz.f172)) []
theorem ok_s_l18Preamble : FnOK G0 Tryz.prog 172 S_s_l18Preamble := fn_ok (Λ := Λ_s_l18Preamble) tab0 σok_s_l18Preamble Tryz.func172 (by kernel_rfl) (show Tryz.f172.body = some (bodyOf Tryz.f172) by kernel_rfl) [] rfl (by kernel_rfl) (by exact trivial) (by kernel_rfl)
  fun x y h => (show execFn Γ0 E0 σ_s_l18Preamble Λ_s_l18Preamble Tryz.f172 S_s_l18Preamble x = s_l18Preamble x by kernel_rfl).trans h

noncomputable def s_l23Tail (x : Ty.T (.pair (.list (.int .i64)) (.pair (.int .i64) .unit))) : Option (Ty.T (.pair (.int .i64) .unit)) :=
match s_l23First (x.1, (IntKind.i64.wrap (x.2.1 + (11 : Int))), (0 : Int), ()) with
| none => none
| some v1 =>
match (decide (v1.1 ≥ (0 : Int))) with
| true =>
 some ((6 : Int), ())
| false =>
 some ((0 : Int), ())
noncomputable def S_s_l23Tail : Spec := ⟨(.pair (.list (.int .i64)) (.pair (.int .i64) .unit)), (.pair (.int .i64) .unit), .unit, rfl, s_l23Tail⟩
noncomputable def σ_s_l23Tail : FuncId → Option Spec := sig [(170, S_s_l23First)]
theorem σok_s_l23Tail : ∀ f s, σ_s_l23Tail f = some s → FnOK G0 Tryz.prog f s := sig_ok (l := [(170, S_s_l23First)]) ⟨ok_s_l23First, trivial⟩
noncomputable def Λ_s_l23Tail : Nat → Option LSpec := lkp (loopList (bodyOf Tryz.f173)) []
theorem ok_s_l23Tail : FnOK G0 Tryz.prog 173 S_s_l23Tail := fn_ok (Λ := Λ_s_l23Tail) tab0 σok_s_l23Tail Tryz.func173 (by kernel_rfl) (show Tryz.f173.body = some (bodyOf Tryz.f173) by kernel_rfl) [] rfl (by kernel_rfl) (by exact trivial) (by kernel_rfl)
  fun x y h => (show execFn Γ0 E0 σ_s_l23Tail Λ_s_l23Tail Tryz.f173 S_s_l23Tail x = s_l23Tail x by kernel_rfl).trans h

noncomputable def s_l23At (x : Ty.T (.pair (.list (.int .i64)) (.pair (.int .i64) .unit))) : Option (Ty.T (.pair (.int .i64) .unit)) :=
match (decide (x.2.1 ≥ (x.1.length : Int))) with
| true =>
 some ((1 : Int), ())
| false =>
 onSome (idx x.1 x.2.1) fun v1 =>
 some (v1, ())
noncomputable def S_s_l23At : Spec := ⟨(.pair (.list (.int .i64)) (.pair (.int .i64) .unit)), (.pair (.int .i64) .unit), .unit, rfl, s_l23At⟩
noncomputable def σ_s_l23At : FuncId → Option Spec := sig []
theorem σok_s_l23At : ∀ f s, σ_s_l23At f = some s → FnOK G0 Tryz.prog f s := sig_ok (l := []) trivial
noncomputable def Λ_s_l23At : Nat → Option LSpec := lkp (loopList (bodyOf Tryz.f122)) []
theorem ok_s_l23At : FnOK G0 Tryz.prog 122 S_s_l23At := fn_ok (Λ := Λ_s_l23At) tab0 σok_s_l23At Tryz.func122 (by kernel_rfl) (show Tryz.f122.body = some (bodyOf Tryz.f122) by kernel_rfl) [] rfl (by kernel_rfl) (by exact trivial) (by kernel_rfl)
  fun x y h => (show execFn Γ0 E0 σ_s_l23At Λ_s_l23At Tryz.f122 S_s_l23At x = s_l23At x by kernel_rfl).trans h

noncomputable def b_s_l23Edges_2 (x : (Ty.T (.pair (.list (.int .i64)) (.pair (.int .i64) (.pair (.own 2 (.int .i64)) .unit))))) : Option ((Ty.T (.pair (.list (.int .i64)) (.pair (.int .i64) (.pair (.own 2 (.int .i64)) .unit)))) ⊕ ((Ty.T .unit) ⊕ (Ty.T (.pair (.own 2 (.int .i64)) (.pair (.int .i64) .unit))))) :=
room (x.2.2.1.length + [x.2.1].length) (
 match s_l23At (x.1, (IntKind.i64.wrap (x.2.1 + (76 : Int))), ()) with
 | none => none
 | some v1 =>
 match (v1.1 == (0 : Int)) with
 | true =>
  match s_l23Tail (x.1, (IntKind.i64.wrap (x.2.1 + (72 : Int))), ()) with
  | none => none
  | some v2 =>
  some (.inr (.inr ((x.2.2.1 ++ [x.2.1]), v2.1, ())))
 | false =>
  match s_l23First (x.1, (IntKind.i64.wrap (x.2.1 + (76 : Int))), (0 : Int), ()) with
  | none => none
  | some v3 =>
  match (decide (v3.1 < (0 : Int))) with
  | true =>
   some (.inr (.inr ([], (6 : Int), ())))
  | false =>
   match (decide (v3.1 > (IntKind.i64.wrap (x.2.1 + (84 : Int))))) with
   | true =>
    some (.inr (.inr ([], (6 : Int), ())))
   | false =>
    some (.inl (x.1, v3.1, (x.2.2.1 ++ [x.2.1]), ())))
noncomputable def s_l23Edges (x : Ty.T (.pair (.list (.int .i64)) (.pair (.int .i64) .unit))) : Option (Ty.T (.pair (.own 2 (.int .i64)) (.pair (.int .i64) .unit))) :=
match loopL b_s_l23Edges_2 (x.1, x.2.1, [], ()) with
| none => none
| some (.inl v4) =>
 none
| some (.inr v5) =>
 some (v5.1, v5.2.1, ())
noncomputable def S_s_l23Edges : Spec := ⟨(.pair (.list (.int .i64)) (.pair (.int .i64) .unit)), (.pair (.own 2 (.int .i64)) (.pair (.int .i64) .unit)), .unit, rfl, s_l23Edges⟩
noncomputable def σ_s_l23Edges : FuncId → Option Spec := sig [(122, S_s_l23At), (170, S_s_l23First), (173, S_s_l23Tail)]
theorem σok_s_l23Edges : ∀ f s, σ_s_l23Edges f = some s → FnOK G0 Tryz.prog f s := sig_ok (l := [(122, S_s_l23At), (170, S_s_l23First), (173, S_s_l23Tail)]) ⟨ok_s_l23At, ok_s_l23First, ok_s_l23Tail, trivial⟩
noncomputable def Λ_s_l23Edges : Nat → Option LSpec := lkp (loopList (bodyOf Tryz.f174)) [⟨[0, 1, 6], (.pair (.list (.int .i64)) (.pair (.int .i64) (.pair (.own 2 (.int .i64)) .unit))), 999999, [], .unit, [4, 5], (.pair (.own 2 (.int .i64)) (.pair (.int .i64) .unit)), loopL b_s_l23Edges_2⟩]
theorem lok_s_l23Edges_2 (x) : codeK Γ0 E0 σ_s_l23Edges Λ_s_l23Edges Tryz.f174.ntmps (nthLoop Tryz.f174 0) (mkF Tryz.f174.ntmps [0, 1, 6] (.pair (.list (.int .i64)) (.pair (.int .i64) (.pair (.own 2 (.int .i64)) .unit))) x) (readK σ_s_l23Edges Tryz.f174.ntmps [0, 1, 6] (.pair (.list (.int .i64)) (.pair (.int .i64) (.pair (.own 2 (.int .i64)) .unit))) 999999 [] .unit [4, 5] (.pair (.own 2 (.int .i64)) (.pair (.int .i64) .unit))) = b_s_l23Edges_2 x := by kernel_rfl
theorem ok_s_l23Edges : FnOK G0 Tryz.prog 174 S_s_l23Edges := fn_ok (Λ := Λ_s_l23Edges) tab0 σok_s_l23Edges Tryz.func174 (by kernel_rfl) (show Tryz.f174.body = some (bodyOf Tryz.f174) by kernel_rfl) [⟨[0, 1, 6], (.pair (.list (.int .i64)) (.pair (.int .i64) (.pair (.own 2 (.int .i64)) .unit))), 999999, [], .unit, [4, 5], (.pair (.own 2 (.int .i64)) (.pair (.int .i64) .unit)), loopL b_s_l23Edges_2⟩] rfl (by kernel_rfl) (by exact ⟨loop_LOK (lok_s_l23Edges_2), trivial⟩) (by kernel_rfl)
  fun x y h => (show execFn Γ0 E0 σ_s_l23Edges Λ_s_l23Edges Tryz.f174 S_s_l23Edges x = s_l23Edges x by kernel_rfl).trans h

noncomputable def s_l23Run (x : Ty.T (.pair (.list (.int .i64)) .unit)) : Option (Ty.T (.pair Tl23Result .unit)) :=
match s_l23First (x.1, (-1 : Int), (0 : Int), ()) with
| none => none
| some v1 =>
match (decide (v1.1 < (0 : Int))) with
| true =>
 some (((0 : Int), [], (4 : Int), ()), ())
| false =>
 match s_l23First (x.1, v1.1, (1 : Int), ()) with
 | none => none
 | some v2 =>
 match (decide (v2.1 < (0 : Int))) with
 | true =>
  match s_l22Round ((IntKind.i64.wrap ((x.1.length : Int) - v1.1)), ()) with
  | none => none
  | some v3 =>
  match s_l23First (x.1, (x.1.length : Int), (0 : Int), ()) with
  | none => none
  | some v4 =>
  match s_l18Preamble (v3.1, ()) with
  | none => none
  | some v5 =>
  match (!v5.1) with
  | true =>
   some (((0 : Int), [], (6 : Int), ()), ())
  | false =>
   match (decide (v4.1 < (0 : Int))) with
   | true =>
    some (((0 : Int), [], (6 : Int), ()), ())
   | false =>
    match (decide ((IntKind.i64.wrap (v4.1 - (x.1.length : Int))) > (19 : Int))) with
    | true =>
     some (((0 : Int), [], (6 : Int), ()), ())
    | false =>
     match (decide ((IntKind.i64.wrap (v4.1 - (x.1.length : Int))) < (5 : Int))) with
     | true =>
      some (((0 : Int), [], (6 : Int), ()), ())
     | false =>
      match ((IntKind.i64.wrap (v4.1 - (x.1.length : Int))) == (12 : Int)) with
      | true =>
       some (((0 : Int), [], (6 : Int), ()), ())
      | false =>
       match (decide ((IntKind.i64.wrap (v4.1 - (x.1.length : Int))) < (12 : Int))) with
       | true =>
        match s_l23Tail (x.1, v4.1, ()) with
        | none => none
        | some v6 =>
        some ((v3.1, [], v6.1, ()), ())
       | false =>
        match s_l23Edges (x.1, v4.1, ()) with
        | none => none
        | some v7 =>
        some ((v3.1, v7.1, v7.2.1, ()), ())
 | false =>
  match s_l22Round ((IntKind.i64.wrap (v2.1 - v1.1)), ()) with
  | none => none
  | some v8 =>
  match s_l23First (x.1, v2.1, (0 : Int), ()) with
  | none => none
  | some v9 =>
  match s_l18Preamble (v8.1, ()) with
  | none => none
  | some v10 =>
  match (!v10.1) with
  | true =>
   some (((0 : Int), [], (6 : Int), ()), ())
  | false =>
   match (decide (v9.1 < (0 : Int))) with
   | true =>
    some (((0 : Int), [], (6 : Int), ()), ())
   | false =>
    match (decide ((IntKind.i64.wrap (v9.1 - v2.1)) > (19 : Int))) with
    | true =>
     some (((0 : Int), [], (6 : Int), ()), ())
    | false =>
     match (decide ((IntKind.i64.wrap (v9.1 - v2.1)) < (5 : Int))) with
     | true =>
      some (((0 : Int), [], (6 : Int), ()), ())
     | false =>
      match ((IntKind.i64.wrap (v9.1 - v2.1)) == (12 : Int)) with
      | true =>
       some (((0 : Int), [], (6 : Int), ()), ())
      | false =>
       match (decide ((IntKind.i64.wrap (v9.1 - v2.1)) < (12 : Int))) with
       | true =>
        match s_l23Tail (x.1, v9.1, ()) with
        | none => none
        | some v11 =>
        some ((v8.1, [], v11.1, ()), ())
       | false =>
        match s_l23Edges (x.1, v9.1, ()) with
        | none => none
        | some v12 =>
        some ((v8.1, v12.1, v12.2.1, ()), ())
noncomputable def S_s_l23Run : Spec := ⟨(.pair (.list (.int .i64)) .unit), (.pair Tl23Result .unit), .unit, rfl, s_l23Run⟩
noncomputable def σ_s_l23Run : FuncId → Option Spec := sig [(170, S_s_l23First), (171, S_s_l22Round), (172, S_s_l18Preamble), (173, S_s_l23Tail), (174, S_s_l23Edges)]
theorem σok_s_l23Run : ∀ f s, σ_s_l23Run f = some s → FnOK G0 Tryz.prog f s := sig_ok (l := [(170, S_s_l23First), (171, S_s_l22Round), (172, S_s_l18Preamble), (173, S_s_l23Tail), (174, S_s_l23Edges)]) ⟨ok_s_l23First, ok_s_l22Round, ok_s_l18Preamble, ok_s_l23Tail, ok_s_l23Edges, trivial⟩
noncomputable def Λ_s_l23Run : Nat → Option LSpec := lkp (loopList (bodyOf Tryz.f121)) []
theorem ok_s_l23Run : FnOK G0 Tryz.prog 121 S_s_l23Run := fn_ok (Λ := Λ_s_l23Run) tab0 σok_s_l23Run Tryz.func121 (by kernel_rfl) (show Tryz.f121.body = some (bodyOf Tryz.f121) by kernel_rfl) [] rfl (by kernel_rfl) (by exact trivial) (by kernel_rfl)
  fun x y h => (show execFn Γ0 E0 σ_s_l23Run Λ_s_l23Run Tryz.f121 S_s_l23Run x = s_l23Run x by kernel_rfl).trans h

noncomputable def s_l23Code (x : Ty.T (.pair (.list (.int .i64)) .unit)) : Option (Ty.T (.pair Tl23Result (.pair (.int .i64) .unit))) :=
match s_IsBits (x.1, ()) with
| none => none
| some v1 =>
match (!v1.1) with
| true =>
 some (((0 : Int), [], (0 : Int), ()), (1 : Int), ())
| false =>
 match s_l23Run (x.1, ()) with
 | none => none
 | some v2 =>
 some ((v2.1.1, v2.1.2.1, v2.1.2.2.1, ()), v2.1.2.2.1, ())
noncomputable def S_s_l23Code : Spec := ⟨(.pair (.list (.int .i64)) .unit), (.pair Tl23Result (.pair (.int .i64) .unit)), .unit, rfl, s_l23Code⟩
noncomputable def σ_s_l23Code : FuncId → Option Spec := sig [(45, S_s_IsBits), (121, S_s_l23Run)]
theorem σok_s_l23Code : ∀ f s, σ_s_l23Code f = some s → FnOK G0 Tryz.prog f s := sig_ok (l := [(45, S_s_IsBits), (121, S_s_l23Run)]) ⟨ok_s_IsBits, ok_s_l23Run, trivial⟩
noncomputable def Λ_s_l23Code : Nat → Option LSpec := lkp (loopList (bodyOf Tryz.f88)) []
theorem ok_s_l23Code : FnOK G0 Tryz.prog 88 S_s_l23Code := fn_ok (Λ := Λ_s_l23Code) tab0 σok_s_l23Code Tryz.func88 (by kernel_rfl) (show Tryz.f88.body = some (bodyOf Tryz.f88) by kernel_rfl) [] rfl (by kernel_rfl) (by exact trivial) (by kernel_rfl)
  fun x y h => (show execFn Γ0 E0 σ_s_l23Code Λ_s_l23Code Tryz.f88 S_s_l23Code x = s_l23Code x by kernel_rfl).trans h

noncomputable def b_s_l23Bytes_7 (x : (Ty.T (.pair (.list (.int .i64)) (.pair (.list (.int .i64)) (.pair (.own 2 (.int .i64)) (.pair (.int .i64) TCrc)))))) : Option ((Ty.T (.pair (.list (.int .i64)) (.pair (.list (.int .i64)) (.pair (.own 2 (.int .i64)) (.pair (.int .i64) TCrc))))) ⊕ ((Ty.T (.pair (.list (.int .i64)) (.pair (.list (.int .i64)) (.pair (.own 2 (.int .i64)) TCrc)))) ⊕ (Ty.T .unit))) :=
match (decide (x.2.2.2.2.2.1 < (8 : Int))) with
| true =>
 onSome (idx x.2.1 x.2.2.2.1) fun v1 =>
 match s_l23At (x.1, (IntKind.i64.wrap ((IntKind.i64.wrap (v1 + (IntKind.i64.wrap ((8 : Int) * x.2.2.2.2.2.1)))) + (12 : Int))), ()) with
 | none => none
 | some v2 =>
 some (.inl (x.1, x.2.1, x.2.2.1, x.2.2.2.1, (IntKind.i64.wrap ((IntKind.i64.wrap ((2 : Int) * x.2.2.2.2.1)) + v2.1)), (IntKind.i64.wrap (x.2.2.2.2.2.1 + (1 : Int))), ()))
| false =>
 some (.inr (.inl (x.1, x.2.1, x.2.2.1, x.2.2.2.1, x.2.2.2.2.1, ())))
noncomputable def b_s_l23Bytes_3 (x : (Ty.T (.pair (.list (.int .i64)) (.pair (.list (.int .i64)) (.pair (.own 2 (.int .i64)) (.pair (.int .i64) .unit)))))) : Option ((Ty.T (.pair (.list (.int .i64)) (.pair (.list (.int .i64)) (.pair (.own 2 (.int .i64)) (.pair (.int .i64) .unit))))) ⊕ ((Ty.T (.pair (.own 2 (.int .i64)) .unit)) ⊕ (Ty.T .unit))) :=
match (decide (x.2.2.2.1 < (x.2.1.length : Int))) with
| true =>
 match loopL b_s_l23Bytes_7 (x.1, x.2.1, x.2.2.1, x.2.2.2.1, (0 : Int), (0 : Int), ()) with
 | none => none
 | some (.inl v1) =>
  room (v1.2.2.1.length + [v1.2.2.2.2.1].length) (
   some (.inl (v1.1, v1.2.1, (v1.2.2.1 ++ [v1.2.2.2.2.1]), (IntKind.i64.wrap (v1.2.2.2.1 + (1 : Int))), ())))
 | some (.inr v3) =>
  some (.inr (.inr (())))
| false =>
 some (.inr (.inl (x.2.2.1, ())))
noncomputable def s_l23Bytes (x : Ty.T (.pair (.list (.int .i64)) (.pair (.list (.int .i64)) .unit))) : Option (Ty.T (.pair (.own 2 (.int .i64)) .unit)) :=
match loopL b_s_l23Bytes_3 (x.1, x.2.1, [], (0 : Int), ()) with
| none => none
| some (.inl v4) =>
 some (v4.1, ())
| some (.inr v6) =>
 none
noncomputable def S_s_l23Bytes : Spec := ⟨(.pair (.list (.int .i64)) (.pair (.list (.int .i64)) .unit)), (.pair (.own 2 (.int .i64)) .unit), .unit, rfl, s_l23Bytes⟩
noncomputable def σ_s_l23Bytes : FuncId → Option Spec := sig [(122, S_s_l23At)]
theorem σok_s_l23Bytes : ∀ f s, σ_s_l23Bytes f = some s → FnOK G0 Tryz.prog f s := sig_ok (l := [(122, S_s_l23At)]) ⟨ok_s_l23At, trivial⟩
noncomputable def Λ_s_l23Bytes : Nat → Option LSpec := lkp (loopList (bodyOf Tryz.f89)) [⟨[0, 1, 5, 6], (.pair (.list (.int .i64)) (.pair (.list (.int .i64)) (.pair (.own 2 (.int .i64)) (.pair (.int .i64) .unit)))), 0, [5], (.pair (.own 2 (.int .i64)) .unit), [], .unit, loopL b_s_l23Bytes_3⟩, ⟨[0, 1, 5, 6, 7, 8], (.pair (.list (.int .i64)) (.pair (.list (.int .i64)) (.pair (.own 2 (.int .i64)) (.pair (.int .i64) TCrc)))), 2, [0, 1, 5, 6, 7], (.pair (.list (.int .i64)) (.pair (.list (.int .i64)) (.pair (.own 2 (.int .i64)) TCrc))), [], .unit, loopL b_s_l23Bytes_7⟩]
theorem lok_s_l23Bytes_3 (x) : codeK Γ0 E0 σ_s_l23Bytes Λ_s_l23Bytes Tryz.f89.ntmps (nthLoop Tryz.f89 0) (mkF Tryz.f89.ntmps [0, 1, 5, 6] (.pair (.list (.int .i64)) (.pair (.list (.int .i64)) (.pair (.own 2 (.int .i64)) (.pair (.int .i64) .unit)))) x) (readK σ_s_l23Bytes Tryz.f89.ntmps [0, 1, 5, 6] (.pair (.list (.int .i64)) (.pair (.list (.int .i64)) (.pair (.own 2 (.int .i64)) (.pair (.int .i64) .unit)))) 0 [5] (.pair (.own 2 (.int .i64)) .unit) [] .unit) = b_s_l23Bytes_3 x := by kernel_rfl
theorem lok_s_l23Bytes_7 (x) : codeK Γ0 E0 σ_s_l23Bytes Λ_s_l23Bytes Tryz.f89.ntmps (nthLoop Tryz.f89 1) (mkF Tryz.f89.ntmps [0, 1, 5, 6, 7, 8] (.pair (.list (.int .i64)) (.pair (.list (.int .i64)) (.pair (.own 2 (.int .i64)) (.pair (.int .i64) TCrc)))) x) (readK σ_s_l23Bytes Tryz.f89.ntmps [0, 1, 5, 6, 7, 8] (.pair (.list (.int .i64)) (.pair (.list (.int .i64)) (.pair (.own 2 (.int .i64)) (.pair (.int .i64) TCrc)))) 2 [0, 1, 5, 6, 7] (.pair (.list (.int .i64)) (.pair (.list (.int .i64)) (.pair (.own 2 (.int .i64)) TCrc))) [] .unit) = b_s_l23Bytes_7 x := by kernel_rfl
theorem ok_s_l23Bytes : FnOK G0 Tryz.prog 89 S_s_l23Bytes := fn_ok (Λ := Λ_s_l23Bytes) tab0 σok_s_l23Bytes Tryz.func89 (by kernel_rfl) (show Tryz.f89.body = some (bodyOf Tryz.f89) by kernel_rfl) [⟨[0, 1, 5, 6], (.pair (.list (.int .i64)) (.pair (.list (.int .i64)) (.pair (.own 2 (.int .i64)) (.pair (.int .i64) .unit)))), 0, [5], (.pair (.own 2 (.int .i64)) .unit), [], .unit, loopL b_s_l23Bytes_3⟩, ⟨[0, 1, 5, 6, 7, 8], (.pair (.list (.int .i64)) (.pair (.list (.int .i64)) (.pair (.own 2 (.int .i64)) (.pair (.int .i64) TCrc)))), 2, [0, 1, 5, 6, 7], (.pair (.list (.int .i64)) (.pair (.list (.int .i64)) (.pair (.own 2 (.int .i64)) TCrc))), [], .unit, loopL b_s_l23Bytes_7⟩] rfl (by kernel_rfl) (by exact ⟨loop_LOK (lok_s_l23Bytes_3), loop_LOK (lok_s_l23Bytes_7), trivial⟩) (by kernel_rfl)
  fun x y h => (show execFn Γ0 E0 σ_s_l23Bytes Λ_s_l23Bytes Tryz.f89 S_s_l23Bytes x = s_l23Bytes x by kernel_rfl).trans h

noncomputable def s_DecodeVoted (x : Ty.T (.pair (.list (.int .i64)) .unit)) : Option (Ty.T (.pair (.own 2 (.int .i64)) (.pair (.int .i64) .unit))) :=
match s_l23Code (x.1, ()) with
| none => none
| some v1 =>
match (v1.2.1 != (0 : Int)) with
| true =>
 some ([], v1.2.1, ())
| false =>
 match s_l23Bytes (x.1, v1.1.2.1, ()) with
 | none => none
 | some v2 =>
 some (v2.1, (0 : Int), ())
noncomputable def S_s_DecodeVoted : Spec := ⟨(.pair (.list (.int .i64)) .unit), (.pair (.own 2 (.int .i64)) (.pair (.int .i64) .unit)), .unit, rfl, s_DecodeVoted⟩
noncomputable def σ_s_DecodeVoted : FuncId → Option Spec := sig [(88, S_s_l23Code), (89, S_s_l23Bytes)]
theorem σok_s_DecodeVoted : ∀ f s, σ_s_DecodeVoted f = some s → FnOK G0 Tryz.prog f s := sig_ok (l := [(88, S_s_l23Code), (89, S_s_l23Bytes)]) ⟨ok_s_l23Code, ok_s_l23Bytes, trivial⟩
noncomputable def Λ_s_DecodeVoted : Nat → Option LSpec := lkp (loopList (bodyOf Tryz.f67)) []
theorem ok_s_DecodeVoted : FnOK G0 Tryz.prog 67 S_s_DecodeVoted := fn_ok (Λ := Λ_s_DecodeVoted) tab0 σok_s_DecodeVoted Tryz.func67 (by kernel_rfl) (show Tryz.f67.body = some (bodyOf Tryz.f67) by kernel_rfl) [] rfl (by kernel_rfl) (by exact trivial) (by kernel_rfl)
  fun x y h => (show execFn Γ0 E0 σ_s_DecodeVoted Λ_s_DecodeVoted Tryz.f67 S_s_DecodeVoted x = s_DecodeVoted x by kernel_rfl).trans h

noncomputable def b_s_l21Ones_3 (x : (Ty.T (.pair (.list (.int .i64)) (.pair (.int .i64) TCrc)))) : Option ((Ty.T (.pair (.list (.int .i64)) (.pair (.int .i64) TCrc))) ⊕ ((Ty.T (.pair (.int .i64) .unit)) ⊕ (Ty.T .unit))) :=
match (decide (x.2.2.2.1 ≤ x.2.1)) with
| true =>
 match (decide (x.2.2.2.1 < (0 : Int))) with
 | true =>
  some (.inl (x.1, x.2.1, (IntKind.i64.wrap (x.2.2.1 + (1 : Int))), (IntKind.i64.wrap (x.2.2.2.1 + (1 : Int))), ()))
 | false =>
  onSome (idx x.1 x.2.2.2.1) fun v1 =>
  some (.inl (x.1, x.2.1, (IntKind.i64.wrap (x.2.2.1 + v1)), (IntKind.i64.wrap (x.2.2.2.1 + (1 : Int))), ()))
| false =>
 some (.inr (.inl (x.2.2.1, ())))
noncomputable def s_l21Ones (x : Ty.T (.pair (.list (.int .i64)) (.pair (.int .i64) .unit))) : Option (Ty.T (.pair (.int .i64) .unit)) :=
match loopL b_s_l21Ones_3 (x.1, x.2.1, (0 : Int), (IntKind.i64.wrap ((IntKind.i64.wrap (x.2.1 - (5 : Int))) + (1 : Int))), ()) with
| none => none
| some (.inl v2) =>
 some (v2.1, ())
| some (.inr v4) =>
 none
noncomputable def S_s_l21Ones : Spec := ⟨(.pair (.list (.int .i64)) (.pair (.int .i64) .unit)), (.pair (.int .i64) .unit), .unit, rfl, s_l21Ones⟩
noncomputable def σ_s_l21Ones : FuncId → Option Spec := sig []
theorem σok_s_l21Ones : ∀ f s, σ_s_l21Ones f = some s → FnOK G0 Tryz.prog f s := sig_ok (l := []) trivial
noncomputable def Λ_s_l21Ones : Nat → Option LSpec := lkp (loopList (bodyOf Tryz.f90)) [⟨[0, 1, 5, 6], (.pair (.list (.int .i64)) (.pair (.int .i64) TCrc)), 0, [5], (.pair (.int .i64) .unit), [], .unit, loopL b_s_l21Ones_3⟩]
theorem lok_s_l21Ones_3 (x) : codeK Γ0 E0 σ_s_l21Ones Λ_s_l21Ones Tryz.f90.ntmps (nthLoop Tryz.f90 0) (mkF Tryz.f90.ntmps [0, 1, 5, 6] (.pair (.list (.int .i64)) (.pair (.int .i64) TCrc)) x) (readK σ_s_l21Ones Tryz.f90.ntmps [0, 1, 5, 6] (.pair (.list (.int .i64)) (.pair (.int .i64) TCrc)) 0 [5] (.pair (.int .i64) .unit) [] .unit) = b_s_l21Ones_3 x := by kernel_rfl
theorem ok_s_l21Ones : FnOK G0 Tryz.prog 90 S_s_l21Ones := fn_ok (Λ := Λ_s_l21Ones) tab0 σok_s_l21Ones Tryz.func90 (by kernel_rfl) (show Tryz.f90.body = some (bodyOf Tryz.f90) by kernel_rfl) [⟨[0, 1, 5, 6], (.pair (.list (.int .i64)) (.pair (.int .i64) TCrc)), 0, [5], (.pair (.int .i64) .unit), [], .unit, loopL b_s_l21Ones_3⟩] rfl (by kernel_rfl) (by exact ⟨loop_LOK (lok_s_l21Ones_3), trivial⟩) (by kernel_rfl)
  fun x y h => (show execFn Γ0 E0 σ_s_l21Ones Λ_s_l21Ones Tryz.f90 S_s_l21Ones x = s_l21Ones x by kernel_rfl).trans h

noncomputable def b_s_l21Vote_3 (x : (Ty.T (.pair (.list (.int .i64)) (.pair (.own 2 (.int .i64)) (.pair (.int .i64) .unit))))) : Option ((Ty.T (.pair (.list (.int .i64)) (.pair (.own 2 (.int .i64)) (.pair (.int .i64) .unit)))) ⊕ ((Ty.T (.pair (.own 2 (.int .i64)) .unit)) ⊕ (Ty.T .unit))) :=
match (decide (x.2.2.1 < (x.1.length : Int))) with
| true =>
 match s_l21Ones (x.1, x.2.2.1, ()) with
 | none => none
 | some v1 =>
 match (decide (v1.1 ≥ (3 : Int))) with
 | true =>
  room (x.2.1.length + [(1 : Int)].length) (
   some (.inl (x.1, (x.2.1 ++ [(1 : Int)]), (IntKind.i64.wrap (x.2.2.1 + (1 : Int))), ())))
 | false =>
  room (x.2.1.length + [(0 : Int)].length) (
   some (.inl (x.1, (x.2.1 ++ [(0 : Int)]), (IntKind.i64.wrap (x.2.2.1 + (1 : Int))), ())))
| false =>
 some (.inr (.inl (x.2.1, ())))
noncomputable def s_l21Vote (x : Ty.T (.pair (.list (.int .i64)) .unit)) : Option (Ty.T (.pair (.own 2 (.int .i64)) .unit)) :=
match loopL b_s_l21Vote_3 (x.1, [], (0 : Int), ()) with
| none => none
| some (.inl v2) =>
 some (v2.1, ())
| some (.inr v4) =>
 none
noncomputable def S_s_l21Vote : Spec := ⟨(.pair (.list (.int .i64)) .unit), (.pair (.own 2 (.int .i64)) .unit), .unit, rfl, s_l21Vote⟩
noncomputable def σ_s_l21Vote : FuncId → Option Spec := sig [(90, S_s_l21Ones)]
theorem σok_s_l21Vote : ∀ f s, σ_s_l21Vote f = some s → FnOK G0 Tryz.prog f s := sig_ok (l := [(90, S_s_l21Ones)]) ⟨ok_s_l21Ones, trivial⟩
noncomputable def Λ_s_l21Vote : Nat → Option LSpec := lkp (loopList (bodyOf Tryz.f68)) [⟨[0, 3, 4], (.pair (.list (.int .i64)) (.pair (.own 2 (.int .i64)) (.pair (.int .i64) .unit))), 0, [3], (.pair (.own 2 (.int .i64)) .unit), [], .unit, loopL b_s_l21Vote_3⟩]
theorem lok_s_l21Vote_3 (x) : codeK Γ0 E0 σ_s_l21Vote Λ_s_l21Vote Tryz.f68.ntmps (nthLoop Tryz.f68 0) (mkF Tryz.f68.ntmps [0, 3, 4] (.pair (.list (.int .i64)) (.pair (.own 2 (.int .i64)) (.pair (.int .i64) .unit))) x) (readK σ_s_l21Vote Tryz.f68.ntmps [0, 3, 4] (.pair (.list (.int .i64)) (.pair (.own 2 (.int .i64)) (.pair (.int .i64) .unit))) 0 [3] (.pair (.own 2 (.int .i64)) .unit) [] .unit) = b_s_l21Vote_3 x := by kernel_rfl
theorem ok_s_l21Vote : FnOK G0 Tryz.prog 68 S_s_l21Vote := fn_ok (Λ := Λ_s_l21Vote) tab0 σok_s_l21Vote Tryz.func68 (by kernel_rfl) (show Tryz.f68.body = some (bodyOf Tryz.f68) by kernel_rfl) [⟨[0, 3, 4], (.pair (.list (.int .i64)) (.pair (.own 2 (.int .i64)) (.pair (.int .i64) .unit))), 0, [3], (.pair (.own 2 (.int .i64)) .unit), [], .unit, loopL b_s_l21Vote_3⟩] rfl (by kernel_rfl) (by exact ⟨loop_LOK (lok_s_l21Vote_3), trivial⟩) (by kernel_rfl)
  fun x y h => (show execFn Γ0 E0 σ_s_l21Vote Λ_s_l21Vote Tryz.f68 S_s_l21Vote x = s_l21Vote x by kernel_rfl).trans h

noncomputable def s_DecodeSamples (x : Ty.T (.pair (.list (.int .i64)) .unit)) : Option (Ty.T (.pair (.own 2 (.int .i64)) (.pair (.int .i64) .unit))) :=
match s_IsBits (x.1, ()) with
| none => none
| some v1 =>
match (!v1.1) with
| true =>
 some ([], (1 : Int), ())
| false =>
 match s_l21Vote (x.1, ()) with
 | none => none
 | some v2 =>
 match s_DecodeVoted (v2.1, ()) with
 | none => none
 | some v3 =>
 some (v3.1, v3.2.1, ())
noncomputable def S_s_DecodeSamples : Spec := ⟨(.pair (.list (.int .i64)) .unit), (.pair (.own 2 (.int .i64)) (.pair (.int .i64) .unit)), .unit, rfl, s_DecodeSamples⟩
noncomputable def σ_s_DecodeSamples : FuncId → Option Spec := sig [(45, S_s_IsBits), (67, S_s_DecodeVoted), (68, S_s_l21Vote)]
theorem σok_s_DecodeSamples : ∀ f s, σ_s_DecodeSamples f = some s → FnOK G0 Tryz.prog f s := sig_ok (l := [(45, S_s_IsBits), (67, S_s_DecodeVoted), (68, S_s_l21Vote)]) ⟨ok_s_IsBits, ok_s_DecodeVoted, ok_s_l21Vote, trivial⟩
noncomputable def Λ_s_DecodeSamples : Nat → Option LSpec := lkp (loopList (bodyOf Tryz.f46)) []
theorem ok_s_DecodeSamples : FnOK G0 Tryz.prog 46 S_s_DecodeSamples := fn_ok (Λ := Λ_s_DecodeSamples) tab0 σok_s_DecodeSamples Tryz.func46 (by kernel_rfl) (show Tryz.f46.body = some (bodyOf Tryz.f46) by kernel_rfl) [] rfl (by kernel_rfl) (by exact trivial) (by kernel_rfl)
  fun x y h => (show execFn Γ0 E0 σ_s_DecodeSamples Λ_s_DecodeSamples Tryz.f46 S_s_DecodeSamples x = s_DecodeSamples x by kernel_rfl).trans h

noncomputable def b_s_l02Feed_3 (x : (Ty.T (.pair (.int .i64) (.pair (.list (.int .i64)) (.pair (.box TCrc) TCrc))))) : Option ((Ty.T (.pair (.int .i64) (.pair (.list (.int .i64)) (.pair (.box TCrc) TCrc)))) ⊕ ((Ty.T (.pair (.int .i64) .unit)) ⊕ (Ty.T .unit))) :=
match (decide (x.2.2.2.2.1 < (x.2.1.length : Int))) with
| true =>
 if x.2.2.2.1 = 0 then none else
 onSome (idx x.2.1 x.2.2.2.2.1) fun v1 =>
 if x.2.2.2.1 = 0 then none else
 match ((bits BinOp.xor .i64 (IntKind.i64.wrap (Int.tdiv x.1 x.2.2.2.1)) v1) == (1 : Int)) with
 | true =>
  some (.inl ((bits BinOp.xor .i64 (IntKind.i64.wrap ((Int.tmod x.1 x.2.2.2.1) * (2 : Int))) x.2.2.1.2.1), x.2.1, (x.2.2.1.1, x.2.2.1.2.1, ()), x.2.2.2.1, (IntKind.i64.wrap (x.2.2.2.2.1 + (1 : Int))), ()))
 | false =>
  some (.inl ((IntKind.i64.wrap ((Int.tmod x.1 x.2.2.2.1) * (2 : Int))), x.2.1, (x.2.2.1.1, x.2.2.1.2.1, ()), x.2.2.2.1, (IntKind.i64.wrap (x.2.2.2.2.1 + (1 : Int))), ()))
| false =>
 some (.inr (.inl (x.1, ())))
noncomputable def s_l02Feed (x : Ty.T (.pair TCrc (.pair (.int .i64) (.pair (.list (.int .i64)) .unit)))) : Option (Ty.T (.pair (.int .i64) .unit)) :=
if (IntKind.u64.wrap (IntKind.i64.wrap (x.1.1 - (1 : Int)))) < 0 then none else
match loopL b_s_l02Feed_3 (x.2.1, x.2.2.1, (x.1.1, x.1.2.1, ()), (IntKind.i64.wrap ((1 : Int) * 2 ^ min (IntKind.u64.wrap (IntKind.i64.wrap (x.1.1 - (1 : Int)))).toNat IntKind.i64.bits)), (0 : Int), ()) with
| none => none
| some (.inl v2) =>
 some (v2.1, ())
| some (.inr v4) =>
 none
noncomputable def S_s_l02Feed : Spec := ⟨(.pair TCrc (.pair (.int .i64) (.pair (.list (.int .i64)) .unit))), (.pair (.int .i64) .unit), .unit, rfl, s_l02Feed⟩
noncomputable def σ_s_l02Feed : FuncId → Option Spec := sig []
theorem σok_s_l02Feed : ∀ f s, σ_s_l02Feed f = some s → FnOK G0 Tryz.prog f s := sig_ok (l := []) trivial
noncomputable def Λ_s_l02Feed : Nat → Option LSpec := lkp (loopList (bodyOf Tryz.f123)) [⟨[1, 2, 3, 7, 8], (.pair (.int .i64) (.pair (.list (.int .i64)) (.pair (.box TCrc) TCrc))), 0, [1], (.pair (.int .i64) .unit), [], .unit, loopL b_s_l02Feed_3⟩]
theorem lok_s_l02Feed_3 (x) : codeK Γ0 E0 σ_s_l02Feed Λ_s_l02Feed Tryz.f123.ntmps (nthLoop Tryz.f123 0) (mkF Tryz.f123.ntmps [1, 2, 3, 7, 8] (.pair (.int .i64) (.pair (.list (.int .i64)) (.pair (.box TCrc) TCrc))) x) (readK σ_s_l02Feed Tryz.f123.ntmps [1, 2, 3, 7, 8] (.pair (.int .i64) (.pair (.list (.int .i64)) (.pair (.box TCrc) TCrc))) 0 [1] (.pair (.int .i64) .unit) [] .unit) = b_s_l02Feed_3 x := by kernel_rfl
theorem ok_s_l02Feed : FnOK G0 Tryz.prog 123 S_s_l02Feed := fn_ok (Λ := Λ_s_l02Feed) tab0 σok_s_l02Feed Tryz.func123 (by kernel_rfl) (show Tryz.f123.body = some (bodyOf Tryz.f123) by kernel_rfl) [⟨[1, 2, 3, 7, 8], (.pair (.int .i64) (.pair (.list (.int .i64)) (.pair (.box TCrc) TCrc))), 0, [1], (.pair (.int .i64) .unit), [], .unit, loopL b_s_l02Feed_3⟩] rfl (by kernel_rfl) (by exact ⟨loop_LOK (lok_s_l02Feed_3), trivial⟩) (by kernel_rfl)
  fun x y h => (show execFn Γ0 E0 σ_s_l02Feed Λ_s_l02Feed Tryz.f123 S_s_l02Feed x = s_l02Feed x by kernel_rfl).trans h

noncomputable def s_StandardCrc (x : Ty.T .unit) : Option (Ty.T (.pair TCrc .unit)) :=
some (((24 : Int), (6122955 : Int), ()), ())
noncomputable def S_s_StandardCrc : Spec := ⟨.unit, (.pair TCrc .unit), .unit, rfl, s_StandardCrc⟩
noncomputable def σ_s_StandardCrc : FuncId → Option Spec := sig []
theorem σok_s_StandardCrc : ∀ f s, σ_s_StandardCrc f = some s → FnOK G0 Tryz.prog f s := sig_ok (l := []) trivial
noncomputable def Λ_s_StandardCrc : Nat → Option LSpec := lkp (loopList (bodyOf Tryz.f124)) []
theorem ok_s_StandardCrc : FnOK G0 Tryz.prog 124 S_s_StandardCrc := fn_ok (Λ := Λ_s_StandardCrc) tab0 σok_s_StandardCrc Tryz.func124 (by kernel_rfl) (show Tryz.f124.body = some (bodyOf Tryz.f124) by kernel_rfl) [] rfl (by kernel_rfl) (by exact trivial) (by kernel_rfl)
  fun x y h => (show execFn Γ0 E0 σ_s_StandardCrc Λ_s_StandardCrc Tryz.f124 S_s_StandardCrc x = s_StandardCrc x by kernel_rfl).trans h

noncomputable def b_s_l01Append_3 (x : (Ty.T (.pair (.int .i64) (.pair (.own 2 (.int .i64)) (.pair (.int .i64) .unit))))) : Option ((Ty.T (.pair (.int .i64) (.pair (.own 2 (.int .i64)) (.pair (.int .i64) .unit)))) ⊕ ((Ty.T (.pair (.own 2 (.int .i64)) .unit)) ⊕ (Ty.T .unit))) :=
match (decide (x.2.2.1 ≥ (0 : Int))) with
| true =>
 if (IntKind.u64.wrap x.2.2.1) < 0 then none else
 room (x.2.1.length + [(bits BinOp.and .i64 (Int.fdiv x.1 (2 ^ min (IntKind.u64.wrap x.2.2.1).toNat IntKind.i64.bits)) (1 : Int))].length) (
  some (.inl (x.1, (x.2.1 ++ [(bits BinOp.and .i64 (Int.fdiv x.1 (2 ^ min (IntKind.u64.wrap x.2.2.1).toNat IntKind.i64.bits)) (1 : Int))]), (IntKind.i64.wrap (x.2.2.1 - (1 : Int))), ())))
| false =>
 some (.inr (.inl (x.2.1, ())))
noncomputable def s_l01Append (x : Ty.T (.pair (.list (.int .i64)) TCrc)) : Option (Ty.T (.pair (.own 2 (.int .i64)) .unit)) :=
room (([] : List (Ty.T (.int .i64))).length + x.1.length) (
 match loopL b_s_l01Append_3 (x.2.1, (([] : List (Ty.T (.int .i64))) ++ x.1), (IntKind.i64.wrap (x.2.2.1 - (1 : Int))), ()) with
 | none => none
 | some (.inl v1) =>
  some (v1.1, ())
 | some (.inr v3) =>
  none)
noncomputable def S_s_l01Append : Spec := ⟨(.pair (.list (.int .i64)) TCrc), (.pair (.own 2 (.int .i64)) .unit), .unit, rfl, s_l01Append⟩
noncomputable def σ_s_l01Append : FuncId → Option Spec := sig []
theorem σok_s_l01Append : ∀ f s, σ_s_l01Append f = some s → FnOK G0 Tryz.prog f s := sig_ok (l := []) trivial
noncomputable def Λ_s_l01Append : Nat → Option LSpec := lkp (loopList (bodyOf Tryz.f175)) [⟨[1, 7, 8], (.pair (.int .i64) (.pair (.own 2 (.int .i64)) (.pair (.int .i64) .unit))), 0, [7], (.pair (.own 2 (.int .i64)) .unit), [], .unit, loopL b_s_l01Append_3⟩]
theorem lok_s_l01Append_3 (x) : codeK Γ0 E0 σ_s_l01Append Λ_s_l01Append Tryz.f175.ntmps (nthLoop Tryz.f175 0) (mkF Tryz.f175.ntmps [1, 7, 8] (.pair (.int .i64) (.pair (.own 2 (.int .i64)) (.pair (.int .i64) .unit))) x) (readK σ_s_l01Append Tryz.f175.ntmps [1, 7, 8] (.pair (.int .i64) (.pair (.own 2 (.int .i64)) (.pair (.int .i64) .unit))) 0 [7] (.pair (.own 2 (.int .i64)) .unit) [] .unit) = b_s_l01Append_3 x := by kernel_rfl
theorem ok_s_l01Append : FnOK G0 Tryz.prog 175 S_s_l01Append := fn_ok (Λ := Λ_s_l01Append) tab0 σok_s_l01Append Tryz.func175 (by kernel_rfl) (show Tryz.f175.body = some (bodyOf Tryz.f175) by kernel_rfl) [⟨[1, 7, 8], (.pair (.int .i64) (.pair (.own 2 (.int .i64)) (.pair (.int .i64) .unit))), 0, [7], (.pair (.own 2 (.int .i64)) .unit), [], .unit, loopL b_s_l01Append_3⟩] rfl (by kernel_rfl) (by exact ⟨loop_LOK (lok_s_l01Append_3), trivial⟩) (by kernel_rfl)
  fun x y h => (show execFn Γ0 E0 σ_s_l01Append Λ_s_l01Append Tryz.f175 S_s_l01Append x = s_l01Append x by kernel_rfl).trans h

noncomputable def s_l04Bits (x : Ty.T (.pair TState .unit)) : Option (Ty.T (.pair (.own 2 (.int .i64)) .unit)) :=
match s_l01Append ([], x.1.1, (16 : Int), ()) with
| none => none
| some v1 =>
match s_l01Append (v1.1, x.1.2.1, (4 : Int), ()) with
| none => none
| some v2 =>
match s_l01Append (v2.1, x.1.2.2.1, (4 : Int), ()) with
| none => none
| some v3 =>
match s_l01Append (v3.1, x.1.2.2.2.1, (8 : Int), ()) with
| none => none
| some v4 =>
match s_l01Append (v4.1, x.1.2.2.2.2.1, (32 : Int), ()) with
| none => none
| some v5 =>
some (v5.1, ())
noncomputable def S_s_l04Bits : Spec := ⟨(.pair TState .unit), (.pair (.own 2 (.int .i64)) .unit), .unit, rfl, s_l04Bits⟩
noncomputable def σ_s_l04Bits : FuncId → Option Spec := sig [(175, S_s_l01Append)]
theorem σok_s_l04Bits : ∀ f s, σ_s_l04Bits f = some s → FnOK G0 Tryz.prog f s := sig_ok (l := [(175, S_s_l01Append)]) ⟨ok_s_l01Append, trivial⟩
noncomputable def Λ_s_l04Bits : Nat → Option LSpec := lkp (loopList (bodyOf Tryz.f125)) []
theorem ok_s_l04Bits : FnOK G0 Tryz.prog 125 S_s_l04Bits := fn_ok (Λ := Λ_s_l04Bits) tab0 σok_s_l04Bits Tryz.func125 (by kernel_rfl) (show Tryz.f125.body = some (bodyOf Tryz.f125) by kernel_rfl) [] rfl (by kernel_rfl) (by exact trivial) (by kernel_rfl)
  fun x y h => (show execFn Γ0 E0 σ_s_l04Bits Λ_s_l04Bits Tryz.f125 S_s_l04Bits x = s_l04Bits x by kernel_rfl).trans h

noncomputable def b_s_l01Bits_6 (x : (Ty.T (.pair (.list (.int .i64)) (.pair (.own 2 (.int .i64)) TCrc)))) : Option ((Ty.T (.pair (.list (.int .i64)) (.pair (.own 2 (.int .i64)) TCrc))) ⊕ ((Ty.T (.pair (.list (.int .i64)) (.pair (.own 2 (.int .i64)) (.pair (.int .i64) .unit)))) ⊕ (Ty.T .unit))) :=
match (decide (x.2.2.2.1 ≥ (0 : Int))) with
| true =>
 onSome (idx x.1 x.2.2.1) fun v1 =>
 if (IntKind.u64.wrap x.2.2.2.1) < 0 then none else
 room (x.2.1.length + [(bits BinOp.and .i64 (Int.fdiv v1 (2 ^ min (IntKind.u64.wrap x.2.2.2.1).toNat IntKind.i64.bits)) (1 : Int))].length) (
  some (.inl (x.1, (x.2.1 ++ [(bits BinOp.and .i64 (Int.fdiv v1 (2 ^ min (IntKind.u64.wrap x.2.2.2.1).toNat IntKind.i64.bits)) (1 : Int))]), x.2.2.1, (IntKind.i64.wrap (x.2.2.2.1 - (1 : Int))), ())))
| false =>
 some (.inr (.inl (x.1, x.2.1, x.2.2.1, ())))
noncomputable def b_s_l01Bits_3 (x : (Ty.T (.pair (.list (.int .i64)) (.pair (.own 2 (.int .i64)) (.pair (.int .i64) .unit))))) : Option ((Ty.T (.pair (.list (.int .i64)) (.pair (.own 2 (.int .i64)) (.pair (.int .i64) .unit)))) ⊕ ((Ty.T (.pair (.own 2 (.int .i64)) .unit)) ⊕ (Ty.T .unit))) :=
match (decide (x.2.2.1 < (x.1.length : Int))) with
| true =>
 match loopL b_s_l01Bits_6 (x.1, x.2.1, x.2.2.1, (7 : Int), ()) with
 | none => none
 | some (.inl v1) =>
  some (.inl (v1.1, v1.2.1, (IntKind.i64.wrap (v1.2.2.1 + (1 : Int))), ()))
 | some (.inr v3) =>
  some (.inr (.inr (())))
| false =>
 some (.inr (.inl (x.2.1, ())))
noncomputable def s_l01Bits (x : Ty.T (.pair (.list (.int .i64)) .unit)) : Option (Ty.T (.pair (.own 2 (.int .i64)) .unit)) :=
match loopL b_s_l01Bits_3 (x.1, [], (0 : Int), ()) with
| none => none
| some (.inl v4) =>
 some (v4.1, ())
| some (.inr v6) =>
 none
noncomputable def S_s_l01Bits : Spec := ⟨(.pair (.list (.int .i64)) .unit), (.pair (.own 2 (.int .i64)) .unit), .unit, rfl, s_l01Bits⟩
noncomputable def σ_s_l01Bits : FuncId → Option Spec := sig []
theorem σok_s_l01Bits : ∀ f s, σ_s_l01Bits f = some s → FnOK G0 Tryz.prog f s := sig_ok (l := []) trivial
noncomputable def Λ_s_l01Bits : Nat → Option LSpec := lkp (loopList (bodyOf Tryz.f126)) [⟨[0, 3, 4], (.pair (.list (.int .i64)) (.pair (.own 2 (.int .i64)) (.pair (.int .i64) .unit))), 0, [3], (.pair (.own 2 (.int .i64)) .unit), [], .unit, loopL b_s_l01Bits_3⟩, ⟨[0, 3, 4, 5], (.pair (.list (.int .i64)) (.pair (.own 2 (.int .i64)) TCrc)), 2, [0, 3, 4], (.pair (.list (.int .i64)) (.pair (.own 2 (.int .i64)) (.pair (.int .i64) .unit))), [], .unit, loopL b_s_l01Bits_6⟩]
theorem lok_s_l01Bits_3 (x) : codeK Γ0 E0 σ_s_l01Bits Λ_s_l01Bits Tryz.f126.ntmps (nthLoop Tryz.f126 0) (mkF Tryz.f126.ntmps [0, 3, 4] (.pair (.list (.int .i64)) (.pair (.own 2 (.int .i64)) (.pair (.int .i64) .unit))) x) (readK σ_s_l01Bits Tryz.f126.ntmps [0, 3, 4] (.pair (.list (.int .i64)) (.pair (.own 2 (.int .i64)) (.pair (.int .i64) .unit))) 0 [3] (.pair (.own 2 (.int .i64)) .unit) [] .unit) = b_s_l01Bits_3 x := by kernel_rfl
theorem lok_s_l01Bits_6 (x) : codeK Γ0 E0 σ_s_l01Bits Λ_s_l01Bits Tryz.f126.ntmps (nthLoop Tryz.f126 1) (mkF Tryz.f126.ntmps [0, 3, 4, 5] (.pair (.list (.int .i64)) (.pair (.own 2 (.int .i64)) TCrc)) x) (readK σ_s_l01Bits Tryz.f126.ntmps [0, 3, 4, 5] (.pair (.list (.int .i64)) (.pair (.own 2 (.int .i64)) TCrc)) 2 [0, 3, 4] (.pair (.list (.int .i64)) (.pair (.own 2 (.int .i64)) (.pair (.int .i64) .unit))) [] .unit) = b_s_l01Bits_6 x := by kernel_rfl
theorem ok_s_l01Bits : FnOK G0 Tryz.prog 126 S_s_l01Bits := fn_ok (Λ := Λ_s_l01Bits) tab0 σok_s_l01Bits Tryz.func126 (by kernel_rfl) (show Tryz.f126.body = some (bodyOf Tryz.f126) by kernel_rfl) [⟨[0, 3, 4], (.pair (.list (.int .i64)) (.pair (.own 2 (.int .i64)) (.pair (.int .i64) .unit))), 0, [3], (.pair (.own 2 (.int .i64)) .unit), [], .unit, loopL b_s_l01Bits_3⟩, ⟨[0, 3, 4, 5], (.pair (.list (.int .i64)) (.pair (.own 2 (.int .i64)) TCrc)), 2, [0, 3, 4], (.pair (.list (.int .i64)) (.pair (.own 2 (.int .i64)) (.pair (.int .i64) .unit))), [], .unit, loopL b_s_l01Bits_6⟩] rfl (by kernel_rfl) (by exact ⟨loop_LOK (lok_s_l01Bits_3), loop_LOK (lok_s_l01Bits_6), trivial⟩) (by kernel_rfl)
  fun x y h => (show execFn Γ0 E0 σ_s_l01Bits Λ_s_l01Bits Tryz.f126 S_s_l01Bits x = s_l01Bits x by kernel_rfl).trans h

noncomputable def s_l07Number (x : Ty.T (.pair (.int .i64) (.pair (.list (.int .i64)) (.pair (.int .i64) (.pair TState .unit))))) : Option (Ty.T (.pair (.int .i64) .unit)) :=
match (x.1 == (0 : Int)) with
| true =>
 match s_StandardCrc (()) with
 | none => none
 | some v1 =>
 match s_l04Bits ((x.2.2.2.1.1, x.2.2.2.1.2.1, x.2.2.2.1.2.2.1, x.2.2.2.1.2.2.2.1, x.2.2.2.1.2.2.2.2.1, ()), ()) with
 | none => none
 | some v2 =>
 match s_l02Feed (v1.1, x.2.2.1, v2.1, ()) with
 | none => none
 | some v3 =>
 match s_StandardCrc (()) with
 | none => none
 | some v4 =>
 match s_l01Bits (x.2.1, ()) with
 | none => none
 | some v5 =>
 match s_l02Feed (v4.1, v3.1, v5.1, ()) with
 | none => none
 | some v6 =>
 some (v6.1, ())
| false =>
 match s_StandardCrc (()) with
 | none => none
 | some v7 =>
 match s_l01Bits (x.2.1, ()) with
 | none => none
 | some v8 =>
 match s_l02Feed (v7.1, x.2.2.1, v8.1, ()) with
 | none => none
 | some v9 =>
 some (v9.1, ())
noncomputable def S_s_l07Number : Spec := ⟨(.pair (.int .i64) (.pair (.list (.int .i64)) (.pair (.int .i64) (.pair TState .unit)))), (.pair (.int .i64) .unit), .unit, rfl, s_l07Number⟩
noncomputable def σ_s_l07Number : FuncId → Option Spec := sig [(123, S_s_l02Feed), (124, S_s_StandardCrc), (125, S_s_l04Bits), (126, S_s_l01Bits)]
theorem σok_s_l07Number : ∀ f s, σ_s_l07Number f = some s → FnOK G0 Tryz.prog f s := sig_ok (l := [(123, S_s_l02Feed), (124, S_s_StandardCrc), (125, S_s_l04Bits), (126, S_s_l01Bits)]) ⟨ok_s_l02Feed, ok_s_StandardCrc, ok_s_l04Bits, ok_s_l01Bits, trivial⟩
noncomputable def Λ_s_l07Number : Nat → Option LSpec := lkp (loopList (bodyOf Tryz.f91)) []
theorem ok_s_l07Number : FnOK G0 Tryz.prog 91 S_s_l07Number := fn_ok (Λ := Λ_s_l07Number) tab0 σok_s_l07Number Tryz.func91 (by kernel_rfl) (show Tryz.f91.body = some (bodyOf Tryz.f91) by kernel_rfl) [] rfl (by kernel_rfl) (by exact trivial) (by kernel_rfl)
  fun x y h => (show execFn Γ0 E0 σ_s_l07Number Λ_s_l07Number Tryz.f91 S_s_l07Number x = s_l07Number x by kernel_rfl).trans h

noncomputable def b_s_l01Same_4 (x : (Ty.T (.pair (.list (.int .i64)) (.pair (.list (.int .i64)) (.pair (.int .i64) .unit))))) : Option ((Ty.T (.pair (.list (.int .i64)) (.pair (.list (.int .i64)) (.pair (.int .i64) .unit)))) ⊕ ((Ty.T .unit) ⊕ (Ty.T (.pair .bool .unit)))) :=
match (decide (x.2.2.1 < (x.1.length : Int))) with
| true =>
 onSome (idx x.1 x.2.2.1) fun v1 =>
 onSome (idx x.2.1 x.2.2.1) fun v2 =>
 match (v1 != v2) with
 | true =>
  some (.inr (.inr (false, ())))
 | false =>
  some (.inl (x.1, x.2.1, (IntKind.i64.wrap (x.2.2.1 + (1 : Int))), ()))
| false =>
 some (.inr (.inl (())))
noncomputable def s_l01Same (x : Ty.T (.pair (.list (.int .i64)) (.pair (.list (.int .i64)) .unit))) : Option (Ty.T (.pair .bool .unit)) :=
match ((x.1.length : Int) != (x.2.1.length : Int)) with
| true =>
 some (false, ())
| false =>
 match loopL b_s_l01Same_4 (x.1, x.2.1, (0 : Int), ()) with
 | none => none
 | some (.inl v3) =>
  some (true, ())
 | some (.inr v4) =>
  some (v4.1, ())
noncomputable def S_s_l01Same : Spec := ⟨(.pair (.list (.int .i64)) (.pair (.list (.int .i64)) .unit)), (.pair .bool .unit), .unit, rfl, s_l01Same⟩
noncomputable def σ_s_l01Same : FuncId → Option Spec := sig []
theorem σok_s_l01Same : ∀ f s, σ_s_l01Same f = some s → FnOK G0 Tryz.prog f s := sig_ok (l := []) trivial
noncomputable def Λ_s_l01Same : Nat → Option LSpec := lkp (loopList (bodyOf Tryz.f81)) [⟨[0, 1, 5], (.pair (.list (.int .i64)) (.pair (.list (.int .i64)) (.pair (.int .i64) .unit))), 0, [], .unit, [4], (.pair .bool .unit), loopL b_s_l01Same_4⟩]
theorem lok_s_l01Same_4 (x) : codeK Γ0 E0 σ_s_l01Same Λ_s_l01Same Tryz.f81.ntmps (nthLoop Tryz.f81 0) (mkF Tryz.f81.ntmps [0, 1, 5] (.pair (.list (.int .i64)) (.pair (.list (.int .i64)) (.pair (.int .i64) .unit))) x) (readK σ_s_l01Same Tryz.f81.ntmps [0, 1, 5] (.pair (.list (.int .i64)) (.pair (.list (.int .i64)) (.pair (.int .i64) .unit))) 0 [] .unit [4] (.pair .bool .unit)) = b_s_l01Same_4 x := by kernel_rfl
theorem ok_s_l01Same : FnOK G0 Tryz.prog 81 S_s_l01Same := fn_ok (Λ := Λ_s_l01Same) tab0 σok_s_l01Same Tryz.func81 (by kernel_rfl) (show Tryz.f81.body = some (bodyOf Tryz.f81) by kernel_rfl) [⟨[0, 1, 5], (.pair (.list (.int .i64)) (.pair (.list (.int .i64)) (.pair (.int .i64) .unit))), 0, [], .unit, [4], (.pair .bool .unit), loopL b_s_l01Same_4⟩] rfl (by kernel_rfl) (by exact ⟨loop_LOK (lok_s_l01Same_4), trivial⟩) (by kernel_rfl)
  fun x y h => (show execFn Γ0 E0 σ_s_l01Same Λ_s_l01Same Tryz.f81 S_s_l01Same x = s_l01Same x by kernel_rfl).trans h

noncomputable def s_IsBytes (x : Ty.T (.pair (.list (.int .i64)) .unit)) : Option (Ty.T (.pair .bool .unit)) :=
match s_l01All (x.1, (1024 : Int), (255 : Int), ()) with
| none => none
| some v1 =>
some (v1.1, ())
noncomputable def S_s_IsBytes : Spec := ⟨(.pair (.list (.int .i64)) .unit), (.pair .bool .unit), .unit, rfl, s_IsBytes⟩
noncomputable def σ_s_IsBytes : FuncId → Option Spec := sig [(66, S_s_l01All)]
theorem σok_s_IsBytes : ∀ f s, σ_s_IsBytes f = some s → FnOK G0 Tryz.prog f s := sig_ok (l := [(66, S_s_l01All)]) ⟨ok_s_l01All, trivial⟩
noncomputable def Λ_s_IsBytes : Nat → Option LSpec := lkp (loopList (bodyOf Tryz.f135)) []
theorem ok_s_IsBytes : FnOK G0 Tryz.prog 135 S_s_IsBytes := fn_ok (Λ := Λ_s_IsBytes) tab0 σok_s_IsBytes Tryz.func135 (by kernel_rfl) (show Tryz.f135.body = some (bodyOf Tryz.f135) by kernel_rfl) [] rfl (by kernel_rfl) (by exact trivial) (by kernel_rfl)
  fun x y h => (show execFn Γ0 E0 σ_s_IsBytes Λ_s_IsBytes Tryz.f135 S_s_IsBytes x = s_IsBytes x by kernel_rfl).trans h

noncomputable def b_s_l05Vector_2 (x : (Ty.T (.pair (.list (.int .i64)) (.pair (.int .i64) .unit)))) : Option ((Ty.T (.pair (.list (.int .i64)) (.pair (.int .i64) .unit))) ⊕ ((Ty.T .unit) ⊕ (Ty.T (.pair .bool .unit)))) :=
match (decide (x.2.1 < (x.1.length : Int))) with
| true =>
 onSome (idx x.1 x.2.1) fun v1 =>
 match s_l01In (v1, (0 : Int), (4294967295 : Int), ()) with
 | none => none
 | some v2 =>
 match (!v2.1) with
 | true =>
  some (.inr (.inr (false, ())))
 | false =>
  some (.inl (x.1, (IntKind.i64.wrap (x.2.1 + (1 : Int))), ()))
| false =>
 some (.inr (.inl (())))
noncomputable def s_l05Vector (x : Ty.T (.pair (.list (.int .i64)) .unit)) : Option (Ty.T (.pair .bool .unit)) :=
match loopL b_s_l05Vector_2 (x.1, (0 : Int), ()) with
| none => none
| some (.inl v3) =>
 some (true, ())
| some (.inr v4) =>
 some (v4.1, ())
noncomputable def S_s_l05Vector : Spec := ⟨(.pair (.list (.int .i64)) .unit), (.pair .bool .unit), .unit, rfl, s_l05Vector⟩
noncomputable def σ_s_l05Vector : FuncId → Option Spec := sig [(87, S_s_l01In)]
theorem σok_s_l05Vector : ∀ f s, σ_s_l05Vector f = some s → FnOK G0 Tryz.prog f s := sig_ok (l := [(87, S_s_l01In)]) ⟨ok_s_l01In, trivial⟩
noncomputable def Λ_s_l05Vector : Nat → Option LSpec := lkp (loopList (bodyOf Tryz.f179)) [⟨[0, 3], (.pair (.list (.int .i64)) (.pair (.int .i64) .unit)), 0, [], .unit, [2], (.pair .bool .unit), loopL b_s_l05Vector_2⟩]
theorem lok_s_l05Vector_2 (x) : codeK Γ0 E0 σ_s_l05Vector Λ_s_l05Vector Tryz.f179.ntmps (nthLoop Tryz.f179 0) (mkF Tryz.f179.ntmps [0, 3] (.pair (.list (.int .i64)) (.pair (.int .i64) .unit)) x) (readK σ_s_l05Vector Tryz.f179.ntmps [0, 3] (.pair (.list (.int .i64)) (.pair (.int .i64) .unit)) 0 [] .unit [2] (.pair .bool .unit)) = b_s_l05Vector_2 x := by kernel_rfl
theorem ok_s_l05Vector : FnOK G0 Tryz.prog 179 S_s_l05Vector := fn_ok (Λ := Λ_s_l05Vector) tab0 σok_s_l05Vector Tryz.func179 (by kernel_rfl) (show Tryz.f179.body = some (bodyOf Tryz.f179) by kernel_rfl) [⟨[0, 3], (.pair (.list (.int .i64)) (.pair (.int .i64) .unit)), 0, [], .unit, [2], (.pair .bool .unit), loopL b_s_l05Vector_2⟩] rfl (by kernel_rfl) (by exact ⟨loop_LOK (lok_s_l05Vector_2), trivial⟩) (by kernel_rfl)
  fun x y h => (show execFn Γ0 E0 σ_s_l05Vector Λ_s_l05Vector Tryz.f179 S_s_l05Vector x = s_l05Vector x by kernel_rfl).trans h

noncomputable def b_s_MembersOf_5 (x : (Ty.T (.pair (.int .i64) (.pair (.own 2 (.int .i64)) (.pair (.int .i64) .unit))))) : Option ((Ty.T (.pair (.int .i64) (.pair (.own 2 (.int .i64)) (.pair (.int .i64) .unit)))) ⊕ ((Ty.T (.pair (.own 2 (.int .i64)) .unit)) ⊕ (Ty.T .unit))) :=
match (decide (x.2.2.1 < (32 : Int))) with
| true =>
 match s_l05Has (x.1, x.2.2.1, ()) with
 | none => none
 | some v2 =>
 match v2.1 with
 | true =>
  room (x.2.1.length + [x.2.2.1].length) (
   some (.inl (x.1, (x.2.1 ++ [x.2.2.1]), (IntKind.i64.wrap (x.2.2.1 + (1 : Int))), ())))
 | false =>
  some (.inl (x.1, x.2.1, (IntKind.i64.wrap (x.2.2.1 + (1 : Int))), ()))
| false =>
 some (.inr (.inl (x.2.1, ())))
noncomputable def s_MembersOf (x : Ty.T (.pair (.int .i64) .unit)) : Option (Ty.T (.pair (.own 2 (.int .i64)) (.pair (.int .i64) .unit))) :=
match s_l05Vector ([x.1], ()) with
| none => none
| some v1 =>
match (!v1.1) with
| true =>
 some ([], (2 : Int), ())
| false =>
 match loopL b_s_MembersOf_5 (x.1, [], (0 : Int), ()) with
 | none => none
 | some (.inl v3) =>
  some (v3.1, (0 : Int), ())
 | some (.inr v5) =>
  none
noncomputable def S_s_MembersOf : Spec := ⟨(.pair (.int .i64) .unit), (.pair (.own 2 (.int .i64)) (.pair (.int .i64) .unit)), .unit, rfl, s_MembersOf⟩
noncomputable def σ_s_MembersOf : FuncId → Option Spec := sig [(169, S_s_l05Has), (179, S_s_l05Vector)]
theorem σok_s_MembersOf : ∀ f s, σ_s_MembersOf f = some s → FnOK G0 Tryz.prog f s := sig_ok (l := [(169, S_s_l05Has), (179, S_s_l05Vector)]) ⟨ok_s_l05Has, ok_s_l05Vector, trivial⟩
noncomputable def Λ_s_MembersOf : Nat → Option LSpec := lkp (loopList (bodyOf Tryz.f136)) [⟨[0, 4, 5], (.pair (.int .i64) (.pair (.own 2 (.int .i64)) (.pair (.int .i64) .unit))), 0, [4], (.pair (.own 2 (.int .i64)) .unit), [], .unit, loopL b_s_MembersOf_5⟩]
theorem lok_s_MembersOf_5 (x) : codeK Γ0 E0 σ_s_MembersOf Λ_s_MembersOf Tryz.f136.ntmps (nthLoop Tryz.f136 0) (mkF Tryz.f136.ntmps [0, 4, 5] (.pair (.int .i64) (.pair (.own 2 (.int .i64)) (.pair (.int .i64) .unit))) x) (readK σ_s_MembersOf Tryz.f136.ntmps [0, 4, 5] (.pair (.int .i64) (.pair (.own 2 (.int .i64)) (.pair (.int .i64) .unit))) 0 [4] (.pair (.own 2 (.int .i64)) .unit) [] .unit) = b_s_MembersOf_5 x := by kernel_rfl
theorem ok_s_MembersOf : FnOK G0 Tryz.prog 136 S_s_MembersOf := fn_ok (Λ := Λ_s_MembersOf) tab0 σok_s_MembersOf Tryz.func136 (by kernel_rfl) (show Tryz.f136.body = some (bodyOf Tryz.f136) by kernel_rfl) [⟨[0, 4, 5], (.pair (.int .i64) (.pair (.own 2 (.int .i64)) (.pair (.int .i64) .unit))), 0, [4], (.pair (.own 2 (.int .i64)) .unit), [], .unit, loopL b_s_MembersOf_5⟩] rfl (by kernel_rfl) (by exact ⟨loop_LOK (lok_s_MembersOf_5), trivial⟩) (by kernel_rfl)
  fun x y h => (show execFn Γ0 E0 σ_s_MembersOf Λ_s_MembersOf Tryz.f136 S_s_MembersOf x = s_MembersOf x by kernel_rfl).trans h

noncomputable def s_IsFrame (x : Ty.T (.pair TFrame .unit)) : Option (Ty.T (.pair .bool .unit)) :=
match s_l06Kind (x.1.1, ()) with
| none => none
| some v1 =>
match (!v1.1) with
| true =>
 some (false, ())
| false =>
 match s_l01In (x.1.2.1, (0 : Int), (7 : Int), ()) with
 | none => none
 | some v2 =>
 match (!v2.1) with
 | true =>
  some (false, ())
 | false =>
  match s_l06Size (x.1.1, (x.1.2.2.2.1.length : Int), ()) with
  | none => none
  | some v3 =>
  match (!v3.1) with
  | true =>
   some (false, ())
  | false =>
   match s_IsBytes (x.1.2.2.2.1, ()) with
   | none => none
   | some v4 =>
   match (!v4.1) with
   | true =>
    some (false, ())
   | false =>
    match (x.1.1 == (0 : Int)) with
    | true =>
     some ((eqT TState (x.1.2.2.1.1, x.1.2.2.1.2.1, x.1.2.2.1.2.2.1, x.1.2.2.1.2.2.2.1, x.1.2.2.1.2.2.2.2.1, ()) ((0 : Int), (0 : Int), (0 : Int), (0 : Int), (0 : Int), ())), ())
    | false =>
     match (x.1.1 == (3 : Int)) with
     | true =>
      match s_MembersOf (x.1.2.2.1.2.2.2.2.1, ()) with
      | none => none
      | some v5 =>
      match s_IsState ((x.1.2.2.1.1, x.1.2.2.1.2.1, x.1.2.2.1.2.2.1, x.1.2.2.1.2.2.2.1, x.1.2.2.1.2.2.2.2.1, ()), ()) with
      | none => none
      | some v6 =>
      match v6.1 with
      | true =>
       match (x.1.2.2.1.2.1 == (0 : Int)) with
       | true =>
        match ((v5.1.length : Int) == (1 : Int)) with
        | true =>
         some ((x.1.2.1 == (0 : Int)), ())
        | false =>
         some (false, ())
       | false =>
        some (false, ())
      | false =>
       some (false, ())
     | false =>
      match s_IsState ((x.1.2.2.1.1, x.1.2.2.1.2.1, x.1.2.2.1.2.2.1, x.1.2.2.1.2.2.2.1, x.1.2.2.1.2.2.2.2.1, ()), ()) with
      | none => none
      | some v7 =>
      some (v7.1, ())
noncomputable def S_s_IsFrame : Spec := ⟨(.pair TFrame .unit), (.pair .bool .unit), .unit, rfl, s_IsFrame⟩
noncomputable def σ_s_IsFrame : FuncId → Option Spec := sig [(84, S_s_IsState), (87, S_s_l01In), (132, S_s_l06Kind), (133, S_s_l06Size), (135, S_s_IsBytes), (136, S_s_MembersOf)]
theorem σok_s_IsFrame : ∀ f s, σ_s_IsFrame f = some s → FnOK G0 Tryz.prog f s := sig_ok (l := [(84, S_s_IsState), (87, S_s_l01In), (132, S_s_l06Kind), (133, S_s_l06Size), (135, S_s_IsBytes), (136, S_s_MembersOf)]) ⟨ok_s_IsState, ok_s_l01In, ok_s_l06Kind, ok_s_l06Size, ok_s_IsBytes, ok_s_MembersOf, trivial⟩
noncomputable def Λ_s_IsFrame : Nat → Option LSpec := lkp (loopList (bodyOf Tryz.f95)) []
theorem ok_s_IsFrame : FnOK G0 Tryz.prog 95 S_s_IsFrame := fn_ok (Λ := Λ_s_IsFrame) tab0 σok_s_IsFrame Tryz.func95 (by kernel_rfl) (show Tryz.f95.body = some (bodyOf Tryz.f95) by kernel_rfl) [] rfl (by kernel_rfl) (by exact trivial) (by kernel_rfl)
  fun x y h => (show execFn Γ0 E0 σ_s_IsFrame Λ_s_IsFrame Tryz.f95 S_s_IsFrame x = s_IsFrame x by kernel_rfl).trans h

noncomputable def b_s_l01Number_3 (x : (Ty.T (.pair (.list (.int .i64)) (.pair (.int .i64) (.pair (.int .i64) TCrc))))) : Option ((Ty.T (.pair (.list (.int .i64)) (.pair (.int .i64) (.pair (.int .i64) TCrc)))) ⊕ ((Ty.T (.pair (.int .i64) .unit)) ⊕ (Ty.T .unit))) :=
match (decide (x.2.2.2.2.1 < x.2.2.1)) with
| true =>
 onSome (idx x.1 (IntKind.i64.wrap (x.2.1 + x.2.2.2.2.1))) fun v1 =>
 some (.inl (x.1, x.2.1, x.2.2.1, (IntKind.i64.wrap ((IntKind.i64.wrap ((2 : Int) * x.2.2.2.1)) + v1)), (IntKind.i64.wrap (x.2.2.2.2.1 + (1 : Int))), ()))
| false =>
 some (.inr (.inl (x.2.2.2.1, ())))
noncomputable def s_l01Number (x : Ty.T (.pair (.list (.int .i64)) TCrc)) : Option (Ty.T (.pair (.int .i64) .unit)) :=
match loopL b_s_l01Number_3 (x.1, x.2.1, x.2.2.1, (0 : Int), (0 : Int), ()) with
| none => none
| some (.inl v2) =>
 some (v2.1, ())
| some (.inr v4) =>
 none
noncomputable def S_s_l01Number : Spec := ⟨(.pair (.list (.int .i64)) TCrc), (.pair (.int .i64) .unit), .unit, rfl, s_l01Number⟩
noncomputable def σ_s_l01Number : FuncId → Option Spec := sig []
theorem σok_s_l01Number : ∀ f s, σ_s_l01Number f = some s → FnOK G0 Tryz.prog f s := sig_ok (l := []) trivial
noncomputable def Λ_s_l01Number : Nat → Option LSpec := lkp (loopList (bodyOf Tryz.f176)) [⟨[0, 1, 2, 7, 8], (.pair (.list (.int .i64)) (.pair (.int .i64) (.pair (.int .i64) TCrc))), 0, [7], (.pair (.int .i64) .unit), [], .unit, loopL b_s_l01Number_3⟩]
theorem lok_s_l01Number_3 (x) : codeK Γ0 E0 σ_s_l01Number Λ_s_l01Number Tryz.f176.ntmps (nthLoop Tryz.f176 0) (mkF Tryz.f176.ntmps [0, 1, 2, 7, 8] (.pair (.list (.int .i64)) (.pair (.int .i64) (.pair (.int .i64) TCrc))) x) (readK σ_s_l01Number Tryz.f176.ntmps [0, 1, 2, 7, 8] (.pair (.list (.int .i64)) (.pair (.int .i64) (.pair (.int .i64) TCrc))) 0 [7] (.pair (.int .i64) .unit) [] .unit) = b_s_l01Number_3 x := by kernel_rfl
theorem ok_s_l01Number : FnOK G0 Tryz.prog 176 S_s_l01Number := fn_ok (Λ := Λ_s_l01Number) tab0 σok_s_l01Number Tryz.func176 (by kernel_rfl) (show Tryz.f176.body = some (bodyOf Tryz.f176) by kernel_rfl) [⟨[0, 1, 2, 7, 8], (.pair (.list (.int .i64)) (.pair (.int .i64) (.pair (.int .i64) TCrc))), 0, [7], (.pair (.int .i64) .unit), [], .unit, loopL b_s_l01Number_3⟩] rfl (by kernel_rfl) (by exact ⟨loop_LOK (lok_s_l01Number_3), trivial⟩) (by kernel_rfl)
  fun x y h => (show execFn Γ0 E0 σ_s_l01Number Λ_s_l01Number Tryz.f176 S_s_l01Number x = s_l01Number x by kernel_rfl).trans h

noncomputable def s_l04State (x : Ty.T (.pair (.list (.int .i64)) .unit)) : Option (Ty.T (.pair TState .unit)) :=
match s_l01Number (x.1, (0 : Int), (16 : Int), ()) with
| none => none
| some v1 =>
match s_l01Number (x.1, (16 : Int), (4 : Int), ()) with
| none => none
| some v2 =>
match s_l01Number (x.1, (20 : Int), (4 : Int), ()) with
| none => none
| some v3 =>
match s_l01Number (x.1, (24 : Int), (8 : Int), ()) with
| none => none
| some v4 =>
match s_l01Number (x.1, (32 : Int), (32 : Int), ()) with
| none => none
| some v5 =>
some ((v1.1, v2.1, v3.1, v4.1, v5.1, ()), ())
noncomputable def S_s_l04State : Spec := ⟨(.pair (.list (.int .i64)) .unit), (.pair TState .unit), .unit, rfl, s_l04State⟩
noncomputable def σ_s_l04State : FuncId → Option Spec := sig [(176, S_s_l01Number)]
theorem σok_s_l04State : ∀ f s, σ_s_l04State f = some s → FnOK G0 Tryz.prog f s := sig_ok (l := [(176, S_s_l01Number)]) ⟨ok_s_l01Number, trivial⟩
noncomputable def Λ_s_l04State : Nat → Option LSpec := lkp (loopList (bodyOf Tryz.f127)) []
theorem ok_s_l04State : FnOK G0 Tryz.prog 127 S_s_l04State := fn_ok (Λ := Λ_s_l04State) tab0 σok_s_l04State Tryz.func127 (by kernel_rfl) (show Tryz.f127.body = some (bodyOf Tryz.f127) by kernel_rfl) [] rfl (by kernel_rfl) (by exact trivial) (by kernel_rfl)
  fun x y h => (show execFn Γ0 E0 σ_s_l04State Λ_s_l04State Tryz.f127 S_s_l04State x = s_l04State x by kernel_rfl).trans h

noncomputable def s_l01Own (x : Ty.T (.pair (.list (.int .i64)) .unit)) : Option (Ty.T (.pair (.own 2 (.int .i64)) .unit)) :=
room (([] : List (Ty.T (.int .i64))).length + x.1.length) (
 some ((([] : List (Ty.T (.int .i64))) ++ x.1), ()))
noncomputable def S_s_l01Own : Spec := ⟨(.pair (.list (.int .i64)) .unit), (.pair (.own 2 (.int .i64)) .unit), .unit, rfl, s_l01Own⟩
noncomputable def σ_s_l01Own : FuncId → Option Spec := sig []
theorem σok_s_l01Own : ∀ f s, σ_s_l01Own f = some s → FnOK G0 Tryz.prog f s := sig_ok (l := []) trivial
noncomputable def Λ_s_l01Own : Nat → Option LSpec := lkp (loopList (bodyOf Tryz.f129)) []
theorem ok_s_l01Own : FnOK G0 Tryz.prog 129 S_s_l01Own := fn_ok (Λ := Λ_s_l01Own) tab0 σok_s_l01Own Tryz.func129 (by kernel_rfl) (show Tryz.f129.body = some (bodyOf Tryz.f129) by kernel_rfl) [] rfl (by kernel_rfl) (by exact trivial) (by kernel_rfl)
  fun x y h => (show execFn Γ0 E0 σ_s_l01Own Λ_s_l01Own Tryz.f129 S_s_l01Own x = s_l01Own x by kernel_rfl).trans h

noncomputable def b_s_l01Bytes_3 (x : (Ty.T (.pair (.list (.int .i64)) (.pair (.own 2 (.int .i64)) (.pair (.int .i64) .unit))))) : Option ((Ty.T (.pair (.list (.int .i64)) (.pair (.own 2 (.int .i64)) (.pair (.int .i64) .unit)))) ⊕ ((Ty.T (.pair (.own 2 (.int .i64)) .unit)) ⊕ (Ty.T .unit))) :=
match (decide ((IntKind.i64.wrap (x.2.2.1 + (8 : Int))) ≤ (x.1.length : Int))) with
| true =>
 match s_l01Number (x.1, x.2.2.1, (8 : Int), ()) with
 | none => none
 | some v1 =>
 room (x.2.1.length + [v1.1].length) (
  some (.inl (x.1, (x.2.1 ++ [v1.1]), (IntKind.i64.wrap (x.2.2.1 + (8 : Int))), ())))
| false =>
 some (.inr (.inl (x.2.1, ())))
noncomputable def s_l01Bytes (x : Ty.T (.pair (.list (.int .i64)) .unit)) : Option (Ty.T (.pair (.own 2 (.int .i64)) .unit)) :=
match loopL b_s_l01Bytes_3 (x.1, [], (0 : Int), ()) with
| none => none
| some (.inl v2) =>
 some (v2.1, ())
| some (.inr v4) =>
 none
noncomputable def S_s_l01Bytes : Spec := ⟨(.pair (.list (.int .i64)) .unit), (.pair (.own 2 (.int .i64)) .unit), .unit, rfl, s_l01Bytes⟩
noncomputable def σ_s_l01Bytes : FuncId → Option Spec := sig [(176, S_s_l01Number)]
theorem σok_s_l01Bytes : ∀ f s, σ_s_l01Bytes f = some s → FnOK G0 Tryz.prog f s := sig_ok (l := [(176, S_s_l01Number)]) ⟨ok_s_l01Number, trivial⟩
noncomputable def Λ_s_l01Bytes : Nat → Option LSpec := lkp (loopList (bodyOf Tryz.f177)) [⟨[0, 3, 4], (.pair (.list (.int .i64)) (.pair (.own 2 (.int .i64)) (.pair (.int .i64) .unit))), 0, [3], (.pair (.own 2 (.int .i64)) .unit), [], .unit, loopL b_s_l01Bytes_3⟩]
theorem lok_s_l01Bytes_3 (x) : codeK Γ0 E0 σ_s_l01Bytes Λ_s_l01Bytes Tryz.f177.ntmps (nthLoop Tryz.f177 0) (mkF Tryz.f177.ntmps [0, 3, 4] (.pair (.list (.int .i64)) (.pair (.own 2 (.int .i64)) (.pair (.int .i64) .unit))) x) (readK σ_s_l01Bytes Tryz.f177.ntmps [0, 3, 4] (.pair (.list (.int .i64)) (.pair (.own 2 (.int .i64)) (.pair (.int .i64) .unit))) 0 [3] (.pair (.own 2 (.int .i64)) .unit) [] .unit) = b_s_l01Bytes_3 x := by kernel_rfl
theorem ok_s_l01Bytes : FnOK G0 Tryz.prog 177 S_s_l01Bytes := fn_ok (Λ := Λ_s_l01Bytes) tab0 σok_s_l01Bytes Tryz.func177 (by kernel_rfl) (show Tryz.f177.body = some (bodyOf Tryz.f177) by kernel_rfl) [⟨[0, 3, 4], (.pair (.list (.int .i64)) (.pair (.own 2 (.int .i64)) (.pair (.int .i64) .unit))), 0, [3], (.pair (.own 2 (.int .i64)) .unit), [], .unit, loopL b_s_l01Bytes_3⟩] rfl (by kernel_rfl) (by exact ⟨loop_LOK (lok_s_l01Bytes_3), trivial⟩) (by kernel_rfl)
  fun x y h => (show execFn Γ0 E0 σ_s_l01Bytes Λ_s_l01Bytes Tryz.f177 S_s_l01Bytes x = s_l01Bytes x by kernel_rfl).trans h

noncomputable def s_l06Body (x : Ty.T (.pair TFrame .unit)) : Option (Ty.T (.pair (.own 2 (.int .i64)) .unit)) :=
match s_l06State (x.1.1, ()) with
| none => none
| some v1 =>
match v1.1 with
| true =>
 match s_l04Bits ((x.1.2.2.1.1, x.1.2.2.1.2.1, x.1.2.2.1.2.2.1, x.1.2.2.1.2.2.2.1, x.1.2.2.1.2.2.2.2.1, ()), ()) with
 | none => none
 | some v2 =>
 match s_l01Bytes (v2.1, ()) with
 | none => none
 | some v3 =>
 room ([(IntKind.i64.wrap ((IntKind.i64.wrap (x.1.1 * (64 : Int))) + (IntKind.i64.wrap (x.1.2.1 * (8 : Int)))))].length + v3.1.length) (
  match s_l06Data (x.1.1, ()) with
  | none => none
  | some v4 =>
  match v4.1 with
  | true =>
   room (([(IntKind.i64.wrap ((IntKind.i64.wrap (x.1.1 * (64 : Int))) + (IntKind.i64.wrap (x.1.2.1 * (8 : Int)))))] ++ v3.1).length + [(x.1.2.2.2.1.length : Int)].length) (
    room ((([(IntKind.i64.wrap ((IntKind.i64.wrap (x.1.1 * (64 : Int))) + (IntKind.i64.wrap (x.1.2.1 * (8 : Int)))))] ++ v3.1) ++ [(x.1.2.2.2.1.length : Int)]).length + x.1.2.2.2.1.length) (
     some (((([(IntKind.i64.wrap ((IntKind.i64.wrap (x.1.1 * (64 : Int))) + (IntKind.i64.wrap (x.1.2.1 * (8 : Int)))))] ++ v3.1) ++ [(x.1.2.2.2.1.length : Int)]) ++ x.1.2.2.2.1), ())))
  | false =>
   some (([(IntKind.i64.wrap ((IntKind.i64.wrap (x.1.1 * (64 : Int))) + (IntKind.i64.wrap (x.1.2.1 * (8 : Int)))))] ++ v3.1), ()))
| false =>
 match s_l06Data (x.1.1, ()) with
 | none => none
 | some v5 =>
 match v5.1 with
 | true =>
  room ([(IntKind.i64.wrap ((IntKind.i64.wrap (x.1.1 * (64 : Int))) + (IntKind.i64.wrap (x.1.2.1 * (8 : Int)))))].length + [(x.1.2.2.2.1.length : Int)].length) (
   room (([(IntKind.i64.wrap ((IntKind.i64.wrap (x.1.1 * (64 : Int))) + (IntKind.i64.wrap (x.1.2.1 * (8 : Int)))))] ++ [(x.1.2.2.2.1.length : Int)]).length + x.1.2.2.2.1.length) (
    some ((([(IntKind.i64.wrap ((IntKind.i64.wrap (x.1.1 * (64 : Int))) + (IntKind.i64.wrap (x.1.2.1 * (8 : Int)))))] ++ [(x.1.2.2.2.1.length : Int)]) ++ x.1.2.2.2.1), ())))
 | false =>
  some ([(IntKind.i64.wrap ((IntKind.i64.wrap (x.1.1 * (64 : Int))) + (IntKind.i64.wrap (x.1.2.1 * (8 : Int)))))], ())
noncomputable def S_s_l06Body : Spec := ⟨(.pair TFrame .unit), (.pair (.own 2 (.int .i64)) .unit), .unit, rfl, s_l06Body⟩
noncomputable def σ_s_l06Body : FuncId → Option Spec := sig [(93, S_s_l06State), (125, S_s_l04Bits), (128, S_s_l06Data), (177, S_s_l01Bytes)]
theorem σok_s_l06Body : ∀ f s, σ_s_l06Body f = some s → FnOK G0 Tryz.prog f s := sig_ok (l := [(93, S_s_l06State), (125, S_s_l04Bits), (128, S_s_l06Data), (177, S_s_l01Bytes)]) ⟨ok_s_l06State, ok_s_l04Bits, ok_s_l06Data, ok_s_l01Bytes, trivial⟩
noncomputable def Λ_s_l06Body : Nat → Option LSpec := lkp (loopList (bodyOf Tryz.f130)) []
theorem ok_s_l06Body : FnOK G0 Tryz.prog 130 S_s_l06Body := fn_ok (Λ := Λ_s_l06Body) tab0 σok_s_l06Body Tryz.func130 (by kernel_rfl) (show Tryz.f130.body = some (bodyOf Tryz.f130) by kernel_rfl) [] rfl (by kernel_rfl) (by exact trivial) (by kernel_rfl)
  fun x y h => (show execFn Γ0 E0 σ_s_l06Body Λ_s_l06Body Tryz.f130 S_s_l06Body x = s_l06Body x by kernel_rfl).trans h

noncomputable def s_l06Frame (x : Ty.T (.pair (.list (.int .i64)) .unit)) : Option (Ty.T (.pair (.pair (.int .i64) (.pair (.int .i64) (.pair TState (.pair (.own 2 (.int .i64)) .unit)))) (.pair .bool .unit))) :=
match ((x.1.length : Int) == (0 : Int)) with
| true =>
 some (((0 : Int), (0 : Int), ((0 : Int), (0 : Int), (0 : Int), (0 : Int), (0 : Int), ()), [], ()), false, ())
| false =>
 onSome (idx x.1 (0 : Int)) fun v1 =>
 onSome (idx x.1 (0 : Int)) fun v2 =>
 same (
  onSome (bounds x.1.length (some (.dat (.int .i64) (1 : Int))) none) fun v3 =>
  match s_l06State ((IntKind.i64.wrap (Int.tdiv v1 (64 : Int))), ()) with
  | none => none
  | some v4 =>
  match v4.1 with
  | true =>
   match (decide (((List.drop v3.1 (List.take v3.2 x.1)).length : Int) < (8 : Int))) with
   | true =>
    some (((0 : Int), (0 : Int), ((0 : Int), (0 : Int), (0 : Int), (0 : Int), (0 : Int), ()), [], ()), false, ())
   | false =>
    onSome (bounds (List.drop v3.1 (List.take v3.2 x.1)).length none (some (.dat (.int .i64) (8 : Int)))) fun v5 =>
    match s_l01Bits ((List.drop v5.1 (List.take v5.2 (List.drop v3.1 (List.take v3.2 x.1)))), ()) with
    | none => none
    | some v6 =>
    match s_l04State (v6.1, ()) with
    | none => none
    | some v7 =>
    onSome (bounds (List.drop v3.1 (List.take v3.2 x.1)).length (some (.dat (.int .i64) (8 : Int))) none) fun v8 =>
    match s_l06Data ((IntKind.i64.wrap (Int.tdiv v1 (64 : Int))), ()) with
    | none => none
    | some v9 =>
    match v9.1 with
    | true =>
     match (((List.drop v8.1 (List.take v8.2 (List.drop v3.1 (List.take v3.2 x.1)))).length : Int) == (0 : Int)) with
     | true =>
      some (((0 : Int), (0 : Int), ((0 : Int), (0 : Int), (0 : Int), (0 : Int), (0 : Int), ()), [], ()), false, ())
     | false =>
      onSome (bounds (List.drop v8.1 (List.take v8.2 (List.drop v3.1 (List.take v3.2 x.1)))).length (some (.dat (.int .i64) (1 : Int))) none) fun v10 =>
      match s_l01Own ((List.drop v10.1 (List.take v10.2 (List.drop v8.1 (List.take v8.2 (List.drop v3.1 (List.take v3.2 x.1)))))), ()) with
      | none => none
      | some v11 =>
      both (
       match s_IsFrame (((IntKind.i64.wrap (Int.tdiv v1 (64 : Int))), (Int.tmod (IntKind.i64.wrap (Int.tdiv v2 (8 : Int))) (8 : Int)), (v7.1.1, v7.1.2.1, v7.1.2.2.1, v7.1.2.2.2.1, v7.1.2.2.2.2.1, ()), v11.1, ()), ()) with
       | none => none
       | some v12 =>
       match v12.1 with
       | true =>
        match s_l06Body (((IntKind.i64.wrap (Int.tdiv v1 (64 : Int))), (Int.tmod (IntKind.i64.wrap (Int.tdiv v2 (8 : Int))) (8 : Int)), (v7.1.1, v7.1.2.1, v7.1.2.2.1, v7.1.2.2.2.1, v7.1.2.2.2.2.1, ()), v11.1, ()), ()) with
        | none => none
        | some v13 =>
        match s_l01Same (v13.1, x.1, ()) with
        | none => none
        | some v14 =>
        some (((IntKind.i64.wrap (Int.tdiv v1 (64 : Int))), (Int.tmod (IntKind.i64.wrap (Int.tdiv v2 (8 : Int))) (8 : Int)), (v7.1.1, v7.1.2.1, v7.1.2.2.1, v7.1.2.2.2.1, v7.1.2.2.2.2.1, ()), v11.1, ()), v14.1, ())
       | false =>
        some (((IntKind.i64.wrap (Int.tdiv v1 (64 : Int))), (Int.tmod (IntKind.i64.wrap (Int.tdiv v2 (8 : Int))) (8 : Int)), (v7.1.1, v7.1.2.1, v7.1.2.2.1, v7.1.2.2.2.1, v7.1.2.2.2.2.1, ()), v11.1, ()), false, ())) (
       both (
        match s_IsFrame (((IntKind.i64.wrap (Int.tdiv v1 (64 : Int))), (Int.tmod (IntKind.i64.wrap (Int.tdiv v2 (8 : Int))) (8 : Int)), (v7.1.1, v7.1.2.1, v7.1.2.2.1, v7.1.2.2.2.1, v7.1.2.2.2.2.1, ()), v11.1, ()), ()) with
        | none => none
        | some v12 =>
        match v12.1 with
        | true =>
         match s_l06Body (((IntKind.i64.wrap (Int.tdiv v1 (64 : Int))), (Int.tmod (IntKind.i64.wrap (Int.tdiv v2 (8 : Int))) (8 : Int)), (v7.1.1, v7.1.2.1, v7.1.2.2.1, v7.1.2.2.2.1, v7.1.2.2.2.2.1, ()), v11.1, ()), ()) with
         | none => none
         | some v13 =>
         match s_l01Same (v13.1, x.1, ()) with
         | none => none
         | some v14 =>
         some (((IntKind.i64.wrap (Int.tdiv v1 (64 : Int))), (Int.tmod (IntKind.i64.wrap (Int.tdiv v2 (8 : Int))) (8 : Int)), (v7.1.1, v7.1.2.1, v7.1.2.2.1, v7.1.2.2.2.1, v7.1.2.2.2.2.1, ()), v11.1, ()), v14.1, ())
        | false =>
         some (((IntKind.i64.wrap (Int.tdiv v1 (64 : Int))), (Int.tmod (IntKind.i64.wrap (Int.tdiv v2 (8 : Int))) (8 : Int)), (v7.1.1, v7.1.2.1, v7.1.2.2.1, v7.1.2.2.2.1, v7.1.2.2.2.2.1, ()), v11.1, ()), false, ())) (
        match s_IsFrame (((IntKind.i64.wrap (Int.tdiv v1 (64 : Int))), (Int.tmod (IntKind.i64.wrap (Int.tdiv v2 (8 : Int))) (8 : Int)), (v7.1.1, v7.1.2.1, v7.1.2.2.1, v7.1.2.2.2.1, v7.1.2.2.2.2.1, ()), v11.1, ()), ()) with
        | none => none
        | some v12 =>
        match v12.1 with
        | true =>
         both (
          match s_l06Body (((IntKind.i64.wrap (Int.tdiv v1 (64 : Int))), (Int.tmod (IntKind.i64.wrap (Int.tdiv v2 (8 : Int))) (8 : Int)), (v7.1.1, v7.1.2.1, v7.1.2.2.1, v7.1.2.2.2.1, v7.1.2.2.2.2.1, ()), v11.1, ()), ()) with
          | none => none
          | some v13 =>
          match s_l01Same (v13.1, x.1, ()) with
          | none => none
          | some v14 =>
          some (((IntKind.i64.wrap (Int.tdiv v1 (64 : Int))), (Int.tmod (IntKind.i64.wrap (Int.tdiv v2 (8 : Int))) (8 : Int)), (v7.1.1, v7.1.2.1, v7.1.2.2.1, v7.1.2.2.2.1, v7.1.2.2.2.2.1, ()), v11.1, ()), v14.1, ())) (
          both (
           match s_l06Body (((IntKind.i64.wrap (Int.tdiv v1 (64 : Int))), (Int.tmod (IntKind.i64.wrap (Int.tdiv v2 (8 : Int))) (8 : Int)), (v7.1.1, v7.1.2.1, v7.1.2.2.1, v7.1.2.2.2.1, v7.1.2.2.2.2.1, ()), v11.1, ()), ()) with
           | none => none
           | some v13 =>
           match s_l01Same (v13.1, x.1, ()) with
           | none => none
           | some v14 =>
           some (((IntKind.i64.wrap (Int.tdiv v1 (64 : Int))), (Int.tmod (IntKind.i64.wrap (Int.tdiv v2 (8 : Int))) (8 : Int)), (v7.1.1, v7.1.2.1, v7.1.2.2.1, v7.1.2.2.2.1, v7.1.2.2.2.2.1, ()), v11.1, ()), v14.1, ())) (
           match s_l06Body (((IntKind.i64.wrap (Int.tdiv v1 (64 : Int))), (Int.tmod (IntKind.i64.wrap (Int.tdiv v2 (8 : Int))) (8 : Int)), (v7.1.1, v7.1.2.1, v7.1.2.2.1, v7.1.2.2.2.1, v7.1.2.2.2.2.1, ()), v11.1, ()), ()) with
           | none => none
           | some v13 =>
           same (
            match s_l01Same (v13.1, x.1, ()) with
            | none => none
            | some v14 =>
            some (((IntKind.i64.wrap (Int.tdiv v1 (64 : Int))), (Int.tmod (IntKind.i64.wrap (Int.tdiv v2 (8 : Int))) (8 : Int)), (v7.1.1, v7.1.2.1, v7.1.2.2.1, v7.1.2.2.2.1, v7.1.2.2.2.2.1, ()), v11.1, ()), v14.1, ()))))
        | false =>
         both (
          some (((IntKind.i64.wrap (Int.tdiv v1 (64 : Int))), (Int.tmod (IntKind.i64.wrap (Int.tdiv v2 (8 : Int))) (8 : Int)), (v7.1.1, v7.1.2.1, v7.1.2.2.1, v7.1.2.2.2.1, v7.1.2.2.2.2.1, ()), v11.1, ()), false, ())) (
          both (
           some (((IntKind.i64.wrap (Int.tdiv v1 (64 : Int))), (Int.tmod (IntKind.i64.wrap (Int.tdiv v2 (8 : Int))) (8 : Int)), (v7.1.1, v7.1.2.1, v7.1.2.2.1, v7.1.2.2.2.1, v7.1.2.2.2.2.1, ()), v11.1, ()), false, ())) (
           same (
            some (((IntKind.i64.wrap (Int.tdiv v1 (64 : Int))), (Int.tmod (IntKind.i64.wrap (Int.tdiv v2 (8 : Int))) (8 : Int)), (v7.1.1, v7.1.2.1, v7.1.2.2.1, v7.1.2.2.2.1, v7.1.2.2.2.2.1, ()), v11.1, ()), false, ()))))))
    | false =>
     both (
      match s_IsFrame (((IntKind.i64.wrap (Int.tdiv v1 (64 : Int))), (Int.tmod (IntKind.i64.wrap (Int.tdiv v2 (8 : Int))) (8 : Int)), (v7.1.1, v7.1.2.1, v7.1.2.2.1, v7.1.2.2.2.1, v7.1.2.2.2.2.1, ()), [], ()), ()) with
      | none => none
      | some v15 =>
      match v15.1 with
      | true =>
       match s_l06Body (((IntKind.i64.wrap (Int.tdiv v1 (64 : Int))), (Int.tmod (IntKind.i64.wrap (Int.tdiv v2 (8 : Int))) (8 : Int)), (v7.1.1, v7.1.2.1, v7.1.2.2.1, v7.1.2.2.2.1, v7.1.2.2.2.2.1, ()), [], ()), ()) with
       | none => none
       | some v16 =>
       match s_l01Same (v16.1, x.1, ()) with
       | none => none
       | some v17 =>
       some (((IntKind.i64.wrap (Int.tdiv v1 (64 : Int))), (Int.tmod (IntKind.i64.wrap (Int.tdiv v2 (8 : Int))) (8 : Int)), (v7.1.1, v7.1.2.1, v7.1.2.2.1, v7.1.2.2.2.1, v7.1.2.2.2.2.1, ()), [], ()), v17.1, ())
      | false =>
       some (((IntKind.i64.wrap (Int.tdiv v1 (64 : Int))), (Int.tmod (IntKind.i64.wrap (Int.tdiv v2 (8 : Int))) (8 : Int)), (v7.1.1, v7.1.2.1, v7.1.2.2.1, v7.1.2.2.2.1, v7.1.2.2.2.2.1, ()), [], ()), false, ())) (
      both (
       match s_IsFrame (((IntKind.i64.wrap (Int.tdiv v1 (64 : Int))), (Int.tmod (IntKind.i64.wrap (Int.tdiv v2 (8 : Int))) (8 : Int)), (v7.1.1, v7.1.2.1, v7.1.2.2.1, v7.1.2.2.2.1, v7.1.2.2.2.2.1, ()), [], ()), ()) with
       | none => none
       | some v15 =>
       match v15.1 with
       | true =>
        match s_l06Body (((IntKind.i64.wrap (Int.tdiv v1 (64 : Int))), (Int.tmod (IntKind.i64.wrap (Int.tdiv v2 (8 : Int))) (8 : Int)), (v7.1.1, v7.1.2.1, v7.1.2.2.1, v7.1.2.2.2.1, v7.1.2.2.2.2.1, ()), [], ()), ()) with
        | none => none
        | some v16 =>
        match s_l01Same (v16.1, x.1, ()) with
        | none => none
        | some v17 =>
        some (((IntKind.i64.wrap (Int.tdiv v1 (64 : Int))), (Int.tmod (IntKind.i64.wrap (Int.tdiv v2 (8 : Int))) (8 : Int)), (v7.1.1, v7.1.2.1, v7.1.2.2.1, v7.1.2.2.2.1, v7.1.2.2.2.2.1, ()), [], ()), v17.1, ())
       | false =>
        some (((IntKind.i64.wrap (Int.tdiv v1 (64 : Int))), (Int.tmod (IntKind.i64.wrap (Int.tdiv v2 (8 : Int))) (8 : Int)), (v7.1.1, v7.1.2.1, v7.1.2.2.1, v7.1.2.2.2.1, v7.1.2.2.2.2.1, ()), [], ()), false, ())) (
       match s_IsFrame (((IntKind.i64.wrap (Int.tdiv v1 (64 : Int))), (Int.tmod (IntKind.i64.wrap (Int.tdiv v2 (8 : Int))) (8 : Int)), (v7.1.1, v7.1.2.1, v7.1.2.2.1, v7.1.2.2.2.1, v7.1.2.2.2.2.1, ()), [], ()), ()) with
       | none => none
       | some v15 =>
       match v15.1 with
       | true =>
        both (
         match s_l06Body (((IntKind.i64.wrap (Int.tdiv v1 (64 : Int))), (Int.tmod (IntKind.i64.wrap (Int.tdiv v2 (8 : Int))) (8 : Int)), (v7.1.1, v7.1.2.1, v7.1.2.2.1, v7.1.2.2.2.1, v7.1.2.2.2.2.1, ()), [], ()), ()) with
         | none => none
         | some v16 =>
         match s_l01Same (v16.1, x.1, ()) with
         | none => none
         | some v17 =>
         some (((IntKind.i64.wrap (Int.tdiv v1 (64 : Int))), (Int.tmod (IntKind.i64.wrap (Int.tdiv v2 (8 : Int))) (8 : Int)), (v7.1.1, v7.1.2.1, v7.1.2.2.1, v7.1.2.2.2.1, v7.1.2.2.2.2.1, ()), [], ()), v17.1, ())) (
         both (
          match s_l06Body (((IntKind.i64.wrap (Int.tdiv v1 (64 : Int))), (Int.tmod (IntKind.i64.wrap (Int.tdiv v2 (8 : Int))) (8 : Int)), (v7.1.1, v7.1.2.1, v7.1.2.2.1, v7.1.2.2.2.1, v7.1.2.2.2.2.1, ()), [], ()), ()) with
          | none => none
          | some v16 =>
          match s_l01Same (v16.1, x.1, ()) with
          | none => none
          | some v17 =>
          some (((IntKind.i64.wrap (Int.tdiv v1 (64 : Int))), (Int.tmod (IntKind.i64.wrap (Int.tdiv v2 (8 : Int))) (8 : Int)), (v7.1.1, v7.1.2.1, v7.1.2.2.1, v7.1.2.2.2.1, v7.1.2.2.2.2.1, ()), [], ()), v17.1, ())) (
          match s_l06Body (((IntKind.i64.wrap (Int.tdiv v1 (64 : Int))), (Int.tmod (IntKind.i64.wrap (Int.tdiv v2 (8 : Int))) (8 : Int)), (v7.1.1, v7.1.2.1, v7.1.2.2.1, v7.1.2.2.2.1, v7.1.2.2.2.2.1, ()), [], ()), ()) with
          | none => none
          | some v16 =>
          same (
           match s_l01Same (v16.1, x.1, ()) with
           | none => none
           | some v17 =>
           some (((IntKind.i64.wrap (Int.tdiv v1 (64 : Int))), (Int.tmod (IntKind.i64.wrap (Int.tdiv v2 (8 : Int))) (8 : Int)), (v7.1.1, v7.1.2.1, v7.1.2.2.1, v7.1.2.2.2.1, v7.1.2.2.2.2.1, ()), [], ()), v17.1, ()))))
       | false =>
        both (
         some (((IntKind.i64.wrap (Int.tdiv v1 (64 : Int))), (Int.tmod (IntKind.i64.wrap (Int.tdiv v2 (8 : Int))) (8 : Int)), (v7.1.1, v7.1.2.1, v7.1.2.2.1, v7.1.2.2.2.1, v7.1.2.2.2.2.1, ()), [], ()), false, ())) (
         both (
          some (((IntKind.i64.wrap (Int.tdiv v1 (64 : Int))), (Int.tmod (IntKind.i64.wrap (Int.tdiv v2 (8 : Int))) (8 : Int)), (v7.1.1, v7.1.2.1, v7.1.2.2.1, v7.1.2.2.2.1, v7.1.2.2.2.2.1, ()), [], ()), false, ())) (
          same (
           some (((IntKind.i64.wrap (Int.tdiv v1 (64 : Int))), (Int.tmod (IntKind.i64.wrap (Int.tdiv v2 (8 : Int))) (8 : Int)), (v7.1.1, v7.1.2.1, v7.1.2.2.1, v7.1.2.2.2.1, v7.1.2.2.2.2.1, ()), [], ()), false, ()))))))
  | false =>
   match s_l06Data ((IntKind.i64.wrap (Int.tdiv v1 (64 : Int))), ()) with
   | none => none
   | some v18 =>
   match v18.1 with
   | true =>
    match (((List.drop v3.1 (List.take v3.2 x.1)).length : Int) == (0 : Int)) with
    | true =>
     some (((0 : Int), (0 : Int), ((0 : Int), (0 : Int), (0 : Int), (0 : Int), (0 : Int), ()), [], ()), false, ())
    | false =>
     onSome (bounds (List.drop v3.1 (List.take v3.2 x.1)).length (some (.dat (.int .i64) (1 : Int))) none) fun v19 =>
     match s_l01Own ((List.drop v19.1 (List.take v19.2 (List.drop v3.1 (List.take v3.2 x.1)))), ()) with
     | none => none
     | some v20 =>
     both (
      match s_IsFrame (((IntKind.i64.wrap (Int.tdiv v1 (64 : Int))), (Int.tmod (IntKind.i64.wrap (Int.tdiv v2 (8 : Int))) (8 : Int)), ((0 : Int), (0 : Int), (0 : Int), (0 : Int), (0 : Int), ()), v20.1, ()), ()) with
      | none => none
      | some v21 =>
      match v21.1 with
      | true =>
       match s_l06Body (((IntKind.i64.wrap (Int.tdiv v1 (64 : Int))), (Int.tmod (IntKind.i64.wrap (Int.tdiv v2 (8 : Int))) (8 : Int)), ((0 : Int), (0 : Int), (0 : Int), (0 : Int), (0 : Int), ()), v20.1, ()), ()) with
       | none => none
       | some v22 =>
       match s_l01Same (v22.1, x.1, ()) with
       | none => none
       | some v23 =>
       some (((IntKind.i64.wrap (Int.tdiv v1 (64 : Int))), (Int.tmod (IntKind.i64.wrap (Int.tdiv v2 (8 : Int))) (8 : Int)), ((0 : Int), (0 : Int), (0 : Int), (0 : Int), (0 : Int), ()), v20.1, ()), v23.1, ())
      | false =>
       some (((IntKind.i64.wrap (Int.tdiv v1 (64 : Int))), (Int.tmod (IntKind.i64.wrap (Int.tdiv v2 (8 : Int))) (8 : Int)), ((0 : Int), (0 : Int), (0 : Int), (0 : Int), (0 : Int), ()), v20.1, ()), false, ())) (
      both (
       match s_IsFrame (((IntKind.i64.wrap (Int.tdiv v1 (64 : Int))), (Int.tmod (IntKind.i64.wrap (Int.tdiv v2 (8 : Int))) (8 : Int)), ((0 : Int), (0 : Int), (0 : Int), (0 : Int), (0 : Int), ()), v20.1, ()), ()) with
       | none => none
       | some v21 =>
       match v21.1 with
       | true =>
        match s_l06Body (((IntKind.i64.wrap (Int.tdiv v1 (64 : Int))), (Int.tmod (IntKind.i64.wrap (Int.tdiv v2 (8 : Int))) (8 : Int)), ((0 : Int), (0 : Int), (0 : Int), (0 : Int), (0 : Int), ()), v20.1, ()), ()) with
        | none => none
        | some v22 =>
        match s_l01Same (v22.1, x.1, ()) with
        | none => none
        | some v23 =>
        some (((IntKind.i64.wrap (Int.tdiv v1 (64 : Int))), (Int.tmod (IntKind.i64.wrap (Int.tdiv v2 (8 : Int))) (8 : Int)), ((0 : Int), (0 : Int), (0 : Int), (0 : Int), (0 : Int), ()), v20.1, ()), v23.1, ())
       | false =>
        some (((IntKind.i64.wrap (Int.tdiv v1 (64 : Int))), (Int.tmod (IntKind.i64.wrap (Int.tdiv v2 (8 : Int))) (8 : Int)), ((0 : Int), (0 : Int), (0 : Int), (0 : Int), (0 : Int), ()), v20.1, ()), false, ())) (
       match s_IsFrame (((IntKind.i64.wrap (Int.tdiv v1 (64 : Int))), (Int.tmod (IntKind.i64.wrap (Int.tdiv v2 (8 : Int))) (8 : Int)), ((0 : Int), (0 : Int), (0 : Int), (0 : Int), (0 : Int), ()), v20.1, ()), ()) with
       | none => none
       | some v21 =>
       match v21.1 with
       | true =>
        both (
         match s_l06Body (((IntKind.i64.wrap (Int.tdiv v1 (64 : Int))), (Int.tmod (IntKind.i64.wrap (Int.tdiv v2 (8 : Int))) (8 : Int)), ((0 : Int), (0 : Int), (0 : Int), (0 : Int), (0 : Int), ()), v20.1, ()), ()) with
         | none => none
         | some v22 =>
         match s_l01Same (v22.1, x.1, ()) with
         | none => none
         | some v23 =>
         some (((IntKind.i64.wrap (Int.tdiv v1 (64 : Int))), (Int.tmod (IntKind.i64.wrap (Int.tdiv v2 (8 : Int))) (8 : Int)), ((0 : Int), (0 : Int), (0 : Int), (0 : Int), (0 : Int), ()), v20.1, ()), v23.1, ())) (
         both (
          match s_l06Body (((IntKind.i64.wrap (Int.tdiv v1 (64 : Int))), (Int.tmod (IntKind.i64.wrap (Int.tdiv v2 (8 : Int))) (8 : Int)), ((0 : Int), (0 : Int), (0 : Int), (0 : Int), (0 : Int), ()), v20.1, ()), ()) with
          | none => none
          | some v22 =>
          match s_l01Same (v22.1, x.1, ()) with
          | none => none
          | some v23 =>
          some (((IntKind.i64.wrap (Int.tdiv v1 (64 : Int))), (Int.tmod (IntKind.i64.wrap (Int.tdiv v2 (8 : Int))) (8 : Int)), ((0 : Int), (0 : Int), (0 : Int), (0 : Int), (0 : Int), ()), v20.1, ()), v23.1, ())) (
          match s_l06Body (((IntKind.i64.wrap (Int.tdiv v1 (64 : Int))), (Int.tmod (IntKind.i64.wrap (Int.tdiv v2 (8 : Int))) (8 : Int)), ((0 : Int), (0 : Int), (0 : Int), (0 : Int), (0 : Int), ()), v20.1, ()), ()) with
          | none => none
          | some v22 =>
          same (
           match s_l01Same (v22.1, x.1, ()) with
           | none => none
           | some v23 =>
           some (((IntKind.i64.wrap (Int.tdiv v1 (64 : Int))), (Int.tmod (IntKind.i64.wrap (Int.tdiv v2 (8 : Int))) (8 : Int)), ((0 : Int), (0 : Int), (0 : Int), (0 : Int), (0 : Int), ()), v20.1, ()), v23.1, ()))))
       | false =>
        both (
         some (((IntKind.i64.wrap (Int.tdiv v1 (64 : Int))), (Int.tmod (IntKind.i64.wrap (Int.tdiv v2 (8 : Int))) (8 : Int)), ((0 : Int), (0 : Int), (0 : Int), (0 : Int), (0 : Int), ()), v20.1, ()), false, ())) (
         both (
          some (((IntKind.i64.wrap (Int.tdiv v1 (64 : Int))), (Int.tmod (IntKind.i64.wrap (Int.tdiv v2 (8 : Int))) (8 : Int)), ((0 : Int), (0 : Int), (0 : Int), (0 : Int), (0 : Int), ()), v20.1, ()), false, ())) (
          same (
           some (((IntKind.i64.wrap (Int.tdiv v1 (64 : Int))), (Int.tmod (IntKind.i64.wrap (Int.tdiv v2 (8 : Int))) (8 : Int)), ((0 : Int), (0 : Int), (0 : Int), (0 : Int), (0 : Int), ()), v20.1, ()), false, ()))))))
   | false =>
    both (
     match s_IsFrame (((IntKind.i64.wrap (Int.tdiv v1 (64 : Int))), (Int.tmod (IntKind.i64.wrap (Int.tdiv v2 (8 : Int))) (8 : Int)), ((0 : Int), (0 : Int), (0 : Int), (0 : Int), (0 : Int), ()), [], ()), ()) with
     | none => none
     | some v24 =>
     match v24.1 with
     | true =>
      match s_l06Body (((IntKind.i64.wrap (Int.tdiv v1 (64 : Int))), (Int.tmod (IntKind.i64.wrap (Int.tdiv v2 (8 : Int))) (8 : Int)), ((0 : Int), (0 : Int), (0 : Int), (0 : Int), (0 : Int), ()), [], ()), ()) with
      | none => none
      | some v25 =>
      match s_l01Same (v25.1, x.1, ()) with
      | none => none
      | some v26 =>
      some (((IntKind.i64.wrap (Int.tdiv v1 (64 : Int))), (Int.tmod (IntKind.i64.wrap (Int.tdiv v2 (8 : Int))) (8 : Int)), ((0 : Int), (0 : Int), (0 : Int), (0 : Int), (0 : Int), ()), [], ()), v26.1, ())
     | false =>
      some (((IntKind.i64.wrap (Int.tdiv v1 (64 : Int))), (Int.tmod (IntKind.i64.wrap (Int.tdiv v2 (8 : Int))) (8 : Int)), ((0 : Int), (0 : Int), (0 : Int), (0 : Int), (0 : Int), ()), [], ()), false, ())) (
     both (
      match s_IsFrame (((IntKind.i64.wrap (Int.tdiv v1 (64 : Int))), (Int.tmod (IntKind.i64.wrap (Int.tdiv v2 (8 : Int))) (8 : Int)), ((0 : Int), (0 : Int), (0 : Int), (0 : Int), (0 : Int), ()), [], ()), ()) with
      | none => none
      | some v24 =>
      match v24.1 with
      | true =>
       match s_l06Body (((IntKind.i64.wrap (Int.tdiv v1 (64 : Int))), (Int.tmod (IntKind.i64.wrap (Int.tdiv v2 (8 : Int))) (8 : Int)), ((0 : Int), (0 : Int), (0 : Int), (0 : Int), (0 : Int), ()), [], ()), ()) with
       | none => none
       | some v25 =>
       match s_l01Same (v25.1, x.1, ()) with
       | none => none
       | some v26 =>
       some (((IntKind.i64.wrap (Int.tdiv v1 (64 : Int))), (Int.tmod (IntKind.i64.wrap (Int.tdiv v2 (8 : Int))) (8 : Int)), ((0 : Int), (0 : Int), (0 : Int), (0 : Int), (0 : Int), ()), [], ()), v26.1, ())
      | false =>
       some (((IntKind.i64.wrap (Int.tdiv v1 (64 : Int))), (Int.tmod (IntKind.i64.wrap (Int.tdiv v2 (8 : Int))) (8 : Int)), ((0 : Int), (0 : Int), (0 : Int), (0 : Int), (0 : Int), ()), [], ()), false, ())) (
      match s_IsFrame (((IntKind.i64.wrap (Int.tdiv v1 (64 : Int))), (Int.tmod (IntKind.i64.wrap (Int.tdiv v2 (8 : Int))) (8 : Int)), ((0 : Int), (0 : Int), (0 : Int), (0 : Int), (0 : Int), ()), [], ()), ()) with
      | none => none
      | some v24 =>
      match v24.1 with
      | true =>
       both (
        match s_l06Body (((IntKind.i64.wrap (Int.tdiv v1 (64 : Int))), (Int.tmod (IntKind.i64.wrap (Int.tdiv v2 (8 : Int))) (8 : Int)), ((0 : Int), (0 : Int), (0 : Int), (0 : Int), (0 : Int), ()), [], ()), ()) with
        | none => none
        | some v25 =>
        match s_l01Same (v25.1, x.1, ()) with
        | none => none
        | some v26 =>
        some (((IntKind.i64.wrap (Int.tdiv v1 (64 : Int))), (Int.tmod (IntKind.i64.wrap (Int.tdiv v2 (8 : Int))) (8 : Int)), ((0 : Int), (0 : Int), (0 : Int), (0 : Int), (0 : Int), ()), [], ()), v26.1, ())) (
        both (
         match s_l06Body (((IntKind.i64.wrap (Int.tdiv v1 (64 : Int))), (Int.tmod (IntKind.i64.wrap (Int.tdiv v2 (8 : Int))) (8 : Int)), ((0 : Int), (0 : Int), (0 : Int), (0 : Int), (0 : Int), ()), [], ()), ()) with
         | none => none
         | some v25 =>
         match s_l01Same (v25.1, x.1, ()) with
         | none => none
         | some v26 =>
         some (((IntKind.i64.wrap (Int.tdiv v1 (64 : Int))), (Int.tmod (IntKind.i64.wrap (Int.tdiv v2 (8 : Int))) (8 : Int)), ((0 : Int), (0 : Int), (0 : Int), (0 : Int), (0 : Int), ()), [], ()), v26.1, ())) (
         match s_l06Body (((IntKind.i64.wrap (Int.tdiv v1 (64 : Int))), (Int.tmod (IntKind.i64.wrap (Int.tdiv v2 (8 : Int))) (8 : Int)), ((0 : Int), (0 : Int), (0 : Int), (0 : Int), (0 : Int), ()), [], ()), ()) with
         | none => none
         | some v25 =>
         same (
          match s_l01Same (v25.1, x.1, ()) with
          | none => none
          | some v26 =>
          some (((IntKind.i64.wrap (Int.tdiv v1 (64 : Int))), (Int.tmod (IntKind.i64.wrap (Int.tdiv v2 (8 : Int))) (8 : Int)), ((0 : Int), (0 : Int), (0 : Int), (0 : Int), (0 : Int), ()), [], ()), v26.1, ()))))
      | false =>
       both (
        some (((IntKind.i64.wrap (Int.tdiv v1 (64 : Int))), (Int.tmod (IntKind.i64.wrap (Int.tdiv v2 (8 : Int))) (8 : Int)), ((0 : Int), (0 : Int), (0 : Int), (0 : Int), (0 : Int), ()), [], ()), false, ())) (
        both (
         some (((IntKind.i64.wrap (Int.tdiv v1 (64 : Int))), (Int.tmod (IntKind.i64.wrap (Int.tdiv v2 (8 : Int))) (8 : Int)), ((0 : Int), (0 : Int), (0 : Int), (0 : Int), (0 : Int), ()), [], ()), false, ())) (
         same (
          some (((IntKind.i64.wrap (Int.tdiv v1 (64 : Int))), (Int.tmod (IntKind.i64.wrap (Int.tdiv v2 (8 : Int))) (8 : Int)), ((0 : Int), (0 : Int), (0 : Int), (0 : Int), (0 : Int), ()), [], ()), false, ())))))))
noncomputable def S_s_l06Frame : Spec := ⟨(.pair (.list (.int .i64)) .unit), (.pair (.pair (.int .i64) (.pair (.int .i64) (.pair TState (.pair (.own 2 (.int .i64)) .unit)))) (.pair .bool .unit)), .unit, rfl, s_l06Frame⟩
noncomputable def σ_s_l06Frame : FuncId → Option Spec := sig [(81, S_s_l01Same), (93, S_s_l06State), (95, S_s_IsFrame), (126, S_s_l01Bits), (127, S_s_l04State), (128, S_s_l06Data), (129, S_s_l01Own), (130, S_s_l06Body)]
theorem σok_s_l06Frame : ∀ f s, σ_s_l06Frame f = some s → FnOK G0 Tryz.prog f s := sig_ok (l := [(81, S_s_l01Same), (93, S_s_l06State), (95, S_s_IsFrame), (126, S_s_l01Bits), (127, S_s_l04State), (128, S_s_l06Data), (129, S_s_l01Own), (130, S_s_l06Body)]) ⟨ok_s_l01Same, ok_s_l06State, ok_s_IsFrame, ok_s_l01Bits, ok_s_l04State, ok_s_l06Data, ok_s_l01Own, ok_s_l06Body, trivial⟩
noncomputable def Λ_s_l06Frame : Nat → Option LSpec := lkp (loopList (bodyOf Tryz.f92)) []
theorem ok_s_l06Frame : FnOK G0 Tryz.prog 92 S_s_l06Frame := fn_ok (Λ := Λ_s_l06Frame) tab0 σok_s_l06Frame Tryz.func92 (by kernel_rfl) (show Tryz.f92.body = some (bodyOf Tryz.f92) by kernel_rfl) [] rfl (by kernel_rfl) (by exact trivial) (by kernel_rfl)
  fun x y h => (show execFn Γ0 E0 σ_s_l06Frame Λ_s_l06Frame Tryz.f92 S_s_l06Frame x = s_l06Frame x by kernel_rfl).trans h

noncomputable def s_l07Open (x : Ty.T (.pair (.list (.int .i64)) (.pair (.int .i64) (.pair TState .unit)))) : Option (Ty.T (.pair (.pair (.int .i64) (.pair (.int .i64) (.pair TState (.pair (.own 2 (.int .i64)) .unit)))) (.pair (.int .i64) .unit))) :=
match (decide ((IntKind.i64.wrap ((x.1.length : Int) - (3 : Int))) < (1 : Int))) with
| true =>
 some (((0 : Int), (0 : Int), ((0 : Int), (0 : Int), (0 : Int), (0 : Int), (0 : Int), ()), [], ()), (6 : Int), ())
| false =>
 onSome (idx x.1 (IntKind.i64.wrap ((x.1.length : Int) - (3 : Int)))) fun v1 =>
 onSome (idx x.1 (IntKind.i64.wrap ((IntKind.i64.wrap ((x.1.length : Int) - (3 : Int))) + (1 : Int)))) fun v2 =>
 onSome (idx x.1 (IntKind.i64.wrap ((IntKind.i64.wrap ((x.1.length : Int) - (3 : Int))) + (2 : Int)))) fun v3 =>
 onSome (idx x.1 (0 : Int)) fun v4 =>
 onSome (bounds x.1.length none (some (.dat (.int .i64) (IntKind.i64.wrap ((x.1.length : Int) - (3 : Int)))))) fun v5 =>
 match s_l07Number ((IntKind.i64.wrap (Int.tdiv v4 (64 : Int))), (List.drop v5.1 (List.take v5.2 x.1)), x.2.1, (x.2.2.1.1, x.2.2.1.2.1, x.2.2.1.2.2.1, x.2.2.1.2.2.2.1, x.2.2.1.2.2.2.2.1, ()), ()) with
 | none => none
 | some v6 =>
 match (v6.1 != (IntKind.i64.wrap ((IntKind.i64.wrap ((IntKind.i64.wrap (v1 * (65536 : Int))) + (IntKind.i64.wrap (v2 * (256 : Int))))) + v3))) with
 | true =>
  some (((0 : Int), (0 : Int), ((0 : Int), (0 : Int), (0 : Int), (0 : Int), (0 : Int), ()), [], ()), (7 : Int), ())
 | false =>
  onSome (bounds x.1.length none (some (.dat (.int .i64) (IntKind.i64.wrap ((x.1.length : Int) - (3 : Int)))))) fun v7 =>
  match s_l06Frame ((List.drop v7.1 (List.take v7.2 x.1)), ()) with
  | none => none
  | some v8 =>
  match (!v8.2.1) with
  | true =>
   some (((0 : Int), (0 : Int), ((0 : Int), (0 : Int), (0 : Int), (0 : Int), (0 : Int), ()), [], ()), (6 : Int), ())
  | false =>
   match s_l06State (v8.1.1, ()) with
   | none => none
   | some v9 =>
   match v9.1 with
   | true =>
    match (!(eqT TState (v8.1.2.2.1.1, v8.1.2.2.1.2.1, v8.1.2.2.1.2.2.1, v8.1.2.2.1.2.2.2.1, v8.1.2.2.1.2.2.2.2.1, ()) (x.2.2.1.1, x.2.2.1.2.1, x.2.2.1.2.2.1, x.2.2.1.2.2.2.1, x.2.2.1.2.2.2.2.1, ()))) with
    | true =>
     some (((0 : Int), (0 : Int), ((0 : Int), (0 : Int), (0 : Int), (0 : Int), (0 : Int), ()), [], ()), (5 : Int), ())
    | false =>
     some ((v8.1.1, v8.1.2.1, (v8.1.2.2.1.1, v8.1.2.2.1.2.1, v8.1.2.2.1.2.2.1, v8.1.2.2.1.2.2.2.1, v8.1.2.2.1.2.2.2.2.1, ()), v8.1.2.2.2.1, ()), (0 : Int), ())
   | false =>
    some ((v8.1.1, v8.1.2.1, (v8.1.2.2.1.1, v8.1.2.2.1.2.1, v8.1.2.2.1.2.2.1, v8.1.2.2.1.2.2.2.1, v8.1.2.2.1.2.2.2.2.1, ()), v8.1.2.2.2.1, ()), (0 : Int), ())
noncomputable def S_s_l07Open : Spec := ⟨(.pair (.list (.int .i64)) (.pair (.int .i64) (.pair TState .unit))), (.pair (.pair (.int .i64) (.pair (.int .i64) (.pair TState (.pair (.own 2 (.int .i64)) .unit)))) (.pair (.int .i64) .unit)), .unit, rfl, s_l07Open⟩
noncomputable def σ_s_l07Open : FuncId → Option Spec := sig [(91, S_s_l07Number), (92, S_s_l06Frame), (93, S_s_l06State)]
theorem σok_s_l07Open : ∀ f s, σ_s_l07Open f = some s → FnOK G0 Tryz.prog f s := sig_ok (l := [(91, S_s_l07Number), (92, S_s_l06Frame), (93, S_s_l06State)]) ⟨ok_s_l07Number, ok_s_l06Frame, ok_s_l06State, trivial⟩
noncomputable def Λ_s_l07Open : Nat → Option LSpec := lkp (loopList (bodyOf Tryz.f69)) []
theorem ok_s_l07Open : FnOK G0 Tryz.prog 69 S_s_l07Open := fn_ok (Λ := Λ_s_l07Open) tab0 σok_s_l07Open Tryz.func69 (by kernel_rfl) (show Tryz.f69.body = some (bodyOf Tryz.f69) by kernel_rfl) [] rfl (by kernel_rfl) (by exact trivial) (by kernel_rfl)
  fun x y h => (show execFn Γ0 E0 σ_s_l07Open Λ_s_l07Open Tryz.f69 S_s_l07Open x = s_l07Open x by kernel_rfl).trans h

noncomputable def s_FitsDescriptor (x : Ty.T (.pair TDescriptor (.pair TFrame .unit))) : Option (Ty.T (.pair .bool .unit)) :=
match s_IsDescriptor ((x.1.1, x.1.2.1, x.1.2.2.1, x.1.2.2.2.1, x.1.2.2.2.2.1, ()), ()) with
| none => none
| some v1 =>
match v1.1 with
| true =>
 match s_IsFrame ((x.2.1.1, x.2.1.2.1, (x.2.1.2.2.1.1, x.2.1.2.2.1.2.1, x.2.1.2.2.1.2.2.1, x.2.1.2.2.1.2.2.2.1, x.2.1.2.2.1.2.2.2.2.1, ()), x.2.1.2.2.2.1, ()), ()) with
 | none => none
 | some v2 =>
 match v2.1 with
 | true =>
  match (x.2.1.1 == x.1.2.1) with
  | true =>
   match ((x.2.1.2.2.2.1.length : Int) == x.1.2.2.1) with
   | true =>
    match x.1.2.2.2.2.1 with
    | true =>
     some (true, ())
    | false =>
     some ((x.2.1.2.1 == (0 : Int)), ())
   | false =>
    some (false, ())
  | false =>
   some (false, ())
 | false =>
  some (false, ())
| false =>
 some (false, ())
noncomputable def S_s_FitsDescriptor : Spec := ⟨(.pair TDescriptor (.pair TFrame .unit)), (.pair .bool .unit), .unit, rfl, s_FitsDescriptor⟩
noncomputable def σ_s_FitsDescriptor : FuncId → Option Spec := sig [(94, S_s_IsDescriptor), (95, S_s_IsFrame)]
theorem σok_s_FitsDescriptor : ∀ f s, σ_s_FitsDescriptor f = some s → FnOK G0 Tryz.prog f s := sig_ok (l := [(94, S_s_IsDescriptor), (95, S_s_IsFrame)]) ⟨ok_s_IsDescriptor, ok_s_IsFrame, trivial⟩
noncomputable def Λ_s_FitsDescriptor : Nat → Option LSpec := lkp (loopList (bodyOf Tryz.f70)) []
theorem ok_s_FitsDescriptor : FnOK G0 Tryz.prog 70 S_s_FitsDescriptor := fn_ok (Λ := Λ_s_FitsDescriptor) tab0 σok_s_FitsDescriptor Tryz.func70 (by kernel_rfl) (show Tryz.f70.body = some (bodyOf Tryz.f70) by kernel_rfl) [] rfl (by kernel_rfl) (by exact trivial) (by kernel_rfl)
  fun x y h => (show execFn Γ0 E0 σ_s_FitsDescriptor Λ_s_FitsDescriptor Tryz.f70 S_s_FitsDescriptor x = s_FitsDescriptor x by kernel_rfl).trans h

noncomputable def s_l15Desc (x : Ty.T (.pair TMedl (.pair TState .unit))) : Option (Ty.T (.pair TDescriptor .unit)) :=
match s_l12Find (x.1.2.2.2.1, x.2.1.2.1, x.2.1.2.2.1, x.2.1.2.2.2.1, ()) with
| none => none
| some v1 =>
onSome (idx x.1.2.2.2.1 v1.1) fun v2 =>
some ((v2.2.2.2.1.1, v2.2.2.2.1.2.1, v2.2.2.2.1.2.2.1, v2.2.2.2.1.2.2.2.1, v2.2.2.2.1.2.2.2.2.1, ()), ())
noncomputable def S_s_l15Desc : Spec := ⟨(.pair TMedl (.pair TState .unit)), (.pair TDescriptor .unit), .unit, rfl, s_l15Desc⟩
noncomputable def σ_s_l15Desc : FuncId → Option Spec := sig [(96, S_s_l12Find)]
theorem σok_s_l15Desc : ∀ f s, σ_s_l15Desc f = some s → FnOK G0 Tryz.prog f s := sig_ok (l := [(96, S_s_l12Find)]) ⟨ok_s_l12Find, trivial⟩
noncomputable def Λ_s_l15Desc : Nat → Option LSpec := lkp (loopList (bodyOf Tryz.f71)) []
theorem ok_s_l15Desc : FnOK G0 Tryz.prog 71 S_s_l15Desc := fn_ok (Λ := Λ_s_l15Desc) tab0 σok_s_l15Desc Tryz.func71 (by kernel_rfl) (show Tryz.f71.body = some (bodyOf Tryz.f71) by kernel_rfl) [] rfl (by kernel_rfl) (by exact trivial) (by kernel_rfl)
  fun x y h => (show execFn Γ0 E0 σ_s_l15Desc Λ_s_l15Desc Tryz.f71 S_s_l15Desc x = s_l15Desc x by kernel_rfl).trans h

noncomputable def s_l28Bytes (x : Ty.T (.pair TMedl (.pair TState (.pair (.list (.int .i64)) .unit)))) : Option (Ty.T (.pair (.pair (.int .i64) (.pair (.pair (.int .i64) (.pair (.int .i64) (.pair TState (.pair (.own 2 (.int .i64)) .unit)))) .unit)) (.pair (.int .i64) .unit))) :=
match s_l07Open (x.2.2.1, x.1.1, (x.2.1.1, x.2.1.2.1, x.2.1.2.2.1, x.2.1.2.2.2.1, x.2.1.2.2.2.2.1, ()), ()) with
| none => none
| some v1 =>
match (v1.2.1 == (0 : Int)) with
| true =>
 match s_l15Desc ((x.1.1, x.1.2.1, x.1.2.2.1, x.1.2.2.2.1, ()), (x.2.1.1, x.2.1.2.1, x.2.1.2.2.1, x.2.1.2.2.2.1, x.2.1.2.2.2.2.1, ()), ()) with
 | none => none
 | some v2 =>
 match s_FitsDescriptor (v2.1, (v1.1.1, v1.1.2.1, (v1.1.2.2.1.1, v1.1.2.2.1.2.1, v1.1.2.2.1.2.2.1, v1.1.2.2.1.2.2.2.1, v1.1.2.2.1.2.2.2.2.1, ()), v1.1.2.2.2.1, ()), ()) with
 | none => none
 | some v3 =>
 match (!v3.1) with
 | true =>
  match ((5 : Int) != (0 : Int)) with
  | true =>
   some (((2 : Int), ((0 : Int), (0 : Int), ((0 : Int), (0 : Int), (0 : Int), (0 : Int), (0 : Int), ()), [], ()), ()), (5 : Int), ())
  | false =>
   some (((3 : Int), (v1.1.1, v1.1.2.1, (v1.1.2.2.1.1, v1.1.2.2.1.2.1, v1.1.2.2.1.2.2.1, v1.1.2.2.1.2.2.2.1, v1.1.2.2.1.2.2.2.2.1, ()), v1.1.2.2.2.1, ()), ()), (0 : Int), ())
 | false =>
  match (v1.2.1 != (0 : Int)) with
  | true =>
   some (((2 : Int), ((0 : Int), (0 : Int), ((0 : Int), (0 : Int), (0 : Int), (0 : Int), (0 : Int), ()), [], ()), ()), v1.2.1, ())
  | false =>
   some (((3 : Int), (v1.1.1, v1.1.2.1, (v1.1.2.2.1.1, v1.1.2.2.1.2.1, v1.1.2.2.1.2.2.1, v1.1.2.2.1.2.2.2.1, v1.1.2.2.1.2.2.2.2.1, ()), v1.1.2.2.2.1, ()), ()), (0 : Int), ())
| false =>
 match (v1.2.1 != (0 : Int)) with
 | true =>
  some (((2 : Int), ((0 : Int), (0 : Int), ((0 : Int), (0 : Int), (0 : Int), (0 : Int), (0 : Int), ()), [], ()), ()), v1.2.1, ())
 | false =>
  some (((3 : Int), (v1.1.1, v1.1.2.1, (v1.1.2.2.1.1, v1.1.2.2.1.2.1, v1.1.2.2.1.2.2.1, v1.1.2.2.1.2.2.2.1, v1.1.2.2.1.2.2.2.2.1, ()), v1.1.2.2.2.1, ()), ()), (0 : Int), ())
noncomputable def S_s_l28Bytes : Spec := ⟨(.pair TMedl (.pair TState (.pair (.list (.int .i64)) .unit))), (.pair (.pair (.int .i64) (.pair (.pair (.int .i64) (.pair (.int .i64) (.pair TState (.pair (.own 2 (.int .i64)) .unit)))) .unit)) (.pair (.int .i64) .unit)), .unit, rfl, s_l28Bytes⟩
noncomputable def σ_s_l28Bytes : FuncId → Option Spec := sig [(69, S_s_l07Open), (70, S_s_FitsDescriptor), (71, S_s_l15Desc)]
theorem σok_s_l28Bytes : ∀ f s, σ_s_l28Bytes f = some s → FnOK G0 Tryz.prog f s := sig_ok (l := [(69, S_s_l07Open), (70, S_s_FitsDescriptor), (71, S_s_l15Desc)]) ⟨ok_s_l07Open, ok_s_FitsDescriptor, ok_s_l15Desc, trivial⟩
noncomputable def Λ_s_l28Bytes : Nat → Option LSpec := lkp (loopList (bodyOf Tryz.f47)) []
theorem ok_s_l28Bytes : FnOK G0 Tryz.prog 47 S_s_l28Bytes := fn_ok (Λ := Λ_s_l28Bytes) tab0 σok_s_l28Bytes Tryz.func47 (by kernel_rfl) (show Tryz.f47.body = some (bodyOf Tryz.f47) by kernel_rfl) [] rfl (by kernel_rfl) (by exact trivial) (by kernel_rfl)
  fun x y h => (show execFn Γ0 E0 σ_s_l28Bytes Λ_s_l28Bytes Tryz.f47 S_s_l28Bytes x = s_l28Bytes x by kernel_rfl).trans h

noncomputable def s_l28Samples (x : Ty.T (.pair TMedl (.pair TState (.pair (.list (.int .i64)) .unit)))) : Option (Ty.T (.pair (.pair (.int .i64) (.pair (.pair (.int .i64) (.pair (.int .i64) (.pair TState (.pair (.own 2 (.int .i64)) .unit)))) .unit)) (.pair (.int .i64) .unit))) :=
match s_DecodeSamples (x.2.2.1, ()) with
| none => none
| some v1 =>
match (v1.2.1 == (0 : Int)) with
| true =>
 match s_l28Bytes ((x.1.1, x.1.2.1, x.1.2.2.1, x.1.2.2.2.1, ()), (x.2.1.1, x.2.1.2.1, x.2.1.2.2.1, x.2.1.2.2.2.1, x.2.1.2.2.2.2.1, ()), v1.1, ()) with
 | none => none
 | some v2 =>
 some ((v2.1.1, (v2.1.2.1.1, v2.1.2.1.2.1, (v2.1.2.1.2.2.1.1, v2.1.2.1.2.2.1.2.1, v2.1.2.1.2.2.1.2.2.1, v2.1.2.1.2.2.1.2.2.2.1, v2.1.2.1.2.2.1.2.2.2.2.1, ()), v2.1.2.1.2.2.2.1, ()), ()), v2.2.1, ())
| false =>
 match (v1.2.1 == (4 : Int)) with
 | true =>
  some (((0 : Int), ((0 : Int), (0 : Int), ((0 : Int), (0 : Int), (0 : Int), (0 : Int), (0 : Int), ()), [], ()), ()), v1.2.1, ())
 | false =>
  some (((1 : Int), ((0 : Int), (0 : Int), ((0 : Int), (0 : Int), (0 : Int), (0 : Int), (0 : Int), ()), [], ()), ()), v1.2.1, ())
noncomputable def S_s_l28Samples : Spec := ⟨(.pair TMedl (.pair TState (.pair (.list (.int .i64)) .unit))), (.pair (.pair (.int .i64) (.pair (.pair (.int .i64) (.pair (.int .i64) (.pair TState (.pair (.own 2 (.int .i64)) .unit)))) .unit)) (.pair (.int .i64) .unit)), .unit, rfl, s_l28Samples⟩
noncomputable def σ_s_l28Samples : FuncId → Option Spec := sig [(46, S_s_DecodeSamples), (47, S_s_l28Bytes)]
theorem σok_s_l28Samples : ∀ f s, σ_s_l28Samples f = some s → FnOK G0 Tryz.prog f s := sig_ok (l := [(46, S_s_DecodeSamples), (47, S_s_l28Bytes)]) ⟨ok_s_DecodeSamples, ok_s_l28Bytes, trivial⟩
noncomputable def Λ_s_l28Samples : Nat → Option LSpec := lkp (loopList (bodyOf Tryz.f24)) []
theorem ok_s_l28Samples : FnOK G0 Tryz.prog 24 S_s_l28Samples := fn_ok (Λ := Λ_s_l28Samples) tab0 σok_s_l28Samples Tryz.func24 (by kernel_rfl) (show Tryz.f24.body = some (bodyOf Tryz.f24) by kernel_rfl) [] rfl (by kernel_rfl) (by exact trivial) (by kernel_rfl)
  fun x y h => (show execFn Γ0 E0 σ_s_l28Samples Λ_s_l28Samples Tryz.f24 S_s_l28Samples x = s_l28Samples x by kernel_rfl).trans h

noncomputable def s_ReceiveChannel (x : Ty.T (.pair TMedl (.pair TState (.pair (.list (.int .i64)) .unit)))) : Option (Ty.T (.pair (.pair (.int .i64) (.pair (.pair (.int .i64) (.pair (.int .i64) (.pair TState (.pair (.own 2 (.int .i64)) .unit)))) .unit)) (.pair (.int .i64) .unit))) :=
match s_l28Code ((x.1.1, x.1.2.1, x.1.2.2.1, x.1.2.2.2.1, ()), (x.2.1.1, x.2.1.2.1, x.2.1.2.2.1, x.2.1.2.2.2.1, x.2.1.2.2.2.2.1, ()), x.2.2.1, ()) with
| none => none
| some v1 =>
match (v1.1 != (0 : Int)) with
| true =>
 some (((0 : Int), ((0 : Int), (0 : Int), ((0 : Int), (0 : Int), (0 : Int), (0 : Int), (0 : Int), ()), [], ()), ()), v1.1, ())
| false =>
 match s_l28Samples ((x.1.1, x.1.2.1, x.1.2.2.1, x.1.2.2.2.1, ()), (x.2.1.1, x.2.1.2.1, x.2.1.2.2.1, x.2.1.2.2.2.1, x.2.1.2.2.2.2.1, ()), x.2.2.1, ()) with
 | none => none
 | some v2 =>
 some ((v2.1.1, (v2.1.2.1.1, v2.1.2.1.2.1, (v2.1.2.1.2.2.1.1, v2.1.2.1.2.2.1.2.1, v2.1.2.1.2.2.1.2.2.1, v2.1.2.1.2.2.1.2.2.2.1, v2.1.2.1.2.2.1.2.2.2.2.1, ()), v2.1.2.1.2.2.2.1, ()), ()), (0 : Int), ())
noncomputable def S_s_ReceiveChannel : Spec := ⟨(.pair TMedl (.pair TState (.pair (.list (.int .i64)) .unit))), (.pair (.pair (.int .i64) (.pair (.pair (.int .i64) (.pair (.int .i64) (.pair TState (.pair (.own 2 (.int .i64)) .unit)))) .unit)) (.pair (.int .i64) .unit)), .unit, rfl, s_ReceiveChannel⟩
noncomputable def σ_s_ReceiveChannel : FuncId → Option Spec := sig [(23, S_s_l28Code), (24, S_s_l28Samples)]
theorem σok_s_ReceiveChannel : ∀ f s, σ_s_ReceiveChannel f = some s → FnOK G0 Tryz.prog f s := sig_ok (l := [(23, S_s_l28Code), (24, S_s_l28Samples)]) ⟨ok_s_l28Code, ok_s_l28Samples, trivial⟩
noncomputable def Λ_s_ReceiveChannel : Nat → Option LSpec := lkp (loopList (bodyOf Tryz.f6)) []
theorem ok_s_ReceiveChannel : FnOK G0 Tryz.prog 6 S_s_ReceiveChannel := fn_ok (Λ := Λ_s_ReceiveChannel) tab0 σok_s_ReceiveChannel Tryz.func6 (by kernel_rfl) (show Tryz.f6.body = some (bodyOf Tryz.f6) by kernel_rfl) [] rfl (by kernel_rfl) (by exact trivial) (by kernel_rfl)
  fun x y h => (show execFn Γ0 E0 σ_s_ReceiveChannel Λ_s_ReceiveChannel Tryz.f6 S_s_ReceiveChannel x = s_ReceiveChannel x by kernel_rfl).trans h

noncomputable def l_toNodeInfo (x : Ty.T (.pair TNodeInfo .unit)) : Option (Ty.T (.pair TNodeInfo .unit)) :=
some ((x.1.1, x.1.2.1, x.1.2.2.1, x.1.2.2.2.1, ()), ())
noncomputable def S_l_toNodeInfo : Spec := ⟨(.pair TNodeInfo .unit), (.pair TNodeInfo .unit), .unit, rfl, l_toNodeInfo⟩
noncomputable def σ_l_toNodeInfo : FuncId → Option Spec := sig []
theorem σok_l_toNodeInfo : ∀ f s, σ_l_toNodeInfo f = some s → FnOK G0 Tryz.prog f s := sig_ok (l := []) trivial
noncomputable def Λ_l_toNodeInfo : Nat → Option LSpec := lkp (loopList (bodyOf Tryz.f48)) []
theorem ok_l_toNodeInfo : FnOK G0 Tryz.prog 48 S_l_toNodeInfo := fn_ok (Λ := Λ_l_toNodeInfo) tab0 σok_l_toNodeInfo Tryz.func48 (by kernel_rfl) (show Tryz.f48.body = some (bodyOf Tryz.f48) by kernel_rfl) [] rfl (by kernel_rfl) (by exact trivial) (by kernel_rfl)
  fun x y h => (show execFn Γ0 E0 σ_l_toNodeInfo Λ_l_toNodeInfo Tryz.f48 S_l_toNodeInfo x = l_toNodeInfo x by kernel_rfl).trans h

noncomputable def b_l_toNodeInfoS_3 (x : (Ty.T (.pair (.list TNodeInfo) (.pair (.own 82 TNodeInfo) (.pair (.int .i64) .unit))))) : Option ((Ty.T (.pair (.list TNodeInfo) (.pair (.own 82 TNodeInfo) (.pair (.int .i64) .unit)))) ⊕ ((Ty.T (.pair (.own 82 TNodeInfo) .unit)) ⊕ (Ty.T .unit))) :=
match (decide (x.2.2.1 < (x.1.length : Int))) with
| true =>
 onSome (idx x.1 x.2.2.1) fun v1 =>
 match l_toNodeInfo (v1, ()) with
 | none => none
 | some v2 =>
 onSome (idx x.2.1 x.2.2.1) fun _ =>
 match x.2.1[x.2.2.1.toNat]? with
 | none => none
 | some v4 =>
 some (.inl (x.1, (x.2.1.set x.2.2.1.toNat (v2.1.1, v2.1.2.1, v2.1.2.2.1, v2.1.2.2.2.1, ())), (IntKind.i64.wrap (x.2.2.1 + (1 : Int))), ()))
| false =>
 some (.inr (.inl (x.2.1, ())))
noncomputable def l_toNodeInfoS (x : Ty.T (.pair (.list TNodeInfo) .unit)) : Option (Ty.T (.pair (.own 82 TNodeInfo) .unit)) :=
if 0 ≤ (x.1.length : Int) ∧ (x.1.length : Int) ≤ (x.1.length : Int) then
 room ((x.1.length : Int).toNat) (
  match loopL b_l_toNodeInfoS_3 (x.1, (List.replicate (x.1.length : Int).toNat ((0 : Int), [], (0 : Int), false, ())), (0 : Int), ()) with
  | none => none
  | some (.inl v5) =>
   some (v5.1, ())
  | some (.inr v7) =>
   none)
else none
noncomputable def S_l_toNodeInfoS : Spec := ⟨(.pair (.list TNodeInfo) .unit), (.pair (.own 82 TNodeInfo) .unit), .unit, rfl, l_toNodeInfoS⟩
noncomputable def σ_l_toNodeInfoS : FuncId → Option Spec := sig [(48, S_l_toNodeInfo)]
theorem σok_l_toNodeInfoS : ∀ f s, σ_l_toNodeInfoS f = some s → FnOK G0 Tryz.prog f s := sig_ok (l := [(48, S_l_toNodeInfo)]) ⟨ok_l_toNodeInfo, trivial⟩
noncomputable def Λ_l_toNodeInfoS : Nat → Option LSpec := lkp (loopList (bodyOf Tryz.f25)) [⟨[0, 3, 4], (.pair (.list TNodeInfo) (.pair (.own 82 TNodeInfo) (.pair (.int .i64) .unit))), 0, [3], (.pair (.own 82 TNodeInfo) .unit), [], .unit, loopL b_l_toNodeInfoS_3⟩]
theorem lok_l_toNodeInfoS_3 (x) : codeK Γ0 E0 σ_l_toNodeInfoS Λ_l_toNodeInfoS Tryz.f25.ntmps (nthLoop Tryz.f25 0) (mkF Tryz.f25.ntmps [0, 3, 4] (.pair (.list TNodeInfo) (.pair (.own 82 TNodeInfo) (.pair (.int .i64) .unit))) x) (readK σ_l_toNodeInfoS Tryz.f25.ntmps [0, 3, 4] (.pair (.list TNodeInfo) (.pair (.own 82 TNodeInfo) (.pair (.int .i64) .unit))) 0 [3] (.pair (.own 82 TNodeInfo) .unit) [] .unit) = b_l_toNodeInfoS_3 x := by kernel_rfl
theorem ok_l_toNodeInfoS : FnOK G0 Tryz.prog 25 S_l_toNodeInfoS := fn_ok (Λ := Λ_l_toNodeInfoS) tab0 σok_l_toNodeInfoS Tryz.func25 (by kernel_rfl) (show Tryz.f25.body = some (bodyOf Tryz.f25) by kernel_rfl) [⟨[0, 3, 4], (.pair (.list TNodeInfo) (.pair (.own 82 TNodeInfo) (.pair (.int .i64) .unit))), 0, [3], (.pair (.own 82 TNodeInfo) .unit), [], .unit, loopL b_l_toNodeInfoS_3⟩] rfl (by kernel_rfl) (by exact ⟨loop_LOK (lok_l_toNodeInfoS_3), trivial⟩) (by kernel_rfl)
  fun x y h => (show execFn Γ0 E0 σ_l_toNodeInfoS Λ_l_toNodeInfoS Tryz.f25 S_l_toNodeInfoS x = l_toNodeInfoS x by kernel_rfl).trans h

noncomputable def b_l_toInt64S_3 (x : (Ty.T (.pair (.list (.int .i64)) (.pair (.own 2 (.int .i64)) (.pair (.int .i64) .unit))))) : Option ((Ty.T (.pair (.list (.int .i64)) (.pair (.own 2 (.int .i64)) (.pair (.int .i64) .unit)))) ⊕ ((Ty.T (.pair (.own 2 (.int .i64)) .unit)) ⊕ (Ty.T .unit))) :=
match (decide (x.2.2.1 < (x.1.length : Int))) with
| true =>
 onSome (idx x.1 x.2.2.1) fun v1 =>
 onSome (idx x.2.1 x.2.2.1) fun _ =>
 match x.2.1[x.2.2.1.toNat]? with
 | none => none
 | some v3 =>
 some (.inl (x.1, (x.2.1.set x.2.2.1.toNat v1), (IntKind.i64.wrap (x.2.2.1 + (1 : Int))), ()))
| false =>
 some (.inr (.inl (x.2.1, ())))
noncomputable def l_toInt64S (x : Ty.T (.pair (.list (.int .i64)) .unit)) : Option (Ty.T (.pair (.own 2 (.int .i64)) .unit)) :=
if 0 ≤ (x.1.length : Int) ∧ (x.1.length : Int) ≤ (x.1.length : Int) then
 room ((x.1.length : Int).toNat) (
  match loopL b_l_toInt64S_3 (x.1, (List.replicate (x.1.length : Int).toNat (0 : Int)), (0 : Int), ()) with
  | none => none
  | some (.inl v4) =>
   some (v4.1, ())
  | some (.inr v6) =>
   none)
else none
noncomputable def S_l_toInt64S : Spec := ⟨(.pair (.list (.int .i64)) .unit), (.pair (.own 2 (.int .i64)) .unit), .unit, rfl, l_toInt64S⟩
noncomputable def σ_l_toInt64S : FuncId → Option Spec := sig []
theorem σok_l_toInt64S : ∀ f s, σ_l_toInt64S f = some s → FnOK G0 Tryz.prog f s := sig_ok (l := []) trivial
noncomputable def Λ_l_toInt64S : Nat → Option LSpec := lkp (loopList (bodyOf Tryz.f9)) [⟨[0, 3, 4], (.pair (.list (.int .i64)) (.pair (.own 2 (.int .i64)) (.pair (.int .i64) .unit))), 0, [3], (.pair (.own 2 (.int .i64)) .unit), [], .unit, loopL b_l_toInt64S_3⟩]
theorem lok_l_toInt64S_3 (x) : codeK Γ0 E0 σ_l_toInt64S Λ_l_toInt64S Tryz.f9.ntmps (nthLoop Tryz.f9 0) (mkF Tryz.f9.ntmps [0, 3, 4] (.pair (.list (.int .i64)) (.pair (.own 2 (.int .i64)) (.pair (.int .i64) .unit))) x) (readK σ_l_toInt64S Tryz.f9.ntmps [0, 3, 4] (.pair (.list (.int .i64)) (.pair (.own 2 (.int .i64)) (.pair (.int .i64) .unit))) 0 [3] (.pair (.own 2 (.int .i64)) .unit) [] .unit) = b_l_toInt64S_3 x := by kernel_rfl
theorem ok_l_toInt64S : FnOK G0 Tryz.prog 9 S_l_toInt64S := fn_ok (Λ := Λ_l_toInt64S) tab0 σok_l_toInt64S Tryz.func9 (by kernel_rfl) (show Tryz.f9.body = some (bodyOf Tryz.f9) by kernel_rfl) [⟨[0, 3, 4], (.pair (.list (.int .i64)) (.pair (.own 2 (.int .i64)) (.pair (.int .i64) .unit))), 0, [3], (.pair (.own 2 (.int .i64)) .unit), [], .unit, loopL b_l_toInt64S_3⟩] rfl (by kernel_rfl) (by exact ⟨loop_LOK (lok_l_toInt64S_3), trivial⟩) (by kernel_rfl)
  fun x y h => (show execFn Γ0 E0 σ_l_toInt64S Λ_l_toInt64S Tryz.f9 S_l_toInt64S x = l_toInt64S x by kernel_rfl).trans h

noncomputable def l_toModeInfo (x : Ty.T (.pair TModeInfo .unit)) : Option (Ty.T (.pair (.pair (.int .i64) (.pair (.int .i64) (.pair (.own 2 (.int .i64)) .unit))) .unit)) :=
match l_toInt64S (x.1.2.2.1, ()) with
| none => none
| some v1 =>
some ((x.1.1, x.1.2.1, v1.1, ()), ())
noncomputable def S_l_toModeInfo : Spec := ⟨(.pair TModeInfo .unit), (.pair (.pair (.int .i64) (.pair (.int .i64) (.pair (.own 2 (.int .i64)) .unit))) .unit), .unit, rfl, l_toModeInfo⟩
noncomputable def σ_l_toModeInfo : FuncId → Option Spec := sig [(9, S_l_toInt64S)]
theorem σok_l_toModeInfo : ∀ f s, σ_l_toModeInfo f = some s → FnOK G0 Tryz.prog f s := sig_ok (l := [(9, S_l_toInt64S)]) ⟨ok_l_toInt64S, trivial⟩
noncomputable def Λ_l_toModeInfo : Nat → Option LSpec := lkp (loopList (bodyOf Tryz.f49)) []
theorem ok_l_toModeInfo : FnOK G0 Tryz.prog 49 S_l_toModeInfo := fn_ok (Λ := Λ_l_toModeInfo) tab0 σok_l_toModeInfo Tryz.func49 (by kernel_rfl) (show Tryz.f49.body = some (bodyOf Tryz.f49) by kernel_rfl) [] rfl (by kernel_rfl) (by exact trivial) (by kernel_rfl)
  fun x y h => (show execFn Γ0 E0 σ_l_toModeInfo Λ_l_toModeInfo Tryz.f49 S_l_toModeInfo x = l_toModeInfo x by kernel_rfl).trans h

noncomputable def b_l_toModeInfoS_3 (x : (Ty.T (.pair (.list TModeInfo) (.pair (.own 84 (.pair (.int .i64) (.pair (.int .i64) (.pair (.own 2 (.int .i64)) .unit)))) (.pair (.int .i64) .unit))))) : Option ((Ty.T (.pair (.list TModeInfo) (.pair (.own 84 (.pair (.int .i64) (.pair (.int .i64) (.pair (.own 2 (.int .i64)) .unit)))) (.pair (.int .i64) .unit)))) ⊕ ((Ty.T (.pair (.own 84 (.pair (.int .i64) (.pair (.int .i64) (.pair (.own 2 (.int .i64)) .unit)))) .unit)) ⊕ (Ty.T .unit))) :=
match (decide (x.2.2.1 < (x.1.length : Int))) with
| true =>
 onSome (idx x.1 x.2.2.1) fun v1 =>
 match l_toModeInfo (v1, ()) with
 | none => none
 | some v2 =>
 onSome (idx x.2.1 x.2.2.1) fun _ =>
 match x.2.1[x.2.2.1.toNat]? with
 | none => none
 | some v4 =>
 some (.inl (x.1, (x.2.1.set x.2.2.1.toNat (v2.1.1, v2.1.2.1, v2.1.2.2.1, ())), (IntKind.i64.wrap (x.2.2.1 + (1 : Int))), ()))
| false =>
 some (.inr (.inl (x.2.1, ())))
noncomputable def l_toModeInfoS (x : Ty.T (.pair (.list TModeInfo) .unit)) : Option (Ty.T (.pair (.own 84 (.pair (.int .i64) (.pair (.int .i64) (.pair (.own 2 (.int .i64)) .unit)))) .unit)) :=
if 0 ≤ (x.1.length : Int) ∧ (x.1.length : Int) ≤ (x.1.length : Int) then
 room ((x.1.length : Int).toNat) (
  match loopL b_l_toModeInfoS_3 (x.1, (List.replicate (x.1.length : Int).toNat ((0 : Int), (0 : Int), [], ())), (0 : Int), ()) with
  | none => none
  | some (.inl v5) =>
   some (v5.1, ())
  | some (.inr v7) =>
   none)
else none
noncomputable def S_l_toModeInfoS : Spec := ⟨(.pair (.list TModeInfo) .unit), (.pair (.own 84 (.pair (.int .i64) (.pair (.int .i64) (.pair (.own 2 (.int .i64)) .unit)))) .unit), .unit, rfl, l_toModeInfoS⟩
noncomputable def σ_l_toModeInfoS : FuncId → Option Spec := sig [(49, S_l_toModeInfo)]
theorem σok_l_toModeInfoS : ∀ f s, σ_l_toModeInfoS f = some s → FnOK G0 Tryz.prog f s := sig_ok (l := [(49, S_l_toModeInfo)]) ⟨ok_l_toModeInfo, trivial⟩
noncomputable def Λ_l_toModeInfoS : Nat → Option LSpec := lkp (loopList (bodyOf Tryz.f26)) [⟨[0, 3, 4], (.pair (.list TModeInfo) (.pair (.own 84 (.pair (.int .i64) (.pair (.int .i64) (.pair (.own 2 (.int .i64)) .unit)))) (.pair (.int .i64) .unit))), 0, [3], (.pair (.own 84 (.pair (.int .i64) (.pair (.int .i64) (.pair (.own 2 (.int .i64)) .unit)))) .unit), [], .unit, loopL b_l_toModeInfoS_3⟩]
theorem lok_l_toModeInfoS_3 (x) : codeK Γ1 E1 σ_l_toModeInfoS Λ_l_toModeInfoS Tryz.f26.ntmps (nthLoop Tryz.f26 0) (mkF Tryz.f26.ntmps [0, 3, 4] (.pair (.list TModeInfo) (.pair (.own 84 (.pair (.int .i64) (.pair (.int .i64) (.pair (.own 2 (.int .i64)) .unit)))) (.pair (.int .i64) .unit))) x) (readK σ_l_toModeInfoS Tryz.f26.ntmps [0, 3, 4] (.pair (.list TModeInfo) (.pair (.own 84 (.pair (.int .i64) (.pair (.int .i64) (.pair (.own 2 (.int .i64)) .unit)))) (.pair (.int .i64) .unit))) 0 [3] (.pair (.own 84 (.pair (.int .i64) (.pair (.int .i64) (.pair (.own 2 (.int .i64)) .unit)))) .unit) [] .unit) = b_l_toModeInfoS_3 x := by kernel_rfl
theorem ok_l_toModeInfoS : FnOK G0 Tryz.prog 26 S_l_toModeInfoS := fn_ok (Λ := Λ_l_toModeInfoS) tab1 σok_l_toModeInfoS Tryz.func26 (by kernel_rfl) (show Tryz.f26.body = some (bodyOf Tryz.f26) by kernel_rfl) [⟨[0, 3, 4], (.pair (.list TModeInfo) (.pair (.own 84 (.pair (.int .i64) (.pair (.int .i64) (.pair (.own 2 (.int .i64)) .unit)))) (.pair (.int .i64) .unit))), 0, [3], (.pair (.own 84 (.pair (.int .i64) (.pair (.int .i64) (.pair (.own 2 (.int .i64)) .unit)))) .unit), [], .unit, loopL b_l_toModeInfoS_3⟩] rfl (by kernel_rfl) (by exact ⟨loop_LOK (lok_l_toModeInfoS_3), trivial⟩) (by kernel_rfl)
  fun x y h => (show execFn Γ1 E1 σ_l_toModeInfoS Λ_l_toModeInfoS Tryz.f26 S_l_toModeInfoS x = l_toModeInfoS x by kernel_rfl).trans h

noncomputable def l_toDescriptor (x : Ty.T (.pair TDescriptor .unit)) : Option (Ty.T (.pair TDescriptor .unit)) :=
some ((x.1.1, x.1.2.1, x.1.2.2.1, x.1.2.2.2.1, x.1.2.2.2.2.1, ()), ())
noncomputable def S_l_toDescriptor : Spec := ⟨(.pair TDescriptor .unit), (.pair TDescriptor .unit), .unit, rfl, l_toDescriptor⟩
noncomputable def σ_l_toDescriptor : FuncId → Option Spec := sig []
theorem σok_l_toDescriptor : ∀ f s, σ_l_toDescriptor f = some s → FnOK G0 Tryz.prog f s := sig_ok (l := []) trivial
noncomputable def Λ_l_toDescriptor : Nat → Option LSpec := lkp (loopList (bodyOf Tryz.f72)) []
theorem ok_l_toDescriptor : FnOK G0 Tryz.prog 72 S_l_toDescriptor := fn_ok (Λ := Λ_l_toDescriptor) tab0 σok_l_toDescriptor Tryz.func72 (by kernel_rfl) (show Tryz.f72.body = some (bodyOf Tryz.f72) by kernel_rfl) [] rfl (by kernel_rfl) (by exact trivial) (by kernel_rfl)
  fun x y h => (show execFn Γ0 E0 σ_l_toDescriptor Λ_l_toDescriptor Tryz.f72 S_l_toDescriptor x = l_toDescriptor x by kernel_rfl).trans h

noncomputable def l_toSlotInfo (x : Ty.T (.pair TSlotInfo .unit)) : Option (Ty.T (.pair TSlotInfo .unit)) :=
match l_toDescriptor ((x.1.2.2.2.1.1, x.1.2.2.2.1.2.1, x.1.2.2.2.1.2.2.1, x.1.2.2.2.1.2.2.2.1, x.1.2.2.2.1.2.2.2.2.1, ()), ()) with
| none => none
| some v1 =>
some ((x.1.1, x.1.2.1, x.1.2.2.1, (v1.1.1, v1.1.2.1, v1.1.2.2.1, v1.1.2.2.2.1, v1.1.2.2.2.2.1, ()), ()), ())
noncomputable def S_l_toSlotInfo : Spec := ⟨(.pair TSlotInfo .unit), (.pair TSlotInfo .unit), .unit, rfl, l_toSlotInfo⟩
noncomputable def σ_l_toSlotInfo : FuncId → Option Spec := sig [(72, S_l_toDescriptor)]
theorem σok_l_toSlotInfo : ∀ f s, σ_l_toSlotInfo f = some s → FnOK G0 Tryz.prog f s := sig_ok (l := [(72, S_l_toDescriptor)]) ⟨ok_l_toDescriptor, trivial⟩
noncomputable def Λ_l_toSlotInfo : Nat → Option LSpec := lkp (loopList (bodyOf Tryz.f50)) []
theorem ok_l_toSlotInfo : FnOK G0 Tryz.prog 50 S_l_toSlotInfo := fn_ok (Λ := Λ_l_toSlotInfo) tab0 σok_l_toSlotInfo Tryz.func50 (by kernel_rfl) (show Tryz.f50.body = some (bodyOf Tryz.f50) by kernel_rfl) [] rfl (by kernel_rfl) (by exact trivial) (by kernel_rfl)
  fun x y h => (show execFn Γ0 E0 σ_l_toSlotInfo Λ_l_toSlotInfo Tryz.f50 S_l_toSlotInfo x = l_toSlotInfo x by kernel_rfl).trans h

noncomputable def b_l_toSlotInfoS_3 (x : (Ty.T (.pair (.list TSlotInfo) (.pair (.own 89 TSlotInfo) (.pair (.int .i64) .unit))))) : Option ((Ty.T (.pair (.list TSlotInfo) (.pair (.own 89 TSlotInfo) (.pair (.int .i64) .unit)))) ⊕ ((Ty.T (.pair (.own 89 TSlotInfo) .unit)) ⊕ (Ty.T .unit))) :=
match (decide (x.2.2.1 < (x.1.length : Int))) with
| true =>
 onSome (idx x.1 x.2.2.1) fun v1 =>
 match l_toSlotInfo (v1, ()) with
 | none => none
 | some v2 =>
 onSome (idx x.2.1 x.2.2.1) fun _ =>
 match x.2.1[x.2.2.1.toNat]? with
 | none => none
 | some v4 =>
 some (.inl (x.1, (x.2.1.set x.2.2.1.toNat (v2.1.1, v2.1.2.1, v2.1.2.2.1, (v2.1.2.2.2.1.1, v2.1.2.2.2.1.2.1, v2.1.2.2.2.1.2.2.1, v2.1.2.2.2.1.2.2.2.1, v2.1.2.2.2.1.2.2.2.2.1, ()), ())), (IntKind.i64.wrap (x.2.2.1 + (1 : Int))), ()))
| false =>
 some (.inr (.inl (x.2.1, ())))
noncomputable def l_toSlotInfoS (x : Ty.T (.pair (.list TSlotInfo) .unit)) : Option (Ty.T (.pair (.own 89 TSlotInfo) .unit)) :=
if 0 ≤ (x.1.length : Int) ∧ (x.1.length : Int) ≤ (x.1.length : Int) then
 room ((x.1.length : Int).toNat) (
  match loopL b_l_toSlotInfoS_3 (x.1, (List.replicate (x.1.length : Int).toNat ((0 : Int), (0 : Int), (0 : Int), ((0 : Int), (0 : Int), (0 : Int), (0 : Int), false, ()), ())), (0 : Int), ()) with
  | none => none
  | some (.inl v5) =>
   some (v5.1, ())
  | some (.inr v7) =>
   none)
else none
noncomputable def S_l_toSlotInfoS : Spec := ⟨(.pair (.list TSlotInfo) .unit), (.pair (.own 89 TSlotInfo) .unit), .unit, rfl, l_toSlotInfoS⟩
noncomputable def σ_l_toSlotInfoS : FuncId → Option Spec := sig [(50, S_l_toSlotInfo)]
theorem σok_l_toSlotInfoS : ∀ f s, σ_l_toSlotInfoS f = some s → FnOK G0 Tryz.prog f s := sig_ok (l := [(50, S_l_toSlotInfo)]) ⟨ok_l_toSlotInfo, trivial⟩
noncomputable def Λ_l_toSlotInfoS : Nat → Option LSpec := lkp (loopList (bodyOf Tryz.f27)) [⟨[0, 3, 4], (.pair (.list TSlotInfo) (.pair (.own 89 TSlotInfo) (.pair (.int .i64) .unit))), 0, [3], (.pair (.own 89 TSlotInfo) .unit), [], .unit, loopL b_l_toSlotInfoS_3⟩]
theorem lok_l_toSlotInfoS_3 (x) : codeK Γ0 E0 σ_l_toSlotInfoS Λ_l_toSlotInfoS Tryz.f27.ntmps (nthLoop Tryz.f27 0) (mkF Tryz.f27.ntmps [0, 3, 4] (.pair (.list TSlotInfo) (.pair (.own 89 TSlotInfo) (.pair (.int .i64) .unit))) x) (readK σ_l_toSlotInfoS Tryz.f27.ntmps [0, 3, 4] (.pair (.list TSlotInfo) (.pair (.own 89 TSlotInfo) (.pair (.int .i64) .unit))) 0 [3] (.pair (.own 89 TSlotInfo) .unit) [] .unit) = b_l_toSlotInfoS_3 x := by kernel_rfl
theorem ok_l_toSlotInfoS : FnOK G0 Tryz.prog 27 S_l_toSlotInfoS := fn_ok (Λ := Λ_l_toSlotInfoS) tab0 σok_l_toSlotInfoS Tryz.func27 (by kernel_rfl) (show Tryz.f27.body = some (bodyOf Tryz.f27) by kernel_rfl) [⟨[0, 3, 4], (.pair (.list TSlotInfo) (.pair (.own 89 TSlotInfo) (.pair (.int .i64) .unit))), 0, [3], (.pair (.own 89 TSlotInfo) .unit), [], .unit, loopL b_l_toSlotInfoS_3⟩] rfl (by kernel_rfl) (by exact ⟨loop_LOK (lok_l_toSlotInfoS_3), trivial⟩) (by kernel_rfl)
  fun x y h => (show execFn Γ0 E0 σ_l_toSlotInfoS Λ_l_toSlotInfoS Tryz.f27 S_l_toSlotInfoS x = l_toSlotInfoS x by kernel_rfl).trans h

noncomputable def l_toMedl (x : Ty.T (.pair TMedl .unit)) : Option (Ty.T (.pair (.pair (.int .i64) (.pair (.own 82 TNodeInfo) (.pair (.own 84 (.pair (.int .i64) (.pair (.int .i64) (.pair (.own 2 (.int .i64)) .unit)))) (.pair (.own 89 TSlotInfo) .unit)))) .unit)) :=
match l_toNodeInfoS (x.1.2.1, ()) with
| none => none
| some v1 =>
match l_toModeInfoS (x.1.2.2.1, ()) with
| none => none
| some v2 =>
match l_toSlotInfoS (x.1.2.2.2.1, ()) with
| none => none
| some v3 =>
some ((x.1.1, v1.1, v2.1, v3.1, ()), ())
noncomputable def S_l_toMedl : Spec := ⟨(.pair TMedl .unit), (.pair (.pair (.int .i64) (.pair (.own 82 TNodeInfo) (.pair (.own 84 (.pair (.int .i64) (.pair (.int .i64) (.pair (.own 2 (.int .i64)) .unit)))) (.pair (.own 89 TSlotInfo) .unit)))) .unit), .unit, rfl, l_toMedl⟩
noncomputable def σ_l_toMedl : FuncId → Option Spec := sig [(25, S_l_toNodeInfoS), (26, S_l_toModeInfoS), (27, S_l_toSlotInfoS)]
theorem σok_l_toMedl : ∀ f s, σ_l_toMedl f = some s → FnOK G0 Tryz.prog f s := sig_ok (l := [(25, S_l_toNodeInfoS), (26, S_l_toModeInfoS), (27, S_l_toSlotInfoS)]) ⟨ok_l_toNodeInfoS, ok_l_toModeInfoS, ok_l_toSlotInfoS, trivial⟩
noncomputable def Λ_l_toMedl : Nat → Option LSpec := lkp (loopList (bodyOf Tryz.f7)) []
theorem ok_l_toMedl : FnOK G0 Tryz.prog 7 S_l_toMedl := fn_ok (Λ := Λ_l_toMedl) tab1 σok_l_toMedl Tryz.func7 (by kernel_rfl) (show Tryz.f7.body = some (bodyOf Tryz.f7) by kernel_rfl) [] rfl (by kernel_rfl) (by exact trivial) (by kernel_rfl)
  fun x y h => (show execFn Γ1 E1 σ_l_toMedl Λ_l_toMedl Tryz.f7 S_l_toMedl x = l_toMedl x by kernel_rfl).trans h

noncomputable def l_toState (x : Ty.T (.pair TState .unit)) : Option (Ty.T (.pair TState .unit)) :=
some ((x.1.1, x.1.2.1, x.1.2.2.1, x.1.2.2.2.1, x.1.2.2.2.2.1, ()), ())
noncomputable def S_l_toState : Spec := ⟨(.pair TState .unit), (.pair TState .unit), .unit, rfl, l_toState⟩
noncomputable def σ_l_toState : FuncId → Option Spec := sig []
theorem σok_l_toState : ∀ f s, σ_l_toState f = some s → FnOK G0 Tryz.prog f s := sig_ok (l := []) trivial
noncomputable def Λ_l_toState : Nat → Option LSpec := lkp (loopList (bodyOf Tryz.f8)) []
theorem ok_l_toState : FnOK G0 Tryz.prog 8 S_l_toState := fn_ok (Λ := Λ_l_toState) tab0 σok_l_toState Tryz.func8 (by kernel_rfl) (show Tryz.f8.body = some (bodyOf Tryz.f8) by kernel_rfl) [] rfl (by kernel_rfl) (by exact trivial) (by kernel_rfl)
  fun x y h => (show execFn Γ0 E0 σ_l_toState Λ_l_toState Tryz.f8 S_l_toState x = l_toState x by kernel_rfl).trans h

noncomputable def b_i_activeVector_3 (x : (Ty.T (.pair (.int .i64) (.pair (.list TNodeInfo) TCrc)))) : Option ((Ty.T (.pair (.int .i64) (.pair (.list TNodeInfo) TCrc))) ⊕ ((Ty.T (.pair (.int .i64) .unit)) ⊕ (Ty.T .unit))) :=
match (decide (x.2.2.2.1 < x.2.2.1)) with
| true =>
 onSome (idx x.2.1 x.2.2.2.1) fun v1 =>
 match (!v1.2.2.2.1) with
 | true =>
  if v1.1 < 0 then none else
  some (.inl ((bits BinOp.or .i64 x.1 (IntKind.i64.wrap ((1 : Int) * 2 ^ min v1.1.toNat IntKind.i64.bits))), x.2.1, x.2.2.1, (IntKind.i64.wrap (x.2.2.2.1 + (1 : Int))), ()))
 | false =>
  some (.inl (x.1, x.2.1, x.2.2.1, (IntKind.i64.wrap (x.2.2.2.1 + (1 : Int))), ()))
| false =>
 some (.inr (.inl (x.1, ())))
noncomputable def i_activeVector (x : Ty.T (.pair (.list TNodeInfo) .unit)) : Option (Ty.T (.pair (.int .i64) .unit)) :=
match loopL b_i_activeVector_3 ((0 : Int), x.1, (x.1.length : Int), (0 : Int), ()) with
| none => none
| some (.inl v2) =>
 some (v2.1, ())
| some (.inr v4) =>
 none
noncomputable def S_i_activeVector : Spec := ⟨(.pair (.list TNodeInfo) .unit), (.pair (.int .i64) .unit), .unit, rfl, i_activeVector⟩
noncomputable def σ_i_activeVector : FuncId → Option Spec := sig []
theorem σok_i_activeVector : ∀ f s, σ_i_activeVector f = some s → FnOK G0 Tryz.prog f s := sig_ok (l := []) trivial
noncomputable def Λ_i_activeVector : Nat → Option LSpec := lkp (loopList (bodyOf Tryz.f99)) [⟨[3, 6, 7, 8], (.pair (.int .i64) (.pair (.list TNodeInfo) TCrc)), 0, [3], (.pair (.int .i64) .unit), [], .unit, loopL b_i_activeVector_3⟩]
theorem lok_i_activeVector_3 (x) : codeK Γ0 E0 σ_i_activeVector Λ_i_activeVector Tryz.f99.ntmps (nthLoop Tryz.f99 0) (mkF Tryz.f99.ntmps [3, 6, 7, 8] (.pair (.int .i64) (.pair (.list TNodeInfo) TCrc)) x) (readK σ_i_activeVector Tryz.f99.ntmps [3, 6, 7, 8] (.pair (.int .i64) (.pair (.list TNodeInfo) TCrc)) 0 [3] (.pair (.int .i64) .unit) [] .unit) = b_i_activeVector_3 x := by kernel_rfl
theorem ok_i_activeVector : FnOK G0 Tryz.prog 99 S_i_activeVector := fn_ok (Λ := Λ_i_activeVector) tab0 σok_i_activeVector Tryz.func99 (by kernel_rfl) (show Tryz.f99.body = some (bodyOf Tryz.f99) by kernel_rfl) [⟨[3, 6, 7, 8], (.pair (.int .i64) (.pair (.list TNodeInfo) TCrc)), 0, [3], (.pair (.int .i64) .unit), [], .unit, loopL b_i_activeVector_3⟩] rfl (by kernel_rfl) (by exact ⟨loop_LOK (lok_i_activeVector_3), trivial⟩) (by kernel_rfl)
  fun x y h => (show execFn Γ0 E0 σ_i_activeVector Λ_i_activeVector Tryz.f99 S_i_activeVector x = i_activeVector x by kernel_rfl).trans h

noncomputable def i_has (x : Ty.T TCrc) : Option (Ty.T (.pair .bool .unit)) :=
if x.2.1 < 0 then none else
some (((bits BinOp.and .i64 (Int.fdiv x.1 (2 ^ min x.2.1.toNat IntKind.i64.bits)) (1 : Int)) == (1 : Int)), ())
noncomputable def S_i_has : Spec := ⟨TCrc, (.pair .bool .unit), .unit, rfl, i_has⟩
noncomputable def σ_i_has : FuncId → Option Spec := sig []
theorem σok_i_has : ∀ f s, σ_i_has f = some s → FnOK G0 Tryz.prog f s := sig_ok (l := []) trivial
noncomputable def Λ_i_has : Nat → Option LSpec := lkp (loopList (bodyOf Tryz.f138)) []
theorem ok_i_has : FnOK G0 Tryz.prog 138 S_i_has := fn_ok (Λ := Λ_i_has) tab0 σok_i_has Tryz.func138 (by kernel_rfl) (show Tryz.f138.body = some (bodyOf Tryz.f138) by kernel_rfl) [] rfl (by kernel_rfl) (by exact trivial) (by kernel_rfl)
  fun x y h => (show execFn Γ0 E0 σ_i_has Λ_i_has Tryz.f138 S_i_has x = i_has x by kernel_rfl).trans h

noncomputable def i_FirstFault_1 (x : Ty.T (.pair TSlotInfo (.pair (.ptr TMedl) .unit))) : Option (Ty.T (.pair .bool .unit)) :=
match i_activeVector (x.2.1.2.1, ()) with
| none => none
| some v1 =>
match i_has (v1.1, x.1.2.2.2.1.1, ()) with
| none => none
| some v2 =>
some ((!v2.1), ())
noncomputable def S_i_FirstFault_1 : Spec := ⟨(.pair TSlotInfo (.pair (.ptr TMedl) .unit)), (.pair .bool .unit), .unit, rfl, i_FirstFault_1⟩
noncomputable def σ_i_FirstFault_1 : FuncId → Option Spec := sig [(99, S_i_activeVector), (138, S_i_has)]
theorem σok_i_FirstFault_1 : ∀ f s, σ_i_FirstFault_1 f = some s → FnOK G0 Tryz.prog f s := sig_ok (l := [(99, S_i_activeVector), (138, S_i_has)]) ⟨ok_i_activeVector, ok_i_has, trivial⟩
noncomputable def Λ_i_FirstFault_1 : Nat → Option LSpec := lkp (loopList (bodyOf Tryz.f137)) []
theorem ok_i_FirstFault_1 : FnOK G0 Tryz.prog 137 S_i_FirstFault_1 := fn_ok (Λ := Λ_i_FirstFault_1) tab0 σok_i_FirstFault_1 Tryz.func137 (by kernel_rfl) (show Tryz.f137.body = some (bodyOf Tryz.f137) by kernel_rfl) [] rfl (by kernel_rfl) (by exact trivial) (by kernel_rfl)
  fun x y h => (show execFn Γ0 E0 σ_i_FirstFault_1 Λ_i_FirstFault_1 Tryz.f137 S_i_FirstFault_1 x = i_FirstFault_1 x by kernel_rfl).trans h

noncomputable def i_FirstFault_2 (x : Ty.T (.pair TSlotInfo .unit)) : Option (Ty.T (.pair .bool .unit)) :=
match (x.1.2.2.2.1.2.1 == (3 : Int)) with
| true =>
 some ((x.1.1 != (0 : Int)), ())
| false =>
 some (false, ())
noncomputable def S_i_FirstFault_2 : Spec := ⟨(.pair TSlotInfo .unit), (.pair .bool .unit), .unit, rfl, i_FirstFault_2⟩
noncomputable def σ_i_FirstFault_2 : FuncId → Option Spec := sig []
theorem σok_i_FirstFault_2 : ∀ f s, σ_i_FirstFault_2 f = some s → FnOK G0 Tryz.prog f s := sig_ok (l := []) trivial
noncomputable def Λ_i_FirstFault_2 : Nat → Option LSpec := lkp (loopList (bodyOf Tryz.f139)) []
theorem ok_i_FirstFault_2 : FnOK G0 Tryz.prog 139 S_i_FirstFault_2 := fn_ok (Λ := Λ_i_FirstFault_2) tab0 σok_i_FirstFault_2 Tryz.func139 (by kernel_rfl) (show Tryz.f139.body = some (bodyOf Tryz.f139) by kernel_rfl) [] rfl (by kernel_rfl) (by exact trivial) (by kernel_rfl)
  fun x y h => (show execFn Γ0 E0 σ_i_FirstFault_2 Λ_i_FirstFault_2 Tryz.f139 S_i_FirstFault_2 x = i_FirstFault_2 x by kernel_rfl).trans h

noncomputable def i_within (x : Ty.T (.pair (.int .i64) TCrc)) : Option (Ty.T (.pair .bool .unit)) :=
match (decide (x.1 ≥ x.2.1)) with
| true =>
 some ((decide (x.1 ≤ x.2.2.1)), ())
| false =>
 some (false, ())
noncomputable def S_i_within : Spec := ⟨(.pair (.int .i64) TCrc), (.pair .bool .unit), .unit, rfl, i_within⟩
noncomputable def σ_i_within : FuncId → Option Spec := sig []
theorem σok_i_within : ∀ f s, σ_i_within f = some s → FnOK G0 Tryz.prog f s := sig_ok (l := []) trivial
noncomputable def Λ_i_within : Nat → Option LSpec := lkp (loopList (bodyOf Tryz.f140)) []
theorem ok_i_within : FnOK G0 Tryz.prog 140 S_i_within := fn_ok (Λ := Λ_i_within) tab0 σok_i_within Tryz.func140 (by kernel_rfl) (show Tryz.f140.body = some (bodyOf Tryz.f140) by kernel_rfl) [] rfl (by kernel_rfl) (by exact trivial) (by kernel_rfl)
  fun x y h => (show execFn Γ0 E0 σ_i_within Λ_i_within Tryz.f140 S_i_within x = i_within x by kernel_rfl).trans h

noncomputable def strings_Trim (x : Ty.T (.pair .str (.pair .str .unit))) : Option (Ty.T (.pair .str .unit)) := onSome (trimF x.1 x.2.1) fun s => some (s, ())
noncomputable def S_strings_Trim : Spec := ⟨(.pair .str (.pair .str .unit)), (.pair .str .unit), .unit, rfl, strings_Trim⟩
theorem ok_strings_Trim : FnOK G0 Tryz.prog 199 S_strings_Trim := FnOK.str2_str (entersF_of Tryz.func199 (by kernel_rfl) (show Tryz.f199.body = some (bodyOf Tryz.f199) by kernel_rfl)) (fun w s t y _ hy => trim_calls w s t y hy)

noncomputable def i_isNode (x : Ty.T (.pair (.int .i64) .unit)) : Option (Ty.T (.pair .bool .unit)) :=
match i_within (x.1, (0 : Int), (31 : Int), ()) with
| none => none
| some v1 =>
some (v1.1, ())
noncomputable def S_i_isNode : Spec := ⟨(.pair (.int .i64) .unit), (.pair .bool .unit), .unit, rfl, i_isNode⟩
noncomputable def σ_i_isNode : FuncId → Option Spec := sig [(140, S_i_within)]
theorem σok_i_isNode : ∀ f s, σ_i_isNode f = some s → FnOK G0 Tryz.prog f s := sig_ok (l := [(140, S_i_within)]) ⟨ok_i_within, trivial⟩
noncomputable def Λ_i_isNode : Nat → Option LSpec := lkp (loopList (bodyOf Tryz.f200)) []
theorem ok_i_isNode : FnOK G0 Tryz.prog 200 S_i_isNode := fn_ok (Λ := Λ_i_isNode) tab0 σok_i_isNode Tryz.func200 (by kernel_rfl) (show Tryz.f200.body = some (bodyOf Tryz.f200) by kernel_rfl) [] rfl (by kernel_rfl) (by exact trivial) (by kernel_rfl)
  fun x y h => (show execFn Γ0 E0 σ_i_isNode Λ_i_isNode Tryz.f200 S_i_isNode x = i_isNode x by kernel_rfl).trans h

noncomputable def i_IsNodeInfo (x : Ty.T (.pair TNodeInfo .unit)) : Option (Ty.T (.pair .bool .unit)) :=
match (decide ((x.1.2.1.length : Int) ≥ (1 : Int))) with
| true =>
 match (decide ((x.1.2.1.length : Int) ≤ (6 : Int))) with
 | true =>
  match strings_Trim (x.1.2.1, ([97, 98, 99, 100, 101, 102, 103, 104, 105, 106, 107, 108, 109, 110, 111, 112, 113, 114, 115, 116, 117, 118, 119, 120, 121, 122, 48, 49, 50, 51, 52, 53, 54, 55, 56, 57] : List UInt8), ()) with
  | none => none
  | some v1 =>
  match (v1.1 == []) with
  | true =>
   match i_isNode (x.1.1, ()) with
   | none => none
   | some v2 =>
   match v2.1 with
   | true =>
    match i_within (x.1.2.2.1, (0 : Int), (1000 : Int), ()) with
    | none => none
    | some v3 =>
    some (v3.1, ())
   | false =>
    some (false, ())
  | false =>
   some (false, ())
 | false =>
  some (false, ())
| false =>
 some (false, ())
noncomputable def S_i_IsNodeInfo : Spec := ⟨(.pair TNodeInfo .unit), (.pair .bool .unit), .unit, rfl, i_IsNodeInfo⟩
noncomputable def σ_i_IsNodeInfo : FuncId → Option Spec := sig [(140, S_i_within), (199, S_strings_Trim), (200, S_i_isNode)]
theorem σok_i_IsNodeInfo : ∀ f s, σ_i_IsNodeInfo f = some s → FnOK G0 Tryz.prog f s := sig_ok (l := [(140, S_i_within), (199, S_strings_Trim), (200, S_i_isNode)]) ⟨ok_i_within, ok_strings_Trim, ok_i_isNode, trivial⟩
noncomputable def Λ_i_IsNodeInfo : Nat → Option LSpec := lkp (loopList (bodyOf Tryz.f180)) []
theorem ok_i_IsNodeInfo : FnOK G0 Tryz.prog 180 S_i_IsNodeInfo := fn_ok (Λ := Λ_i_IsNodeInfo) tab0 σok_i_IsNodeInfo Tryz.func180 (by kernel_rfl) (show Tryz.f180.body = some (bodyOf Tryz.f180) by kernel_rfl) [] rfl (by kernel_rfl) (by exact trivial) (by kernel_rfl)
  fun x y h => (show execFn Γ0 E0 σ_i_IsNodeInfo Λ_i_IsNodeInfo Tryz.f180 S_i_IsNodeInfo x = i_IsNodeInfo x by kernel_rfl).trans h

noncomputable def b_slices_IndexFunc_NodeInfo_2 (x : (Ty.T (.pair (.list TNodeInfo) (.pair (.fn (.pair TNodeInfo .unit) (.pair .bool .unit)) TCrc)))) : Option ((Ty.T (.pair (.list TNodeInfo) (.pair (.fn (.pair TNodeInfo .unit) (.pair .bool .unit)) TCrc))) ⊕ ((Ty.T .unit) ⊕ (Ty.T (.pair (.int .i64) .unit)))) :=
match (decide (x.2.2.2.1 < x.2.2.1)) with
| true =>
 onSome (idx x.1 x.2.2.2.1) fun v1 =>
 match x.2.1 (v1, ()) with
 | none => none
 | some v2 =>
 match v2.1 with
 | true =>
  some (.inr (.inr (x.2.2.2.1, ())))
 | false =>
  some (.inl (x.1, x.2.1, x.2.2.1, (IntKind.i64.wrap (x.2.2.2.1 + (1 : Int))), ()))
| false =>
 some (.inr (.inl (())))
noncomputable def slices_IndexFunc_NodeInfo (x : Ty.T (.pair (.list TNodeInfo) (.pair (.fn (.pair TNodeInfo .unit) (.pair .bool .unit)) .unit))) : Option (Ty.T (.pair (.int .i64) .unit)) :=
match loopL b_slices_IndexFunc_NodeInfo_2 (x.1, x.2.1, (x.1.length : Int), (0 : Int), ()) with
| none => none
| some (.inl v3) =>
 some ((-1 : Int), ())
| some (.inr v4) =>
 some (v4.1, ())
noncomputable def S_slices_IndexFunc_NodeInfo : Spec := ⟨(.pair (.list TNodeInfo) (.pair (.fn (.pair TNodeInfo .unit) (.pair .bool .unit)) .unit)), (.pair (.int .i64) .unit), .unit, rfl, slices_IndexFunc_NodeInfo⟩
noncomputable def σ_slices_IndexFunc_NodeInfo : FuncId → Option Spec := sig []
theorem σok_slices_IndexFunc_NodeInfo : ∀ f s, σ_slices_IndexFunc_NodeInfo f = some s → FnOK G0 Tryz.prog f s := sig_ok (l := []) trivial
noncomputable def Λ_slices_IndexFunc_NodeInfo : Nat → Option LSpec := lkp (loopList (bodyOf Tryz.f201)) [⟨[0, 1, 7, 8], (.pair (.list TNodeInfo) (.pair (.fn (.pair TNodeInfo .unit) (.pair .bool .unit)) TCrc)), 0, [], .unit, [4], (.pair (.int .i64) .unit), loopL b_slices_IndexFunc_NodeInfo_2⟩]
theorem lok_slices_IndexFunc_NodeInfo_2 (x) : codeK Γ0 E0 σ_slices_IndexFunc_NodeInfo Λ_slices_IndexFunc_NodeInfo Tryz.f201.ntmps (nthLoop Tryz.f201 0) (mkF Tryz.f201.ntmps [0, 1, 7, 8] (.pair (.list TNodeInfo) (.pair (.fn (.pair TNodeInfo .unit) (.pair .bool .unit)) TCrc)) x) (readK σ_slices_IndexFunc_NodeInfo Tryz.f201.ntmps [0, 1, 7, 8] (.pair (.list TNodeInfo) (.pair (.fn (.pair TNodeInfo .unit) (.pair .bool .unit)) TCrc)) 0 [] .unit [4] (.pair (.int .i64) .unit)) = b_slices_IndexFunc_NodeInfo_2 x := by kernel_rfl
theorem ok_slices_IndexFunc_NodeInfo : FnOK G0 Tryz.prog 201 S_slices_IndexFunc_NodeInfo := fn_ok (Λ := Λ_slices_IndexFunc_NodeInfo) tab0 σok_slices_IndexFunc_NodeInfo Tryz.func201 (by kernel_rfl) (show Tryz.f201.body = some (bodyOf Tryz.f201) by kernel_rfl) [⟨[0, 1, 7, 8], (.pair (.list TNodeInfo) (.pair (.fn (.pair TNodeInfo .unit) (.pair .bool .unit)) TCrc)), 0, [], .unit, [4], (.pair (.int .i64) .unit), loopL b_slices_IndexFunc_NodeInfo_2⟩] rfl (by kernel_rfl) (by exact ⟨loop_LOK (lok_slices_IndexFunc_NodeInfo_2), trivial⟩) (by kernel_rfl)
  fun x y h => (show execFn Γ0 E0 σ_slices_IndexFunc_NodeInfo Λ_slices_IndexFunc_NodeInfo Tryz.f201 S_slices_IndexFunc_NodeInfo x = slices_IndexFunc_NodeInfo x by kernel_rfl).trans h

noncomputable def slices_ContainsFunc_NodeInfo (x : Ty.T (.pair (.list TNodeInfo) (.pair (.fn (.pair TNodeInfo .unit) (.pair .bool .unit)) .unit))) : Option (Ty.T (.pair .bool .unit)) :=
match slices_IndexFunc_NodeInfo (x.1, x.2.1, ()) with
| none => none
| some v1 =>
some ((decide (v1.1 ≥ (0 : Int))), ())
noncomputable def S_slices_ContainsFunc_NodeInfo : Spec := ⟨(.pair (.list TNodeInfo) (.pair (.fn (.pair TNodeInfo .unit) (.pair .bool .unit)) .unit)), (.pair .bool .unit), .unit, rfl, slices_ContainsFunc_NodeInfo⟩
noncomputable def σ_slices_ContainsFunc_NodeInfo : FuncId → Option Spec := sig [(201, S_slices_IndexFunc_NodeInfo)]
theorem σok_slices_ContainsFunc_NodeInfo : ∀ f s, σ_slices_ContainsFunc_NodeInfo f = some s → FnOK G0 Tryz.prog f s := sig_ok (l := [(201, S_slices_IndexFunc_NodeInfo)]) ⟨ok_slices_IndexFunc_NodeInfo, trivial⟩
noncomputable def Λ_slices_ContainsFunc_NodeInfo : Nat → Option LSpec := lkp (loopList (bodyOf Tryz.f181)) []
theorem ok_slices_ContainsFunc_NodeInfo : FnOK G0 Tryz.prog 181 S_slices_ContainsFunc_NodeInfo := fn_ok (Λ := Λ_slices_ContainsFunc_NodeInfo) tab0 σok_slices_ContainsFunc_NodeInfo Tryz.func181 (by kernel_rfl) (show Tryz.f181.body = some (bodyOf Tryz.f181) by kernel_rfl) [] rfl (by kernel_rfl) (by exact trivial) (by kernel_rfl)
  fun x y h => (show execFn Γ0 E0 σ_slices_ContainsFunc_NodeInfo Λ_slices_ContainsFunc_NodeInfo Tryz.f181 S_slices_ContainsFunc_NodeInfo x = slices_ContainsFunc_NodeInfo x by kernel_rfl).trans h

noncomputable def i_IsNodeTable_1 (x : Ty.T (.pair TNodeInfo (.pair (.ptr TNodeInfo) .unit))) : Option (Ty.T (.pair .bool .unit)) :=
some ((x.1.2.1 == x.2.1.2.1), ())
noncomputable def S_i_IsNodeTable_1 : Spec := ⟨(.pair TNodeInfo (.pair (.ptr TNodeInfo) .unit)), (.pair .bool .unit), .unit, rfl, i_IsNodeTable_1⟩
noncomputable def σ_i_IsNodeTable_1 : FuncId → Option Spec := sig []
theorem σok_i_IsNodeTable_1 : ∀ f s, σ_i_IsNodeTable_1 f = some s → FnOK G0 Tryz.prog f s := sig_ok (l := []) trivial
noncomputable def Λ_i_IsNodeTable_1 : Nat → Option LSpec := lkp (loopList (bodyOf Tryz.f182)) []
theorem ok_i_IsNodeTable_1 : FnOK G0 Tryz.prog 182 S_i_IsNodeTable_1 := fn_ok (Λ := Λ_i_IsNodeTable_1) tab0 σok_i_IsNodeTable_1 Tryz.func182 (by kernel_rfl) (show Tryz.f182.body = some (bodyOf Tryz.f182) by kernel_rfl) [] rfl (by kernel_rfl) (by exact trivial) (by kernel_rfl)
  fun x y h => (show execFn Γ0 E0 σ_i_IsNodeTable_1 Λ_i_IsNodeTable_1 Tryz.f182 S_i_IsNodeTable_1 x = i_IsNodeTable_1 x by kernel_rfl).trans h

noncomputable def b_i_IsNodeTable_2 (x : (Ty.T (.pair (.list TNodeInfo) (.pair (.list TNodeInfo) TCrc)))) : Option ((Ty.T (.pair (.list TNodeInfo) (.pair (.list TNodeInfo) TCrc))) ⊕ ((Ty.T (.pair (.list TNodeInfo) .unit)) ⊕ (Ty.T (.pair .bool .unit)))) :=
match (decide (x.2.2.2.1 < x.2.2.1)) with
| true =>
 onSome (idx x.2.1 x.2.2.2.1) fun v1 =>
 match i_IsNodeInfo ((v1.1, v1.2.1, v1.2.2.1, v1.2.2.2.1, ()), ()) with
 | none => none
 | some v2 =>
 match (!v2.1) with
 | true =>
  some (.inr (.inr (false, ())))
 | false =>
  match (decide (x.2.2.2.1 > (0 : Int))) with
  | true =>
   onSome (idx x.1 (IntKind.i64.wrap (x.2.2.2.1 - (1 : Int)))) fun v3 =>
   match (decide (v3.1 ≥ v1.1)) with
   | true =>
    some (.inr (.inr (false, ())))
   | false =>
    onSome (bounds x.1.length none (some (.dat (.int .i64) x.2.2.2.1))) fun v4 =>
    match slices_ContainsFunc_NodeInfo ((List.drop v4.1 (List.take v4.2 x.1)), (fun z => i_IsNodeTable_1 (z.1, (v1.1, v1.2.1, v1.2.2.1, v1.2.2.2.1, ()), ())), ()) with
    | none => none
    | some v5 =>
    match v5.1 with
    | true =>
     some (.inr (.inr (false, ())))
    | false =>
     some (.inl (x.1, x.2.1, x.2.2.1, (IntKind.i64.wrap (x.2.2.2.1 + (1 : Int))), ()))
  | false =>
   onSome (bounds x.1.length none (some (.dat (.int .i64) x.2.2.2.1))) fun v6 =>
   match slices_ContainsFunc_NodeInfo ((List.drop v6.1 (List.take v6.2 x.1)), (fun z => i_IsNodeTable_1 (z.1, (v1.1, v1.2.1, v1.2.2.1, v1.2.2.2.1, ()), ())), ()) with
   | none => none
   | some v7 =>
   match v7.1 with
   | true =>
    some (.inr (.inr (false, ())))
   | false =>
    some (.inl (x.1, x.2.1, x.2.2.1, (IntKind.i64.wrap (x.2.2.2.1 + (1 : Int))), ()))
| false =>
 some (.inr (.inl (x.1, ())))
noncomputable def i_IsNodeTable (x : Ty.T (.pair (.list TNodeInfo) .unit)) : Option (Ty.T (.pair .bool .unit)) :=
match loopL b_i_IsNodeTable_2 (x.1, x.1, (x.1.length : Int), (0 : Int), ()) with
| none => none
| some (.inl v8) =>
 match (decide ((v8.1.length : Int) ≥ (1 : Int))) with
 | true =>
  some ((decide ((v8.1.length : Int) ≤ (32 : Int))), ())
 | false =>
  some (false, ())
| some (.inr v9) =>
 some (v9.1, ())
noncomputable def S_i_IsNodeTable : Spec := ⟨(.pair (.list TNodeInfo) .unit), (.pair .bool .unit), .unit, rfl, i_IsNodeTable⟩
noncomputable def σ_i_IsNodeTable : FuncId → Option Spec := sig [(180, S_i_IsNodeInfo), (181, S_slices_ContainsFunc_NodeInfo), (182, S_i_IsNodeTable_1)]
theorem σok_i_IsNodeTable : ∀ f s, σ_i_IsNodeTable f = some s → FnOK G0 Tryz.prog f s := sig_ok (l := [(180, S_i_IsNodeInfo), (181, S_slices_ContainsFunc_NodeInfo), (182, S_i_IsNodeTable_1)]) ⟨ok_i_IsNodeInfo, ok_slices_ContainsFunc_NodeInfo, ok_i_IsNodeTable_1, trivial⟩
noncomputable def Λ_i_IsNodeTable : Nat → Option LSpec := lkp (loopList (bodyOf Tryz.f141)) [⟨[0, 5, 6, 7], (.pair (.list TNodeInfo) (.pair (.list TNodeInfo) TCrc)), 0, [0], (.pair (.list TNodeInfo) .unit), [2], (.pair .bool .unit), loopL b_i_IsNodeTable_2⟩]
theorem lok_i_IsNodeTable_2 (x) : codeK Γ0 E0 σ_i_IsNodeTable Λ_i_IsNodeTable Tryz.f141.ntmps (nthLoop Tryz.f141 0) (mkF Tryz.f141.ntmps [0, 5, 6, 7] (.pair (.list TNodeInfo) (.pair (.list TNodeInfo) TCrc)) x) (readK σ_i_IsNodeTable Tryz.f141.ntmps [0, 5, 6, 7] (.pair (.list TNodeInfo) (.pair (.list TNodeInfo) TCrc)) 0 [0] (.pair (.list TNodeInfo) .unit) [2] (.pair .bool .unit)) = b_i_IsNodeTable_2 x := by kernel_rfl
theorem ok_i_IsNodeTable : FnOK G0 Tryz.prog 141 S_i_IsNodeTable := fn_ok (Λ := Λ_i_IsNodeTable) tab0 σok_i_IsNodeTable Tryz.func141 (by kernel_rfl) (show Tryz.f141.body = some (bodyOf Tryz.f141) by kernel_rfl) [⟨[0, 5, 6, 7], (.pair (.list TNodeInfo) (.pair (.list TNodeInfo) TCrc)), 0, [0], (.pair (.list TNodeInfo) .unit), [2], (.pair .bool .unit), loopL b_i_IsNodeTable_2⟩] rfl (by kernel_rfl) (by exact ⟨loop_LOK (lok_i_IsNodeTable_2), trivial⟩) (by kernel_rfl)
  fun x y h => (show execFn Γ0 E0 σ_i_IsNodeTable Λ_i_IsNodeTable Tryz.f141 S_i_IsNodeTable x = i_IsNodeTable x by kernel_rfl).trans h

end Go.Proofs.YtieajgkcadmchaaGreatDoor
